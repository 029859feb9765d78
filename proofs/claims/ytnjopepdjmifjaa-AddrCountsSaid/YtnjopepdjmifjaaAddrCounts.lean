/- AddrCounts: of any address: how many bits are set is how many of all are; with all turned, as many as were not. -/
import Derived.Test.YtnjopepdjmifjaaRows
import Derived.Test.YtnjopepdjmifjaaRef01
import Derived.Test.YtnjopepdjmifjaaOpen
import Derived.Test.YtnjopepdjmifjaaAwake1
namespace Go.Proofs.Ytnjopepdjmifjaa
open Go.RowKit Pg Go.ChangeShapes Go.WideShapes Go.ChangeAt

theorem count_succ (f : Nat → Bool) (k : Nat) : (List.range (k + 1)).countP f = (List.range k).countP f + (f k).toNat := by
  rw [List.range_succ, List.countP_append]; cases h : f k <;> simp [h]
theorem count_le (f : Nat → Bool) (k : Nat) : (List.range k).countP f ≤ k := by
  have := List.countP_le_length (p := f) (l := List.range k); simpa using this
set_option maxRecDepth 100000 in
theorem addrCounts_walk (x : B) (w : World) : Calls Try.prog 4 #[av x] w (Ret (.bool true) w) := by
  go_enter Try.func4, Try.ntmps4
  go_wp2_with fail
  refine (bits_any x _).mono ?_
  rintro e w1 ⟨g, rfl, hg, hb, p1, rfl⟩
  have HB := Lib.hid hb
  have hl := hb.lt
  simp only [World.size_alloc] at hg
  clear hb
  go_wp2_with fail
  go_loop [3, 5, 9] (fun vn _ vk => ∃ k : Nat, k ≤ 128 ∧ vk = .int .i64 k ∧ vn = .int .i64 ((List.range k).countP (fun i => bt x i) : Nat)) (fun _ _ k => 128 - (intOf k).toNat)
  case atStart => exact ⟨0, by omega, rfl, rfl⟩
  case round =>
    obtain ⟨k, hk, rfl, rfl⟩ := hrel
    have hcl := count_le (fun i => bt x i) k
    by_cases hlt : k < 128
    · have c1 := HB.out.cell k hlt
      have hs := Lib.hid (count_succ (fun i => bt x i) k)
      cases hx : bt x k
      · rw [hx] at c1
        have HX := Lib.hid hx
        clear hx
        go_wp2_with fail
        go_round
        case rel => exact ⟨k + 1, by omega, by go_num, by rw [hs.out]; simp [HX.out]⟩
        case measure => simp [intOf]; omega
      · rw [hx] at c1
        have HX := Lib.hid hx
        clear hx
        go_wp2_with fail
        go_round
        case rel => exact ⟨k + 1, by omega, by go_num, by rw [hs.out]; simp [HX.out]⟩
        case measure => simp [intOf]; omega
    · have hk128 : k = 128 := by omega
      subst hk128
      have ho : (List.range 128).countP (fun i => bt x i) = ones x := rfl
      have h2 : ((ones (~~~ x) : Int) == 128 - (ones x : Int)) = true := by
        rw [ones_not]; have := ones_le x; rw [beq_iff_eq]; omega
      rw [ho] at hcl ⊢
      clear ho hlt hk
      go_wp2_with (first | (go_at_call 18; refine (calls_in (ones_any _ _)).mono ?_; rintro e w1 ⟨rfl, q1, rfl⟩) | (go_at_call 19; refine (calls_in (not_any _ _)).mono ?_; rintro e w1 ⟨rfl, q1, rfl⟩) | (go_at_call 16; refine (calls_in (awake_any _)).mono ?_; rintro e w1 ⟨rfl, q1, rfl⟩))
      go_ret
      exact Ret.of rfl (by simp (maxDischargeDepth := 99))
set_option maxRecDepth 100000 in
theorem addrCounts_lifted (os : Os) (started : os.Started) (H : Type) (enc : TypeId × Value → H) :
    ReturnsInHanded {} Try.checked os 4 .any (Rows.addrCountsSpec.pre6 enc Try.prog Try.f4 Rows.addrCountsRow.domain false) (Rows.addrCountsSpec.post enc Try.prog Try.f4 false true false false) := by
  refine returnsInHanded_of_change (C := Try.checked) own started (by kernel_rfl) Try.func4
    (ChangeSpec.witness6 (enc := enc) (C := Try.checked) false ⟨#[], #[.agg #[.int .u64 0, .int .u64 0]], []⟩ 8 (by kernel_rfl) (by kernel_rfl) (by kernel_rfl) (by kernel_rfl)) ?_
  intro W base args ds gs before hval0 hW hcnd _
  have hval : ∀ (j : Nat) t v, Try.f4.params[j]? = some t → args[j]? = some v → Value.okWide Try.prog W .any base t v := hval0
  have hW' := hW
  obtain ⟨p, q, hA0, hV, rfl, hfz, hnd⟩ := hW
  obtain ⟨rfl, rfl⟩ := trodVars_none hV
  rw [List.append_nil] at hW'
  have hA : DataW.TrodAll enc Try.prog W 0 (fun _ => true) true Try.f4.params.toList args.toList ds p := hA0
  have hA1 := hA
  rw [Try.params4] at hA1 hval
  obtain ⟨v0, vs0, d0, ds0, p0, q0, hargs, rfl, rfl, h0, r0⟩ := trodAll_cons hA1
  obtain ⟨rfl, rfl, rfl⟩ := trodAll_nil r0
  obtain rfl : args = #[v0] := by cases args; simp_all
  obtain ⟨X0, rfl⟩ := open_addr (hval 0 _ v0 rfl rfl) h0
  refine (addrCounts_walk X0 W).mono fun e W' ⟨he, hg⟩ => ?_
  subst he
  exact ⟨_, rfl, post_true laidOut (by rw [Try.params4]; intro t ht; simp at ht; first | (subst ht; exact ⟨by kernel_rfl, of_decide_eq_true (by kernel_rfl)⟩) | (rcases ht with rfl | rfl <;> exact ⟨by kernel_rfl, of_decide_eq_true (by kernel_rfl)⟩) | (rcases ht with rfl | rfl | rfl <;> exact ⟨by kernel_rfl, of_decide_eq_true (by kernel_rfl)⟩) | (rcases ht with rfl | rfl | rfl | rfl <;> exact ⟨by kernel_rfl, of_decide_eq_true (by kernel_rfl)⟩)) rfl hW' hA rfl (trodAll_cons_mk (shut_bool Try.underlying4 _) trodAll_mk0) (Later.kept hg)⟩

theorem addrCounts_holds : Rows.AddrCountsSaid :=
  OpenClaim.holds_of_wide 4 Try.f4 rfl rfl rfl rfl rfl rfl rfl ⟨rfl, rfl, rfl, rfl, rfl⟩ rfl rfl rfl rfl rfl (by kernel_rfl) Try.func4 (by kernel_rfl)
    (of_decide_eq_true (by kernel_rfl)) (by unfold Func.isWrapper; first | (rw [if_pos (by decide +kernel)]; kernel_rfl) | (rw [if_neg (by decide +kernel)]; exact ⟨rfl, rfl⟩))
    (fun os started H enc _ => addrCounts_lifted os started H enc)
#print axioms addrCounts_holds
end Go.Proofs.Ytnjopepdjmifjaa
