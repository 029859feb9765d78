/- AddrWiths: of any address: a bit that was put is there, and no other one has changed; put back, it is the address; of a bit that there is not nothing is. -/
import Derived.Test.YtnjopepdjmifjaaRows
import Derived.Test.YtnjopepdjmifjaaOpen
import Derived.Test.YtnjopepdjmifjaaAwake1
namespace Go.Proofs.Ytnjopepdjmifjaa
open Go.RowKit Pg Go.ChangeShapes Go.WideShapes Go.ChangeAt

theorem setB_bit (x : B) (k : Nat) (b : Bool) (h : k < 128) : bt (setB x k b) k = b := by rw [bt_setB x k b h k h, if_pos rfl]
theorem setB_back (x : B) (k : Nat) (b : Bool) (h : k < 128) : setB (setB x k b) k (bt x k) = x := by
  apply ext_bt; intro j hj
  rw [bt_setB _ _ _ h j hj]
  by_cases c : j = k
  · rw [if_pos c, c]
  · rw [if_neg c, bt_setB _ _ _ h j hj, if_neg c]
theorem countP_one (p : Nat → Bool) (k : Nat) (hp : ∀ j, j ≠ k → p j = false) : ∀ n, (List.range n).countP p ≤ if k < n then 1 else 0
  | 0 => by simp
  | n + 1 => by
    have ih := countP_one p k hp n
    rw [List.range_succ, List.countP_append]
    by_cases c : n = k
    · rw [if_neg (by omega)] at ih
      rw [if_pos (by omega)]
      have : [n].countP p ≤ 1 := by have := List.countP_le_length (p := p) (l := [n]); simpa using this
      omega
    · have : [n].countP p = 0 := by simp [hp n c]
      rw [this]
      by_cases c2 : k < n
      · rw [if_pos c2] at ih; rw [if_pos (by omega)]; omega
      · rw [if_neg c2] at ih; rw [if_neg (by omega)]; omega
theorem setB_ones (x : B) (k : Nat) (b : Bool) (h : k < 128) : ones (x ^^^ setB x k b) ≤ 1 := by
  unfold ones
  have e : (List.range 128).countP (fun j => bt (x ^^^ setB x k b) j) = (List.range 128).countP (fun j => if j < 128 then bt (x ^^^ setB x k b) j else false) := by
    apply List.countP_congr; intro j hj; rw [if_pos (by simpa using hj)]
  rw [e]
  have := countP_one (fun j => if j < 128 then bt (x ^^^ setB x k b) j else false) k (fun j hj => by
    by_cases c : j < 128
    · simp only [c, if_true]; rw [bt_xor, bt_setB x k b h j c, if_neg hj]; simp
    · simp [c]) 128
  rw [if_pos h] at this; exact this
set_option maxRecDepth 100000 in
theorem addrWiths_walk (x : B) (n : Int) (_ : -9223372036854775808 ≤ n) (_ : n ≤ 9223372036854775807) (b : Bool) (w : World) : Calls Try.prog 9 #[av x, .int .i64 n, .bool b] w (Ret (.bool true) w) := by
  by_cases hin : 0 ≤ n ∧ n < 128
  · obtain ⟨k, rfl⟩ := Int.eq_ofNat_of_zero_le hin.1
    have hlt : k < 128 := by omega
    have c1 : ¬ (k : Int) < 0 := by omega
    have c2 : ¬ (127 : Int) < k := by omega
    have h1 := setB_bit x k b hlt
    have h2 := Lib.hid (setB_back x k b hlt)
    have h3 : ((ones (x ^^^ setB x k b) : Nat) : Int) ≤ 1 := by have := setB_ones x k b hlt; omega
    have h3' : ones (x ^^^ setB x k b) ≤ 1 := by omega
    have h4 : ∀ w, Calls Try.prog 25 #[av (setB x k b), .int .i64 k] w (Ret (.bool b) w) := fun w => by have h := getbit_in (setB x k b) k hlt w; rwa [h1] at h
    have h5 : ∀ w, Calls Try.prog 24 #[av (setB x k b), .int .i64 k, .bool (bt x k)] w (Ret (av x) w) := fun w => by have h := with_in (setB x k b) k hlt (bt x k) w; rwa [h2.out] at h
    have H4 := Lib.hid h4
    have H5 := Lib.hid h5
    clear h1 h4 h5 hin
    go_enter Try.func9, Try.ntmps9
    go_wp2_with (first | (go_at_call 24; refine (with_in _ _ hlt _ _).mono ?_; rintro e w1 ⟨rfl, q1, rfl⟩))
    refine region_ext _ (by first | exact Later.ext _ _ | exact Later.refl _) mixed (by kernel_rfl) ?_
    repeat (go_big_quiet_step ((first | (go_at_call 25; first | with_reducible exact calls_in (H4.out _) | with_reducible exact calls_in (getbit_in _ _ hlt _)) | (go_at_call 24; exact calls_in (H5.out _)) | (go_at_call 23; exact calls_in (xor_any _ _ _)) | (go_at_call 18; exact calls_in (ones_any _ _)) | (go_at_call 16; exact calls_in (awake_any _)))))
    refine wpQuiet_nil ?_
    rintro _ ⟨q, rfl⟩
    go_wp2_with fail
    go_ret
    exact Ret.of rfl (by simp (maxDischargeDepth := 99))
  · by_cases c1 : n < 0
    · go_enter Try.func9, Try.ntmps9
      go_wp2_with fail
      refine region_ext _ (by first | exact Later.ext _ _ | exact Later.refl _) mixed (by kernel_rfl) ?_
      repeat (go_big_quiet_step ((first | (go_at_call 24; exact calls_in (with_out _ _ hin _ _)) | (go_at_call 16; exact calls_in (awake_any _)))))
      refine wpQuiet_nil ?_
      rintro _ ⟨q, rfl⟩
      go_wp2_with fail
      go_ret
      exact Ret.of rfl (by simp (maxDischargeDepth := 99))
    · have c2 : 127 < n := by omega
      go_enter Try.func9, Try.ntmps9
      go_wp2_with fail
      refine region_ext _ (by first | exact Later.ext _ _ | exact Later.refl _) mixed (by kernel_rfl) ?_
      repeat (go_big_quiet_step ((first | (go_at_call 24; exact calls_in (with_out _ _ hin _ _)) | (go_at_call 16; exact calls_in (awake_any _)))))
      refine wpQuiet_nil ?_
      rintro _ ⟨q, rfl⟩
      go_wp2_with fail
      go_ret
      exact Ret.of rfl (by simp (maxDischargeDepth := 99))
set_option maxRecDepth 100000 in
theorem addrWiths_lifted (os : Os) (started : os.Started) (H : Type) (enc : TypeId × Value → H) :
    ReturnsInHanded {} Try.checked os 9 .any (Rows.addrWithsSpec.pre6 enc Try.prog Try.f9 Rows.addrWithsRow.domain false) (Rows.addrWithsSpec.post enc Try.prog Try.f9 false true false false) := by
  refine returnsInHanded_of_change (C := Try.checked) own started (by kernel_rfl) Try.func9
    (ChangeSpec.witness6 (enc := enc) (C := Try.checked) false ⟨#[], #[.agg #[.int .u64 0, .int .u64 0], .int .i64 0, .bool false], []⟩ 8 (by kernel_rfl) (by kernel_rfl) (by kernel_rfl) (by kernel_rfl)) ?_
  intro W base args ds gs before hval0 hW hcnd _
  have hval : ∀ (j : Nat) t v, Try.f9.params[j]? = some t → args[j]? = some v → Value.okWide Try.prog W .any base t v := hval0
  have hW' := hW
  obtain ⟨p, q, hA0, hV, rfl, hfz, hnd⟩ := hW
  obtain ⟨rfl, rfl⟩ := trodVars_none hV
  rw [List.append_nil] at hW'
  have hA : DataW.TrodAll enc Try.prog W 0 (fun _ => true) true Try.f9.params.toList args.toList ds p := hA0
  have hA1 := hA
  rw [Try.params9] at hA1 hval
  obtain ⟨v0, vs0, d0, ds0, p0, q0, hargs, rfl, rfl, h0, r0⟩ := trodAll_cons hA1
  obtain ⟨v1, vs1, d1, ds1, p1, q1, rfl, rfl, rfl, h1, r1⟩ := trodAll_cons r0
  obtain ⟨v2, vs2, d2, ds2, p2, q2, rfl, rfl, rfl, h2, r2⟩ := trodAll_cons r1
  obtain ⟨rfl, rfl, rfl⟩ := trodAll_nil r2
  obtain rfl : args = #[v0, v1, v2] := by cases args; simp_all
  obtain ⟨X0, rfl⟩ := open_addr (hval 0 _ v0 rfl rfl) h0
  obtain ⟨X1, rfl, rfl, rfl, w1⟩ := open_int Try.underlying3 (hval 1 _ v1 rfl rfl) h1
  obtain ⟨X2, rfl, rfl, rfl⟩ := open_bool Try.underlying4 (hval 2 _ v2 rfl rfl) h2
  refine (addrWiths_walk X0 X1 (wf_i64' w1).1 (wf_i64' w1).2 X2 W).mono fun e W' ⟨he, hg⟩ => ?_
  subst he
  exact ⟨_, rfl, post_true laidOut (by rw [Try.params9]; intro t ht; simp at ht; first | (subst ht; exact ⟨by kernel_rfl, of_decide_eq_true (by kernel_rfl)⟩) | (rcases ht with rfl | rfl <;> exact ⟨by kernel_rfl, of_decide_eq_true (by kernel_rfl)⟩) | (rcases ht with rfl | rfl | rfl <;> exact ⟨by kernel_rfl, of_decide_eq_true (by kernel_rfl)⟩) | (rcases ht with rfl | rfl | rfl | rfl <;> exact ⟨by kernel_rfl, of_decide_eq_true (by kernel_rfl)⟩)) rfl hW' hA rfl (trodAll_cons_mk (shut_bool Try.underlying4 _) trodAll_mk0) (Later.kept hg)⟩

theorem addrWiths_holds : Rows.AddrWithsSaid :=
  OpenClaim.holds_of_wide 9 Try.f9 rfl rfl rfl rfl rfl rfl rfl ⟨rfl, rfl, rfl, rfl, rfl⟩ rfl rfl rfl rfl rfl (by kernel_rfl) Try.func9 (by kernel_rfl)
    (of_decide_eq_true (by kernel_rfl)) (by unfold Func.isWrapper; first | (rw [if_pos (by decide +kernel)]; kernel_rfl) | (rw [if_neg (by decide +kernel)]; exact ⟨rfl, rfl⟩))
    (fun os started H enc _ => addrWiths_lifted os started H enc)
#print axioms addrWiths_holds
end Go.Proofs.Ytnjopepdjmifjaa
