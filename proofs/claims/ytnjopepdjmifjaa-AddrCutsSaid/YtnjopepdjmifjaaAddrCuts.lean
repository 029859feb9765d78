/- AddrCuts: of any two addresses: cut at as many bits as they have in common they are the same, and one bit later not. -/
import Derived.Test.YtnjopepdjmifjaaRows
import Derived.Test.YtnjopepdjmifjaaOpen
import Derived.Test.YtnjopepdjmifjaaAwake1
namespace Go.Proofs.Ytnjopepdjmifjaa
open Go.RowKit Pg Go.ChangeShapes Go.WideShapes Go.ChangeAt

theorem near_cast (n : Nat) (h : n ≤ 128) : near (n : Int) = n := by unfold near; omega
theorem near_succ (n : Nat) (h : n < 128) : near ((n : Int) + 1) = n + 1 := by unfold near; omega
theorem addrCuts_walk (x y : B) (w : World) : Calls Try.prog 5 #[av x, av y] w (Ret (.bool true) w) := by
  by_cases h : x = y
  · subst h
    have hc : common x x = 128 := (common_128 x x).2 rfl
    go_enter Try.func5, Try.ntmps5
    go_wp2_with (first | (go_at_call 20; refine (common_any _ _ _).mono ?_; rintro e w1 ⟨rfl, q1, rfl⟩))
    refine region_ext _ (by first | exact Later.ext _ _ | exact Later.refl _) mixed (by kernel_rfl) ?_
    repeat (go_big_quiet_step ((first | (go_at_call 14; exact calls_in (cut_any _ _ _)))))
    refine wpQuiet_nil ?_
    rintro _ ⟨q, rfl⟩
    go_wp2_with fail
    refine region_ext _ (by first | exact Later.ext _ _ | exact Later.refl _) mixed (by kernel_rfl) ?_
    repeat (go_big_quiet_step ((first | (go_at_call 14; exact calls_in (cut_any _ _ _)) | (go_at_call 16; exact calls_in (awake_any _)))))
    refine wpQuiet_nil ?_
    rintro _ ⟨q, rfl⟩
    go_wp2_with fail
    go_ret
    exact Ret.of rfl (by simp (maxDischargeDepth := 99))
  · have hle := common_le x y
    have hlt : common x y < 128 := by
      rcases Nat.lt_or_ge (common x y) 128 with h1 | h1
      · exact h1
      · exact absurd ((common_128 x y).1 (by omega)) h
    have e1 : x &&& maskB (near (common x y : Int)) = y &&& maskB (near (common x y : Int)) := by
      rw [near_cast _ hle, cut_eq_iff]; exact fun k hk _ => common_same x y k hk
    have e2 : ¬ x &&& maskB (near ((common x y : Int) + 1)) = y &&& maskB (near ((common x y : Int) + 1)) := by
      rw [near_succ _ hlt, cut_eq_iff]; exact fun hh => common_ne x y hlt (hh _ (by omega) hlt)
    have e3 : ((common x y : Int) == 128) = false := by rw [beq_eq_false_iff_ne]; omega
    have e4 : (common x y == 128) = false := by rw [beq_eq_false_iff_ne]; omega
    go_enter Try.func5, Try.ntmps5
    go_wp2_with (first | (go_at_call 20; refine (common_any _ _ _).mono ?_; rintro e w1 ⟨rfl, q1, rfl⟩))
    refine region_ext _ (by first | exact Later.ext _ _ | exact Later.refl _) mixed (by kernel_rfl) ?_
    repeat (go_big_quiet_step ((first | (go_at_call 14; exact calls_in (cut_any _ _ _)))))
    refine wpQuiet_nil ?_
    rintro _ ⟨q, rfl⟩
    go_wp2_with fail
    refine region_ext _ (by first | exact Later.ext _ _ | exact Later.refl _) mixed (by kernel_rfl) ?_
    repeat (go_big_quiet_step ((first | (go_at_call 14; exact calls_in (cut_any _ _ _)) | (go_at_call 16; exact calls_in (awake_any _)))))
    refine wpQuiet_nil ?_
    rintro _ ⟨q, rfl⟩
    go_wp2_with fail
    go_ret
    exact Ret.of rfl (by simp (maxDischargeDepth := 99))
set_option maxRecDepth 100000 in
theorem addrCuts_lifted (os : Os) (started : os.Started) (H : Type) (enc : TypeId × Value → H) :
    ReturnsInHanded {} Try.checked os 5 .any (Rows.addrCutsSpec.pre6 enc Try.prog Try.f5 Rows.addrCutsRow.domain false) (Rows.addrCutsSpec.post enc Try.prog Try.f5 false true false false) := by
  refine returnsInHanded_of_change (C := Try.checked) own started (by kernel_rfl) Try.func5
    (ChangeSpec.witness6 (enc := enc) (C := Try.checked) false ⟨#[], #[.agg #[.int .u64 0, .int .u64 0], .agg #[.int .u64 0, .int .u64 0]], []⟩ 8 (by kernel_rfl) (by kernel_rfl) (by kernel_rfl) (by kernel_rfl)) ?_
  intro W base args ds gs before hval0 hW hcnd _
  have hval : ∀ (j : Nat) t v, Try.f5.params[j]? = some t → args[j]? = some v → Value.okWide Try.prog W .any base t v := hval0
  have hW' := hW
  obtain ⟨p, q, hA0, hV, rfl, hfz, hnd⟩ := hW
  obtain ⟨rfl, rfl⟩ := trodVars_none hV
  rw [List.append_nil] at hW'
  have hA : DataW.TrodAll enc Try.prog W 0 (fun _ => true) true Try.f5.params.toList args.toList ds p := hA0
  have hA1 := hA
  rw [Try.params5] at hA1 hval
  obtain ⟨v0, vs0, d0, ds0, p0, q0, hargs, rfl, rfl, h0, r0⟩ := trodAll_cons hA1
  obtain ⟨v1, vs1, d1, ds1, p1, q1, rfl, rfl, rfl, h1, r1⟩ := trodAll_cons r0
  obtain ⟨rfl, rfl, rfl⟩ := trodAll_nil r1
  obtain rfl : args = #[v0, v1] := by cases args; simp_all
  obtain ⟨X0, rfl⟩ := open_addr (hval 0 _ v0 rfl rfl) h0
  obtain ⟨X1, rfl⟩ := open_addr (hval 1 _ v1 rfl rfl) h1
  refine (addrCuts_walk X0 X1 W).mono fun e W' ⟨he, hg⟩ => ?_
  subst he
  exact ⟨_, rfl, post_true laidOut (by rw [Try.params5]; intro t ht; simp at ht; first | (subst ht; exact ⟨by kernel_rfl, of_decide_eq_true (by kernel_rfl)⟩) | (rcases ht with rfl | rfl <;> exact ⟨by kernel_rfl, of_decide_eq_true (by kernel_rfl)⟩) | (rcases ht with rfl | rfl | rfl <;> exact ⟨by kernel_rfl, of_decide_eq_true (by kernel_rfl)⟩) | (rcases ht with rfl | rfl | rfl | rfl <;> exact ⟨by kernel_rfl, of_decide_eq_true (by kernel_rfl)⟩)) rfl hW' hA rfl (trodAll_cons_mk (shut_bool Try.underlying4 _) trodAll_mk0) (Later.kept hg)⟩

theorem addrCuts_holds : Rows.AddrCutsSaid :=
  OpenClaim.holds_of_wide 5 Try.f5 rfl rfl rfl rfl rfl rfl rfl ⟨rfl, rfl, rfl, rfl, rfl⟩ rfl rfl rfl rfl rfl (by kernel_rfl) Try.func5 (by kernel_rfl)
    (of_decide_eq_true (by kernel_rfl)) (by unfold Func.isWrapper; first | (rw [if_pos (by decide +kernel)]; kernel_rfl) | (rw [if_neg (by decide +kernel)]; exact ⟨rfl, rfl⟩))
    (fun os started H enc _ => addrCuts_lifted os started H enc)
#print axioms addrCuts_holds
end Go.Proofs.Ytnjopepdjmifjaa
