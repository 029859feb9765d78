/- PrefixBetween: a prefix matches just the addresses of its family from its own up to its last one. -/
import Derived.Test.YtcooheiipplahaaRows
import Derived.Test.YtcooheiipplahaaRef02
import Derived.Test.YtcooheiipplahaaOpen2
import Derived.Test.YtcooheiipplahaaAwake2
namespace Go.Proofs.Ytcooheiipplahaa
open Go.RowKit Pg Go.ChangeShapes Go.WideShapes Go.ChangeAt

set_option maxRecDepth 100000 in
theorem prefixBetween_walk (k : Int) (_ : -9223372036854775808 ≤ k) (_ : k ≤ 9223372036854775807) (x : B) (n : Int) (_ : -9223372036854775808 ≤ n) (_ : n ≤ 9223372036854775807) (a : B) (w : World) : Calls Try.prog 7 #[.int .i64 k, pv x n, av a] w (Ret (.bool true) w) := by
  cases h : rightB k x n
  · have H := Lib.hid h
    have ho := Lib.hid (rfl : (famB k && decide (a &&& maskB (near k) = a)) = (famB k && decide (a &&& maskB (near k) = a)))
    clear h
    go_enter Try.func7, Try.ntmps7
    go_wp2_with (first | (go_at_call 12; first | ((refine (calls_in (law02of_any _ _ _)).mono ?_); rintro e w1 ⟨rfl, q1, rfl⟩) | ((refine (law02of_any _ _ _).mono ?_); rintro e w1 ⟨rfl, q1, rfl⟩)) | (go_at_call 18; first | ((refine (calls_in (refright_as H.out _)).mono ?_); rintro e w1 ⟨rfl, q1, rfl⟩) | ((refine (refright_as H.out _).mono ?_); rintro e w1 ⟨rfl, q1, rfl⟩)) | (go_at_call 23; first | ((refine (calls_in (of_as ho.out _)).mono ?_); rintro e w1 ⟨rfl, q1, rfl⟩) | ((refine (of_as ho.out _).mono ?_); rintro e w1 ⟨rfl, q1, rfl⟩)) | (go_at_call 17; first | ((refine (calls_in (awake2_any _)).mono ?_); rintro e w1 ⟨rfl, q1, rfl⟩) | ((refine (awake2_any _).mono ?_); rintro e w1 ⟨rfl, q1, rfl⟩)))
    go_ret
    exact Ret.of (rfl) (by simp (maxDischargeDepth := 99))
  cases ho' : (famB k && decide (a &&& maskB (near k) = a))
  · have H := Lib.hid h
    have ho := Lib.hid ho'
    clear h ho'
    go_enter Try.func7, Try.ntmps7
    go_wp2_with (first | (go_at_call 12; first | ((refine (calls_in (law02of_any _ _ _)).mono ?_); rintro e w1 ⟨rfl, q1, rfl⟩) | ((refine (law02of_any _ _ _).mono ?_); rintro e w1 ⟨rfl, q1, rfl⟩)) | (go_at_call 18; first | ((refine (calls_in (refright_as H.out _)).mono ?_); rintro e w1 ⟨rfl, q1, rfl⟩) | ((refine (refright_as H.out _).mono ?_); rintro e w1 ⟨rfl, q1, rfl⟩)) | (go_at_call 23; first | ((refine (calls_in (of_as ho.out _)).mono ?_); rintro e w1 ⟨rfl, q1, rfl⟩) | ((refine (of_as ho.out _).mono ?_); rintro e w1 ⟨rfl, q1, rfl⟩)) | (go_at_call 17; first | ((refine (calls_in (awake2_any _)).mono ?_); rintro e w1 ⟨rfl, q1, rfl⟩) | ((refine (awake2_any _).mono ?_); rintro e w1 ⟨rfl, q1, rfl⟩)))
    go_ret
    exact Ret.of (rfl) (by simp (maxDischargeDepth := 99))
  have hb := between h (a := a) (by simp only [Bool.and_eq_true, decide_eq_true_eq] at ho'; exact ho'.2)
  have H := Lib.hid h
  have ho := Lib.hid ho'
  clear h ho'
  by_cases c1 : 0 ≤ cmpB a x
  · by_cases c2 : cmpB a (lastB k x n) ≤ 0
    · have hm := Lib.hid (show matchB x n a = true by rw [hb, decide_eq_true c1, decide_eq_true c2]; rfl)
      clear hb
      go_enter Try.func7, Try.ntmps7
      go_wp2_with (first | (go_at_call 12; first | ((refine (calls_in (law02of_any _ _ _)).mono ?_); rintro e w1 ⟨rfl, q1, rfl⟩) | ((refine (law02of_any _ _ _).mono ?_); rintro e w1 ⟨rfl, q1, rfl⟩)) | (go_at_call 18; first | ((refine (calls_in (refright_as H.out _)).mono ?_); rintro e w1 ⟨rfl, q1, rfl⟩) | ((refine (refright_as H.out _).mono ?_); rintro e w1 ⟨rfl, q1, rfl⟩)) | (go_at_call 23; first | ((refine (calls_in (of_as ho.out _)).mono ?_); rintro e w1 ⟨rfl, q1, rfl⟩) | ((refine (of_as ho.out _).mono ?_); rintro e w1 ⟨rfl, q1, rfl⟩)) | (go_at_call 17; first | ((refine (calls_in (awake2_any _)).mono ?_); rintro e w1 ⟨rfl, q1, rfl⟩) | ((refine (awake2_any _).mono ?_); rintro e w1 ⟨rfl, q1, rfl⟩)))
      refine region_ext _ (by first | exact Later.ext _ _ | exact Later.refl _) mixed (by kernel_rfl) ?_
      repeat (go_big_quiet_step ((first | (go_at_call 27; exact calls_in (cmp_any _ _ _)) | (go_at_call 25; exact calls_in (last_yes H.out _)))))
      refine wpQuiet_nil ?_
      rintro _ ⟨q, rfl⟩
      go_wp2_with (first | (go_at_call 15; first | ((refine (calls_in (match_as hm.out _)).mono ?_); rintro e w1 ⟨rfl, q1, rfl⟩) | ((refine (match_as hm.out _).mono ?_); rintro e w1 ⟨rfl, q1, rfl⟩)) | (go_at_call 17; first | ((refine (calls_in (awake2_any _)).mono ?_); rintro e w1 ⟨rfl, q1, rfl⟩) | ((refine (awake2_any _).mono ?_); rintro e w1 ⟨rfl, q1, rfl⟩)))
      go_ret
      exact Ret.of (rfl) (by simp (maxDischargeDepth := 99))
    · have hm := Lib.hid (show matchB x n a = false by rw [hb, decide_eq_false c2]; simp)
      have d2 : decide (cmpB a (lastB k x n) ≤ 0) = false := decide_eq_false c2
      clear hb c2
      go_enter Try.func7, Try.ntmps7
      go_wp2_with (first | (go_at_call 12; first | ((refine (calls_in (law02of_any _ _ _)).mono ?_); rintro e w1 ⟨rfl, q1, rfl⟩) | ((refine (law02of_any _ _ _).mono ?_); rintro e w1 ⟨rfl, q1, rfl⟩)) | (go_at_call 18; first | ((refine (calls_in (refright_as H.out _)).mono ?_); rintro e w1 ⟨rfl, q1, rfl⟩) | ((refine (refright_as H.out _).mono ?_); rintro e w1 ⟨rfl, q1, rfl⟩)) | (go_at_call 23; first | ((refine (calls_in (of_as ho.out _)).mono ?_); rintro e w1 ⟨rfl, q1, rfl⟩) | ((refine (of_as ho.out _).mono ?_); rintro e w1 ⟨rfl, q1, rfl⟩)) | (go_at_call 17; first | ((refine (calls_in (awake2_any _)).mono ?_); rintro e w1 ⟨rfl, q1, rfl⟩) | ((refine (awake2_any _).mono ?_); rintro e w1 ⟨rfl, q1, rfl⟩)))
      refine region_ext _ (by first | exact Later.ext _ _ | exact Later.refl _) mixed (by kernel_rfl) ?_
      repeat (go_big_quiet_step ((first | (go_at_call 27; exact calls_in (cmp_any _ _ _)) | (go_at_call 25; exact calls_in (last_yes H.out _)))))
      refine wpQuiet_nil ?_
      rintro _ ⟨q, rfl⟩
      go_wp2_with (first | (go_at_call 15; first | ((refine (calls_in (match_as hm.out _)).mono ?_); rintro e w1 ⟨rfl, q1, rfl⟩) | ((refine (match_as hm.out _).mono ?_); rintro e w1 ⟨rfl, q1, rfl⟩)) | (go_at_call 17; first | ((refine (calls_in (awake2_any _)).mono ?_); rintro e w1 ⟨rfl, q1, rfl⟩) | ((refine (awake2_any _).mono ?_); rintro e w1 ⟨rfl, q1, rfl⟩)))
      go_ret
      exact Ret.of (rfl) (by simp (maxDischargeDepth := 99))
  · have hm := Lib.hid (show matchB x n a = false by rw [hb, decide_eq_false c1]; simp)
    have d1 : decide (0 ≤ cmpB a x) = false := decide_eq_false c1
    clear hb c1
    go_enter Try.func7, Try.ntmps7
    go_wp2_with (first | (go_at_call 12; first | ((refine (calls_in (law02of_any _ _ _)).mono ?_); rintro e w1 ⟨rfl, q1, rfl⟩) | ((refine (law02of_any _ _ _).mono ?_); rintro e w1 ⟨rfl, q1, rfl⟩)) | (go_at_call 18; first | ((refine (calls_in (refright_as H.out _)).mono ?_); rintro e w1 ⟨rfl, q1, rfl⟩) | ((refine (refright_as H.out _).mono ?_); rintro e w1 ⟨rfl, q1, rfl⟩)) | (go_at_call 23; first | ((refine (calls_in (of_as ho.out _)).mono ?_); rintro e w1 ⟨rfl, q1, rfl⟩) | ((refine (of_as ho.out _).mono ?_); rintro e w1 ⟨rfl, q1, rfl⟩)) | (go_at_call 17; first | ((refine (calls_in (awake2_any _)).mono ?_); rintro e w1 ⟨rfl, q1, rfl⟩) | ((refine (awake2_any _).mono ?_); rintro e w1 ⟨rfl, q1, rfl⟩)))
    refine region_ext _ (by first | exact Later.ext _ _ | exact Later.refl _) mixed (by kernel_rfl) ?_
    repeat (go_big_quiet_step ((first | (go_at_call 27; exact calls_in (cmp_any _ _ _)) | (go_at_call 25; exact calls_in (last_yes H.out _)))))
    refine wpQuiet_nil ?_
    rintro _ ⟨q, rfl⟩
    go_wp2_with (first | (go_at_call 15; first | ((refine (calls_in (match_as hm.out _)).mono ?_); rintro e w1 ⟨rfl, q1, rfl⟩) | ((refine (match_as hm.out _).mono ?_); rintro e w1 ⟨rfl, q1, rfl⟩)) | (go_at_call 17; first | ((refine (calls_in (awake2_any _)).mono ?_); rintro e w1 ⟨rfl, q1, rfl⟩) | ((refine (awake2_any _).mono ?_); rintro e w1 ⟨rfl, q1, rfl⟩)))
    go_ret
    exact Ret.of (rfl) (by simp (maxDischargeDepth := 99))
set_option maxRecDepth 100000 in
theorem prefixBetween_lifted (os : Os) (started : os.Started) (H : Type) (enc : TypeId × Value → H) :
    ReturnsInHanded {} Try.checked os 7 .any (Rows.prefixBetweenSpec.pre6 enc Try.prog Try.f7 Rows.prefixBetweenRow.domain false) (Rows.prefixBetweenSpec.post enc Try.prog Try.f7 false true false false) := by
  refine returnsInHanded_of_change (C := Try.checked) own started (by kernel_rfl) Try.func7
    (ChangeSpec.witness6 (enc := enc) (C := Try.checked) false ⟨#[], #[.int .i64 0, .agg #[.int .u64 0, .int .u64 0, .int .i64 0], .agg #[.int .u64 0, .int .u64 0]], []⟩ 8 (by kernel_rfl) (by kernel_rfl) (by kernel_rfl) (by kernel_rfl)) ?_
  intro W base args ds gs before hval0 hW hcnd _
  have hval : ∀ (j : Nat) t v, Try.f7.params[j]? = some t → args[j]? = some v → Value.okWide Try.prog W .any base t v := hval0
  have hW' := hW
  obtain ⟨p, q, hA0, hV, rfl, hfz, hnd⟩ := hW
  obtain ⟨rfl, rfl⟩ := trodVars_none hV
  rw [List.append_nil] at hW'
  have hA : DataW.TrodAll enc Try.prog W 0 (fun _ => true) true Try.f7.params.toList args.toList ds p := hA0
  have hA1 := hA
  rw [Try.params7] at hA1 hval
  obtain ⟨v0, vs0, d0, ds0, p0, q0, hargs, rfl, rfl, h0, r0⟩ := trodAll_cons hA1
  obtain ⟨v1, vs1, d1, ds1, p1, q1, rfl, rfl, rfl, h1, r1⟩ := trodAll_cons r0
  obtain ⟨v2, vs2, d2, ds2, p2, q2, rfl, rfl, rfl, h2, r2⟩ := trodAll_cons r1
  obtain ⟨rfl, rfl, rfl⟩ := trodAll_nil r2
  obtain rfl : args = #[v0, v1, v2] := by cases args; simp_all
  obtain ⟨X0, rfl, rfl, rfl, w0⟩ := open_int Try.underlying3 (hval 0 _ v0 rfl rfl) h0
  obtain ⟨X1, N1, rfl, a1, b1⟩ := open_prefix (hval 1 _ v1 rfl rfl) h1
  obtain ⟨X2, rfl⟩ := open_addr (hval 2 _ v2 rfl rfl) h2
  refine (prefixBetween_walk X0 (wf_i64' w0).1 (wf_i64' w0).2 X1 N1 a1 b1 X2 W).mono fun e W' ⟨he, hg⟩ => ?_
  subst he
  exact ⟨_, rfl, post_true laidOut (by rw [Try.params7]; intro t ht; simp at ht; first | (subst ht; exact ⟨by kernel_rfl, of_decide_eq_true (by kernel_rfl)⟩) | (rcases ht with rfl | rfl <;> exact ⟨by kernel_rfl, of_decide_eq_true (by kernel_rfl)⟩) | (rcases ht with rfl | rfl | rfl <;> exact ⟨by kernel_rfl, of_decide_eq_true (by kernel_rfl)⟩) | (rcases ht with rfl | rfl | rfl | rfl <;> exact ⟨by kernel_rfl, of_decide_eq_true (by kernel_rfl)⟩)) rfl hW' hA rfl (trodAll_cons_mk (shut_bool Try.underlying4 _) trodAll_mk0) (Later.kept hg)⟩

theorem prefixBetween_holds : Rows.PrefixBetweenSaid :=
  OpenClaim.holds_of_wide 7 Try.f7 rfl rfl rfl rfl rfl rfl rfl ⟨rfl, rfl, rfl, rfl, rfl⟩ rfl rfl rfl rfl rfl (by kernel_rfl) Try.func7 (by kernel_rfl)
    (of_decide_eq_true (by kernel_rfl)) (by unfold Func.isWrapper; first | (rw [if_pos (by decide +kernel)]; kernel_rfl) | (rw [if_neg (by decide +kernel)]; exact ⟨rfl, rfl⟩))
    (fun os started H enc _ => prefixBetween_lifted os started H enc)
#print axioms prefixBetween_holds
end Go.Proofs.Ytcooheiipplahaa
