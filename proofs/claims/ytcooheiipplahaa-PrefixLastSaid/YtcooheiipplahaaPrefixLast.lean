/- PrefixLast: the greatest address that a prefix matches is the document's. -/
import Derived.Test.YtcooheiipplahaaRows
import Derived.Test.YtcooheiipplahaaRef02
import Derived.Test.YtcooheiipplahaaOpen2
import Derived.Test.YtcooheiipplahaaAwake2
namespace Go.Proofs.Ytcooheiipplahaa
open Go.RowKit Pg Go.ChangeShapes Go.WideShapes Go.ChangeAt

set_option maxRecDepth 100000 in
theorem prefixLast_walk (k : Int) (_ : -9223372036854775808 ≤ k) (_ : k ≤ 9223372036854775807) (x : B) (n : Int) (_ : -9223372036854775808 ≤ n) (_ : n ≤ 9223372036854775807) (w : World) : Calls Try.prog 6 #[.int .i64 k, pv x n] w (Ret (.bool true) w) := by
  cases h : rightB k x n
  · have H := Lib.hid h
    clear h
    go_enter Try.func6, Try.ntmps6
    go_wp2_with (first | (go_at_call 25; first | ((refine (calls_in (last_no H.out _)).mono ?_); rintro e w1 ⟨rfl, q1, rfl⟩) | ((refine (last_no H.out _).mono ?_); rintro e w1 ⟨rfl, q1, rfl⟩)) | (go_at_call 12; first | ((refine (calls_in (law02of_any _ _ _)).mono ?_); rintro e w1 ⟨rfl, q1, rfl⟩) | ((refine (law02of_any _ _ _).mono ?_); rintro e w1 ⟨rfl, q1, rfl⟩)) | (go_at_call 18; first | ((refine (calls_in (refright_as H.out _)).mono ?_); rintro e w1 ⟨rfl, q1, rfl⟩) | ((refine (refright_as H.out _).mono ?_); rintro e w1 ⟨rfl, q1, rfl⟩)) | (go_at_call 17; first | ((refine (calls_in (awake2_any _)).mono ?_); rintro e w1 ⟨rfl, q1, rfl⟩) | ((refine (awake2_any _).mono ?_); rintro e w1 ⟨rfl, q1, rfl⟩)))
    go_ret
    exact Ret.of (rfl) (by simp (maxDischargeDepth := 99))
  · have H := Lib.hid h
    have hm := Lib.hid (last_match h)
    have ho := Lib.hid (show (famB k && decide (lastB k x n &&& maskB (near k) = lastB k x n)) = true by
      have hf : famB k = true := by
        unfold rightB at h
        simp only [Bool.and_eq_true] at h
        exact h.1.1.1
      rw [hf, decide_eq_true (last_of h)]; rfl)
    have hg := last_ge k x n
    clear h
    go_enter Try.func6, Try.ntmps6
    go_wp2_with (first | (go_at_call 25; first | ((refine (calls_in (last_yes H.out _)).mono ?_); rintro e w1 ⟨rfl, q1, rfl⟩) | ((refine (last_yes H.out _).mono ?_); rintro e w1 ⟨rfl, q1, rfl⟩)) | (go_at_call 12; first | ((refine (calls_in (law02of_any _ _ _)).mono ?_); rintro e w1 ⟨rfl, q1, rfl⟩) | ((refine (law02of_any _ _ _).mono ?_); rintro e w1 ⟨rfl, q1, rfl⟩)) | (go_at_call 18; first | ((refine (calls_in (refright_as H.out _)).mono ?_); rintro e w1 ⟨rfl, q1, rfl⟩) | ((refine (refright_as H.out _).mono ?_); rintro e w1 ⟨rfl, q1, rfl⟩)))
    refine region_ext _ (by first | exact Later.ext _ _ | exact Later.refl _) mixed (by kernel_rfl) ?_
    repeat (go_big_quiet_step ((first | (go_at_call 12; exact calls_in (law02of_any _ _ _)) | (go_at_call 26; exact calls_in (reflast_any H.out _)) | (go_at_call 15; exact calls_in (match_as hm.out _)) | (go_at_call 23; exact calls_in (of_as ho.out _)) | (go_at_call 27; exact calls_in (cmp_any _ _ _)) | (go_at_call 17; exact calls_in (awake2_any _)))))
    refine wpQuiet_nil ?_
    rintro _ ⟨q, rfl⟩
    go_wp2_with fail
    go_ret
    exact Ret.of (rfl) (by simp (maxDischargeDepth := 99))
set_option maxRecDepth 100000 in
theorem prefixLast_lifted (os : Os) (started : os.Started) (H : Type) (enc : TypeId × Value → H) :
    ReturnsInHanded {} Try.checked os 6 .any (Rows.prefixLastSpec.pre6 enc Try.prog Try.f6 Rows.prefixLastRow.domain false) (Rows.prefixLastSpec.post enc Try.prog Try.f6 false true false false) := by
  refine returnsInHanded_of_change (C := Try.checked) own started (by kernel_rfl) Try.func6
    (ChangeSpec.witness6 (enc := enc) (C := Try.checked) false ⟨#[], #[.int .i64 0, .agg #[.int .u64 0, .int .u64 0, .int .i64 0]], []⟩ 8 (by kernel_rfl) (by kernel_rfl) (by kernel_rfl) (by kernel_rfl)) ?_
  intro W base args ds gs before hval0 hW hcnd _
  have hval : ∀ (j : Nat) t v, Try.f6.params[j]? = some t → args[j]? = some v → Value.okWide Try.prog W .any base t v := hval0
  have hW' := hW
  obtain ⟨p, q, hA0, hV, rfl, hfz, hnd⟩ := hW
  obtain ⟨rfl, rfl⟩ := trodVars_none hV
  rw [List.append_nil] at hW'
  have hA : DataW.TrodAll enc Try.prog W 0 (fun _ => true) true Try.f6.params.toList args.toList ds p := hA0
  have hA1 := hA
  rw [Try.params6] at hA1 hval
  obtain ⟨v0, vs0, d0, ds0, p0, q0, hargs, rfl, rfl, h0, r0⟩ := trodAll_cons hA1
  obtain ⟨v1, vs1, d1, ds1, p1, q1, rfl, rfl, rfl, h1, r1⟩ := trodAll_cons r0
  obtain ⟨rfl, rfl, rfl⟩ := trodAll_nil r1
  obtain rfl : args = #[v0, v1] := by cases args; simp_all
  obtain ⟨X0, rfl, rfl, rfl, w0⟩ := open_int Try.underlying3 (hval 0 _ v0 rfl rfl) h0
  obtain ⟨X1, N1, rfl, a1, b1⟩ := open_prefix (hval 1 _ v1 rfl rfl) h1
  refine (prefixLast_walk X0 (wf_i64' w0).1 (wf_i64' w0).2 X1 N1 a1 b1 W).mono fun e W' ⟨he, hg⟩ => ?_
  subst he
  exact ⟨_, rfl, post_true laidOut (by rw [Try.params6]; intro t ht; simp at ht; first | (subst ht; exact ⟨by kernel_rfl, of_decide_eq_true (by kernel_rfl)⟩) | (rcases ht with rfl | rfl <;> exact ⟨by kernel_rfl, of_decide_eq_true (by kernel_rfl)⟩) | (rcases ht with rfl | rfl | rfl <;> exact ⟨by kernel_rfl, of_decide_eq_true (by kernel_rfl)⟩) | (rcases ht with rfl | rfl | rfl | rfl <;> exact ⟨by kernel_rfl, of_decide_eq_true (by kernel_rfl)⟩)) rfl hW' hA rfl (trodAll_cons_mk (shut_bool Try.underlying4 _) trodAll_mk0) (Later.kept hg)⟩

theorem prefixLast_holds : Rows.PrefixLastSaid :=
  OpenClaim.holds_of_wide 6 Try.f6 rfl rfl rfl rfl rfl rfl rfl ⟨rfl, rfl, rfl, rfl, rfl⟩ rfl rfl rfl rfl rfl (by kernel_rfl) Try.func6 (by kernel_rfl)
    (of_decide_eq_true (by kernel_rfl)) (by unfold Func.isWrapper; first | (rw [if_pos (by decide +kernel)]; kernel_rfl) | (rw [if_neg (by decide +kernel)]; exact ⟨rfl, rfl⟩))
    (fun os started H enc _ => prefixLast_lifted os started H enc)
#print axioms prefixLast_holds
end Go.Proofs.Ytcooheiipplahaa
