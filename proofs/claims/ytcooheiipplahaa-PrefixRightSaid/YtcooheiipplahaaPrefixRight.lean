/- PrefixRight: which prefixes, families, and addresses of these, may be, is the document's. -/
import Derived.Test.YtcooheiipplahaaRows
import Derived.Test.YtcooheiipplahaaRef02
import Derived.Test.YtcooheiipplahaaOpen2
import Derived.Test.YtcooheiipplahaaAwake2
namespace Go.Proofs.Ytcooheiipplahaa
open Go.RowKit Pg Go.ChangeShapes Go.WideShapes Go.ChangeAt

theorem whole_right (k : Int) (x : B) : rightB k x k = (famB k && decide (x &&& maskB (near k) = x)) := by
  unfold rightB
  cases h : famB k
  · rfl
  · have := fam_le h
    rw [decide_eq_true (show 0 ≤ k by omega), decide_eq_true (show k ≤ k by omega)]; rfl
set_option maxRecDepth 100000 in
theorem prefixRight_walk (k : Int) (_ : -9223372036854775808 ≤ k) (_ : k ≤ 9223372036854775807) (x : B) (n : Int) (_ : -9223372036854775808 ≤ n) (_ : n ≤ 9223372036854775807) (w : World) : Calls Try.prog 5 #[.int .i64 k, pv x n] w (Ret (.bool true) w) := by
  have HR := Lib.hid (whole_right k x)
  by_cases c1 : k = 32
  · subst c1
    have HF := Lib.hid (show famB 32 = true by rfl)
    go_enter Try.func5, Try.ntmps5
    go_wp2_with fail
    refine region_ext _ (by first | exact Later.ext _ _ | exact Later.refl _) mixed (by kernel_rfl) ?_
    repeat (go_big_quiet_step ((first | (go_at_call 21; exact calls_in (right_any _ _ _ _)) | (go_at_call 12; exact calls_in (law02of_any _ _ _)) | (go_at_call 18; first | with_reducible exact calls_in (refright_as HR.out _) | with_reducible exact calls_in (refright_any _ _ _ _)) | (go_at_call 22; exact calls_in (family_as HF.out _)) | (go_at_call 23; exact calls_in (of_any _ _ _)) | (go_at_call 20; exact calls_in (make_any _ _ _)) | (go_at_call 24; exact calls_in (refmake_any _ _ _)) | (go_at_call 17; exact calls_in (awake2_any _)))))
    refine wpQuiet_nil ?_
    rintro _ ⟨q, rfl⟩
    go_wp2_with fail
    go_ret
    exact Ret.of (rfl) (by simp (maxDischargeDepth := 99))
  · have HF := Lib.hid (show famB k = (k == 128) by unfold famB; rw [decide_eq_false c1]; rfl)
    have c2 : (k == 32) = false := by rw [beq_eq_false_iff_ne]; exact c1
    go_enter Try.func5, Try.ntmps5
    go_wp2_with fail
    refine region_ext _ (by first | exact Later.ext _ _ | exact Later.refl _) mixed (by kernel_rfl) ?_
    repeat (go_big_quiet_step ((first | (go_at_call 21; exact calls_in (right_any _ _ _ _)) | (go_at_call 12; exact calls_in (law02of_any _ _ _)) | (go_at_call 18; first | with_reducible exact calls_in (refright_as HR.out _) | with_reducible exact calls_in (refright_any _ _ _ _)) | (go_at_call 22; exact calls_in (family_as HF.out _)) | (go_at_call 23; exact calls_in (of_any _ _ _)) | (go_at_call 20; exact calls_in (make_any _ _ _)) | (go_at_call 24; exact calls_in (refmake_any _ _ _)) | (go_at_call 17; exact calls_in (awake2_any _)))))
    refine wpQuiet_nil ?_
    rintro _ ⟨q, rfl⟩
    go_wp2_with fail
    go_ret
    exact Ret.of (rfl) (by simp (maxDischargeDepth := 99))
set_option maxRecDepth 100000 in
theorem prefixRight_lifted (os : Os) (started : os.Started) (H : Type) (enc : TypeId × Value → H) :
    ReturnsInHanded {} Try.checked os 5 .any (Rows.prefixRightSpec.pre6 enc Try.prog Try.f5 Rows.prefixRightRow.domain false) (Rows.prefixRightSpec.post enc Try.prog Try.f5 false true false false) := by
  refine returnsInHanded_of_change (C := Try.checked) own started (by kernel_rfl) Try.func5
    (ChangeSpec.witness6 (enc := enc) (C := Try.checked) false ⟨#[], #[.int .i64 0, .agg #[.int .u64 0, .int .u64 0, .int .i64 0]], []⟩ 8 (by kernel_rfl) (by kernel_rfl) (by kernel_rfl) (by kernel_rfl)) ?_
  intro W base args ds gs before hval0 hW hcnd _
  have hval : ∀ (j : Nat) t v, Try.f5.params[j]? = some t → args[j]? = some v → Value.okWide Try.prog W .any base t v := hval0
  have hW' := hW
  obtain ⟨p, q, hA0, hV, rfl, hfz, hnd⟩ := hW
  obtain ⟨rfl, rfl⟩ := trodVars_none hV
  rw [List.append_nil] at hW'
  have hA : DataW.TrodAll enc Try.prog W 0 (fun _ => true) true Try.f5.params.toList args.toList ds p := hA0
  have hA1 := hA
  rw [Try.params5] at hA1 hval
  obtain ⟨v0, vs0, d0, ds0, p0, q0, hargs, rfl, rfl, h0, r0⟩ := trodAll_cons hA1
  obtain ⟨v1, vs1, d1, ds1, p1, q1, rfl, rfl, rfl, h1, r1⟩ := trodAll_cons r0
  obtain ⟨rfl, rfl, rfl⟩ := trodAll_nil r1
  obtain rfl : args = #[v0, v1] := by cases args; simp_all
  obtain ⟨X0, rfl, rfl, rfl, w0⟩ := open_int Try.underlying3 (hval 0 _ v0 rfl rfl) h0
  obtain ⟨X1, N1, rfl, a1, b1⟩ := open_prefix (hval 1 _ v1 rfl rfl) h1
  refine (prefixRight_walk X0 (wf_i64' w0).1 (wf_i64' w0).2 X1 N1 a1 b1 W).mono fun e W' ⟨he, hg⟩ => ?_
  subst he
  exact ⟨_, rfl, post_true laidOut (by rw [Try.params5]; intro t ht; simp at ht; first | (subst ht; exact ⟨by kernel_rfl, of_decide_eq_true (by kernel_rfl)⟩) | (rcases ht with rfl | rfl <;> exact ⟨by kernel_rfl, of_decide_eq_true (by kernel_rfl)⟩) | (rcases ht with rfl | rfl | rfl <;> exact ⟨by kernel_rfl, of_decide_eq_true (by kernel_rfl)⟩) | (rcases ht with rfl | rfl | rfl | rfl <;> exact ⟨by kernel_rfl, of_decide_eq_true (by kernel_rfl)⟩)) rfl hW' hA rfl (trodAll_cons_mk (shut_bool Try.underlying4 _) trodAll_mk0) (Later.kept hg)⟩

theorem prefixRight_holds : Rows.PrefixRightSaid :=
  OpenClaim.holds_of_wide 5 Try.f5 rfl rfl rfl rfl rfl rfl rfl ⟨rfl, rfl, rfl, rfl, rfl⟩ rfl rfl rfl rfl rfl (by kernel_rfl) Try.func5 (by kernel_rfl)
    (of_decide_eq_true (by kernel_rfl)) (by unfold Func.isWrapper; first | (rw [if_pos (by decide +kernel)]; kernel_rfl) | (rw [if_neg (by decide +kernel)]; exact ⟨rfl, rfl⟩))
    (fun os started H enc _ => prefixRight_lifted os started H enc)
#print axioms prefixRight_holds
end Go.Proofs.Ytcooheiipplahaa
