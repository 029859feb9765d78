/- PrefixOrder: which of two prefixes is the greater one is the document's; one that covers another one is not above it. -/
import Derived.Test.YtcooheiipplahaaRows
import Derived.Test.YtcooheiipplahaaRef02
import Derived.Test.YtcooheiipplahaaOpen2
import Derived.Test.YtcooheiipplahaaAwake2
namespace Go.Proofs.Ytcooheiipplahaa
open Go.RowKit Pg Go.ChangeShapes Go.WideShapes Go.ChangeAt

theorem cmpp_as {c : Int} {x : B} {n : Int} {y : B} {m : Int} (h : cmpP x n y m = c) (w : World) : Calls Try.prog 30 #[pv x n, pv y m] w (Ret (.int .i64 c) w) := by rw [← h]; exact cmpp_any x n y m w
theorem refcmpp_as {c : Int} {x : B} {n : Int} {y : B} {m : Int} (h : cmpP x n y m = c) (w : World) : Calls Try.prog 31 #[pv x n, pv y m] w (Ret (.int .i64 c) w) := by rw [← h]; exact refcmpp_any x n y m w
set_option maxHeartbeats 2000000 in
set_option maxRecDepth 100000 in
theorem order_case (x : B) (n : Int) (_ : -9223372036854775808 ≤ n) (_ : n ≤ 9223372036854775807) (y : B) (m : Int) (_ : -9223372036854775808 ≤ m) (_ : m ≤ 9223372036854775807) (c c' : Int) (hcc : (c = -1 ∧ c' = 1) ∨ (c = 0 ∧ c' = 0) ∨ (c = 1 ∧ c' = -1)) (H : Hid (cmpP x n y m = c)) (HN : Hid (cmpP y m x n = c')) (w : World) : Calls Try.prog 9 #[pv x n, pv y m] w (Ret (.bool true) w) := by
  cases h1 : rightB 128 x n
  · have h1 := Lib.hid h1
    have hc := Lib.hid (rfl : coversB x n y m = coversB x n y m)
    rcases hcc with ⟨rfl, rfl⟩ | ⟨rfl, rfl⟩ | ⟨rfl, rfl⟩
    all_goals
      go_enter Try.func9, Try.ntmps9
      go_wp2_with (first | (go_at_call 30; first | ((refine (calls_in (cmpp_as H.out _)).mono ?_); rintro e w1 ⟨rfl, q1, rfl⟩) | ((refine (cmpp_as H.out _).mono ?_); rintro e w1 ⟨rfl, q1, rfl⟩)))
      refine region_ext _ (by first | exact Later.ext _ _ | exact Later.refl _) mixed (by kernel_rfl) ?_
      repeat (go_big_quiet_step ((first | (go_at_call 12; exact calls_in (law02of_any _ _ _)) | (go_at_call 31; exact calls_in (refcmpp_as H.out _)) | (go_at_call 30; exact calls_in (cmpp_as HN.out _)))))
      refine wpQuiet_nil ?_
      rintro _ ⟨q, rfl⟩
      go_wp2_with (first | (go_at_call 21; first | ((refine (calls_in (right_as h1.out _)).mono ?_); rintro e w1 ⟨rfl, q1, rfl⟩) | ((refine (right_as h1.out _).mono ?_); rintro e w1 ⟨rfl, q1, rfl⟩)) | (go_at_call 13; first | ((refine (calls_in (covers_as hc.out _)).mono ?_); rintro e w1 ⟨rfl, q1, rfl⟩) | ((refine (covers_as hc.out _).mono ?_); rintro e w1 ⟨rfl, q1, rfl⟩)) | (go_at_call 17; first | ((refine (calls_in (awake2_any _)).mono ?_); rintro e w1 ⟨rfl, q1, rfl⟩) | ((refine (awake2_any _).mono ?_); rintro e w1 ⟨rfl, q1, rfl⟩)))
      go_ret
      exact Ret.of (rfl) (by simp (maxDischargeDepth := 99))
  cases h2 : rightB 128 y m
  · have h1 := Lib.hid h1
    have h2 := Lib.hid h2
    have hc := Lib.hid (rfl : coversB x n y m = coversB x n y m)
    rcases hcc with ⟨rfl, rfl⟩ | ⟨rfl, rfl⟩ | ⟨rfl, rfl⟩
    all_goals
      go_enter Try.func9, Try.ntmps9
      go_wp2_with (first | (go_at_call 30; first | ((refine (calls_in (cmpp_as H.out _)).mono ?_); rintro e w1 ⟨rfl, q1, rfl⟩) | ((refine (cmpp_as H.out _).mono ?_); rintro e w1 ⟨rfl, q1, rfl⟩)))
      refine region_ext _ (by first | exact Later.ext _ _ | exact Later.refl _) mixed (by kernel_rfl) ?_
      repeat (go_big_quiet_step ((first | (go_at_call 12; exact calls_in (law02of_any _ _ _)) | (go_at_call 31; exact calls_in (refcmpp_as H.out _)) | (go_at_call 30; exact calls_in (cmpp_as HN.out _)))))
      refine wpQuiet_nil ?_
      rintro _ ⟨q, rfl⟩
      go_wp2_with (first | (go_at_call 21; first | ((with_reducible refine (calls_in (right_as h1.out _)).mono ?_); rintro e w1 ⟨rfl, q1, rfl⟩) | ((with_reducible refine (right_as h1.out _).mono ?_); rintro e w1 ⟨rfl, q1, rfl⟩) | ((with_reducible refine (calls_in (right_as h2.out _)).mono ?_); rintro e w1 ⟨rfl, q1, rfl⟩) | ((with_reducible refine (right_as h2.out _).mono ?_); rintro e w1 ⟨rfl, q1, rfl⟩)) | (go_at_call 13; first | ((refine (calls_in (covers_as hc.out _)).mono ?_); rintro e w1 ⟨rfl, q1, rfl⟩) | ((refine (covers_as hc.out _).mono ?_); rintro e w1 ⟨rfl, q1, rfl⟩)) | (go_at_call 17; first | ((refine (calls_in (awake2_any _)).mono ?_); rintro e w1 ⟨rfl, q1, rfl⟩) | ((refine (awake2_any _).mono ?_); rintro e w1 ⟨rfl, q1, rfl⟩)))
      go_ret
      exact Ret.of (rfl) (by simp (maxDischargeDepth := 99))
  cases hc : coversB x n y m
  · have h1 := Lib.hid h1
    have h2 := Lib.hid h2
    have hc := Lib.hid hc
    rcases hcc with ⟨rfl, rfl⟩ | ⟨rfl, rfl⟩ | ⟨rfl, rfl⟩
    all_goals
      go_enter Try.func9, Try.ntmps9
      go_wp2_with (first | (go_at_call 30; first | ((refine (calls_in (cmpp_as H.out _)).mono ?_); rintro e w1 ⟨rfl, q1, rfl⟩) | ((refine (cmpp_as H.out _).mono ?_); rintro e w1 ⟨rfl, q1, rfl⟩)))
      refine region_ext _ (by first | exact Later.ext _ _ | exact Later.refl _) mixed (by kernel_rfl) ?_
      repeat (go_big_quiet_step ((first | (go_at_call 12; exact calls_in (law02of_any _ _ _)) | (go_at_call 31; exact calls_in (refcmpp_as H.out _)) | (go_at_call 30; exact calls_in (cmpp_as HN.out _)))))
      refine wpQuiet_nil ?_
      rintro _ ⟨q, rfl⟩
      go_wp2_with (first | (go_at_call 21; first | ((with_reducible refine (calls_in (right_as h1.out _)).mono ?_); rintro e w1 ⟨rfl, q1, rfl⟩) | ((with_reducible refine (right_as h1.out _).mono ?_); rintro e w1 ⟨rfl, q1, rfl⟩) | ((with_reducible refine (calls_in (right_as h2.out _)).mono ?_); rintro e w1 ⟨rfl, q1, rfl⟩) | ((with_reducible refine (right_as h2.out _).mono ?_); rintro e w1 ⟨rfl, q1, rfl⟩)) | (go_at_call 13; first | ((refine (calls_in (covers_as hc.out _)).mono ?_); rintro e w1 ⟨rfl, q1, rfl⟩) | ((refine (covers_as hc.out _).mono ?_); rintro e w1 ⟨rfl, q1, rfl⟩)) | (go_at_call 17; first | ((refine (calls_in (awake2_any _)).mono ?_); rintro e w1 ⟨rfl, q1, rfl⟩) | ((refine (awake2_any _).mono ?_); rintro e w1 ⟨rfl, q1, rfl⟩)))
      go_ret
      exact Ret.of (rfl) (by simp (maxDischargeDepth := 99))
  · have hle := covers_le h1 h2 hc
    have h1 := Lib.hid h1
    have h2 := Lib.hid h2
    have hc := Lib.hid hc
    rw [H.out] at hle
    rcases hcc with ⟨rfl, rfl⟩ | ⟨rfl, rfl⟩ | ⟨rfl, rfl⟩
    · clear hle
      go_enter Try.func9, Try.ntmps9
      go_wp2_with (first | (go_at_call 30; first | ((refine (calls_in (cmpp_as H.out _)).mono ?_); rintro e w1 ⟨rfl, q1, rfl⟩) | ((refine (cmpp_as H.out _).mono ?_); rintro e w1 ⟨rfl, q1, rfl⟩)))
      refine region_ext _ (by first | exact Later.ext _ _ | exact Later.refl _) mixed (by kernel_rfl) ?_
      repeat (go_big_quiet_step ((first | (go_at_call 12; exact calls_in (law02of_any _ _ _)) | (go_at_call 31; exact calls_in (refcmpp_as H.out _)) | (go_at_call 30; exact calls_in (cmpp_as HN.out _)))))
      refine wpQuiet_nil ?_
      rintro _ ⟨q, rfl⟩
      go_wp2_with (first | (go_at_call 21; first | ((with_reducible refine (calls_in (right_as h1.out _)).mono ?_); rintro e w1 ⟨rfl, q1, rfl⟩) | ((with_reducible refine (right_as h1.out _).mono ?_); rintro e w1 ⟨rfl, q1, rfl⟩) | ((with_reducible refine (calls_in (right_as h2.out _)).mono ?_); rintro e w1 ⟨rfl, q1, rfl⟩) | ((with_reducible refine (right_as h2.out _).mono ?_); rintro e w1 ⟨rfl, q1, rfl⟩)) | (go_at_call 13; first | ((refine (calls_in (covers_as hc.out _)).mono ?_); rintro e w1 ⟨rfl, q1, rfl⟩) | ((refine (covers_as hc.out _).mono ?_); rintro e w1 ⟨rfl, q1, rfl⟩)) | (go_at_call 17; first | ((refine (calls_in (awake2_any _)).mono ?_); rintro e w1 ⟨rfl, q1, rfl⟩) | ((refine (awake2_any _).mono ?_); rintro e w1 ⟨rfl, q1, rfl⟩)))
      go_ret
      exact Ret.of (rfl) (by simp (maxDischargeDepth := 99))
    · clear hle
      go_enter Try.func9, Try.ntmps9
      go_wp2_with (first | (go_at_call 30; first | ((refine (calls_in (cmpp_as H.out _)).mono ?_); rintro e w1 ⟨rfl, q1, rfl⟩) | ((refine (cmpp_as H.out _).mono ?_); rintro e w1 ⟨rfl, q1, rfl⟩)))
      refine region_ext _ (by first | exact Later.ext _ _ | exact Later.refl _) mixed (by kernel_rfl) ?_
      repeat (go_big_quiet_step ((first | (go_at_call 12; exact calls_in (law02of_any _ _ _)) | (go_at_call 31; exact calls_in (refcmpp_as H.out _)) | (go_at_call 30; exact calls_in (cmpp_as HN.out _)))))
      refine wpQuiet_nil ?_
      rintro _ ⟨q, rfl⟩
      go_wp2_with (first | (go_at_call 21; first | ((with_reducible refine (calls_in (right_as h1.out _)).mono ?_); rintro e w1 ⟨rfl, q1, rfl⟩) | ((with_reducible refine (right_as h1.out _).mono ?_); rintro e w1 ⟨rfl, q1, rfl⟩) | ((with_reducible refine (calls_in (right_as h2.out _)).mono ?_); rintro e w1 ⟨rfl, q1, rfl⟩) | ((with_reducible refine (right_as h2.out _).mono ?_); rintro e w1 ⟨rfl, q1, rfl⟩)) | (go_at_call 13; first | ((refine (calls_in (covers_as hc.out _)).mono ?_); rintro e w1 ⟨rfl, q1, rfl⟩) | ((refine (covers_as hc.out _).mono ?_); rintro e w1 ⟨rfl, q1, rfl⟩)) | (go_at_call 17; first | ((refine (calls_in (awake2_any _)).mono ?_); rintro e w1 ⟨rfl, q1, rfl⟩) | ((refine (awake2_any _).mono ?_); rintro e w1 ⟨rfl, q1, rfl⟩)))
      go_ret
      exact Ret.of (rfl) (by simp (maxDischargeDepth := 99))
    · exact absurd hle (by omega)
theorem prefixOrder_walk (x : B) (n : Int) (_ : -9223372036854775808 ≤ n) (_ : n ≤ 9223372036854775807) (y : B) (m : Int) (_ : -9223372036854775808 ≤ m) (_ : m ≤ 9223372036854775807) (w : World) : Calls Try.prog 9 #[pv x n, pv y m] w (Ret (.bool true) w) := by
  have hv := cmpP_values x n y m
  have hn := cmpP_neg y m x n
  exact order_case x n ‹_› ‹_› y m ‹_› ‹_› (cmpP x n y m) (cmpP y m x n) (by omega) (Lib.hid rfl) (Lib.hid rfl) w
set_option maxRecDepth 100000 in
theorem prefixOrder_lifted (os : Os) (started : os.Started) (H : Type) (enc : TypeId × Value → H) :
    ReturnsInHanded {} Try.checked os 9 .any (Rows.prefixOrderSpec.pre6 enc Try.prog Try.f9 Rows.prefixOrderRow.domain false) (Rows.prefixOrderSpec.post enc Try.prog Try.f9 false true false false) := by
  refine returnsInHanded_of_change (C := Try.checked) own started (by kernel_rfl) Try.func9
    (ChangeSpec.witness6 (enc := enc) (C := Try.checked) false ⟨#[], #[.agg #[.int .u64 0, .int .u64 0, .int .i64 0], .agg #[.int .u64 0, .int .u64 0, .int .i64 0]], []⟩ 8 (by kernel_rfl) (by kernel_rfl) (by kernel_rfl) (by kernel_rfl)) ?_
  intro W base args ds gs before hval0 hW hcnd _
  have hval : ∀ (j : Nat) t v, Try.f9.params[j]? = some t → args[j]? = some v → Value.okWide Try.prog W .any base t v := hval0
  have hW' := hW
  obtain ⟨p, q, hA0, hV, rfl, hfz, hnd⟩ := hW
  obtain ⟨rfl, rfl⟩ := trodVars_none hV
  rw [List.append_nil] at hW'
  have hA : DataW.TrodAll enc Try.prog W 0 (fun _ => true) true Try.f9.params.toList args.toList ds p := hA0
  have hA1 := hA
  rw [Try.params9] at hA1 hval
  obtain ⟨v0, vs0, d0, ds0, p0, q0, hargs, rfl, rfl, h0, r0⟩ := trodAll_cons hA1
  obtain ⟨v1, vs1, d1, ds1, p1, q1, rfl, rfl, rfl, h1, r1⟩ := trodAll_cons r0
  obtain ⟨rfl, rfl, rfl⟩ := trodAll_nil r1
  obtain rfl : args = #[v0, v1] := by cases args; simp_all
  obtain ⟨X0, N0, rfl, a0, b0⟩ := open_prefix (hval 0 _ v0 rfl rfl) h0
  obtain ⟨X1, N1, rfl, a1, b1⟩ := open_prefix (hval 1 _ v1 rfl rfl) h1
  refine (prefixOrder_walk X0 N0 a0 b0 X1 N1 a1 b1 W).mono fun e W' ⟨he, hg⟩ => ?_
  subst he
  exact ⟨_, rfl, post_true laidOut (by rw [Try.params9]; intro t ht; simp at ht; first | (subst ht; exact ⟨by kernel_rfl, of_decide_eq_true (by kernel_rfl)⟩) | (rcases ht with rfl | rfl <;> exact ⟨by kernel_rfl, of_decide_eq_true (by kernel_rfl)⟩) | (rcases ht with rfl | rfl | rfl <;> exact ⟨by kernel_rfl, of_decide_eq_true (by kernel_rfl)⟩) | (rcases ht with rfl | rfl | rfl | rfl <;> exact ⟨by kernel_rfl, of_decide_eq_true (by kernel_rfl)⟩)) rfl hW' hA rfl (trodAll_cons_mk (shut_bool Try.underlying4 _) trodAll_mk0) (Later.kept hg)⟩

theorem prefixOrder_holds : Rows.PrefixOrderSaid :=
  OpenClaim.holds_of_wide 9 Try.f9 rfl rfl rfl rfl rfl rfl rfl ⟨rfl, rfl, rfl, rfl, rfl⟩ rfl rfl rfl rfl rfl (by kernel_rfl) Try.func9 (by kernel_rfl)
    (of_decide_eq_true (by kernel_rfl)) (by unfold Func.isWrapper; first | (rw [if_pos (by decide +kernel)]; kernel_rfl) | (rw [if_neg (by decide +kernel)]; exact ⟨rfl, rfl⟩))
    (fun os started H enc _ => prefixOrder_lifted os started H enc)
#print axioms prefixOrder_holds
end Go.Proofs.Ytcooheiipplahaa
