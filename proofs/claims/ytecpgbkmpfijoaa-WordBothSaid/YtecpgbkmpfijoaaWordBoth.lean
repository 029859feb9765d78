/- WordBoth: what both match is just what the word that is told matches; there is none just if they do not meet. -/
import Derived.Test.YtecpgbkmpfijoaaRows
import Derived.Test.YtecpgbkmpfijoaaRef04
import Derived.Test.YtecpgbkmpfijoaaOpen4
import Derived.Test.YtecpgbkmpfijoaaAwake4
namespace Go.Proofs.Ytecpgbkmpfijoaa
open Go.RowKit Pg Go.ChangeShapes Go.WideShapes Go.ChangeAt

theorem wright_as' {b : Bool} {x m : B} (h : decide (x = x &&& m) = b) (w : World) : Calls Try.prog 22 #[wv x m] w (Ret (.bool b) w) := by rw [← h]; exact wright_any x m w
set_option maxHeartbeats 8000000 in
set_option maxRecDepth 100000 in
theorem wordBoth_no (x m y n a : B) (h : meetW x m y n = false) (w : World) : Calls Try.prog 6 #[wv x m, wv y n, av a] w (Ret (.bool true) w) := by
  obtain ⟨m1, h1⟩ : ∃ c, matchW x m a = c := ⟨_, rfl⟩
  obtain ⟨m2, h2⟩ : ∃ c, matchW y n a = c := ⟨_, rfl⟩
  have h3 := no_meet h a
  rw [h1, h2] at h3
  have HM := Lib.hid h
  have H1 := Lib.hid h1
  have H2 := Lib.hid h2
  clear h h1 h2
  cases m1 <;> cases m2
  all_goals
    first
      | cases h3
      | skip
  all_goals
    go_enter Try.func6, Try.ntmps6
    go_wp2_with (first | (go_at_call 23; first | ((refine (calls_in (wboth_no HM.out _)).mono ?_); rintro e w1 ⟨rfl, q1, rfl⟩) | ((refine (wboth_no HM.out _).mono ?_); rintro e w1 ⟨rfl, q1, rfl⟩)))
    refine region_ext _ (by first | exact Later.ext _ _ | exact Later.refl _) mixed (by kernel_rfl) ?_
    repeat (go_big_quiet_step ((first | (go_at_call 12; exact calls_in (law04of_any _ _ _)) | (go_at_call 21; exact calls_in (refwmeet_as HM.out _)))))
    refine wpQuiet_nil ?_
    rintro _ ⟨q, rfl⟩
    go_wp2_with (first | (go_at_call 13; first | ((with_reducible refine (calls_in (wmatch_as H1.out _)).mono ?_); rintro e w1 ⟨rfl, q1, rfl⟩) | ((with_reducible refine (wmatch_as H1.out _).mono ?_); rintro e w1 ⟨rfl, q1, rfl⟩) | ((with_reducible refine (calls_in (wmatch_as H2.out _)).mono ?_); rintro e w1 ⟨rfl, q1, rfl⟩) | ((with_reducible refine (wmatch_as H2.out _).mono ?_); rintro e w1 ⟨rfl, q1, rfl⟩)) | (go_at_call 15; first | ((refine (calls_in (awake4_any _)).mono ?_); rintro e w1 ⟨rfl, q1, rfl⟩) | ((refine (awake4_any _).mono ?_); rintro e w1 ⟨rfl, q1, rfl⟩)))
    go_ret
    exact Ret.of (rfl) (by simp (maxDischargeDepth := 99))
set_option maxHeartbeats 8000000 in
set_option maxRecDepth 100000 in
theorem wordBoth_yes (x m y n a : B) (h : meetW x m y n = true) (w : World) : Calls Try.prog 6 #[wv x m, wv y n, av a] w (Ret (.bool true) w) := by
  obtain ⟨m1, h1⟩ : ∃ c, matchW x m a = c := ⟨_, rfl⟩
  obtain ⟨m2, h2⟩ : ∃ c, matchW y n a = c := ⟨_, rfl⟩
  have h3 := both_match h a
  rw [h1, h2] at h3
  have hc := fun w => wboth_yes h w
  have c1 := (both_covers h).1
  have c2 := (both_covers h).2
  have hr := (both_right x m y n).symm
  generalize (x &&& m ||| y &&& n) = Z at *
  generalize m ||| n = M at *
  have HM := Lib.hid h
  have H1 := Lib.hid h1
  have H2 := Lib.hid h2
  have H3 := Lib.hid h3
  have HC := Lib.hid hc
  have C1 := Lib.hid c1
  have C2 := Lib.hid c2
  have HR := Lib.hid (decide_eq_true hr)
  clear h h1 h2 h3 hc c1 c2 hr
  cases m1 <;> cases m2
  all_goals
    go_enter Try.func6, Try.ntmps6
    go_wp2_with (first | (go_at_call 23; first | ((refine (calls_in (HC.out _)).mono ?_); rintro e w1 ⟨rfl, q1, rfl⟩) | ((refine (HC.out _).mono ?_); rintro e w1 ⟨rfl, q1, rfl⟩)))
    refine region_ext _ (by first | exact Later.ext _ _ | exact Later.refl _) mixed (by kernel_rfl) ?_
    repeat (go_big_quiet_step ((first | (go_at_call 12; exact calls_in (law04of_any _ _ _)) | (go_at_call 21; exact calls_in (refwmeet_as HM.out _)))))
    refine wpQuiet_nil ?_
    rintro _ ⟨q, rfl⟩
    go_wp2_with fail
    refine region_ext _ (by first | exact Later.ext _ _ | exact Later.refl _) mixed (by kernel_rfl) ?_
    repeat (go_big_quiet_step ((first | (go_at_call 22; exact calls_in (wright_as' HR.out _)) | (go_at_call 13; first | with_reducible exact calls_in (wmatch_as H1.out _) | with_reducible exact calls_in (wmatch_as H2.out _) | with_reducible exact calls_in (wmatch_as H3.out _)) | (go_at_call 18; first | with_reducible exact calls_in (wcovers_as C1.out _) | with_reducible exact calls_in (wcovers_as C2.out _)) | (go_at_call 15; exact calls_in (awake4_any _)))))
    refine wpQuiet_nil ?_
    rintro _ ⟨q, rfl⟩
    go_wp2_with fail
    go_ret
    exact Ret.of (rfl) (by simp (maxDischargeDepth := 99))
theorem wordBoth_walk (x m y n a : B) (w : World) : Calls Try.prog 6 #[wv x m, wv y n, av a] w (Ret (.bool true) w) := by
  cases h : meetW x m y n
  · exact wordBoth_no x m y n a h w
  · exact wordBoth_yes x m y n a h w
set_option maxRecDepth 100000 in
theorem wordBoth_lifted (os : Os) (started : os.Started) (H : Type) (enc : TypeId × Value → H) :
    ReturnsInHanded {} Try.checked os 6 .any (Rows.wordBothSpec.pre6 enc Try.prog Try.f6 Rows.wordBothRow.domain false) (Rows.wordBothSpec.post enc Try.prog Try.f6 false true false false) := by
  refine returnsInHanded_of_change (C := Try.checked) own started (by kernel_rfl) Try.func6
    (ChangeSpec.witness6 (enc := enc) (C := Try.checked) false ⟨#[], #[.agg #[.int .u64 0, .int .u64 0, .int .u64 0, .int .u64 0], .agg #[.int .u64 0, .int .u64 0, .int .u64 0, .int .u64 0], .agg #[.int .u64 0, .int .u64 0]], []⟩ 8 (by kernel_rfl) (by kernel_rfl) (by kernel_rfl) (by kernel_rfl)) ?_
  intro W base args ds gs before hval0 hW hcnd _
  have hval : ∀ (j : Nat) t v, Try.f6.params[j]? = some t → args[j]? = some v → Value.okWide Try.prog W .any base t v := hval0
  have hW' := hW
  obtain ⟨p, q, hA0, hV, rfl, hfz, hnd⟩ := hW
  obtain ⟨rfl, rfl⟩ := trodVars_none hV
  rw [List.append_nil] at hW'
  have hA : DataW.TrodAll enc Try.prog W 0 (fun _ => true) true Try.f6.params.toList args.toList ds p := hA0
  have hA1 := hA
  rw [Try.params6] at hA1 hval
  obtain ⟨v0, vs0, d0, ds0, p0, q0, hargs, rfl, rfl, h0, r0⟩ := trodAll_cons hA1
  obtain ⟨v1, vs1, d1, ds1, p1, q1, rfl, rfl, rfl, h1, r1⟩ := trodAll_cons r0
  obtain ⟨v2, vs2, d2, ds2, p2, q2, rfl, rfl, rfl, h2, r2⟩ := trodAll_cons r1
  obtain ⟨rfl, rfl, rfl⟩ := trodAll_nil r2
  obtain rfl : args = #[v0, v1, v2] := by cases args; simp_all
  obtain ⟨X0, M0, rfl⟩ := open_word (hval 0 _ v0 rfl rfl) h0
  obtain ⟨X1, M1, rfl⟩ := open_word (hval 1 _ v1 rfl rfl) h1
  obtain ⟨X2, rfl⟩ := open_addr (hval 2 _ v2 rfl rfl) h2
  refine (wordBoth_walk X0 M0 X1 M1 X2 W).mono fun e W' ⟨he, hg⟩ => ?_
  subst he
  exact ⟨_, rfl, post_true laidOut (by rw [Try.params6]; intro t ht; simp at ht; first | (subst ht; exact ⟨by kernel_rfl, of_decide_eq_true (by kernel_rfl)⟩) | (rcases ht with rfl | rfl <;> exact ⟨by kernel_rfl, of_decide_eq_true (by kernel_rfl)⟩) | (rcases ht with rfl | rfl | rfl <;> exact ⟨by kernel_rfl, of_decide_eq_true (by kernel_rfl)⟩) | (rcases ht with rfl | rfl | rfl | rfl <;> exact ⟨by kernel_rfl, of_decide_eq_true (by kernel_rfl)⟩)) rfl hW' hA rfl (trodAll_cons_mk (shut_bool Try.underlying4 _) trodAll_mk0) (Later.kept hg)⟩

theorem wordBoth_holds : Rows.WordBothSaid :=
  OpenClaim.holds_of_wide 6 Try.f6 rfl rfl rfl rfl rfl rfl rfl ⟨rfl, rfl, rfl, rfl, rfl⟩ rfl rfl rfl rfl rfl (by kernel_rfl) Try.func6 (by kernel_rfl)
    (of_decide_eq_true (by kernel_rfl)) (by unfold Func.isWrapper; first | (rw [if_pos (by decide +kernel)]; kernel_rfl) | (rw [if_neg (by decide +kernel)]; exact ⟨rfl, rfl⟩))
    (fun os started H enc _ => wordBoth_lifted os started H enc)
#print axioms wordBoth_holds
end Go.Proofs.Ytecpgbkmpfijoaa
