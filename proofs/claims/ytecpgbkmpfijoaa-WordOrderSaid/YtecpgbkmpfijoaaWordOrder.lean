/- WordOrder: what covers what covers another word covers that; words that cover one another match the same. -/
import Derived.Test.YtecpgbkmpfijoaaRows
import Derived.Test.YtecpgbkmpfijoaaWord
import Derived.Test.YtecpgbkmpfijoaaOpen4
import Derived.Test.YtecpgbkmpfijoaaAwake4
namespace Go.Proofs.Ytecpgbkmpfijoaa
open Go.RowKit Pg Go.ChangeShapes Go.WideShapes Go.ChangeAt

set_option maxHeartbeats 4000000 in
set_option maxRecDepth 100000 in
theorem wordOrder_no (x m y n z l a : B) (h1 : coversW x m y n = false) (w : World) : Calls Try.prog 5 #[wv x m, wv y n, wv z l, av a] w (Ret (.bool true) w) := by
  have C1 := Lib.hid h1
  have C5 := Lib.hid (coversW_self x m)
  clear h1
  go_enter Try.func5, Try.ntmps5
  go_wp2_with (first | (go_at_call 18; first | ((refine (calls_in (wcovers_as C1.out _)).mono ?_); rintro e w1 ⟨rfl, q1, rfl⟩) | ((refine (wcovers_as C1.out _).mono ?_); rintro e w1 ⟨rfl, q1, rfl⟩)))
  refine region_ext _ (by first | exact Later.ext _ _ | exact Later.refl _) mixed (by kernel_rfl) ?_
  repeat (go_big_quiet_step ((first | (go_at_call 18; first | with_reducible exact calls_in (wcovers_as C1.out _) | with_reducible exact calls_in (wcovers_as C5.out _)) | (go_at_call 15; exact calls_in (awake4_any _)))))
  refine wpQuiet_nil ?_
  rintro _ ⟨q, rfl⟩
  go_wp2_with fail
  go_ret
  exact Ret.of (rfl) (by simp (maxDischargeDepth := 99))
set_option maxHeartbeats 8000000 in
set_option maxRecDepth 100000 in
theorem wordOrder_yes (x m y n z l a : B) (h1 : coversW x m y n = true) (w : World) : Calls Try.prog 5 #[wv x m, wv y n, wv z l, av a] w (Ret (.bool true) w) := by
  have C1 := Lib.hid h1
  have C5 := Lib.hid (coversW_self x m)
  obtain ⟨c2, h2⟩ : ∃ c, coversW y n z l = c := ⟨_, rfl⟩
  obtain ⟨m1, h4⟩ : ∃ c, matchW y n a = c := ⟨_, rfl⟩
  obtain ⟨c4, h6⟩ : ∃ c, coversW y n x m = c := ⟨_, rfl⟩
  have C3 := Lib.hid (fun h : c2 = true => coversW_trans h1 (h2.trans h))
  have H5a := Lib.hid (fun h : m1 = true => coversW_match h1 (h4.trans h))
  have H5b := Lib.hid (fun h : c4 = true => show matchW x m a = m1 by
    rw [← h4, Bool.eq_iff_iff]
    exact ⟨coversW_match (h6.trans h), coversW_match h1⟩)
  have C2 := Lib.hid h2
  have H4 := Lib.hid h4
  have C6 := Lib.hid h6
  clear h1 h2 h4 h6
  cases c2 <;> cases m1 <;> cases c4
  all_goals
    first | replace C3 := Lib.hid (C3.out rfl) | clear C3
    first | replace H5a := Lib.hid (H5a.out rfl) | clear H5a
    first | replace H5b := Lib.hid (H5b.out rfl) | clear H5b
    go_enter Try.func5, Try.ntmps5
    go_wp2_with (first | (go_at_call 18; first | ((with_reducible refine (calls_in (wcovers_as C1.out _)).mono ?_); rintro e w1 ⟨rfl, q1, rfl⟩) | ((with_reducible refine (wcovers_as C1.out _).mono ?_); rintro e w1 ⟨rfl, q1, rfl⟩) | ((with_reducible refine (calls_in (wcovers_as C2.out _)).mono ?_); rintro e w1 ⟨rfl, q1, rfl⟩) | ((with_reducible refine (wcovers_as C2.out _).mono ?_); rintro e w1 ⟨rfl, q1, rfl⟩) | ((with_reducible refine (calls_in (wcovers_as C3.out _)).mono ?_); rintro e w1 ⟨rfl, q1, rfl⟩) | ((with_reducible refine (wcovers_as C3.out _).mono ?_); rintro e w1 ⟨rfl, q1, rfl⟩)) | (go_at_call 13; first | ((with_reducible refine (calls_in (wmatch_as H4.out _)).mono ?_); rintro e w1 ⟨rfl, q1, rfl⟩) | ((with_reducible refine (wmatch_as H4.out _).mono ?_); rintro e w1 ⟨rfl, q1, rfl⟩) | ((with_reducible refine (calls_in (wmatch_as H5a.out _)).mono ?_); rintro e w1 ⟨rfl, q1, rfl⟩) | ((with_reducible refine (wmatch_as H5a.out _).mono ?_); rintro e w1 ⟨rfl, q1, rfl⟩)))
    refine region_ext _ (by first | exact Later.ext _ _ | exact Later.refl _) mixed (by kernel_rfl) ?_
    repeat (go_big_quiet_step ((first | (go_at_call 18; first | with_reducible exact calls_in (wcovers_as C1.out _) | with_reducible exact calls_in (wcovers_as C6.out _) | with_reducible exact calls_in (wcovers_as C5.out _)) | (go_at_call 13; first | with_reducible exact calls_in (wmatch_as H4.out _) | with_reducible exact calls_in (wmatch_as H5b.out _)) | (go_at_call 15; exact calls_in (awake4_any _)))))
    refine wpQuiet_nil ?_
    rintro _ ⟨q, rfl⟩
    go_wp2_with fail
    go_ret
    exact Ret.of (rfl) (by simp (maxDischargeDepth := 99))
theorem wordOrder_walk (x m y n z l a : B) (w : World) : Calls Try.prog 5 #[wv x m, wv y n, wv z l, av a] w (Ret (.bool true) w) := by
  cases h1 : coversW x m y n
  · exact wordOrder_no x m y n z l a h1 w
  · exact wordOrder_yes x m y n z l a h1 w
set_option maxRecDepth 100000 in
theorem wordOrder_lifted (os : Os) (started : os.Started) (H : Type) (enc : TypeId × Value → H) :
    ReturnsInHanded {} Try.checked os 5 .any (Rows.wordOrderSpec.pre6 enc Try.prog Try.f5 Rows.wordOrderRow.domain false) (Rows.wordOrderSpec.post enc Try.prog Try.f5 false true false false) := by
  refine returnsInHanded_of_change (C := Try.checked) own started (by kernel_rfl) Try.func5
    (ChangeSpec.witness6 (enc := enc) (C := Try.checked) false ⟨#[], #[.agg #[.int .u64 0, .int .u64 0, .int .u64 0, .int .u64 0], .agg #[.int .u64 0, .int .u64 0, .int .u64 0, .int .u64 0], .agg #[.int .u64 0, .int .u64 0, .int .u64 0, .int .u64 0], .agg #[.int .u64 0, .int .u64 0]], []⟩ 8 (by kernel_rfl) (by kernel_rfl) (by kernel_rfl) (by kernel_rfl)) ?_
  intro W base args ds gs before hval0 hW hcnd _
  have hval : ∀ (j : Nat) t v, Try.f5.params[j]? = some t → args[j]? = some v → Value.okWide Try.prog W .any base t v := hval0
  have hW' := hW
  obtain ⟨p, q, hA0, hV, rfl, hfz, hnd⟩ := hW
  obtain ⟨rfl, rfl⟩ := trodVars_none hV
  rw [List.append_nil] at hW'
  have hA : DataW.TrodAll enc Try.prog W 0 (fun _ => true) true Try.f5.params.toList args.toList ds p := hA0
  have hA1 := hA
  rw [Try.params5] at hA1 hval
  obtain ⟨v0, vs0, d0, ds0, p0, q0, hargs, rfl, rfl, h0, r0⟩ := trodAll_cons hA1
  obtain ⟨v1, vs1, d1, ds1, p1, q1, rfl, rfl, rfl, h1, r1⟩ := trodAll_cons r0
  obtain ⟨v2, vs2, d2, ds2, p2, q2, rfl, rfl, rfl, h2, r2⟩ := trodAll_cons r1
  obtain ⟨v3, vs3, d3, ds3, p3, q3, rfl, rfl, rfl, h3, r3⟩ := trodAll_cons r2
  obtain ⟨rfl, rfl, rfl⟩ := trodAll_nil r3
  obtain rfl : args = #[v0, v1, v2, v3] := by cases args; simp_all
  obtain ⟨X0, M0, rfl⟩ := open_word (hval 0 _ v0 rfl rfl) h0
  obtain ⟨X1, M1, rfl⟩ := open_word (hval 1 _ v1 rfl rfl) h1
  obtain ⟨X2, M2, rfl⟩ := open_word (hval 2 _ v2 rfl rfl) h2
  obtain ⟨X3, rfl⟩ := open_addr (hval 3 _ v3 rfl rfl) h3
  refine (wordOrder_walk X0 M0 X1 M1 X2 M2 X3 W).mono fun e W' ⟨he, hg⟩ => ?_
  subst he
  exact ⟨_, rfl, post_true laidOut (by rw [Try.params5]; intro t ht; simp at ht; first | (subst ht; exact ⟨by kernel_rfl, of_decide_eq_true (by kernel_rfl)⟩) | (rcases ht with rfl | rfl <;> exact ⟨by kernel_rfl, of_decide_eq_true (by kernel_rfl)⟩) | (rcases ht with rfl | rfl | rfl <;> exact ⟨by kernel_rfl, of_decide_eq_true (by kernel_rfl)⟩) | (rcases ht with rfl | rfl | rfl | rfl <;> exact ⟨by kernel_rfl, of_decide_eq_true (by kernel_rfl)⟩)) rfl hW' hA rfl (trodAll_cons_mk (shut_bool Try.underlying4 _) trodAll_mk0) (Later.kept hg)⟩

theorem wordOrder_holds : Rows.WordOrderSaid :=
  OpenClaim.holds_of_wide 5 Try.f5 rfl rfl rfl rfl rfl rfl rfl ⟨rfl, rfl, rfl, rfl, rfl⟩ rfl rfl rfl rfl rfl (by kernel_rfl) Try.func5 (by kernel_rfl)
    (of_decide_eq_true (by kernel_rfl)) (by unfold Func.isWrapper; first | (rw [if_pos (by decide +kernel)]; kernel_rfl) | (rw [if_neg (by decide +kernel)]; exact ⟨rfl, rfl⟩))
    (fun os started H enc _ => wordOrder_lifted os started H enc)
#print axioms wordOrder_holds
end Go.Proofs.Ytecpgbkmpfijoaa
