/- PrefixChain: what covers what covers another one covers that; two that cover one another are the same. -/
import Derived.Test.YtcooheiipplahaaRows
import Derived.Test.YtcooheiipplahaaRef02
import Derived.Test.YtcooheiipplahaaOpen2
import Derived.Test.YtcooheiipplahaaAwake2
namespace Go.Proofs.Ytcooheiipplahaa
open Go.RowKit Pg Go.ChangeShapes Go.WideShapes Go.ChangeAt

theorem cmppc_as {c : Int} {x : B} {n : Int} {y : B} {m : Int} (h : cmpP x n y m = c) (w : World) : Calls Try.prog 30 #[pv x n, pv y m] w (Ret (.int .i64 c) w) := by rw [← h]; exact cmpp_any x n y m w
set_option maxHeartbeats 2000000 in
set_option maxRecDepth 100000 in
theorem chain_same (x : B) (n : Int) (z : B) (l : Int) (h1 : rightB 128 x n = true) (h3 : rightB 128 z l = true) (w : World) : Calls Try.prog 10 #[pv x n, pv x n, pv z l] w (Ret (.bool true) w) := by
  have HC := Lib.hid ((cmpP_zero x n x n).2 ⟨rfl, rfl⟩)
  have H1 := Lib.hid h1
  have H2 := H1
  have H3 := Lib.hid h3
  have C1 := Lib.hid (show coversB x n x n = true by unfold coversB; rw [decide_eq_true (Int.le_refl n)]; exact (matchB_iff x n x).2 fun _ _ => rfl)
  clear h1 h3
  cases c2 : coversB x n z l
  · have C2 := Lib.hid c2
    clear c2
    go_enter Try.func10, Try.ntmps10
    go_wp2_with (first | (go_at_call 12; first | ((refine (calls_in (law02of_any _ _ _)).mono ?_); rintro e w1 ⟨rfl, q1, rfl⟩) | ((refine (law02of_any _ _ _).mono ?_); rintro e w1 ⟨rfl, q1, rfl⟩)) | (go_at_call 18; first | ((with_reducible refine (calls_in (refright_as H1.out _)).mono ?_); rintro e w1 ⟨rfl, q1, rfl⟩) | ((with_reducible refine (refright_as H1.out _).mono ?_); rintro e w1 ⟨rfl, q1, rfl⟩) | ((with_reducible refine (calls_in (refright_as H2.out _)).mono ?_); rintro e w1 ⟨rfl, q1, rfl⟩) | ((with_reducible refine (refright_as H2.out _).mono ?_); rintro e w1 ⟨rfl, q1, rfl⟩) | ((with_reducible refine (calls_in (refright_as H3.out _)).mono ?_); rintro e w1 ⟨rfl, q1, rfl⟩) | ((with_reducible refine (refright_as H3.out _).mono ?_); rintro e w1 ⟨rfl, q1, rfl⟩)) | (go_at_call 17; first | ((refine (calls_in (awake2_any _)).mono ?_); rintro e w1 ⟨rfl, q1, rfl⟩) | ((refine (awake2_any _).mono ?_); rintro e w1 ⟨rfl, q1, rfl⟩)))
    refine region_ext _ (by first | exact Later.ext _ _ | exact Later.refl _) mixed (by kernel_rfl) ?_
    repeat (go_big_quiet_step ((first | (go_at_call 13; first | with_reducible exact calls_in (covers_as C1.out _) | with_reducible exact calls_in (covers_as C2.out _)) | (go_at_call 30; exact calls_in (cmppc_as HC.out _)) | (go_at_call 17; exact calls_in (awake2_any _)))))
    refine wpQuiet_nil ?_
    rintro _ ⟨q, rfl⟩
    go_wp2_with fail
    go_ret
    exact Ret.of (rfl) (by simp (maxDischargeDepth := 99))
  · have C2 := Lib.hid c2
    clear c2
    go_enter Try.func10, Try.ntmps10
    go_wp2_with (first | (go_at_call 12; first | ((refine (calls_in (law02of_any _ _ _)).mono ?_); rintro e w1 ⟨rfl, q1, rfl⟩) | ((refine (law02of_any _ _ _).mono ?_); rintro e w1 ⟨rfl, q1, rfl⟩)) | (go_at_call 18; first | ((with_reducible refine (calls_in (refright_as H1.out _)).mono ?_); rintro e w1 ⟨rfl, q1, rfl⟩) | ((with_reducible refine (refright_as H1.out _).mono ?_); rintro e w1 ⟨rfl, q1, rfl⟩) | ((with_reducible refine (calls_in (refright_as H2.out _)).mono ?_); rintro e w1 ⟨rfl, q1, rfl⟩) | ((with_reducible refine (refright_as H2.out _).mono ?_); rintro e w1 ⟨rfl, q1, rfl⟩) | ((with_reducible refine (calls_in (refright_as H3.out _)).mono ?_); rintro e w1 ⟨rfl, q1, rfl⟩) | ((with_reducible refine (refright_as H3.out _).mono ?_); rintro e w1 ⟨rfl, q1, rfl⟩)) | (go_at_call 17; first | ((refine (calls_in (awake2_any _)).mono ?_); rintro e w1 ⟨rfl, q1, rfl⟩) | ((refine (awake2_any _).mono ?_); rintro e w1 ⟨rfl, q1, rfl⟩)))
    refine region_ext _ (by first | exact Later.ext _ _ | exact Later.refl _) mixed (by kernel_rfl) ?_
    repeat (go_big_quiet_step ((first | (go_at_call 13; first | with_reducible exact calls_in (covers_as C1.out _) | with_reducible exact calls_in (covers_as C2.out _)) | (go_at_call 30; exact calls_in (cmppc_as HC.out _)) | (go_at_call 17; exact calls_in (awake2_any _)))))
    refine wpQuiet_nil ?_
    rintro _ ⟨q, rfl⟩
    go_wp2_with fail
    go_ret
    exact Ret.of (rfl) (by simp (maxDischargeDepth := 99))
set_option maxHeartbeats 2000000 in
set_option maxRecDepth 100000 in
theorem chain_other (x : B) (n : Int) (y : B) (m : Int) (z : B) (l : Int) (h1 : rightB 128 x n = true) (h2 : rightB 128 y m = true) (h3 : rightB 128 z l = true) (hne : ¬ (x = y ∧ n = m)) (w : World) : Calls Try.prog 10 #[pv x n, pv y m, pv z l] w (Ret (.bool true) w) := by
  have hanti := fun h h' => hne (covers_anti h1 h2 h h')
  have htr := fun h h' => covers_trans (x := x) (n := n) (y := y) (m := m) (z := z) (l := l) h h'
  have hcz : (cmpP x n y m == 0) = false := by rw [beq_eq_false_iff_ne]; exact fun h => hne ((cmpP_zero x n y m).1 h)
  obtain ⟨c, hc⟩ : ∃ c, cmpP x n y m = c := ⟨_, rfl⟩
  rw [hc] at hcz
  have HC := Lib.hid hc
  clear hc
  have heq : (decide (x = y) && decide (n = m)) = false := by
    by_cases e : x = y
    · rw [decide_eq_false (fun e2 => hne ⟨e, e2⟩)]; simp
    · rw [decide_eq_false e]; rfl
  have H1 := Lib.hid h1
  have H2 := Lib.hid h2
  have H3 := Lib.hid h3
  clear h1 h2 h3
  cases c1 : coversB x n y m
  · have C1 := Lib.hid c1
    clear c1 hanti htr
    rcases Classical.not_and_iff_not_or_not.1 hne with e | e
    all_goals
      clear hne heq
      go_enter Try.func10, Try.ntmps10
      go_wp2_with (first | (go_at_call 12; first | ((refine (calls_in (law02of_any _ _ _)).mono ?_); rintro e w1 ⟨rfl, q1, rfl⟩) | ((refine (law02of_any _ _ _).mono ?_); rintro e w1 ⟨rfl, q1, rfl⟩)) | (go_at_call 18; first | ((with_reducible refine (calls_in (refright_as H1.out _)).mono ?_); rintro e w1 ⟨rfl, q1, rfl⟩) | ((with_reducible refine (refright_as H1.out _).mono ?_); rintro e w1 ⟨rfl, q1, rfl⟩) | ((with_reducible refine (calls_in (refright_as H2.out _)).mono ?_); rintro e w1 ⟨rfl, q1, rfl⟩) | ((with_reducible refine (refright_as H2.out _).mono ?_); rintro e w1 ⟨rfl, q1, rfl⟩) | ((with_reducible refine (calls_in (refright_as H3.out _)).mono ?_); rintro e w1 ⟨rfl, q1, rfl⟩) | ((with_reducible refine (refright_as H3.out _).mono ?_); rintro e w1 ⟨rfl, q1, rfl⟩)) | (go_at_call 17; first | ((refine (calls_in (awake2_any _)).mono ?_); rintro e w1 ⟨rfl, q1, rfl⟩) | ((refine (awake2_any _).mono ?_); rintro e w1 ⟨rfl, q1, rfl⟩)))
      refine region_ext _ (by first | exact Later.ext _ _ | exact Later.refl _) mixed (by kernel_rfl) ?_
      repeat (go_big_quiet_step ((first | (go_at_call 13; exact calls_in (covers_as C1.out _)) | (go_at_call 30; exact calls_in (cmppc_as HC.out _)) | (go_at_call 17; exact calls_in (awake2_any _)))))
      refine wpQuiet_nil ?_
      rintro _ ⟨q, rfl⟩
      go_wp2_with fail
      go_ret
      exact Ret.of (rfl) (by simp (maxDischargeDepth := 99))
  · cases c4 : coversB y m x n
    · have C4 := Lib.hid c4
      clear c4 hanti
      cases c2 : coversB y m z l
      · have C1 := Lib.hid c1
        have C2 := Lib.hid c2
        clear c1 c2 htr
        rcases Classical.not_and_iff_not_or_not.1 hne with e | e
        all_goals
          clear hne heq
          go_enter Try.func10, Try.ntmps10
          go_wp2_with (first | (go_at_call 12; first | ((refine (calls_in (law02of_any _ _ _)).mono ?_); rintro e w1 ⟨rfl, q1, rfl⟩) | ((refine (law02of_any _ _ _).mono ?_); rintro e w1 ⟨rfl, q1, rfl⟩)) | (go_at_call 18; first | ((with_reducible refine (calls_in (refright_as H1.out _)).mono ?_); rintro e w1 ⟨rfl, q1, rfl⟩) | ((with_reducible refine (refright_as H1.out _).mono ?_); rintro e w1 ⟨rfl, q1, rfl⟩) | ((with_reducible refine (calls_in (refright_as H2.out _)).mono ?_); rintro e w1 ⟨rfl, q1, rfl⟩) | ((with_reducible refine (refright_as H2.out _).mono ?_); rintro e w1 ⟨rfl, q1, rfl⟩) | ((with_reducible refine (calls_in (refright_as H3.out _)).mono ?_); rintro e w1 ⟨rfl, q1, rfl⟩) | ((with_reducible refine (refright_as H3.out _).mono ?_); rintro e w1 ⟨rfl, q1, rfl⟩)) | (go_at_call 17; first | ((refine (calls_in (awake2_any _)).mono ?_); rintro e w1 ⟨rfl, q1, rfl⟩) | ((refine (awake2_any _).mono ?_); rintro e w1 ⟨rfl, q1, rfl⟩)))
          refine region_ext _ (by first | exact Later.ext _ _ | exact Later.refl _) mixed (by kernel_rfl) ?_
          repeat (go_big_quiet_step ((first | (go_at_call 13; first | with_reducible exact calls_in (covers_as C1.out _) | with_reducible exact calls_in (covers_as C2.out _) | with_reducible exact calls_in (covers_as C4.out _)) | (go_at_call 30; exact calls_in (cmppc_as HC.out _)) | (go_at_call 17; exact calls_in (awake2_any _)))))
          refine wpQuiet_nil ?_
          rintro _ ⟨q, rfl⟩
          go_wp2_with fail
          go_ret
          exact Ret.of (rfl) (by simp (maxDischargeDepth := 99))
      · have C3 := Lib.hid (htr c1 c2)
        have C1 := Lib.hid c1
        have C2 := Lib.hid c2
        clear c1 c2 htr
        rcases Classical.not_and_iff_not_or_not.1 hne with e | e
        all_goals
          clear hne heq
          go_enter Try.func10, Try.ntmps10
          go_wp2_with (first | (go_at_call 12; first | ((refine (calls_in (law02of_any _ _ _)).mono ?_); rintro e w1 ⟨rfl, q1, rfl⟩) | ((refine (law02of_any _ _ _).mono ?_); rintro e w1 ⟨rfl, q1, rfl⟩)) | (go_at_call 18; first | ((with_reducible refine (calls_in (refright_as H1.out _)).mono ?_); rintro e w1 ⟨rfl, q1, rfl⟩) | ((with_reducible refine (refright_as H1.out _).mono ?_); rintro e w1 ⟨rfl, q1, rfl⟩) | ((with_reducible refine (calls_in (refright_as H2.out _)).mono ?_); rintro e w1 ⟨rfl, q1, rfl⟩) | ((with_reducible refine (refright_as H2.out _).mono ?_); rintro e w1 ⟨rfl, q1, rfl⟩) | ((with_reducible refine (calls_in (refright_as H3.out _)).mono ?_); rintro e w1 ⟨rfl, q1, rfl⟩) | ((with_reducible refine (refright_as H3.out _).mono ?_); rintro e w1 ⟨rfl, q1, rfl⟩)) | (go_at_call 17; first | ((refine (calls_in (awake2_any _)).mono ?_); rintro e w1 ⟨rfl, q1, rfl⟩) | ((refine (awake2_any _).mono ?_); rintro e w1 ⟨rfl, q1, rfl⟩)))
          refine region_ext _ (by first | exact Later.ext _ _ | exact Later.refl _) mixed (by kernel_rfl) ?_
          repeat (go_big_quiet_step ((first | (go_at_call 13; first | with_reducible exact calls_in (covers_as C1.out _) | with_reducible exact calls_in (covers_as C2.out _) | with_reducible exact calls_in (covers_as C3.out _) | with_reducible exact calls_in (covers_as C4.out _)) | (go_at_call 30; exact calls_in (cmppc_as HC.out _)) | (go_at_call 17; exact calls_in (awake2_any _)))))
          refine wpQuiet_nil ?_
          rintro _ ⟨q, rfl⟩
          go_wp2_with fail
          go_ret
          exact Ret.of (rfl) (by simp (maxDischargeDepth := 99))
    · exact absurd (hanti c1 c4) id
set_option maxHeartbeats 2000000 in
set_option maxRecDepth 100000 in
theorem prefixChain_walk (x : B) (n : Int) (_ : -9223372036854775808 ≤ n) (_ : n ≤ 9223372036854775807) (y : B) (m : Int) (_ : -9223372036854775808 ≤ m) (_ : m ≤ 9223372036854775807) (z : B) (l : Int) (_ : -9223372036854775808 ≤ l) (_ : l ≤ 9223372036854775807) (w : World) : Calls Try.prog 10 #[pv x n, pv y m, pv z l] w (Ret (.bool true) w) := by
  cases h1 : rightB 128 x n
  · have H1 := Lib.hid h1
    clear h1
    go_enter Try.func10, Try.ntmps10
    go_wp2_with (first | (go_at_call 12; first | ((refine (calls_in (law02of_any _ _ _)).mono ?_); rintro e w1 ⟨rfl, q1, rfl⟩) | ((refine (law02of_any _ _ _).mono ?_); rintro e w1 ⟨rfl, q1, rfl⟩)) | (go_at_call 18; first | ((refine (calls_in (refright_as H1.out _)).mono ?_); rintro e w1 ⟨rfl, q1, rfl⟩) | ((refine (refright_as H1.out _).mono ?_); rintro e w1 ⟨rfl, q1, rfl⟩)) | (go_at_call 17; first | ((refine (calls_in (awake2_any _)).mono ?_); rintro e w1 ⟨rfl, q1, rfl⟩) | ((refine (awake2_any _).mono ?_); rintro e w1 ⟨rfl, q1, rfl⟩)))
    go_ret
    exact Ret.of (rfl) (by simp (maxDischargeDepth := 99))
  cases h2 : rightB 128 y m
  · have H1 := Lib.hid h1
    have H2 := Lib.hid h2
    clear h1 h2
    go_enter Try.func10, Try.ntmps10
    go_wp2_with (first | (go_at_call 12; first | ((refine (calls_in (law02of_any _ _ _)).mono ?_); rintro e w1 ⟨rfl, q1, rfl⟩) | ((refine (law02of_any _ _ _).mono ?_); rintro e w1 ⟨rfl, q1, rfl⟩)) | (go_at_call 18; first | ((with_reducible refine (calls_in (refright_as H1.out _)).mono ?_); rintro e w1 ⟨rfl, q1, rfl⟩) | ((with_reducible refine (refright_as H1.out _).mono ?_); rintro e w1 ⟨rfl, q1, rfl⟩) | ((with_reducible refine (calls_in (refright_as H2.out _)).mono ?_); rintro e w1 ⟨rfl, q1, rfl⟩) | ((with_reducible refine (refright_as H2.out _).mono ?_); rintro e w1 ⟨rfl, q1, rfl⟩)) | (go_at_call 17; first | ((refine (calls_in (awake2_any _)).mono ?_); rintro e w1 ⟨rfl, q1, rfl⟩) | ((refine (awake2_any _).mono ?_); rintro e w1 ⟨rfl, q1, rfl⟩)))
    go_ret
    exact Ret.of (rfl) (by simp (maxDischargeDepth := 99))
  cases h3 : rightB 128 z l
  · have H1 := Lib.hid h1
    have H2 := Lib.hid h2
    have H3 := Lib.hid h3
    clear h1 h2 h3
    go_enter Try.func10, Try.ntmps10
    go_wp2_with (first | (go_at_call 12; first | ((refine (calls_in (law02of_any _ _ _)).mono ?_); rintro e w1 ⟨rfl, q1, rfl⟩) | ((refine (law02of_any _ _ _).mono ?_); rintro e w1 ⟨rfl, q1, rfl⟩)) | (go_at_call 18; first | ((with_reducible refine (calls_in (refright_as H1.out _)).mono ?_); rintro e w1 ⟨rfl, q1, rfl⟩) | ((with_reducible refine (refright_as H1.out _).mono ?_); rintro e w1 ⟨rfl, q1, rfl⟩) | ((with_reducible refine (calls_in (refright_as H2.out _)).mono ?_); rintro e w1 ⟨rfl, q1, rfl⟩) | ((with_reducible refine (refright_as H2.out _).mono ?_); rintro e w1 ⟨rfl, q1, rfl⟩) | ((with_reducible refine (calls_in (refright_as H3.out _)).mono ?_); rintro e w1 ⟨rfl, q1, rfl⟩) | ((with_reducible refine (refright_as H3.out _).mono ?_); rintro e w1 ⟨rfl, q1, rfl⟩)) | (go_at_call 17; first | ((refine (calls_in (awake2_any _)).mono ?_); rintro e w1 ⟨rfl, q1, rfl⟩) | ((refine (awake2_any _).mono ?_); rintro e w1 ⟨rfl, q1, rfl⟩)))
    go_ret
    exact Ret.of (rfl) (by simp (maxDischargeDepth := 99))
  by_cases he : x = y ∧ n = m
  · obtain ⟨rfl, rfl⟩ := he
    exact chain_same x n z l h1 h3 w
  · exact chain_other x n y m z l h1 h2 h3 he w
set_option maxRecDepth 100000 in
theorem prefixChain_lifted (os : Os) (started : os.Started) (H : Type) (enc : TypeId × Value → H) :
    ReturnsInHanded {} Try.checked os 10 .any (Rows.prefixChainSpec.pre6 enc Try.prog Try.f10 Rows.prefixChainRow.domain false) (Rows.prefixChainSpec.post enc Try.prog Try.f10 false true false false) := by
  refine returnsInHanded_of_change (C := Try.checked) own started (by kernel_rfl) Try.func10
    (ChangeSpec.witness6 (enc := enc) (C := Try.checked) false ⟨#[], #[.agg #[.int .u64 0, .int .u64 0, .int .i64 0], .agg #[.int .u64 0, .int .u64 0, .int .i64 0], .agg #[.int .u64 0, .int .u64 0, .int .i64 0]], []⟩ 8 (by kernel_rfl) (by kernel_rfl) (by kernel_rfl) (by kernel_rfl)) ?_
  intro W base args ds gs before hval0 hW hcnd _
  have hval : ∀ (j : Nat) t v, Try.f10.params[j]? = some t → args[j]? = some v → Value.okWide Try.prog W .any base t v := hval0
  have hW' := hW
  obtain ⟨p, q, hA0, hV, rfl, hfz, hnd⟩ := hW
  obtain ⟨rfl, rfl⟩ := trodVars_none hV
  rw [List.append_nil] at hW'
  have hA : DataW.TrodAll enc Try.prog W 0 (fun _ => true) true Try.f10.params.toList args.toList ds p := hA0
  have hA1 := hA
  rw [Try.params10] at hA1 hval
  obtain ⟨v0, vs0, d0, ds0, p0, q0, hargs, rfl, rfl, h0, r0⟩ := trodAll_cons hA1
  obtain ⟨v1, vs1, d1, ds1, p1, q1, rfl, rfl, rfl, h1, r1⟩ := trodAll_cons r0
  obtain ⟨v2, vs2, d2, ds2, p2, q2, rfl, rfl, rfl, h2, r2⟩ := trodAll_cons r1
  obtain ⟨rfl, rfl, rfl⟩ := trodAll_nil r2
  obtain rfl : args = #[v0, v1, v2] := by cases args; simp_all
  obtain ⟨X0, N0, rfl, a0, b0⟩ := open_prefix (hval 0 _ v0 rfl rfl) h0
  obtain ⟨X1, N1, rfl, a1, b1⟩ := open_prefix (hval 1 _ v1 rfl rfl) h1
  obtain ⟨X2, N2, rfl, a2, b2⟩ := open_prefix (hval 2 _ v2 rfl rfl) h2
  refine (prefixChain_walk X0 N0 a0 b0 X1 N1 a1 b1 X2 N2 a2 b2 W).mono fun e W' ⟨he, hg⟩ => ?_
  subst he
  exact ⟨_, rfl, post_true laidOut (by rw [Try.params10]; intro t ht; simp at ht; first | (subst ht; exact ⟨by kernel_rfl, of_decide_eq_true (by kernel_rfl)⟩) | (rcases ht with rfl | rfl <;> exact ⟨by kernel_rfl, of_decide_eq_true (by kernel_rfl)⟩) | (rcases ht with rfl | rfl | rfl <;> exact ⟨by kernel_rfl, of_decide_eq_true (by kernel_rfl)⟩) | (rcases ht with rfl | rfl | rfl | rfl <;> exact ⟨by kernel_rfl, of_decide_eq_true (by kernel_rfl)⟩)) rfl hW' hA rfl (trodAll_cons_mk (shut_bool Try.underlying4 _) trodAll_mk0) (Later.kept hg)⟩

theorem prefixChain_holds : Rows.PrefixChainSaid :=
  OpenClaim.holds_of_wide 10 Try.f10 rfl rfl rfl rfl rfl rfl rfl ⟨rfl, rfl, rfl, rfl, rfl⟩ rfl rfl rfl rfl rfl (by kernel_rfl) Try.func10 (by kernel_rfl)
    (of_decide_eq_true (by kernel_rfl)) (by unfold Func.isWrapper; first | (rw [if_pos (by decide +kernel)]; kernel_rfl) | (rw [if_neg (by decide +kernel)]; exact ⟨rfl, rfl⟩))
    (fun os started H enc _ => prefixChain_lifted os started H enc)
#print axioms prefixChain_holds
end Go.Proofs.Ytcooheiipplahaa
