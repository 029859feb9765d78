/- PloGaps: whether slots keep the order, how many lengths they have, and the gap of a length, is the reference's. -/
import Derived.Test.YtdlikcdmhgbolaaRows
import Derived.Test.YtdlikcdmhgbolaaAwake12
import Derived.Test.YtdlikcdmhgbolaaOpenEnt
namespace Go.Proofs.Ytdlikcdmhgbolaa
open Go.RowKit Pg Go.ChangeShapes Go.WideShapes Go.ChangeAt

set_option maxHeartbeats 2000000 in
set_option maxRecDepth 100000 in
theorem ploGaps_walk (l : List Slot) (v : Value) (n : Int) (_ : -9223372036854775808 ≤ n) (_ : n ≤ 9223372036854775807) (w : World) (hl : Els w v 7 Slot.cells l) (hok : ∀ s ∈ l, okS s) : Calls Try.prog 4 #[v, .int .i64 n] w (Ret (.bool true) w) := by
  by_cases hn : l.length ≤ 24
  · have HE := Lib.hid hl
    have g1 : ¬ (24 : Int) < (l.length : Int) := by omega
    have g2 : decide ((24 : Int) < (l.length : Int)) = false := by simp; omega
    have hof := Lib.hid (fun W (h : Els W v 7 Slot.cells l) => law08of_any W h (by omega))
    obtain ⟨N, hN⟩ : ∃ N : Int, (lensN l : Int) = N := ⟨_, rfl⟩
    have hll := Lib.hid (fun W (h : Els W v 7 Slot.cells l) => show Calls Try.prog 18 #[v] W (Ret (.int .i64 N) W) by rw [← hN]; exact plolens_any W h (by omega) (okS_len hok))
    have hlr := Lib.hid (fun W u (h : Els W u 7 Slot.cells l) => show Calls Try.prog 19 #[u] W (Ret (.int .i64 N) W) by rw [← hN]; exact reflens_any W h (by omega))
    cases hk : keptS l
    · have hkp := Lib.hid (fun W (h : Els W v 7 Slot.cells l) => plokept_as hk W h (by omega))
      have hkr := Lib.hid (fun W u (h : Els W u 7 Slot.cells l) => show Calls Try.prog 16 #[u] W (Ret (.bool false) W) by rw [← hk]; exact refkept_any W h (by omega))
      have hga := Lib.hid (fun W (h : Els W v 7 Slot.cells l) => show Calls Try.prog 15 #[v, .int .i64 n] W (Ret (.tuple #[.int .i64 0, .int .i64 0]) W) by
        have := plogap_any n W h (by omega); rwa [hk] at this)
      obtain ⟨a, c, rfl, hc, he⟩ := hl.form
      clear hl he hk hok hN
      go_enter Try.func4, Try.ntmps4
      go_wp2_with fail
      refine (hof.out _ HE.out).mono ?_
      rintro e w1 hR
      obtain ⟨a1, c1, rfl, hlc1, hown1, hels1⟩ := RetEls.out2 Slot.cells_len hR
      have HE1 := Lib.hid hels1
      have HK1 := Lib.hid hown1.1
      clear hown1 hels1 hR
      have HL := Lib.hid (HE.out.kept HK1.out)
      go_wp2_with (first | (go_at_call 15; first | ((with_reducible refine (calls_in (hga.out _ HL.out)).mono ?_); rintro e w1 ⟨rfl, q1, rfl⟩) | ((with_reducible refine (hga.out _ HL.out).mono ?_); rintro e w1 ⟨rfl, q1, rfl⟩) | ((with_reducible refine (calls_in (hga.out _ (HL.out.kept (kept_extP _ _)))).mono ?_); rintro e w1 ⟨rfl, q1, rfl⟩) | ((with_reducible refine (hga.out _ (HL.out.kept (kept_extP _ _))).mono ?_); rintro e w1 ⟨rfl, q1, rfl⟩)) | (go_at_call 16; first | ((with_reducible refine (calls_in (hkr.out _ _ HE1.out)).mono ?_); rintro e w1 ⟨rfl, q1, rfl⟩) | ((with_reducible refine (hkr.out _ _ HE1.out).mono ?_); rintro e w1 ⟨rfl, q1, rfl⟩) | ((with_reducible refine (calls_in (hkr.out _ _ (HE1.out.kept (kept_extP _ _)))).mono ?_); rintro e w1 ⟨rfl, q1, rfl⟩) | ((with_reducible refine (hkr.out _ _ (HE1.out.kept (kept_extP _ _))).mono ?_); rintro e w1 ⟨rfl, q1, rfl⟩)) | (go_at_call 17; first | ((with_reducible refine (calls_in (hkp.out _ HL.out)).mono ?_); rintro e w1 ⟨rfl, q1, rfl⟩) | ((with_reducible refine (hkp.out _ HL.out).mono ?_); rintro e w1 ⟨rfl, q1, rfl⟩) | ((with_reducible refine (calls_in (hkp.out _ (HL.out.kept (kept_extP _ _)))).mono ?_); rintro e w1 ⟨rfl, q1, rfl⟩) | ((with_reducible refine (hkp.out _ (HL.out.kept (kept_extP _ _))).mono ?_); rintro e w1 ⟨rfl, q1, rfl⟩)) | (go_at_call 18; first | ((with_reducible refine (calls_in (hll.out _ HL.out)).mono ?_); rintro e w1 ⟨rfl, q1, rfl⟩) | ((with_reducible refine (hll.out _ HL.out).mono ?_); rintro e w1 ⟨rfl, q1, rfl⟩) | ((with_reducible refine (calls_in (hll.out _ (HL.out.kept (kept_extP _ _)))).mono ?_); rintro e w1 ⟨rfl, q1, rfl⟩) | ((with_reducible refine (hll.out _ (HL.out.kept (kept_extP _ _))).mono ?_); rintro e w1 ⟨rfl, q1, rfl⟩)) | (go_at_call 19; first | ((with_reducible refine (calls_in (hlr.out _ _ HE1.out)).mono ?_); rintro e w1 ⟨rfl, q1, rfl⟩) | ((with_reducible refine (hlr.out _ _ HE1.out).mono ?_); rintro e w1 ⟨rfl, q1, rfl⟩) | ((with_reducible refine (calls_in (hlr.out _ _ (HE1.out.kept (kept_extP _ _)))).mono ?_); rintro e w1 ⟨rfl, q1, rfl⟩) | ((with_reducible refine (hlr.out _ _ (HE1.out.kept (kept_extP _ _))).mono ?_); rintro e w1 ⟨rfl, q1, rfl⟩)) | (go_at_call 8; first | ((refine (calls_in (awake12_ok _)).mono ?_); rintro e w1 ⟨rfl, q1, rfl⟩) | ((refine (awake12_ok _).mono ?_); rintro e w1 ⟨rfl, q1, rfl⟩)))
      go_ret
      exact Ret.of (rfl) (by simp (maxDischargeDepth := 99) [HK1.out])
    · obtain ⟨F, hF⟩ : ∃ F, fromS n l = F := ⟨_, rfl⟩
      obtain ⟨T, hT⟩ : ∃ T, toS n l = T := ⟨_, rfl⟩
      have hFT : F ≤ T := by rw [← hF, ← hT]; exact gap_le hk
      have k1 : (F : Int) ≤ (T : Int) := by omega
      have k2 : decide ((F : Int) ≤ (T : Int)) = true := by simp; omega
      have hkp := Lib.hid (fun W (h : Els W v 7 Slot.cells l) => plokept_as hk W h (by omega))
      have hkr := Lib.hid (fun W u (h : Els W u 7 Slot.cells l) => show Calls Try.prog 16 #[u] W (Ret (.bool true) W) by rw [← hk]; exact refkept_any W h (by omega))
      have hga := Lib.hid (fun W (h : Els W v 7 Slot.cells l) => gap_as hk hF hT W h (by omega))
      have hgr := Lib.hid (fun W u (h : Els W u 7 Slot.cells l) => show Calls Try.prog 20 #[u, .int .i64 n] W (Ret (.tuple #[.int .i64 (F : Int), .int .i64 (T : Int)]) W) by
        have := refgap_any n W h (by omega); rwa [hF, hT] at this)
      obtain ⟨a, c, rfl, hc, he⟩ := hl.form
      clear hl he hk hok hN hF hT
      go_enter Try.func4, Try.ntmps4
      go_wp2_with fail
      refine (hof.out _ HE.out).mono ?_
      rintro e w1 hR
      obtain ⟨a1, c1, rfl, hlc1, hown1, hels1⟩ := RetEls.out2 Slot.cells_len hR
      have HE1 := Lib.hid hels1
      have HK1 := Lib.hid hown1.1
      clear hown1 hels1 hR
      have HL := Lib.hid (HE.out.kept HK1.out)
      go_wp2_with (first | (go_at_call 15; first | ((with_reducible refine (calls_in (hga.out _ HL.out)).mono ?_); rintro e w1 ⟨rfl, q1, rfl⟩) | ((with_reducible refine (hga.out _ HL.out).mono ?_); rintro e w1 ⟨rfl, q1, rfl⟩) | ((with_reducible refine (calls_in (hga.out _ (HL.out.kept (kept_extP _ _)))).mono ?_); rintro e w1 ⟨rfl, q1, rfl⟩) | ((with_reducible refine (hga.out _ (HL.out.kept (kept_extP _ _))).mono ?_); rintro e w1 ⟨rfl, q1, rfl⟩)) | (go_at_call 20; first | ((with_reducible refine (calls_in (hgr.out _ _ HE1.out)).mono ?_); rintro e w1 ⟨rfl, q1, rfl⟩) | ((with_reducible refine (hgr.out _ _ HE1.out).mono ?_); rintro e w1 ⟨rfl, q1, rfl⟩) | ((with_reducible refine (calls_in (hgr.out _ _ (HE1.out.kept (kept_extP _ _)))).mono ?_); rintro e w1 ⟨rfl, q1, rfl⟩) | ((with_reducible refine (hgr.out _ _ (HE1.out.kept (kept_extP _ _))).mono ?_); rintro e w1 ⟨rfl, q1, rfl⟩)) | (go_at_call 16; first | ((with_reducible refine (calls_in (hkr.out _ _ HE1.out)).mono ?_); rintro e w1 ⟨rfl, q1, rfl⟩) | ((with_reducible refine (hkr.out _ _ HE1.out).mono ?_); rintro e w1 ⟨rfl, q1, rfl⟩) | ((with_reducible refine (calls_in (hkr.out _ _ (HE1.out.kept (kept_extP _ _)))).mono ?_); rintro e w1 ⟨rfl, q1, rfl⟩) | ((with_reducible refine (hkr.out _ _ (HE1.out.kept (kept_extP _ _))).mono ?_); rintro e w1 ⟨rfl, q1, rfl⟩)) | (go_at_call 17; first | ((with_reducible refine (calls_in (hkp.out _ HL.out)).mono ?_); rintro e w1 ⟨rfl, q1, rfl⟩) | ((with_reducible refine (hkp.out _ HL.out).mono ?_); rintro e w1 ⟨rfl, q1, rfl⟩) | ((with_reducible refine (calls_in (hkp.out _ (HL.out.kept (kept_extP _ _)))).mono ?_); rintro e w1 ⟨rfl, q1, rfl⟩) | ((with_reducible refine (hkp.out _ (HL.out.kept (kept_extP _ _))).mono ?_); rintro e w1 ⟨rfl, q1, rfl⟩)) | (go_at_call 18; first | ((with_reducible refine (calls_in (hll.out _ HL.out)).mono ?_); rintro e w1 ⟨rfl, q1, rfl⟩) | ((with_reducible refine (hll.out _ HL.out).mono ?_); rintro e w1 ⟨rfl, q1, rfl⟩) | ((with_reducible refine (calls_in (hll.out _ (HL.out.kept (kept_extP _ _)))).mono ?_); rintro e w1 ⟨rfl, q1, rfl⟩) | ((with_reducible refine (hll.out _ (HL.out.kept (kept_extP _ _))).mono ?_); rintro e w1 ⟨rfl, q1, rfl⟩)) | (go_at_call 19; first | ((with_reducible refine (calls_in (hlr.out _ _ HE1.out)).mono ?_); rintro e w1 ⟨rfl, q1, rfl⟩) | ((with_reducible refine (hlr.out _ _ HE1.out).mono ?_); rintro e w1 ⟨rfl, q1, rfl⟩) | ((with_reducible refine (calls_in (hlr.out _ _ (HE1.out.kept (kept_extP _ _)))).mono ?_); rintro e w1 ⟨rfl, q1, rfl⟩) | ((with_reducible refine (hlr.out _ _ (HE1.out.kept (kept_extP _ _))).mono ?_); rintro e w1 ⟨rfl, q1, rfl⟩)) | (go_at_call 8; first | ((refine (calls_in (awake12_ok _)).mono ?_); rintro e w1 ⟨rfl, q1, rfl⟩) | ((refine (awake12_ok _).mono ?_); rintro e w1 ⟨rfl, q1, rfl⟩)))
      go_ret
      exact Ret.of (rfl) (by simp (maxDischargeDepth := 99) [HK1.out])
  · have g1 : (24 : Int) < (l.length : Int) := by omega
    have g2 : decide ((24 : Int) < (l.length : Int)) = true := by simp; omega
    obtain ⟨a, c, rfl, hc, he⟩ := hl.form
    clear hl he hn hok
    go_enter Try.func4, Try.ntmps4
    go_wp2_with (first | (go_at_call 8; first | ((refine (calls_in (awake12_ok _)).mono ?_); rintro e w1 ⟨rfl, q1, rfl⟩) | ((refine (awake12_ok _).mono ?_); rintro e w1 ⟨rfl, q1, rfl⟩)))
    go_ret
    exact Ret.of (rfl) (by simp (maxDischargeDepth := 99))
set_option maxRecDepth 100000 in
theorem ploGaps_lifted (os : Os) (started : os.Started) (H : Type) (enc : TypeId × Value → H) :
    ReturnsInHanded {} Try.checked os 4 .any (Rows.ploGapsSpec.pre6 enc Try.prog Try.f4 Rows.ploGapsRow.domain false) (Rows.ploGapsSpec.post enc Try.prog Try.f4 false true false false) := by
  refine returnsInHanded_of_change (C := Try.checked) own started (by kernel_rfl) Try.func4
    (ChangeSpec.witness6 (enc := enc) (C := Try.checked) false ⟨#[], #[.slice none 0 0, .int .i64 0], []⟩ 8 (by kernel_rfl) (by kernel_rfl) (by kernel_rfl) (by kernel_rfl)) ?_
  intro W base args ds gs before hval0 hW hcnd _
  have hval : ∀ (j : Nat) t v, Try.f4.params[j]? = some t → args[j]? = some v → Value.okWide Try.prog W .any base t v := hval0
  have hW' := hW
  obtain ⟨p, q, hA0, hV, rfl, hfz, hnd⟩ := hW
  obtain ⟨rfl, rfl⟩ := trodVars_none hV
  rw [List.append_nil] at hW'
  have hA : DataW.TrodAll enc Try.prog W 0 (fun _ => true) true Try.f4.params.toList args.toList ds p := hA0
  have hA1 := hA
  rw [Try.params4] at hA1 hval
  obtain ⟨v0, vs0, d0, ds0, p0, q0, hargs, rfl, rfl, h0, r0⟩ := trodAll_cons hA1
  obtain ⟨v1, vs1, d1, ds1, p1, q1, rfl, rfl, rfl, h1, r1⟩ := trodAll_cons r0
  obtain ⟨rfl, rfl, rfl⟩ := trodAll_nil r1
  obtain rfl : args = #[v0, v1] := by cases args; simp_all
  obtain ⟨L0, E0, O0⟩ := open_slots (hval 0 _ v0 rfl rfl) h0
  obtain ⟨X1, rfl, rfl, rfl, w1⟩ := open_int Try.underlying3 (hval 1 _ v1 rfl rfl) h1
  refine (ploGaps_walk L0 v0 X1 (wf_i64' w1).1 (wf_i64' w1).2 W E0 O0).mono fun e W' ⟨he, hg⟩ => ?_
  subst he
  exact ⟨_, rfl, post_true laidOut (by rw [Try.params4]; intro t ht; simp at ht; first | (subst ht; exact ⟨by kernel_rfl, of_decide_eq_true (by kernel_rfl)⟩) | (rcases ht with rfl | rfl <;> exact ⟨by kernel_rfl, of_decide_eq_true (by kernel_rfl)⟩) | (rcases ht with rfl | rfl | rfl <;> exact ⟨by kernel_rfl, of_decide_eq_true (by kernel_rfl)⟩) | (rcases ht with rfl | rfl | rfl | rfl <;> exact ⟨by kernel_rfl, of_decide_eq_true (by kernel_rfl)⟩)) rfl hW' hA rfl (trodAll_cons_mk (shut_bool Try.underlying4 _) trodAll_mk0) (Later.kept hg)⟩

theorem ploGaps_holds : Rows.PloGapsSaid :=
  OpenClaim.holds_of_wide 4 Try.f4 rfl rfl rfl rfl rfl rfl rfl ⟨rfl, rfl, rfl, rfl, rfl⟩ rfl rfl rfl rfl rfl (by kernel_rfl) Try.func4 (by kernel_rfl)
    (of_decide_eq_true (by kernel_rfl)) (by unfold Func.isWrapper; first | (rw [if_pos (by decide +kernel)]; kernel_rfl) | (rw [if_neg (by decide +kernel)]; exact ⟨rfl, rfl⟩))
    (fun os started H enc _ => ploGaps_lifted os started H enc)
#print axioms ploGaps_holds
end Go.Proofs.Ytdlikcdmhgbolaa
