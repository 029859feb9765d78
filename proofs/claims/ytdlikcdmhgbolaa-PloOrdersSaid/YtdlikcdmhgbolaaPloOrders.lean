/- PloOrders: slots that keep the order of lengths are ordered; there are no more lengths than valid slots. -/
import Derived.Test.YtdlikcdmhgbolaaRows
import Derived.Test.YtdlikcdmhgbolaaAwake12
import Derived.Test.YtdlikcdmhgbolaaOpenEnt
namespace Go.Proofs.Ytdlikcdmhgbolaa
open Go.RowKit Pg Go.ChangeShapes Go.WideShapes Go.ChangeAt

set_option maxHeartbeats 2000000 in
set_option maxRecDepth 100000 in
theorem ploOrders_walk (l : List Slot) (v : Value) (w : World) (hl : Els w v 7 Slot.cells l) (hok : ∀ s ∈ l, okS s) : Calls Try.prog 6 #[v] w (Ret (.bool true) w) := by
  by_cases hn : l.length ≤ 24
  · have HE := Lib.hid hl
    have g1 : ¬ (24 : Int) < (l.length : Int) := by omega
    have g2 : decide ((24 : Int) < (l.length : Int)) = false := by simp; omega
    cases hk : keptS l
    · have hkp := Lib.hid (fun W (h : Els W v 7 Slot.cells l) => plokept_as hk W h (by omega))
      obtain ⟨a, c, rfl, hc, he⟩ := hl.form
      clear hl he hk hok
      go_enter Try.func6, Try.ntmps6
      go_wp2_with (first | (go_at_call 17; first | ((refine (calls_in (hkp.out _ HE.out)).mono ?_); rintro e w1 ⟨rfl, q1, rfl⟩) | ((refine (hkp.out _ HE.out).mono ?_); rintro e w1 ⟨rfl, q1, rfl⟩)) | (go_at_call 8; first | ((refine (calls_in (awake12_ok _)).mono ?_); rintro e w1 ⟨rfl, q1, rfl⟩) | ((refine (awake12_ok _).mono ?_); rintro e w1 ⟨rfl, q1, rfl⟩)))
      go_ret
      exact Ret.of (rfl) (by simp (maxDischargeDepth := 99))
    · have hkp := Lib.hid (fun W (h : Els W v 7 Slot.cells l) => plokept_as hk W h (by omega))
      have hof := Lib.hid (fun W (h : Els W v 7 Slot.cells l) => law08of_any W h (by omega))
      have hre := Lib.hid (fun W u (h : Els W u 7 Slot.cells l) => refentries_any W h (by omega))
      have hll := Lib.hid (fun W (h : Els W v 7 Slot.cells l) => plolens_any W h (by omega) (okS_len hok))
      have hle := entsS_len l
      have hln := lensN_le l
      have hfr0 := fun W (h : Els W v 7 Slot.cells l) => bfree_any W h (by omega)
      obtain ⟨E, hE⟩ : ∃ E, entsS l = E := ⟨_, rfl⟩
      have hor := Lib.hid (fun W u (h : Els W u 6 Ent.cells E) => show Calls Try.prog 23 #[u] W (Ret (.bool true) W) by
        have := refordered_any W h (by rw [← hE]; omega)
        rwa [← hE, ord_of_kept hk] at this)
      rw [hE] at hre hle hln hfr0
      obtain ⟨R, hR⟩ : ∃ R : Int, (l.length : Int) - (E.length : Int) = R := ⟨_, rfl⟩
      rw [hR] at hfr0
      have hfr := Lib.hid hfr0
      obtain ⟨N, hN⟩ : ∃ N : Int, (lensN l : Int) = N := ⟨_, rfl⟩
      rw [hN] at hll
      have k1 : 0 ≤ R := by omega
      have k2 : R ≤ (l.length : Int) := by omega
      have k3 : N ≤ (l.length : Int) - R := by omega
      have k4 : decide (N ≤ (l.length : Int) - R) = true := by simpa using k3
      obtain ⟨a, c, rfl, hc, he⟩ := hl.form
      clear hl he hk hok hfr0 hR hN hE hln
      go_enter Try.func6, Try.ntmps6
      go_wp2_with fail
      refine (hkp.out _ HE.out).mono ?_
      rintro e w1 ⟨rfl, q1, rfl⟩
      go_wp2_with fail
      refine (hof.out _ (HE.out.kept (kept_extP _ _))).mono ?_
      rintro e w2 hR
      obtain ⟨a2, c2, rfl, hlc2, hown2, hels2⟩ := RetEls.out2 Slot.cells_len hR
      have HE2 := Lib.hid hels2
      have HK2 := Lib.hid hown2.1
      clear hown2 hels2 hR
      go_wp2_with fail
      have HK1 := Lib.hid ((kept_extP w q1).trans HK2.out)
      refine (hre.out _ _ HE2.out).mono ?_
      rintro e w3 hR
      obtain ⟨a3, c3, rfl, hlc3, hown3, hels3⟩ := RetEls.out2 Ent.cells_len hR
      have HE3 := Lib.hid hels3
      have HK3 := Lib.hid hown3.1
      clear hown3 hels3 hR
      go_wp2_with fail
      have HK4 := Lib.hid (HK1.out.trans HK3.out)
      clear HK1 HK2 HK3 HE2
      go_wp2_with (first | (go_at_call 23; first | ((refine (calls_in (hor.out _ _ HE3.out)).mono ?_); rintro e w1 ⟨rfl, q1, rfl⟩) | ((refine (hor.out _ _ HE3.out).mono ?_); rintro e w1 ⟨rfl, q1, rfl⟩)) | (go_at_call 18; first | ((refine (calls_in (hll.out _ (HE.out.kept (HK4.out.trans (kept_extP _ _))))).mono ?_); rintro e w1 ⟨rfl, q1, rfl⟩) | ((refine (hll.out _ (HE.out.kept (HK4.out.trans (kept_extP _ _)))).mono ?_); rintro e w1 ⟨rfl, q1, rfl⟩)) | (go_at_call 22; first | ((refine (calls_in (hfr.out _ (HE.out.kept (HK4.out.trans (kept_extP _ _))))).mono ?_); rintro e w1 ⟨rfl, q1, rfl⟩) | ((refine (hfr.out _ (HE.out.kept (HK4.out.trans (kept_extP _ _)))).mono ?_); rintro e w1 ⟨rfl, q1, rfl⟩)) | (go_at_call 8; first | ((refine (calls_in (awake12_ok _)).mono ?_); rintro e w1 ⟨rfl, q1, rfl⟩) | ((refine (awake12_ok _).mono ?_); rintro e w1 ⟨rfl, q1, rfl⟩)))
      go_ret
      exact Ret.of (rfl) (by simp (maxDischargeDepth := 99) [HK4.out])
  · have g1 : (24 : Int) < (l.length : Int) := by omega
    have g2 : decide ((24 : Int) < (l.length : Int)) = true := by simp; omega
    obtain ⟨a, c, rfl, hc, he⟩ := hl.form
    clear hl he hn hok
    go_enter Try.func6, Try.ntmps6
    go_wp2_with (first | (go_at_call 8; first | ((refine (calls_in (awake12_ok _)).mono ?_); rintro e w1 ⟨rfl, q1, rfl⟩) | ((refine (awake12_ok _).mono ?_); rintro e w1 ⟨rfl, q1, rfl⟩)))
    go_ret
    exact Ret.of (rfl) (by simp (maxDischargeDepth := 99))
set_option maxRecDepth 100000 in
theorem ploOrders_lifted (os : Os) (started : os.Started) (H : Type) (enc : TypeId × Value → H) :
    ReturnsInHanded {} Try.checked os 6 .any (Rows.ploOrdersSpec.pre6 enc Try.prog Try.f6 Rows.ploOrdersRow.domain false) (Rows.ploOrdersSpec.post enc Try.prog Try.f6 false true false false) := by
  refine returnsInHanded_of_change (C := Try.checked) own started (by kernel_rfl) Try.func6
    (ChangeSpec.witness6 (enc := enc) (C := Try.checked) false ⟨#[], #[.slice none 0 0], []⟩ 8 (by kernel_rfl) (by kernel_rfl) (by kernel_rfl) (by kernel_rfl)) ?_
  intro W base args ds gs before hval0 hW hcnd _
  have hval : ∀ (j : Nat) t v, Try.f6.params[j]? = some t → args[j]? = some v → Value.okWide Try.prog W .any base t v := hval0
  have hW' := hW
  obtain ⟨p, q, hA0, hV, rfl, hfz, hnd⟩ := hW
  obtain ⟨rfl, rfl⟩ := trodVars_none hV
  rw [List.append_nil] at hW'
  have hA : DataW.TrodAll enc Try.prog W 0 (fun _ => true) true Try.f6.params.toList args.toList ds p := hA0
  have hA1 := hA
  rw [Try.params6] at hA1 hval
  obtain ⟨v0, vs0, d0, ds0, p0, q0, hargs, rfl, rfl, h0, r0⟩ := trodAll_cons hA1
  obtain ⟨rfl, rfl, rfl⟩ := trodAll_nil r0
  obtain rfl : args = #[v0] := by cases args; simp_all
  obtain ⟨L0, E0, O0⟩ := open_slots (hval 0 _ v0 rfl rfl) h0
  refine (ploOrders_walk L0 v0 W E0 O0).mono fun e W' ⟨he, hg⟩ => ?_
  subst he
  exact ⟨_, rfl, post_true laidOut (by rw [Try.params6]; intro t ht; simp at ht; first | (subst ht; exact ⟨by kernel_rfl, of_decide_eq_true (by kernel_rfl)⟩) | (rcases ht with rfl | rfl <;> exact ⟨by kernel_rfl, of_decide_eq_true (by kernel_rfl)⟩) | (rcases ht with rfl | rfl | rfl <;> exact ⟨by kernel_rfl, of_decide_eq_true (by kernel_rfl)⟩) | (rcases ht with rfl | rfl | rfl | rfl <;> exact ⟨by kernel_rfl, of_decide_eq_true (by kernel_rfl)⟩)) rfl hW' hA rfl (trodAll_cons_mk (shut_bool Try.underlying4 _) trodAll_mk0) (Later.kept hg)⟩

theorem ploOrders_holds : Rows.PloOrdersSaid :=
  OpenClaim.holds_of_wide 6 Try.f6 rfl rfl rfl rfl rfl rfl rfl ⟨rfl, rfl, rfl, rfl, rfl⟩ rfl rfl rfl rfl rfl (by kernel_rfl) Try.func6 (by kernel_rfl)
    (of_decide_eq_true (by kernel_rfl)) (by unfold Func.isWrapper; first | (rw [if_pos (by decide +kernel)]; kernel_rfl) | (rw [if_neg (by decide +kernel)]; exact ⟨rfl, rfl⟩))
    (fun os started H enc _ => ploOrders_lifted os started H enc)
#print axioms ploOrders_holds
end Go.Proofs.Ytdlikcdmhgbolaa
