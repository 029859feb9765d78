/- PloInserts: the writes that have any entry stand, in any slots, are the reference's, or why there are none. -/
import Derived.Test.YtdlikcdmhgbolaaRows
import Derived.Test.YtdlikcdmhgbolaaAwake12
import Derived.Test.YtdlikcdmhgbolaaBank5
import Derived.Test.YtdlikcdmhgbolaaOpenEnt
namespace Go.Proofs.Ytdlikcdmhgbolaa
open Go.RowKit Pg Go.ChangeShapes Go.WideShapes Go.ChangeAt

set_option maxHeartbeats 2000000 in
set_option maxRecDepth 100000 in
theorem ploInserts_walk (l : List Slot) (v : Value) (x : Ent) (w : World) (hl : Els w v 7 Slot.cells l) : Calls Try.prog 3 #[v, ev x] w (Ret (.bool true) w) := by
  by_cases hn : l.length ≤ 24
  · have HE := Lib.hid hl
    have g1 : ¬ (24 : Int) < (l.length : Int) := by omega
    have g2 : decide ((24 : Int) < (l.length : Int)) = false := by simp; omega
    have hWl := insW_len l x
    obtain ⟨Ws, hWs⟩ : ∃ Ws, (insW l x).1 = Ws := ⟨_, rfl⟩
    obtain ⟨Er, hEr⟩ : ∃ Er, (insW l x).2 = Er := ⟨_, rfl⟩
    have hof := Lib.hid (fun W (h : Els W v 7 Slot.cells l) => law08of_any W h (by omega))
    have hin := Lib.hid (fun W (h : Els W v 7 Slot.cells l) => show Calls Try.prog 10 #[v, ev x] W (RetWE 60 Ws Er W) by rw [← hWs, ← hEr]; exact ploinsert_any x W h (by omega))
    have hri := Lib.hid (fun W u (h : Els W u 7 Slot.cells l) => show Calls Try.prog 11 #[u, ev x] W (RetWE 76 Ws Er W) by rw [← hWs, ← hEr]; exact refinsert_any x W h (by omega))
    rw [hWs] at hWl
    have hwr := Lib.hid (fun W u t (h : Els W u 8 Wr.cells Ws) (h2 : Els W t 8 Wr.cells Ws) => law12writes_any W h h2 (by omega))
    have hsm := Lib.hid (fun W u (h : Els W v 7 Slot.cells l) (h2 : Els W u 7 Slot.cells l) => same_any W h h2 (by omega))
    have hone := Lib.hid (law05one_any x)
    obtain ⟨a, c, rfl, hc, he⟩ := hl.form
    clear hl he hWs hEr
    go_enter Try.func3, Try.ntmps3
    go_wp2_with fail
    obtain ⟨wa, hwa⟩ : ∃ wa, wa = w.alloc (.cells #[.int .u64 (hi x.x), .int .u64 (lo x.x), .int .u64 (hi x.m), .int .u64 (lo x.m), .int .i64 x.len, .int .i64 x.act] 29) := ⟨_, rfl⟩
    have HKa := Lib.hid (show Kept w wa by rw [hwa]; exact Kept.alloc (Kept.refl w) _)
    have HBa := Lib.hid (show Blk wa w.heap.size 29 #[.int .u64 (hi x.x), .int .u64 (lo x.x), .int .u64 (hi x.m), .int .u64 (lo x.m), .int .i64 x.len, .int .i64 x.act] by rw [hwa]; exact Blk.new' w _ _ rfl)
    rw [← hwa]
    clear hwa
    refine (hof.out _ (HE.out.kept HKa.out)).mono ?_
    rintro e w1 hR
    obtain ⟨a1, c1, rfl, hlc1, hown1, hels1⟩ := RetEls.out2 Slot.cells_len hR
    have HE1 := Lib.hid hels1
    have HK1 := Lib.hid hown1.1
    clear hown1 hels1 hR
    have HKw1 := Lib.hid (HKa.out.trans HK1.out)
    have HB1 := Lib.hid (HBa.out.kept HK1.out)
    have x0 := fun j => HB1.out.cell j
    have xl := HB1.out.lt
    go_wp2_with fail
    refine (hin.out _ (HE.out.kept HKw1.out)).mono ?_
    rintro e w2 hR
    obtain ⟨a2, c2, rfl, hlc2, hown2, hels2⟩ := RetWE.out2 hR
    have HE2 := Lib.hid hels2
    have HS2 := Lib.hid hown2.1
    have HK2 := Lib.hid (HKw1.out.trans hown2.1)
    have HB2 := Lib.hid (HB1.out.kept hown2.1)
    clear x0 xl hown2 hels2 hR
    have x0 := fun j => HB2.out.cell j
    have xl := HB2.out.lt
    go_wp2_with fail
    refine (hone.out _).mono ?_
    rintro e w1 ⟨rfl, q3, rfl⟩
    obtain ⟨w3, hw3⟩ : ∃ w3, w3 = ext w2 q3 := ⟨_, rfl⟩
    have HS3 := Lib.hid (show Kept w2 w3 by rw [hw3]; exact kept_extP _ _)
    rw [← hw3]
    clear hw3 x0 xl
    go_wp2_with fail
    refine (hri.out _ _ (HE1.out.kept (HS2.out.trans HS3.out))).mono ?_
    rintro e w4 hR
    obtain ⟨a4, c4, rfl, hlc4, hown4, hels4⟩ := RetWE.out2 hR
    have HE4 := Lib.hid hels4
    have HS4 := Lib.hid hown4.1
    clear hown4 hels4 hR
    have HX1 := Lib.hid (HE1.out.kept (HS2.out.trans (HS3.out.trans HS4.out)))
    have HX2 := Lib.hid (HE2.out.kept (HS3.out.trans HS4.out))
    have HXE := Lib.hid (HE.out.kept (HK2.out.trans (HS3.out.trans HS4.out)))
    have HKZ := Lib.hid (HK2.out.trans (HS3.out.trans HS4.out))
    go_wp2_with (first | (go_at_call 13; first | ((refine (calls_in (hwr.out _ _ _ HX2.out HE4.out)).mono ?_); rintro e w1 ⟨rfl, q1, rfl⟩) | ((refine (hwr.out _ _ _ HX2.out HE4.out).mono ?_); rintro e w1 ⟨rfl, q1, rfl⟩)) | (go_at_call 14; first | ((with_reducible refine (calls_in (hsm.out _ _ HXE.out HX1.out)).mono ?_); rintro e w1 ⟨rfl, q1, rfl⟩) | ((with_reducible refine (hsm.out _ _ HXE.out HX1.out).mono ?_); rintro e w1 ⟨rfl, q1, rfl⟩) | ((with_reducible refine (calls_in (hsm.out _ _ (HXE.out.kept (kept_extP _ _)) (HX1.out.kept (kept_extP _ _)))).mono ?_); rintro e w1 ⟨rfl, q1, rfl⟩) | ((with_reducible refine (hsm.out _ _ (HXE.out.kept (kept_extP _ _)) (HX1.out.kept (kept_extP _ _))).mono ?_); rintro e w1 ⟨rfl, q1, rfl⟩)) | (go_at_call 8; first | ((refine (calls_in (awake12_ok _)).mono ?_); rintro e w1 ⟨rfl, q1, rfl⟩) | ((refine (awake12_ok _).mono ?_); rintro e w1 ⟨rfl, q1, rfl⟩)))
    go_ret
    exact Ret.of (rfl) (by simp (maxDischargeDepth := 99) [HKZ.out])
  · have g1 : (24 : Int) < (l.length : Int) := by omega
    have g2 : decide ((24 : Int) < (l.length : Int)) = true := by simp; omega
    obtain ⟨a, c, rfl, hc, he⟩ := hl.form
    clear hl he hn
    go_enter Try.func3, Try.ntmps3
    go_wp2_with (first | (go_at_call 8; first | ((refine (calls_in (awake12_ok _)).mono ?_); rintro e w1 ⟨rfl, q1, rfl⟩) | ((refine (awake12_ok _).mono ?_); rintro e w1 ⟨rfl, q1, rfl⟩)))
    go_ret
    exact Ret.of (rfl) (by simp (maxDischargeDepth := 99))
set_option maxRecDepth 100000 in
theorem ploInserts_lifted (os : Os) (started : os.Started) (H : Type) (enc : TypeId × Value → H) :
    ReturnsInHanded {} Try.checked os 3 .any (Rows.ploInsertsSpec.pre6 enc Try.prog Try.f3 Rows.ploInsertsRow.domain false) (Rows.ploInsertsSpec.post enc Try.prog Try.f3 false true false false) := by
  refine returnsInHanded_of_change (C := Try.checked) own started (by kernel_rfl) Try.func3
    (ChangeSpec.witness6 (enc := enc) (C := Try.checked) false ⟨#[], #[.slice none 0 0, .agg #[.int .u64 0, .int .u64 0, .int .u64 0, .int .u64 0, .int .i64 0, .int .i64 0]], []⟩ 8 (by kernel_rfl) (by kernel_rfl) (by kernel_rfl) (by kernel_rfl)) ?_
  intro W base args ds gs before hval0 hW hcnd _
  have hval : ∀ (j : Nat) t v, Try.f3.params[j]? = some t → args[j]? = some v → Value.okWide Try.prog W .any base t v := hval0
  have hW' := hW
  obtain ⟨p, q, hA0, hV, rfl, hfz, hnd⟩ := hW
  obtain ⟨rfl, rfl⟩ := trodVars_none hV
  rw [List.append_nil] at hW'
  have hA : DataW.TrodAll enc Try.prog W 0 (fun _ => true) true Try.f3.params.toList args.toList ds p := hA0
  have hA1 := hA
  rw [Try.params3] at hA1 hval
  obtain ⟨v0, vs0, d0, ds0, p0, q0, hargs, rfl, rfl, h0, r0⟩ := trodAll_cons hA1
  obtain ⟨v1, vs1, d1, ds1, p1, q1, rfl, rfl, rfl, h1, r1⟩ := trodAll_cons r0
  obtain ⟨rfl, rfl, rfl⟩ := trodAll_nil r1
  obtain rfl : args = #[v0, v1] := by cases args; simp_all
  obtain ⟨L0, E0, _⟩ := open_slots (hval 0 _ v0 rfl rfl) h0
  obtain ⟨X1, rfl, _⟩ := open_ent (hval 1 _ v1 rfl rfl) h1
  refine (ploInserts_walk L0 v0 X1 W E0).mono fun e W' ⟨he, hg⟩ => ?_
  subst he
  exact ⟨_, rfl, post_true laidOut (by rw [Try.params3]; intro t ht; simp at ht; first | (subst ht; exact ⟨by kernel_rfl, of_decide_eq_true (by kernel_rfl)⟩) | (rcases ht with rfl | rfl <;> exact ⟨by kernel_rfl, of_decide_eq_true (by kernel_rfl)⟩) | (rcases ht with rfl | rfl | rfl <;> exact ⟨by kernel_rfl, of_decide_eq_true (by kernel_rfl)⟩) | (rcases ht with rfl | rfl | rfl | rfl <;> exact ⟨by kernel_rfl, of_decide_eq_true (by kernel_rfl)⟩)) rfl hW' hA rfl (trodAll_cons_mk (shut_bool Try.underlying4 _) trodAll_mk0) (Later.kept hg)⟩

theorem ploInserts_holds : Rows.PloInsertsSaid :=
  OpenClaim.holds_of_wide 3 Try.f3 rfl rfl rfl rfl rfl rfl rfl ⟨rfl, rfl, rfl, rfl, rfl⟩ rfl rfl rfl rfl rfl (by kernel_rfl) Try.func3 (by kernel_rfl)
    (of_decide_eq_true (by kernel_rfl)) (by unfold Func.isWrapper; first | (rw [if_pos (by decide +kernel)]; kernel_rfl) | (rw [if_neg (by decide +kernel)]; exact ⟨rfl, rfl⟩))
    (fun os started H enc _ => ploInserts_lifted os started H enc)
#print axioms ploInserts_holds
end Go.Proofs.Ytdlikcdmhgbolaa
