/- PruneKeeps: those that are kept are the document's, and how many are not; whether a prefix's route is. -/
import Derived.Test.YtdoghlncoinhoaaRows
import Derived.Test.YtdoghlncoinhoaaRefKeep
import Derived.Test.YtdoghlncoinhoaaKeep2
import Derived.Test.YtdoghlncoinhoaaOpenRts
namespace Pg
open Go
theorem find_any (p : Rt → Bool) (l : List Rt) : (l.find? p).isSome = l.any p := by
  rw [Bool.eq_iff_iff, List.find?_isSome, List.any_eq_true]
end Pg
namespace Go.Proofs.Ytdoghlncoinhoaa
open Go.RowKit Pg Go.ChangeShapes Go.WideShapes Go.ChangeAt

def tab9B (l : List Rt) : Bool := decide (l.length ≤ 24) && tblB 128 l
theorem tab9B_of {l : List Rt} (h : tab9B l = true) : Tab l ∧ l.length ≤ 24 := by
  unfold tab9B at h
  simp only [Bool.and_eq_true, decide_eq_true_eq] at h
  exact ⟨(tab_of h.2).1, h.1⟩
set_option maxHeartbeats 1000000 in
set_option maxRecDepth 100000 in
theorem law09table_any {l : List Rt} {v : Value} (w : World) (hl : Els w v 4 Rt.cells l) : Calls Try.prog 9 #[v] w (Ret (.bool (tab9B l)) w) := by
  by_cases hn : l.length ≤ 24
  · have hof := Lib.hid (law06of_any w hl (by omega))
    have htb := Lib.hid (fun W (u : Value) (h : Els W u 4 Rt.cells l) => reftable_any 128 W h (by omega))
    have HV := Lib.hid (show tab9B l = tblB 128 l by unfold tab9B; rw [decide_eq_true hn]; rfl)
    obtain ⟨ad, c, rfl, hc, he⟩ := hl.form
    have g1 : (l.length : Int) ≤ 24 := by omega
    clear hl he
    go_enter Try.func9, Try.ntmps9
    go_wp2_with fail
    refine (hof.out).mono ?_
    rintro e w1 hR
    obtain ⟨a1, c1, rfl, hlc1, hown1, hels1⟩ := RetEls.out2 Rt.cells_len hR
    have HE1 := Lib.hid hels1
    have HK1 := Lib.hid hown1.1
    clear hown1 hels1 hR
    go_wp2_with fail
    refine (htb.out _ _ HE1.out).mono ?_
    rintro e w1 ⟨rfl, q2, rfl⟩
    go_wp2_with fail
    go_ret
    exact Ret.of (by rw [HV.out]; rfl) (by simp (maxDischargeDepth := 99) [HK1.out])
  · have HV := Lib.hid (show tab9B l = false by unfold tab9B; rw [decide_eq_false hn]; rfl)
    obtain ⟨ad, c, rfl, hc, he⟩ := hl.form
    have g1 : ¬ (l.length : Int) ≤ 24 := by omega
    clear hl he hn
    go_enter Try.func9, Try.ntmps9
    go_wp2_with fail
    go_ret
    exact Ret.of (by rw [HV.out]; rfl) (by simp (maxDischargeDepth := 99))
theorem law09table_as {l : List Rt} {v : Value} {b : Bool} (h : tab9B l = b) (w : World) (hl : Els w v 4 Rt.cells l) : Calls Try.prog 9 #[v] w (Ret (.bool b) w) := by rw [← h]; exact law09table_any w hl
set_option maxHeartbeats 1000000 in
set_option maxRecDepth 100000 in
theorem pruneKeeps_walk (l : List Rt) (v : Value) (x : B) (n : Int) (_ : -9223372036854775808 ≤ n) (_ : n ≤ 9223372036854775807) (w : World) (hl : Els w v 4 Rt.cells l) : Calls Try.prog 3 #[v, pv x n] w (Ret (.bool true) w) := by
  have HE := Lib.hid hl
  obtain ⟨ad, c, rfl, hc, he⟩ := hl.form
  cases htb : tab9B l
  · have HT := Lib.hid (fun W (h : Els W (.slice ad l.length c) 4 Rt.cells l) => law09table_as htb W h)
    clear hl he htb
    go_enter Try.func3, Try.ntmps3
    go_wp2_with fail
    refine (HT.out _ (HE.out.alloc _)).mono ?_
    rintro e w1 ⟨rfl, q1, rfl⟩
    go_wp2_with fail
    refine (awake9_ok _).mono ?_
    rintro e w1 ⟨rfl, q2, rfl⟩
    go_wp2_with fail
    go_ret
    exact Ret.of (rfl) (by simp (maxDischargeDepth := 99))
  · obtain ⟨hTab, hn⟩ := tab9B_of htb
    have HT := Lib.hid (fun W (h : Els W (.slice ad l.length c) 4 Rt.cells l) => law09table_as htb W h)
    have hof := Lib.hid (fun W (u : Value) (h : Els W u 4 Rt.cells l) => law06of_any W h (by omega))
    obtain ⟨K, hK⟩ : ∃ K, keepL l = K := ⟨_, rfl⟩
    have hKl : K.length ≤ 24 := by rw [← hK]; exact Nat.le_trans (keepL_sub hTab).length_le hn
    have hKl2 : K.length ≤ l.length := by rw [← hK]; exact (keepL_sub hTab).length_le
    have hrk := Lib.hid (fun W (u : Value) (h : Els W u 4 Rt.cells l) => show Calls Try.prog 11 #[u] W (RetEls 36 4 Rt.cells K W) by rw [← hK]; exact refkeep_any W h hTab (by omega))
    have hpk := Lib.hid (fun W (u : Value) (h : Els W u 4 Rt.cells l) => show Calls Try.prog 16 #[u] W (RetEls 48 4 Rt.cells K W) by rw [← hK]; exact pkeep_any W h hTab (by omega))
    have hsv := Lib.hid (fun W (u : Value) (h : Els W u 4 Rt.cells l) => show Calls Try.prog 17 #[u] W (Ret (.int .i64 ((l.length : Int) - (K.length : Int))) W) by rw [← hK]; exact psaved_any W h hTab (by omega))
    obtain ⟨o, ho⟩ : ∃ o, K.find? (eqR x n) = o := ⟨_, rfl⟩
    have hany : K.any (eqP x n) = o.isSome := by rw [← ho, find_any]; rfl
    have hnd := Lib.hid (fun W (u : Value) (h : Els W u 4 Rt.cells l) => show Calls Try.prog 18 #[u, pv x n] W (Ret (.bool o.isSome) W) by have := pneeds_any x n W h hTab (by omega); rwa [hK, hany] at this)
    have hfd := Lib.hid (fun W (u : Value) (h : Els W u 4 Rt.cells K) => show Calls Try.prog 13 #[u, pv x n] W (Ret (retR o) W) by rw [← ho]; exact reffindR_any x n W h (by omega))
    have hsm := Lib.hid (fun W (u u' : Value) (h : Els W u 4 Rt.cells K) (h' : Els W u' 4 Rt.cells K) => law06same_any W h h' (by omega))
    clear hl he htb hTab hK ho hany
    go_enter Try.func3, Try.ntmps3
    go_wp2_with fail
    refine (HT.out _ (HE.out.alloc _)).mono ?_
    rintro e w1 ⟨rfl, q1, rfl⟩
    go_wp2_with fail
    obtain ⟨wz, hwz⟩ : ∃ wz, wz = ext (w.alloc (.cells #[.int .u64 (hi x), .int .u64 (lo x), .int .i64 n] 27)) q1 := ⟨_, rfl⟩
    have HKZ := Lib.hid (show Kept w wz by rw [hwz]; exact (Kept.alloc (Kept.refl w) _).ext _)
    have HB := Lib.hid (show Blk wz w.heap.size 27 #[.int .u64 (hi x), .int .u64 (lo x), .int .i64 n] by rw [hwz]; exact (Blk.new' w _ _ rfl).ext _)
    rw [← hwz]
    clear hwz
    refine (hof.out _ _ (HE.out.kept HKZ.out)).mono ?_
    rintro e w1 hR
    obtain ⟨a1, c1, rfl, hlc1, hown1, hels1⟩ := RetEls.out2 Rt.cells_len hR
    have HE1 := Lib.hid hels1
    have HK1 := Lib.hid hown1.1
    clear hown1 hels1 hR
    go_wp2_with fail
    refine (hrk.out _ _ HE1.out).mono ?_
    rintro e w2 hR
    obtain ⟨a2, c2, rfl, hlc2, hown2, hels2⟩ := RetEls.out2 Rt.cells_len hR
    have HE2 := Lib.hid hels2
    have HK2 := Lib.hid hown2.1
    clear hown2 hels2 hR
    have HK12 := Lib.hid (HK1.out.trans HK2.out)
    obtain ⟨p0, p1, p2, pl⟩ := Blk.three (HB.out.kept HK12.out)
    go_wp2_with fail
    refine (law02of_any _ _ _).mono ?_
    rintro e w1 ⟨rfl, q3, rfl⟩
    go_wp2_with fail
    refine (hfd.out _ _ (HE2.out.ext _)).mono ?_
    rintro e w1 ⟨rfl, q4, rfl⟩
    go_wp2_with fail
    obtain ⟨wy, hwy⟩ : ∃ wy, wy = (ext (ext w2 q3) q4).alloc (.cells #[.int .u64 (hi (o.getD z0r).x), .int .u64 (lo (o.getD z0r).x), .int .i64 (o.getD z0r).n, .int .i64 (o.getD z0r).act] 36) := ⟨_, rfl⟩
    have hky := Lib.hid (show Kept w2 wy by rw [hwy]; exact Kept.alloc ((Kept.refl _).ext _ |>.ext _) _)
    rw [← hwy]
    clear hwy p0 p1 p2 pl
    have HKY := Lib.hid (HKZ.out.trans (HK12.out.trans hky.out))
    refine (hpk.out _ _ (HE.out.kept HKY.out)).mono ?_
    rintro e w5 hR
    obtain ⟨a5, c5, rfl, hlc5, hown5, hels5⟩ := RetEls.out2 Rt.cells_len hR
    have HE5 := Lib.hid hels5
    have HK5 := Lib.hid hown5.1
    clear hown5 hels5 hR
    go_wp2_with fail
    refine (hsm.out _ _ _ HE5.out (HE2.out.kept (hky.out.trans HK5.out))).mono ?_
    rintro e w1 ⟨rfl, q6, rfl⟩
    go_wp2_with fail
    refine (hsv.out _ _ (HE.out.kept (HKY.out.trans (HK5.out.trans (kept_extR w5 q6))))).mono ?_
    rintro e w1 ⟨rfl, q7, rfl⟩
    obtain ⟨wx, hwx⟩ : ∃ wx, wx = ext (ext w5 q6) q7 := ⟨_, rfl⟩
    have hkx := Lib.hid (show Kept w5 wx by rw [hwx]; exact (Kept.refl _).ext _ |>.ext _)
    rw [← hwx]
    clear hwx
    have HKX := Lib.hid (HKY.out.trans (HK5.out.trans hkx.out))
    obtain ⟨p0, p1, p2, pl⟩ := Blk.three (HB.out.kept (HK12.out.trans (hky.out.trans (HK5.out.trans hkx.out))))
    go_wp2_with fail
    refine (hnd.out _ _ (HE.out.kept HKX.out)).mono ?_
    rintro e w1 ⟨rfl, q8, rfl⟩
    go_wp2_with fail
    refine (awake9_ok _).mono ?_
    rintro e w1 ⟨rfl, q9, rfl⟩
    go_wp2_with fail
    go_ret
    exact Ret.of (rfl) (by simp (maxDischargeDepth := 99) [HKX.out])
set_option maxRecDepth 100000 in
theorem pruneKeeps_lifted (os : Os) (started : os.Started) (H : Type) (enc : TypeId × Value → H) :
    ReturnsInHanded {} Try.checked os 3 .any (Rows.pruneKeepsSpec.pre6 enc Try.prog Try.f3 Rows.pruneKeepsRow.domain false) (Rows.pruneKeepsSpec.post enc Try.prog Try.f3 false true false false) := by
  refine returnsInHanded_of_change (C := Try.checked) own started (by kernel_rfl) Try.func3
    (ChangeSpec.witness6 (enc := enc) (C := Try.checked) false ⟨#[], #[.slice none 0 0, .agg #[.int .u64 0, .int .u64 0, .int .i64 0]], []⟩ 8 (by kernel_rfl) (by kernel_rfl) (by kernel_rfl) (by kernel_rfl)) ?_
  intro W base args ds gs before hval0 hW hcnd _
  have hval : ∀ (j : Nat) t v, Try.f3.params[j]? = some t → args[j]? = some v → Value.okWide Try.prog W .any base t v := hval0
  have hW' := hW
  obtain ⟨p, q, hA0, hV, rfl, hfz, hnd⟩ := hW
  obtain ⟨rfl, rfl⟩ := trodVars_none hV
  rw [List.append_nil] at hW'
  have hA : DataW.TrodAll enc Try.prog W 0 (fun _ => true) true Try.f3.params.toList args.toList ds p := hA0
  have hA1 := hA
  rw [Try.params3] at hA1 hval
  obtain ⟨v0, vs0, d0, ds0, p0, q0, hargs, rfl, rfl, h0, r0⟩ := trodAll_cons hA1
  obtain ⟨v1, vs1, d1, ds1, p1, q1, rfl, rfl, rfl, h1, r1⟩ := trodAll_cons r0
  obtain ⟨rfl, rfl, rfl⟩ := trodAll_nil r1
  obtain rfl : args = #[v0, v1] := by cases args; simp_all
  obtain ⟨L0, E0, _⟩ := open_routes (hval 0 _ v0 rfl rfl) h0
  obtain ⟨X1, N1, rfl, a1, b1⟩ := open_prefix (hval 1 _ v1 rfl rfl) h1
  refine (pruneKeeps_walk L0 v0 X1 N1 a1 b1 W E0).mono fun e W' ⟨he, hg⟩ => ?_
  subst he
  exact ⟨_, rfl, post_true laidOut (by rw [Try.params3]; intro t ht; simp at ht; first | (subst ht; exact ⟨by kernel_rfl, of_decide_eq_true (by kernel_rfl)⟩) | (rcases ht with rfl | rfl <;> exact ⟨by kernel_rfl, of_decide_eq_true (by kernel_rfl)⟩) | (rcases ht with rfl | rfl | rfl <;> exact ⟨by kernel_rfl, of_decide_eq_true (by kernel_rfl)⟩) | (rcases ht with rfl | rfl | rfl | rfl <;> exact ⟨by kernel_rfl, of_decide_eq_true (by kernel_rfl)⟩)) rfl hW' hA rfl (trodAll_cons_mk (shut_bool Try.underlying4 _) trodAll_mk0) (Later.kept hg)⟩

theorem pruneKeeps_holds : Rows.PruneKeepsSaid :=
  OpenClaim.holds_of_wide 3 Try.f3 rfl rfl rfl rfl rfl rfl rfl ⟨rfl, rfl, rfl, rfl, rfl⟩ rfl rfl rfl rfl rfl (by kernel_rfl) Try.func3 (by kernel_rfl)
    (of_decide_eq_true (by kernel_rfl)) (by unfold Func.isWrapper; first | (rw [if_pos (by decide +kernel)]; kernel_rfl) | (rw [if_neg (by decide +kernel)]; exact ⟨rfl, rfl⟩))
    (fun os started H enc _ => pruneKeeps_lifted os started H enc)
#print axioms pruneKeeps_holds
end Go.Proofs.Ytdoghlncoinhoaa
