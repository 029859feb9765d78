/- PruneTells: what is told of any address is the same of those that are kept; of these all are. -/
import Derived.Test.YtdoghlncoinhoaaRows
import Derived.Test.YtdoghlncoinhoaaLongest2
import Derived.Test.YtdoghlncoinhoaaKeep2
import Derived.Test.YtdoghlncoinhoaaPrune9
import Derived.Test.YtdoghlncoinhoaaOpenRts
namespace Go.Proofs.Ytdoghlncoinhoaa
open Go.RowKit Pg Go.ChangeShapes Go.WideShapes Go.ChangeAt

set_option maxHeartbeats 1000000 in
set_option maxRecDepth 100000 in
theorem pruneTells_walk (l : List Rt) (v : Value) (a : B) (w : World) (hl : Els w v 4 Rt.cells l) : Calls Try.prog 4 #[v, av a] w (Ret (.bool true) w) := by
  have HE := Lib.hid hl
  obtain ⟨ad, c, rfl, hc, he⟩ := hl.form
  cases htb : tab9B l
  · have HT := Lib.hid (fun W (h : Els W (.slice ad l.length c) 4 Rt.cells l) => law09table_as htb W h)
    clear hl he htb
    go_enter Try.func4, Try.ntmps4
    go_wp2_with fail
    refine (HT.out _ (HE.out.alloc _)).mono ?_
    rintro e w1 ⟨rfl, q1, rfl⟩
    go_wp2_with fail
    refine (awake9_ok _).mono ?_
    rintro e w1 ⟨rfl, q2, rfl⟩
    go_wp2_with fail
    go_ret
    exact Ret.of (rfl) (by simp (maxDischargeDepth := 99))
  · obtain ⟨hTab, hn⟩ := tab9B_of htb
    have HT := Lib.hid (fun W (h : Els W (.slice ad l.length c) 4 Rt.cells l) => law09table_as htb W h)
    have hof := Lib.hid (fun W (u : Value) (h : Els W u 4 Rt.cells l) => law06of_any W h (by omega))
    obtain ⟨K, hK⟩ : ∃ K, keepL l = K := ⟨_, rfl⟩
    have hTK : Tab K := by rw [← hK]; exact keepL_tab hTab
    have hK2 : keepL K = K := by rw [← hK]; exact keepL_twice hTab
    have hKl : K.length ≤ 24 := by rw [← hK]; exact Nat.le_trans (keepL_sub hTab).length_le hn
    have hpk := Lib.hid (fun W (u : Value) (h : Els W u 4 Rt.cells l) => show Calls Try.prog 16 #[u] W (RetEls 48 4 Rt.cells K W) by rw [← hK]; exact pkeep_any W h hTab (by omega))
    have hpk2 := Lib.hid (fun W (u : Value) (h : Els W u 4 Rt.cells K) => show Calls Try.prog 16 #[u] W (RetEls 48 4 Rt.cells K W) by have := pkeep_any W h hTK (by omega); rwa [hK2] at this)
    have hsv := Lib.hid (fun W (u : Value) (h : Els W u 4 Rt.cells K) => show Calls Try.prog 17 #[u] W (Ret (.int .i64 0) W) by have := psaved_any W h hTK (by omega); rwa [hK2, Int.sub_self] at this)
    obtain ⟨T, hTl⟩ : ∃ T, tellR l a = T := ⟨_, rfl⟩
    have htk := Lib.hid (fun W (u : Value) (h : Els W u 4 Rt.cells K) => show Calls Try.prog 19 #[u, av a] W (Ret (.int .i64 T) W) by have := ribtell_any a W h (by omega); rwa [← hK, tell_keep hTab, hTl] at this)
    have htl := Lib.hid (fun W (u : Value) (h : Els W u 4 Rt.cells l) => show Calls Try.prog 20 #[u, av a] W (Ret (.int .i64 T) W) by rw [← hTl]; exact reftellR_any a W h hTab (by omega))
    have hofK := Lib.hid (fun W (u : Value) (h : Els W u 4 Rt.cells K) => law06of_any W h (by omega))
    have hsm := Lib.hid (fun W (u u' : Value) (h : Els W u 4 Rt.cells K) (h' : Els W u' 4 Rt.cells K) => law06same_any W h h' (by omega))
    clear hl he htb hTab hK hTK hK2 hTl
    go_enter Try.func4, Try.ntmps4
    go_wp2_with fail
    refine (HT.out _ (HE.out.alloc _)).mono ?_
    rintro e w1 ⟨rfl, q1, rfl⟩
    go_wp2_with fail
    obtain ⟨wz, hwz⟩ : ∃ wz, wz = ext (w.alloc (.cells #[.int .u64 (hi a), .int .u64 (lo a)] 25)) q1 := ⟨_, rfl⟩
    have HKZ := Lib.hid (show Kept w wz by rw [hwz]; exact (Kept.alloc (Kept.refl w) _).ext _)
    have HB := Lib.hid (show Blk wz w.heap.size 25 #[.int .u64 (hi a), .int .u64 (lo a)] by rw [hwz]; exact (Blk.new' w _ _ rfl).ext _)
    rw [← hwz]
    clear hwz
    refine (hpk.out _ _ (HE.out.kept HKZ.out)).mono ?_
    rintro e w1 hR
    obtain ⟨a1, c1, rfl, hlc1, hown1, hels1⟩ := RetEls.out2 Rt.cells_len hR
    have HE1 := Lib.hid hels1
    have HK1 := Lib.hid hown1.1
    clear hown1 hels1 hR
    obtain ⟨p0, p1, pl⟩ := Blk.two (HB.out.kept HK1.out)
    have HKW := Lib.hid (HKZ.out.trans HK1.out)
    go_wp2_with fail
    refine region_seq _ (Later.refl _) mixed (by kernel_rfl) (by kernel_rfl) ?_
    intro q9
    refine seq_named fun W1 hW1 => ?_
    have hC := Lib.hid (show ∃ p, W1 = ext _ p from ⟨q9, hW1⟩)
    clear hW1 q9
    repeat (first | (refine seq_plain (by rfl) ?_; go_big_quiet_step (fail); refine wpQuiet_nil ?_))
    have hk9 := Later.kept hC.out
    have HLw := Lib.hid (HE.out.kept (HKW.out.trans hk9))
    have HKw := Lib.hid (HE1.out.kept hk9)
    clear hk9
    repeat (first | (refine seq_plain (by rfl) ?_; go_big_quiet_step (fail); refine wpQuiet_nil ?_) | (refine seq_move (by rfl) (by rfl) ?_; go_wp2_with (first | (go_at_call 19; first | ((with_reducible refine (calls_in (htk.out _ _ HKw.out)).mono ?_); rintro e w1 ⟨rfl, q1, rfl⟩) | ((with_reducible refine (htk.out _ _ HKw.out).mono ?_); rintro e w1 ⟨rfl, q1, rfl⟩) | ((with_reducible refine (calls_in (htk.out _ _ HKw.out)).mono ?_); rintro e w1 ⟨rfl, q1, rfl⟩) | ((with_reducible refine (htk.out _ _ HKw.out).mono ?_); rintro e w1 ⟨rfl, q1, rfl⟩))); refine ⟨_, rfl, (class_kept hC (by first | exact below_ext _ _ | exact Kept.refl _)).out, ?_⟩))
    refine seq_move (by rfl) (by rfl) ?_
    go_wp2_with fail
    refine (hof.out _ _ (HLw.out.kept (kept_extR _ _))).mono ?_
    rintro e w2 hR
    obtain ⟨a2, c2, rfl, hlc2, hown2, hels2⟩ := RetEls.out2 Rt.cells_len hR
    have hkk := kept_on hC (by first | exact .inl rfl | exact .inr ⟨_, rfl⟩) hown2.1
    replace hC := class_kept hC hkk
    have HE2 := Lib.hid hels2
    replace HLw := Lib.hid (HLw.out.kept hkk)
    replace HKw := Lib.hid (HKw.out.kept hkk)
    clear hown2 hels2 hR hkk
    go_wp2_with fail
    refine ⟨_, rfl, hC.out, ?_⟩
    repeat (first | (refine seq_plain (by rfl) ?_; go_big_quiet_step (fail); refine wpQuiet_nil ?_) | (refine seq_move (by rfl) (by rfl) ?_; go_wp2_with (first | (go_at_call 20; first | ((with_reducible refine (calls_in (htl.out _ _ HE2.out)).mono ?_); rintro e w1 ⟨rfl, q1, rfl⟩) | ((with_reducible refine (htl.out _ _ HE2.out).mono ?_); rintro e w1 ⟨rfl, q1, rfl⟩) | ((with_reducible refine (calls_in (htl.out _ _ HE2.out)).mono ?_); rintro e w1 ⟨rfl, q1, rfl⟩) | ((with_reducible refine (htl.out _ _ HE2.out).mono ?_); rintro e w1 ⟨rfl, q1, rfl⟩))); refine ⟨_, rfl, (class_kept hC (by first | exact below_ext _ _ | exact Kept.refl _)).out, ?_⟩))
    refine seq_move (by rfl) (by rfl) ?_
    go_wp2_with fail
    refine (hpk2.out _ _ (HKw.out.kept (kept_extR _ _))).mono ?_
    rintro e w3 hR
    obtain ⟨a3, c3, rfl, hlc3, hown3, hels3⟩ := RetEls.out2 Rt.cells_len hR
    have hkk := kept_on hC (by first | exact .inl rfl | exact .inr ⟨_, rfl⟩) hown3.1
    replace hC := class_kept hC hkk
    have HE3 := Lib.hid hels3
    replace HLw := Lib.hid (HLw.out.kept hkk)
    replace HKw := Lib.hid (HKw.out.kept hkk)
    clear hown3 hels3 hR hkk
    go_wp2_with fail
    refine ⟨_, rfl, hC.out, ?_⟩
    repeat (first | (refine seq_plain (by rfl) ?_; go_big_quiet_step (fail); refine wpQuiet_nil ?_))
    refine seq_move (by rfl) (by rfl) ?_
    go_wp2_with fail
    refine (hofK.out _ _ HKw.out).mono ?_
    rintro e w4 hR
    obtain ⟨a4, c4, rfl, hlc4, hown4, hels4⟩ := RetEls.out2 Rt.cells_len hR
    have hkk := kept_on hC (by first | exact .inl rfl | exact .inr ⟨_, rfl⟩) hown4.1
    replace hC := class_kept hC hkk
    have HE4 := Lib.hid hels4
    replace HKw := Lib.hid (HKw.out.kept hkk)
    replace HE3 := Lib.hid (HE3.out.kept hkk)
    clear hown4 hels4 hR hkk
    go_wp2_with fail
    refine ⟨_, rfl, hC.out, ?_⟩
    repeat (first | (refine seq_plain (by rfl) ?_; go_big_quiet_step (fail); refine wpQuiet_nil ?_) | (refine seq_move (by rfl) (by rfl) ?_; go_wp2_with (first | (go_at_call 15; first | ((with_reducible refine (calls_in (hsm.out _ _ _ HE3.out HE4.out)).mono ?_); rintro e w1 ⟨rfl, q1, rfl⟩) | ((with_reducible refine (hsm.out _ _ _ HE3.out HE4.out).mono ?_); rintro e w1 ⟨rfl, q1, rfl⟩) | ((with_reducible refine (calls_in (hsm.out _ _ _ HE3.out HE4.out)).mono ?_); rintro e w1 ⟨rfl, q1, rfl⟩) | ((with_reducible refine (hsm.out _ _ _ HE3.out HE4.out).mono ?_); rintro e w1 ⟨rfl, q1, rfl⟩)) | (go_at_call 17; first | ((with_reducible refine (calls_in (hsv.out _ _ (HKw.out.kept (kept_extR _ _)))).mono ?_); rintro e w1 ⟨rfl, q1, rfl⟩) | ((with_reducible refine (hsv.out _ _ (HKw.out.kept (kept_extR _ _))).mono ?_); rintro e w1 ⟨rfl, q1, rfl⟩) | ((with_reducible refine (calls_in (hsv.out _ _ HKw.out)).mono ?_); rintro e w1 ⟨rfl, q1, rfl⟩) | ((with_reducible refine (hsv.out _ _ HKw.out).mono ?_); rintro e w1 ⟨rfl, q1, rfl⟩)) | (go_at_call 10; first | ((refine (calls_in (awake9_ok _)).mono ?_); rintro e w1 ⟨rfl, q1, rfl⟩) | ((refine (awake9_ok _).mono ?_); rintro e w1 ⟨rfl, q1, rfl⟩))); refine ⟨_, rfl, (class_kept hC (by first | exact below_ext _ _ | exact Kept.refl _)).out, ?_⟩))
    refine seq_nil ?_
    have hkC := Later.kept hC.out
    clear hC
    have hkf := Lib.hid (HKW.out.trans hkC)
    clear hkC
    go_wp2_with fail
    go_ret
    exact Ret.of (rfl) (by simp (maxDischargeDepth := 99) [hkf.out])
set_option maxRecDepth 100000 in
theorem pruneTells_lifted (os : Os) (started : os.Started) (H : Type) (enc : TypeId × Value → H) :
    ReturnsInHanded {} Try.checked os 4 .any (Rows.pruneTellsSpec.pre6 enc Try.prog Try.f4 Rows.pruneTellsRow.domain false) (Rows.pruneTellsSpec.post enc Try.prog Try.f4 false true false false) := by
  refine returnsInHanded_of_change (C := Try.checked) own started (by kernel_rfl) Try.func4
    (ChangeSpec.witness6 (enc := enc) (C := Try.checked) false ⟨#[], #[.slice none 0 0, .agg #[.int .u64 0, .int .u64 0]], []⟩ 8 (by kernel_rfl) (by kernel_rfl) (by kernel_rfl) (by kernel_rfl)) ?_
  intro W base args ds gs before hval0 hW hcnd _
  have hval : ∀ (j : Nat) t v, Try.f4.params[j]? = some t → args[j]? = some v → Value.okWide Try.prog W .any base t v := hval0
  have hW' := hW
  obtain ⟨p, q, hA0, hV, rfl, hfz, hnd⟩ := hW
  obtain ⟨rfl, rfl⟩ := trodVars_none hV
  rw [List.append_nil] at hW'
  have hA : DataW.TrodAll enc Try.prog W 0 (fun _ => true) true Try.f4.params.toList args.toList ds p := hA0
  have hA1 := hA
  rw [Try.params4] at hA1 hval
  obtain ⟨v0, vs0, d0, ds0, p0, q0, hargs, rfl, rfl, h0, r0⟩ := trodAll_cons hA1
  obtain ⟨v1, vs1, d1, ds1, p1, q1, rfl, rfl, rfl, h1, r1⟩ := trodAll_cons r0
  obtain ⟨rfl, rfl, rfl⟩ := trodAll_nil r1
  obtain rfl : args = #[v0, v1] := by cases args; simp_all
  obtain ⟨L0, E0, _⟩ := open_routes (hval 0 _ v0 rfl rfl) h0
  obtain ⟨X1, rfl⟩ := open_addr (hval 1 _ v1 rfl rfl) h1
  refine (pruneTells_walk L0 v0 X1 W E0).mono fun e W' ⟨he, hg⟩ => ?_
  subst he
  exact ⟨_, rfl, post_true laidOut (by rw [Try.params4]; intro t ht; simp at ht; first | (subst ht; exact ⟨by kernel_rfl, of_decide_eq_true (by kernel_rfl)⟩) | (rcases ht with rfl | rfl <;> exact ⟨by kernel_rfl, of_decide_eq_true (by kernel_rfl)⟩) | (rcases ht with rfl | rfl | rfl <;> exact ⟨by kernel_rfl, of_decide_eq_true (by kernel_rfl)⟩) | (rcases ht with rfl | rfl | rfl | rfl <;> exact ⟨by kernel_rfl, of_decide_eq_true (by kernel_rfl)⟩)) rfl hW' hA rfl (trodAll_cons_mk (shut_bool Try.underlying4 _) trodAll_mk0) (Later.kept hg)⟩

theorem pruneTells_holds : Rows.PruneTellsSaid :=
  OpenClaim.holds_of_wide 4 Try.f4 rfl rfl rfl rfl rfl rfl rfl ⟨rfl, rfl, rfl, rfl, rfl⟩ rfl rfl rfl rfl rfl (by kernel_rfl) Try.func4 (by kernel_rfl)
    (of_decide_eq_true (by kernel_rfl)) (by unfold Func.isWrapper; first | (rw [if_pos (by decide +kernel)]; kernel_rfl) | (rw [if_neg (by decide +kernel)]; exact ⟨rfl, rfl⟩))
    (fun os started H enc _ => pruneTells_lifted os started H enc)
#print axioms pruneTells_holds
end Go.Proofs.Ytdoghlncoinhoaa
