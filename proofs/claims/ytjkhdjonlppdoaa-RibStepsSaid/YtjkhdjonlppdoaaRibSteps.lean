/- RibSteps: a route that was put is found, and dropped it is not; put again over itself nothing changes. -/
import Derived.Test.YtjkhdjonlppdoaaRows
import Derived.Test.YtjkhdjonlppdoaaLaw6
import Derived.Test.YtjkhdjonlppdoaaKit4
import Derived.Test.YtjkhdjonlppdoaaKit9
namespace Go.Proofs.Ytjkhdjonlppdoaa
open Go.RowKit Pg Go.ChangeShapes Go.WideShapes Go.ChangeAt

set_option maxHeartbeats 2000000 in
set_option maxRecDepth 100000 in
theorem ribSteps_walk (l : List Rt) (v : Value) (r : Rt) (w : World) (hl : Els w v 4 Rt.cells l) : Calls Try.prog 9 #[v, rv r] w (Ret (.bool true) w) := by
  have HE := Lib.hid hl
  obtain ⟨ad, c, rfl, hc, he⟩ := hl.form
  cases htb : tab9B l
  · have HT := Lib.hid (fun W (h : Els W (.slice ad l.length c) 4 Rt.cells l) => law06table_as htb W h)
    clear hl he htb
    go_enter Try.func9, Try.ntmps9
    go_wp2_with fail
    refine (HT.out _ (HE.out.alloc _)).mono ?_
    rintro e w1 ⟨rfl, q1, rfl⟩
    go_wp2_with fail
    refine (awake6_ok _).mono ?_
    rintro e w1 ⟨rfl, q2, rfl⟩
    go_wp2_with fail
    go_ret
    exact Ret.of (rfl) (by simp (maxDischargeDepth := 99))
  obtain ⟨htab, hn⟩ := tab9B_parts htb
  have hTab := (tab_of htab).1
  have HT := Lib.hid (fun W (h : Els W (.slice ad l.length c) 4 Rt.cells l) => law06table_as htb W h)
  cases hr : rightR 128 r
  · have hrr := Lib.hid (fun W => refrightR_as hr W)
    clear hl he htb htab hTab hr
    go_enter Try.func9, Try.ntmps9
    go_wp2_with fail
    refine (HT.out _ (HE.out.alloc _)).mono ?_
    rintro e w1 ⟨rfl, q1, rfl⟩
    obtain ⟨wz, hwz⟩ : ∃ wz, wz = ext (w.alloc (.cells #[.int .u64 (hi r.x), .int .u64 (lo r.x), .int .i64 r.n, .int .i64 r.act] 29)) q1 := ⟨_, rfl⟩
    have HKZ := Lib.hid (show Kept w wz by rw [hwz]; exact (Kept.alloc (Kept.refl w) _).ext _)
    have HBr := Lib.hid (show Blk wz w.heap.size 29 #[.int .u64 (hi r.x), .int .u64 (lo r.x), .int .i64 r.n, .int .i64 r.act] by rw [hwz]; exact (Blk.new' w _ _ rfl).ext _)
    obtain ⟨r0, r1, r2, r3, rl⟩ := Blk.four HBr.out
    rw [← hwz]
    clear hwz
    go_wp2_with fail
    refine (law06one_any _ _).mono ?_
    rintro e w1 ⟨rfl, q2, rfl⟩
    go_wp2_with fail
    refine (hrr.out _).mono ?_
    rintro e w1 ⟨rfl, q3, rfl⟩
    go_wp2_with fail
    refine (awake6_ok _).mono ?_
    rintro e w1 ⟨rfl, q4, rfl⟩
    go_wp2_with fail
    go_ret
    exact Ret.of (rfl) (by simp (maxDischargeDepth := 99) [HKZ.out])
  have hrr := Lib.hid (fun W => refrightR_as hr W)
  have hpx := right_px hr
  have hTp := putR_tab hTab hpx
  have hpp := putR_twice hTab hpx
  have hdp := dropR_put hTab hpx
  have hfp := findR_put hTab hpx
  have hfn := findR_drop l r.x r.n
  have hTd := hTab.filter (fun s => !eqR r.x r.n s)
  obtain ⟨P, hP⟩ : ∃ P, putR r l = P := ⟨_, rfl⟩
  have hPl : P.length ≤ 25 := by rw [← hP]; have := putR_len r l; omega
  obtain ⟨D, hD⟩ : ∃ D, (l.filter fun s => !eqR r.x r.n s) = D := ⟨_, rfl⟩
  have hDl : D.length ≤ 24 := by rw [← hD]; exact Nat.le_trans (List.length_filter_le _ _) hn
  rw [hP] at hTp hpp hdp hfp
  rw [hD] at hdp hfn hTd
  have hput := Lib.hid (fun W (u : Value) (h : Els W u 4 Rt.cells l) => show Calls Try.prog 20 #[u, rv r] W (RetEls 29 4 Rt.cells P W) by rw [← hP]; exact ribput_any r W h hTab (by omega))
  have hput2 := Lib.hid (fun W (u : Value) (h : Els W u 4 Rt.cells P) => show Calls Try.prog 20 #[u, rv r] W (RetEls 29 4 Rt.cells P W) by have := ribput_any r W h hTp (by omega); rwa [hpp] at this)
  have hfd := Lib.hid (fun W (u : Value) (h : Els W u 4 Rt.cells P) => show Calls Try.prog 22 #[u, pv r.x r.n] W (Ret (.tuple #[rv r, .bool true]) W) by have := ribfind_any r.x r.n W h hTp (by omega); rwa [hfp] at this)
  have hdr := Lib.hid (fun W (u : Value) (h : Els W u 4 Rt.cells P) => show Calls Try.prog 29 #[u, pv r.x r.n] W (RetEls 29 4 Rt.cells D W) by have := ribdrop_any r.x r.n W h hTp (by omega); rwa [hdp] at this)
  have hfd2 := Lib.hid (fun W (u : Value) (h : Els W u 4 Rt.cells D) => show Calls Try.prog 22 #[u, pv r.x r.n] W (Ret (.tuple #[rv z0r, .bool false]) W) by have := ribfind_any r.x r.n W h hTd (by omega); rwa [hfn] at this)
  have hof := Lib.hid (fun W (u : Value) (h : Els W u 4 Rt.cells l) => law06of_any W h (by omega))
  have hofP := Lib.hid (fun W (u : Value) (h : Els W u 4 Rt.cells P) => law06of_any W h (by omega))
  have hrd := Lib.hid (fun W (u : Value) (h : Els W u 4 Rt.cells l) => show Calls Try.prog 32 #[u, pv r.x r.n] W (RetEls 36 4 Rt.cells D W) by rw [← hD]; exact refdropR_any r.x r.n W h (by omega))
  have hsmP := Lib.hid (fun W (u u' : Value) (h : Els W u 4 Rt.cells P) (h' : Els W u' 4 Rt.cells P) => law06same_any W h h' (by omega))
  have hsmD := Lib.hid (fun W (u u' : Value) (h : Els W u 4 Rt.cells D) (h' : Els W u' 4 Rt.cells D) => law06same_any W h h' (by omega))
  clear hl he htb htab hTab hr hpx hTp hpp hdp hfp hfn hTd hP hD
  go_enter Try.func9, Try.ntmps9
  go_wp2_with fail
  refine (HT.out _ (HE.out.alloc _)).mono ?_
  rintro e w1 ⟨rfl, q1, rfl⟩
  obtain ⟨wz, hwz⟩ : ∃ wz, wz = ext (w.alloc (.cells #[.int .u64 (hi r.x), .int .u64 (lo r.x), .int .i64 r.n, .int .i64 r.act] 29)) q1 := ⟨_, rfl⟩
  have HKZ := Lib.hid (show Kept w wz by rw [hwz]; exact (Kept.alloc (Kept.refl w) _).ext _)
  have HBr := Lib.hid (show Blk wz w.heap.size 29 #[.int .u64 (hi r.x), .int .u64 (lo r.x), .int .i64 r.n, .int .i64 r.act] by rw [hwz]; exact (Blk.new' w _ _ rfl).ext _)
  obtain ⟨r0, r1, r2, r3, rl⟩ := Blk.four HBr.out
  rw [← hwz]
  clear hwz
  go_wp2_with fail
  refine (law06one_any _ _).mono ?_
  rintro e w1 ⟨rfl, q2, rfl⟩
  go_wp2_with fail
  refine (hrr.out _).mono ?_
  rintro e w1 ⟨rfl, q3, rfl⟩
  go_wp2_with fail
  refine (hput.out _ _ (HE.out.kept (HKZ.out.trans (by simp (maxDischargeDepth := 99))))).mono ?_
  rintro e w1 hR
  obtain ⟨a1, c1, rfl, hlc1, hown1, hels1⟩ := RetEls.out2 Rt.cells_len hR
  have HE1 := Lib.hid hels1
  have HK1 := Lib.hid hown1.1
  clear hown1 hels1 hR
  have hz1 : Kept wz w1 := Kept.trans (by simp (maxDischargeDepth := 99)) HK1.out
  have HZ1 := Lib.hid hz1
  clear hz1 r0 r1 r2 r3 rl
  obtain ⟨r0, r1, r2, r3, rl⟩ := Blk.four (HBr.out.kept HZ1.out)
  go_wp2_with fail
  refine (hfd.out _ _ HE1.out).mono ?_
  rintro e w1 ⟨rfl, q4, rfl⟩
  obtain ⟨gx, hgx⟩ : ∃ gx, gx = (ext w1 q4).heap.size := ⟨_, rfl⟩
  obtain ⟨wy, hwy⟩ : ∃ wy, wy = (ext w1 q4).alloc (.cells #[.int .u64 (hi r.x), .int .u64 (lo r.x), .int .i64 r.n, .int .i64 r.act] 29) := ⟨_, rfl⟩
  have H1Y := Lib.hid (show Kept w1 wy by rw [hwy]; simp (maxDischargeDepth := 99))
  have HBx := Lib.hid (show Blk wy gx 29 #[.int .u64 (hi r.x), .int .u64 (lo r.x), .int .i64 r.n, .int .i64 r.act] by rw [hwy]; exact Blk.new' _ _ _ hgx)
  go_wp2_with fail
  rw [← hwy, ← hgx]
  clear hwy hgx r0 r1 r2 r3 rl
  obtain ⟨r0, r1, r2, r3, rl⟩ := Blk.four (HBr.out.kept (HZ1.out.trans H1Y.out))
  have HKY := Lib.hid (HKZ.out.trans (HZ1.out.trans H1Y.out))
  refine region_seqW pbA _ (Later.refl _) 10 8 38 _ _ 29 #[.int .u64 0, .int .u64 0, .int .i64 0, .int .i64 0] _ mixed rfl (Nat.le_of_ble_eq_true rfl) rfl rfl rfl rfl (by kernel_rfl) (fun _ _ => by kernel_rfl) rfl rfl rfl rfl (by rfl) (by kernel_rfl) (by kernel_rfl) ?_
  intro v0 hv0
  have HV0 := Lib.hid (Later.kept hv0)
  clear hv0
  simp only [List.take_succ_cons, List.take_zero, List.drop_succ_cons, List.drop_zero]
  repeat (refine seqH_plain (by rfl) (by rfl) ?_; go_big_quiet_step (fail); refine wpQuiet_nil ?_)
  refine seqH_move (by rfl) (by rfl) fun v2 hv2 hp2 => ?_
  have HV2 := Lib.hid (Later.kept hv2)
  have HP2 := Lib.hid hp2
  clear hv2 hp2
  go_wp2_with fail
  refine (hdr.out _ _ (HE1.out.kept (H1Y.out.trans HV2.out))).mono ?_
  rintro e w2 hR
  obtain ⟨a2, c2, rfl, hlc2, hown2, hels2⟩ := RetEls.out2 Rt.cells_len hR
  have HE2 := Lib.hid hels2
  have HK2 := Lib.hid hown2.1
  clear hown2 hels2 hR
  go_wp2_with fail
  refine ⟨_, rfl, Later.of (HV2.out.trans HK2.out), HK2.out, ?_⟩
  repeat (refine seqH_plain (by rfl) (by rfl) ?_; go_big_quiet_step (fail); refine wpQuiet_nil ?_)
  refine seqH_move (by rfl) (by rfl) fun v3 hv3 hp3 => ?_
  have HV3 := Lib.hid (Later.kept hv3)
  have HP3 := Lib.hid hp3
  clear hv3 hp3
  go_wp2_with fail
  refine (hfd2.out _ _ (HE2.out.kept HP3.out)).mono ?_
  rintro e w1 ⟨rfl, q3, rfl⟩
  go_wp2_with fail
  refine ⟨_, rfl, Later.of (HV3.out.trans (kept_extR _ _)), kept_extR _ _, ?_⟩
  repeat (refine seqH_plain (by rfl) (by rfl) ?_; go_big_quiet_step (fail); refine wpQuiet_nil ?_)
  refine seqH_nil fun wx hcx hkx => ?_
  clear hcx hkx wx
  refine ⟨⟨_, rfl, by kernel_rfl, rfl, by simp [Value.oneCell'], ?_⟩⟩
  intro g5 w5 hc5 hg5 hb5
  have HC5 := Lib.hid (Later.kept hc5)
  have HB5 := Lib.hid hb5
  clear hc5 hb5
  clear r0 r1 r2 r3 rl
  have HKW := Lib.hid (HKY.out.trans HC5.out)
  have H15 := Lib.hid (H1Y.out.trans HC5.out)
  obtain ⟨r0, r1, r2, r3, rl⟩ := Blk.four ((HBr.out.kept (HZ1.out.trans H1Y.out)).kept HC5.out)
  obtain ⟨x0, x1, x2, x3, xl⟩ := Blk.four (HBx.out.kept HC5.out)
  go_wp2_with fail
  refine region_seq _ (Later.refl _) mixed (by kernel_rfl) (by kernel_rfl) ?_
  intro q9
  refine seq_named fun W1 hW1 => ?_
  have hC := Lib.hid (show ∃ p, W1 = ext _ p from ⟨q9, hW1⟩)
  clear hW1 q9
  repeat (first | (refine seq_plain (by rfl) ?_; go_big_quiet_step (fail); refine wpQuiet_nil ?_))
  refine seq_move (by rfl) (by rfl) ?_
  go_wp2_with fail
  refine (hput2.out _ _ (HE1.out.kept (H15.out.trans (Kept.trans (Later.kept hC.out) (by simp (maxDischargeDepth := 99)))))).mono ?_
  rintro e w6 hR
  obtain ⟨a6, c6, rfl, hlc6, hown6, hels6⟩ := RetEls.out2 Rt.cells_len hR
  have hkk := kept_on hC (by first | exact .inl rfl | exact .inr ⟨_, rfl⟩) hown6.1
  replace hC := class_kept hC hkk
  have HE6 := Lib.hid hels6
  clear hown6 hels6 hR hkk
  go_wp2_with fail
  refine ⟨_, rfl, hC.out, ?_⟩
  repeat (first | (refine seq_plain (by rfl) ?_; go_big_quiet_step (fail); refine wpQuiet_nil ?_))
  refine seq_move (by rfl) (by rfl) ?_
  go_wp2_with fail
  refine (hofP.out _ _ (HE1.out.kept (H15.out.trans (Kept.trans (Later.kept hC.out) (by simp (maxDischargeDepth := 99)))))).mono ?_
  rintro e w7 hR
  obtain ⟨a7, c7, rfl, hlc7, hown7, hels7⟩ := RetEls.out2 Rt.cells_len hR
  have hkk := kept_on hC (by first | exact .inl rfl | exact .inr ⟨_, rfl⟩) hown7.1
  replace hC := class_kept hC hkk
  have HE7 := Lib.hid hels7
  replace HE6 := Lib.hid (HE6.out.kept hkk)
  clear hown7 hels7 hR hkk
  go_wp2_with fail
  refine ⟨_, rfl, hC.out, ?_⟩
  repeat (first | (refine seq_plain (by rfl) ?_; go_big_quiet_step (fail); refine wpQuiet_nil ?_) | (refine seq_move (by rfl) (by rfl) ?_; go_wp2_with (first | (go_at_call 30; first | ((refine (calls_in (hsmP.out _ _ _ HE6.out HE7.out)).mono ?_); rintro e w1 ⟨rfl, q1, rfl⟩) | ((refine (hsmP.out _ _ _ HE6.out HE7.out).mono ?_); rintro e w1 ⟨rfl, q1, rfl⟩))); refine ⟨_, rfl, (class_kept hC (by first | exact below_ext _ _ | exact Kept.refl _)).out, ?_⟩))
  refine seq_move (by rfl) (by rfl) ?_
  go_wp2_with fail
  refine (hdr.out _ _ (HE1.out.kept (H15.out.trans (Kept.trans (Later.kept hC.out) (by simp (maxDischargeDepth := 99)))))).mono ?_
  rintro e w8 hR
  obtain ⟨a8, c8, rfl, hlc8, hown8, hels8⟩ := RetEls.out2 Rt.cells_len hR
  have hkk := kept_on hC (by first | exact .inl rfl | exact .inr ⟨_, rfl⟩) hown8.1
  replace hC := class_kept hC hkk
  have HE8 := Lib.hid hels8
  clear hown8 hels8 hR hkk
  go_wp2_with fail
  refine ⟨_, rfl, hC.out, ?_⟩
  repeat (first | (refine seq_plain (by rfl) ?_; go_big_quiet_step (fail); refine wpQuiet_nil ?_))
  refine seq_move (by rfl) (by rfl) ?_
  go_wp2_with fail
  refine (hof.out _ _ (HE.out.kept (HKW.out.trans (Kept.trans (Later.kept hC.out) (by simp (maxDischargeDepth := 99)))))).mono ?_
  rintro e w10 hR
  obtain ⟨a10, c10, rfl, hlc10, hown10, hels10⟩ := RetEls.out2 Rt.cells_len hR
  have hkk := kept_on hC (by first | exact .inl rfl | exact .inr ⟨_, rfl⟩) hown10.1
  replace hC := class_kept hC hkk
  have HE10 := Lib.hid hels10
  replace HE8 := Lib.hid (HE8.out.kept hkk)
  clear hown10 hels10 hR hkk
  go_wp2_with fail
  refine ⟨_, rfl, hC.out, ?_⟩
  repeat (first | (refine seq_plain (by rfl) ?_; go_big_quiet_step (fail); refine wpQuiet_nil ?_) | (refine seq_move (by rfl) (by rfl) ?_; go_wp2_with (first | (go_at_call 25; first | ((refine (calls_in (law02of_any _ _ _)).mono ?_); rintro e w1 ⟨rfl, q1, rfl⟩) | ((refine (law02of_any _ _ _).mono ?_); rintro e w1 ⟨rfl, q1, rfl⟩))); refine ⟨_, rfl, (class_kept hC (by first | exact below_ext _ _ | exact Kept.refl _)).out, ?_⟩))
  refine seq_move (by rfl) (by rfl) ?_
  go_wp2_with fail
  refine (hrd.out _ _ (HE10.out.kept (by simp (maxDischargeDepth := 99)))).mono ?_
  rintro e w11 hR
  obtain ⟨a11, c11, rfl, hlc11, hown11, hels11⟩ := RetEls.out2 Rt.cells_len hR
  have hkk := kept_on hC (by first | exact .inl rfl | exact .inr ⟨_, rfl⟩) hown11.1
  replace hC := class_kept hC hkk
  have HE11 := Lib.hid hels11
  replace HE8 := Lib.hid (HE8.out.kept hkk)
  clear hown11 hels11 hR hkk
  go_wp2_with fail
  refine ⟨_, rfl, hC.out, ?_⟩
  repeat (first | (refine seq_plain (by rfl) ?_; go_big_quiet_step (fail); refine wpQuiet_nil ?_) | (refine seq_move (by rfl) (by rfl) ?_; go_wp2_with (first | (go_at_call 30; first | ((refine (calls_in (hsmD.out _ _ _ HE8.out HE11.out)).mono ?_); rintro e w1 ⟨rfl, q1, rfl⟩) | ((refine (hsmD.out _ _ _ HE8.out HE11.out).mono ?_); rintro e w1 ⟨rfl, q1, rfl⟩)) | (go_at_call 11; first | ((refine (calls_in (awake6_ok _)).mono ?_); rintro e w1 ⟨rfl, q1, rfl⟩) | ((refine (awake6_ok _).mono ?_); rintro e w1 ⟨rfl, q1, rfl⟩))); refine ⟨_, rfl, (class_kept hC (by first | exact below_ext _ _ | exact Kept.refl _)).out, ?_⟩))
  refine seq_nil ?_
  have hkC := Later.kept hC.out
  clear hC
  have hkf := Lib.hid (HKW.out.trans hkC)
  clear hkC
  go_wp2_with fail
  go_ret
  exact Ret.of (rfl) (by simp (maxDischargeDepth := 99) [hkf.out])
set_option maxRecDepth 100000 in
theorem ribSteps_lifted (os : Os) (started : os.Started) (H : Type) (enc : TypeId × Value → H) :
    ReturnsInHanded {} Try.checked os 9 .any (Rows.ribStepsSpec.pre6 enc Try.prog Try.f9 Rows.ribStepsRow.domain false) (Rows.ribStepsSpec.post enc Try.prog Try.f9 false true false false) := by
  refine returnsInHanded_of_change (C := Try.checked) own started (by kernel_rfl) Try.func9
    (ChangeSpec.witness6 (enc := enc) (C := Try.checked) false ⟨#[], #[.slice none 0 0, .agg #[.int .u64 0, .int .u64 0, .int .i64 0, .int .i64 0]], []⟩ 8 (by kernel_rfl) (by kernel_rfl) (by kernel_rfl) (by kernel_rfl)) ?_
  intro W base args ds gs before hval0 hW hcnd _
  have hval : ∀ (j : Nat) t v, Try.f9.params[j]? = some t → args[j]? = some v → Value.okWide Try.prog W .any base t v := hval0
  have hW' := hW
  obtain ⟨p, q, hA0, hV, rfl, hfz, hnd⟩ := hW
  obtain ⟨rfl, rfl⟩ := trodVars_none hV
  rw [List.append_nil] at hW'
  have hA : DataW.TrodAll enc Try.prog W 0 (fun _ => true) true Try.f9.params.toList args.toList ds p := hA0
  have hA1 := hA
  rw [Try.params9] at hA1 hval
  obtain ⟨v0, vs0, d0, ds0, p0, q0, hargs, rfl, rfl, h0, r0⟩ := trodAll_cons hA1
  obtain ⟨v1, vs1, d1, ds1, p1, q1, rfl, rfl, rfl, h1, r1⟩ := trodAll_cons r0
  obtain ⟨rfl, rfl, rfl⟩ := trodAll_nil r1
  obtain rfl : args = #[v0, v1] := by cases args; simp_all
  obtain ⟨L0, E0, _⟩ := open_routes (hval 0 _ v0 rfl rfl) h0
  obtain ⟨X1, rfl, _⟩ := open_route (hval 1 _ v1 rfl rfl) h1
  refine (ribSteps_walk L0 v0 X1 W E0).mono fun e W' ⟨he, hg⟩ => ?_
  subst he
  exact ⟨_, rfl, post_true laidOut (by rw [Try.params9]; intro t ht; simp at ht; first | (subst ht; exact ⟨by kernel_rfl, of_decide_eq_true (by kernel_rfl)⟩) | (rcases ht with rfl | rfl <;> exact ⟨by kernel_rfl, of_decide_eq_true (by kernel_rfl)⟩) | (rcases ht with rfl | rfl | rfl <;> exact ⟨by kernel_rfl, of_decide_eq_true (by kernel_rfl)⟩) | (rcases ht with rfl | rfl | rfl | rfl <;> exact ⟨by kernel_rfl, of_decide_eq_true (by kernel_rfl)⟩)) rfl hW' hA rfl (trodAll_cons_mk (shut_bool Try.underlying4 _) trodAll_mk0) (Later.kept hg)⟩

theorem ribSteps_holds : Rows.RibStepsSaid :=
  OpenClaim.holds_of_wide 9 Try.f9 rfl rfl rfl rfl rfl rfl rfl ⟨rfl, rfl, rfl, rfl, rfl⟩ rfl rfl rfl rfl rfl (by kernel_rfl) Try.func9 (by kernel_rfl)
    (of_decide_eq_true (by kernel_rfl)) (by unfold Func.isWrapper; first | (rw [if_pos (by decide +kernel)]; kernel_rfl) | (rw [if_neg (by decide +kernel)]; exact ⟨rfl, rfl⟩))
    (fun os started H enc _ => ribSteps_lifted os started H enc)
#print axioms ribSteps_holds
end Go.Proofs.Ytjkhdjonlppdoaa
