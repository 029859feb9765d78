/- RibFinds: the route of any prefix, and the best one for any address, are the document's, or that there is none. -/
import Derived.Test.YtjkhdjonlppdoaaRows
import Derived.Test.YtjkhdjonlppdoaaLaw6
import Derived.Test.YtjkhdjonlppdoaaKit4
import Derived.Test.YtjkhdjonlppdoaaKit9
namespace Go.Proofs.Ytjkhdjonlppdoaa
open Go.RowKit Pg Go.ChangeShapes Go.WideShapes Go.ChangeAt

set_option maxHeartbeats 2000000 in
set_option maxRecDepth 100000 in
theorem ribFinds_walk (l : List Rt) (v : Value) (x : B) (n : Int) (_ : -9223372036854775808 ≤ n) (_ : n ≤ 9223372036854775807) (a : B) (w : World) (hl : Els w v 4 Rt.cells l) : Calls Try.prog 5 #[v, pv x n, av a] w (Ret (.bool true) w) := by
  have HE := Lib.hid hl
  obtain ⟨ad, c, rfl, hc, he⟩ := hl.form
  cases htb : tab9B l
  · have HT := Lib.hid (fun W (h : Els W (.slice ad l.length c) 4 Rt.cells l) => law06table_as htb W h)
    clear hl he htb
    go_enter Try.func5, Try.ntmps5
    go_wp2_with fail
    refine (HT.out _ ((HE.out.alloc _).alloc _)).mono ?_
    rintro e w1 ⟨rfl, q1, rfl⟩
    go_wp2_with fail
    refine (awake6_ok _).mono ?_
    rintro e w1 ⟨rfl, q2, rfl⟩
    go_wp2_with fail
    go_ret
    exact Ret.of (rfl) (by simp (maxDischargeDepth := 99))
  obtain ⟨htab, hn⟩ := tab9B_parts htb
  have hTab := (tab_of htab).1
  have HT := Lib.hid (fun W (h : Els W (.slice ad l.length c) 4 Rt.cells l) => law06table_as htb W h)
  obtain ⟨o1, ho1⟩ : ∃ o, l.find? (eqR x n) = o := ⟨_, rfl⟩
  obtain ⟨b1, hb1⟩ : ∃ b, o1.getD z0r = b := ⟨_, rfl⟩
  obtain ⟨i1, hi1⟩ : ∃ i, o1.isSome = i := ⟨_, rfl⟩
  obtain ⟨o2, ho2⟩ : ∃ o, bestO (matchR a) l = o := ⟨_, rfl⟩
  obtain ⟨b2, hb2⟩ : ∃ b, o2.getD z0r = b := ⟨_, rfl⟩
  obtain ⟨i2, hi2⟩ : ∃ i, o2.isSome = i := ⟨_, rfl⟩
  obtain ⟨t9, ht9⟩ : ∃ t, tellR l a = t := ⟨_, rfl⟩
  have hr1 : retR o1 = .tuple #[rv b1, .bool i1] := by unfold retR; rw [hb1, hi1]
  have hr2 : retR o2 = .tuple #[rv b2, .bool i2] := by unfold retR; rw [hb2, hi2]
  have hfd := Lib.hid (fun W (u : Value) (h : Els W u 4 Rt.cells l) => show Calls Try.prog 22 #[u, pv x n] W (Ret (.tuple #[rv b1, .bool i1]) W) by have := ribfind_any x n W h hTab (by omega); rwa [ho1, hr1] at this)
  have hrf := Lib.hid (fun W (u : Value) (h : Els W u 4 Rt.cells l) => show Calls Try.prog 24 #[u, pv x n] W (Ret (.tuple #[rv b1, .bool i1]) W) by have := reffindR_any x n W h (by omega); rwa [ho1, hr1] at this)
  have hbs := Lib.hid (fun W (u : Value) (h : Els W u 4 Rt.cells l) => show Calls Try.prog 23 #[u, av a] W (Ret (.tuple #[rv b2, .bool i2]) W) by have := ribbest_any a W h (by omega); rwa [ho2, hr2] at this)
  have hrb := Lib.hid (fun W (u : Value) (h : Els W u 4 Rt.cells l) => show Calls Try.prog 26 #[u, av a] W (Ret (.tuple #[rv b2, .bool i2]) W) by have := refbestR_any a W h hTab (by omega); rwa [ho2, hr2] at this)
  have htl := Lib.hid (fun W (u : Value) (h : Els W u 4 Rt.cells l) => show Calls Try.prog 27 #[u, av a] W (Ret (.int .i64 t9) W) by rw [← ht9]; exact ribtell_any a W h (by omega))
  have hrt := Lib.hid (fun W (u : Value) (h : Els W u 4 Rt.cells l) => show Calls Try.prog 28 #[u, av a] W (Ret (.int .i64 t9) W) by rw [← ht9]; exact reftellR_any a W h hTab (by omega))
  have hof := Lib.hid (fun W (u : Value) (h : Els W u 4 Rt.cells l) => law06of_any W h (by omega))
  clear hl he htb htab hTab ho1 hb1 hi1 ho2 hb2 hi2 ht9 hr1 hr2
  go_enter Try.func5, Try.ntmps5
  go_wp2_with fail
  refine (HT.out _ ((HE.out.alloc _).alloc _)).mono ?_
  rintro e w1 ⟨rfl, q1, rfl⟩
  obtain ⟨wz, hwz⟩ : ∃ wz, wz = ext ((w.alloc (.cells #[.int .u64 (hi x), .int .u64 (lo x), .int .i64 n] 27)).alloc (.cells #[.int .u64 (hi a), .int .u64 (lo a)] 25)) q1 := ⟨_, rfl⟩
  have HKZ := Lib.hid (show Kept w wz by rw [hwz]; exact (Kept.alloc (Kept.alloc (Kept.refl w) _) _).ext _)
  have HBp := Lib.hid (show Blk wz w.heap.size 27 #[.int .u64 (hi x), .int .u64 (lo x), .int .i64 n] by rw [hwz]; exact ((Blk.new' w _ _ rfl).alloc _).ext _)
  have HBa := Lib.hid (show Blk wz (w.heap.size + 1) 25 #[.int .u64 (hi a), .int .u64 (lo a)] by rw [hwz]; exact (Blk.new' _ _ _ (by simp)).ext _)
  obtain ⟨p0, p1, p2, pl⟩ := Blk.three HBp.out
  rw [← hwz]
  clear hwz
  go_wp2_with fail
  refine (hfd.out _ _ (HE.out.kept HKZ.out)).mono ?_
  rintro e w1 ⟨rfl, q3, rfl⟩
  obtain ⟨gx, hgx⟩ : ∃ gx, gx = (ext wz q3).heap.size := ⟨_, rfl⟩
  obtain ⟨wy, hwy⟩ : ∃ wy, wy = (ext wz q3).alloc (.cells #[.int .u64 (hi b1.x), .int .u64 (lo b1.x), .int .i64 b1.n, .int .i64 b1.act] 29) := ⟨_, rfl⟩
  have HZY := Lib.hid (show Kept wz wy by rw [hwy]; simp (maxDischargeDepth := 99))
  have HBx := Lib.hid (show Blk wy gx 29 #[.int .u64 (hi b1.x), .int .u64 (lo b1.x), .int .i64 b1.n, .int .i64 b1.act] by rw [hwy]; exact Blk.new' _ _ _ hgx)
  have HKY := Lib.hid (HKZ.out.trans HZY.out)
  obtain ⟨t0, t1, tl⟩ := Blk.two HBa.out
  go_wp2_with fail
  rw [← hwy, ← hgx]
  clear hwy hgx
  refine (hbs.out _ _ (HE.out.kept HKY.out)).mono ?_
  rintro e w1 ⟨rfl, q4, rfl⟩
  obtain ⟨gy, hgy⟩ : ∃ gy, gy = (ext wy q4).heap.size := ⟨_, rfl⟩
  obtain ⟨wx, hwx⟩ : ∃ wx, wx = (ext wy q4).alloc (.cells #[.int .u64 (hi b2.x), .int .u64 (lo b2.x), .int .i64 b2.n, .int .i64 b2.act] 29) := ⟨_, rfl⟩
  have HYX := Lib.hid (show Kept wy wx by rw [hwx]; simp (maxDischargeDepth := 99))
  have HBy := Lib.hid (show Blk wx gy 29 #[.int .u64 (hi b2.x), .int .u64 (lo b2.x), .int .i64 b2.n, .int .i64 b2.act] by rw [hwx]; exact Blk.new' _ _ _ hgy)
  have HKX := Lib.hid (HKY.out.trans HYX.out)
  go_wp2_with fail
  rw [← hwx, ← hgy]
  clear hwx hgy p0 p1 p2 pl t0 t1 tl
  obtain ⟨p0, p1, p2, pl⟩ := Blk.three (HBp.out.kept (HZY.out.trans HYX.out))
  obtain ⟨t0, t1, tl⟩ := Blk.two (HBa.out.kept (HZY.out.trans HYX.out))
  refine region_seqW pbA _ (Later.refl _) 8 11 37 _ _ 36 #[.int .u64 0, .int .u64 0, .int .i64 0, .int .i64 0] _ mixed rfl (Nat.le_of_ble_eq_true rfl) rfl rfl rfl rfl (by kernel_rfl) (fun _ _ => by kernel_rfl) rfl rfl rfl rfl (by rfl) (by kernel_rfl) (by kernel_rfl) ?_
  intro v0 hv0
  have HV0 := Lib.hid (Later.kept hv0)
  clear hv0
  simp only [List.take_succ_cons, List.take_zero, List.drop_succ_cons, List.drop_zero]
  repeat (refine seqH_plain (by rfl) (by rfl) ?_; go_big_quiet_step (fail); refine wpQuiet_nil ?_)
  refine seqH_move (by rfl) (by rfl) fun v1 hv1 hp1 => ?_
  have HV1 := Lib.hid (Later.kept hv1)
  have HP1 := Lib.hid hp1
  clear hv1 hp1
  go_wp2_with fail
  refine (hof.out _ _ (HE.out.kept (HKX.out.trans HV1.out))).mono ?_
  rintro e w1 hR
  obtain ⟨a1, c1, rfl, hlc1, hown1, hels1⟩ := RetEls.out2 Rt.cells_len hR
  have HE1 := Lib.hid hels1
  have HK1 := Lib.hid hown1.1
  clear hown1 hels1 hR
  go_wp2_with fail
  refine ⟨_, rfl, Later.of (HV1.out.trans HK1.out), HK1.out, ?_⟩
  repeat (refine seqH_plain (by rfl) (by rfl) ?_; go_big_quiet_step (fail); refine wpQuiet_nil ?_)
  refine seqH_move (by rfl) (by rfl) fun v2 hv2 hp2 => ?_
  have HV2 := Lib.hid (Later.kept hv2)
  have HP2 := Lib.hid hp2
  clear hv2 hp2
  go_wp2_with fail
  refine (law02of_any _ _ _).mono ?_
  rintro e w1 ⟨rfl, q2, rfl⟩
  go_wp2_with fail
  refine ⟨_, rfl, Later.of (HV2.out.trans (kept_extR _ _)), kept_extR _ _, ?_⟩
  repeat (refine seqH_plain (by rfl) (by rfl) ?_; go_big_quiet_step (fail); refine wpQuiet_nil ?_)
  refine seqH_move (by rfl) (by rfl) fun v3 hv3 hp3 => ?_
  have HV3 := Lib.hid (Later.kept hv3)
  have HP3 := Lib.hid hp3
  clear hv3 hp3
  go_wp2_with fail
  refine (hrf.out _ _ (HE1.out.kept (HP2.out.trans ((kept_extR _ _).trans HP3.out)))).mono ?_
  rintro e w1 ⟨rfl, q3, rfl⟩
  go_wp2_with fail
  refine ⟨_, rfl, Later.of (HV3.out.trans (kept_extR _ _)), kept_extR _ _, ?_⟩
  repeat (refine seqH_plain (by rfl) (by rfl) ?_; go_big_quiet_step (fail); refine wpQuiet_nil ?_)
  refine seqH_nil fun wx hcx hkx => ?_
  clear hcx hkx wx
  refine ⟨⟨_, rfl, by kernel_rfl, rfl, by simp [Value.oneCell'], ?_⟩⟩
  intro g5 w5 hc5 hg5 hb5
  have HC5 := Lib.hid (Later.kept hc5)
  have HB5 := Lib.hid hb5
  clear hc5 hb5
  clear p0 p1 p2 pl t0 t1 tl
  obtain ⟨t0, t1, tl⟩ := Blk.two ((HBa.out.kept (HZY.out.trans HYX.out)).kept HC5.out)
  go_wp2_with fail
  refine region_seqW pbA _ (Later.refl _) 7 13 44 _ _ 36 #[.int .u64 0, .int .u64 0, .int .i64 0, .int .i64 0] _ mixed rfl (Nat.le_of_ble_eq_true rfl) rfl rfl rfl rfl (by kernel_rfl) (fun _ _ => by kernel_rfl) rfl rfl rfl rfl (by rfl) (by kernel_rfl) (by kernel_rfl) ?_
  intro v0 hv0
  have HV0 := Lib.hid (Later.kept hv0)
  clear hv0
  simp only [List.take_succ_cons, List.take_zero, List.drop_succ_cons, List.drop_zero]
  repeat (refine seqH_plain (by rfl) (by rfl) ?_; go_big_quiet_step (fail); refine wpQuiet_nil ?_)
  refine seqH_move (by rfl) (by rfl) fun v6 hv6 hp6 => ?_
  have HV6 := Lib.hid (Later.kept hv6)
  have HP6 := Lib.hid hp6
  clear hv6 hp6
  go_wp2_with fail
  refine (hof.out _ _ (HE.out.kept (HKX.out.trans (HC5.out.trans HV6.out)))).mono ?_
  rintro e w6 hR
  obtain ⟨a6, c6, rfl, hlc6, hown6, hels6⟩ := RetEls.out2 Rt.cells_len hR
  have HE6 := Lib.hid hels6
  have HK6 := Lib.hid hown6.1
  clear hown6 hels6 hR
  go_wp2_with fail
  refine ⟨_, rfl, Later.of (HV6.out.trans HK6.out), HK6.out, ?_⟩
  repeat (refine seqH_plain (by rfl) (by rfl) ?_; go_big_quiet_step (fail); refine wpQuiet_nil ?_)
  refine seqH_move (by rfl) (by rfl) fun v7 hv7 hp7 => ?_
  have HV7 := Lib.hid (Later.kept hv7)
  have HP7 := Lib.hid hp7
  clear hv7 hp7
  go_wp2_with fail
  refine (hrb.out _ _ (HE6.out.kept HP7.out)).mono ?_
  rintro e w1 ⟨rfl, q7, rfl⟩
  go_wp2_with fail
  refine ⟨_, rfl, Later.of (HV7.out.trans (kept_extR _ _)), kept_extR _ _, ?_⟩
  repeat (refine seqH_plain (by rfl) (by rfl) ?_; go_big_quiet_step (fail); refine wpQuiet_nil ?_)
  refine seqH_nil fun wx hcx hkx => ?_
  clear hcx hkx wx
  refine ⟨⟨_, rfl, by kernel_rfl, rfl, by simp [Value.oneCell'], ?_⟩⟩
  intro g8 w8 hc8 hg8 hb8
  have HC8 := Lib.hid (Later.kept hc8)
  have HB8 := Lib.hid hb8
  clear hc8 hb8
  clear t0 t1 tl
  have HX8 := Lib.hid (HC5.out.trans HC8.out)
  obtain ⟨t0, t1, tl⟩ := Blk.two ((HBa.out.kept (HZY.out.trans HYX.out)).kept HX8.out)
  obtain ⟨x0, x1, x2, x3, xl⟩ := Blk.four (HBx.out.kept (HYX.out.trans HX8.out))
  obtain ⟨y0, y1, y2, y3, yl⟩ := Blk.four (HBy.out.kept HX8.out)
  obtain ⟨f0, f1, f2, f3, fl⟩ := Blk.four (HB5.out.kept HC8.out)
  obtain ⟨k0, k1, k2, k3, kl⟩ := Blk.four HB8.out
  have HKW := Lib.hid (HKX.out.trans HX8.out)
  go_wp2_with fail
  refine region_seq _ (Later.refl _) mixed (by kernel_rfl) (by kernel_rfl) ?_
  intro q9
  refine seq_named fun W1 hW1 => ?_
  have hC := Lib.hid (show ∃ p, W1 = ext _ p from ⟨q9, hW1⟩)
  clear hW1 q9
  repeat (first | (refine seq_plain (by rfl) ?_; go_big_quiet_step (fail); refine wpQuiet_nil ?_) | (refine seq_move (by rfl) (by rfl) ?_; go_wp2_with (first | (go_at_call 14; first | ((refine (calls_in (law06one_any _ _)).mono ?_); rintro e w1 ⟨rfl, q1, rfl⟩) | ((refine (law06one_any _ _).mono ?_); rintro e w1 ⟨rfl, q1, rfl⟩)) | (go_at_call 27; first | ((refine (calls_in (htl.out _ _ (HE.out.kept (HKW.out.trans (Kept.trans (Later.kept hC.out) (by simp (maxDischargeDepth := 99))))))).mono ?_); rintro e w1 ⟨rfl, q1, rfl⟩) | ((refine (htl.out _ _ (HE.out.kept (HKW.out.trans (Kept.trans (Later.kept hC.out) (by simp (maxDischargeDepth := 99)))))).mono ?_); rintro e w1 ⟨rfl, q1, rfl⟩))); refine ⟨_, rfl, (class_kept hC (by first | exact below_ext _ _ | exact Kept.refl _)).out, ?_⟩))
  refine seq_move (by rfl) (by rfl) ?_
  go_wp2_with fail
  refine (hof.out _ _ (HE.out.kept (HKW.out.trans (Kept.trans (Later.kept hC.out) (by simp (maxDischargeDepth := 99)))))).mono ?_
  rintro e w9 hR
  obtain ⟨a9, c9, rfl, hlc9, hown9, hels9⟩ := RetEls.out2 Rt.cells_len hR
  have hkk := kept_on hC (by first | exact .inl rfl | exact .inr ⟨_, rfl⟩) hown9.1
  replace hC := class_kept hC hkk
  have HE9 := Lib.hid hels9
  clear hown9 hels9 hR hkk
  go_wp2_with fail
  refine ⟨_, rfl, hC.out, ?_⟩
  repeat (first | (refine seq_plain (by rfl) ?_; go_big_quiet_step (fail); refine wpQuiet_nil ?_) | (refine seq_move (by rfl) (by rfl) ?_; go_wp2_with (first | (go_at_call 28; first | ((refine (calls_in (hrt.out _ _ HE9.out)).mono ?_); rintro e w1 ⟨rfl, q1, rfl⟩) | ((refine (hrt.out _ _ HE9.out).mono ?_); rintro e w1 ⟨rfl, q1, rfl⟩)) | (go_at_call 11; first | ((refine (calls_in (awake6_ok _)).mono ?_); rintro e w1 ⟨rfl, q1, rfl⟩) | ((refine (awake6_ok _).mono ?_); rintro e w1 ⟨rfl, q1, rfl⟩))); refine ⟨_, rfl, (class_kept hC (by first | exact below_ext _ _ | exact Kept.refl _)).out, ?_⟩))
  refine seq_nil ?_
  have hkC := Later.kept hC.out
  clear hC
  have hkf := Lib.hid (HKW.out.trans hkC)
  clear hkC
  go_wp2_with fail
  go_ret
  exact Ret.of (rfl) (by simp (maxDischargeDepth := 99) [hkf.out])
set_option maxRecDepth 100000 in
theorem ribFinds_lifted (os : Os) (started : os.Started) (H : Type) (enc : TypeId × Value → H) :
    ReturnsInHanded {} Try.checked os 5 .any (Rows.ribFindsSpec.pre6 enc Try.prog Try.f5 Rows.ribFindsRow.domain false) (Rows.ribFindsSpec.post enc Try.prog Try.f5 false true false false) := by
  refine returnsInHanded_of_change (C := Try.checked) own started (by kernel_rfl) Try.func5
    (ChangeSpec.witness6 (enc := enc) (C := Try.checked) false ⟨#[], #[.slice none 0 0, .agg #[.int .u64 0, .int .u64 0, .int .i64 0], .agg #[.int .u64 0, .int .u64 0]], []⟩ 8 (by kernel_rfl) (by kernel_rfl) (by kernel_rfl) (by kernel_rfl)) ?_
  intro W base args ds gs before hval0 hW hcnd _
  have hval : ∀ (j : Nat) t v, Try.f5.params[j]? = some t → args[j]? = some v → Value.okWide Try.prog W .any base t v := hval0
  have hW' := hW
  obtain ⟨p, q, hA0, hV, rfl, hfz, hnd⟩ := hW
  obtain ⟨rfl, rfl⟩ := trodVars_none hV
  rw [List.append_nil] at hW'
  have hA : DataW.TrodAll enc Try.prog W 0 (fun _ => true) true Try.f5.params.toList args.toList ds p := hA0
  have hA1 := hA
  rw [Try.params5] at hA1 hval
  obtain ⟨v0, vs0, d0, ds0, p0, q0, hargs, rfl, rfl, h0, r0⟩ := trodAll_cons hA1
  obtain ⟨v1, vs1, d1, ds1, p1, q1, rfl, rfl, rfl, h1, r1⟩ := trodAll_cons r0
  obtain ⟨v2, vs2, d2, ds2, p2, q2, rfl, rfl, rfl, h2, r2⟩ := trodAll_cons r1
  obtain ⟨rfl, rfl, rfl⟩ := trodAll_nil r2
  obtain rfl : args = #[v0, v1, v2] := by cases args; simp_all
  obtain ⟨L0, E0, _⟩ := open_routes (hval 0 _ v0 rfl rfl) h0
  obtain ⟨X1, N1, rfl, a1, b1⟩ := open_prefix (hval 1 _ v1 rfl rfl) h1
  obtain ⟨X2, rfl⟩ := open_addr (hval 2 _ v2 rfl rfl) h2
  refine (ribFinds_walk L0 v0 X1 N1 a1 b1 X2 W E0).mono fun e W' ⟨he, hg⟩ => ?_
  subst he
  exact ⟨_, rfl, post_true laidOut (by rw [Try.params5]; intro t ht; simp at ht; first | (subst ht; exact ⟨by kernel_rfl, of_decide_eq_true (by kernel_rfl)⟩) | (rcases ht with rfl | rfl <;> exact ⟨by kernel_rfl, of_decide_eq_true (by kernel_rfl)⟩) | (rcases ht with rfl | rfl | rfl <;> exact ⟨by kernel_rfl, of_decide_eq_true (by kernel_rfl)⟩) | (rcases ht with rfl | rfl | rfl | rfl <;> exact ⟨by kernel_rfl, of_decide_eq_true (by kernel_rfl)⟩)) rfl hW' hA rfl (trodAll_cons_mk (shut_bool Try.underlying4 _) trodAll_mk0) (Later.kept hg)⟩

theorem ribFinds_holds : Rows.RibFindsSaid :=
  OpenClaim.holds_of_wide 5 Try.f5 rfl rfl rfl rfl rfl rfl rfl ⟨rfl, rfl, rfl, rfl, rfl⟩ rfl rfl rfl rfl rfl (by kernel_rfl) Try.func5 (by kernel_rfl)
    (of_decide_eq_true (by kernel_rfl)) (by unfold Func.isWrapper; first | (rw [if_pos (by decide +kernel)]; kernel_rfl) | (rw [if_neg (by decide +kernel)]; exact ⟨rfl, rfl⟩))
    (fun os started H enc _ => ribFinds_lifted os started H enc)
#print axioms ribFinds_holds
end Go.Proofs.Ytjkhdjonlppdoaa
