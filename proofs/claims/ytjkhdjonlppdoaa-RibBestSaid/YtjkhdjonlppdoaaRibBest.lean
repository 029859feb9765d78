/- RibBest: the best route for an address is that of the last prefix of a chain: with it no more, the one that covers it is. -/
import Derived.Test.YtjkhdjonlppdoaaRows
import Derived.Test.YtjkhdjonlppdoaaLaw6
import Derived.Test.YtjkhdjonlppdoaaKit9
namespace Go.Proofs.Ytjkhdjonlppdoaa
open Go.RowKit Pg Go.ChangeShapes Go.WideShapes Go.ChangeAt

set_option maxHeartbeats 2000000 in
set_option maxRecDepth 100000 in
theorem ribBest_walk (l : List Rt) (v : Value) (a : B) (w : World) (hl : Els w v 4 Rt.cells l) : Calls Try.prog 7 #[v, av a] w (Ret (.bool true) w) := by
  have HE := Lib.hid hl
  obtain ⟨ad, c, rfl, hc, he⟩ := hl.form
  cases htb : tab9B l
  · have HT := Lib.hid (fun W (h : Els W (.slice ad l.length c) 4 Rt.cells l) => law06table_as htb W h)
    clear hl he htb
    go_enter Try.func7, Try.ntmps7
    go_wp2_with fail
    refine (HT.out _ (HE.out.alloc _)).mono ?_
    rintro e w1 ⟨rfl, q1, rfl⟩
    go_wp2_with fail
    refine (awake6_ok _).mono ?_
    rintro e w1 ⟨rfl, q2, rfl⟩
    go_wp2_with fail
    go_ret
    exact Ret.of (rfl) (by simp (maxDischargeDepth := 99))
  obtain ⟨htab, hn⟩ := tab9B_parts htb
  have hTab := (tab_of htab).1
  have HT := Lib.hid (fun W (h : Els W (.slice ad l.length c) 4 Rt.cells l) => law06table_as htb W h)
  cases hb : bestO (matchR a) l with
  | none =>
    have hbs := Lib.hid (fun W (u : Value) (h : Els W u 4 Rt.cells l) => show Calls Try.prog 23 #[u, av a] W (Ret (.tuple #[rv z0r, .bool false]) W) by have := ribbest_any a W h (by omega); rwa [hb] at this)
    clear hl he htb htab hTab hb
    go_enter Try.func7, Try.ntmps7
    go_wp2_with fail
    refine (HT.out _ (HE.out.alloc _)).mono ?_
    rintro e w1 ⟨rfl, q1, rfl⟩
    obtain ⟨wz, hwz⟩ : ∃ wz, wz = ext (w.alloc (.cells #[.int .u64 (hi a), .int .u64 (lo a)] 25)) q1 := ⟨_, rfl⟩
    have HKZ := Lib.hid (show Kept w wz by rw [hwz]; exact (Kept.alloc (Kept.refl w) _).ext _)
    have HBa := Lib.hid (show Blk wz w.heap.size 25 #[.int .u64 (hi a), .int .u64 (lo a)] by rw [hwz]; exact (Blk.new' w _ _ rfl).ext _)
    obtain ⟨t0, t1, tl⟩ := Blk.two HBa.out
    rw [← hwz]
    clear hwz
    go_wp2_with fail
    refine (hbs.out _ _ (HE.out.kept HKZ.out)).mono ?_
    rintro e w1 ⟨rfl, q3, rfl⟩
    go_wp2_with fail
    refine (awake6_ok _).mono ?_
    rintro e w1 ⟨rfl, q4, rfl⟩
    go_wp2_with fail
    go_ret
    exact Ret.of (rfl) (by simp (maxDischargeDepth := 99) [HKZ.out])
  | some r =>
    have hnx := best_next hTab hb
    have hmt : matchB r.x r.n a = true := by have := bestO_top (matchR a) l; rw [hb] at this; exact this.2.1
    have hbs := Lib.hid (fun W (u : Value) (h : Els W u 4 Rt.cells l) => show Calls Try.prog 23 #[u, av a] W (Ret (.tuple #[rv r, .bool true]) W) by have := ribbest_any a W h (by omega); rwa [hb] at this)
    obtain ⟨D, hD⟩ : ∃ D, (l.filter fun s => !eqR r.x r.n s) = D := ⟨_, rfl⟩
    have hDl : D.length ≤ 24 := by rw [← hD]; exact Nat.le_trans (List.length_filter_le _ _) hn
    rw [hD] at hnx
    obtain ⟨o2, ho2⟩ : ∃ o, bestO (covP r.x r.n) l = o := ⟨_, rfl⟩
    rw [ho2] at hnx
    obtain ⟨b2, hb2⟩ : ∃ b, o2.getD z0r = b := ⟨_, rfl⟩
    obtain ⟨i2, hi2⟩ : ∃ i, o2.isSome = i := ⟨_, rfl⟩
    have hr2 : retR o2 = .tuple #[rv b2, .bool i2] := by unfold retR; rw [hb2, hi2]
    have hdr := Lib.hid (fun W (u : Value) (h : Els W u 4 Rt.cells l) => show Calls Try.prog 29 #[u, pv r.x r.n] W (RetEls 29 4 Rt.cells D W) by rw [← hD]; exact ribdrop_any r.x r.n W h hTab (by omega))
    have hbd := Lib.hid (fun W (u : Value) (h : Els W u 4 Rt.cells D) => show Calls Try.prog 23 #[u, av a] W (Ret (.tuple #[rv b2, .bool i2]) W) by have := ribbest_any a W h (by omega); rwa [hnx, hr2] at this)
    have hco := Lib.hid (fun W (u : Value) (h : Els W u 4 Rt.cells l) => show Calls Try.prog 33 #[u, pv r.x r.n] W (Ret (.tuple #[rv b2, .bool i2]) W) by have := ribcover_any r.x r.n W h (by omega); rwa [ho2, hr2] at this)
    have hma := Lib.hid (fun W => match_as hmt W)
    clear hl he htb htab hTab hb hnx hmt hD ho2 hb2 hi2 hr2
    go_enter Try.func7, Try.ntmps7
    go_wp2_with fail
    refine (HT.out _ (HE.out.alloc _)).mono ?_
    rintro e w1 ⟨rfl, q1, rfl⟩
    obtain ⟨wz, hwz⟩ : ∃ wz, wz = ext (w.alloc (.cells #[.int .u64 (hi a), .int .u64 (lo a)] 25)) q1 := ⟨_, rfl⟩
    have HKZ := Lib.hid (show Kept w wz by rw [hwz]; exact (Kept.alloc (Kept.refl w) _).ext _)
    have HBa := Lib.hid (show Blk wz w.heap.size 25 #[.int .u64 (hi a), .int .u64 (lo a)] by rw [hwz]; exact (Blk.new' w _ _ rfl).ext _)
    obtain ⟨t0, t1, tl⟩ := Blk.two HBa.out
    rw [← hwz]
    clear hwz
    go_wp2_with fail
    refine (hbs.out _ _ (HE.out.kept HKZ.out)).mono ?_
    rintro e w1 ⟨rfl, q3, rfl⟩
    obtain ⟨gx, hgx⟩ : ∃ gx, gx = (ext wz q3).heap.size := ⟨_, rfl⟩
    obtain ⟨wy, hwy⟩ : ∃ wy, wy = (ext wz q3).alloc (.cells #[.int .u64 (hi r.x), .int .u64 (lo r.x), .int .i64 r.n, .int .i64 r.act] 29) := ⟨_, rfl⟩
    have HZY := Lib.hid (show Kept wz wy by rw [hwy]; simp (maxDischargeDepth := 99))
    have HBx := Lib.hid (show Blk wy gx 29 #[.int .u64 (hi r.x), .int .u64 (lo r.x), .int .i64 r.n, .int .i64 r.act] by rw [hwy]; exact Blk.new' _ _ _ hgx)
    have HKY := Lib.hid (HKZ.out.trans HZY.out)
    go_wp2_with fail
    rw [← hwy, ← hgx]
    clear hwy hgx t0 t1 tl
    obtain ⟨t0, t1, tl⟩ := Blk.two (HBa.out.kept HZY.out)
    obtain ⟨x0, x1, x2, x3, xl⟩ := Blk.four HBx.out
    refine region_seqW pbA _ (Later.refl _) 9 7 31 _ _ 29 #[.int .u64 0, .int .u64 0, .int .i64 0, .int .i64 0] _ mixed rfl (Nat.le_of_ble_eq_true rfl) rfl rfl rfl rfl (by kernel_rfl) (fun _ _ => by kernel_rfl) rfl rfl rfl rfl (by rfl) (by kernel_rfl) (by kernel_rfl) ?_
    intro v0 hv0
    have HV0 := Lib.hid (Later.kept hv0)
    clear hv0
    simp only [List.take_succ_cons, List.take_zero, List.drop_succ_cons, List.drop_zero]
    repeat (refine seqH_plain (by rfl) (by rfl) ?_; go_big_quiet_step (fail); refine wpQuiet_nil ?_)
    refine seqH_move (by rfl) (by rfl) fun v1 hv1 hp1 => ?_
    have HV1 := Lib.hid (Later.kept hv1)
    have HP1 := Lib.hid hp1
    clear hv1 hp1
    go_wp2_with fail
    refine (hdr.out _ _ (HE.out.kept (HKY.out.trans HV1.out))).mono ?_
    rintro e w1 hR
    obtain ⟨a1, c1, rfl, hlc1, hown1, hels1⟩ := RetEls.out2 Rt.cells_len hR
    have HE1 := Lib.hid hels1
    have HK1 := Lib.hid hown1.1
    clear hown1 hels1 hR
    go_wp2_with fail
    refine ⟨_, rfl, Later.of (HV1.out.trans HK1.out), HK1.out, ?_⟩
    repeat (refine seqH_plain (by rfl) (by rfl) ?_; go_big_quiet_step (fail); refine wpQuiet_nil ?_)
    refine seqH_move (by rfl) (by rfl) fun v2 hv2 hp2 => ?_
    have HV2 := Lib.hid (Later.kept hv2)
    have HP2 := Lib.hid hp2
    clear hv2 hp2
    go_wp2_with fail
    refine (hbd.out _ _ (HE1.out.kept HP2.out)).mono ?_
    rintro e w1 ⟨rfl, q2, rfl⟩
    go_wp2_with fail
    refine ⟨_, rfl, Later.of (HV2.out.trans (kept_extR _ _)), kept_extR _ _, ?_⟩
    repeat (refine seqH_plain (by rfl) (by rfl) ?_; go_big_quiet_step (fail); refine wpQuiet_nil ?_)
    refine seqH_nil fun wx hcx hkx => ?_
    clear hcx hkx wx
    refine ⟨⟨_, rfl, by kernel_rfl, rfl, by simp [Value.oneCell'], ?_⟩⟩
    intro g5 w5 hc5 hg5 hb5
    have HC5 := Lib.hid (Later.kept hc5)
    have HB5 := Lib.hid hb5
    clear hc5 hb5
    clear t0 t1 tl x0 x1 x2 x3 xl
    have HKW := Lib.hid (HKY.out.trans HC5.out)
    have HBa5 := Lib.hid (HBa.out.kept (HZY.out.trans HC5.out))
    have HBx5 := Lib.hid (HBx.out.kept HC5.out)
    obtain ⟨x0, x1, x2, x3, xl⟩ := Blk.four HBx5.out
    go_wp2_with fail
    refine (hco.out _ _ (HE.out.kept HKW.out)).mono ?_
    rintro e w1 ⟨rfl, q4, rfl⟩
    obtain ⟨gy, hgy⟩ : ∃ gy, gy = (ext w5 q4).heap.size := ⟨_, rfl⟩
    obtain ⟨wx, hwx⟩ : ∃ wx, wx = (ext w5 q4).alloc (.cells #[.int .u64 (hi b2.x), .int .u64 (lo b2.x), .int .i64 b2.n, .int .i64 b2.act] 29) := ⟨_, rfl⟩
    have h5x := show Kept w5 wx by rw [hwx]; simp (maxDischargeDepth := 99)
    have HBy := Lib.hid (show Blk wx gy 29 #[.int .u64 (hi b2.x), .int .u64 (lo b2.x), .int .i64 b2.n, .int .i64 b2.act] by rw [hwx]; exact Blk.new' _ _ _ hgy)
    have H5X := Lib.hid h5x
    clear h5x
    have HKX := Lib.hid (HKW.out.trans H5X.out)
    clear x0 x1 x2 x3 xl
    obtain ⟨x0, x1, x2, x3, xl⟩ := Blk.four (HBx5.out.kept H5X.out)
    obtain ⟨y0, y1, y2, y3, yl⟩ := Blk.four HBy.out
    obtain ⟨f0, f1, f2, f3, fl⟩ := Blk.four (HB5.out.kept H5X.out)
    obtain ⟨t0, t1, tl⟩ := Blk.two (HBa5.out.kept H5X.out)
    rw [hwx] at x0 x1 x2 x3 xl y0 y1 y2 y3 yl f0 f1 f2 f3 fl t0 t1 tl
    rw [hgy] at y0 y1 y2 y3 yl
    clear hwx hgy
    go_wp2_with fail
    refine (hma.out _).mono ?_
    rintro e w1 ⟨rfl, q5, rfl⟩
    go_wp2_with fail
    refine (awake6_ok _).mono ?_
    rintro e w1 ⟨rfl, q6, rfl⟩
    go_wp2_with fail
    go_ret
    exact Ret.of (rfl) (by simp (maxDischargeDepth := 99) [HKW.out])
set_option maxRecDepth 100000 in
theorem ribBest_lifted (os : Os) (started : os.Started) (H : Type) (enc : TypeId × Value → H) :
    ReturnsInHanded {} Try.checked os 7 .any (Rows.ribBestSpec.pre6 enc Try.prog Try.f7 Rows.ribBestRow.domain false) (Rows.ribBestSpec.post enc Try.prog Try.f7 false true false false) := by
  refine returnsInHanded_of_change (C := Try.checked) own started (by kernel_rfl) Try.func7
    (ChangeSpec.witness6 (enc := enc) (C := Try.checked) false ⟨#[], #[.slice none 0 0, .agg #[.int .u64 0, .int .u64 0]], []⟩ 8 (by kernel_rfl) (by kernel_rfl) (by kernel_rfl) (by kernel_rfl)) ?_
  intro W base args ds gs before hval0 hW hcnd _
  have hval : ∀ (j : Nat) t v, Try.f7.params[j]? = some t → args[j]? = some v → Value.okWide Try.prog W .any base t v := hval0
  have hW' := hW
  obtain ⟨p, q, hA0, hV, rfl, hfz, hnd⟩ := hW
  obtain ⟨rfl, rfl⟩ := trodVars_none hV
  rw [List.append_nil] at hW'
  have hA : DataW.TrodAll enc Try.prog W 0 (fun _ => true) true Try.f7.params.toList args.toList ds p := hA0
  have hA1 := hA
  rw [Try.params7] at hA1 hval
  obtain ⟨v0, vs0, d0, ds0, p0, q0, hargs, rfl, rfl, h0, r0⟩ := trodAll_cons hA1
  obtain ⟨v1, vs1, d1, ds1, p1, q1, rfl, rfl, rfl, h1, r1⟩ := trodAll_cons r0
  obtain ⟨rfl, rfl, rfl⟩ := trodAll_nil r1
  obtain rfl : args = #[v0, v1] := by cases args; simp_all
  obtain ⟨L0, E0, _⟩ := open_routes (hval 0 _ v0 rfl rfl) h0
  obtain ⟨X1, rfl⟩ := open_addr (hval 1 _ v1 rfl rfl) h1
  refine (ribBest_walk L0 v0 X1 W E0).mono fun e W' ⟨he, hg⟩ => ?_
  subst he
  exact ⟨_, rfl, post_true laidOut (by rw [Try.params7]; intro t ht; simp at ht; first | (subst ht; exact ⟨by kernel_rfl, of_decide_eq_true (by kernel_rfl)⟩) | (rcases ht with rfl | rfl <;> exact ⟨by kernel_rfl, of_decide_eq_true (by kernel_rfl)⟩) | (rcases ht with rfl | rfl | rfl <;> exact ⟨by kernel_rfl, of_decide_eq_true (by kernel_rfl)⟩) | (rcases ht with rfl | rfl | rfl | rfl <;> exact ⟨by kernel_rfl, of_decide_eq_true (by kernel_rfl)⟩)) rfl hW' hA rfl (trodAll_cons_mk (shut_bool Try.underlying4 _) trodAll_mk0) (Later.kept hg)⟩

theorem ribBest_holds : Rows.RibBestSaid :=
  OpenClaim.holds_of_wide 7 Try.f7 rfl rfl rfl rfl rfl rfl rfl ⟨rfl, rfl, rfl, rfl, rfl⟩ rfl rfl rfl rfl rfl (by kernel_rfl) Try.func7 (by kernel_rfl)
    (of_decide_eq_true (by kernel_rfl)) (by unfold Func.isWrapper; first | (rw [if_pos (by decide +kernel)]; kernel_rfl) | (rw [if_neg (by decide +kernel)]; exact ⟨rfl, rfl⟩))
    (fun os started H enc _ => ribBest_lifted os started H enc)
#print axioms ribBest_holds
end Go.Proofs.Ytjkhdjonlppdoaa
