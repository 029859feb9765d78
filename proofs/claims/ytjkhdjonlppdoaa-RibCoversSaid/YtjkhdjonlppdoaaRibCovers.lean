/- RibCovers: the nearest route that covers a prefix, and all that it covers, are the document's. -/
import Derived.Test.YtjkhdjonlppdoaaRows
import Derived.Test.YtjkhdjonlppdoaaLaw6
import Derived.Test.YtjkhdjonlppdoaaUnder
import Derived.Test.YtjkhdjonlppdoaaKit4
import Derived.Test.YtjkhdjonlppdoaaKit9
namespace Go.Proofs.Ytjkhdjonlppdoaa
open Go.RowKit Pg Go.ChangeShapes Go.WideShapes Go.ChangeAt

set_option maxHeartbeats 2000000 in
set_option maxRecDepth 100000 in
theorem ribCovers_walk (l : List Rt) (v : Value) (x : B) (n : Int) (_ : -9223372036854775808 ≤ n) (_ : n ≤ 9223372036854775807) (w : World) (hl : Els w v 4 Rt.cells l) : Calls Try.prog 8 #[v, pv x n] w (Ret (.bool true) w) := by
  have HE := Lib.hid hl
  obtain ⟨ad, c, rfl, hc, he⟩ := hl.form
  cases htb : tab9B l
  · have HT := Lib.hid (fun W (h : Els W (.slice ad l.length c) 4 Rt.cells l) => law06table_as htb W h)
    clear hl he htb
    go_enter Try.func8, Try.ntmps8
    go_wp2_with fail
    refine (HT.out _ (HE.out.alloc _)).mono ?_
    rintro e w1 ⟨rfl, q1, rfl⟩
    go_wp2_with fail
    refine (awake6_ok _).mono ?_
    rintro e w1 ⟨rfl, q2, rfl⟩
    go_wp2_with fail
    go_ret
    exact Ret.of (rfl) (by simp (maxDischargeDepth := 99))
  obtain ⟨htab, hn⟩ := tab9B_parts htb
  have hTab := (tab_of htab).1
  have HT := Lib.hid (fun W (h : Els W (.slice ad l.length c) 4 Rt.cells l) => law06table_as htb W h)
  cases hr : rightB 128 x n
  · have hrr := Lib.hid (fun W => right_as hr W)
    clear hl he htb htab hTab hr
    go_enter Try.func8, Try.ntmps8
    go_wp2_with fail
    refine (HT.out _ (HE.out.alloc _)).mono ?_
    rintro e w1 ⟨rfl, q1, rfl⟩
    obtain ⟨wz, hwz⟩ : ∃ wz, wz = ext (w.alloc (.cells #[.int .u64 (hi x), .int .u64 (lo x), .int .i64 n] 27)) q1 := ⟨_, rfl⟩
    have HKZ := Lib.hid (show Kept w wz by rw [hwz]; exact (Kept.alloc (Kept.refl w) _).ext _)
    have HBp := Lib.hid (show Blk wz w.heap.size 27 #[.int .u64 (hi x), .int .u64 (lo x), .int .i64 n] by rw [hwz]; exact (Blk.new' w _ _ rfl).ext _)
    obtain ⟨p0, p1, p2, pl⟩ := Blk.three HBp.out
    rw [← hwz]
    clear hwz
    go_wp2_with fail
    refine (hrr.out _).mono ?_
    rintro e w1 ⟨rfl, q2, rfl⟩
    go_wp2_with fail
    refine (awake6_ok _).mono ?_
    rintro e w1 ⟨rfl, q4, rfl⟩
    go_wp2_with fail
    go_ret
    exact Ret.of (rfl) (by simp (maxDischargeDepth := 99) [HKZ.out])
  have hrr := Lib.hid (fun W => right_as hr W)
  have hrb : rightB 128 (Rt.mk x n 0).x (Rt.mk x n 0).n = true := hr
  have hcn : bestO (covP x n) l = bestO (fun s => decide (s.n < n) && matchR x s) l := cover_near hTab hrb
  obtain ⟨o1, ho1⟩ : ∃ o, bestO (covP x n) l = o := ⟨_, rfl⟩
  rw [ho1] at hcn
  obtain ⟨b1, hb1⟩ : ∃ b, o1.getD z0r = b := ⟨_, rfl⟩
  obtain ⟨i1, hi1⟩ : ∃ i, o1.isSome = i := ⟨_, rfl⟩
  have hr1 : retR o1 = .tuple #[rv b1, .bool i1] := by unfold retR; rw [hb1, hi1]
  have hco := Lib.hid (fun W (u : Value) (h : Els W u 4 Rt.cells l) => show Calls Try.prog 33 #[u, pv x n] W (Ret (.tuple #[rv b1, .bool i1]) W) by have := ribcover_any x n W h (by omega); rwa [ho1, hr1] at this)
  have hrc := Lib.hid (fun W (u : Value) (h : Els W u 4 Rt.cells l) => show Calls Try.prog 36 #[u, pv x n] W (Ret (.tuple #[rv b1, .bool i1]) W) by have := refcoverR_any x n W h hTab (by omega); rwa [← hcn, hr1] at this)
  obtain ⟨U, hU⟩ : ∃ U, underL l x n = U := ⟨_, rfl⟩
  have hUl : U.length ≤ 24 := by rw [← hU]; exact Nat.le_trans (List.length_filter_le _ _) hn
  have hun := Lib.hid (fun W (u : Value) (h : Els W u 4 Rt.cells l) => show Calls Try.prog 37 #[u, pv x n] W (RetEls 29 4 Rt.cells U W) by rw [← hU]; exact ribunder_any x n W h (by omega))
  have hru := Lib.hid (fun W (u : Value) (h : Els W u 4 Rt.cells l) => show Calls Try.prog 38 #[u, pv x n] W (RetEls 36 4 Rt.cells U W) by rw [← hU]; exact refunderR_any x n W h (by omega))
  have hsm := Lib.hid (fun W (u u' : Value) (h : Els W u 4 Rt.cells U) (h' : Els W u' 4 Rt.cells U) => law06same_any W h h' (by omega))
  have hof := Lib.hid (fun W (u : Value) (h : Els W u 4 Rt.cells l) => law06of_any W h (by omega))
  clear hl he htb htab hTab hr hrb hcn ho1 hb1 hi1 hr1 hU
  go_enter Try.func8, Try.ntmps8
  go_wp2_with fail
  refine (HT.out _ (HE.out.alloc _)).mono ?_
  rintro e w1 ⟨rfl, q1, rfl⟩
  obtain ⟨wz, hwz⟩ : ∃ wz, wz = ext (w.alloc (.cells #[.int .u64 (hi x), .int .u64 (lo x), .int .i64 n] 27)) q1 := ⟨_, rfl⟩
  have HKZ := Lib.hid (show Kept w wz by rw [hwz]; exact (Kept.alloc (Kept.refl w) _).ext _)
  have HBp := Lib.hid (show Blk wz w.heap.size 27 #[.int .u64 (hi x), .int .u64 (lo x), .int .i64 n] by rw [hwz]; exact (Blk.new' w _ _ rfl).ext _)
  obtain ⟨p0, p1, p2, pl⟩ := Blk.three HBp.out
  rw [← hwz]
  clear hwz
  go_wp2_with fail
  refine (hrr.out _).mono ?_
  rintro e w1 ⟨rfl, q2, rfl⟩
  go_wp2_with fail
  refine (hco.out _ _ (HE.out.kept (HKZ.out.trans (by simp (maxDischargeDepth := 99))))).mono ?_
  rintro e w1 ⟨rfl, q3, rfl⟩
  obtain ⟨gx, hgx⟩ : ∃ gx, gx = (ext (ext wz q2) q3).heap.size := ⟨_, rfl⟩
  obtain ⟨wy, hwy⟩ : ∃ wy, wy = (ext (ext wz q2) q3).alloc (.cells #[.int .u64 (hi b1.x), .int .u64 (lo b1.x), .int .i64 b1.n, .int .i64 b1.act] 29) := ⟨_, rfl⟩
  have HZY := Lib.hid (show Kept wz wy by rw [hwy]; simp (maxDischargeDepth := 99))
  have HBx := Lib.hid (show Blk wy gx 29 #[.int .u64 (hi b1.x), .int .u64 (lo b1.x), .int .i64 b1.n, .int .i64 b1.act] by rw [hwy]; exact Blk.new' _ _ _ hgx)
  have HKY := Lib.hid (HKZ.out.trans HZY.out)
  go_wp2_with fail
  rw [← hwy, ← hgx]
  clear hwy hgx p0 p1 p2 pl
  obtain ⟨p0, p1, p2, pl⟩ := Blk.three (HBp.out.kept HZY.out)
  refine region_seqW pbA _ (Later.refl _) 8 7 30 _ _ 36 #[.int .u64 0, .int .u64 0, .int .i64 0, .int .i64 0] _ mixed rfl (Nat.le_of_ble_eq_true rfl) rfl rfl rfl rfl (by kernel_rfl) (fun _ _ => by kernel_rfl) rfl rfl rfl rfl (by rfl) (by kernel_rfl) (by kernel_rfl) ?_
  intro v0 hv0
  have HV0 := Lib.hid (Later.kept hv0)
  clear hv0
  simp only [List.take_succ_cons, List.take_zero, List.drop_succ_cons, List.drop_zero]
  repeat (refine seqH_plain (by rfl) (by rfl) ?_; go_big_quiet_step (fail); refine wpQuiet_nil ?_)
  refine seqH_move (by rfl) (by rfl) fun v1 hv1 hp1 => ?_
  have HV1 := Lib.hid (Later.kept hv1)
  have HP1 := Lib.hid hp1
  clear hv1 hp1
  go_wp2_with fail
  refine (hof.out _ _ (HE.out.kept (HKY.out.trans HV1.out))).mono ?_
  rintro e w1 hR
  obtain ⟨a1, c1, rfl, hlc1, hown1, hels1⟩ := RetEls.out2 Rt.cells_len hR
  have HE1 := Lib.hid hels1
  have HK1 := Lib.hid hown1.1
  clear hown1 hels1 hR
  go_wp2_with fail
  refine ⟨_, rfl, Later.of (HV1.out.trans HK1.out), HK1.out, ?_⟩
  repeat (refine seqH_plain (by rfl) (by rfl) ?_; go_big_quiet_step (fail); refine wpQuiet_nil ?_)
  refine seqH_move (by rfl) (by rfl) fun v2 hv2 hp2 => ?_
  have HV2 := Lib.hid (Later.kept hv2)
  have HP2 := Lib.hid hp2
  clear hv2 hp2
  go_wp2_with fail
  refine (law02of_any _ _ _).mono ?_
  rintro e w1 ⟨rfl, q2, rfl⟩
  go_wp2_with fail
  refine ⟨_, rfl, Later.of (HV2.out.trans (kept_extR _ _)), kept_extR _ _, ?_⟩
  repeat (refine seqH_plain (by rfl) (by rfl) ?_; go_big_quiet_step (fail); refine wpQuiet_nil ?_)
  refine seqH_move (by rfl) (by rfl) fun v3 hv3 hp3 => ?_
  have HV3 := Lib.hid (Later.kept hv3)
  have HP3 := Lib.hid hp3
  clear hv3 hp3
  go_wp2_with fail
  refine (hrc.out _ _ (HE1.out.kept (HP2.out.trans ((kept_extR _ _).trans HP3.out)))).mono ?_
  rintro e w1 ⟨rfl, q3, rfl⟩
  go_wp2_with fail
  refine ⟨_, rfl, Later.of (HV3.out.trans (kept_extR _ _)), kept_extR _ _, ?_⟩
  repeat (refine seqH_plain (by rfl) (by rfl) ?_; go_big_quiet_step (fail); refine wpQuiet_nil ?_)
  refine seqH_nil fun wx hcx hkx => ?_
  clear hcx hkx wx
  refine ⟨⟨_, rfl, by kernel_rfl, rfl, by simp [Value.oneCell'], ?_⟩⟩
  intro g5 w5 hc5 hg5 hb5
  have HC5 := Lib.hid (Later.kept hc5)
  have HB5 := Lib.hid hb5
  clear hc5 hb5
  clear p0 p1 p2 pl
  have HKW := Lib.hid (HKY.out.trans HC5.out)
  obtain ⟨p0, p1, p2, pl⟩ := Blk.three (HBp.out.kept (HZY.out.trans HC5.out))
  obtain ⟨x0, x1, x2, x3, xl⟩ := Blk.four (HBx.out.kept HC5.out)
  obtain ⟨f0, f1, f2, f3, fl⟩ := Blk.four HB5.out
  go_wp2_with fail
  refine region_seq _ (Later.refl _) mixed (by kernel_rfl) (by kernel_rfl) ?_
  intro q9
  refine seq_named fun W1 hW1 => ?_
  have hC := Lib.hid (show ∃ p, W1 = ext _ p from ⟨q9, hW1⟩)
  clear hW1 q9
  repeat (first | (refine seq_plain (by rfl) ?_; go_big_quiet_step (fail); refine wpQuiet_nil ?_) | (refine seq_move (by rfl) (by rfl) ?_; go_wp2_with (first | (go_at_call 14; first | ((refine (calls_in (law06one_any _ _)).mono ?_); rintro e w1 ⟨rfl, q1, rfl⟩) | ((refine (law06one_any _ _).mono ?_); rintro e w1 ⟨rfl, q1, rfl⟩))); refine ⟨_, rfl, (class_kept hC (by first | exact below_ext _ _ | exact Kept.refl _)).out, ?_⟩))
  refine seq_move (by rfl) (by rfl) ?_
  go_wp2_with fail
  refine (hun.out _ _ (HE.out.kept (HKW.out.trans (Kept.trans (Later.kept hC.out) (by simp (maxDischargeDepth := 99)))))).mono ?_
  rintro e w6 hR
  obtain ⟨a6, c6, rfl, hlc6, hown6, hels6⟩ := RetEls.out2 Rt.cells_len hR
  have hkk := kept_on hC (by first | exact .inl rfl | exact .inr ⟨_, rfl⟩) hown6.1
  replace hC := class_kept hC hkk
  have HE6 := Lib.hid hels6
  clear hown6 hels6 hR hkk
  go_wp2_with fail
  refine ⟨_, rfl, hC.out, ?_⟩
  repeat (first | (refine seq_plain (by rfl) ?_; go_big_quiet_step (fail); refine wpQuiet_nil ?_))
  refine seq_move (by rfl) (by rfl) ?_
  go_wp2_with fail
  refine (hof.out _ _ (HE.out.kept (HKW.out.trans (Kept.trans (Later.kept hC.out) (by simp (maxDischargeDepth := 99)))))).mono ?_
  rintro e w7 hR
  obtain ⟨a7, c7, rfl, hlc7, hown7, hels7⟩ := RetEls.out2 Rt.cells_len hR
  have hkk := kept_on hC (by first | exact .inl rfl | exact .inr ⟨_, rfl⟩) hown7.1
  replace hC := class_kept hC hkk
  have HE7 := Lib.hid hels7
  replace HE6 := Lib.hid (HE6.out.kept hkk)
  clear hown7 hels7 hR hkk
  go_wp2_with fail
  refine ⟨_, rfl, hC.out, ?_⟩
  repeat (first | (refine seq_plain (by rfl) ?_; go_big_quiet_step (fail); refine wpQuiet_nil ?_) | (refine seq_move (by rfl) (by rfl) ?_; go_wp2_with (first | (go_at_call 25; first | ((refine (calls_in (law02of_any _ _ _)).mono ?_); rintro e w1 ⟨rfl, q1, rfl⟩) | ((refine (law02of_any _ _ _).mono ?_); rintro e w1 ⟨rfl, q1, rfl⟩))); refine ⟨_, rfl, (class_kept hC (by first | exact below_ext _ _ | exact Kept.refl _)).out, ?_⟩))
  refine seq_move (by rfl) (by rfl) ?_
  go_wp2_with fail
  refine (hru.out _ _ (HE7.out.kept (by simp (maxDischargeDepth := 99)))).mono ?_
  rintro e w8 hR
  obtain ⟨a8, c8, rfl, hlc8, hown8, hels8⟩ := RetEls.out2 Rt.cells_len hR
  have hkk := kept_on hC (by first | exact .inl rfl | exact .inr ⟨_, rfl⟩) hown8.1
  replace hC := class_kept hC hkk
  have HE8 := Lib.hid hels8
  replace HE6 := Lib.hid (HE6.out.kept hkk)
  clear hown8 hels8 hR hkk
  go_wp2_with fail
  refine ⟨_, rfl, hC.out, ?_⟩
  repeat (first | (refine seq_plain (by rfl) ?_; go_big_quiet_step (fail); refine wpQuiet_nil ?_) | (refine seq_move (by rfl) (by rfl) ?_; go_wp2_with (first | (go_at_call 30; first | ((refine (calls_in (hsm.out _ _ _ HE6.out HE8.out)).mono ?_); rintro e w1 ⟨rfl, q1, rfl⟩) | ((refine (hsm.out _ _ _ HE6.out HE8.out).mono ?_); rintro e w1 ⟨rfl, q1, rfl⟩)) | (go_at_call 11; first | ((refine (calls_in (awake6_ok _)).mono ?_); rintro e w1 ⟨rfl, q1, rfl⟩) | ((refine (awake6_ok _).mono ?_); rintro e w1 ⟨rfl, q1, rfl⟩))); refine ⟨_, rfl, (class_kept hC (by first | exact below_ext _ _ | exact Kept.refl _)).out, ?_⟩))
  refine seq_nil ?_
  have hkC := Later.kept hC.out
  clear hC
  have hkf := Lib.hid (HKW.out.trans hkC)
  clear hkC
  go_wp2_with fail
  go_ret
  exact Ret.of (rfl) (by simp (maxDischargeDepth := 99) [hkf.out])
set_option maxRecDepth 100000 in
theorem ribCovers_lifted (os : Os) (started : os.Started) (H : Type) (enc : TypeId × Value → H) :
    ReturnsInHanded {} Try.checked os 8 .any (Rows.ribCoversSpec.pre6 enc Try.prog Try.f8 Rows.ribCoversRow.domain false) (Rows.ribCoversSpec.post enc Try.prog Try.f8 false true false false) := by
  refine returnsInHanded_of_change (C := Try.checked) own started (by kernel_rfl) Try.func8
    (ChangeSpec.witness6 (enc := enc) (C := Try.checked) false ⟨#[], #[.slice none 0 0, .agg #[.int .u64 0, .int .u64 0, .int .i64 0]], []⟩ 8 (by kernel_rfl) (by kernel_rfl) (by kernel_rfl) (by kernel_rfl)) ?_
  intro W base args ds gs before hval0 hW hcnd _
  have hval : ∀ (j : Nat) t v, Try.f8.params[j]? = some t → args[j]? = some v → Value.okWide Try.prog W .any base t v := hval0
  have hW' := hW
  obtain ⟨p, q, hA0, hV, rfl, hfz, hnd⟩ := hW
  obtain ⟨rfl, rfl⟩ := trodVars_none hV
  rw [List.append_nil] at hW'
  have hA : DataW.TrodAll enc Try.prog W 0 (fun _ => true) true Try.f8.params.toList args.toList ds p := hA0
  have hA1 := hA
  rw [Try.params8] at hA1 hval
  obtain ⟨v0, vs0, d0, ds0, p0, q0, hargs, rfl, rfl, h0, r0⟩ := trodAll_cons hA1
  obtain ⟨v1, vs1, d1, ds1, p1, q1, rfl, rfl, rfl, h1, r1⟩ := trodAll_cons r0
  obtain ⟨rfl, rfl, rfl⟩ := trodAll_nil r1
  obtain rfl : args = #[v0, v1] := by cases args; simp_all
  obtain ⟨L0, E0, _⟩ := open_routes (hval 0 _ v0 rfl rfl) h0
  obtain ⟨X1, N1, rfl, a1, b1⟩ := open_prefix (hval 1 _ v1 rfl rfl) h1
  refine (ribCovers_walk L0 v0 X1 N1 a1 b1 W E0).mono fun e W' ⟨he, hg⟩ => ?_
  subst he
  exact ⟨_, rfl, post_true laidOut (by rw [Try.params8]; intro t ht; simp at ht; first | (subst ht; exact ⟨by kernel_rfl, of_decide_eq_true (by kernel_rfl)⟩) | (rcases ht with rfl | rfl <;> exact ⟨by kernel_rfl, of_decide_eq_true (by kernel_rfl)⟩) | (rcases ht with rfl | rfl | rfl <;> exact ⟨by kernel_rfl, of_decide_eq_true (by kernel_rfl)⟩) | (rcases ht with rfl | rfl | rfl | rfl <;> exact ⟨by kernel_rfl, of_decide_eq_true (by kernel_rfl)⟩)) rfl hW' hA rfl (trodAll_cons_mk (shut_bool Try.underlying4 _) trodAll_mk0) (Later.kept hg)⟩

theorem ribCovers_holds : Rows.RibCoversSaid :=
  OpenClaim.holds_of_wide 8 Try.f8 rfl rfl rfl rfl rfl rfl rfl ⟨rfl, rfl, rfl, rfl, rfl⟩ rfl rfl rfl rfl rfl (by kernel_rfl) Try.func8 (by kernel_rfl)
    (of_decide_eq_true (by kernel_rfl)) (by unfold Func.isWrapper; first | (rw [if_pos (by decide +kernel)]; kernel_rfl) | (rw [if_neg (by decide +kernel)]; exact ⟨rfl, rfl⟩))
    (fun os started H enc _ => ribCovers_lifted os started H enc)
#print axioms ribCovers_holds
end Go.Proofs.Ytjkhdjonlppdoaa
