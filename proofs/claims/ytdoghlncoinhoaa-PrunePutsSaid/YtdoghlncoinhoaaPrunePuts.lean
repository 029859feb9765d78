/- PrunePuts: a route more of the action that its prefix's cover has is not kept, if there is none of its prefix; nothing else becomes other. -/
import Derived.Test.YtdoghlncoinhoaaRows
import Derived.Test.YtdoghlncoinhoaaPut
import Derived.Test.YtdoghlncoinhoaaMathR2
import Derived.Test.YtdoghlncoinhoaaKeep2
import Derived.Test.YtdoghlncoinhoaaPrune9
import Derived.Test.YtdoghlncoinhoaaOpenRts
import Derived.Test.YtdoghlncoinhoaaKit9
namespace Pg
open Go
theorem any_none {l K : List Rt} (hs : K.Sublist l) {x : B} {n : Int} (hf : l.find? (eqR x n) = none) : K.any (eqP x n) = false := by
  rw [List.any_eq_false]
  intro s hsK
  rw [List.find?_eq_none] at hf
  exact hf s (hs.subset hsK)
end Pg
namespace Go.Proofs.Ytdoghlncoinhoaa
open Go.RowKit Pg Go.ChangeShapes Go.WideShapes Go.ChangeAt

set_option maxHeartbeats 1000000 in
set_option maxRecDepth 100000 in
theorem prunePuts_walk (l : List Rt) (v : Value) (x : B) (n : Int) (_ : -9223372036854775808 ≤ n) (_ : n ≤ 9223372036854775807) (w : World) (hl : Els w v 4 Rt.cells l) : Calls Try.prog 8 #[v, pv x n] w (Ret (.bool true) w) := by
  have HE := Lib.hid hl
  obtain ⟨ad, c, rfl, hc, he⟩ := hl.form
  cases htb : tab9B l
  · have HT := Lib.hid (fun W (h : Els W (.slice ad l.length c) 4 Rt.cells l) => law09table_as htb W h)
    clear hl he htb
    go_enter Try.func8, Try.ntmps8
    go_wp2_with fail
    refine (HT.out _ (HE.out.alloc _)).mono ?_
    rintro e w1 ⟨rfl, q1, rfl⟩
    go_wp2_with fail
    refine (awake9_ok _).mono ?_
    rintro e w1 ⟨rfl, q2, rfl⟩
    go_wp2_with fail
    go_ret
    exact Ret.of (rfl) (by simp (maxDischargeDepth := 99))
  obtain ⟨hTab, hn⟩ := tab9B_of htb
  have HT := Lib.hid (fun W (h : Els W (.slice ad l.length c) 4 Rt.cells l) => law09table_as htb W h)
  by_cases h24 : 24 ≤ l.length
  · have g1 : (24 : Int) ≤ (l.length : Int) := by omega
    have g2 : decide ((24 : Int) ≤ (l.length : Int)) = true := by simp; omega
    clear hl he htb hTab hn h24
    go_enter Try.func8, Try.ntmps8
    go_wp2_with fail
    refine (HT.out _ (HE.out.alloc _)).mono ?_
    rintro e w1 ⟨rfl, q1, rfl⟩
    go_wp2_with fail
    refine (awake9_ok _).mono ?_
    rintro e w1 ⟨rfl, q2, rfl⟩
    go_wp2_with fail
    go_ret
    exact Ret.of (rfl) (by simp (maxDischargeDepth := 99))
  have g1 : ¬ (24 : Int) ≤ (l.length : Int) := by omega
  have g2 : decide ((24 : Int) ≤ (l.length : Int)) = false := by simp; omega
  cases hr : rightB 128 x n
  · have hrr := Lib.hid (fun W => right_as hr W)
    clear hl he htb hTab hr
    go_enter Try.func8, Try.ntmps8
    go_wp2_with fail
    refine (HT.out _ (HE.out.alloc _)).mono ?_
    rintro e w1 ⟨rfl, q1, rfl⟩
    obtain ⟨wz, hwz⟩ : ∃ wz, wz = ext (w.alloc (.cells #[.int .u64 (hi x), .int .u64 (lo x), .int .i64 n] 27)) q1 := ⟨_, rfl⟩
    have HKZ := Lib.hid (show Kept w wz by rw [hwz]; exact (Kept.alloc (Kept.refl w) _).ext _)
    have HBp := Lib.hid (show Blk wz w.heap.size 27 #[.int .u64 (hi x), .int .u64 (lo x), .int .i64 n] by rw [hwz]; exact (Blk.new' w _ _ rfl).ext _)
    obtain ⟨p0, p1, p2, pl⟩ := Blk.three HBp.out
    rw [← hwz]
    clear hwz
    go_wp2_with fail
    refine (hrr.out _).mono ?_
    rintro e w1 ⟨rfl, q2, rfl⟩
    go_wp2_with fail
    refine (awake9_ok _).mono ?_
    rintro e w1 ⟨rfl, q4, rfl⟩
    go_wp2_with fail
    go_ret
    exact Ret.of (rfl) (by simp (maxDischargeDepth := 99) [HKZ.out])
  have hrr := Lib.hid (fun W => right_as hr W)
  have hrb : rightB 128 (Rt.mk x n 0).x (Rt.mk x n 0).n = true := hr
  cases hf : l.find? (eqR x n) with
  | some e =>
    have hfd := Lib.hid (fun W (u : Value) (h : Els W u 4 Rt.cells l) => show Calls Try.prog 21 #[u, pv x n] W (Ret (.tuple #[rv e, .bool true]) W) by have := ribfind_any x n W h hTab (by omega); rwa [hf] at this)
    clear hl he htb hTab hr hrb hf
    go_enter Try.func8, Try.ntmps8
    go_wp2_with fail
    refine (HT.out _ (HE.out.alloc _)).mono ?_
    rintro e w1 ⟨rfl, q1, rfl⟩
    obtain ⟨wz, hwz⟩ : ∃ wz, wz = ext (w.alloc (.cells #[.int .u64 (hi x), .int .u64 (lo x), .int .i64 n] 27)) q1 := ⟨_, rfl⟩
    have HKZ := Lib.hid (show Kept w wz by rw [hwz]; exact (Kept.alloc (Kept.refl w) _).ext _)
    have HBp := Lib.hid (show Blk wz w.heap.size 27 #[.int .u64 (hi x), .int .u64 (lo x), .int .i64 n] by rw [hwz]; exact (Blk.new' w _ _ rfl).ext _)
    obtain ⟨p0, p1, p2, pl⟩ := Blk.three HBp.out
    rw [← hwz]
    clear hwz
    go_wp2_with fail
    refine (hrr.out _).mono ?_
    rintro e w1 ⟨rfl, q2, rfl⟩
    go_wp2_with fail
    refine (hfd.out _ _ (HE.out.kept (HKZ.out.trans (by simp (maxDischargeDepth := 99))))).mono ?_
    rintro e w1 ⟨rfl, q3, rfl⟩
    go_wp2_with fail
    refine (awake9_ok _).mono ?_
    rintro e w1 ⟨rfl, q4, rfl⟩
    go_wp2_with fail
    go_ret
    exact Ret.of (rfl) (by simp (maxDischargeDepth := 99) [HKZ.out])
  | none =>
  have hfd := Lib.hid (fun W (u : Value) (h : Els W u 4 Rt.cells l) => show Calls Try.prog 21 #[u, pv x n] W (Ret (.tuple #[rv z0r, .bool false]) W) by have := ribfind_any x n W h hTab (by omega); rwa [hf] at this)
  obtain ⟨K, hK⟩ : ∃ K, keepL l = K := ⟨_, rfl⟩
  have hKs : K.Sublist l := by rw [← hK]; exact keepL_sub hTab
  have hKl : K.length ≤ 24 := Nat.le_trans hKs.length_le hn
  have hpk := Lib.hid (fun W (u : Value) (h : Els W u 4 Rt.cells l) => show Calls Try.prog 16 #[u] W (RetEls 48 4 Rt.cells K W) by rw [← hK]; exact pkeep_any W h hTab (by omega))
  cases hcv : bestO (covP x n) K with
  | none =>
    have hco := Lib.hid (fun W (u : Value) (h : Els W u 4 Rt.cells K) => show Calls Try.prog 22 #[u, pv x n] W (Ret (.tuple #[rv z0r, .bool false]) W) by have := ribcover_any x n W h (by omega); rwa [hcv] at this)
    clear hl he htb hTab hr hrb hf hK hKs hcv
    go_enter Try.func8, Try.ntmps8
    go_wp2_with fail
    refine (HT.out _ (HE.out.alloc _)).mono ?_
    rintro e w1 ⟨rfl, q1, rfl⟩
    obtain ⟨wz, hwz⟩ : ∃ wz, wz = ext (w.alloc (.cells #[.int .u64 (hi x), .int .u64 (lo x), .int .i64 n] 27)) q1 := ⟨_, rfl⟩
    have HKZ := Lib.hid (show Kept w wz by rw [hwz]; exact (Kept.alloc (Kept.refl w) _).ext _)
    have HBp := Lib.hid (show Blk wz w.heap.size 27 #[.int .u64 (hi x), .int .u64 (lo x), .int .i64 n] by rw [hwz]; exact (Blk.new' w _ _ rfl).ext _)
    obtain ⟨p0, p1, p2, pl⟩ := Blk.three HBp.out
    rw [← hwz]
    clear hwz
    go_wp2_with fail
    refine (hrr.out _).mono ?_
    rintro e w1 ⟨rfl, q2, rfl⟩
    go_wp2_with fail
    refine (hfd.out _ _ (HE.out.kept (HKZ.out.trans (by simp (maxDischargeDepth := 99))))).mono ?_
    rintro e w1 ⟨rfl, q3, rfl⟩
    obtain ⟨wy, hwy⟩ : ∃ wy, wy = (ext (ext wz q2) q3).alloc (.cells #[.int .u64 (hi z0r.x), .int .u64 (lo z0r.x), .int .i64 z0r.n, .int .i64 z0r.act] 48) := ⟨_, rfl⟩
    have HZY := Lib.hid (show Kept wz wy by rw [hwy]; simp (maxDischargeDepth := 99))
    have HKY := Lib.hid (HKZ.out.trans HZY.out)
    go_wp2_with fail
    rw [← hwy]
    clear hwy p0 p1 p2 pl
    obtain ⟨p0, p1, p2, pl⟩ := Blk.three (HBp.out.kept HZY.out)
    refine region_seqW pbA _ (Later.refl _) 7 7 37 _ _ 48 #[.int .u64 0, .int .u64 0, .int .i64 0, .int .i64 0] _ mixed rfl (Nat.le_of_ble_eq_true rfl) rfl rfl rfl rfl (by kernel_rfl) (fun _ _ => by kernel_rfl) rfl rfl rfl rfl (by rfl) (by kernel_rfl) (by kernel_rfl) ?_
    intro v0 hv0
    have HV0 := Lib.hid (Later.kept hv0)
    clear hv0
    simp only [List.take_succ_cons, List.take_zero, List.drop_succ_cons, List.drop_zero]
    repeat (refine seqH_plain (by rfl) (by rfl) ?_; go_big_quiet_step (fail); refine wpQuiet_nil ?_)
    refine seqH_move (by rfl) (by rfl) fun v1 hv1 hp1 => ?_
    have HV1 := Lib.hid (Later.kept hv1)
    have HP1 := Lib.hid hp1
    clear hv1 hp1
    go_wp2_with fail
    refine (hpk.out _ _ (HE.out.kept (HKY.out.trans HV1.out))).mono ?_
    rintro e w1 hR
    obtain ⟨a1, c1, rfl, hlc1, hown1, hels1⟩ := RetEls.out2 Rt.cells_len hR
    have HE1 := Lib.hid hels1
    have HK1 := Lib.hid hown1.1
    clear hown1 hels1 hR
    go_wp2_with fail
    refine ⟨_, rfl, Later.of (HV1.out.trans HK1.out), HK1.out, ?_⟩
    repeat (refine seqH_plain (by rfl) (by rfl) ?_; go_big_quiet_step (fail); refine wpQuiet_nil ?_)
    refine seqH_move (by rfl) (by rfl) fun v2 hv2 hp2 => ?_
    have HV2 := Lib.hid (Later.kept hv2)
    have HP2 := Lib.hid hp2
    clear hv2 hp2
    go_wp2_with fail
    refine (hco.out _ _ (HE1.out.kept HP2.out)).mono ?_
    rintro e w1 ⟨rfl, q2, rfl⟩
    go_wp2_with fail
    refine ⟨_, rfl, Later.of (HV2.out.trans (kept_extR _ _)), kept_extR _ _, ?_⟩
    repeat (refine seqH_plain (by rfl) (by rfl) ?_; go_big_quiet_step (fail); refine wpQuiet_nil ?_)
    refine seqH_nil fun wx hcx hkx => ?_
    clear hcx hkx wx
    refine ⟨⟨_, rfl, by kernel_rfl, rfl, by simp [Value.oneCell'], ?_⟩⟩
    intro g9 w9 hc9 hg9 hb9
    have HC9 := Lib.hid (Later.kept hc9)
    have HB9 := Lib.hid hb9
    clear hc9 hb9
    go_wp2_with fail
    refine (awake9_ok _).mono ?_
    rintro e w1 ⟨rfl, q4, rfl⟩
    go_wp2_with fail
    have hkf := Lib.hid (HKY.out.trans HC9.out)
    go_ret
    exact Ret.of (rfl) (by simp (maxDischargeDepth := 99) [hkf.out])
  | some e =>
    have hco := Lib.hid (fun W (u : Value) (h : Els W u 4 Rt.cells K) => show Calls Try.prog 22 #[u, pv x n] W (Ret (.tuple #[rv e, .bool true]) W) by have := ribcover_any x n W h (by omega); rwa [hcv] at this)
    have hrp : rightB 128 (Rt.mk x n e.act).x (Rt.mk x n e.act).n = true := hr
    have hkp := keep_put hTab (r := ⟨x, n, e.act⟩) (c := e) hrp hf (by rw [hK]; exact hcv) rfl
    have hTp := putR_tab hTab hrp
    obtain ⟨P, hP⟩ : ∃ P, putR ⟨x, n, e.act⟩ l = P := ⟨_, rfl⟩
    have hPl : P.length ≤ 25 := by rw [← hP]; have := putR_len ⟨x, n, e.act⟩ l; omega
    rw [hP] at hkp hTp
    rw [hK] at hkp
    have hput := Lib.hid (fun W (u : Value) (h : Els W u 4 Rt.cells l) => show Calls Try.prog 28 #[u, .agg #[.int .u64 (hi x), .int .u64 (lo x), .int .i64 n, .int .i64 e.act]] W (RetEls 48 4 Rt.cells P W) by rw [← hP]; exact ribput_any ⟨x, n, e.act⟩ W h hTab (by omega))
    have hany := any_none hKs hf
    have hnd := Lib.hid (fun W (u : Value) (h : Els W u 4 Rt.cells P) => show Calls Try.prog 18 #[u, pv x n] W (Ret (.bool false) W) by have := pneeds_any x n W h hTp (by omega); rwa [hkp, hany] at this)
    have hpkP := Lib.hid (fun W (u : Value) (h : Els W u 4 Rt.cells P) => show Calls Try.prog 16 #[u] W (RetEls 48 4 Rt.cells K W) by rw [← hkp]; exact pkeep_any W h hTp (by omega))
    have hof := Lib.hid (fun W (u : Value) (h : Els W u 4 Rt.cells l) => law06of_any W h (by omega))
    have hrk := Lib.hid (fun W (u : Value) (h : Els W u 4 Rt.cells l) => show Calls Try.prog 11 #[u] W (RetEls 36 4 Rt.cells K W) by rw [← hK]; exact refkeep_any W h hTab (by omega))
    have hsm := Lib.hid (fun W (u u' : Value) (h : Els W u 4 Rt.cells K) (h' : Els W u' 4 Rt.cells K) => law06same_any W h h' (by omega))
    clear hl he htb hTab hr hrb hf hK hKs hcv hrp hkp hTp hP hany
    go_enter Try.func8, Try.ntmps8
    go_wp2_with fail
    refine (HT.out _ (HE.out.alloc _)).mono ?_
    rintro e w1 ⟨rfl, q1, rfl⟩
    obtain ⟨wz, hwz⟩ : ∃ wz, wz = ext (w.alloc (.cells #[.int .u64 (hi x), .int .u64 (lo x), .int .i64 n] 27)) q1 := ⟨_, rfl⟩
    have HKZ := Lib.hid (show Kept w wz by rw [hwz]; exact (Kept.alloc (Kept.refl w) _).ext _)
    have HBp := Lib.hid (show Blk wz w.heap.size 27 #[.int .u64 (hi x), .int .u64 (lo x), .int .i64 n] by rw [hwz]; exact (Blk.new' w _ _ rfl).ext _)
    obtain ⟨p0, p1, p2, pl⟩ := Blk.three HBp.out
    rw [← hwz]
    clear hwz
    go_wp2_with fail
    refine (hrr.out _).mono ?_
    rintro e w1 ⟨rfl, q2, rfl⟩
    go_wp2_with fail
    refine (hfd.out _ _ (HE.out.kept (HKZ.out.trans (by simp (maxDischargeDepth := 99))))).mono ?_
    rintro e w1 ⟨rfl, q3, rfl⟩
    obtain ⟨wy, hwy⟩ : ∃ wy, wy = (ext (ext wz q2) q3).alloc (.cells #[.int .u64 (hi z0r.x), .int .u64 (lo z0r.x), .int .i64 z0r.n, .int .i64 z0r.act] 48) := ⟨_, rfl⟩
    have HZY := Lib.hid (show Kept wz wy by rw [hwy]; simp (maxDischargeDepth := 99))
    have HKY := Lib.hid (HKZ.out.trans HZY.out)
    go_wp2_with fail
    rw [← hwy]
    clear hwy p0 p1 p2 pl
    obtain ⟨p0, p1, p2, pl⟩ := Blk.three (HBp.out.kept HZY.out)
    refine region_seqW pbA _ (Later.refl _) 7 7 37 _ _ 48 #[.int .u64 0, .int .u64 0, .int .i64 0, .int .i64 0] _ mixed rfl (Nat.le_of_ble_eq_true rfl) rfl rfl rfl rfl (by kernel_rfl) (fun _ _ => by kernel_rfl) rfl rfl rfl rfl (by rfl) (by kernel_rfl) (by kernel_rfl) ?_
    intro v0 hv0
    have HV0 := Lib.hid (Later.kept hv0)
    clear hv0
    simp only [List.take_succ_cons, List.take_zero, List.drop_succ_cons, List.drop_zero]
    repeat (refine seqH_plain (by rfl) (by rfl) ?_; go_big_quiet_step (fail); refine wpQuiet_nil ?_)
    refine seqH_move (by rfl) (by rfl) fun v1 hv1 hp1 => ?_
    have HV1 := Lib.hid (Later.kept hv1)
    have HP1 := Lib.hid hp1
    clear hv1 hp1
    go_wp2_with fail
    refine (hpk.out _ _ (HE.out.kept (HKY.out.trans HV1.out))).mono ?_
    rintro e w1 hR
    obtain ⟨a1, c1, rfl, hlc1, hown1, hels1⟩ := RetEls.out2 Rt.cells_len hR
    have HE1 := Lib.hid hels1
    have HK1 := Lib.hid hown1.1
    clear hown1 hels1 hR
    go_wp2_with fail
    refine ⟨_, rfl, Later.of (HV1.out.trans HK1.out), HK1.out, ?_⟩
    repeat (refine seqH_plain (by rfl) (by rfl) ?_; go_big_quiet_step (fail); refine wpQuiet_nil ?_)
    refine seqH_move (by rfl) (by rfl) fun v2 hv2 hp2 => ?_
    have HV2 := Lib.hid (Later.kept hv2)
    have HP2 := Lib.hid hp2
    clear hv2 hp2
    go_wp2_with fail
    refine (hco.out _ _ (HE1.out.kept HP2.out)).mono ?_
    rintro e w1 ⟨rfl, q2, rfl⟩
    go_wp2_with fail
    refine ⟨_, rfl, Later.of (HV2.out.trans (kept_extR _ _)), kept_extR _ _, ?_⟩
    repeat (refine seqH_plain (by rfl) (by rfl) ?_; go_big_quiet_step (fail); refine wpQuiet_nil ?_)
    refine seqH_nil fun wx hcx hkx => ?_
    clear hcx hkx wx
    refine ⟨⟨_, rfl, by kernel_rfl, rfl, by simp [Value.oneCell'], ?_⟩⟩
    intro g9 w9 hc9 hg9 hb9
    have HC9 := Lib.hid (Later.kept hc9)
    have HB9 := Lib.hid hb9
    clear hc9 hb9
    have HKW := Lib.hid (HKY.out.trans HC9.out)
    clear p0 p1 p2 pl
    obtain ⟨p0, p1, p2, pl⟩ := Blk.three ((HBp.out.kept HZY.out).kept HC9.out)
    obtain ⟨d0, d1, d2, d3, dl⟩ := Blk.four HB9.out
    go_wp2_with fail
    refine (hput.out _ _ (HE.out.kept HKW.out)).mono ?_
    rintro e w3 hR
    obtain ⟨a3, c3, rfl, hlc3, hown3, hels3⟩ := RetEls.out2 Rt.cells_len hR
    have HE3 := Lib.hid hels3
    have HK3 := Lib.hid hown3.1
    clear hown3 hels3 hR
    clear p0 p1 p2 pl d0 d1 d2 d3 dl
    obtain ⟨p0, p1, p2, pl⟩ := Blk.three ((HBp.out.kept HZY.out).kept (HC9.out.trans HK3.out))
    go_wp2_with fail
    refine (hnd.out _ _ HE3.out).mono ?_
    rintro e w1 ⟨rfl, q5, rfl⟩
    go_wp2_with fail
    refine (hpkP.out _ _ (HE3.out.ext _)).mono ?_
    rintro e w4 hR
    obtain ⟨a4, c4, rfl, hlc4, hown4, hels4⟩ := RetEls.out2 Rt.cells_len hR
    have HE4 := Lib.hid hels4
    have HK4 := Lib.hid hown4.1
    clear hown4 hels4 hR
    go_wp2_with fail
    have H34 := Lib.hid ((kept_extR _ _).trans HK4.out)
    refine (hof.out _ _ (HE.out.kept (HKW.out.trans (HK3.out.trans H34.out)))).mono ?_
    rintro e w6 hR
    obtain ⟨a6, c6, rfl, hlc6, hown6, hels6⟩ := RetEls.out2 Rt.cells_len hR
    have HE6 := Lib.hid hels6
    have HK6 := Lib.hid hown6.1
    clear hown6 hels6 hR
    go_wp2_with fail
    refine (hrk.out _ _ HE6.out).mono ?_
    rintro e w7 hR
    obtain ⟨a7, c7, rfl, hlc7, hown7, hels7⟩ := RetEls.out2 Rt.cells_len hR
    have HE7 := Lib.hid hels7
    have HK7 := Lib.hid hown7.1
    clear hown7 hels7 hR
    go_wp2_with fail
    refine (hsm.out _ _ _ (HE4.out.kept (HK6.out.trans HK7.out)) HE7.out).mono ?_
    rintro e w1 ⟨rfl, q8, rfl⟩
    go_wp2_with fail
    refine (awake9_ok _).mono ?_
    rintro e w1 ⟨rfl, q9, rfl⟩
    go_wp2_with fail
    have hkf := Lib.hid (HKW.out.trans (HK3.out.trans (H34.out.trans (HK6.out.trans HK7.out))))
    go_ret
    exact Ret.of (rfl) (by simp (maxDischargeDepth := 99) [hkf.out])
set_option maxRecDepth 100000 in
theorem prunePuts_lifted (os : Os) (started : os.Started) (H : Type) (enc : TypeId × Value → H) :
    ReturnsInHanded {} Try.checked os 8 .any (Rows.prunePutsSpec.pre6 enc Try.prog Try.f8 Rows.prunePutsRow.domain false) (Rows.prunePutsSpec.post enc Try.prog Try.f8 false true false false) := by
  refine returnsInHanded_of_change (C := Try.checked) own started (by kernel_rfl) Try.func8
    (ChangeSpec.witness6 (enc := enc) (C := Try.checked) false ⟨#[], #[.slice none 0 0, .agg #[.int .u64 0, .int .u64 0, .int .i64 0]], []⟩ 8 (by kernel_rfl) (by kernel_rfl) (by kernel_rfl) (by kernel_rfl)) ?_
  intro W base args ds gs before hval0 hW hcnd _
  have hval : ∀ (j : Nat) t v, Try.f8.params[j]? = some t → args[j]? = some v → Value.okWide Try.prog W .any base t v := hval0
  have hW' := hW
  obtain ⟨p, q, hA0, hV, rfl, hfz, hnd⟩ := hW
  obtain ⟨rfl, rfl⟩ := trodVars_none hV
  rw [List.append_nil] at hW'
  have hA : DataW.TrodAll enc Try.prog W 0 (fun _ => true) true Try.f8.params.toList args.toList ds p := hA0
  have hA1 := hA
  rw [Try.params8] at hA1 hval
  obtain ⟨v0, vs0, d0, ds0, p0, q0, hargs, rfl, rfl, h0, r0⟩ := trodAll_cons hA1
  obtain ⟨v1, vs1, d1, ds1, p1, q1, rfl, rfl, rfl, h1, r1⟩ := trodAll_cons r0
  obtain ⟨rfl, rfl, rfl⟩ := trodAll_nil r1
  obtain rfl : args = #[v0, v1] := by cases args; simp_all
  obtain ⟨L0, E0, _⟩ := open_routes (hval 0 _ v0 rfl rfl) h0
  obtain ⟨X1, N1, rfl, a1, b1⟩ := open_prefix (hval 1 _ v1 rfl rfl) h1
  refine (prunePuts_walk L0 v0 X1 N1 a1 b1 W E0).mono fun e W' ⟨he, hg⟩ => ?_
  subst he
  exact ⟨_, rfl, post_true laidOut (by rw [Try.params8]; intro t ht; simp at ht; first | (subst ht; exact ⟨by kernel_rfl, of_decide_eq_true (by kernel_rfl)⟩) | (rcases ht with rfl | rfl <;> exact ⟨by kernel_rfl, of_decide_eq_true (by kernel_rfl)⟩) | (rcases ht with rfl | rfl | rfl <;> exact ⟨by kernel_rfl, of_decide_eq_true (by kernel_rfl)⟩) | (rcases ht with rfl | rfl | rfl | rfl <;> exact ⟨by kernel_rfl, of_decide_eq_true (by kernel_rfl)⟩)) rfl hW' hA rfl (trodAll_cons_mk (shut_bool Try.underlying4 _) trodAll_mk0) (Later.kept hg)⟩

theorem prunePuts_holds : Rows.PrunePutsSaid :=
  OpenClaim.holds_of_wide 8 Try.f8 rfl rfl rfl rfl rfl rfl rfl ⟨rfl, rfl, rfl, rfl, rfl⟩ rfl rfl rfl rfl rfl (by kernel_rfl) Try.func8 (by kernel_rfl)
    (of_decide_eq_true (by kernel_rfl)) (by unfold Func.isWrapper; first | (rw [if_pos (by decide +kernel)]; kernel_rfl) | (rw [if_neg (by decide +kernel)]; exact ⟨rfl, rfl⟩))
    (fun os started H enc _ => prunePuts_lifted os started H enc)
#print axioms prunePuts_holds
end Go.Proofs.Ytdoghlncoinhoaa
