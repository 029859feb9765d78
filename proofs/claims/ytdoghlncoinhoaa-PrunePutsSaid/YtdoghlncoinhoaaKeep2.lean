/- What is kept: Saved, Needs; what the document fixes of three routes. -/
import Derived.Test.YtdoghlncoinhoaaKeep
namespace Pg
open Go
def eqP (x : B) (n : Int) (r : Rt) : Bool := decide (r.x = x) && decide (r.n = n)
theorem els_of_blk {α : Type} {w : World} {g : Nat} {t : TypeId} {k : Nat} {enc : α → List Value} (hk : ∀ x, (enc x).length = k) (l : List α) (h : Blk w g t (l.flatMap enc).toArray) (c : Nat) (hc : l.length ≤ c) : Els w (.slice (some ⟨g, 0, none⟩) l.length c) k enc l :=
  ⟨_, c, rfl, hc, fun _ => ⟨g, 0, rfl, h.lt, fun i hi' j hj => by
    rw [Nat.zero_add, h.cell]
    rw [List.getElem?_toArray]
    exact flat_get hk l i hi' j hj⟩⟩
def a9 : B := BitVec.ofNat 128 (720859614379245568 * 2 ^ 64)
theorem a9_words : hi a9 = 720859614379245568 ∧ lo a9 = 0 := by decide +kernel
def r9a : Rt := ⟨a9 &&& maskB 8, 8, 1⟩
def r9b : Rt := ⟨a9 &&& maskB 16, 16, 1⟩
def r9c : Rt := ⟨a9 &&& maskB 24, 24, 2⟩
theorem keep9 : keepL [r9a, r9b, r9c] = [r9a, r9c] := by decide +kernel
theorem tab9 : Tab [r9a, r9b, r9c] := (tab_of (by decide +kernel)).1
end Pg
namespace Go.Proofs.Ytdoghlncoinhoaa
open Go.RowKit Pg

set_option maxHeartbeats 1000000 in
set_option maxRecDepth 100000 in
theorem psaved_any {l : List Rt} {v : Value} (w : World) (hl : Els w v 4 Rt.cells l) (hT : Tab l) (hn : l.length ≤ 1000) : Calls Try.prog 17 #[v] w (Ret (.int .i64 ((l.length : Int) - ((keepL l).length : Int))) w) := by
  have hk := Lib.hid (pkeep_any w hl hT hn)
  have hle := (keepL_sub hT).length_le
  obtain ⟨a, c, rfl, hc, he⟩ := hl.form
  obtain ⟨K, hK⟩ : ∃ K, keepL l = K := ⟨_, rfl⟩
  rw [hK] at hk hle ⊢
  clear hl he hT hK
  go_enter Try.func17, Try.ntmps17
  go_wp2_with fail
  refine (hk.out).mono ?_
  rintro e w1 hR
  obtain ⟨a1, c1, rfl, hlc1, hown1, hels1⟩ := RetEls.out2 Rt.cells_len hR
  have HE1 := Lib.hid hels1
  have HK1 := Lib.hid hown1.1
  clear hown1 hels1 hR
  go_wp2_with fail
  go_ret
  exact Ret.of (by go_num) (by simp (maxDischargeDepth := 99) [HK1.out])
set_option maxHeartbeats 1000000 in
set_option maxRecDepth 100000 in
theorem needs1_gives (x : B) (n : Int) (g : Nat) (w : World) (h : Blk w g 27 #[.int .u64 (hi x), .int .u64 (lo x), .int .i64 n]) : GivesRt 37 #[.pointer (some ⟨g, 0, none⟩)] (eqP x n) w := by
  intro W e hkw
  obtain ⟨c0, c1, c2, hlt⟩ := Blk.three (h.kept hkw)
  show Calls Try.prog 37 #[rv e, .pointer (some ⟨g, 0, none⟩)] W (Ret (.bool (eqP x n e)) W)
  clear h hkw
  obtain ⟨ex, en, ea⟩ := e
  by_cases hx : ex = x
  · subst hx
    by_cases hn : en = n
    · subst hn
      have HV := Lib.hid (show eqP ex en ⟨ex, en, ea⟩ = true by simp [eqP])
      go_enter Try.func37, Try.ntmps37
      go_wp2_with fail
      go_ret
      exact Ret.of (by rw [HV.out]; rfl) (by simp (maxDischargeDepth := 99))
    · have HV := Lib.hid (show eqP ex n ⟨ex, en, ea⟩ = false by simp [eqP, hn])
      go_enter Try.func37, Try.ntmps37
      go_wp2_with fail
      go_ret
      exact Ret.of (by rw [HV.out]; rfl) (by simp (maxDischargeDepth := 99))
  · have HV := Lib.hid (show eqP x n ⟨ex, en, ea⟩ = false by simp [eqP, hx])
    go_enter Try.func37, Try.ntmps37
    go_wp2_with fail
    go_ret
    exact Ret.of (by rw [HV.out]; rfl) (by simp (maxDischargeDepth := 99))
set_option maxHeartbeats 1000000 in
set_option maxRecDepth 100000 in
theorem pneeds_any {l : List Rt} {v : Value} (x : B) (n : Int) (w : World) (hl : Els w v 4 Rt.cells l) (hT : Tab l) (hn : l.length ≤ 1000) : Calls Try.prog 18 #[v, pv x n] w (Ret (.bool ((keepL l).any (eqP x n))) w) := by
  have hk := Lib.hid (fun W (hk : Kept w W) => pkeep_any W (hl.kept hk) hT hn)
  have hle := (keepL_sub hT).length_le
  obtain ⟨a, c, rfl, hc, he⟩ := hl.form
  obtain ⟨K, hK⟩ : ∃ K, keepL l = K := ⟨_, rfl⟩
  rw [hK] at hk hle ⊢
  clear hl he hT hK
  go_enter Try.func18, Try.ntmps18
  go_wp2_with fail
  refine (hk.out _ (Kept.alloc (Kept.refl w) _)).mono ?_
  rintro e w1 hR
  obtain ⟨a1, c1, rfl, hlc1, hown1, hels1⟩ := RetEls.out2 Rt.cells_len hR
  have HE1 := Lib.hid hels1
  have HK1 := Lib.hid hown1.1
  clear hown1 hels1 hR
  go_wp2_with fail
  have hb := (Blk.new' w 27 #[.int .u64 (hi x), .int .u64 (lo x), .int .i64 n] (g := w.heap.size) rfl).kept HK1.out
  refine (containsFuncRt_any (eqP x n) 37 _ _ HE1.out (by omega) (enters_of Try.func37 (by kernel_rfl) rfl) (needs1_gives x n _ _ hb)).mono ?_
  rintro e w9 ⟨rfl, q9, rfl⟩
  clear hb
  have hkf := Lib.hid ((Kept.alloc (Kept.refl w) (.cells #[.int .u64 (hi x), .int .u64 (lo x), .int .i64 n] 27)).trans HK1.out)
  go_wp2_with fail
  go_ret
  exact Ret.of (rfl) (by simp (maxDischargeDepth := 99) [hkf.out])
theorem awake9_mk8 (w : World) : Calls Try.prog 30 #[.agg #[.int .u64 720859614379245568, .int .u64 0], .int .i64 8] w (Ret (pv r9a.x 8) w) := by
  have := make_any a9 8 w
  obtain ⟨e0, e1⟩ := a9_words
  unfold av at this
  rw [e0, e1, show near 8 = 8 by decide] at this
  exact this
theorem awake9_mk16 (w : World) : Calls Try.prog 30 #[.agg #[.int .u64 720859614379245568, .int .u64 0], .int .i64 16] w (Ret (pv r9b.x 16) w) := by
  have := make_any a9 16 w
  obtain ⟨e0, e1⟩ := a9_words
  unfold av at this
  rw [e0, e1, show near 16 = 16 by decide] at this
  exact this
theorem awake9_mk24 (w : World) : Calls Try.prog 30 #[.agg #[.int .u64 720859614379245568, .int .u64 0], .int .i64 24] w (Ret (pv r9c.x 24) w) := by
  have := make_any a9 24 w
  obtain ⟨e0, e1⟩ := a9_words
  unfold av at this
  rw [e0, e1, show near 24 = 24 by decide] at this
  exact this
theorem awake9_keep {v : Value} (w : World) (hl : Els w v 4 Rt.cells [r9a, r9b, r9c]) : Calls Try.prog 16 #[v] w (RetEls 48 4 Rt.cells [r9a, r9c] w) := by
  have := pkeep_any w hl tab9 (by simp); rwa [keep9] at this
theorem awake9_saved {v : Value} (w : World) (hl : Els w v 4 Rt.cells [r9a, r9b, r9c]) : Calls Try.prog 17 #[v] w (Ret (.int .i64 1) w) := by
  have := psaved_any w hl tab9 (by simp); rwa [keep9] at this
theorem awake9_needs {v : Value} (w : World) (hl : Els w v 4 Rt.cells [r9a, r9b, r9c]) : Calls Try.prog 18 #[v, pv r9b.x 16] w (Ret (.bool false) w) := by
  have := pneeds_any r9b.x 16 w hl tab9 (by simp)
  rwa [keep9, show [r9a, r9c].any (eqP r9b.x 16) = false by decide +kernel] at this
set_option maxHeartbeats 1000000 in
set_option maxRecDepth 100000 in
theorem awake9_ok (w : World) : Calls Try.prog 10 #[] w (Ret (.bool true) w) := by
  go_enter Try.func10, Try.ntmps10
  go_wp2_with fail
  refine region_ext_tail _ (by first | exact Later.ext _ _ | exact Later.refl _) 9 mixed (by kernel_rfl) ?_
  simp only [List.take_succ_cons, List.take_zero, List.drop_succ_cons, List.drop_zero]
  repeat (go_big_quiet_step ((first | (go_at_call 30; first | with_reducible exact calls_in (awake9_mk8 _) | with_reducible exact calls_in (awake9_mk16 _) | with_reducible exact calls_in (awake9_mk24 _)))))
  refine wpQuiet_nil ?_
  rintro _ ⟨q, rfl⟩
  go_wp2_with fail
  obtain ⟨wq, hwq⟩ : ∃ wq, wq = ext (w.alloc (.cells #[.int .u64 720859614379245568, .int .u64 0] 25)) q := ⟨_, rfl⟩
  have HKQ := Lib.hid (show Kept w wq by rw [hwq]; exact (Kept.alloc (Kept.refl w) _).ext _)
  rw [← hwq]
  clear hwq
  obtain ⟨gl, hgl⟩ : ∃ gl, gl = wq.heap.size := ⟨_, rfl⟩
  have HB := Lib.hid (Blk.new' wq 48 #[.int .u64 (hi r9a.x), .int .u64 (lo r9a.x), .int .i64 8, .int .i64 1, .int .u64 (hi r9b.x), .int .u64 (lo r9b.x), .int .i64 16, .int .i64 1, .int .u64 (hi r9c.x), .int .u64 (lo r9c.x), .int .i64 24, .int .i64 2] hgl)
  have HL := Lib.hid (els_of_blk Rt.cells_len [r9a, r9b, r9c] HB.out 3 (Nat.le_refl _))
  rw [← hgl]
  clear hgl
  refine (awake9_keep _ HL.out).mono ?_
  rintro e w1 hR
  obtain ⟨a1, c1, rfl, hlc1, hown1, hels1⟩ := RetEls.out2 Rt.cells_len hR
  obtain ⟨b1, o1, rfl, hb1, hc1⟩ := hels1.at_ 0 (by simp)
  obtain ⟨_, hc2⟩ := hels1.at2 1 (by simp)
  have f0 : w1.cell? ⟨b1, o1 + 2, none⟩ = some (.int .i64 8) := by have := hc1 2 (by omega); rwa [Nat.zero_mul, Nat.add_zero] at this
  have f1 : w1.cell? ⟨b1, o1 + 4 + 2, none⟩ = some (.int .i64 24) := by have := hc2 2 (by omega); rwa [Nat.one_mul] at this
  have f2 : w1.cell? ⟨b1, o1 + 6, none⟩ = some (.int .i64 24) := f1
  have HL1 := Lib.hid (HL.out.kept hown1.1)
  have HK1 := Lib.hid (HKQ.out.trans (Kept.trans (Kept.alloc (Kept.refl _) _) hown1.1))
  have z := fun j => (HB.out.kept hown1.1).cell j
  have zl := (HB.out.kept hown1.1).lt
  clear hR hown1 hels1 hc1 hc2
  go_wp2_with (first | (go_at_call 17; first | ((refine (calls_in (awake9_saved _ HL1.out)).mono ?_); rintro e w1 ⟨rfl, q1, rfl⟩) | ((refine (awake9_saved _ HL1.out).mono ?_); rintro e w1 ⟨rfl, q1, rfl⟩)) | (go_at_call 18; first | ((refine (calls_in (awake9_needs _ (HL1.out.ext _))).mono ?_); rintro e w1 ⟨rfl, q1, rfl⟩) | ((refine (awake9_needs _ (HL1.out.ext _)).mono ?_); rintro e w1 ⟨rfl, q1, rfl⟩)))
  go_ret
  exact Ret.of (rfl) (by simp (maxDischargeDepth := 99) [HK1.out])
end Go.Proofs.Ytdoghlncoinhoaa
