/- BankReads: any slot that there is is read as it was written, and the lowest one that matches an address is found. -/
import Derived.Test.YtpocbcohoefojaaRows
import Derived.Test.YtpocbcohoefojaaBank14
import Derived.Test.YtpocbcohoefojaaOpenSlots
namespace Go.Proofs.Ytpocbcohoefojaa
open Go.RowKit Pg Go.ChangeShapes Go.WideShapes Go.ChangeAt

set_option maxHeartbeats 1000000 in
set_option maxRecDepth 100000 in
theorem bankReads_no {l : List Wr} {v : Value} (n : Nat) (h1 : 1 ≤ n) (h2 : n ≤ 256) (a : B) (w : World) (hl : Els w v 8 Wr.cells l) (hn : l.length ≤ 40) (k : Int) (hk : k < 0 ∨ (n : Int) ≤ k)
    : Calls Try.prog 4 #[.int .i64 (n : Int), v, .int .i64 k, av a] w (Ret (.bool true) w) := by
  have HE := Lib.hid hl
  obtain ⟨ad, c, rfl, hc, he⟩ := hl.form
  obtain ⟨S, hS⟩ : ∃ S, S = applyS (List.replicate n z0) l := ⟨_, rfl⟩
  have hSl : S.length = n := by rw [hS, applyS_len]; simp
  have HS := Lib.hid hS
  have HSl := Lib.hid hSl
  obtain ⟨i, hi⟩ : ∃ i, idxI (matchS a) S = i := ⟨_, rfl⟩
  have hse := Lib.hid (fun (g gr : Nat) (c : Int) (wb w : World) (h : BankAt wb w g gr S c) => show Calls Try.prog 21 #[.pointer (some ⟨g, 0, none⟩), av a] w (Ret (.tuple #[.int .i64 (max i 0), .bool (decide (0 ≤ i))]) w) by rw [← hi]; exact bsearch_any h a)
  have hfd := Lib.hid (fun w (v : Value) (h : Els w v 7 Slot.cells S) => show Calls Try.prog 22 #[v, av a] w (Ret (.int .i64 i) w) by rw [← hi]; exact reffind_any a w h (by omega))
  have hof := Lib.hid (fun w (v : Value) (h : Els w v 7 Slot.cells S) => law08of_any w h (by omega))
  have hrd := Lib.hid (fun (g gr : Nat) (c : Int) (wb w : World) (h : BankAt wb w g gr S c) => show Calls Try.prog 20 #[.pointer (some ⟨g, 0, none⟩), .int .i64 k] w (Ret (.tuple #[.agg #[.bool false, .int .u64 0, .int .u64 0, .int .u64 0, .int .u64 0, .int .i64 0, .int .i64 0], .int .i64 5]) w) from bread_no h k (by omega))
  have HK9 := Lib.hid (show k < 0 ∨ (S.length : Int) ≤ k by omega)
  clear hk
  have g1 : ¬ (40 : Int) < (l.length : Int) := by omega
  clear hl hS he hi hSl
  go_enter Try.func4, Try.ntmps4
  go_wp2_with (first | (go_at_call 10; refine (bnew_yes n _ h1 h2).mono ?_; rintro e w1 ⟨g, gr, rfl, hk1, hB1⟩; have HB1 := Lib.hid hB1; clear hB1 hk1))
  go_loopw [12, 38] (fun _ vk wr => ∃ (k : Nat) (cnt : Int), k ≤ l.length ∧ vk = .int .i64 k ∧ 0 ≤ cnt ∧ cnt ≤ k ∧ BankAt (w.alloc (.cells #[.int .u64 (hi a), .int .u64 (lo a)] 31)) wr g gr (applyS (List.replicate n z0) (l.take k)) cnt) (fun _ k _ => l.length - (intOf k).toNat)
  case atStart => exact ⟨0, 0, by omega, rfl, by omega, by omega, HB1.out⟩
  case round =>
    obtain ⟨i9, cnt, hi9, rfl, hc0, hck, hb⟩ := hrel
    have HB := Lib.hid hb
    clear HB1
    by_cases hlt : i9 < l.length
    · have hil : (i9 : Int) < (l.length : Int) := by omega
      have hkw := (Kept.alloc (Kept.refl w) (.cells #[.int .u64 (hi a), .int .u64 (lo a)] 31)).trans hb.own.1
      obtain ⟨b, o, rfl, hb, hcell⟩ := (HE.out.kept hkw).at_ (i9) hlt
      obtain ⟨e, hee⟩ : ∃ e, (l)[i9]'hlt = e := ⟨_, rfl⟩
      rw [hee] at hcell
      have c0 : wr.cell? ⟨b, o + i9 * 8, none⟩ = some (.int .i64 e.at_) := hcell 0 (by omega)
      have c1 : wr.cell? ⟨b, o + i9 * 8 + 1, none⟩ = some (.bool e.s.v) := hcell 1 (by omega)
      have c2 : wr.cell? ⟨b, o + i9 * 8 + 2, none⟩ = some (.int .u64 (hi e.s.e.x)) := hcell 2 (by omega)
      have c3 : wr.cell? ⟨b, o + i9 * 8 + 3, none⟩ = some (.int .u64 (lo e.s.e.x)) := hcell 3 (by omega)
      have c4 : wr.cell? ⟨b, o + i9 * 8 + 4, none⟩ = some (.int .u64 (hi e.s.e.m)) := hcell 4 (by omega)
      have c5 : wr.cell? ⟨b, o + i9 * 8 + 5, none⟩ = some (.int .u64 (lo e.s.e.m)) := hcell 5 (by omega)
      have c6 : wr.cell? ⟨b, o + i9 * 8 + 6, none⟩ = some (.int .i64 e.s.e.len) := hcell 6 (by omega)
      have c7 : wr.cell? ⟨b, o + i9 * 8 + 7, none⟩ = some (.int .i64 e.s.e.act) := hcell 7 (by omega)
      have Hee := Lib.hid hee
      clear hcell hee
      have HD := Lib.hid (fun W (hk : Kept wr W) => bdo_step (HB.out.kept hk) hlt hc0 hck (by omega) e Hee.out)
      clear hb hkw Hee hrd hse hfd hof
      go_wp2_with (first | (go_at_call 13; refine (HD.out _ (Kept.alloc (Kept.refl _) _)).mono ?_; rintro e9 w2 ⟨er, cn2, rfl, hd0, hd1, hb2⟩; have HB2 := Lib.hid hb2; clear hb2))
      go_roundw
      case rel => exact ⟨i9 + 1, cn2, by omega, by go_num, hd0, by omega, HB2.out⟩
      case measure => simp [intOf]; omega
    · have hil : i9 = l.length := by omega
      subst hil
      rw [List.take_length, ← HS.out] at hb
      have HB := Lib.hid hb
      have hbx := Blk.kept (Blk.new' w 31 #[.int .u64 (hi a), .int .u64 (lo a)] (g := w.heap.size) rfl) hb.own.1
      have HK := Lib.hid ((Kept.alloc (Kept.refl w) (.cells #[.int .u64 (hi a), .int .u64 (lo a)] 31)).trans hb.own.1)
      have HBX := Lib.hid hbx
      clear hbx hb hlt
      go_wp2_with (first | (go_at_call 18; refine (bslots_any HB.out).mono ?_; rintro e w5 hR; obtain ⟨a1, c1, rfl, hlc1, hown1, hels1⟩ := RetEls.out2 Slot.cells_len hR; have HE1 := Lib.hid hels1; have hk5 := Lib.hid hown1.1; have HB5 := Lib.hid (HB.out.kept hown1.1); have HBX5 := Lib.hid (HBX.out.kept hown1.1); obtain ⟨x0, x1, xl⟩ := Blk.two HBX5.out; clear hown1 hels1 hR) | (go_at_call 20; refine (hrd.out _ _ _ _ _ HB5.out).mono ?_; rintro e w1 ⟨rfl, qa, rfl⟩) | (go_at_call 21; refine (hse.out _ _ _ _ _ (HB5.out.kept (by simp (maxDischargeDepth := 99)))).mono ?_; rintro e w1 ⟨rfl, qb, rfl⟩))
      obtain ⟨gs, hgs⟩ : ∃ gs, gs = (ext w5 qa).heap.size := ⟨_, rfl⟩
      have HBs := Lib.hid ((Blk.new' (ext w5 qa) 37 #[.bool false, .int .u64 0, .int .u64 0, .int .u64 0, .int .u64 0, .int .i64 0, .int .i64 0] hgs).ext qb)
      rw [← hgs]
      refine named fun wz hwz => ?_
      rw [← hwz] at HBs
      have hkz := Lib.hid (show Kept w5 wz by rw [hwz]; simp (maxDischargeDepth := 99))
      obtain ⟨y0, y1, yl⟩ := Blk.two (HBX5.out.kept hkz.out)
      clear hwz x0 x1 xl hgs
      refine region_seq _ (Later.refl _) mixed (by kernel_rfl) (by kernel_rfl) ?_
      intro q9
      refine seq_named fun W1 hW1 => ?_
      have hC := Lib.hid (show ∃ p, W1 = ext _ p from ⟨q9, hW1⟩)
      clear hW1 q9
      repeat (first | (refine seq_plain (by rfl) ?_; go_big_quiet_step (fail); refine wpQuiet_nil ?_))
      refine seq_move (by rfl) (by rfl) ?_
      go_wp2_with fail
      refine (hof.out _ _ ((HE1.out.kept hkz.out).kept (Later.kept hC.out))).mono ?_
      rintro e w2 hR
      obtain ⟨a2, c2, rfl, hlc2, hown2, hels2⟩ := RetEls.out2 Slot.cells_len hR
      have hkk := kept_on hC (by first | exact .inl rfl | exact .inr ⟨_, rfl⟩) hown2.1
      replace hC := class_kept hC hkk
      have HE2 := Lib.hid hels2
      clear hown2 hels2 hR hkk
      go_wp2_with fail
      refine ⟨_, rfl, hC.out, ?_⟩
      repeat (first | (refine seq_plain (by rfl) ?_; go_big_quiet_step (fail); refine wpQuiet_nil ?_) | (refine seq_move (by rfl) (by rfl) ?_; go_wp2_with (first | (go_at_call 22; first | ((with_reducible refine (calls_in (hfd.out _ _ HE2.out)).mono ?_); rintro e w1 ⟨rfl, q1, rfl⟩) | ((with_reducible refine (hfd.out _ _ HE2.out).mono ?_); rintro e w1 ⟨rfl, q1, rfl⟩) | ((with_reducible refine (calls_in (hfd.out _ _ HE2.out)).mono ?_); rintro e w1 ⟨rfl, q1, rfl⟩) | ((with_reducible refine (hfd.out _ _ HE2.out).mono ?_); rintro e w1 ⟨rfl, q1, rfl⟩))); refine ⟨_, rfl, (class_kept hC (by first | exact below_ext _ _ | exact Kept.refl _)).out, ?_⟩))
      refine seq_nil ?_
      have hkC := Later.kept hC.out
      clear hC
      have HBs2 := Lib.hid (HBs.out.kept hkC)
      have hkf := Lib.hid (HK.out.trans (hk5.out.trans (hkz.out.trans hkC)))
      have HE6 := Lib.hid (HE1.out.kept (hkz.out.trans hkC))
      have s0 := fun j => HBs2.out.cell j
      have sl := HBs2.out.lt
      clear hkC y0 y1 yl HBs hse hfd hof
      have hk9 := HK9.out
      by_cases hk0 : k < 0
      · clear hk9
        go_wp2_with (first | (go_at_call 11; first | ((refine (calls_in (awake8_ok _)).mono ?_); rintro e w1 ⟨rfl, q1, rfl⟩) | ((refine (awake8_ok _).mono ?_); rintro e w1 ⟨rfl, q1, rfl⟩)))
        go_ret
        exact Ret.of (rfl) (by simp (maxDischargeDepth := 99) [hkf.out])
      · have hk1 : (S.length : Int) ≤ k := by omega
        clear hk9
        go_wp2_with (first | (go_at_call 11; first | ((refine (calls_in (awake8_ok _)).mono ?_); rintro e w1 ⟨rfl, q1, rfl⟩) | ((refine (awake8_ok _).mono ?_); rintro e w1 ⟨rfl, q1, rfl⟩)))
        go_ret
        exact Ret.of (rfl) (by simp (maxDischargeDepth := 99) [hkf.out])

set_option maxHeartbeats 1000000 in
set_option maxRecDepth 100000 in
theorem bankReads_yes {l : List Wr} {v : Value} (n : Nat) (h1 : 1 ≤ n) (h2 : n ≤ 256) (a : B) (w : World) (hl : Els w v 8 Wr.cells l) (hn : l.length ≤ 40) (k : Nat) (hk : k < n)
    : Calls Try.prog 4 #[.int .i64 (n : Int), v, .int .i64 (k : Int), av a] w (Ret (.bool true) w) := by
  have HE := Lib.hid hl
  obtain ⟨ad, c, rfl, hc, he⟩ := hl.form
  obtain ⟨S, hS⟩ : ∃ S, S = applyS (List.replicate n z0) l := ⟨_, rfl⟩
  have hSl : S.length = n := by rw [hS, applyS_len]; simp
  have HS := Lib.hid hS
  have HSl := Lib.hid hSl
  obtain ⟨i, hi⟩ : ∃ i, idxI (matchS a) S = i := ⟨_, rfl⟩
  have hse := Lib.hid (fun (g gr : Nat) (c : Int) (wb w : World) (h : BankAt wb w g gr S c) => show Calls Try.prog 21 #[.pointer (some ⟨g, 0, none⟩), av a] w (Ret (.tuple #[.int .i64 (max i 0), .bool (decide (0 ≤ i))]) w) by rw [← hi]; exact bsearch_any h a)
  have hfd := Lib.hid (fun w (v : Value) (h : Els w v 7 Slot.cells S) => show Calls Try.prog 22 #[v, av a] w (Ret (.int .i64 i) w) by rw [← hi]; exact reffind_any a w h (by omega))
  have hof := Lib.hid (fun w (v : Value) (h : Els w v 7 Slot.cells S) => law08of_any w h (by omega))
  obtain ⟨e, he9⟩ : ∃ e, S[k]'(by omega) = e := ⟨_, rfl⟩
  have HEE := Lib.hid (show ∃ h : k < S.length, S[k] = e from ⟨by omega, he9⟩)
  have hrd := Lib.hid (fun (g gr : Nat) (c : Int) (wb w : World) (h : BankAt wb w g gr S c) => show Calls Try.prog 20 #[.pointer (some ⟨g, 0, none⟩), .int .i64 (k : Int)] w (Ret (.tuple #[slv e, .int .i64 0]) w) by rw [← he9]; exact bread_yes h k (by omega))
  clear hk he9
  have g1 : ¬ (40 : Int) < (l.length : Int) := by omega
  clear hl hS he hi hSl
  go_enter Try.func4, Try.ntmps4
  go_wp2_with (first | (go_at_call 10; refine (bnew_yes n _ h1 h2).mono ?_; rintro e w1 ⟨g, gr, rfl, hk1, hB1⟩; have HB1 := Lib.hid hB1; clear hB1 hk1))
  go_loopw [12, 38] (fun _ vk wr => ∃ (k : Nat) (cnt : Int), k ≤ l.length ∧ vk = .int .i64 k ∧ 0 ≤ cnt ∧ cnt ≤ k ∧ BankAt (w.alloc (.cells #[.int .u64 (hi a), .int .u64 (lo a)] 31)) wr g gr (applyS (List.replicate n z0) (l.take k)) cnt) (fun _ k _ => l.length - (intOf k).toNat)
  case atStart => exact ⟨0, 0, by omega, rfl, by omega, by omega, HB1.out⟩
  case round =>
    obtain ⟨i9, cnt, hi9, rfl, hc0, hck, hb⟩ := hrel
    have HB := Lib.hid hb
    clear HB1
    by_cases hlt : i9 < l.length
    · have hil : (i9 : Int) < (l.length : Int) := by omega
      have hkw := (Kept.alloc (Kept.refl w) (.cells #[.int .u64 (hi a), .int .u64 (lo a)] 31)).trans hb.own.1
      obtain ⟨b, o, rfl, hb, hcell⟩ := (HE.out.kept hkw).at_ (i9) hlt
      obtain ⟨e, hee⟩ : ∃ e, (l)[i9]'hlt = e := ⟨_, rfl⟩
      rw [hee] at hcell
      have c0 : wr.cell? ⟨b, o + i9 * 8, none⟩ = some (.int .i64 e.at_) := hcell 0 (by omega)
      have c1 : wr.cell? ⟨b, o + i9 * 8 + 1, none⟩ = some (.bool e.s.v) := hcell 1 (by omega)
      have c2 : wr.cell? ⟨b, o + i9 * 8 + 2, none⟩ = some (.int .u64 (hi e.s.e.x)) := hcell 2 (by omega)
      have c3 : wr.cell? ⟨b, o + i9 * 8 + 3, none⟩ = some (.int .u64 (lo e.s.e.x)) := hcell 3 (by omega)
      have c4 : wr.cell? ⟨b, o + i9 * 8 + 4, none⟩ = some (.int .u64 (hi e.s.e.m)) := hcell 4 (by omega)
      have c5 : wr.cell? ⟨b, o + i9 * 8 + 5, none⟩ = some (.int .u64 (lo e.s.e.m)) := hcell 5 (by omega)
      have c6 : wr.cell? ⟨b, o + i9 * 8 + 6, none⟩ = some (.int .i64 e.s.e.len) := hcell 6 (by omega)
      have c7 : wr.cell? ⟨b, o + i9 * 8 + 7, none⟩ = some (.int .i64 e.s.e.act) := hcell 7 (by omega)
      have Hee := Lib.hid hee
      clear hcell hee
      have HD := Lib.hid (fun W (hk : Kept wr W) => bdo_step (HB.out.kept hk) hlt hc0 hck (by omega) e Hee.out)
      clear hb hkw Hee hrd hse hfd hof
      go_wp2_with (first | (go_at_call 13; refine (HD.out _ (Kept.alloc (Kept.refl _) _)).mono ?_; rintro e9 w2 ⟨er, cn2, rfl, hd0, hd1, hb2⟩; have HB2 := Lib.hid hb2; clear hb2))
      go_roundw
      case rel => exact ⟨i9 + 1, cn2, by omega, by go_num, hd0, by omega, HB2.out⟩
      case measure => simp [intOf]; omega
    · have hil : i9 = l.length := by omega
      subst hil
      rw [List.take_length, ← HS.out] at hb
      have HB := Lib.hid hb
      have hbx := Blk.kept (Blk.new' w 31 #[.int .u64 (hi a), .int .u64 (lo a)] (g := w.heap.size) rfl) hb.own.1
      have HK := Lib.hid ((Kept.alloc (Kept.refl w) (.cells #[.int .u64 (hi a), .int .u64 (lo a)] 31)).trans hb.own.1)
      have HBX := Lib.hid hbx
      clear hbx hb hlt
      go_wp2_with (first | (go_at_call 18; refine (bslots_any HB.out).mono ?_; rintro e w5 hR; obtain ⟨a1, c1, rfl, hlc1, hown1, hels1⟩ := RetEls.out2 Slot.cells_len hR; have HE1 := Lib.hid hels1; have hk5 := Lib.hid hown1.1; have HB5 := Lib.hid (HB.out.kept hown1.1); have HBX5 := Lib.hid (HBX.out.kept hown1.1); obtain ⟨x0, x1, xl⟩ := Blk.two HBX5.out; clear hown1 hels1 hR) | (go_at_call 20; refine (hrd.out _ _ _ _ _ HB5.out).mono ?_; rintro e w1 ⟨rfl, qa, rfl⟩) | (go_at_call 21; refine (hse.out _ _ _ _ _ (HB5.out.kept (by simp (maxDischargeDepth := 99)))).mono ?_; rintro e w1 ⟨rfl, qb, rfl⟩))
      obtain ⟨gs, hgs⟩ : ∃ gs, gs = (ext w5 qa).heap.size := ⟨_, rfl⟩
      have HBs := Lib.hid ((Blk.new' (ext w5 qa) 37 #[.bool e.v, .int .u64 (hi e.e.x), .int .u64 (lo e.e.x), .int .u64 (hi e.e.m), .int .u64 (lo e.e.m), .int .i64 e.e.len, .int .i64 e.e.act] hgs).ext qb)
      rw [← hgs]
      refine named fun wz hwz => ?_
      rw [← hwz] at HBs
      have hkz := Lib.hid (show Kept w5 wz by rw [hwz]; simp (maxDischargeDepth := 99))
      obtain ⟨y0, y1, yl⟩ := Blk.two (HBX5.out.kept hkz.out)
      clear hwz x0 x1 xl hgs
      refine region_seq _ (Later.refl _) mixed (by kernel_rfl) (by kernel_rfl) ?_
      intro q9
      refine seq_named fun W1 hW1 => ?_
      have hC := Lib.hid (show ∃ p, W1 = ext _ p from ⟨q9, hW1⟩)
      clear hW1 q9
      repeat (first | (refine seq_plain (by rfl) ?_; go_big_quiet_step (fail); refine wpQuiet_nil ?_))
      refine seq_move (by rfl) (by rfl) ?_
      go_wp2_with fail
      refine (hof.out _ _ ((HE1.out.kept hkz.out).kept (Later.kept hC.out))).mono ?_
      rintro e w2 hR
      obtain ⟨a2, c2, rfl, hlc2, hown2, hels2⟩ := RetEls.out2 Slot.cells_len hR
      have hkk := kept_on hC (by first | exact .inl rfl | exact .inr ⟨_, rfl⟩) hown2.1
      replace hC := class_kept hC hkk
      have HE2 := Lib.hid hels2
      clear hown2 hels2 hR hkk
      go_wp2_with fail
      refine ⟨_, rfl, hC.out, ?_⟩
      repeat (first | (refine seq_plain (by rfl) ?_; go_big_quiet_step (fail); refine wpQuiet_nil ?_) | (refine seq_move (by rfl) (by rfl) ?_; go_wp2_with (first | (go_at_call 22; first | ((with_reducible refine (calls_in (hfd.out _ _ HE2.out)).mono ?_); rintro e w1 ⟨rfl, q1, rfl⟩) | ((with_reducible refine (hfd.out _ _ HE2.out).mono ?_); rintro e w1 ⟨rfl, q1, rfl⟩) | ((with_reducible refine (calls_in (hfd.out _ _ HE2.out)).mono ?_); rintro e w1 ⟨rfl, q1, rfl⟩) | ((with_reducible refine (hfd.out _ _ HE2.out).mono ?_); rintro e w1 ⟨rfl, q1, rfl⟩))); refine ⟨_, rfl, (class_kept hC (by first | exact below_ext _ _ | exact Kept.refl _)).out, ?_⟩))
      refine seq_nil ?_
      have hkC := Later.kept hC.out
      clear hC
      have HBs2 := Lib.hid (HBs.out.kept hkC)
      have hkf := Lib.hid (HK.out.trans (hk5.out.trans (hkz.out.trans hkC)))
      have HE6 := Lib.hid (HE1.out.kept (hkz.out.trans hkC))
      have s0 := fun j => HBs2.out.cell j
      have sl := HBs2.out.lt
      clear hkC y0 y1 yl HBs hse hfd hof
      obtain ⟨hkS, hkE⟩ := HEE.out
      obtain ⟨bz, oz, rfl, hbz, hcellz⟩ := (HE6.out).at_ (k) hkS
      obtain ⟨ez, heez⟩ : ∃ e, (S)[k]'hkS = e := ⟨_, rfl⟩
      rw [heez] at hcellz
      have cz0 : w2.cell? ⟨bz, oz + k * 7, none⟩ = some (.bool ez.v) := hcellz 0 (by omega)
      have cz1 : w2.cell? ⟨bz, oz + k * 7 + 1, none⟩ = some (.int .u64 (hi ez.e.x)) := hcellz 1 (by omega)
      have cz2 : w2.cell? ⟨bz, oz + k * 7 + 2, none⟩ = some (.int .u64 (lo ez.e.x)) := hcellz 2 (by omega)
      have cz3 : w2.cell? ⟨bz, oz + k * 7 + 3, none⟩ = some (.int .u64 (hi ez.e.m)) := hcellz 3 (by omega)
      have cz4 : w2.cell? ⟨bz, oz + k * 7 + 4, none⟩ = some (.int .u64 (lo ez.e.m)) := hcellz 4 (by omega)
      have cz5 : w2.cell? ⟨bz, oz + k * 7 + 5, none⟩ = some (.int .i64 ez.e.len) := hcellz 5 (by omega)
      have cz6 : w2.cell? ⟨bz, oz + k * 7 + 6, none⟩ = some (.int .i64 ez.e.act) := hcellz 6 (by omega)
      have Heez := Lib.hid heez
      clear hcellz heez
      rw [hkE] at Heez
      obtain rfl : e = ez := Heez.out
      have k0 : (0 : Int) ≤ k := by omega
      have k1 : (k : Int) < (S.length : Int) := by omega
      have k2 : decide ((S.length : Int) ≤ (k : Int)) = false := by simp; omega
      have k3 : ¬ (k : Int) < 0 := by omega
      have k4 : ¬ (S.length : Int) ≤ (k : Int) := by omega
      clear Heez hkE
      go_wp2_with fail
      refine region_ext _ (by first | exact Later.ext _ _ | exact Later.refl _) mixed (by kernel_rfl) ?_
      repeat (go_big_quiet_step ((first | (go_at_call 11; exact calls_in (awake8_ok _)))))
      refine wpQuiet_nil ?_
      rintro _ ⟨q, rfl⟩
      go_wp2_with fail
      go_ret
      exact Ret.of (rfl) (by simp (maxDischargeDepth := 99) [hkf.out])

theorem bankReads_walk (n : Int) (_ : -9223372036854775808 ≤ n) (_ : n ≤ 9223372036854775807) (l : List Wr) (v : Value) (k : Int) (_ : -9223372036854775808 ≤ k) (_ : k ≤ 9223372036854775807) (a : B) (w : World) (hl : Els w v 8 Wr.cells l) : Calls Try.prog 4 #[.int .i64 n, v, .int .i64 k, av a] w (Ret (.bool true) w) := by
  by_cases hr : 1 ≤ n ∧ n ≤ 256
  · obtain ⟨m, rfl⟩ := Int.eq_ofNat_of_zero_le (show 0 ≤ n by omega)
    by_cases hn : l.length ≤ 40
    · by_cases hk : k < 0 ∨ (m : Int) ≤ k
      · exact bankReads_no m (by omega) (by omega) a w hl hn k hk
      · obtain ⟨j, rfl⟩ := Int.eq_ofNat_of_zero_le (show 0 ≤ k by omega)
        exact bankReads_yes m (by omega) (by omega) a w hl hn j (by omega)
    · obtain ⟨ad, c, rfl, hc, he⟩ := hl.form
      have g1 : (40 : Int) < (l.length : Int) := by omega
      have g2 := hr.1
      have g3 := hr.2
      clear hl he hn
      go_enter Try.func4, Try.ntmps4
      go_wp2_with (first | (go_at_call 10; refine (bnew_yes m _ (by omega) (by omega)).mono ?_; rintro e w1 ⟨g, gr, rfl, hk1, hB1⟩; have HK1 := Lib.hid hk1; clear hB1 hk1) | (go_at_call 11; first | ((refine (calls_in (awake8_ok _)).mono ?_); rintro e w1 ⟨rfl, q1, rfl⟩) | ((refine (awake8_ok _).mono ?_); rintro e w1 ⟨rfl, q1, rfl⟩)))
      have hkf := Lib.hid ((Kept.alloc (Kept.refl w) (.cells #[.int .u64 (hi a), .int .u64 (lo a)] 31)).trans HK1.out)
      go_ret
      exact Ret.of (rfl) (by simp (maxDischargeDepth := 99) [hkf.out])
  · obtain ⟨ad, c, rfl, hc, he⟩ := hl.form
    clear hl he
    go_enter Try.func4, Try.ntmps4
    go_wp2_with (first | (go_at_call 10; first | ((refine (calls_in (bnew_no n _ hr)).mono ?_); rintro e w1 ⟨rfl, q1, rfl⟩) | ((refine (bnew_no n _ hr).mono ?_); rintro e w1 ⟨rfl, q1, rfl⟩)) | (go_at_call 11; first | ((refine (calls_in (awake8_ok _)).mono ?_); rintro e w1 ⟨rfl, q1, rfl⟩) | ((refine (awake8_ok _).mono ?_); rintro e w1 ⟨rfl, q1, rfl⟩)))
    go_ret
    exact Ret.of (rfl) (by simp (maxDischargeDepth := 99))
set_option maxRecDepth 100000 in
theorem bankReads_lifted (os : Os) (started : os.Started) (H : Type) (enc : TypeId × Value → H) :
    ReturnsInHanded {} Try.checked os 4 .any (Rows.bankReadsSpec.pre6 enc Try.prog Try.f4 Rows.bankReadsRow.domain false) (Rows.bankReadsSpec.post enc Try.prog Try.f4 false true false false) := by
  refine returnsInHanded_of_change (C := Try.checked) own started (by kernel_rfl) Try.func4
    (ChangeSpec.witness6 (enc := enc) (C := Try.checked) false ⟨#[], #[.int .i64 0, .slice none 0 0, .int .i64 0, .agg #[.int .u64 0, .int .u64 0]], []⟩ 8 (by kernel_rfl) (by kernel_rfl) (by kernel_rfl) (by kernel_rfl)) ?_
  intro W base args ds gs before hval0 hW hcnd _
  have hval : ∀ (j : Nat) t v, Try.f4.params[j]? = some t → args[j]? = some v → Value.okWide Try.prog W .any base t v := hval0
  have hW' := hW
  obtain ⟨p, q, hA0, hV, rfl, hfz, hnd⟩ := hW
  obtain ⟨rfl, rfl⟩ := trodVars_none hV
  rw [List.append_nil] at hW'
  have hA : DataW.TrodAll enc Try.prog W 0 (fun _ => true) true Try.f4.params.toList args.toList ds p := hA0
  have hA1 := hA
  rw [Try.params4] at hA1 hval
  obtain ⟨v0, vs0, d0, ds0, p0, q0, hargs, rfl, rfl, h0, r0⟩ := trodAll_cons hA1
  obtain ⟨v1, vs1, d1, ds1, p1, q1, rfl, rfl, rfl, h1, r1⟩ := trodAll_cons r0
  obtain ⟨v2, vs2, d2, ds2, p2, q2, rfl, rfl, rfl, h2, r2⟩ := trodAll_cons r1
  obtain ⟨v3, vs3, d3, ds3, p3, q3, rfl, rfl, rfl, h3, r3⟩ := trodAll_cons r2
  obtain ⟨rfl, rfl, rfl⟩ := trodAll_nil r3
  obtain rfl : args = #[v0, v1, v2, v3] := by cases args; simp_all
  obtain ⟨X0, rfl, rfl, rfl, w0⟩ := open_int Try.underlying3 (hval 0 _ v0 rfl rfl) h0
  obtain ⟨L1, E1, _⟩ := open_wrs (hval 1 _ v1 rfl rfl) h1
  obtain ⟨X2, rfl, rfl, rfl, w2⟩ := open_int Try.underlying3 (hval 2 _ v2 rfl rfl) h2
  obtain ⟨X3, rfl⟩ := open_addr (hval 3 _ v3 rfl rfl) h3
  refine (bankReads_walk X0 (wf_i64' w0).1 (wf_i64' w0).2 L1 v1 X2 (wf_i64' w2).1 (wf_i64' w2).2 X3 W E1).mono fun e W' ⟨he, hg⟩ => ?_
  subst he
  exact ⟨_, rfl, post_true laidOut (by rw [Try.params4]; intro t ht; simp at ht; first | (subst ht; exact ⟨by kernel_rfl, of_decide_eq_true (by kernel_rfl)⟩) | (rcases ht with rfl | rfl <;> exact ⟨by kernel_rfl, of_decide_eq_true (by kernel_rfl)⟩) | (rcases ht with rfl | rfl | rfl <;> exact ⟨by kernel_rfl, of_decide_eq_true (by kernel_rfl)⟩) | (rcases ht with rfl | rfl | rfl | rfl <;> exact ⟨by kernel_rfl, of_decide_eq_true (by kernel_rfl)⟩)) rfl hW' hA rfl (trodAll_cons_mk (shut_bool Try.underlying4 _) trodAll_mk0) (Later.kept hg)⟩

theorem bankReads_holds : Rows.BankReadsSaid :=
  OpenClaim.holds_of_wide 4 Try.f4 rfl rfl rfl rfl rfl rfl rfl ⟨rfl, rfl, rfl, rfl, rfl⟩ rfl rfl rfl rfl rfl (by kernel_rfl) Try.func4 (by kernel_rfl)
    (of_decide_eq_true (by kernel_rfl)) (by unfold Func.isWrapper; first | (rw [if_pos (by decide +kernel)]; kernel_rfl) | (rw [if_neg (by decide +kernel)]; exact ⟨rfl, rfl⟩))
    (fun os started H enc _ => bankReads_lifted os started H enc)
#print axioms bankReads_holds
end Go.Proofs.Ytpocbcohoefojaa
