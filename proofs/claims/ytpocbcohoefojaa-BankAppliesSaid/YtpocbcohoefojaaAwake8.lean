/- The statements of layer 8: what each asks of two slots besides. -/
import Derived.Test.YtpocbcohoefojaaBank13
import Derived.Test.YtpocbcohoefojaaEnt
namespace Pg
open Go
/-- A block stands. -/
def IsBlk (g : Nat) (t : TypeId) (cs : Array Value) (w : World) : Prop := Blk w g t cs
theorem IsBlk.cell {g : Nat} {t : TypeId} {cs : Array Value} (x : In (IsBlk g t cs)) (j : Nat) : x.w.cell? ⟨g, j, none⟩ = cs[j]? := Blk.cell x.h j
end Pg
namespace Go.Proofs.Ytpocbcohoefojaa
open Go.RowKit Pg

theorem BankAt.chg {W0 w w' : World} {g gr g' gr' : Nat} {l : List Slot} {n : Int} (h : BankAt W0 w g gr l n) (hc : Chg w w' g' gr') (hk : Kept W0 w') (h1 : g ≠ g') (h2 : g ≠ gr') (h3 : gr ≠ g') (h4 : gr ≠ gr') : BankAt W0 w' g gr l n := by
  refine ⟨⟨hk, h.own.2.1, ?_⟩, hc.blk h.blk h1 h2, h.low, h.ne, h.pos, h.le⟩
  rcases h.own.2.2 with ⟨hv, _⟩ | ⟨b, cap, cur, hv, hg, hh, r⟩
  · cases hv
  · have hb : b = gr := by injection hv with e _ _; injection e with e; injection e with e; exact e.symm
    subst hb
    exact .inr ⟨b, cap, cur, hv, hg, hc.blk (b := b) (t := 37) (cs := cur) hh h3 h4, r⟩
def e08 : Ent := ⟨0#128, 0#128, 0, 3⟩
theorem awake8_of (w : World) : Calls Try.prog 36 #[.agg #[.int .u64 0, .int .u64 0, .int .i64 0], .int .i64 3] w (Ret (ev e08) w) := by
  have h := eof_any 0#128 0 3 w
  rwa [show ofE 0#128 0 3 = e08 by unfold ofE e08; rw [show (0#128 &&& maskB (near 0)) = 0#128 by decide +kernel, show maskB (near 0) = 0#128 by decide +kernel, show ((near 0 : Nat) : Int) = 0 by decide +kernel]] at h
theorem awake8_new (w : World) : Calls Try.prog 10 #[.int .i64 2] w (NewPost 2 w) := bnew_yes 2 w (by omega) (by omega)
def a08 : B := BitVec.ofNat 128 (5 * 2 ^ 64)
theorem a08_words : hi a08 = 5 ∧ lo a08 = 0 := by decide +kernel
theorem put08a : putW [z0, z0] ⟨0, ⟨true, e08⟩⟩ = [⟨true, e08⟩, z0] := by
  have : mayW ⟨0, ⟨true, e08⟩⟩ 2 = true := by decide +kernel
  unfold putW; rw [show ((([z0, z0] : List Slot).length : Nat) : Int) = 2 from rfl, this]; rfl
theorem put08b : putW [⟨true, e08⟩, z0] ⟨1, ⟨true, e08⟩⟩ = [⟨true, e08⟩, ⟨true, e08⟩] := by
  have : mayW ⟨1, ⟨true, e08⟩⟩ 2 = true := by decide +kernel
  unfold putW; rw [show ((([⟨true, e08⟩, z0] : List Slot).length : Nat) : Int) = 2 from rfl, this]; rfl
theorem may08a : mayW ⟨0, ⟨true, e08⟩⟩ (2 : Nat) = true := by decide +kernel
theorem may08b : mayW ⟨1, ⟨true, e08⟩⟩ (2 : Nat) = true := by decide +kernel
theorem do08a : doE ⟨0, ⟨true, e08⟩⟩ 2 = 0 := by decide +kernel
theorem do08b : doE ⟨1, ⟨true, e08⟩⟩ 2 = 0 := by decide +kernel
theorem idx08 : idxI (matchS a08) [⟨true, e08⟩, ⟨true, e08⟩] = 0 := by decide +kernel
theorem awake8_do1 {W0 w : World} {g gr : Nat} (h : BankAt W0 w g gr [z0, z0] 0) : Calls Try.prog 13 #[.pointer (some ⟨g, 0, none⟩), wrv ⟨0, ⟨true, e08⟩⟩] w (fun e w2 => e = .returned (.int .i64 0) ∧ Chg w w2 g gr ∧ BankAt W0 w2 g gr [⟨true, e08⟩, z0] 1) :=
  (bdo_any h (by omega) (by omega) _).mono fun _ _ ⟨he, hc, hb⟩ => by
    rw [put08a] at hb
    exact ⟨he.trans (by rw [show ([z0, z0] : List Slot).length = 2 from rfl, do08a]), hc, by rwa [show ([z0, z0] : List Slot).length = 2 from rfl, may08a] at hb⟩
theorem awake8_do2 {W0 w : World} {g gr : Nat} (h : BankAt W0 w g gr [⟨true, e08⟩, z0] 1) : Calls Try.prog 13 #[.pointer (some ⟨g, 0, none⟩), wrv ⟨1, ⟨true, e08⟩⟩] w (fun e w2 => e = .returned (.int .i64 0) ∧ Chg w w2 g gr ∧ BankAt W0 w2 g gr [⟨true, e08⟩, ⟨true, e08⟩] 2) :=
  (bdo_any h (by omega) (by omega) _).mono fun _ _ ⟨he, hc, hb⟩ => by
    rw [put08b] at hb
    exact ⟨he.trans (by rw [show ([⟨true, e08⟩, z0] : List Slot).length = 2 from rfl, do08b]), hc, by rwa [show ([⟨true, e08⟩, z0] : List Slot).length = 2 from rfl, may08b] at hb⟩
theorem awake8_search {W0 w : World} {g gr : Nat} (h : BankAt W0 w g gr [⟨true, e08⟩, ⟨true, e08⟩] 2) : Calls Try.prog 21 #[.pointer (some ⟨g, 0, none⟩), .agg #[.int .u64 5, .int .u64 0]] w (Ret (.tuple #[.int .i64 0, .bool true]) w) := by
  have := bsearch_any h a08
  rw [idx08] at this
  obtain ⟨e0, e1⟩ := a08_words
  unfold av at this
  rw [e0, e1] at this
  exact this
theorem awake8_free {v : Value} (w : World) (h : Els w v 7 Slot.cells [⟨true, e08⟩, ⟨true, e08⟩]) : Calls Try.prog 26 #[v] w (Ret (.int .i64 0) w) := by
  have := bfree_any w h (by simp)
  rwa [show ((([⟨true, e08⟩, ⟨true, e08⟩] : List Slot).length : Nat) : Int) - (((entsS [⟨true, e08⟩, ⟨true, e08⟩]).length : Nat) : Int) = 0 by decide +kernel] at this
set_option maxHeartbeats 1000000 in
set_option maxRecDepth 100000 in
theorem awake8_ok (w : World) : Calls Try.prog 11 #[] w (Ret (.bool true) w) := by
  go_enter Try.func11, Try.ntmps11
  go_wp2_with (first | (go_at_call 10; refine (awake8_new _).mono ?_; rintro e w1 ⟨g, gr, rfl, hk1, hB1⟩; have HB1 := Lib.hid hB1; have HK1 := Lib.hid hk1; clear hB1 hk1) | (go_at_call 36; first | ((refine (calls_in (awake8_of _)).mono ?_); rintro e w1 ⟨rfl, q1, rfl⟩) | ((refine (awake8_of _).mono ?_); rintro e w1 ⟨rfl, q1, rfl⟩)))
  obtain ⟨gx, hgx⟩ : ∃ gx, gx = (ext w1 q1).heap.size := ⟨_, rfl⟩
  rw [← hgx]
  have HX := Lib.hid (Blk.new' (ext w1 q1) 37 #[.bool true, .int .u64 (hi e08.x), .int .u64 (lo e08.x), .int .u64 (hi e08.m), .int .u64 (lo e08.m), .int .i64 e08.len, .int .i64 e08.act] hgx)
  have hIc := IsBlk.cell (g := gx) (t := 37) (cs := #[.bool true, .int .u64 (hi e08.x), .int .u64 (lo e08.x), .int .u64 (hi e08.m), .int .u64 (lo e08.m), .int .i64 e08.len, .int .i64 e08.act])
  have hne : Nonempty (In (IsBlk gx 37 #[.bool true, .int .u64 (hi e08.x), .int .u64 (lo e08.x), .int .u64 (hi e08.m), .int .u64 (lo e08.m), .int .i64 e08.len, .int .i64 e08.act])) := ⟨⟨_, HX.out⟩⟩
  have HG := Lib.hid (show gx ≠ g ∧ gx ≠ gr by
    have h1 := HB1.out.blk.lt
    have h2 := (HB1.out.own.2.lt gr rfl).2
    have h3 := ext_size w1 q1
    omega)
  have HB2 := Lib.hid (HB1.out.kept ((Kept.alloc (below_ext w1 q1) (.cells #[.bool true, .int .u64 (hi e08.x), .int .u64 (lo e08.x), .int .u64 (hi e08.m), .int .u64 (lo e08.m), .int .i64 e08.len, .int .i64 e08.act] 37)).drawn1))
  clear hgx HB1
  refine region_seq_in (IsBlk gx 37 #[.bool true, .int .u64 (hi e08.x), .int .u64 (lo e08.x), .int .u64 (hi e08.m), .int .u64 (lo e08.m), .int .i64 e08.len, .int .i64 e08.act]) (HX.out.kept (Kept.drawn1 (Kept.refl _))) mixed (by kernel_rfl) (by kernel_rfl) ?_
  intro W1 hW1
  have HX1 := Lib.hid (HX.out.kept (Kept.drawn1 (Kept.refl _)))
  rw [← hW1] at HX1 HB2
  clear hW1 HX HK1
  repeat (refine seq_plain (by rfl) ?_; go_big_quiet_step (fail); refine wpQuiet_nil ?_)
  refine seq_move (by rfl) (by rfl) ?_
  go_wp2_with fail
  refine (awake8_do1 HB2.out).mono ?_
  rintro e W2 ⟨rfl, hc2, hb2⟩
  have HX2 := Lib.hid (hc2.blk HX1.out HG.out.1 HG.out.2)
  have HB3 := Lib.hid hb2
  clear hc2 hb2 HB2 HX1
  go_wp2_with fail
  refine ⟨_, rfl, ⟨⟨_, HX2.out⟩, rfl⟩, ?_⟩
  repeat (refine seq_plain (by rfl) ?_; go_big_quiet_step (fail); refine wpQuiet_nil ?_)
  refine seq_move (by rfl) (by rfl) ?_
  go_wp2_with fail
  refine (awake8_do2 HB3.out).mono ?_
  rintro e W3 ⟨rfl, hc3, hb3⟩
  have HX3 := Lib.hid (hc3.blk HX2.out HG.out.1 HG.out.2)
  have HB4 := Lib.hid hb3
  clear hc3 hb3 HB3 HX2
  go_wp2_with fail
  refine ⟨_, rfl, ⟨⟨_, HX3.out⟩, rfl⟩, ?_⟩
  repeat (refine seq_plain (by rfl) ?_; go_big_quiet_step (fail); refine wpQuiet_nil ?_)
  refine seq_nil ?_
  clear HX3 hIc hne
  go_wp2_with (first | (go_at_call 21; refine (awake8_search HB4.out).mono ?_; rintro e w1 ⟨rfl, q1, rfl⟩) | (go_at_call 16; refine (bwrites_any (HB4.out.kept (below_ext _ _))).mono ?_; rintro e w1 ⟨rfl, q1, rfl⟩) | (go_at_call 18; refine (bslots_any (HB4.out.kept (by simp (maxDischargeDepth := 99)))).mono ?_; rintro e w5 hR; obtain ⟨a1, c1, rfl, hlc1, hown1, hels1⟩ := RetEls.out2 Slot.cells_len hR; have HE1 := Lib.hid hels1; have hk5 := Lib.hid ((HB4.out.kept (by simp (maxDischargeDepth := 99))).own.1.trans hown1.1); clear hown1 hels1 hR) | (go_at_call 26; first | ((refine (calls_in (awake8_free _ HE1.out)).mono ?_); rintro e w1 ⟨rfl, q1, rfl⟩) | ((refine (awake8_free _ HE1.out).mono ?_); rintro e w1 ⟨rfl, q1, rfl⟩)))
  go_ret
  exact Ret.of (rfl) (by simp (maxDischargeDepth := 99) [hk5.out])
end Go.Proofs.Ytpocbcohoefojaa
