/- A bank: Do, Copy. -/
import Derived.Test.YtemfocnjlimicaaBank11
namespace Pg
open Go
def doE (x : Wr) (n : Nat) : Int := if x.at_ < 0 ∨ (n : Int) ≤ x.at_ then 5 else if mayW x n then 0 else 1
theorem doE_slot {x : Wr} {n : Nat} (h : x.at_ < 0 ∨ (n : Int) ≤ x.at_) : doE x n = 5 ∧ mayW x n = false := by
  refine ⟨by unfold doE; rw [if_pos h], ?_⟩
  cases hm : mayW x n
  · rfl
  · have := mayW_at hm; omega
theorem doE_bad {x : Wr} {n : Nat} (h : ¬ (x.at_ < 0 ∨ (n : Int) ≤ x.at_)) (hm : mayW x n = false) : doE x n = 1 := by unfold doE; rw [if_neg h, hm]; rfl
theorem doE_ok {x : Wr} {n : Nat} (hm : mayW x n = true) : doE x n = 0 := by
  have := mayW_at hm
  unfold doE; rw [if_neg (by omega), hm]; rfl
end Pg
namespace Go.Proofs.Ytemfocnjlimicaa
open Go.RowKit Pg

theorem BankAt.kept {W0 w w' : World} {g gr : Nat} {l : List Slot} {n : Int} (h : BankAt W0 w g gr l n) (hk : Kept w w') : BankAt W0 w' g gr l n := ⟨h.own.step hk, h.blk.kept hk, h.low, h.ne, h.pos, h.le⟩
theorem BankAt.base {W0 W w : World} {g gr : Nat} {l : List Slot} {n : Int} (h : BankAt W w g gr l n) (hk : Kept W0 W) : BankAt W0 w g gr l n := ⟨h.own.base hk, h.blk, Nat.le_trans hk.size h.low, h.ne, h.pos, h.le⟩
theorem BankAt.lowr {W0 w : World} {g gr : Nat} {l : List Slot} {n : Int} (h : BankAt W0 w g gr l n) : W0.heap.size ≤ gr := by
  obtain ⟨g2, c2, e, h0, _⟩ := h.own.form h.pos
  injection e with e _ _
  injection e with e
  injection e with e
  omega
def CopyPost (l : List Slot) (n : Int) (w : World) (e : Ending) (w2 : World) : Prop := ∃ g gr, e = .returned (.pointer (some ⟨g, 0, none⟩)) ∧ Kept w w2 ∧ BankAt w w2 g gr l n
set_option maxHeartbeats 1000000 in
set_option maxRecDepth 100000 in
theorem bcopy_any {W0 w : World} {g gr : Nat} {l : List Slot} {n : Int} (h : BankAt W0 w g gr l n) : Calls Try.prog 46 #[.pointer (some ⟨g, 0, none⟩)] w (CopyPost l n w) := by
  obtain ⟨c0, c1, hlt⟩ := Blk.two h.blk
  have HB := Lib.hid h
  have hp := h.pos
  have hle := h.le
  clear h
  go_enter Try.func46, Try.ntmps46
  go_wp2_with fail
  refine region_seq _ (Later.refl _) mixed (by kernel_rfl) (by kernel_rfl) ?_
  intro q9
  refine seq_named fun W1 hW1 => ?_
  have hC := Lib.hid (show ∃ p, W1 = ext _ p from ⟨q9, hW1⟩)
  clear hW1 q9
  repeat (first | (refine seq_plain (by rfl) ?_; go_big_quiet_step (fail); refine wpQuiet_nil ?_))
  refine seq_move (by rfl) (by rfl) ?_
  go_wp2_with fail
  refine (bslots_exact (HB.out.kept (Later.kept hC.out))).mono ?_
  rintro e w1 hR
  obtain ⟨gr1, rfl, hown1⟩ := hR
  have HO := Lib.hid (hown1.base (Later.kept hC.out))
  replace hC := class_kept hC hown1.1
  clear hown1
  go_wp2_with fail
  refine ⟨_, rfl, hC.out, ?_⟩
  repeat (first | (refine seq_plain (by rfl) ?_; go_big_quiet_step (fail); refine wpQuiet_nil ?_))
  refine seq_move (by rfl) (by rfl) ?_
  go_wp2_with fail
  refine ⟨_, rfl, (class_kept hC (Kept.alloc (Kept.refl _) _)).out, ?_⟩
  repeat (first | (refine seq_plain (by rfl) ?_; go_big_quiet_step (fail); refine wpQuiet_nil ?_))
  refine seq_nil ?_
  go_wp2_with fail
  go_ret
  exact ⟨w1.heap.size, gr1, rfl, HO.out.1.alloc _, HO.out.alloc _, Blk.new' _ _ _ rfl, HO.out.1.size, fun e => by have := (HO.out.2.lt gr1 rfl).2; omega, hp, hle⟩
def DoPost (W0 w : World) (g gr : Nat) (l : List Slot) (n : Int) (x : Wr) (e : Ending) (w2 : World) : Prop :=
  e = .returned (.int .i64 (doE x l.length)) ∧ Chg w w2 g gr ∧ BankAt W0 w2 g gr (putW l x) (if mayW x l.length then n + 1 else n)
set_option maxHeartbeats 1000000 in
set_option maxRecDepth 100000 in
theorem bdo_slot {W0 w : World} {g gr : Nat} {l : List Slot} {n : Int} (h : BankAt W0 w g gr l n) (x : Wr) (hx : x.at_ < 0 ∨ (l.length : Int) ≤ x.at_) : Calls Try.prog 18 #[.pointer (some ⟨g, 0, none⟩), wrv x] w (DoPost W0 w g gr l n x) := by
  obtain ⟨e1, e2⟩ := doE_slot hx
  have HP := Lib.hid (fun w2 (hk : Kept w w2) => show DoPost W0 w g gr l n x (.returned (.int .i64 5)) w2 from ⟨by rw [e1], Chg.of g gr hk, by unfold putW; rw [e2]; exact h.kept hk⟩)
  obtain ⟨c0, c1, hlt⟩ := Blk.two h.blk
  clear h e1 e2
  by_cases h1 : x.at_ < 0
  · clear hx
    go_enter Try.func18, Try.ntmps18
    go_wp2_with fail
    refine region_ext _ (by first | exact Later.ext _ _ | exact Later.refl _) mixed (by kernel_rfl) ?_
    repeat (go_big_quiet_step (fail))
    refine wpQuiet_nil ?_
    rintro _ ⟨q, rfl⟩
    go_wp2_with fail
    go_ret
    exact HP.out _ (by simp (maxDischargeDepth := 99))
  · have h2 : (l.length : Int) ≤ x.at_ := by omega
    have h3 : decide (x.at_ < 0) = false := by simpa using h1
    clear hx h1
    go_enter Try.func18, Try.ntmps18
    go_wp2_with fail
    refine region_ext _ (by first | exact Later.ext _ _ | exact Later.refl _) mixed (by kernel_rfl) ?_
    repeat (go_big_quiet_step (fail))
    refine wpQuiet_nil ?_
    rintro _ ⟨q, rfl⟩
    go_wp2_with fail
    go_ret
    exact HP.out _ (by simp (maxDischargeDepth := 99))
set_option maxHeartbeats 1000000 in
set_option maxRecDepth 100000 in
theorem bdo_bad {W0 w : World} {g gr : Nat} {l : List Slot} {n : Int} (h : BankAt W0 w g gr l n) (x : Wr) (hx : ¬ (x.at_ < 0 ∨ (l.length : Int) ≤ x.at_)) (hm : mayW x l.length = false) : Calls Try.prog 18 #[.pointer (some ⟨g, 0, none⟩), wrv x] w (DoPost W0 w g gr l n x) := by
  have e1 := doE_bad hx hm
  have HP := Lib.hid (fun w2 (hk : Kept w w2) => show DoPost W0 w g gr l n x (.returned (.int .i64 1)) w2 from ⟨by rw [e1], Chg.of g gr hk, by unfold putW; rw [hm]; exact h.kept hk⟩)
  obtain ⟨c0, c1, hlt⟩ := Blk.two h.blk
  have HM := Lib.hid (bmay_as hm)
  clear h e1 hm
  have h1 : decide (x.at_ < 0) = false := by simp; omega
  have h2 : decide ((l.length : Int) ≤ x.at_) = false := by simp; omega
  clear hx
  go_enter Try.func18, Try.ntmps18
  go_wp2_with fail
  refine region_ext _ (by first | exact Later.ext _ _ | exact Later.refl _) mixed (by kernel_rfl) ?_
  repeat (go_big_quiet_step (fail))
  refine wpQuiet_nil ?_
  rintro _ ⟨q, rfl⟩
  go_wp2_with fail
  refine region_ext _ (by first | exact Later.ext _ _ | exact Later.refl _) mixed (by kernel_rfl) ?_
  repeat (go_big_quiet_step ((first | (go_at_call 42; exact calls_in (HM.out _)))))
  refine wpQuiet_nil ?_
  rintro _ ⟨q, rfl⟩
  go_wp2_with fail
  go_ret
  exact HP.out _ (by simp (maxDischargeDepth := 99))
end Go.Proofs.Ytemfocnjlimicaa
