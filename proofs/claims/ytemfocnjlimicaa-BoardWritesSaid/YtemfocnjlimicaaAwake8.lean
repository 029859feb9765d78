/- The statements of layer 8: what each asks of two slots besides. -/
import Derived.Test.YtemfocnjlimicaaBank13
import Derived.Test.YtemfocnjlimicaaEnt
namespace Pg
open Go
/-- A block stands. -/
def IsBlk (g : Nat) (t : TypeId) (cs : Array Value) (w : World) : Prop := Blk w g t cs
theorem IsBlk.cell {g : Nat} {t : TypeId} {cs : Array Value} (x : In (IsBlk g t cs)) (j : Nat) : x.w.cell? ⟨g, j, none⟩ = cs[j]? := Blk.cell x.h j
end Pg
namespace Go.Proofs.Ytemfocnjlimicaa
open Go.RowKit Pg

theorem BankAt.chg {W0 w w' : World} {g gr g' gr' : Nat} {l : List Slot} {n : Int} (h : BankAt W0 w g gr l n) (hc : Chg w w' g' gr') (hk : Kept W0 w') (h1 : g ≠ g') (h2 : g ≠ gr') (h3 : gr ≠ g') (h4 : gr ≠ gr') : BankAt W0 w' g gr l n := by
  refine ⟨⟨hk, h.own.2.1, ?_⟩, hc.blk h.blk h1 h2, h.low, h.ne, h.pos, h.le⟩
  rcases h.own.2.2 with ⟨hv, _⟩ | ⟨b, cap, cur, hv, hg, hh, r⟩
  · cases hv
  · have hb : b = gr := by injection hv with e _ _; injection e with e; injection e with e; exact e.symm
    subst hb
    exact .inr ⟨b, cap, cur, hv, hg, hc.blk (b := b) (t := 50) (cs := cur) hh h3 h4, r⟩
def e08 : Ent := ⟨0#128, 0#128, 0, 3⟩
theorem awake8_of (w : World) : Calls Try.prog 31 #[.agg #[.int .u64 0, .int .u64 0, .int .i64 0], .int .i64 3] w (Ret (ev e08) w) := by
  have h := eof_any 0#128 0 3 w
  rwa [show ofE 0#128 0 3 = e08 by unfold ofE e08; rw [show (0#128 &&& maskB (near 0)) = 0#128 by decide +kernel, show maskB (near 0) = 0#128 by decide +kernel, show ((near 0 : Nat) : Int) = 0 by decide +kernel]] at h
theorem awake8_new (w : World) : Calls Try.prog 16 #[.int .i64 2] w (NewPost 2 w) := bnew_yes 2 w (by omega) (by omega)
def a08 : B := BitVec.ofNat 128 (5 * 2 ^ 64)
theorem a08_words : hi a08 = 5 ∧ lo a08 = 0 := by decide +kernel
theorem put08a : putW [z0, z0] ⟨0, ⟨true, e08⟩⟩ = [⟨true, e08⟩, z0] := by
  have : mayW ⟨0, ⟨true, e08⟩⟩ 2 = true := by decide +kernel
  unfold putW; rw [show ((([z0, z0] : List Slot).length : Nat) : Int) = 2 from rfl, this]; rfl
theorem put08b : putW [⟨true, e08⟩, z0] ⟨1, ⟨true, e08⟩⟩ = [⟨true, e08⟩, ⟨true, e08⟩] := by
  have : mayW ⟨1, ⟨true, e08⟩⟩ 2 = true := by decide +kernel
  unfold putW; rw [show ((([⟨true, e08⟩, z0] : List Slot).length : Nat) : Int) = 2 from rfl, this]; rfl
theorem may08a : mayW ⟨0, ⟨true, e08⟩⟩ (2 : Nat) = true := by decide +kernel
theorem may08b : mayW ⟨1, ⟨true, e08⟩⟩ (2 : Nat) = true := by decide +kernel
theorem do08a : doE ⟨0, ⟨true, e08⟩⟩ 2 = 0 := by decide +kernel
theorem do08b : doE ⟨1, ⟨true, e08⟩⟩ 2 = 0 := by decide +kernel
theorem idx08 : idxI (matchS a08) [⟨true, e08⟩, ⟨true, e08⟩] = 0 := by decide +kernel
theorem awake8_do1 {W0 w : World} {g gr : Nat} (h : BankAt W0 w g gr [z0, z0] 0) : Calls Try.prog 18 #[.pointer (some ⟨g, 0, none⟩), wrv ⟨0, ⟨true, e08⟩⟩] w (fun e w2 => e = .returned (.int .i64 0) ∧ Chg w w2 g gr ∧ BankAt W0 w2 g gr [⟨true, e08⟩, z0] 1) :=
  (bdo_any h (by omega) (by omega) _).mono fun _ _ ⟨he, hc, hb⟩ => by
    rw [put08a] at hb
    exact ⟨he.trans (by rw [show ([z0, z0] : List Slot).length = 2 from rfl, do08a]), hc, by rwa [show ([z0, z0] : List Slot).length = 2 from rfl, may08a] at hb⟩
theorem awake8_do2 {W0 w : World} {g gr : Nat} (h : BankAt W0 w g gr [⟨true, e08⟩, z0] 1) : Calls Try.prog 18 #[.pointer (some ⟨g, 0, none⟩), wrv ⟨1, ⟨true, e08⟩⟩] w (fun e w2 => e = .returned (.int .i64 0) ∧ Chg w w2 g gr ∧ BankAt W0 w2 g gr [⟨true, e08⟩, ⟨true, e08⟩] 2) :=
  (bdo_any h (by omega) (by omega) _).mono fun _ _ ⟨he, hc, hb⟩ => by
    rw [put08b] at hb
    exact ⟨he.trans (by rw [show ([⟨true, e08⟩, z0] : List Slot).length = 2 from rfl, do08b]), hc, by rwa [show ([⟨true, e08⟩, z0] : List Slot).length = 2 from rfl, may08b] at hb⟩
theorem awake8_search {W0 w : World} {g gr : Nat} (h : BankAt W0 w g gr [⟨true, e08⟩, ⟨true, e08⟩] 2) : Calls Try.prog 37 #[.pointer (some ⟨g, 0, none⟩), .agg #[.int .u64 5, .int .u64 0]] w (Ret (.tuple #[.int .i64 0, .bool true]) w) := by
  have := bsearch_any h a08
  rw [idx08] at this
  obtain ⟨e0, e1⟩ := a08_words
  unfold av at this
  rw [e0, e1] at this
  exact this
end Go.Proofs.Ytemfocnjlimicaa
