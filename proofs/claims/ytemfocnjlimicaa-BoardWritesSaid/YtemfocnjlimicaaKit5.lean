/- Regions that draw their order, in the text's order, over a class of worlds of the prover's choice. -/
import Derived.Test.YtemfocnjlimicaaKit4
import Derived.Test.YtemfocnjlimicaaEls3
namespace Pg
open Go Go.RowKit Go.Sort

/-- The worlds in which I holds. -/
structure In (I : World → Prop) where
  w : World
  h : I w
section
variable {P : Program}
theorem region_seq_in {id : Nat} {Q : Exit → Act → World → Prop} {a : Act} {w : World} (I : World → Prop) (hI : I { w with drawn := w.drawn + 1 }) {l : List Oper} (hm : P.follows .mixedOrders = true) (hB : Region.lexB .any l.toArray = true) (hM : movesB .any l.toArray = true)
    (h : ∀ w1, w1 = { w with drawn := w.drawn + 1 } → seqE P l.toArray (fun w' => ∃ t : In I, w' = t.w) (fun a' w' => Q .normal a' w') l a w1) : (Code.region id l.toArray true).wp P Q a w := by
  simp only [Region.lexB, Bool.and_eq_true] at hB
  refine wp_region_any hm ?_
  refine wpAny_of_anyE (C := fun w' => ∃ t : In I, w' = t.w) (Q := fun a' w' => Q .normal a' w') (fun _ _ _ h => h) _ _ _ _ ⟨⟨_, hI⟩, rfl⟩ ?_
  have inv0 : HeadInv .any l.toArray l.toArray.size (Array.replicate l.toArray.size false) :=
    ⟨by simp, fun j oj _ hl => (by rw [getD_replicate_false] at hl; cases hl), fun t h1 h2 => by omega⟩
  have := anyE_lex (C := fun w' => ∃ t : In I, w' = t.w) (md := .any) (Q := fun a' w' => Q .normal a' w') hB.1 (chain_of hM) l 0 (Array.replicate l.toArray.size false) a _ ⟨⟨_, hI⟩, rfl⟩ (by simp) inv0 (fun m hm => by omega) (by simpa using hB.2) (h _ rfl)
  simpa using this
end
theorem Kept.drawn1 {w0 w : World} (h : Kept w0 w) : Kept w0 { w with drawn := w.drawn + 1 } := ⟨h.os, h.tape, h.output, h.size, h.block⟩
theorem Own.drawn1 {W0 w : World} {e : TypeId} {size n : Nat} {v : Value} {xs : List Value} (h : Own W0 w e size v n xs) : Own W0 { w with drawn := w.drawn + 1 } e size v n xs := h.step (Kept.drawn1 (Kept.refl w))
theorem Blk.grown {w w' : World} {g : Nat} {t : TypeId} {cs : Array Value} {row : Option Nat} (h : Blk w g t cs) (hg : w.grownBy w' row) (hne : row ≠ some g) : Blk w' g t cs := by
  have := hg.block g h.lt (fun e => hne e.symm)
  unfold Blk at *
  rw [this]; exact h
/-- What was there in W stands, and a block. -/
structure HasBlk (W : World) (g : Nat) (t : TypeId) (cs : Array Value) (w : World) : Prop where
  kept : Kept W w
  blk : Blk w g t cs
theorem HasBlk.cell {W : World} {g : Nat} {t : TypeId} {cs : Array Value} (x : In (HasBlk W g t cs)) (j : Nat) : x.w.cell? ⟨g, j, none⟩ = cs[j]? := x.h.blk.cell j
theorem HasBlk.lt {W : World} {g : Nat} {t : TypeId} {cs : Array Value} (x : In (HasBlk W g t cs)) : (g < x.w.heap.size) = True := eq_true x.h.blk.lt
theorem HasBlk.step {W w w' : World} {g : Nat} {t : TypeId} {cs : Array Value} (h : HasBlk W g t cs w) (hk : Kept w w') : HasBlk W g t cs w' := ⟨h.kept.trans hk, h.blk.kept hk⟩
end Pg
