/- Rows of 128 bools in memory: as cells; what they read as. Plain facts on memory, no program. -/
import Derived.Test.YtemfocnjlimicaaKit0
import Derived.Test.YtemfocnjlimicaaMath2
namespace Pg
open Go Go.RowKit

/-- 128 cells that hold f. -/
def bitCells (f : Nat → Bool) : Array Value := ((List.range 128).map fun k => Value.bool (f k)).toArray
@[go_sem, simp] theorem bitCells_size (f : Nat → Bool) : (bitCells f).size = 128 := by simp [bitCells]
theorem bitCells_get (f : Nat → Bool) (k : Nat) (h : k < 128) : (bitCells f)[k]? = some (.bool (f k)) := by simp [bitCells, h]
def upd (f : Nat → Bool) (j : Nat) (b : Bool) : Nat → Bool := fun k => if k = j then b else f k
theorem upd_same (f : Nat → Bool) (j : Nat) (b : Bool) : upd f j b j = b := by simp [upd]
theorem upd_other (f : Nat → Bool) (j : Nat) (b : Bool) (k : Nat) (h : k ≠ j) : upd f j b k = f k := by simp [upd, h]
theorem bitCells_set (f : Nat → Bool) (j : Nat) (b : Bool) : (bitCells f).setIfInBounds j (.bool b) = bitCells (upd f j b) := by
  apply Array.ext_getElem?
  intro i
  unfold bitCells upd
  rw [Array.getElem?_setIfInBounds]
  by_cases hj : j = i
  · rw [if_pos hj, ← hj]
    by_cases hi : j < 128
    · simp [hi]
    · simp [hi]
  · rw [if_neg hj]
    by_cases hi : i < 128
    · simp [hi, Ne.symm hj]
    · simp [hi]
theorem bitCells_congr {f g : Nat → Bool} (h : ∀ k, k < 128 → f k = g k) : bitCells f = bitCells g := by
  unfold bitCells; congr 1; apply List.map_congr_left; intro k hk; rw [h k (by simpa using hk)]

/-- Block g is just the cells cs, none frozen. -/
def Blk (w : World) (g : Nat) (t : TypeId) (cs : Array Value) : Prop := w.heap[g]? = some (.cells cs t (0, 0))
section
variable {w w' : World} {g : Nat} {t : TypeId} {cs : Array Value}
theorem Blk.lt (h : Blk w g t cs) : g < w.heap.size := by
  rcases Nat.lt_or_ge g w.heap.size with hlt | hge
  · exact hlt
  · unfold Blk at h; rw [Array.getElem?_eq_none hge] at h; cases h
theorem Blk.cell (h : Blk w g t cs) (i : Nat) : w.cell? ⟨g, i, none⟩ = cs[i]? := cell_of_row w g i cs t (0, 0) h
theorem Blk.frozen (h : Blk w g t cs) (i : Nat) : w.frozen? ⟨g, i, none⟩ = false := by
  unfold Blk at h
  simp [World.frozen?, h]
theorem Blk.new (w : World) (t : TypeId) (cs : Array Value) : Blk (w.alloc (.cells cs t)) w.heap.size t cs := heap_alloc_new w _
theorem Blk.new' (w : World) (t : TypeId) (cs : Array Value) {g : Nat} (hg : g = w.heap.size) : Blk (w.alloc (.cells cs t)) g t cs := by rw [hg]; exact heap_alloc_new w _
theorem Blk.alloc (h : Blk w g t cs) (o : Obj) : Blk (w.alloc o) g t cs := (Below.heap_alloc w o g h.lt).trans h
theorem Blk.ext (h : Blk w g t cs) (p : Regrown) : Blk (Pg.ext w p) g t cs := (ext_heap w p g h.lt).trans h
theorem Blk.far (h : Blk w g t cs) {p : Addr} (hp : g ≠ p.block) (u : Value) : Blk (w.setCell p u) g t cs := (Below.heap_setCell w p u g hp).trans h
theorem Blk.set_ (h : Blk w g t cs) (i : Nat) (u : Value) : Blk (w.setCell ⟨g, i, none⟩ u) g t (cs.setIfInBounds i u) := by
  unfold Blk at h ⊢
  simp [World.setCell, Array.getElem?_modify, h]
theorem Blk.kept (h : Blk w g t cs) (hk : Kept w w') : Blk w' g t cs := (hk.block g h.lt).trans h
end
/-- A slice of 128 bools that hold f, in a block of its own. -/
def IsBits (w : World) (g : Nat) (t : TypeId) (f : Nat → Bool) : Prop := Blk w g t (bitCells f)
theorem IsBits.cell {w : World} {g : Nat} {t : TypeId} {f : Nat → Bool} (h : IsBits w g t f) (k : Nat) (hk : k < 128) : w.cell? ⟨g, k, none⟩ = some (.bool (f k)) := by
  rw [Blk.cell h k, bitCells_get f k hk]
theorem IsBits.kept {w w' : World} {g : Nat} {t : TypeId} {f : Nat → Bool} (h : IsBits w g t f) (hk : Kept w w') : IsBits w' g t f := Blk.kept h hk
/-- A call hands back a new slice of 128 bools. -/
def RetBits (t : TypeId) (f : Nat → Bool) (w : World) (e : Ending) (w' : World) : Prop :=
  ∃ g, e = .returned (.slice (some ⟨g, 0, none⟩) 128 128) ∧ w.heap.size ≤ g ∧ IsBits w' g t f ∧ ∃ p, w' = ext w p

theorem calls_bits_any {P : Program} {f : FuncId} {args : Array Value} {w : World} {t : TypeId} {h : Nat → Bool} (hc : Calls P f args w (RetBits t h w)) :
    Calls P f args w fun e w'' => ∃ g, e = .returned (.slice (some ⟨g, 0, none⟩) 128 128) ∧ w.heap.size ≤ g ∧ IsBits w'' g t h ∧ ∃ q, w'' = ext w q :=
  hc.mono fun _ _ h => h
theorem calls_in_bits {P : Program} {f : FuncId} {args : Array Value} {w : World} {p : Regrown} {t : TypeId} {h : Nat → Bool} (hc : Calls P f args (ext w p) (RetBits t h (ext w p))) :
    Calls P f args (ext w p) fun e w'' => ∃ g, e = .returned (.slice (some ⟨g, 0, none⟩) 128 128) ∧ (ext w p).heap.size ≤ g ∧ IsBits w'' g t h ∧ ∃ q, w'' = ext w q ∧ Kept (ext w p) (ext w q) :=
  hc.mono fun _ _ ⟨g, he, hg, hb, q, hq⟩ => by
    obtain ⟨r, hr⟩ := ext_ext w p q
    refine ⟨g, he, hg, hb, r, by rw [hq, hr], ?_⟩
    rw [← hr]; exact below_ext _ _

/-! a word out of its bits -/
theorem hi_step (x : B) (k : Nat) (h : k < 64) : hiN x / 2 ^ (63 - k) = hiN x / 2 ^ (64 - k) * 2 + (bt x k).toNat := by
  rw [← hiN_testBit x k h, Nat.testBit_eq_decide_div_mod_eq, show 64 - k = 63 - k + 1 by omega, Nat.pow_succ, ← Nat.div_div_eq_div_mul]
  by_cases c : hiN x / 2 ^ (63 - k) % 2 = 1 <;> simp [c] <;> omega
theorem lo_step (x : B) (k : Nat) (h : k < 64) : loN x / 2 ^ (63 - k) = loN x / 2 ^ (64 - k) * 2 + (bt x (64 + k)).toNat := by
  rw [← loN_testBit x k h, Nat.testBit_eq_decide_div_mod_eq, show 64 - k = 63 - k + 1 by omega, Nat.pow_succ, ← Nat.div_div_eq_div_mul]
  by_cases c : loN x / 2 ^ (63 - k) % 2 = 1 <;> simp [c] <;> omega
theorem part_small (n k : Nat) (h : k < 64) (hn : n < 18446744073709551616) : n / 2 ^ (64 - k) < 9223372036854775808 := by
  have h1 : (2 : Nat) ≤ 2 ^ (64 - k) := by have h3 := Nat.pow_le_pow_right (show 0 < 2 by decide) (show 1 ≤ 64 - k by omega); simpa using h3
  have h2 : n / 2 ^ (64 - k) ≤ n / 2 := Nat.div_le_div_left h1 (by omega)
  omega
/-- The two words behind the first k bits. -/
def wordsAt (x : B) (k : Nat) : Nat × Nat := if k ≤ 64 then (hiN x / 2 ^ (64 - k), 0) else (hiN x, loN x / 2 ^ (128 - k))

theorem words_lt_hi {x : B} {k p q : Nat} (h : (p, q) = wordsAt x k) (hk : k < 64) : p < 9223372036854775808 := by
  unfold wordsAt at h; rw [if_pos (by omega)] at h; injection h with h1 h2; rw [h1]; exact part_small _ _ hk (hiN_lt x)
theorem words_lt_lo {x : B} {k p q : Nat} (h : (p, q) = wordsAt x k) (hk : 64 ≤ k) (hk' : k < 128) : q < 9223372036854775808 := by
  unfold wordsAt at h
  split at h
  · injection h with h1 h2; omega
  · injection h with h1 h2; rw [h2, show 128 - k = 64 - (k - 64) by omega]; exact part_small _ _ (by omega) (loN_lt x)
theorem words_step_hi {x : B} {k p q : Nat} (h : (p, q) = wordsAt x k) (hk : k < 64) : (p * 2 + (bt x k).toNat, q) = wordsAt x (k + 1) := by
  unfold wordsAt at *
  rw [if_pos (by omega)] at h ⊢
  injection h with h1 h2
  rw [h1, h2, show 64 - (k + 1) = 63 - k by omega, hi_step x k hk]
theorem words_step_lo {x : B} {k p q : Nat} (h : (p, q) = wordsAt x k) (hk : 64 ≤ k) (hk' : k < 128) : (p, q * 2 + (bt x k).toNat) = wordsAt x (k + 1) := by
  have hs := lo_step x (k - 64) (by omega)
  rw [show 64 + (k - 64) = k by omega, show 63 - (k - 64) = 127 - k by omega, show 64 - (k - 64) = 128 - k by omega] at hs
  unfold wordsAt at *
  rw [if_neg (show ¬ k + 1 ≤ 64 by omega), show 128 - (k + 1) = 127 - k by omega, hs]
  by_cases e : k = 64
  · subst e
    rw [if_pos (by omega)] at h
    injection h with h1 h2
    rw [h1, h2, Nat.div_eq_of_lt (loN_lt x)]; simp
  · rw [if_neg (by omega)] at h
    injection h with h1 h2
    rw [h1, h2]
theorem words_end {x : B} {p q : Nat} (h : (p, q) = wordsAt x 128) : (p : Int) = hi x ∧ (q : Int) = lo x := by
  unfold wordsAt at h; rw [if_neg (by omega)] at h; injection h with h1 h2
  rw [h1, h2]; simp [hi, lo]

/-- The bits of one word, written from the last one on: the number that is left. -/
theorem bit_of_rest (n k : Nat) (_h : k < 64) : decide (n / 2 ^ (63 - k) % 2 = 1) = n.testBit (63 - k) := by
  rw [Nat.testBit_eq_decide_div_mod_eq]
end Pg
