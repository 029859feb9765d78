/- A bank: two blocks; New, Read, Search, Slots. -/
import Derived.Test.YtpocbcohoefojaaBank8
import Derived.Laws.OwnMore
import Derived.Laws.CopyRow
namespace Pg
open Go Go.RowKit Go.Sort
def z0 : Slot := ⟨false, 0#128, 0#128, 0, 0⟩
theorem made_flat {α : Type} {k : Nat} {enc : α → List Value} (hk : ∀ x, (enc x).length = k) (x : α) (n : Nat) : madeCells (enc x).toArray (n * k) = ((List.replicate n x).flatMap enc).toArray := by
  apply Array.ext
  · rw [size_madeCells]; simp [hk]
  · intro i h1 h2
    rw [size_madeCells] at h1
    have hk0 : 0 < k := by
      rcases Nat.eq_zero_or_pos k with h | h
      · subst h; omega
      · exact h
    obtain ⟨h3, h4⟩ := flat_get' hk (List.replicate n x) i (by simpa using h1)
    have h5 : i % k < (enc x).length := by rw [hk]; exact Nat.mod_lt _ hk0
    have h6 : i < ((List.replicate n x).flatMap enc).length := by simpa using h2
    rw [List.getElem?_eq_getElem h6, List.getElem_replicate, List.getElem?_eq_getElem h5] at h4
    injection h4 with h4
    simp only [List.getElem_toArray]
    rw [h4]
    simp only [madeCells, Array.getElem_map, Array.getElem_range, List.size_toArray, hk]
    rw [getElem!_pos (enc x).toArray (i % k) (by simpa using h5)]
    simp
/-- What changes: blocks g and gr alone; blocks may have been laid. -/
structure Chg (w w' : World) (g gr : Nat) : Prop where
  os : w'.os = w.os
  tape : w'.tape = w.tape
  output : w'.output = w.output
  size : w.heap.size ≤ w'.heap.size
  block : ∀ k, k < w.heap.size → k ≠ g → k ≠ gr → w'.heap[k]? = w.heap[k]?
theorem Chg.of {w w' : World} (g gr : Nat) (h : Kept w w') : Chg w w' g gr := ⟨h.os, h.tape, h.output, h.size, fun k hk _ _ => h.block k hk⟩
theorem Chg.kept {W0 w w' : World} {g gr : Nat} (h : Chg w w' g gr) (hk : Kept W0 w) (h1 : W0.heap.size ≤ g) (h2 : W0.heap.size ≤ gr) : Kept W0 w' :=
  ⟨h.os.trans hk.os, h.tape.trans hk.tape, h.output.trans hk.output, Nat.le_trans hk.size h.size, fun k hk' => (h.block k (Nat.lt_of_lt_of_le hk' hk.size) (by omega) (by omega)).trans (hk.block k hk')⟩
theorem Chg.blk {w w' : World} {g gr b : Nat} {t : TypeId} {cs : Array Value} (h : Chg w w' g gr) (hb : Blk w b t cs) (h1 : b ≠ g) (h2 : b ≠ gr) : Blk w' b t cs := by
  unfold Blk at *
  rw [h.block b (by
    rcases Nat.lt_or_ge b w.heap.size with h3 | h3
    · exact h3
    · rw [Array.getElem?_eq_none h3] at hb; cases hb) h1 h2]
  exact hb
theorem Chg.trans {w w' w2 : World} {g gr : Nat} (h : Chg w w' g gr) (h' : Chg w' w2 g gr) : Chg w w2 g gr :=
  ⟨h'.os.trans h.os, h'.tape.trans h.tape, h'.output.trans h.output, Nat.le_trans h.size h'.size, fun k hk h1 h2 => (h'.block k (Nat.lt_of_lt_of_le hk h.size) h1 h2).trans (h.block k hk h1 h2)⟩
theorem Chg.setCell {w w' : World} {g gr : Nat} (h : Chg w w' g gr) (b o : Nat) (hb : b = g ∨ b = gr) (u : Value) : Chg w (w'.setCell ⟨b, o, none⟩ u) g gr :=
  ⟨h.os, h.tape, h.output, by simpa using h.size, fun k hk h1 h2 => (Below.heap_setCell w' ⟨b, o, none⟩ u k (by simp; omega)).trans (h.block k hk h1 h2)⟩
theorem Els.chg {α : Type} {w w' : World} {g gr k : Nat} {enc : α → List Value} {l : List α} {v : Value} (h : Els w v k enc l) (hc : Chg w w' g gr) (h1 : v.ownBlock ≠ some g) (h2 : v.ownBlock ≠ some gr) : Els w' v k enc l := by
  obtain ⟨a, c, rfl, hc', h⟩ := h
  refine ⟨a, c, rfl, hc', fun h0 => ?_⟩
  obtain ⟨b, o, rfl, hb, hcell⟩ := h h0
  refine ⟨b, o, rfl, Nat.lt_of_lt_of_le hb hc.size, fun i hi j hj => ?_⟩
  have hbl : w'.heap[b]? = w.heap[b]? := hc.block b hb (fun hr => h1 (by rw [← hr]; rfl)) (fun hr => h2 (by rw [← hr]; rfl))
  exact (World.cell?_of_block (a := ⟨b, o + i * k + j, none⟩) hbl).trans (hcell i hi j hj)
/-- 'copy(d, s)': s as long as d, d a block of its own. -/
theorem run_copy_els {P : Program} {α : Type} {enc : α → List Value} {w : World} (dT sT ty : TypeId) (e : TypeId) (size : Nat) (hu : P.underlying dT = some (.slice e)) (hs : (P.info? e).map (·.size) = some size)
    (hsz : 0 < size) (hk : ∀ x : α, (enc x).length = size) (hone : ∀ x : α, ∀ u ∈ enc x, u.oneCell' = true)
    (g : Nat) (cur : Array Value) (c c' : Nat) (l : List α) (b : Addr) (hblk : Blk w g e cur) (hcs : cur.size = l.length * size) (hl : Els w (.slice (some b) l.length c') size enc l) :
    (Builtin.copy_ #[dT, sT] ty #[.slice (some ⟨g, 0, none⟩) l.length c, .slice (some b) l.length c']).run P w = .ok (goInt l.length) (w.setRow g (l.flatMap enc).toArray) := by
  have hlen := flat_len hk l
  have hsrc : ∀ j v, (l.flatMap enc)[j]? = some v → w.cell? (b.add j) = some v := by
    intro j u hu
    have hj : j < l.length * size := by
      have := (List.getElem?_eq_some_iff.1 hu).1
      rwa [flat_len hk] at this
    obtain ⟨h2, h3⟩ := flat_get' hk l j hj
    obtain ⟨b', o', e', hb, hcell⟩ := hl.at_ (j / size) h2
    injection e' with e'
    subst e'
    have h4 := hcell (j % size) (Nat.mod_lt _ hsz)
    rw [← h3, hu] at h4
    have e5 : o' + j / size * size + j % size = o' + j := by rw [Nat.add_assoc, Nat.mul_comm, Nat.div_add_mod]
    rw [e5] at h4
    unfold Addr.add
    split
    · rename_i h0; subst h0; exact h4
    · simpa using h4
  have hld := run_loadCells_list (P := P) w b (l.flatMap enc) hsrc
  have hst := run_storeCells_at P g 0 e (l.flatMap enc) 0 cur w hblk (by rw [hlen, hcs]; omega) (fun v hv => by
    obtain ⟨y, _, hy⟩ := List.mem_flatMap.1 hv
    exact hone y v hy)
  have hfin : (List.take (0 + 0) cur.toList ++ l.flatMap enc ++ List.drop (0 + 0 + (l.flatMap enc).length) cur.toList).toArray = (l.flatMap enc).toArray := by
    rw [List.drop_eq_nil_of_le (by simp [hlen, hcs])]; simp
  rw [hfin] at hst
  cases hq : P.info? e with
  | none => simp [hq] at hs
  | some i =>
    have hi : i.size = size := by simpa [hq] using hs
    have hm : Nat.min l.length l.length = l.length := Nat.min_self _
    rw [hlen] at hld
    simp [Builtin.copy_, run_underlying hu, Builtin.lenOf, Builtin.firstCells, Go.sizeOf, Go.typeInfo, hq, hi, hm, hld, hst]
end Pg
namespace Go.Proofs.Ytpocbcohoefojaa
open Go.RowKit Pg

structure BankAt (W0 w : World) (g gr : Nat) (l : List Slot) (n : Int) : Prop where
  own : Own W0 w 37 7 (.slice (some ⟨gr, 0, none⟩) l.length l.length) l.length (l.flatMap Slot.cells)
  blk : Blk w g 84 #[.slice (some ⟨gr, 0, none⟩) l.length l.length, .int .i64 n]
  low : W0.heap.size ≤ g
  ne : g ≠ gr
  pos : 0 < l.length
  le : l.length ≤ 256
end Go.Proofs.Ytpocbcohoefojaa
