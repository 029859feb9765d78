/- Rows of rows: a row of a call's own whose elements are slices that read as lists of slots. -/
import Derived.Test.YtemfocnjlimicaaBank14
namespace Pg
open Go Go.RowKit
/-- v is a row of slices rs, which read as the lists ls; all their blocks lie at s or above. -/
structure RowsAt (W0 w : World) (t : TypeId) (s : Nat) (v : Value) (rs : List Value) (ls : List (List Slot)) : Prop where
  own : Own W0 w t 1 v rs.length rs
  len : rs.length = ls.length
  els : ∀ (i : Nat) (h : i < rs.length) (h' : i < ls.length), Els w rs[i] 7 Slot.cells ls[i]
  low : ∀ g, v.ownBlock = some g → s ≤ g
  far : ∀ r ∈ rs, Apart v r ∧ ∀ g, r.ownBlock = some g → s ≤ g ∧ g < w.heap.size
section
variable {W0 w w1 w2 w' : World} {t : TypeId} {s : Nat} {v v' r : Value} {rs : List Value} {ls : List (List Slot)} {l : List Slot}
theorem RowsAt.nil (hk : Kept W0 w) (t : TypeId) (s : Nat) : RowsAt W0 w t s (.slice none 0 0) [] [] :=
  ⟨Own.nil W0 w hk t 1, rfl, fun i h => absurd h (by simp), fun g h => by simp [Value.ownBlock] at h, fun r h => absurd h (by simp)⟩
theorem RowsAt.kept (h : RowsAt W0 w t s v rs ls) (hk : Kept w w') : RowsAt W0 w' t s v rs ls :=
  ⟨h.own.step hk, h.len, fun i h1 h2 => (h.els i h1 h2).kept hk, h.low, fun r hr => ⟨(h.far r hr).1, fun g hg => ⟨((h.far r hr).2 g hg).1, Nat.lt_of_lt_of_le ((h.far r hr).2 g hg).2 hk.size⟩⟩⟩
theorem RowsAt.chg {g gr : Nat} (h : RowsAt W0 w t s v rs ls) (hc : Chg w w' g gr) (hk : Kept W0 w') (h1 : g < s) (h2 : gr < s) : RowsAt W0 w' t s v rs ls := by
  refine ⟨⟨hk, h.own.2.1, ?_⟩, h.len, fun i h3 h4 => (h.els i h3 h4).chg hc (fun e => ?_) (fun e => ?_), h.low, fun r hr => ⟨(h.far r hr).1, fun g hg => ⟨((h.far r hr).2 g hg).1, Nat.lt_of_lt_of_le ((h.far r hr).2 g hg).2 hc.size⟩⟩⟩
  · rcases h.own.2.2 with hv | ⟨b, cap, cur, hv, hg, hh, hr⟩
    · exact .inl hv
    · have hb : s ≤ b := h.low b (by rw [hv]; rfl)
      exact .inr ⟨b, cap, cur, hv, hg, hc.blk (b := b) (t := t) (cs := cur) hh (by omega) (by omega), hr⟩
  · have := ((h.far _ (List.getElem_mem h3)).2 g e).1; omega
  · have := ((h.far _ (List.getElem_mem h3)).2 gr e).1; omega
theorem RowsAt.form (h : RowsAt W0 w t s v rs ls) (h0 : 0 < rs.length) : ∃ gw cap, v = .slice (some ⟨gw, 0, none⟩) rs.length cap ∧ rs.length ≤ cap ∧ W0.heap.size ≤ gw ∧ gw < w.heap.size := by
  obtain ⟨g, c, e, h1, h2, h3, _⟩ := h.own.form h0
  exact ⟨g, c, e, h3, h1, h2⟩
theorem RowsAt.cell {gw n cap : Nat} (h : RowsAt W0 w t s (.slice (some ⟨gw, 0, none⟩) n cap) rs ls) (i : Nat) (hi : i < rs.length) : w.cell? ⟨gw, i, none⟩ = some rs[i] := by
  obtain ⟨g, c, e, _, _, _, hc, _⟩ := h.own.form (by omega)
  injection e with e _ _
  injection e with e
  injection e with e
  subst e
  rw [hc i (by omega), List.getElem?_eq_getElem hi]
theorem RowsAt.frozen {gw n cap : Nat} (h : RowsAt W0 w t s (.slice (some ⟨gw, 0, none⟩) n cap) rs ls) (h0 : 0 < rs.length) (q : Nat) : w.frozen? ⟨gw, q, none⟩ = false := by
  obtain ⟨g, c, e, _, _, _, _, hf⟩ := h.own.form h0
  injection e with e _ _
  injection e with e
  injection e with e
  subst e
  exact hf q
theorem RowsAt.push {o : Obj} (h : RowsAt W0 w t s v rs ls) (hk : Kept w w1) (hs : s ≤ w.heap.size) (hr : Els w1 r 7 Slot.cells l) (hrl : ∀ g, r.ownBlock = some g → w.heap.size ≤ g ∧ g < w1.heap.size)
    (ho : Own W0 w2 t 1 v' (rs.length + 1) (rs ++ [r])) (hg : (w1.alloc o).grownBy w2 v.ownBlock) (hv : v'.ownBlock = v.ownBlock ∨ v'.ownBlock = some (w1.alloc o).heap.size) : RowsAt W0 w2 t s v' (rs ++ [r]) (ls ++ [l]) := by
  have hs1 := hk.size
  have hs2 : (w1.alloc o).heap.size = w1.heap.size + 1 := by simp
  have hs3 := hg.size
  have hvl : ∀ q, v.ownBlock = some q → q < w.heap.size := fun q hq => (h.own.2.lt q hq).2
  have hra : Apart v r := fun q hq hq2 => by have := hvl q hq; have := (hrl q hq2).1; omega
  refine ⟨by rw [List.length_append]; exact ho, by simp [h.len], fun i h1 h2 => ?_, fun g hgv => ?_, fun r' hr' => ?_⟩
  · rcases Nat.lt_or_ge i rs.length with h3 | h3
    · have h4 : i < ls.length := by rw [← h.len]; exact h3
      rw [List.getElem_append_left h3, List.getElem_append_left h4]
      exact (((h.els i h3 h4).kept hk).alloc o).grown hg fun q hq => (h.far _ (List.getElem_mem h3)).1 q hq
    · have h4 : i = rs.length := by simp at h1; omega
      subst h4
      have e1 : (rs ++ [r])[rs.length] = r := by simp
      have e2 : (ls ++ [l])[rs.length] = l := by simp [h.len]
      rw [e1, e2]
      exact (hr.alloc o).grown hg fun q hq => hra q hq
  · rcases hv with hv | hv
    · exact h.low g (hv ▸ hgv)
    · rw [hv] at hgv; injection hgv with hgv; omega
  · have key : (∀ q, v.ownBlock = some q → r'.ownBlock ≠ some q) ∧ (∀ g, r'.ownBlock = some g → s ≤ g ∧ g < w1.heap.size) := by
      rcases List.mem_append.1 hr' with hr' | hr'
      · obtain ⟨h1, h2⟩ := h.far r' hr'
        exact ⟨h1, fun g hg => ⟨(h2 g hg).1, Nat.lt_of_lt_of_le (h2 g hg).2 hs1⟩⟩
      · rw [List.mem_singleton.1 hr']
        exact ⟨hra, fun g hg => ⟨Nat.le_trans hs (hrl g hg).1, (hrl g hg).2⟩⟩
    refine ⟨fun q hq hq2 => ?_, fun g hg2 => ⟨(key.2 g hg2).1, by have := (key.2 g hg2).2; omega⟩⟩
    rcases hv with hv | hv
    · exact key.1 q (hv ▸ hq) hq2
    · rw [hv] at hq; injection hq with hq
      have := (key.2 q hq2).2
      omega
theorem RowsAt.set {gw n cap : Nat} (h : RowsAt W0 w t s (.slice (some ⟨gw, 0, none⟩) n cap) rs ls) (hn : n = rs.length) (hk : Kept w w1) (hs : s ≤ w.heap.size) (i : Nat) (hr : Els w1 r 7 Slot.cells l) (hrl : ∀ g, r.ownBlock = some g → w.heap.size ≤ g ∧ g < w1.heap.size) :
    RowsAt W0 (w1.setCell ⟨gw, i, none⟩ r) t s (.slice (some ⟨gw, 0, none⟩) n cap) (rs.set i r) (ls.set i l) := by
  subst hn
  have hs1 := hk.size
  have hgw := h.own.2.lt gw rfl
  have hC : Chg w1 (w1.setCell ⟨gw, i, none⟩ r) gw gw := (Chg.of gw gw (Kept.refl w1)).setCell gw i (.inl rfl) r
  have hra : r.ownBlock ≠ some gw := fun e => by have := (hrl gw e).1; omega
  refine ⟨by rw [List.length_set]; exact (h.own.step hk).stored hgw.1 i r, by simp [h.len], fun j h1 h2 => ?_, h.low, fun r' hr' => ?_⟩
  · rw [List.length_set] at h1 h2
    rw [List.getElem_set, List.getElem_set]
    by_cases hij : i = j
    · rw [if_pos hij, if_pos hij]
      exact hr.chg hC hra hra
    · rw [if_neg hij, if_neg hij]
      have hf := (h.far _ (List.getElem_mem h1)).1 gw rfl
      exact ((h.els j h1 h2).kept hk).chg hC hf hf
  · have hsz : (w1.setCell ⟨gw, i, none⟩ r).heap.size = w1.heap.size := by simp
    rw [hsz]
    rcases List.mem_or_eq_of_mem_set hr' with hr' | rfl
    · obtain ⟨h1, h2⟩ := h.far r' hr'
      exact ⟨h1, fun g hg => ⟨(h2 g hg).1, Nat.lt_of_lt_of_le (h2 g hg).2 hs1⟩⟩
    · exact ⟨fun q hq hq2 => by
        have : q = gw := by simp [Value.ownBlock] at hq; exact hq.symm
        subst this
        exact hra hq2, fun g hg => ⟨Nat.le_trans hs (hrl g hg).1, (hrl g hg).2⟩⟩
theorem RowsAt.base {W : World} (h : RowsAt W w t s v rs ls) (hk : Kept W0 W) : RowsAt W0 w t s v rs ls := by
  refine ⟨⟨hk.trans h.own.1, h.own.2.1, ?_⟩, h.len, h.els, h.low, h.far⟩
  rcases h.own.2.2 with h2 | ⟨g, cap, cur, hv, hg, r⟩
  · exact .inl h2
  · exact .inr ⟨g, cap, cur, hv, Nat.le_trans hk.size hg, r⟩
/-- What a call has made lies behind what there was. -/
theorem own_new {e : TypeId} {k n : Nat} {xs : List Value} (h : Own w w1 e k r n xs) : ∀ g, r.ownBlock = some g → w.heap.size ≤ g ∧ g < w1.heap.size := fun g hg => h.2.lt g hg
end
end Pg
