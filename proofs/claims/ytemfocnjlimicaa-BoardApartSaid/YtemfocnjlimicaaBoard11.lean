/- A board: Copy: how its loop stands. -/
import Derived.Test.YtemfocnjlimicaaBoard10
namespace Go.Proofs.Ytemfocnjlimicaa
open Go.RowKit Pg

/-- How the loop of Copy stands: of the banks B those of bs are copied. -/
structure CopyAt (W0 w : World) (gb : Nat) (k : Int) (n : Nat) (v : Value) (B bs : List Bk) : Prop where
  banks : BanksAt W0 w bs
  row : Own W0 w 42 1 v bs.length (bs.map Bk.ptr)
  blk : Blk w gb 93 #[.int .i64 k, .int .i64 (n : Int), v]
  low : W0.heap.size ≤ gb
  same : ∀ (i : Nat) (h : i < bs.length) (h' : i < B.length), bs[i].l = B[i].l ∧ bs[i].c = B[i].c
  size : ∀ b ∈ bs, b.l.length = n
  ne : v.ownBlock ≠ some gb
  far : ∀ b ∈ bs, gb ≠ b.g ∧ gb ≠ b.gr ∧ v.ownBlock ≠ some b.g ∧ v.ownBlock ≠ some b.gr
theorem CopyAt.start {W0 w : World} {gb : Nat} {k : Int} {n : Nat} (B : List Bk) (hk : Kept W0 w) (hb : Blk w gb 93 #[.int .i64 k, .int .i64 (n : Int), .slice none 0 0]) (hl : W0.heap.size ≤ gb) : CopyAt W0 w gb k n (.slice none 0 0) B [] :=
  ⟨BanksAt.nil hk, Own.nil _ _ hk _ _, hb, hl, fun i h => absurd h (by simp), fun _ h => absurd h (by simp), by simp [Value.ownBlock], fun _ h => absurd h (by simp)⟩
theorem CopyAt.kept {W0 w w' : World} {gb : Nat} {k : Int} {n : Nat} {v : Value} {B bs : List Bk} (h : CopyAt W0 w gb k n v B bs) (hk : Kept w w') : CopyAt W0 w' gb k n v B bs := ⟨h.banks.step hk, h.row.step hk, h.blk.kept hk, h.low, h.same, h.size, h.ne, h.far⟩
theorem CopyAt.board {W0 w : World} {gb : Nat} {k : Int} {n : Nat} {v : Value} {B bs : List Bk} (h : CopyAt W0 w gb k n v B bs) (hp : 0 < bs.length) : ∃ gp cap, BoardAt W0 w gb gp k n cap bs := by
  obtain ⟨g, c, e, _, _, hc, _⟩ := h.row.form hp
  subst e
  refine ⟨g, c, h.banks, h.row, h.blk, h.low, hp, hc, h.size, fun e => h.ne (by rw [e]; rfl), fun b hb => ?_⟩
  obtain ⟨f1, f2, f3, f4⟩ := h.far b hb
  exact ⟨f1, f2, fun e => f3 (by rw [← e]; rfl), fun e => f4 (by rw [← e]; rfl)⟩
/-- One round: a bank is copied, its pointer appended, the slice kept in the new board's block. -/
theorem CopyAt.round {W0 w w1 w2 : World} {gb g gr : Nat} {k : Int} {n : Nat} {v v' : Value} {B bs : List Bk} {l : List Slot} {c : Int} (h : CopyAt W0 w gb k n v B bs) (hk : Kept w w1) (hb : BankAt w w1 g gr l c) (hB9 : bs.length < B.length) (hl9 : B[bs.length].l = l) (hc9 : B[bs.length].c = c) (hn9 : l.length = n) {o : Obj}
    (hr : Own W0 w2 42 1 v' (bs.length + 1) (bs.map Bk.ptr ++ [.pointer (some ⟨g, 0, none⟩)])) (hg : (w1.alloc o).grownBy w2 v.ownBlock) (hv : v'.ownBlock = v.ownBlock ∨ v'.ownBlock = some (w1.alloc o).heap.size) :
    CopyAt W0 (w2.setCell ⟨gb, 2, none⟩ v') gb k n v' B (bs ++ [⟨g, gr, l, c⟩]) := by
  have hB := h.banks.more ⟨g, gr, l, c⟩ hk hb
  have hgl := h.blk.lt
  have hvl : ∀ q, v.ownBlock = some q → q < w.heap.size := fun q hq => (h.row.2.lt q hq).2
  have hs1 := hk.size
  have hsz : (w1.alloc o).heap.size = w1.heap.size + 1 := by simp
  have hF : ∀ x ∈ bs ++ [(⟨g, gr, l, c⟩ : Bk)], gb ≠ x.g ∧ gb ≠ x.gr ∧ v.ownBlock ≠ some x.g ∧ v.ownBlock ≠ some x.gr := fun x hx => by
    rcases List.mem_append.1 hx with hx | hx
    · exact h.far x hx
    · rw [List.mem_singleton.1 hx]
      have h1 := hb.low
      have h2 := hb.lowr
      show gb ≠ g ∧ gb ≠ gr ∧ v.ownBlock ≠ some g ∧ v.ownBlock ≠ some gr
      exact ⟨by omega, by omega, fun e => by have := hvl _ e; omega, fun e => by have := hvl _ e; omega⟩
  have hL : ∀ x ∈ bs ++ [(⟨g, gr, l, c⟩ : Bk)], x.g < w1.heap.size ∧ x.gr < w1.heap.size := fun x hx => (hB.at_ x hx).blocks
  have hsame : ∀ q, q < w1.heap.size → gb ≠ q → v.ownBlock ≠ some q → (w2.setCell ⟨gb, 2, none⟩ v').heap[q]? = w1.heap[q]? := fun q h1 h2 h3 =>
    (Below.heap_setCell w2 ⟨gb, 2, none⟩ v' q (fun e => h2 e.symm)).trans ((hg.block q (by omega) (fun e => h3 e.symm)).trans (Below.heap_alloc w1 o q h1))
  have hC : Chg w2 (w2.setCell ⟨gb, 2, none⟩ v') gb gb := (Chg.of gb gb (Kept.refl w2)).setCell gb 2 (.inl rfl) v'
  have hK3 : Kept W0 (w2.setCell ⟨gb, 2, none⟩ v') := hC.kept hr.1 h.low h.low
  have hvg : v'.ownBlock ≠ some gb := fun e => by
    rcases hv with hv | hv
    · exact h.ne (hv ▸ e)
    · rw [hv] at e; injection e with e; omega
  refine ⟨hB.only hK3 fun x hx => ?_, ?_, ?_, h.low, fun i h1 h2 => ?_, fun x hx => ?_, hvg, fun x hx => ?_⟩
  · obtain ⟨f1, f2, f3, f4⟩ := hF x hx
    obtain ⟨l1, l2⟩ := hL x hx
    exact ⟨hsame _ l1 f1 f3, hsame _ l2 f2 f4⟩
  · rw [List.length_append, List.map_append]
    refine ⟨hK3, hr.2.1, ?_⟩
    rcases hr.2.2 with h1 | ⟨b, cap', cur, hv2, hg2, hh, r⟩
    · exact .inl h1
    · refine .inr ⟨b, cap', cur, hv2, hg2, ?_, r⟩
      exact hC.blk (b := b) (t := 42) (cs := cur) hh (fun e => hvg (by rw [hv2, ← e]; rfl)) (fun e => hvg (by rw [hv2, ← e]; rfl))
  · have h1 := (((h.blk.kept hk).alloc o).grown hg h.ne).set_ 2 v'
    simpa using h1
  · rcases Nat.lt_or_ge i bs.length with h3 | h3
    · rw [List.getElem_append_left h3]
      exact h.same i h3 h2
    · have h4 : i = bs.length := by simp at h1; omega
      subst h4
      rw [List.getElem_append_right (Nat.le_refl _)]
      simp only [Nat.sub_self, List.getElem_cons_zero]
      exact ⟨hl9.symm, hc9.symm⟩
  · rcases List.mem_append.1 hx with hx | hx
    · exact h.size x hx
    · rw [List.mem_singleton.1 hx]; exact hn9
  · obtain ⟨f1, f2, f3, f4⟩ := hF x hx
    obtain ⟨l1, l2⟩ := hL x hx
    refine ⟨f1, f2, fun e => ?_, fun e => ?_⟩
    · rcases hv with hv | hv
      · exact f3 (hv ▸ e)
      · rw [hv] at e; injection e with e; omega
    · rcases hv with hv | hv
      · exact f4 (hv ▸ e)
      · rw [hv] at e; injection e with e; omega
end Go.Proofs.Ytemfocnjlimicaa
