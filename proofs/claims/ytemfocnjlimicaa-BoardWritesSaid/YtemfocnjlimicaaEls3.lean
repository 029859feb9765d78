/- Appending to one row of the call's own while another one is read. No program. -/
import Derived.Test.YtemfocnjlimicaaEls2
namespace Pg
open Go Go.RowKit

def Apart (v u : Value) : Prop := ∀ k, v.ownBlock = some k → u.ownBlock ≠ some k
section
variable {W0 w w1 w' : World} {e e' : TypeId} {size size' n n' : Nat} {v v' u : Value} {xs xs' : List Value}
theorem own_apart (ho : Own W0 w e size v n xs) (hb : Own w w1 e' size' u n' xs') : Apart v u := by
  intro k hk hu
  have h1 := ho.2.lt k hk
  rcases hb.2.2 with ⟨rfl, _⟩ | ⟨g, cap, cur, rfl, hg, _⟩
  · cases hu
  · simp [Value.ownBlock] at hu
    omega
theorem own_sure (hb : Own w w1 e' size' u n' xs') : ∀ k, u.ownBlock = some k → k < w1.heap.size := fun k hk => (hb.2.lt k hk).2
theorem Apart.grown (h : Apart v u) (hv : v'.ownBlock = v.ownBlock ∨ v'.ownBlock = some w.heap.size) (hu : ∀ k, u.ownBlock = some k → k < w.heap.size) : Apart v' u := by
  intro k hk hk2
  rcases hv with hv | hv
  · rw [hv] at hk; exact h k hk hk2
  · rw [hv] at hk
    injection hk with hk
    have := hu k hk2
    omega
theorem Els.grown {α : Type} {k : Nat} {enc : α → List Value} {l : List α} {row : Option Nat} (h : Els w u k enc l) (hg : w.grownBy w' row) (hne : ∀ k, row = some k → u.ownBlock ≠ some k) : Els w' u k enc l := by
  obtain ⟨a, c, rfl, hc, h⟩ := h
  refine ⟨a, c, rfl, hc, fun h0 => ?_⟩
  obtain ⟨b, o, rfl, hb, hcell⟩ := h h0
  refine ⟨b, o, rfl, Nat.lt_of_lt_of_le hb hg.size, fun i hi j hj => ?_⟩
  have hbl : w'.heap[b]? = w.heap[b]? := hg.block b hb fun hr => hne b hr.symm rfl
  exact (World.cell?_of_block (a := ⟨b, o + i * k + j, none⟩) hbl).trans (hcell i hi j hj)
end
section
variable {P : Program}
theorem wpList_push2 {ops : Array Oper} {rest : List Oper} {o : Oper} {a : Act} {Q : Exit → Act → World → Prop} {W0 w : World} (hgd : o.guard = none) (s x : Operand) (t : TypeId)
    (ho : o.op = .call { callee := .builtin .append, args := #[s, x], argTypes := #[t, t] })
    (e : TypeId) (z : Value) (size bytes : Nat) (ht : P.underlying t = some (.slice e)) (hinfo : (P.info? e).map (fun i => (i.zero, i.size, i.bytes)) = some (some z, size, bytes))
    (hzs : z.cells.size = size) (hsz : 0 < size)
    (v : Value) (n : Nat) (xs : List Value) (hs : a.eval s = v) (hown : Own W0 w e size v n xs)
    (g m c : Nat) (news : List Value) (hx : a.eval x = .slice (some ⟨g, 0, none⟩) m c) (hl : news.length = m * size) (hnews : w.heap[g]? = some (.cells news.toArray e (0, 0))) (h1 : ∀ u ∈ news, u.oneCell' = true)
    (h63 : n + m ≤ maxLen) (hbytes : (n + m) * bytes ≤ 140737488355328)
    (h : ∀ v' w', Own W0 w' e size v' (n + m) (xs ++ news) → w.grownBy w' v.ownBlock → (v'.ownBlock = v.ownBlock ∨ v'.ownBlock = some w.heap.size) → wpList P ops Q rest (a.put o.dst v') w') :
    wpList P ops Q (o :: rest) a w := by
  obtain ⟨i, hi, hz, hsize, hby⟩ := parts_of hinfo
  refine wpList_append_own_at w hgd s x t ho W0.heap.size e i z size bytes ht hi hz hsize hby hzs hsz v n xs hs hown.2 ⟨g, 0, none⟩ m c news hx hl ?_ h1 h63 hbytes hown.1.size ?_
  · intro j u hu
    have hc : w.cell? ⟨g, j, none⟩ = some u := by rw [cell_of_row w g j news.toArray e (0, 0) hnews]; simpa using hu
    unfold Addr.add
    split
    · rename_i h0; subst h0; exact hc
    · simpa using hc
  · intro v' w' ho' hg _ hv'
    refine h v' w' ⟨grownBy_kept hown.1 hg fun k hk => ?_, ho'⟩ hg hv'
    exact (hown.2.lt k hk).1
end
end Pg
