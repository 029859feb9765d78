/- Rows that a call owns, in later worlds: append onto them, their cells. -/
import Derived.Test.YtemfocnjlimicaaBits
import Derived.Maps.AppendAt
import Derived.Deep.AppendLies
namespace Pg
open Go Go.RowKit Go.Sort

theorem grownBy_kept {w0 w w' : World} {row : Option Nat} (hk : Kept w0 w) (hg : w.grownBy w' row) (hr : ∀ k, row = some k → w0.heap.size ≤ k) : Kept w0 w' := Below.grown hk hg hk.size hr

/-- v is a row of n elements, their cells xs, made since W0, in a later world. -/
def Own (W0 w : World) (e : TypeId) (size : Nat) (v : Value) (n : Nat) (xs : List Value) : Prop := Kept W0 w ∧ w.ownsRow W0.heap.size e size v n xs
section
variable {P : Program} {W0 w w' : World} {e : TypeId} {size : Nat} {v : Value} {n : Nat} {xs : List Value}
theorem Own.kept (h : Own W0 w e size v n xs) : Kept W0 w := h.1
theorem Own.nil (W0 w : World) (hk : Kept W0 w) (e : TypeId) (size : Nat) : Own W0 w e size (.slice none 0 0) 0 [] := ⟨hk, by simp, .inl ⟨rfl, rfl⟩⟩
theorem Own.alloc (h : Own W0 w e size v n xs) (o : Obj) : Own W0 (w.alloc o) e size v n xs := ⟨h.1.alloc o, h.2.alloc o⟩
theorem Own.step (h : Own W0 w e size v n xs) (hk : Kept w w') : Own W0 w' e size v n xs :=
  ⟨h.1.trans hk, by
    refine ⟨h.2.1, ?_⟩
    rcases h.2.2 with h2 | ⟨g, cap, cur, hv, hg, hh, r⟩
    · exact .inl h2
    · refine .inr ⟨g, cap, cur, hv, hg, ?_, r⟩
      have hlt : g < w.heap.size := by
        rcases Nat.lt_or_ge g w.heap.size with hlt | hge
        · exact hlt
        · rw [Array.getElem?_eq_none hge] at hh; cases hh
      rw [hk.block g hlt]; exact hh⟩
theorem Own.ext (h : Own W0 w e size v n xs) (p : Regrown) : Own W0 (Pg.ext w p) e size v n xs := h.step (below_ext w p)
theorem Own.drew (h : Own W0 w e size v n xs) : Own W0 w.drew e size v n xs := h.step (Below.drew (Below.refl _ _))
theorem Own.drewN (h : Own W0 w e size v n xs) (k : Nat) : Own W0 (w.drewN k) e size v n xs := h.step ((Kept.refl w).drewN k)
/-- A row that is not empty lies in a block of its own. -/
theorem Own.form (h : Own W0 w e size v n xs) (hn : 0 < n) : ∃ g c, v = .slice (some ⟨g, 0, none⟩) n c ∧ W0.heap.size ≤ g ∧ g < w.heap.size ∧ n ≤ c ∧ (∀ k, k < n * size → w.cell? ⟨g, k, none⟩ = xs[k]?) ∧ ∀ k, w.frozen? ⟨g, k, none⟩ = false := by
  have h2 := h.2.2
  rcases h2 with ⟨_, h0⟩ | ⟨g, cap, cur, hv, hg, hh, hc, hr⟩
  · omega
  · have hlt : g < w.heap.size := by
      rcases Nat.lt_or_ge g w.heap.size with hlt | hge
      · exact hlt
      · rw [Array.getElem?_eq_none hge] at hh; cases hh
    subst hv
    exact ⟨g, cap, rfl, hg, hlt, hc, fun k hk => h.2.cellAt k hk, fun k => h.2.frozenAt k⟩
end

theorem named {P : Program} {Q : Exit → Act → World → Prop} {a : Act} {w : World} {c : Code} (h : ∀ w2, w2 = w → c.wp P Q a w2) : c.wp P Q a w := h w rfl
theorem named_call {P : Program} {f : FuncId} {args : Array Value} {Q : Ending → World → Prop} {w : World} (h : ∀ w2, w2 = w → Calls P f args w2 Q) : Calls P f args w Q := h w rfl
section
variable {P : Program}
theorem parts_of {e : TypeId} {z : Value} {size bytes : Nat} (h : (P.info? e).map (fun i => (i.zero, i.size, i.bytes)) = some (some z, size, bytes)) :
    ∃ i, P.info? e = some i ∧ i.zero = some z ∧ i.size = size ∧ i.bytes = bytes := by
  cases hi : P.info? e with
  | none => rw [hi] at h; cases h
  | some i => rw [hi] at h; simp at h; exact ⟨i, rfl, h.1, h.2.1, h.2.2⟩

/-- 'out = append(out, x)' onto a row of the call's own. -/
theorem wpList_push {ops : Array Oper} {rest : List Oper} {o : Oper} {a : Act} {Q : Exit → Act → World → Prop} {W0 w : World} (hgd : o.guard = none) (s x : Operand) (t : TypeId)
    (ho : o.op = .call { callee := .builtin .append, args := #[s, x], argTypes := #[t, t] })
    (e : TypeId) (z : Value) (size bytes : Nat) (ht : P.underlying t = some (.slice e)) (hinfo : (P.info? e).map (fun i => (i.zero, i.size, i.bytes)) = some (some z, size, bytes))
    (hzs : z.cells.size = size) (hsz : 0 < size)
    (v : Value) (n : Nat) (xs : List Value) (hs : a.eval s = v) (hown : Own W0 w e size v n xs)
    (g m c : Nat) (news : List Value) (hx : a.eval x = .slice (some ⟨g, 0, none⟩) m c) (hl : news.length = m * size) (hnews : w.heap[g]? = some (.cells news.toArray e (0, 0))) (h1 : ∀ u ∈ news, u.oneCell' = true)
    (h63 : n + m ≤ maxLen) (hbytes : (n + m) * bytes ≤ 140737488355328)
    (h : ∀ v' w', Own W0 w' e size v' (n + m) (xs ++ news) → wpList P ops Q rest (a.put o.dst v') w') :
    wpList P ops Q (o :: rest) a w := by
  obtain ⟨i, hi, hz, hsize, hby⟩ := parts_of hinfo
  refine wpList_append_own_at w hgd s x t ho W0.heap.size e i z size bytes ht hi hz hsize hby hzs hsz v n xs hs hown.2 ⟨g, 0, none⟩ m c news hx hl ?_ h1 h63 hbytes hown.1.size ?_
  · intro j u hu
    have hc : w.cell? ⟨g, j, none⟩ = some u := by rw [cell_of_row w g j news.toArray e (0, 0) hnews]; simpa using hu
    unfold Addr.add
    split
    · rename_i h0; subst h0; exact hc
    · simpa using hc
  · intro v' w' ho' hg _ _
    refine h v' w' ⟨grownBy_kept hown.1 hg fun k hk => ?_, ho'⟩
    exact (hown.2.lt k hk).1
end
end Pg
