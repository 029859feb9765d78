/- What is kept: prune.Keep. -/
import Derived.Test.YtjkhdjonlppdoaaMathK2
import Derived.Test.YtjkhdjonlppdoaaRib2
import Derived.Test.YtjkhdjonlppdoaaKit5
namespace Pg
open Go
theorem foldK_take (l : List Rt) (k : Nat) (hk : k < l.length) : foldK (l.take (k + 1)) = stepK (foldK (l.take k)) l[k] := by rw [List.take_succ_eq_append_getElem hk, foldK_snoc]
theorem Own.kept2 {W0 w w' : World} {e : TypeId} {k n : Nat} {v : Value} {xs : List Value} {row : Option Nat} (h : Own W0 w e k v n xs) (hg : w.grownBy w' row) (hk : Kept W0 w') (hne : ∀ b, row = some b → v.ownBlock ≠ some b) : Own W0 w' e k v n xs := by
  refine ⟨hk, h.2.kept hg ?_⟩
  cases hv : v.ownBlock with
  | none => exact .inl rfl
  | some b => exact .inr fun e => hne b e.symm hv
theorem Own.cut2 {W0 w : World} {e : TypeId} {k n c : Nat} {a : Option Addr} {xs : List Value} (h : Own W0 w e k (.slice a n c) n xs) (m : Nat) (hm : m ≤ n) : Own W0 w e k (.slice a m c) m (xs.take (m * k)) := by
  by_cases hn : 0 < n
  · obtain ⟨g, c', hv, _⟩ := h.form hn
    injection hv with e1 e2 e3
    subst e1 e3
    exact h.cut m hm
  · have : m = n := by omega
    subst this
    have : xs.take (m * k) = xs := List.take_of_length_le (by rw [h.2.1]; exact Nat.le_refl _)
    rw [this]; exact h
theorem ownBlock_slice (a : Option Addr) (n m c c' : Nat) : (Value.slice a n c).ownBlock = (Value.slice a m c').ownBlock := by cases a <;> rfl
theorem Apart.symm {v u : Value} (h : Apart v u) : Apart u v := fun k hk hu => h k hu hk
theorem Apart.len {v : Value} {a : Option Addr} {n c : Nat} (h : Apart v (.slice a n c)) (m : Nat) : Apart v (.slice a m c) := fun k hk hu => h k hk ((ownBlock_slice a n m c c).trans hu)
theorem own_push {W0 w : World} {t : TypeId} {v : Value} {n : Nat} (L : List Rt) (e : Rt) (hn : L.length = n) (h : Own W0 w t 4 v (n + 1) (L.flatMap Rt.cells ++ Rt.cells e)) : Own W0 w t 4 v (L ++ [e]).length ((L ++ [e]).flatMap Rt.cells) := by
  subst hn
  rw [List.flatMap_append, List.length_append]
  simpa using h
theorem els_cap {α : Type} {w : World} {a : Option Addr} {n c k : Nat} {enc : α → List Value} {l : List α} (h : Els w (.slice a n c) k enc l) : l.length ≤ c := by
  obtain ⟨a', c', e, hc, _⟩ := h
  injection e with _ _ e3
  rw [e3]; exact hc
theorem stepK_none {o K : List Rt} {r : Rt} (h : o.filter (covers_ r) = []) : stepK (o, K) r = ([r], K ++ [r]) := by unfold stepK; rw [h]; rfl
theorem stepK_some {o K : List Rt} {r : Rt} {j : Nat} (hj : j < o.length) (h : o.filter (covers_ r) = o.take (j + 1)) : stepK (o, K) r = if o[j].act = r.act then (o.take (j + 1), K) else (o.take (j + 1) ++ [r], K ++ [r]) := by
  unfold stepK
  have : (o.take (j + 1)).getLast? = some o[j] := by rw [List.take_succ_eq_append_getElem hj, List.getLast?_concat]
  simp only [h, this]
end Pg
namespace Go.Proofs.Ytjkhdjonlppdoaa
open Go.RowKit Pg

end Go.Proofs.Ytjkhdjonlppdoaa
