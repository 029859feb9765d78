/- Slices that read as lists of elements of k cells each; rows of the call's own as such lists. No program. -/
import Derived.Test.YtemfocnjlimicaaKit1
import Derived.Test.YtemfocnjlimicaaKit3
namespace Pg
open Go Go.RowKit

section
variable {α : Type}
/-- v is a slice that reads in w as the elements l, each of k cells. -/
def Els (w : World) (v : Value) (k : Nat) (enc : α → List Value) (l : List α) : Prop :=
  ∃ a c, v = .slice a l.length c ∧ l.length ≤ c ∧ (0 < l.length → ∃ b o, a = some ⟨b, o, none⟩ ∧ b < w.heap.size ∧ ∀ (i : Nat) (h : i < l.length) (j : Nat), j < k → w.cell? ⟨b, o + i * k + j, none⟩ = (enc l[i])[j]?)
variable {w w' : World} {v : Value} {k : Nat} {enc : α → List Value} {l : List α}
theorem Els.kept (h : Els w v k enc l) (hk : Kept w w') : Els w' v k enc l := by
  obtain ⟨a, c, hv, hc, h⟩ := h
  refine ⟨a, c, hv, hc, fun h0 => ?_⟩
  obtain ⟨b, o, ha, hb, hcell⟩ := h h0
  exact ⟨b, o, ha, Nat.lt_of_lt_of_le hb hk.size, fun i hi j hj => (hk.cell (p := ⟨b, o + i * k + j, none⟩) hb).trans (hcell i hi j hj)⟩
theorem Els.ext (h : Els w v k enc l) (p : Regrown) : Els (Pg.ext w p) v k enc l := h.kept (below_ext w p)
theorem Els.alloc (h : Els w v k enc l) (o : Obj) : Els (w.alloc o) v k enc l := h.kept (Kept.alloc (Kept.refl w) o)
/-- The slice value itself. -/
theorem Els.form (h : Els w v k enc l) : ∃ a c, v = .slice a l.length c ∧ l.length ≤ c ∧ Els w (.slice a l.length c) k enc l := by
  obtain ⟨a, c, rfl, hc, h⟩ := h
  exact ⟨a, c, rfl, hc, a, c, rfl, hc, h⟩
/-- The cells of one element. -/
theorem Els.at_ {a : Option Addr} {c : Nat} (h : Els w (.slice a l.length c) k enc l) (i : Nat) (hi : i < l.length) :
    ∃ b o, a = some ⟨b, o, none⟩ ∧ b < w.heap.size ∧ ∀ j, j < k → w.cell? ⟨b, o + i * k + j, none⟩ = (enc l[i])[j]? := by
  obtain ⟨a', c', e, _, h⟩ := h
  injection e with e1 e2 e3
  subst e1
  obtain ⟨b, o, ha, hb, hcell⟩ := h (by omega)
  exact ⟨b, o, ha, hb, fun j hj => hcell i hi j hj⟩
theorem Els.at2 {b o c : Nat} (h : Els w (.slice (some ⟨b, o, none⟩) l.length c) k enc l) (i : Nat) (hi : i < l.length) : b < w.heap.size ∧ ∀ j, j < k → w.cell? ⟨b, o + i * k + j, none⟩ = (enc l[i])[j]? := by
  obtain ⟨b', o', e, hb, hcell⟩ := h.at_ i hi
  injection e with e
  injection e with e1 e2
  subst e1 e2
  exact ⟨hb, hcell⟩
theorem flat_len (hk : ∀ x, (enc x).length = k) : ∀ l : List α, (l.flatMap enc).length = l.length * k
  | [] => by simp
  | x :: l => by rw [List.flatMap_cons, List.length_append, hk, flat_len hk l, List.length_cons, Nat.succ_mul, Nat.add_comm]
theorem flat_get (hk : ∀ x, (enc x).length = k) : ∀ (l : List α) (i : Nat) (h : i < l.length) (j : Nat), j < k → (l.flatMap enc)[i * k + j]? = (enc l[i])[j]?
  | [], i, h, _, _ => by simp at h
  | x :: l, 0, _, j, hj => by rw [List.flatMap_cons, Nat.zero_mul, Nat.zero_add, List.getElem?_append_left (by rw [hk]; exact hj)]; rfl
  | x :: l, i + 1, h, j, hj => by
    rw [List.flatMap_cons, List.getElem?_append_right (by rw [hk, Nat.succ_mul]; omega), hk, show (i + 1) * k + j - k = i * k + j by rw [Nat.succ_mul]; omega]
    rw [flat_get hk l i (by simpa using h) j hj]; rfl
/-- A row of the call's own reads so. -/
theorem Own.els {W0 : World} {e : TypeId} (hk : ∀ x, (enc x).length = k) (h : Own W0 w e k v l.length (l.flatMap enc)) : Els w v k enc l := by
  by_cases hn : 0 < l.length
  · obtain ⟨g, c, rfl, hg, hlt, hc, hcell, _⟩ := h.form hn
    refine ⟨_, c, rfl, hc, fun _ => ⟨g, 0, rfl, hlt, fun i hi j hj => ?_⟩⟩
    have hij : i * k + j < l.length * k := by
      have : (i + 1) * k ≤ l.length * k := Nat.mul_le_mul_right k hi
      rw [Nat.succ_mul] at this; omega
    rw [Nat.zero_add, hcell _ hij, flat_get hk l i hi j hj]
  · have h0 : l.length = 0 := by omega
    rw [h0] at h
    have h2 := h.2.2
    rcases h2 with ⟨hv, _⟩ | ⟨g, cap, cur, hv, hg, hh, hc, hr⟩
    · exact ⟨none, 0, by rw [hv, h0], by omega, fun h => absurd h hn⟩
    · exact ⟨_, cap, by rw [hv, h0], by omega, fun h => absurd h hn⟩
/-- A call hands back a row of its own that reads as l; what was there stands. -/
def RetEls (e : TypeId) (k : Nat) (enc : α → List Value) (l : List α) (w : World) (en : Ending) (w' : World) : Prop :=
  ∃ v, en = .returned v ∧ Own w w' e k v l.length (l.flatMap enc)
/-- Behind such a call: the world is a later one, the slice reads so. -/
theorem RetEls.out {e : TypeId} {en : Ending} (hk : ∀ x, (enc x).length = k) (h : RetEls e k enc l w en w') :
    ∃ (a : Option Addr) (c : Nat) (p : Regrown), en = .returned (.slice a l.length c) ∧ w' = ext w p ∧ l.length ≤ c ∧ Own w (ext w p) e k (.slice a l.length c) l.length (l.flatMap enc) ∧ Els (ext w p) (.slice a l.length c) k enc l := by
  obtain ⟨v, rfl, ho⟩ := h
  obtain ⟨p, rfl⟩ := ext_of ho.1
  obtain ⟨a, c, rfl, hc, he⟩ := (Own.els hk ho).form
  exact ⟨a, c, p, rfl, rfl, hc, ho, he⟩
theorem RetEls.mk {e : TypeId} {W : World} {v : Value} (hk : Kept W w) (h : Own w w' e k v l.length (l.flatMap enc)) : RetEls e k enc l W (.returned v) w' := by
  refine ⟨v, rfl, hk.trans h.1, ?_⟩
  have h2 := h.2
  refine ⟨h2.1, ?_⟩
  rcases h2.2 with h3 | ⟨g, cap, cur, hv, hg, r⟩
  · exact .inl h3
  · exact .inr ⟨g, cap, cur, hv, Nat.le_trans hk.size hg, r⟩
end
/-- Whole numbers. -/
def encN (n : Nat) : List Value := [.int .i64 (n : Int)]
def encI (n : Int) : List Value := [.int .i64 n]
theorem encN_len (n : Nat) : (encN n).length = 1 := rfl
theorem encI_len (n : Int) : (encI n).length = 1 := rfl
end Pg
