/- Rows of k cells an element: written, cut, copied, cleared, cloned. No program. -/
import Derived.Test.YtemfocnjlimicaaEls
import Derived.Laws.CopyRow
import Derived.Laws.OwnMore
namespace Pg
open Go Go.RowKit Go.Sort

def setAll (xs : List Value) : Nat → List Value → List Value
  | _, [] => xs
  | o, c :: cs => setAll (xs.set o c) (o + 1) cs
theorem setAll_len (cs : List Value) : ∀ (xs : List Value) (o : Nat), (setAll xs o cs).length = xs.length := by
  induction cs with
  | nil => intro xs o; rfl
  | cons c cs ih => intro xs o; rw [setAll, ih]; simp
theorem setAll_get (cs : List Value) : ∀ (xs : List Value) (o i : Nat), o + cs.length ≤ xs.length → (setAll xs o cs)[i]? = if o ≤ i ∧ i < o + cs.length then cs[i - o]? else xs[i]? := by
  induction cs with
  | nil => intro xs o i _; rw [if_neg (by simp)]; rfl
  | cons c cs ih =>
    intro xs o i h
    simp only [List.length_cons] at h ⊢
    rw [setAll, ih _ _ _ (by simp; omega)]
    by_cases h1 : i = o
    · subst h1
      rw [if_neg (by omega), if_pos (by omega), Nat.sub_self, List.getElem?_set_self (by omega)]; rfl
    · by_cases h2 : o + 1 ≤ i ∧ i < o + 1 + cs.length
      · rw [if_pos h2, if_pos (by omega), show i - o = (i - (o + 1)) + 1 by omega, List.getElem?_cons_succ]
      · rw [if_neg h2, if_neg (by omega), List.getElem?_set_ne (by omega)]
section
variable {α : Type} {k : Nat} {enc : α → List Value}
theorem flat_get' (hk : ∀ x, (enc x).length = k) (l : List α) (t : Nat) (h : t < l.length * k) : ∃ h2 : t / k < l.length, (l.flatMap enc)[t]? = (enc (l[t / k]'h2))[t % k]? := by
  have hk0 : 0 < k := by
    rcases Nat.eq_zero_or_pos k with h0 | h0
    · rw [h0] at h; omega
    · exact h0
  have h2 : t / k < l.length := (Nat.div_lt_iff_lt_mul hk0).2 h
  refine ⟨h2, ?_⟩
  have := flat_get hk l (t / k) h2 (t % k) (Nat.mod_lt _ hk0)
  rwa [Nat.mul_comm, Nat.div_add_mod] at this
theorem setAll_flat (hk : ∀ x, (enc x).length = k) (l : List α) (i : Nat) (hi : i < l.length) (e : α) : setAll (l.flatMap enc) (i * k) (enc e) = (l.set i e).flatMap enc := by
  have hik : i * k + k ≤ l.length * k := by
    have := Nat.mul_le_mul_right k hi
    rw [Nat.succ_mul] at this; exact this
  apply List.ext_getElem?
  intro t
  rw [setAll_get _ _ _ _ (by rw [hk, flat_len hk]; exact hik), hk]
  by_cases ht : t < l.length * k
  · obtain ⟨h2, h3⟩ := flat_get' hk l t ht
    obtain ⟨h4, h5⟩ := flat_get' hk (l.set i e) t (by simpa using ht)
    rw [h3, h5]
    have hk0 : 0 < k := by
      rcases Nat.eq_zero_or_pos k with h0 | h0
      · rw [h0] at ht; omega
      · exact h0
    by_cases hc : i * k ≤ t ∧ t < i * k + k
    · have hd : t / k = i := by
        apply Nat.div_eq_of_lt_le
        · exact hc.1
        · rw [Nat.succ_mul]; exact hc.2
      have hm : t % k = t - i * k := by
        have := Nat.div_add_mod t k
        rw [hd, Nat.mul_comm] at this; omega
      rw [if_pos hc]
      simp only [List.getElem_set]
      rw [if_pos hd.symm, hm]
    · rw [if_neg hc]
      have hd : t / k ≠ i := by
        intro hd
        apply hc
        have h6 := Nat.div_add_mod t k
        have h7 := Nat.mod_lt t hk0
        rw [hd, Nat.mul_comm] at h6; omega
      simp only [List.getElem_set]
      rw [if_neg (Ne.symm hd)]
  · rw [if_neg (by omega), List.getElem?_eq_none (by rw [flat_len hk]; omega), List.getElem?_eq_none (by rw [flat_len hk, List.length_set]; omega)]
theorem flat_take (hk : ∀ x, (enc x).length = k) (l : List α) (i : Nat) (hi : i ≤ l.length) : (l.flatMap enc).take (i * k) = (l.take i).flatMap enc := by
  conv => lhs; rw [← List.take_append_drop i l, List.flatMap_append]
  rw [List.take_append_of_le_length (by rw [flat_len hk, List.length_take, Nat.min_eq_left hi]; exact Nat.le_refl _)]
  rw [List.take_of_length_le (by rw [flat_len hk, List.length_take, Nat.min_eq_left hi]; exact Nat.le_refl _)]
end
section
variable {W0 w : World} {e : TypeId} {size : Nat} {g n c : Nat} {xs : List Value}
theorem Own.stored (h : Own W0 w e size (.slice (some ⟨g, 0, none⟩) n c) n xs) (hg : W0.heap.size ≤ g) (j : Nat) (u : Value) : Own W0 (w.setCell ⟨g, j, none⟩ u) e size (.slice (some ⟨g, 0, none⟩) n c) n (xs.set j u) :=
  ⟨Kept.setCell h.1 _ _ _ hg _, (h.2.stored j u).1⟩
/-- Writes into a block that is not the row's. -/
theorem Own.far {v : Value} (h : Own W0 w e size v n xs) {p : Addr} (hp : W0.heap.size ≤ p.block) (hv : v.ownBlock ≠ some p.block) (u : Value) : Own W0 (w.setCell p u) e size v n xs := by
  obtain ⟨b, o, s⟩ := p
  refine ⟨Kept.setCell h.1 _ _ _ hp _, h.2.1, ?_⟩
  rcases h.2.2 with h2 | ⟨g, cap, cur, hv', hg, hh, r⟩
  · exact .inl h2
  · refine .inr ⟨g, cap, cur, hv', hg, ?_, r⟩
    rw [heap_setCell_other w ⟨b, o, s⟩ g u (fun h3 => hv (by rw [hv']; simp [Value.ownBlock, h3]))]
    exact hh
/-- The head of a row. -/
theorem Own.cut (h : Own W0 w e size (.slice (some ⟨g, 0, none⟩) n c) n xs) (i : Nat) (hi : i ≤ n) : Own W0 w e size (.slice (some ⟨g, 0, none⟩) i c) i (xs.take (i * size)) := by
  refine ⟨h.1, ?_, ?_⟩
  · rw [List.length_take, h.2.1, Nat.min_eq_left (Nat.mul_le_mul_right size hi)]
  · rcases h.2.2 with ⟨hv, _⟩ | ⟨g', cap, cur, hv, hg, hh, hc, hm, hr, ht⟩
    · simp at hv
    · simp only [Value.slice.injEq, Option.some.injEq, Addr.mk.injEq, and_true, true_and] at hv
      obtain ⟨rfl, rfl⟩ := hv
      refine .inr ⟨g, c, cur, rfl, hg, hh, by omega, hm, hr, ?_⟩
      rw [← ht, List.take_take, Nat.min_eq_left (Nat.mul_le_mul_right size hi)]
theorem Own.block (h : Own W0 w e size (.slice (some ⟨g, 0, none⟩) n c) n xs) : ∃ cur : Array Value, W0.heap.size ≤ g ∧ w.heap[g]? = some (.cells cur e (0, 0)) ∧ n ≤ c ∧ c ≤ maxLen ∧ cur.size = c * size ∧ cur.toList.take (n * size) = xs := by
  rcases h.2.2 with ⟨hv, _⟩ | ⟨g', cap, cur, hv, hg, hh, hc, hm, hr, ht⟩
  · simp at hv
  · simp only [Value.slice.injEq, Option.some.injEq, Addr.mk.injEq, and_true, true_and] at hv
    obtain ⟨rfl, rfl⟩ := hv
    exact ⟨cur, hg, hh, hc, hm, hr, ht⟩
end
section
variable {P : Program}
/-- 'clear(s)': s the cells behind o of a row of the call's own: what lies ahead of them stays. -/
theorem wpList_clear_own {ops : Array Oper} {rest : List Oper} {o : Oper} {a : Act} {Q : Exit → Act → World → Prop} {W0 w : World} (hgd : o.guard = none) (x : Operand) (t : TypeId)
    (ho : o.op = .call { callee := .builtin .clear, args := #[x], argTypes := #[t] }) (e : TypeId) (z : Value) (size : Nat) (ht : P.underlying t = some (.slice e)) (hz : ∀ w, (zeroValue e).run P w = .ok z w) (hzs : z.cells.size = size) (h1 : ∀ u ∈ z.cells.toList, u.oneCell' = true)
    (g n c i m cc : Nat) (xs : List Value) (hx : a.eval x = .slice (some ⟨g, i * size, none⟩) m cc) (hown : Own W0 w e size (.slice (some ⟨g, 0, none⟩) n c) n xs) (hi : i + m ≤ n)
    (h : ∀ w', Own W0 w' e size (.slice (some ⟨g, 0, none⟩) i c) i (xs.take (i * size)) → wpList P ops Q rest (a.put o.dst (.tuple #[])) w') :
    wpList P ops Q (o :: rest) a w := by
  refine wpList_plain hgd fun K hK => ?_
  obtain ⟨cur, hg, hh, hnc, hm, hcs, htk⟩ := hown.block
  have hmul : i * size + m * size ≤ c * size := by rw [← Nat.add_mul]; exact Nat.mul_le_mul_right size (by omega)
  have hrun : ∃ w', (Builtin.clear_ #[t] o.type #[.slice (some ⟨g, i * size, none⟩) m cc]).run P w = .ok (.tuple #[]) w' ∧ Own W0 w' e size (.slice (some ⟨g, 0, none⟩) i c) i (xs.take (i * size)) := by
    rcases Nat.eq_zero_or_pos m with hm0 | hm0
    · subst hm0
      exact ⟨w, by simp [Builtin.clear_, run_underlying ht], hown.cut i (by omega)⟩
    · have hzl : (Builtin.zeroCells z.cells m).toList.length = m * size := by simp [Builtin.zeroCells, hzs]
      have hone : ∀ u ∈ (Builtin.zeroCells z.cells m).toList, u.oneCell' = true := fun u hu => by
        simp only [Builtin.zeroCells] at hu
        simp at hu
        obtain ⟨q, hq, rfl⟩ := hu
        have hs0 : 0 < z.cells.size := by
          rcases Nat.eq_zero_or_pos z.cells.size with h0 | h0
          · rw [h0] at hq; omega
          · exact h0
        have hlt := Nat.mod_lt q hs0
        apply h1
        simp [hlt]
      have hst := run_storeCells_at P g (i * size) e _ 0 cur w hh (by rw [hzl]; simp only [Nat.add_zero]; omega) hone
      simp only [Nat.add_zero, hzl] at hst
      obtain ⟨m', rfl⟩ : ∃ m', m = m' + 1 := ⟨m - 1, by omega⟩
      have hrun : (Builtin.clear_ #[t] o.type #[.slice (some ⟨g, i * size, none⟩) (m' + 1) cc]).run P w = .ok (.tuple #[]) (w.setRow g (List.take (i * size) cur.toList ++ (Builtin.zeroCells z.cells (m' + 1)).toList ++ List.drop (i * size + (m' + 1) * size) cur.toList).toArray) := by
        simp [Builtin.clear_, run_underlying ht, hz, hst]
      refine ⟨_, hrun, Kept.setRow hown.1 hg _, ?_, ?_⟩
      · rw [List.length_take, hown.2.1, Nat.min_eq_left (Nat.mul_le_mul_right size (by omega))]
      · refine .inr ⟨g, c, _, rfl, hg, setRow_heap w g cur _ e (0, 0) hh, by omega, hm, ?_, ?_⟩
        · rw [List.size_toArray, List.length_append, List.length_append, List.length_take, hzl, List.length_drop, Array.length_toList, hcs]; omega
        · rw [← htk, List.take_take]
          have h3 : i * size ≤ cur.toList.length := by simp [hcs]; exact Nat.mul_le_mul_right size (by omega)
          rw [Nat.min_eq_left (Nat.mul_le_mul_right size (show i ≤ n by omega))]
          simp only [List.append_assoc]
          rw [List.take_append_of_le_length (by simp; omega), List.take_take, Nat.min_self]
  obtain ⟨w', hr, ho2⟩ := hrun
  unfold Oper.wp
  simp [execOp, ho, resolve, invoke, builtin, hx, hr, Result.andThen]
  exact hK _ _ (h w' ho2)
/-- 'append(s, l...)', s a row of the call's own, l whatever reads as a list. -/
theorem wpList_push_all {α : Type} {enc : α → List Value} {ops : Array Oper} {rest : List Oper} {o : Oper} {a : Act} {Q : Exit → Act → World → Prop} {W0 w : World} (hgd : o.guard = none) (s x : Operand) (t : TypeId)
    (ho : o.op = .call { callee := .builtin .append, args := #[s, x], argTypes := #[t, t] })
    (e : TypeId) (z : Value) (size bytes : Nat) (ht : P.underlying t = some (.slice e)) (hinfo : (P.info? e).map (fun i => (i.zero, i.size, i.bytes)) = some (some z, size, bytes))
    (hzs : z.cells.size = size) (hsz : 0 < size) (hk : ∀ x : α, (enc x).length = size) (hone : ∀ x : α, ∀ u ∈ enc x, u.oneCell' = true)
    (v : Value) (n : Nat) (xs : List Value) (hs : a.eval s = v) (hown : Own W0 w e size v n xs) (b : Addr) (c : Nat) (l : List α) (hx : a.eval x = .slice (some b) l.length c) (hl : Els w (.slice (some b) l.length c) size enc l)
    (h63 : n + l.length ≤ maxLen) (hbytes : (n + l.length) * bytes ≤ 140737488355328)
    (h : ∀ v' w', Own W0 w' e size v' (n + l.length) (xs ++ l.flatMap enc) → wpList P ops Q rest (a.put o.dst v') w') :
    wpList P ops Q (o :: rest) a w := by
  obtain ⟨i, hi, hz, hsize, hby⟩ := parts_of hinfo
  refine wpList_append_own_at w hgd s x t ho W0.heap.size e i z size bytes ht hi hz hsize hby hzs hsz v n xs hs hown.2 b l.length c (l.flatMap enc) hx (flat_len hk l) ?_ ?_ h63 hbytes hown.1.size ?_
  · intro j u hu
    have hj : j < l.length * size := by
      have := (List.getElem?_eq_some_iff.1 hu).1
      rwa [flat_len hk] at this
    obtain ⟨h2, h3⟩ := flat_get' hk l j hj
    obtain ⟨b', o', e', hb, hcell⟩ := hl.at_ (j / size) h2
    injection e' with e'
    subst e'
    have h4 := hcell (j % size) (Nat.mod_lt _ hsz)
    rw [← h3, hu] at h4
    have e5 : o' + j / size * size + j % size = o' + j := by rw [Nat.add_assoc, Nat.mul_comm, Nat.div_add_mod]
    rw [e5] at h4
    unfold Addr.add
    split
    · rename_i h0; subst h0; exact h4
    · simpa using h4
  · intro u hu
    obtain ⟨y, _, hy⟩ := List.mem_flatMap.1 hu
    exact hone y u hy
  · intro v' w' ho' hg _ _
    exact h v' w' ⟨grownBy_kept hown.1 hg fun k hk => (hown.2.lt k hk).1, ho'⟩
end
end Pg
namespace Pg
open Go
section
variable {α : Type}
/-- The first place at which p holds; -1: there is none. -/
def idxI (p : α → Bool) (l : List α) : Int := match l.findIdx? p with | some i => (i : Int) | none => -1
theorem idxI_hit (p : α → Bool) (l : List α) (k : Nat) (h : k < l.length) (hp : p l[k] = true) (hn : ∀ i (h2 : i < l.length), i < k → p l[i] = false) : idxI p l = (k : Int) := by
  unfold idxI
  rw [List.findIdx?_eq_some_iff_getElem.2 ⟨h, hp, fun j hj => by rw [hn j (by omega) hj]; simp⟩]
theorem idxI_miss (p : α → Bool) (l : List α) (hn : ∀ i (h2 : i < l.length), p l[i] = false) : idxI p l = -1 := by
  unfold idxI
  rw [List.findIdx?_eq_none_iff.2 fun x hx => by
    obtain ⟨i, hi, rfl⟩ := List.getElem_of_mem hx
    exact hn i hi]
theorem idxI_any (p : α → Bool) (l : List α) (h : l.any p = true) : 0 ≤ idxI p l := by
  unfold idxI
  cases hf : l.findIdx? p with
  | some i => simp
  | none =>
    rw [List.findIdx?_eq_none_iff] at hf
    rw [List.any_eq_true] at h
    obtain ⟨x, hx, hp⟩ := h
    rw [hf x hx] at hp; cases hp
theorem idxI_cases (p : α → Bool) (l : List α) : (idxI p l = -1 ∧ ∀ i (h : i < l.length), p l[i] = false) ∨ ∃ (k : Nat) (h : k < l.length), idxI p l = (k : Int) ∧ p l[k] = true ∧ ∀ i (h2 : i < l.length), i < k → p l[i] = false := by
  unfold idxI
  cases hf : l.findIdx? p with
  | some i =>
    obtain ⟨h, hp, hn⟩ := List.findIdx?_eq_some_iff_getElem.1 hf
    exact .inr ⟨i, h, rfl, hp, fun j h2 hj => by have := hn j hj; simpa using this⟩
  | none =>
    rw [List.findIdx?_eq_none_iff] at hf
    exact .inl ⟨rfl, fun i h => hf _ (List.getElem_mem h)⟩
end
end Pg
namespace Pg
open Go
section
variable {α : Type}
/-- How slices.DeleteFunc stands: j places are looked at, i are kept, the row is L. -/
structure Del (p : α → Bool) (l : List α) (j i : Nat) (L : List α) : Prop where
  len : L.length = l.length
  ij : i < j
  jn : j ≤ l.length
  take : L.take i = (l.take j).filter (fun x => !p x)
  drop : L.drop j = l.drop j
variable {p : α → Bool} {l L : List α} {i j : Nat}
theorem Del.start (k : Nat) (hk : k < l.length) (hp : p l[k] = true) (hn : ∀ i (h2 : i < l.length), i < k → p l[i] = false) : Del p l (k + 1) k l :=
  ⟨rfl, by omega, by omega, by
    rw [List.take_succ_eq_append_getElem hk, List.filter_append, List.filter_eq_self.2]
    · simp [hp]
    · intro x hx
      obtain ⟨i, hi, rfl⟩ := List.getElem_of_mem hx
      rw [List.getElem_take]
      simp only [List.length_take] at hi
      rw [hn i (by omega) (by omega)]; rfl, rfl⟩
theorem Del.get (h : Del p l j i L) (hj : j < l.length) : L[j]'(by rw [h.len]; exact hj) = l[j] := by
  have h1 := congrArg (fun z => z[0]?) h.drop
  simp only [List.getElem?_drop, Nat.add_zero] at h1
  rw [List.getElem?_eq_getElem (by rw [h.len]; exact hj), List.getElem?_eq_getElem hj] at h1
  injection h1
theorem Del.skip (h : Del p l j i L) (hj : j < l.length) (hp : p l[j] = true) : Del p l (j + 1) i L :=
  ⟨h.len, by have := h.ij; omega, hj, by
    rw [h.take, List.take_succ_eq_append_getElem hj, List.filter_append]
    simp [hp], by
    have := congrArg (List.drop 1) h.drop
    simpa using this⟩
theorem Del.keep (h : Del p l j i L) (hj : j < l.length) (hp : p l[j] = false) : Del p l (j + 1) (i + 1) (L.set i l[j]) :=
  ⟨by rw [List.length_set]; exact h.len, by have := h.ij; omega, hj, by
    have hi : i < (L.set i l[j]).length := by rw [List.length_set, h.len]; have := h.ij; omega
    rw [List.take_succ_eq_append_getElem hi, List.getElem_set_self, List.take_set_of_le (Nat.le_refl _), h.take, List.take_succ_eq_append_getElem hj, List.filter_append]
    simp [hp], by
    rw [List.drop_set_of_lt (by have := h.ij; omega)]
    have := congrArg (List.drop 1) h.drop
    simpa using this⟩
theorem Del.done (h : Del p l l.length i L) : L.take i = l.filter (fun x => !p x) := by rw [h.take, List.take_length]
end
end Pg
namespace Pg
open Go Go.RowKit
section
variable {α : Type} {w w' : World} {k : Nat} {enc : α → List Value} {l : List α}
theorem RetEls.out2 {e : TypeId} {en : Ending} (hk : ∀ x, (enc x).length = k) (h : RetEls e k enc l w en w') :
    ∃ (a : Option Addr) (c : Nat), en = .returned (.slice a l.length c) ∧ l.length ≤ c ∧ Own w w' e k (.slice a l.length c) l.length (l.flatMap enc) ∧ Els w' (.slice a l.length c) k enc l := by
  obtain ⟨v, rfl, ho⟩ := h
  obtain ⟨a, c, rfl, hc, he⟩ := (Own.els hk ho).form
  exact ⟨a, c, rfl, hc, ho, he⟩
end
theorem class_kept {W0 W w : World} (hC : Hid (∃ p, W = ext W0 p)) (hk : Kept W w) : Hid (∃ p, w = ext W0 p) := by
  obtain ⟨p, rfl⟩ := hC.out
  exact Lib.hid (ext_of ((below_ext W0 p).trans (Below.mono hk (ext_size W0 p))))
theorem kept_on {W0 W Wc w : World} (_ : Hid (∃ p, W = ext W0 p)) (hc : Wc = W ∨ ∃ q, Wc = ext W q) (hk : Kept Wc w) : Kept W w := by
  rcases hc with rfl | ⟨q, rfl⟩
  · exact hk
  · exact Kept.trans (below_ext W q) hk
end Pg
