/- Slots in the order of lengths: whether they keep it, the gap of a length, how many lengths there are. Plain Lean, no program. -/
import Derived.Test.YtdlikcdmhgbolaaBank7
import Derived.Test.YtdlikcdmhgbolaaOrd
namespace Pg
open Go
def keptE : List Ent → Bool
  | [] => true
  | e :: l => (match l with | [] => true | f :: _ => decide (f.len ≤ e.len)) && keptE l
theorem keptE_pair : ∀ l : List Ent, keptE l = true ↔ l.Pairwise fun e f => f.len ≤ e.len
  | [] => by simp [keptE]
  | [e] => by simp [keptE]
  | e :: f :: l => by
    have ih := keptE_pair (f :: l)
    have hk : keptE (e :: f :: l) = (decide (f.len ≤ e.len) && keptE (f :: l)) := rfl
    rw [hk, Bool.and_eq_true, decide_eq_true_eq, ih, List.pairwise_cons (a := e)]
    constructor
    · rintro ⟨h1, h2⟩
      refine ⟨fun g hg => ?_, h2⟩
      rcases List.mem_cons.1 hg with rfl | hg
      · exact h1
      · have := (List.pairwise_cons.1 h2).1 g hg; omega
    · rintro ⟨h1, h2⟩
      exact ⟨h1 f (by simp), h2⟩
theorem keptE_drop (l : List Ent) (i : Nat) (h : keptE l = true) : keptE (l.drop i) = true := by
  rw [keptE_pair] at h ⊢
  exact h.sublist (List.drop_sublist _ _)
theorem keptE_step (l : List Ent) (i : Nat) (hi : i + 1 < l.length) : keptE (l.drop i) = (decide ((l[i + 1]).len ≤ (l[i]'(by omega)).len) && keptE (l.drop (i + 1))) := by
  rw [List.drop_eq_getElem_cons (show i < l.length by omega), List.drop_eq_getElem_cons hi]
  rfl
def keptS (l : List Slot) : Bool := keptE (entsS l)
theorem keptS_iff (l : List Slot) : keptS l = true ↔ ∀ (i j : Nat) (hi : i < l.length) (hj : j < l.length), i < j → l[i].v = true → l[j].v = true → l[j].e.len ≤ l[i].e.len := by
  unfold keptS entsS
  rw [keptE_pair, List.pairwise_map, List.pairwise_filter, List.pairwise_iff_getElem]
def abv (n : Int) (s : Slot) : Bool := s.v && decide (n < s.e.len)
def blw (n : Int) (s : Slot) : Bool := s.v && decide (s.e.len < n)
def fromK (n : Int) (l : List Slot) : Nat → Nat
  | 0 => 0
  | k + 1 => if (match l[k]? with | some s => abv n s | none => false) then k + 1 else fromK n l k
def fromS (n : Int) (l : List Slot) : Nat := fromK n l l.length
theorem fromK_yes {n : Int} {l : List Slot} {k : Nat} (hk : k < l.length) (h : abv n l[k] = true) : fromK n l (k + 1) = k + 1 := by
  unfold fromK; rw [List.getElem?_eq_getElem hk]; simp [h]
theorem fromK_not {n : Int} {l : List Slot} {k : Nat} (hk : k < l.length) (h : abv n l[k] = false) : fromK n l (k + 1) = fromK n l k := by
  conv => lhs; unfold fromK
  rw [List.getElem?_eq_getElem hk]; simp [h]
theorem fromK_le (n : Int) (l : List Slot) : ∀ k, fromK n l k ≤ k
  | 0 => Nat.le_refl _
  | k + 1 => by
    have := fromK_le n l k
    rcases Nat.lt_or_ge k l.length with hk | hk
    · cases ha : abv n l[k]
      · rw [fromK_not hk ha]; omega
      · rw [fromK_yes hk ha]; omega
    · unfold fromK
      rw [List.getElem?_eq_none hk]; simp; omega
theorem fromK_hit (n : Int) (l : List Slot) : ∀ k, 0 < fromK n l k → ∃ h : fromK n l k - 1 < l.length, abv n l[fromK n l k - 1] = true
  | 0, h => by simp [fromK] at h
  | k + 1, h => by
    rcases Nat.lt_or_ge k l.length with hk | hk
    · cases ha : abv n l[k]
      · simp only [fromK_not hk ha] at h ⊢
        exact fromK_hit n l k h
      · simp only [fromK_yes hk ha, Nat.add_sub_cancel]
        exact ⟨hk, ha⟩
    · have e : fromK n l (k + 1) = fromK n l k := by
        conv => lhs; unfold fromK
        rw [List.getElem?_eq_none hk]; simp
      simp only [e] at h ⊢
      exact fromK_hit n l k h
theorem fromK_no (n : Int) (l : List Slot) : ∀ k, ∀ i (h : i < l.length), fromK n l k ≤ i → i < k → abv n l[i] = false
  | 0, i, _, _, hi => by omega
  | k + 1, i, h, hf, hi => by
    rcases Nat.lt_or_ge k l.length with hk | hk
    · cases ha : abv n l[k]
      · rw [fromK_not hk ha] at hf
        rcases Nat.lt_or_ge i k with h2 | h2
        · exact fromK_no n l k i h hf h2
        · have : i = k := by omega
          subst this; exact ha
      · rw [fromK_yes hk ha] at hf; omega
    · have e : fromK n l (k + 1) = fromK n l k := by
        conv => lhs; unfold fromK
        rw [List.getElem?_eq_none hk]; simp
      rw [e] at hf
      exact fromK_no n l k i h hf (by omega)
def toS (n : Int) (l : List Slot) : Nat := l.findIdx (blw n)
theorem toS_le (n : Int) (l : List Slot) : toS n l ≤ l.length := List.findIdx_le_length
theorem toS_hit {n : Int} {l : List Slot} (h : toS n l < l.length) : blw n l[toS n l] = true := List.findIdx_getElem (w := h)
theorem toS_no {n : Int} {l : List Slot} {i : Nat} (h : i < l.length) (hi : i < toS n l) : blw n l[i] = false := by
  have := List.not_of_lt_findIdx hi
  simpa using this
/-- How the loop upwards stands. -/
def toU (n : Int) (l : List Slot) (k : Nat) : Nat := if toS n l < k then toS n l else l.length
theorem toU_yes {n : Int} {l : List Slot} {k : Nat} (hk : k < l.length) (h : blw n l[k] = true) : toU n l (k + 1) = min (toU n l k) k := by
  have h1 : toS n l ≤ k := by
    rcases Nat.lt_or_ge k (toS n l) with h2 | h2
    · rw [toS_no hk h2] at h; cases h
    · exact h2
  unfold toU
  rw [if_pos (by omega)]
  split <;> omega
theorem toU_not {n : Int} {l : List Slot} {k : Nat} (hk : k < l.length) (h : blw n l[k] = false) : toU n l (k + 1) = toU n l k := by
  have h1 : toS n l ≠ k := fun e => by
    have hlt : toS n l < l.length := by omega
    have h2 := toS_hit hlt
    have h3 : l[toS n l] = l[k] := by congr 1
    rw [h3, h] at h2; cases h2
  unfold toU
  by_cases h2 : toS n l < k
  · rw [if_pos (by omega), if_pos h2]
  · rw [if_neg (by omega), if_neg h2]
theorem toU_last (n : Int) (l : List Slot) : toU n l l.length = toS n l := by
  unfold toU
  have := toS_le n l
  split <;> omega
/-- How the loop downwards stands. -/
def toD (n : Int) (l : List Slot) (j : Nat) : Nat := j + (l.drop j).findIdx (blw n)
theorem toD_yes {n : Int} {l : List Slot} {k : Nat} (hk : k < l.length) (h : blw n l[k] = true) : toD n l k = k := by
  unfold toD
  rw [List.drop_eq_getElem_cons hk, List.findIdx_cons, h]; rfl
theorem toD_not {n : Int} {l : List Slot} {k : Nat} (hk : k < l.length) (h : blw n l[k] = false) : toD n l k = toD n l (k + 1) := by
  unfold toD
  rw [List.drop_eq_getElem_cons hk, List.findIdx_cons, h]
  simp only [cond_false]
  omega
theorem toD_last (n : Int) (l : List Slot) : toD n l l.length = l.length := by unfold toD; simp
theorem toD_first (n : Int) (l : List Slot) : toD n l 0 = toS n l := by unfold toD toS; simp
theorem gap_le {n : Int} {l : List Slot} (h : keptS l = true) : fromS n l ≤ toS n l := by
  rcases Nat.lt_or_ge (toS n l) (fromS n l) with hlt | hge
  · exfalso
    have hf := fromK_le n l l.length
    obtain ⟨h1, h2⟩ := fromK_hit n l l.length (show 0 < fromS n l by omega)
    have h3 : toS n l < l.length := by unfold fromS at hlt; omega
    have h4 := toS_hit h3
    have e : fromK n l l.length - 1 = fromS n l - 1 := rfl
    unfold abv at h2
    unfold blw at h4
    simp only [Bool.and_eq_true, decide_eq_true_eq] at h2 h4
    rw [keptS_iff] at h
    rcases Nat.lt_or_ge (toS n l) (fromK n l l.length - 1) with h5 | h5
    · have := h (toS n l) (fromK n l l.length - 1) h3 h1 h5 h4.1 h2.1; omega
    · have h6 : toS n l = fromK n l l.length - 1 := by unfold fromS at hlt; omega
      have h7 : l[toS n l] = l[fromK n l l.length - 1] := by congr 1
      rw [h7] at h4
      omega
  · exact hge
/-- The lengths that there are. -/
def lenE (ks : List Int) (e : Ent) : List Int := if e.len ∈ ks then ks else ks ++ [e.len]
def lensE (l : List Ent) : List Int := l.foldl lenE []
theorem lensE_snoc (l : List Ent) (e : Ent) : lensE (l ++ [e]) = lenE (lensE l) e := by unfold lensE; rw [List.foldl_append]; rfl
theorem ent_ind {P : List Ent → Prop} (h0 : P []) (hs : ∀ l r, P l → P (l ++ [r])) (l : List Ent) : P l := by
  rw [← List.reverse_reverse l]
  induction l.reverse with
  | nil => exact h0
  | cons r l ih => rw [List.reverse_cons]; exact hs _ _ ih
theorem lensE_mem (x : Int) (l : List Ent) : x ∈ lensE l ↔ ∃ e ∈ l, e.len = x := by
  induction l using ent_ind with
  | h0 => simp [lensE]
  | hs l e ih =>
    rw [lensE_snoc]
    unfold lenE
    split
    · rename_i h
      rw [ih]
      constructor
      · rintro ⟨f, hf, he⟩; exact ⟨f, by simp [hf], he⟩
      · rintro ⟨f, hf, he⟩
        rcases List.mem_append.1 hf with hf | hf
        · exact ⟨f, hf, he⟩
        · rw [List.mem_singleton.1 hf] at he
          rw [he] at h
          exact ih.1 h
    · rw [List.mem_append, ih, List.mem_singleton]
      constructor
      · rintro (⟨f, hf, he⟩ | rfl)
        · exact ⟨f, by simp [hf], he⟩
        · exact ⟨e, by simp, rfl⟩
      · rintro ⟨f, hf, he⟩
        rcases List.mem_append.1 hf with hf | hf
        · exact .inl ⟨f, hf, he⟩
        · rw [List.mem_singleton.1 hf] at he
          exact .inr he.symm
def lensN (l : List Slot) : Nat := (lensE (entsS l)).length
theorem lensE_len (l : List Ent) : (lensE l).length ≤ l.length := by
  induction l using ent_ind with
  | h0 => simp [lensE]
  | hs l e ih =>
    rw [lensE_snoc, List.length_append]
    unfold lenE
    split
    · simp; omega
    · rw [List.length_append]; simp; omega
theorem lensN_le (l : List Slot) : lensN l ≤ (entsS l).length := lensE_len _
/-- Ordered by length is ordered. -/
theorem ord_of_kept {l : List Slot} (h : keptS l = true) : ordE (entsS l) = true := by
  have h1 := (keptE_pair _).1 h
  have : ∀ l : List Ent, l.Pairwise (fun e f => f.len ≤ e.len) → ordE l = true := by
    intro l
    induction l with
    | nil => intro _; rfl
    | cons e l ih =>
      intro hp
      rw [List.pairwise_cons] at hp
      unfold ordE
      rw [ih hp.2, Bool.and_true, List.all_eq_true]
      intro f hf
      have := hp.1 f hf
      unfold aboveE
      rw [decide_eq_false (by omega)]; rfl
  exact this _ h1
end Pg
