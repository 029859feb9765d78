/- The writes that have an entry stand in slots that keep the order of lengths. Plain Lean, no program. -/
import Derived.Test.YtdlikcdmhgbolaaPlo2
namespace Pg
open Go
def lenAt (l : List Slot) (i : Nat) : Int := match l[i]? with | some s => s.e.len | none => 0
theorem lenAt_get {l : List Slot} {i : Nat} (h : i < l.length) : lenAt l i = l[i].e.len := by unfold lenAt; rw [List.getElem?_eq_getElem h]
def slotAt (l : List Slot) (i : Nat) : Slot := match l[i]? with | some s => s | none => z0S
  where z0S : Slot := ⟨false, ⟨0#128, 0#128, 0, 0⟩⟩
theorem slotAt_get {l : List Slot} {i : Nat} (h : i < l.length) : slotAt l i = l[i] := by unfold slotAt; rw [List.getElem?_eq_getElem h]
/-- Downwards: where a run of one length ends. -/
def downK (l : List Slot) (m : Int) (e : Nat) : Nat → Nat
  | 0 => 0
  | k + 1 => if k + 1 = e then k + 1 else if lenAt l k = m then downK l m e k else k + 1
theorem downK_le (l : List Slot) (m : Int) (e : Nat) : ∀ k, downK l m e k ≤ k
  | 0 => Nat.le_refl _
  | k + 1 => by
    have := downK_le l m e k
    unfold downK
    split
    · omega
    · split <;> omega
theorem downK_ge (l : List Slot) (m : Int) (e : Nat) : ∀ k, e ≤ k → e ≤ downK l m e k
  | 0, h => h
  | k + 1, h => by
    unfold downK
    split
    · omega
    · split
      · exact downK_ge l m e k (by omega)
      · omega
theorem downK_same (l : List Slot) (m : Int) (e : Nat) : ∀ k, lenAt l k = m → lenAt l (downK l m e k) = m
  | 0, h => h
  | k + 1, h => by
    unfold downK
    split
    · exact h
    · split
      · rename_i h2; exact downK_same l m e k h2
      · exact h
theorem downK_stop (l : List Slot) (m : Int) (e : Nat) : ∀ k, e ≤ k → downK l m e k = e ∨ lenAt l (downK l m e k - 1) ≠ m
  | 0, h => .inl (by unfold downK; omega)
  | k + 1, h => by
    unfold downK
    split
    · rename_i h2; exact .inl h2
    · split
      · exact downK_stop l m e k (by omega)
      · rename_i h2 h3; exact .inr h3
def shiftD (l : List Slot) (e : Nat) (x : Ent) : Nat → Nat → List Wr
  | 0, p => [⟨p, ⟨true, x⟩⟩]
  | f + 1, p => if p ≤ e then [⟨p, ⟨true, x⟩⟩] else ⟨p, slotAt l (downK l (lenAt l (p - 1)) e (p - 1))⟩ :: shiftD l e x f (downK l (lenAt l (p - 1)) e (p - 1))
structure IsLow (l : List Slot) (m : Int) (e p d : Nat) : Prop where
  ge : e ≤ d
  lt : d < p
  same : lenAt l d = m
  no : ∀ i, e ≤ i → i < d → lenAt l i ≠ m
theorem IsLow.uniq {l : List Slot} {m : Int} {e p d d' : Nat} (h : IsLow l m e p d) (h' : IsLow l m e p d') : d = d' := by
  rcases Nat.lt_trichotomy d d' with h1 | h1 | h1
  · exact absurd h.same (h'.no d h.ge h1)
  · exact h1
  · exact absurd h'.same (h.no d' h'.ge h1)
/-- Slots from e up to p whose lengths fall. -/
def Falls (l : List Slot) (e p : Nat) : Prop := ∀ i j, e ≤ i → i ≤ j → j < p → lenAt l j ≤ lenAt l i
theorem downK_low {l : List Slot} {e p : Nat} (h : Falls l e p) (hp : e < p) : IsLow l (lenAt l (p - 1)) e p (downK l (lenAt l (p - 1)) e (p - 1)) := by
  have h1 := downK_le l (lenAt l (p - 1)) e (p - 1)
  have h2 := downK_ge l (lenAt l (p - 1)) e (p - 1) (by omega)
  have h3 := downK_same l (lenAt l (p - 1)) e (p - 1) rfl
  refine ⟨h2, by omega, h3, fun i hi hid he => ?_⟩
  rcases downK_stop l (lenAt l (p - 1)) e (p - 1) (by omega) with h4 | h4
  · omega
  · apply h4
    have a := h i (downK l (lenAt l (p - 1)) e (p - 1) - 1) hi (by omega) (by omega)
    have b := h (downK l (lenAt l (p - 1)) e (p - 1) - 1) (downK l (lenAt l (p - 1)) e (p - 1)) (by omega) (by omega) (by omega)
    omega
/-- Upwards. -/
def upK (l : List Slot) (m : Int) (e : Nat) : Nat → Nat → Nat
  | 0, k => k
  | f + 1, k => if k = e then k else if lenAt l (k + 1) = m then upK l m e f (k + 1) else k
theorem upK_ge (l : List Slot) (m : Int) (e : Nat) : ∀ f k, k ≤ upK l m e f k
  | 0, k => Nat.le_refl _
  | f + 1, k => by
    have := upK_ge l m e f (k + 1)
    unfold upK
    split
    · omega
    · split <;> omega
theorem upK_le (l : List Slot) (m : Int) (e : Nat) : ∀ f k, k ≤ e → upK l m e f k ≤ e
  | 0, k, h => h
  | f + 1, k, h => by
    unfold upK
    split
    · omega
    · split
      · exact upK_le l m e f (k + 1) (by omega)
      · omega
theorem upK_same (l : List Slot) (m : Int) (e : Nat) : ∀ f k, lenAt l k = m → lenAt l (upK l m e f k) = m
  | 0, k, h => h
  | f + 1, k, h => by
    unfold upK
    split
    · exact h
    · split
      · rename_i h2; exact upK_same l m e f (k + 1) h2
      · exact h
theorem upK_stop (l : List Slot) (m : Int) (e : Nat) : ∀ f k, k ≤ e → e - k ≤ f → upK l m e f k = e ∨ lenAt l (upK l m e f k + 1) ≠ m
  | 0, k, h, hf => .inl (by unfold upK; omega)
  | f + 1, k, h, hf => by
    unfold upK
    split
    · rename_i h2; exact .inl h2
    · split
      · exact upK_stop l m e f (k + 1) (by omega) (by omega)
      · rename_i h2 h3; exact .inr h3
def shiftU (l : List Slot) (e : Nat) (x : Ent) : Nat → Nat → List Wr
  | 0, p => [⟨p, ⟨true, x⟩⟩]
  | f + 1, p => if e ≤ p then [⟨p, ⟨true, x⟩⟩] else ⟨p, slotAt l (upK l (lenAt l (p + 1)) e e (p + 1))⟩ :: shiftU l e x f (upK l (lenAt l (p + 1)) e e (p + 1))
structure IsTopmost (l : List Slot) (m : Int) (p e d : Nat) : Prop where
  gt : p < d
  le : d ≤ e
  same : lenAt l d = m
  no : ∀ i, d < i → i ≤ e → lenAt l i ≠ m
theorem IsTopmost.uniq {l : List Slot} {m : Int} {p e d d' : Nat} (h : IsTopmost l m p e d) (h' : IsTopmost l m p e d') : d = d' := by
  rcases Nat.lt_trichotomy d d' with h1 | h1 | h1
  · exact absurd h'.same (h.no d' h1 h'.le)
  · exact h1
  · exact absurd h.same (h'.no d h1 h.le)
theorem upK_top {l : List Slot} {p e : Nat} (h : Falls l (p + 1) (e + 1)) (hp : p < e) : IsTopmost l (lenAt l (p + 1)) p e (upK l (lenAt l (p + 1)) e e (p + 1)) := by
  have h1 := upK_ge l (lenAt l (p + 1)) e e (p + 1)
  have h2 := upK_le l (lenAt l (p + 1)) e e (p + 1) (by omega)
  have h3 := upK_same l (lenAt l (p + 1)) e e (p + 1) rfl
  refine ⟨by omega, h2, h3, fun i hi hie he => ?_⟩
  rcases upK_stop l (lenAt l (p + 1)) e e (p + 1) (by omega) (by omega) with h4 | h4
  · omega
  · apply h4
    have a := h (upK l (lenAt l (p + 1)) e e (p + 1)) (upK l (lenAt l (p + 1)) e e (p + 1) + 1) (by omega) (by omega) (by omega)
    have b := h (upK l (lenAt l (p + 1)) e e (p + 1) + 1) i (by omega) (by omega) (by omega)
    omega
/-- Empty slots. -/
def emptyB (s : Slot) : Bool := !s.v
def emptyAt (l : List Slot) (i : Nat) : Bool := match l[i]? with | some s => !s.v | none => false
theorem emptyAt_get {l : List Slot} {i : Nat} (h : i < l.length) : emptyAt l i = !l[i].v := by unfold emptyAt; rw [List.getElem?_eq_getElem h]
def firstE (l : List Slot) : Nat → Nat → Option Nat
  | 0, _ => none
  | f + 1, a => if emptyAt l a then some a else firstE l f (a + 1)
theorem firstE_none (l : List Slot) : ∀ f a, firstE l f a = none → ∀ i, a ≤ i → i < a + f → emptyAt l i = false
  | 0, a, _, i, h1, h2 => by omega
  | f + 1, a, h, i, h1, h2 => by
    unfold firstE at h
    cases he : emptyAt l a
    · rw [he] at h
      simp only [Bool.false_eq_true, if_false] at h
      rcases Nat.eq_or_lt_of_le h1 with h3 | h3
      · rw [← h3]; exact he
      · exact firstE_none l f (a + 1) h i (by omega) (by omega)
    · rw [he] at h; simp at h
theorem firstE_some (l : List Slot) : ∀ f a g, firstE l f a = some g → a ≤ g ∧ g < a + f ∧ emptyAt l g = true ∧ ∀ i, a ≤ i → i < g → emptyAt l i = false
  | 0, a, g, h => by simp [firstE] at h
  | f + 1, a, g, h => by
    unfold firstE at h
    cases he : emptyAt l a
    · rw [he] at h
      simp only [Bool.false_eq_true, if_false] at h
      obtain ⟨h1, h2, h3, h4⟩ := firstE_some l f (a + 1) g h
      refine ⟨by omega, by omega, h3, fun i hi hig => ?_⟩
      rcases Nat.eq_or_lt_of_le hi with h5 | h5
      · rw [← h5]; exact he
      · exact h4 i (by omega) hig
    · rw [he] at h
      simp only [if_true] at h
      injection h with h
      subst h
      exact ⟨Nat.le_refl _, by omega, he, fun i h1 h2 => by omega⟩
def lastE (l : List Slot) : Nat → Option Nat
  | 0 => none
  | k + 1 => if emptyAt l k then some k else lastE l k
theorem lastE_none (l : List Slot) : ∀ k, lastE l k = none → ∀ i, i < k → emptyAt l i = false
  | 0, _, i, h => by omega
  | k + 1, h, i, hi => by
    unfold lastE at h
    cases he : emptyAt l k
    · rw [he] at h
      simp only [Bool.false_eq_true, if_false] at h
      rcases Nat.lt_or_ge i k with h3 | h3
      · exact lastE_none l k h i h3
      · have : i = k := by omega
        rw [this]; exact he
    · rw [he] at h; simp at h
theorem lastE_some (l : List Slot) : ∀ k u, lastE l k = some u → u < k ∧ emptyAt l u = true ∧ ∀ i, u < i → i < k → emptyAt l i = false
  | 0, u, h => by simp [lastE] at h
  | k + 1, u, h => by
    unfold lastE at h
    cases he : emptyAt l k
    · rw [he] at h
      simp only [Bool.false_eq_true, if_false] at h
      obtain ⟨h1, h2, h3⟩ := lastE_some l k u h
      refine ⟨by omega, h2, fun i hi hik => ?_⟩
      rcases Nat.lt_or_ge i k with h5 | h5
      · exact h3 i hi h5
      · have : i = k := by omega
        rw [this]; exact he
    · rw [he] at h
      simp only [if_true] at h
      injection h with h
      subst h
      exact ⟨by omega, he, fun i h1 h2 => by omega⟩
/-- Valid slots in order fall. -/
theorem falls_of {l : List Slot} (h : keptS l = true) {e p : Nat} (hp : p ≤ l.length) (hv : ∀ i, e ≤ i → i < p → emptyAt l i = false) : Falls l e p := by
  intro i j hi hij hj
  rcases Nat.eq_or_lt_of_le hij with rfl | hlt
  · exact Int.le_refl _
  · have h1 := hv i hi (by omega)
    have h2 := hv j (by omega) hj
    rw [emptyAt_get (by omega)] at h1 h2
    rw [lenAt_get (by omega), lenAt_get (by omega)]
    exact (keptS_iff l).1 h i j (by omega) (by omega) hlt (by simpa using h1) (by simpa using h2)
theorem Falls.sub {l : List Slot} {e p e' p' : Nat} (h : Falls l e p) (h1 : e ≤ e') (h2 : p' ≤ p) : Falls l e' p' := fun i j hi hij hj => h i j (by omega) hij (by omega)
/-- What is written, and what is told. -/
def insR2 (l : List Slot) (x : Ent) (F T : Nat) : List Wr × Int :=
  match firstE l (T - F) F with
  | some g => ([⟨g, ⟨true, x⟩⟩], 0)
  | none => match firstE l (l.length - T) T, lastE l F with
    | none, none => ([], 3)
    | none, some u => (shiftU l (F - 1) x F u, 0)
    | some d, none => (shiftD l T x d d, 0)
    | some d, some u => if (shiftU l (F - 1) x F u).length < (shiftD l T x d d).length then (shiftU l (F - 1) x F u, 0) else (shiftD l T x d d, 0)
def insW (l : List Slot) (x : Ent) : List Wr × Int :=
  if rightE x = false then ([], 1) else if keptS l = false then ([], 7) else insR2 l x (fromS x.len l) (toS x.len l)
theorem ents_full (l : List Slot) : (entsS l).length = l.length ↔ ∀ i, i < l.length → emptyAt l i = false := by
  unfold entsS
  rw [List.length_map, List.length_filter_eq_length_iff]
  constructor
  · intro h i hi
    rw [emptyAt_get hi, h _ (List.getElem_mem hi)]; rfl
  · intro h s hs
    obtain ⟨i, hi, rfl⟩ := List.getElem_of_mem hs
    have := h i hi
    rw [emptyAt_get hi] at this
    simpa using this
/-- There is no empty slot just if there is none in any of the three parts. -/
theorem full_iff {l : List Slot} {F T : Nat} (h1 : F ≤ T) (h2 : T ≤ l.length) : (entsS l).length = l.length ↔ firstE l (T - F) F = none ∧ firstE l (l.length - T) T = none ∧ lastE l F = none := by
  rw [ents_full]
  constructor
  · intro h
    refine ⟨?_, ?_, ?_⟩
    · cases hf : firstE l (T - F) F with
      | none => rfl
      | some g => obtain ⟨a, b, c, _⟩ := firstE_some l _ _ g hf; rw [h g (by omega)] at c; cases c
    · cases hf : firstE l (l.length - T) T with
      | none => rfl
      | some g => obtain ⟨a, b, c, _⟩ := firstE_some l _ _ g hf; rw [h g (by omega)] at c; cases c
    · cases hf : lastE l F with
      | none => rfl
      | some g => obtain ⟨a, b, _⟩ := lastE_some l _ g hf; rw [h g (by omega)] at b; cases b
  · rintro ⟨ha, hb, hc⟩ i hi
    rcases Nat.lt_or_ge i F with h3 | h3
    · exact lastE_none l F hc i h3
    · rcases Nat.lt_or_ge i T with h4 | h4
      · exact firstE_none l _ _ ha i h3 (by omega)
      · exact firstE_none l _ _ hb i h4 (by omega)
theorem idx_first (l : List Slot) (a b : Nat) (hab : a ≤ b) (hb : b ≤ l.length) : idxI emptyB ((l.drop a).take (b - a)) = match firstE l (b - a) a with | some g => (g : Int) - (a : Int) | none => -1 := by
  have hlen : ((l.drop a).take (b - a)).length = b - a := by rw [List.length_take, List.length_drop]; omega
  have hget : ∀ i (h : i < ((l.drop a).take (b - a)).length), emptyB ((l.drop a).take (b - a))[i] = emptyAt l (a + i) := fun i h => by
    rw [hlen] at h
    rw [List.getElem_take, List.getElem_drop, emptyAt_get (by omega)]; rfl
  cases hf : firstE l (b - a) a with
  | none =>
    exact idxI_miss _ _ fun i h => by
      rw [hget i h]
      rw [hlen] at h
      exact firstE_none l _ _ hf (a + i) (by omega) (by omega)
  | some g =>
    obtain ⟨h1, h2, h3, h4⟩ := firstE_some l _ _ g hf
    have := idxI_hit emptyB ((l.drop a).take (b - a)) (g - a) (by rw [hlen]; omega) (by rw [hget _ (by rw [hlen]; omega), show a + (g - a) = g by omega]; exact h3) fun i h hi => by
      rw [hget i h]
      exact h4 (a + i) (by omega) (by omega)
    rw [this]
    show ((g - a : Nat) : Int) = (g : Int) - (a : Int)
    omega
theorem shiftD_ne (l : List Slot) (e : Nat) (x : Ent) : ∀ f p, 0 < (shiftD l e x f p).length
  | 0, p => by simp [shiftD]
  | f + 1, p => by unfold shiftD; split <;> simp
theorem shiftU_ne (l : List Slot) (e : Nat) (x : Ent) : ∀ f p, 0 < (shiftU l e x f p).length
  | 0, p => by simp [shiftU]
  | f + 1, p => by unfold shiftU; split <;> simp
theorem shiftD_len (l : List Slot) (e : Nat) (x : Ent) : ∀ f p, (shiftD l e x f p).length ≤ f + 1
  | 0, p => by simp [shiftD]
  | f + 1, p => by
    unfold shiftD
    split
    · simp
    · rw [List.length_cons]; have := shiftD_len l e x f (downK l (lenAt l (p - 1)) e (p - 1)); omega
theorem shiftU_len (l : List Slot) (e : Nat) (x : Ent) : ∀ f p, (shiftU l e x f p).length ≤ f + 1
  | 0, p => by simp [shiftU]
  | f + 1, p => by
    unfold shiftU
    split
    · simp
    · rw [List.length_cons]; have := shiftU_len l e x f (upK l (lenAt l (p + 1)) e e (p + 1)); omega
end Pg
