/- What the writes of an insertion are; where an entry may stand. Plain Lean, no program. -/
import Derived.Test.YtdlikcdmhgbolaaMathI
namespace Pg
open Go
theorem shiftD_last (l : List Slot) (e : Nat) (x : Ent) : ∀ f p, ∃ (A : List Wr) (i : Int), shiftD l e x f p = A ++ [⟨i, ⟨true, x⟩⟩]
  | 0, p => ⟨[], p, rfl⟩
  | f + 1, p => by
    unfold shiftD
    split
    · exact ⟨[], p, rfl⟩
    · obtain ⟨A, i, h⟩ := shiftD_last l e x f (downK l (lenAt l (p - 1)) e (p - 1))
      exact ⟨_ :: A, i, by rw [h]; rfl⟩
theorem shiftU_last (l : List Slot) (e : Nat) (x : Ent) : ∀ f p, ∃ (A : List Wr) (i : Int), shiftU l e x f p = A ++ [⟨i, ⟨true, x⟩⟩]
  | 0, p => ⟨[], p, rfl⟩
  | f + 1, p => by
    unfold shiftU
    split
    · exact ⟨[], p, rfl⟩
    · obtain ⟨A, i, h⟩ := shiftU_last l e x f (upK l (lenAt l (p + 1)) e e (p + 1))
      exact ⟨_ :: A, i, by rw [h]; rfl⟩
theorem insW_len (l : List Slot) (x : Ent) : (insW l x).1.length ≤ l.length + 1 := by
  unfold insW
  split
  · simp
  · split
    · simp
    · have hF := fromK_le x.len l l.length
      have hT := toS_le x.len l
      unfold insR2
      split
      · simp
      · split
        · simp
        · rename_i u _ hu
          obtain ⟨h1, _⟩ := lastE_some l _ u hu
          have := shiftU_len l (fromS x.len l - 1) x (fromS x.len l) u
          unfold fromS at this ⊢
          simp only
          omega
        · rename_i d hd _
          obtain ⟨_, h1, _⟩ := firstE_some l _ _ d hd
          have := shiftD_len l (toS x.len l) x d d
          simp only
          omega
        · rename_i d u hd hu
          obtain ⟨_, h1, _⟩ := firstE_some l _ _ d hd
          have h2 := shiftD_len l (toS x.len l) x d d
          have h3 := shiftU_len l (fromS x.len l - 1) x (fromS x.len l) u
          split
          · unfold fromS at h3 ⊢; simp only; omega
          · simp only; omega
theorem insW_ok {l : List Slot} {x : Ent} (hr : rightE x = true) (hk : keptS l = true) : insW l x = insR2 l x (fromS x.len l) (toS x.len l) := by
  unfold insW; rw [if_neg (by rw [hr]; decide), if_neg (by rw [hk]; decide)]
theorem insW_full {l : List Slot} {x : Ent} (hr : rightE x = true) (hk : keptS l = true) (hf : (entsS l).length = l.length) : insW l x = ([], 3) := by
  obtain ⟨h1, h2, h3⟩ := (full_iff (gap_le hk) (toS_le x.len l)).1 hf
  rw [insW_ok hr hk]
  unfold insR2
  rw [h1, h2, h3]
theorem insW_room {l : List Slot} {x : Ent} (hr : rightE x = true) (hk : keptS l = true) (hf : (entsS l).length ≠ l.length) : ∃ (A : List Wr) (i : Int), insW l x = (A ++ [⟨i, ⟨true, x⟩⟩], 0) := by
  have hn := fun h => hf ((full_iff (gap_le hk) (toS_le x.len l)).2 h)
  rw [insW_ok hr hk]
  unfold insR2
  cases h1 : firstE l (toS x.len l - fromS x.len l) (fromS x.len l) with
  | some g => exact ⟨[], g, rfl⟩
  | none =>
    cases h2 : firstE l (l.length - toS x.len l) (toS x.len l) with
    | none =>
      cases h3 : lastE l (fromS x.len l) with
      | none => exact absurd ⟨h1, h2, h3⟩ hn
      | some u =>
        obtain ⟨A, i, h⟩ := shiftU_last l (fromS x.len l - 1) x (fromS x.len l) u
        exact ⟨A, i, by simp only [h]⟩
    | some d =>
      obtain ⟨B, j, hB⟩ := shiftD_last l (toS x.len l) x d d
      cases h3 : lastE l (fromS x.len l) with
      | none => exact ⟨B, j, by simp only [hB]⟩
      | some u =>
        obtain ⟨A, i, h⟩ := shiftU_last l (fromS x.len l - 1) x (fromS x.len l) u
        simp only
        split
        · exact ⟨A, i, by rw [h]⟩
        · exact ⟨B, j, by rw [hB]⟩
theorem ents_none {l : List Slot} (h : (entsS l).length = 0) : ∀ s ∈ l, s.v = false := by
  unfold entsS at h
  rw [List.length_map, List.length_eq_zero_iff, List.filter_eq_nil_iff] at h
  intro s hs
  have := h s hs
  simpa using this
theorem insW_none {l : List Slot} {x : Ent} (hr : rightE x = true) (hk : keptS l = true) (h0 : (entsS l).length = 0) (hl : 0 < l.length) : insW l x = ([⟨0, ⟨true, x⟩⟩], 0) := by
  have hv := ents_none h0
  have hF : fromS x.len l = 0 := by
    have : ∀ k, fromK x.len l k = 0 := by
      intro k
      rcases Nat.eq_zero_or_pos (fromK x.len l k) with h | h
      · exact h
      · obtain ⟨h1, h2⟩ := fromK_hit x.len l k h
        unfold abv at h2
        rw [hv _ (List.getElem_mem h1)] at h2
        cases h2
    exact this _
  have hT : toS x.len l = l.length := by
    rcases Nat.lt_or_ge (toS x.len l) l.length with h | h
    · have h2 := toS_hit h
      unfold blw at h2
      rw [hv _ (List.getElem_mem h)] at h2
      cases h2
    · have := toS_le x.len l; omega
  rw [insW_ok hr hk, hF, hT]
  have hf : firstE l (l.length - 0) 0 = some 0 := by
    obtain ⟨m, hm⟩ : ∃ m, l.length - 0 = m + 1 := ⟨l.length - 1, by omega⟩
    rw [hm]
    unfold firstE
    rw [emptyAt_get hl, hv _ (List.getElem_mem hl)]
    rfl
  unfold insR2
  rw [hf]
  rfl
theorem gap_tells {l : List Slot} {x : Ent} {k : Nat} (hk : keptS l = true) (hl : k < l.length) (hv : l[k].v = false) : keptS (l.set k ⟨true, x⟩) = (decide (fromS x.len l ≤ k) && decide (k < toS x.len l)) := by
  have h0 := (keptS_iff l).1 hk
  have hlen : (l.set k ⟨true, x⟩).length = l.length := List.length_set
  have hT1 : toS x.len l ≠ k := fun e => by
    have h1 : toS x.len l < l.length := by omega
    have h2 := toS_hit h1
    have h3 : l[toS x.len l] = l[k] := by congr 1
    unfold blw at h2
    rw [h3, hv] at h2; cases h2
  have hF1 : fromS x.len l ≠ k + 1 := fun e => by
    obtain ⟨h1, h2⟩ := fromK_hit x.len l l.length (show 0 < fromS x.len l by omega)
    have h3 : l[fromK x.len l l.length - 1] = l[k] := by congr 1; unfold fromS at e; omega
    unfold abv at h2
    rw [h3, hv] at h2; cases h2
  rw [Bool.eq_iff_iff, keptS_iff, Bool.and_eq_true, decide_eq_true_eq, decide_eq_true_eq]
  constructor
  · intro h
    constructor
    · rcases Nat.lt_or_ge k (fromS x.len l) with hlt | hge
      · exfalso
        obtain ⟨h1, h2⟩ := fromK_hit x.len l l.length (show 0 < fromS x.len l by omega)
        have e1 : fromK x.len l l.length = fromS x.len l := rfl
        have h5 := h k (fromK x.len l l.length - 1) (by omega) (by omega) (by omega)
        rw [List.getElem_set_self, List.getElem_set_ne (by omega)] at h5
        unfold abv at h2
        simp only [Bool.and_eq_true, decide_eq_true_eq] at h2
        have := h5 rfl h2.1
        simp only at this
        omega
      · exact hge
    · rcases Nat.lt_or_ge (toS x.len l) k with hlt | hge
      · exfalso
        have h1 : toS x.len l < l.length := by omega
        have h2 := toS_hit h1
        have h5 := h (toS x.len l) k (by omega) (by omega) (by omega)
        rw [List.getElem_set_self, List.getElem_set_ne (by omega)] at h5
        unfold blw at h2
        simp only [Bool.and_eq_true, decide_eq_true_eq] at h2
        have := h5 h2.1 rfl
        simp only at this
        omega
      · omega
  · rintro ⟨hF, hT⟩ i j hi hj hij
    rw [hlen] at hi hj
    by_cases hik : k = i
    · subst hik
      rw [List.getElem_set_self, List.getElem_set_ne (by omega)]
      intro _ h2
      have h3 := fromK_no x.len l l.length j hj (by unfold fromS at hF; omega) hj
      unfold abv at h3
      rw [h2] at h3
      simp at h3
      exact h3
    · by_cases hjk : k = j
      · subst hjk
        rw [List.getElem_set_self, List.getElem_set_ne (by omega)]
        intro h2 _
        have h3 := toS_no hi (show i < toS x.len l by omega)
        unfold blw at h3
        rw [h2] at h3
        simp at h3
        exact h3
      · rw [List.getElem_set_ne (by omega), List.getElem_set_ne (by omega)]
        exact h0 i j hi hj hij
end Pg
