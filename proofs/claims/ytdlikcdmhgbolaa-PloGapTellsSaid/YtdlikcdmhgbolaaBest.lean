/- The best entry for an address: entry.Best, Tell, and the reference's. -/
import Derived.Test.YtdlikcdmhgbolaaEnt
namespace Pg
open Go
/-- The best one of the first k: the longest that matches, of these the first one. -/
def bestF (l : List Ent) (a : B) : Nat → Option Nat
  | 0 => none
  | k + 1 => match l[k]? with
    | none => bestF l a k
    | some e => if matchW e.x e.m a then (match bestF l a k with
      | none => some k
      | some b => if ((l[b]?).map Ent.len).getD 0 < e.len then some k else some b) else bestF l a k
theorem bestF_succ (l : List Ent) (a : B) (k : Nat) (e : Ent) (h : l[k]? = some e) : bestF l a (k + 1) = if matchW e.x e.m a then (match bestF l a k with
      | none => some k
      | some b => if ((l[b]?).map Ent.len).getD 0 < e.len then some k else some b) else bestF l a k := by
  rw [bestF, h]
/-- The best one of those from k on. -/
def bestR (l : List Ent) (a : B) (n : Nat) : Nat → Option Nat
  | 0 => none
  | j + 1 => match l[n - 1 - j]? with
    | none => bestR l a n j
    | some e => if matchW e.x e.m a then (match bestR l a n j with
      | none => some (n - 1 - j)
      | some b => if ((l[b]?).map Ent.len).getD 0 ≤ e.len then some (n - 1 - j) else some b) else bestR l a n j
theorem bestR_succ (l : List Ent) (a : B) (n j : Nat) (e : Ent) (h : l[n - 1 - j]? = some e) : bestR l a n (j + 1) = if matchW e.x e.m a then (match bestR l a n j with
      | none => some (n - 1 - j)
      | some b => if ((l[b]?).map Ent.len).getD 0 ≤ e.len then some (n - 1 - j) else some b) else bestR l a n j := by
  rw [bestR, h]
/-- What best says: nothing before .., of those whose places p tells. -/
def isBest (l : List Ent) (a : B) (p : Nat → Prop) : Option Nat → Prop
  | none => ∀ i (h : i < l.length), p i → matchW l[i].x l[i].m a = false
  | some b => ∃ h : b < l.length, p b ∧ matchW l[b].x l[b].m a = true ∧ ∀ i (h2 : i < l.length), p i → matchW l[i].x l[i].m a = true → l[i].len < l[b].len ∨ (l[i].len = l[b].len ∧ b ≤ i)
theorem isBest_uniq {l : List Ent} {a : B} {p : Nat → Prop} {x y : Option Nat} (hx : isBest l a p x) (hy : isBest l a p y) : x = y := by
  cases x with
  | none => cases y with
    | none => rfl
    | some c => obtain ⟨h, hp, hm, _⟩ := hy; rw [hx c h hp] at hm; cases hm
  | some b => cases y with
    | none => obtain ⟨h, hp, hm, _⟩ := hx; rw [hy b h hp] at hm; cases hm
    | some c =>
      obtain ⟨h, hp, hm, hb⟩ := hx
      obtain ⟨h', hp', hm', hc⟩ := hy
      have h1 := hb c h' hp' hm'
      have h2 := hc b h hp hm
      congr 1
      omega
theorem bestF_is (l : List Ent) (a : B) : ∀ k, k ≤ l.length → isBest l a (· < k) (bestF l a k)
  | 0, _ => fun i _ h => by omega
  | k + 1, hk => by
    have ih := bestF_is l a k (by omega)
    have hkl : k < l.length := by omega
    unfold bestF
    rw [List.getElem?_eq_getElem hkl]
    simp only
    cases hm : matchW l[k].x l[k].m a
    · simp only [Bool.false_eq_true, if_false]
      cases hb : bestF l a k with
      | none =>
        rw [hb] at ih
        intro i hi hik
        rcases Nat.lt_or_ge i k with h | h
        · exact ih i hi h
        · have : i = k := by omega
          subst this; exact hm
      | some b =>
        rw [hb] at ih
        obtain ⟨h1, h2, h3, h4⟩ := ih
        refine ⟨h1, by omega, h3, fun i hi hik hmi => ?_⟩
        rcases Nat.lt_or_ge i k with h | h
        · exact h4 i hi h hmi
        · have : i = k := by omega
          subst this; rw [hm] at hmi; cases hmi
    · simp only [if_true]
      cases hb : bestF l a k with
      | none =>
        rw [hb] at ih
        refine ⟨hkl, by omega, hm, fun i hi hik hmi => ?_⟩
        rcases Nat.lt_or_ge i k with h | h
        · rw [ih i hi h] at hmi; cases hmi
        · have : i = k := by omega
          subst this; exact .inr ⟨rfl, Nat.le_refl _⟩
      | some b =>
        rw [hb] at ih
        obtain ⟨h1, h2, h3, h4⟩ := ih
        simp only [List.getElem?_eq_getElem h1, Option.map_some, Option.getD_some]
        by_cases hlt : l[b].len < l[k].len
        · rw [if_pos hlt]
          refine ⟨hkl, by omega, hm, fun i hi hik hmi => ?_⟩
          rcases Nat.lt_or_ge i k with h | h
          · have := h4 i hi h hmi
            omega
          · have : i = k := by omega
            subst this; exact .inr ⟨rfl, Nat.le_refl _⟩
        · rw [if_neg hlt]
          refine ⟨h1, by omega, h3, fun i hi hik hmi => ?_⟩
          rcases Nat.lt_or_ge i k with h | h
          · exact h4 i hi h hmi
          · have : i = k := by omega
            subst this; omega
theorem bestR_is (l : List Ent) (a : B) : ∀ j, j ≤ l.length → isBest l a (fun i => l.length - j ≤ i) (bestR l a l.length j)
  | 0, _ => fun i h h2 => by omega
  | j + 1, hj => by
    have ih := bestR_is l a j (by omega)
    have hkl : l.length - 1 - j < l.length := by omega
    unfold bestR
    rw [List.getElem?_eq_getElem hkl]
    simp only
    cases hm : matchW l[l.length - 1 - j].x l[l.length - 1 - j].m a
    · simp only [Bool.false_eq_true, if_false]
      cases hb : bestR l a l.length j with
      | none =>
        rw [hb] at ih
        intro i hi hik
        rcases Nat.lt_or_ge i (l.length - j) with h | h
        · have : i = l.length - 1 - j := by omega
          subst this; exact hm
        · exact ih i hi h
      | some b =>
        rw [hb] at ih
        obtain ⟨h1, h2, h3, h4⟩ := ih
        refine ⟨h1, by omega, h3, fun i hi hik hmi => ?_⟩
        rcases Nat.lt_or_ge i (l.length - j) with h | h
        · have : i = l.length - 1 - j := by omega
          subst this; rw [hm] at hmi; cases hmi
        · exact h4 i hi h hmi
    · simp only [if_true]
      cases hb : bestR l a l.length j with
      | none =>
        rw [hb] at ih
        refine ⟨hkl, by omega, hm, fun i hi hik hmi => ?_⟩
        rcases Nat.lt_or_ge i (l.length - j) with h | h
        · have : i = l.length - 1 - j := by omega
          subst this; exact .inr ⟨rfl, Nat.le_refl _⟩
        · rw [ih i hi h] at hmi; cases hmi
      | some b =>
        rw [hb] at ih
        obtain ⟨h1, h2, h3, h4⟩ := ih
        simp only [List.getElem?_eq_getElem h1, Option.map_some, Option.getD_some]
        by_cases hlt : l[b].len ≤ l[l.length - 1 - j].len
        · rw [if_pos hlt]
          refine ⟨hkl, by omega, hm, fun i hi hik hmi => ?_⟩
          rcases Nat.lt_or_ge i (l.length - j) with h | h
          · have : i = l.length - 1 - j := by omega
            subst this; exact .inr ⟨rfl, Nat.le_refl _⟩
          · have := h4 i hi h hmi
            omega
        · rw [if_neg hlt]
          refine ⟨h1, by omega, h3, fun i hi hik hmi => ?_⟩
          rcases Nat.lt_or_ge i (l.length - j) with h | h
          · have : i = l.length - 1 - j := by omega
            subst this; left; omega
          · exact h4 i hi h hmi
def bestE (l : List Ent) (a : B) : Option Nat := bestF l a l.length
theorem bestE_is (l : List Ent) (a : B) : isBest l a (fun _ => True) (bestE l a) := by
  have h := bestF_is l a l.length (Nat.le_refl _)
  unfold bestE
  cases hb : bestF l a l.length with
  | none => rw [hb] at h; exact fun i hi _ => h i hi hi
  | some b =>
    rw [hb] at h
    obtain ⟨h1, h2, h3, h4⟩ := h
    exact ⟨h1, trivial, h3, fun i hi _ hm => h4 i hi hi hm⟩
theorem bestR_eq (l : List Ent) (a : B) : bestR l a l.length l.length = bestE l a := by
  refine isBest_uniq (l := l) (a := a) (p := fun _ => True) ?_ (bestE_is l a)
  have h := bestR_is l a l.length (Nat.le_refl _)
  cases hb : bestR l a l.length l.length with
  | none => rw [hb] at h; exact fun i hi _ => h i hi (by omega)
  | some b =>
    rw [hb] at h
    obtain ⟨h1, h2, h3, h4⟩ := h
    exact ⟨h1, trivial, h3, fun i hi _ hm => h4 i hi (by omega) hm⟩
/-- What is to be done. -/
def tellE (l : List Ent) (a : B) : Int := match bestE l a with | none => 0 | some b => ((l[b]?).map Ent.act).getD 0
/-- A place as Go has it. -/
def atI : Option Nat → Int | none => -1 | some b => (b : Int)
def atO : Option Nat → Int | none => 0 | some b => (b : Int)
theorem bestF_lt {l : List Ent} {a : B} {k b : Nat} (hk : k ≤ l.length) (h : bestF l a k = some b) : b < k := by
  have := bestF_is l a k hk
  rw [h] at this
  exact this.2.1
theorem bestR_lt {l : List Ent} {a : B} {j b : Nat} (hj : j ≤ l.length) (h : bestR l a l.length j = some b) : b < l.length := by
  have := bestR_is l a j hj
  rw [h] at this
  exact this.1
end Pg
