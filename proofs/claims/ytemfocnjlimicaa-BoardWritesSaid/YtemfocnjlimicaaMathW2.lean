/- Ternary words: bits that are told. Plain Lean, no program. Words of prefixes; words with one bit turned. Plain Lean, no program. -/
import Derived.Test.YtemfocnjlimicaaMathP
namespace Pg
open Go

def differB (a b m : B) : B := (a ^^^ b) &&& m
def matchW (x m a : B) : Bool := decide (differB x a m = 0#128)
def coversW (x m y n : B) : Bool := decide (m &&& n = m) && matchW x m y
def meetW (x m y n : B) : Bool := decide (differB x y (m &&& n) = 0#128)
theorem zero_iff (x : B) : x = 0#128 ↔ ∀ k, k < 128 → bt x k = false := by
  constructor
  · rintro rfl k _; exact bt_zero k
  · intro h; apply ext_bt; intro k hk; rw [h k hk, bt_zero]
theorem bt_differ (a b m : B) (k : Nat) : bt (differB a b m) k = ((bt a k != bt b k) && bt m k) := by unfold differB; rw [bt_and, bt_xor]
theorem matchW_iff (x m a : B) : matchW x m a = true ↔ ∀ k, k < 128 → bt m k = true → bt x k = bt a k := by
  unfold matchW
  rw [decide_eq_true_eq, zero_iff]
  constructor
  · intro h k hk hm
    have := h k hk
    rw [bt_differ, hm] at this
    revert this; cases bt x k <;> cases bt a k <;> simp
  · intro h k hk
    rw [bt_differ]
    cases hm : bt m k
    · simp
    · rw [h k hk hm]; simp
theorem sub_iff (m n : B) : m &&& n = m ↔ ∀ k, k < 128 → bt m k = true → bt n k = true := by
  constructor
  · intro h k hk hm
    have e := congrArg (fun z => bt z k) h
    simp only [bt_and, hm] at e
    simpa using e
  · intro h; apply ext_bt; intro k hk
    rw [bt_and]
    cases hm : bt m k
    · rfl
    · rw [h k hk hm]; rfl
theorem coversW_iff (x m y n : B) : coversW x m y n = true ↔ ∀ k, k < 128 → bt m k = true → bt n k = true ∧ bt x k = bt y k := by
  unfold coversW
  rw [Bool.and_eq_true, decide_eq_true_eq, sub_iff, matchW_iff]
  exact ⟨fun h k hk hm => ⟨h.1 k hk hm, h.2 k hk hm⟩, fun h => ⟨fun k hk hm => (h k hk hm).1, fun k hk hm => (h k hk hm).2⟩⟩
theorem meetW_iff (x m y n : B) : meetW x m y n = true ↔ ∀ k, k < 128 → bt m k = true → bt n k = true → bt x k = bt y k := by
  have h := matchW_iff x (m &&& n) y
  unfold matchW at h
  unfold meetW
  rw [h]
  constructor
  · intro h k hk hm hn; exact h k hk (by rw [bt_and, hm, hn]; rfl)
  · intro h k hk hmn
    rw [bt_and, Bool.and_eq_true] at hmn
    exact h k hk hmn.1 hmn.2
theorem meetW_comm (x m y n : B) : meetW x m y n = meetW y n x m := by
  rw [Bool.eq_iff_iff, meetW_iff, meetW_iff]
  exact ⟨fun h k hk hn hm => (h k hk hm hn).symm, fun h k hk hm hn => (h k hk hn hm).symm⟩
theorem coversW_trans {x m y n z l : B} (h : coversW x m y n = true) (h' : coversW y n z l = true) : coversW x m z l = true := by
  rw [coversW_iff] at *
  intro k hk hm
  have h1 := h k hk hm
  have h2 := h' k hk h1.1
  exact ⟨h2.1, h1.2.trans h2.2⟩
theorem coversW_match {x m y n a : B} (h : coversW x m y n = true) (h' : matchW y n a = true) : matchW x m a = true := by
  rw [coversW_iff] at h
  rw [matchW_iff] at *
  intro k hk hm
  have h1 := h k hk hm
  exact h1.2.trans (h' k hk h1.1)
theorem coversW_self (x m : B) : coversW x m x m = true := (coversW_iff _ _ _ _).2 fun _ _ h => ⟨h, rfl⟩
/-! what both match -/
theorem both_right (x m y n : B) : ((x &&& m) ||| (y &&& n)) &&& (m ||| n) = (x &&& m) ||| (y &&& n) := by
  apply ext_bt; intro k hk
  simp only [bt_and, bt_or]
  cases bt x k <;> cases bt m k <;> cases bt y k <;> cases bt n k <;> rfl
theorem both_match {x m y n : B} (h : meetW x m y n = true) (a : B) : matchW ((x &&& m) ||| (y &&& n)) (m ||| n) a = (matchW x m a && matchW y n a) := by
  rw [meetW_iff] at h
  rw [Bool.eq_iff_iff, Bool.and_eq_true, matchW_iff, matchW_iff, matchW_iff]
  constructor
  · intro h2
    refine ⟨fun k hk hm => ?_, fun k hk hn => ?_⟩
    · have e := h2 k hk (by rw [bt_or, hm]; rfl)
      rw [← e]
      simp only [bt_and, bt_or, hm]
      cases hn : bt n k
      · simp
      · rw [h k hk hm hn]; simp
    · have e := h2 k hk (by rw [bt_or, hn]; simp)
      rw [← e]
      simp only [bt_and, bt_or, hn]
      cases hm : bt m k
      · simp
      · rw [h k hk hm hn]; simp
  · rintro ⟨h1, h2⟩ k hk hmn
    simp only [bt_and, bt_or] at *
    cases hm : bt m k
    · cases hn : bt n k
      · rw [hm, hn] at hmn; cases hmn
      · rw [h2 k hk hn]; simp
    · rw [h1 k hk hm]
      cases hn : bt n k
      · simp
      · rw [h2 k hk hn]; simp
theorem both_covers {x m y n : B} (h : meetW x m y n = true) : coversW x m ((x &&& m) ||| (y &&& n)) (m ||| n) = true ∧ coversW y n ((x &&& m) ||| (y &&& n)) (m ||| n) = true := by
  rw [meetW_iff] at h
  refine ⟨(coversW_iff _ _ _ _).2 fun k hk hm => ⟨by rw [bt_or, hm]; rfl, ?_⟩, (coversW_iff _ _ _ _).2 fun k hk hn => ⟨by rw [bt_or, hn]; simp, ?_⟩⟩
  · simp only [bt_and, bt_or, hm]
    cases hn : bt n k
    · simp
    · rw [h k hk hm hn]; simp
  · simp only [bt_and, bt_or, hn]
    cases hm : bt m k
    · simp
    · rw [h k hk hm hn]; simp
theorem no_meet {x m y n : B} (h : meetW x m y n = false) (a : B) : (matchW x m a && matchW y n a) = false := by
  rw [Bool.eq_false_iff]
  intro hc
  rw [Bool.and_eq_true, matchW_iff, matchW_iff] at hc
  rw [Bool.eq_false_iff] at h
  exact h ((meetW_iff _ _ _ _).2 fun k hk hm hn => (hc.1 k hk hm).trans (hc.2 k hk hn).symm)
/-! one bit -/
theorem ones_one (d : B) (h : ones d = 1) : ∃ k, k < 128 ∧ bt d k = true ∧ ∀ j, j < 128 → bt d j = true → j = k := by
  unfold ones at h
  have h1 : (List.range 128).filter (fun k => bt d k) ≠ [] := fun e => by
    rw [List.countP_eq_length_filter, e] at h; cases h
  rw [List.countP_eq_length_filter] at h
  obtain ⟨k, hk⟩ : ∃ k, (List.range 128).filter (fun k => bt d k) = [k] := by
    match hl : (List.range 128).filter (fun k => bt d k), h with
    | [k], _ => exact ⟨k, rfl⟩
  have hin : k ∈ (List.range 128).filter (fun k => bt d k) := by rw [hk]; simp
  rw [List.mem_filter, List.mem_range] at hin
  refine ⟨k, hin.1, hin.2, fun j hj hb => ?_⟩
  have : j ∈ (List.range 128).filter (fun k => bt d k) := List.mem_filter.2 ⟨List.mem_range.2 hj, hb⟩
  rw [hk] at this
  simpa using this
theorem merge_match {x y m : B} (h : ones (differB x y m) = 1) (a : B) :
    matchW (x &&& (m ^^^ differB x y m)) (m ^^^ differB x y m) a = (matchW x m a || matchW y m a) := by
  obtain ⟨k, hk, hd, hu⟩ := ones_one _ h
  have hdm : ∀ j, j < 128 → bt (m ^^^ differB x y m) j = (bt m j && (bt x j == bt y j)) := fun j hj => by
    rw [bt_xor, bt_differ]; cases bt m j <;> cases bt x j <;> cases bt y j <;> rfl
  rw [bt_differ, Bool.and_eq_true] at hd
  have hsame : ∀ j, j < 128 → j ≠ k → bt m j = true → bt x j = bt y j := fun j hj hne hm => by
    by_cases e : bt x j = bt y j
    · exact e
    · exact absurd (hu j hj (by rw [bt_differ, hm]; revert e; cases bt x j <;> cases bt y j <;> simp)) hne
  rw [Bool.eq_iff_iff, Bool.or_eq_true, matchW_iff, matchW_iff, matchW_iff]
  constructor
  · intro h2
    have key : ∀ j, j < 128 → j ≠ k → bt m j = true → bt x j = bt a j := fun j hj hne hm => by
      have e := h2 j hj (by rw [hdm j hj, hm, hsame j hj hne hm]; simp)
      rw [bt_and, hdm j hj, hm, hsame j hj hne hm] at e
      rw [hsame j hj hne hm]
      simpa using e
    by_cases e : bt x k = bt a k
    · left; intro j hj hm
      by_cases hjk : j = k
      · subst hjk; exact e
      · exact key j hj hjk hm
    · right; intro j hj hm
      by_cases hjk : j = k
      · subst hjk
        have := hd.1
        revert this e; cases bt x j <;> cases bt y j <;> cases bt a j <;> simp
      · rw [← hsame j hj hjk hm]; exact key j hj hjk hm
  · intro h2 j hj hm
    rw [hdm j hj, Bool.and_eq_true] at hm
    rw [bt_and, hdm j hj, hm.1, hm.2]
    have e : bt x j = bt y j := by simpa using hm.2
    rcases h2 with h2 | h2
    · rw [h2 j hj hm.1]; simp
    · rw [e, h2 j hj hm.1]; simp
theorem countP_le_one (l : List Nat) (hn : l.Nodup) (k : Nat) (p q : Nat → Bool) (hk : k ∈ l) (hp : p k = true) (hq : q k = false) (h : ∀ j ∈ l, j ≠ k → p j = q j) : l.countP p = l.countP q + 1 := by
  induction l with
  | nil => simp at hk
  | cons a l ih =>
    rw [List.nodup_cons] at hn
    rcases List.mem_cons.1 hk with e | hk'
    · subst e
      rw [List.countP_cons_of_pos hp, List.countP_cons_of_neg (by rw [hq]; simp)]
      congr 1
      apply List.countP_congr
      intro j hj
      rw [h j (by simp [hj]) (fun e => hn.1 (e ▸ hj))]
    · have hak : a ≠ k := fun e => hn.1 (e ▸ hk')
      have hpa := h a (by simp) hak
      rw [List.countP_cons, List.countP_cons, hpa, ih hn.2 hk' fun j hj hne => h j (by simp [hj]) hne]
      omega
theorem merge_free {x y m : B} (h : ones (differB x y m) = 1) : ones (~~~ (m ^^^ differB x y m)) = ones (~~~ m) + 1 := by
  obtain ⟨k, hk, hd, hu⟩ := ones_one _ h
  have hd' := hd
  rw [bt_differ, Bool.and_eq_true] at hd'
  unfold ones
  refine countP_le_one _ List.nodup_range k _ _ (List.mem_range.2 hk) ?_ ?_ ?_
  · rw [bt_not _ _ hk, bt_xor, hd, hd'.2]; rfl
  · rw [bt_not _ _ hk, hd'.2]; rfl
  · intro j hj hne
    rw [List.mem_range] at hj
    have : bt (differB x y m) j = false := by
      cases e : bt (differB x y m) j
      · rfl
      · exact absurd (hu j hj e) hne
    rw [bt_not _ _ hj, bt_not _ _ hj, bt_xor, this]; simp
/-! an address that is matched -/
def someStep (m : B) (k : Nat) (s : B × Nat) : B × Nat := if bt m k then s else (setB s.1 k (s.2 % 2 == 1), s.2 / 2)
def someAt (x m : B) (r : Nat) : Nat → B × Nat
  | 0 => (x &&& m, r)
  | j + 1 => someStep m (127 - j) (someAt x m r j)
def u64N (n : Int) : Nat := (IntKind.u64.wrap n).toNat
def someB (x m : B) (n : Int) : B := (someAt x m (u64N n) 128).1
theorem someAt_le (x m : B) (r : Nat) : ∀ j, (someAt x m r j).2 ≤ r
  | 0 => Nat.le_refl _
  | j + 1 => by
    have h := someAt_le x m r j
    show (someStep m (127 - j) (someAt x m r j)).2 ≤ r
    unfold someStep
    split
    · exact h
    · exact Nat.le_trans (Nat.div_le_self _ _) h
theorem someAt_told (x m : B) (r : Nat) : ∀ j, j ≤ 128 → ∀ i, i < 128 → bt m i = true ∨ i + j < 128 → bt (someAt x m r j).1 i = (bt x i && bt m i)
  | 0, _, i, _, _ => bt_and x m i
  | j + 1, hj, i, hi, h => by
    show bt (someStep m (127 - j) (someAt x m r j)).1 i = _
    unfold someStep
    by_cases hm : bt m (127 - j) = true
    · rw [if_pos hm]; exact someAt_told x m r j (by omega) i hi (h.imp_right (by omega))
    · rw [if_neg hm]
      show bt (setB _ _ _) i = _
      rw [bt_setB _ _ _ (by omega) i hi]
      rw [if_neg (by rintro rfl; rcases h with h | h; exact hm h; omega)]
      exact someAt_told x m r j (by omega) i hi (h.imp_right (by omega))
theorem some_match (x m : B) (n : Int) : matchW x m (someB x m n) = true := by
  rw [matchW_iff]
  intro k hk hm
  unfold someB
  rw [someAt_told x m _ 128 (by omega) k hk (.inl hm), hm]; simp
/-- How many bits of the last j are free. -/
def freeIn (m : B) : Nat → Nat
  | 0 => 0
  | j + 1 => freeIn m j + (if bt m (127 - j) then 0 else 1)
theorem freeIn_count (m : B) : ∀ j, j ≤ 128 → freeIn m j = (List.range' (128 - j) j).countP (fun k => !bt m k)
  | 0, _ => by simp [freeIn]
  | j + 1, h => by
    rw [show 128 - (j + 1) = 127 - j by omega, List.range'_succ, List.countP_cons]
    rw [show 127 - j + 1 = 128 - j by omega]
    unfold freeIn
    rw [freeIn_count m j (by omega)]
    cases bt m (127 - j) <;> simp
theorem freeIn_ones (m : B) : freeIn m 128 = ones (~~~ m) := by
  rw [freeIn_count m 128 (by omega)]
  unfold ones
  rw [show List.range' (128 - 128) 128 = List.range 128 by rw [List.range_eq_range']]
  apply List.countP_congr
  intro k hk
  rw [bt_not _ _ (by simpa using hk)]
/-- Whatever bits are asked for where a word is free, some number has them. -/
theorem some_number (x m a : B) : ∀ j, j ≤ 128 → ∀ q : Nat, ∃ r : Nat, r < 2 ^ freeIn m j * (q + 1) ∧ r / 2 ^ freeIn m j = q ∧ (someAt x m r j).2 = q ∧ ∀ i, i < 128 → 128 ≤ i + j → bt m i = false → bt (someAt x m r j).1 i = bt a i
  | 0, _, q => ⟨q, by simp [freeIn], by simp [freeIn], rfl, fun i hi h => by omega⟩
  | j + 1, hj, q => by
    by_cases hm : bt m (127 - j) = true
    · obtain ⟨r, h1, h2, h3, h4⟩ := some_number x m a j (by omega) q
      have e : freeIn m (j + 1) = freeIn m j := by show freeIn m j + _ = _; rw [if_pos hm]; rfl
      have es : someAt x m r (j + 1) = someAt x m r j := by show someStep _ _ _ = _; unfold someStep; rw [if_pos hm]
      refine ⟨r, by rw [e]; exact h1, by rw [e]; exact h2, by rw [es]; exact h3, fun i hi h hmi => ?_⟩
      rw [es]
      by_cases he : i = 127 - j
      · subst he; rw [hm] at hmi; cases hmi
      · exact h4 i hi (by omega) hmi
    · have hm' : bt m (127 - j) = false := by simpa using hm
      obtain ⟨r, h1, h2, h3, h4⟩ := some_number x m a j (by omega) (2 * q + (bt a (127 - j)).toNat)
      have e : freeIn m (j + 1) = freeIn m j + 1 := by show freeIn m j + _ = _; rw [if_neg hm]
      have es : someAt x m r (j + 1) = (setB (someAt x m r j).1 (127 - j) ((someAt x m r j).2 % 2 == 1), (someAt x m r j).2 / 2) := by show someStep _ _ _ = _; unfold someStep; rw [if_neg hm]
      have hb : (bt a (127 - j)).toNat ≤ 1 := by cases bt a (127 - j) <;> simp
      refine ⟨r, ?_, ?_, ?_, fun i hi h hmi => ?_⟩
      · rw [e, Nat.pow_succ, Nat.mul_assoc]
        refine Nat.lt_of_lt_of_le h1 (Nat.mul_le_mul_left _ (by omega))
      · rw [e, Nat.pow_succ, ← Nat.div_div_eq_div_mul, h2]; omega
      · rw [es, h3]; show (2 * q + _) / 2 = q; omega
      · rw [es]
        show bt (setB _ _ _) i = _
        rw [bt_setB _ _ _ (by omega) i hi]
        by_cases he : i = 127 - j
        · rw [if_pos he, h3, he]
          cases bt a (127 - j) <;> simp <;> omega
        · rw [if_neg he]; exact h4 i hi (by omega) hmi
theorem some_all (x m a : B) (hf : ones (~~~ m) ≤ 8) (ha : matchW x m a = true) : ∃ r : Nat, r < 256 ∧ (someAt x m r 128).1 = a := by
  obtain ⟨r, h1, _, _, h4⟩ := some_number x m a 128 (by omega) 0
  rw [freeIn_ones] at h1
  rw [matchW_iff] at ha
  refine ⟨r, ?_, ?_⟩
  · have : 2 ^ ones (~~~ m) ≤ 2 ^ 8 := Nat.pow_le_pow_right (by omega) hf
    omega
  · apply ext_bt; intro i hi
    cases hm : bt m i
    · exact h4 i hi (by omega) hm
    · rw [someAt_told x m r 128 (by omega) i hi (.inl hm), hm, ← ha i hi hm]; simp
end Pg
namespace Pg
open Go

theorem matchW_of (X : B) (N : Int) (a : B) : matchW (X &&& maskB (near N)) (maskB (near N)) a = matchB X N a := by
  rw [Bool.eq_iff_iff, matchW_iff, matchB_iff]
  have hn := near_le N
  constructor
  · intro h k hk
    have := h k (by omega) (by rw [bt_mask _ _ (by omega)]; simpa using hk)
    rw [← this, bt_and, bt_mask _ _ (by omega)]
    simp [hk]
  · intro h k hk hm
    rw [bt_mask _ _ hk] at hm
    have hm : k < near N := by simpa using hm
    rw [bt_and, bt_mask _ _ hk, h k hm]
    simp [hm]
theorem right_of (X : B) (n : Nat) : X &&& maskB n = (X &&& maskB n) &&& maskB n := by
  apply ext_bt; intro k hk; simp only [bt_and]; cases bt X k <;> cases bt (maskB n) k <;> rfl
theorem coversW_of {X : B} {N : Int} {Y : B} {K : Int} (h1 : rightB 128 X N = true) (h2 : rightB 128 Y K = true) :
    coversW (X &&& maskB (near N)) (maskB (near N)) (Y &&& maskB (near K)) (maskB (near K)) = coversB X N Y K := by
  obtain ⟨_, a1, b1, _⟩ := rightB_parts h1
  obtain ⟨_, a2, b2, _⟩ := rightB_parts h2
  have n1 : (near N : Int) = N := near_of a1 b1
  have n2 : (near K : Int) = K := near_of a2 b2
  rw [Bool.eq_iff_iff, coversW_iff]
  unfold coversB
  rw [Bool.and_eq_true, decide_eq_true_eq, matchB_iff]
  constructor
  · intro h
    have hle : N ≤ K := by
      by_cases hlt : K < N
      · have := (h (near K) (by omega) (by rw [bt_mask _ _ (by omega)]; simp; omega)).1
        rw [bt_mask _ _ (by omega)] at this
        simp at this
      · omega
    refine ⟨hle, fun k hk => ?_⟩
    have := (h k (by omega) (by rw [bt_mask _ _ (by omega)]; simpa using hk)).2
    simp only [bt_and] at this
    rw [bt_mask _ _ (by omega), bt_mask _ _ (by omega), decide_eq_true hk, decide_eq_true (show k < near K by omega)] at this
    simpa using this
  · rintro ⟨hle, h⟩ k hk hm
    rw [bt_mask _ _ hk] at hm
    have hm : k < near N := by simpa using hm
    simp only [bt_and]
    rw [bt_mask _ _ hk, bt_mask _ _ hk, decide_eq_true hm, decide_eq_true (show k < near K by omega), h k hm]
    simp
theorem meetW_of {X : B} {N : Int} {Y : B} {K : Int} (h1 : rightB 128 X N = true) (h2 : rightB 128 Y K = true) :
    meetW (X &&& maskB (near N)) (maskB (near N)) (Y &&& maskB (near K)) (maskB (near K)) = (coversB X N Y K || coversB Y K X N) := by
  obtain ⟨_, a1, b1, _⟩ := rightB_parts h1
  obtain ⟨_, a2, b2, _⟩ := rightB_parts h2
  have n1 : (near N : Int) = N := near_of a1 b1
  have n2 : (near K : Int) = K := near_of a2 b2
  have key : meetW (X &&& maskB (near N)) (maskB (near N)) (Y &&& maskB (near K)) (maskB (near K)) = true ↔ ∀ k, k < near N → k < near K → bt X k = bt Y k := by
    rw [meetW_iff]
    constructor
    · intro h k k1 k2
      have := h k (by omega) (by rw [bt_mask _ _ (by omega)]; simpa using k1) (by rw [bt_mask _ _ (by omega)]; simpa using k2)
      simp only [bt_and] at this
      rw [bt_mask _ _ (by omega), bt_mask _ _ (by omega), decide_eq_true k1, decide_eq_true k2] at this
      simpa using this
    · intro h k hk k1 k2
      rw [bt_mask _ _ hk] at k1 k2
      have k1 : k < near N := by simpa using k1
      have k2 : k < near K := by simpa using k2
      simp only [bt_and]
      rw [bt_mask _ _ hk, bt_mask _ _ hk, decide_eq_true k1, decide_eq_true k2, h k k1 k2]
  rw [Bool.eq_iff_iff, key, Bool.or_eq_true]
  unfold coversB
  rw [Bool.and_eq_true, Bool.and_eq_true, decide_eq_true_eq, decide_eq_true_eq, matchB_iff, matchB_iff]
  constructor
  · intro h
    by_cases hlt : K < N
    · exact .inr ⟨by omega, fun k hk => (h k (by omega) hk).symm⟩
    · exact .inl ⟨by omega, fun k hk => h k hk (by omega)⟩
  · rintro (⟨hle, h⟩ | ⟨hle, h⟩) k k1 k2
    · exact h k k1
    · exact (h k k2).symm
theorem free_ones (m : B) : ones (~~~ m) + ones m = 128 := by rw [ones_not]; have := ones_le m; omega
theorem free_of (n : Nat) : ones (~~~ maskB n) = 128 - n := by
  have e : ones (~~~ maskB n) = (List.range 128).countP (fun k => decide (n ≤ k)) := by
    unfold ones
    apply List.countP_congr
    intro k hk
    rw [List.mem_range] at hk
    rw [bt_not _ _ hk, bt_mask _ _ hk]
    simp
  rw [e]
  have key : ∀ d, (List.range d).countP (fun k => decide (n ≤ k)) = d - n := by
    intro d
    induction d with
    | zero => simp
    | succ d ih =>
      rw [List.range_succ, List.countP_append, ih]
      by_cases c : n ≤ d
      · simp [c]; omega
      · simp [c]; omega
  exact key 128
theorem turned_match {x m A : B} (h : matchW x m A = true) (k : Nat) (hk : k < 128) : matchW x m (setB A k (!bt A k)) = !bt m k := by
  rw [matchW_iff] at h
  cases hm : bt m k
  · rw [Bool.not_false, matchW_iff]
    intro i hi hmi
    rw [bt_setB _ _ _ hk i hi]
    by_cases he : i = k
    · subst he; rw [hm] at hmi; cases hmi
    · rw [if_neg he]; exact h i hi hmi
  · rw [Bool.not_true, Bool.eq_false_iff]
    intro hc
    rw [matchW_iff] at hc
    have h1 := hc k hk hm
    rw [bt_setB _ _ _ hk k hk, if_pos rfl, h k hk hm] at h1
    revert h1; cases bt A k <;> simp
theorem u64N_nat (k : Nat) (h : k < 256) : u64N (k : Int) = k := by
  unfold u64N; rw [IntKind.wrap_u64]; omega
theorem someB_nat (x m : B) (k : Nat) (h : k < 256) : someB x m (k : Int) = (someAt x m k 128).1 := by unfold someB; rw [u64N_nat k h]
end Pg
