/- Prefixes: an address and a number of bits. Plain Lean, no program. -/
import Derived.Test.YtemfocnjlimicaaMath2
namespace Pg
open Go

/-- Does an address begin so? -/
def matchB (x : B) (n : Int) (y : B) : Bool := decide (near n ≤ common x y)
def coversB (x : B) (n : Int) (y : B) (m : Int) : Bool := decide (n ≤ m) && matchB x n y
def famB (w : Int) : Bool := decide (w = 32) || decide (w = 128)
def rightB (w : Int) (x : B) (n : Int) : Bool := famB w && decide (0 ≤ n) && decide (n ≤ w) && decide (x &&& maskB (near n) = x)
def cmpI (n m : Int) : Int := if n < m then -1 else if m < n then 1 else 0
def cmpP (x : B) (n : Int) (y : B) (m : Int) : Int := if cmpB x y = 0 then cmpI n m else cmpB x y

theorem matchB_iff (x : B) (n : Int) (y : B) : matchB x n y = true ↔ ∀ k, k < near n → bt x k = bt y k := by
  unfold matchB; rw [decide_eq_true_eq]; exact le_common_iff x y (near n) (near_le n)
theorem fam_le {w : Int} (h : famB w = true) : w = 32 ∨ w = 128 := by
  unfold famB at h; simpa using h
theorem near_of {n : Int} (h0 : 0 ≤ n) (h1 : n ≤ 128) : (near n : Int) = n := by unfold near; omega
theorem near_nat (n : Nat) (h : n ≤ 128) : near (n : Int) = n := by unfold near; omega
theorem rightB_parts {w : Int} {x : B} {n : Int} (h : rightB w x n = true) : (w = 32 ∨ w = 128) ∧ 0 ≤ n ∧ n ≤ w ∧ x &&& maskB (near n) = x := by
  unfold rightB at h
  simp only [Bool.and_eq_true, decide_eq_true_eq] at h
  exact ⟨fam_le h.1.1.1, h.1.1.2, h.1.2, h.2⟩
theorem cut_self_iff (x : B) (n : Nat) : x &&& maskB n = x ↔ ∀ k, n ≤ k → k < 128 → bt x k = false := by
  constructor
  · intro h k h1 h2
    have e := congrArg (fun z => bt z k) h
    simp only [bt_and, bt_mask n k h2] at e
    rw [← e]; simp; omega
  · intro h
    apply ext_bt; intro k hk
    rw [bt_and, bt_mask n k hk]
    by_cases c : k < n
    · simp [c]
    · rw [h k (by omega) hk]; simp
theorem cut_le (x : B) (n : Nat) : (x &&& maskB n).toNat ≤ x.toNat := by
  rw [BitVec.toNat_and]; exact Nat.and_le_left
theorem covers_le {x y : B} {n m : Int} (hx : rightB 128 x n = true) (_hy : rightB 128 y m = true) (h : coversB x n y m = true) : cmpP x n y m ≤ 0 := by
  obtain ⟨_, n0, n1, ex⟩ := rightB_parts hx
  unfold coversB at h
  simp only [Bool.and_eq_true, decide_eq_true_eq] at h
  have hm := (matchB_iff x n y).1 h.2
  have e : x = y &&& maskB (near n) := by
    rw [← ex]; exact (cut_eq_iff x y (near n)).2 fun k hk _ => hm k hk
  have hle : x.toNat ≤ y.toNat := by rw [e]; exact cut_le y _
  unfold cmpP cmpI
  by_cases c : cmpB x y = 0
  · rw [if_pos c]; split <;> (try split) <;> omega
  · rw [if_neg c]; unfold cmpB; rw [if_neg (by omega : ¬ y.toNat < x.toNat)]; split <;> omega
theorem cmpI_neg (n m : Int) : cmpI n m = -cmpI m n := by unfold cmpI; repeat' split
                                                          all_goals omega
theorem cmpP_neg (x : B) (n : Int) (y : B) (m : Int) : cmpP x n y m = -cmpP y m x n := by
  unfold cmpP
  have h := cmp_neg x y
  by_cases c : cmpB x y = 0
  · rw [if_pos c, if_pos (by omega), cmpI_neg]
  · rw [if_neg c, if_neg (by omega), h]
theorem cmpI_zero (n m : Int) : cmpI n m = 0 ↔ n = m := by unfold cmpI; constructor <;> intro h <;> (repeat' split at *) <;> omega
theorem cmpP_zero (x : B) (n : Int) (y : B) (m : Int) : cmpP x n y m = 0 ↔ x = y ∧ n = m := by
  unfold cmpP
  by_cases c : cmpB x y = 0
  · rw [if_pos c, cmpI_zero]; exact ⟨fun h => ⟨(cmp_zero x y).1 c, h⟩, fun h => h.2⟩
  · rw [if_neg c]; exact ⟨fun h => absurd h c, fun h => absurd ((cmp_zero x y).2 h.1) c⟩
theorem cmpP_values (x : B) (n : Int) (y : B) (m : Int) : cmpP x n y m = -1 ∨ cmpP x n y m = 0 ∨ cmpP x n y m = 1 := by
  unfold cmpP cmpI
  have := cmp_values x y
  split <;> (try split) <;> (try split) <;> omega
/-! chains -/
theorem covers_trans {x y z : B} {n m l : Int} (h : coversB x n y m = true) (h' : coversB y m z l = true) : coversB x n z l = true := by
  unfold coversB at *
  simp only [Bool.and_eq_true, decide_eq_true_eq] at *
  refine ⟨by omega, (matchB_iff _ _ _).2 fun k hk => ?_⟩
  have h1 := (matchB_iff _ _ _).1 h.2 k hk
  have h2 := (matchB_iff _ _ _).1 h'.2 k (by unfold near at *; omega)
  rw [h1, h2]
theorem covers_anti {x y : B} {n m : Int} (hx : rightB 128 x n = true) (hy : rightB 128 y m = true) (h : coversB x n y m = true) (h' : coversB y m x n = true) : x = y ∧ n = m := by
  have h1 := covers_le hx hy h
  have h2 := covers_le hy hx h'
  rw [cmpP_neg] at h2
  exact (cmpP_zero x n y m).1 (by omega)

/-! the last address -/
def lastB (w : Int) (x : B) (n : Int) : B := x ||| (maskB (near w) ^^^ maskB (near n))
theorem bt_last (w : Int) (x : B) (n : Int) (k : Nat) (hk : k < 128) : bt (lastB w x n) k = (bt x k || (decide (k < near w) != decide (k < near n))) := by
  unfold lastB; rw [bt_or, bt_xor, bt_mask _ _ hk, bt_mask _ _ hk]
theorem last_match {w : Int} {x : B} {n : Int} (h : rightB w x n = true) : matchB x n (lastB w x n) = true := by
  obtain ⟨hw, n0, n1, ex⟩ := rightB_parts h
  rw [matchB_iff]
  intro k hk
  have h128 := near_le n
  rw [bt_last _ _ _ k (by omega)]
  have : k < near w := by unfold near at *; omega
  simp [hk, this]
theorem last_of {w : Int} {x : B} {n : Int} (h : rightB w x n = true) : lastB w x n &&& maskB (near w) = lastB w x n := by
  obtain ⟨hw, n0, n1, ex⟩ := rightB_parts h
  rw [cut_self_iff]
  intro k h1 h2
  have hz := (cut_self_iff x (near n)).1 ex k (by unfold near at *; omega) h2
  rw [bt_last _ _ _ k h2, hz]
  have : ¬ k < near n := by unfold near at *; omega
  have : ¬ k < near w := by omega
  simp [*]
theorem last_ge (w : Int) (x : B) (n : Int) : cmpB x (lastB w x n) ≤ 0 := by
  have h : x.toNat ≤ (lastB w x n).toNat := by unfold lastB; rw [BitVec.toNat_or]; exact Nat.left_le_or
  unfold cmpB; split <;> (try split) <;> omega
theorem cmp_le_iff (x y : B) : cmpB x y ≤ 0 ↔ x.toNat ≤ y.toNat := by
  unfold cmpB; split <;> (try split) <;> omega
theorem cmp_ge_iff (x y : B) : 0 ≤ cmpB x y ↔ y.toNat ≤ x.toNat := by
  unfold cmpB; split <;> (try split) <;> omega
theorem le_of_bits (x y : B) (h : ∀ k, k < 128 → bt x k = true → bt y k = true) : x.toNat ≤ y.toNat := by
  have e : x = y &&& x := by
    apply ext_bt; intro k hk; rw [bt_and]
    cases c : bt x k
    · simp
    · rw [h k hk c]; rfl
  rw [e, BitVec.toNat_and]; exact Nat.and_le_left
/-- A prefix matches just the addresses of its family from its own up to its last one. -/
theorem between {w : Int} {x : B} {n : Int} {a : B} (h : rightB w x n = true) (ha : a &&& maskB (near w) = a) :
    matchB x n a = (decide (0 ≤ cmpB a x) && decide (cmpB a (lastB w x n) ≤ 0)) := by
  obtain ⟨hw, n0, n1, ex⟩ := rightB_parts h
  have hzx := (cut_self_iff x (near n)).1 ex
  have hza := (cut_self_iff a (near w)).1 ha
  rw [Bool.eq_iff_iff]
  simp only [Bool.and_eq_true, decide_eq_true_eq, cmp_le_iff, cmp_ge_iff]
  constructor
  · intro hm
    rw [matchB_iff] at hm
    constructor
    · apply le_of_bits; intro k hk hb
      by_cases c : k < near n
      · rw [← hm k c]; exact hb
      · rw [hzx k (by omega) hk] at hb; cases hb
    · apply le_of_bits; intro k hk hb
      rw [bt_last _ _ _ k hk]
      by_cases c : k < near n
      · rw [hm k c, hb]; rfl
      · by_cases c2 : k < near w
        · simp [c, c2]
        · rw [hza k (by omega) hk] at hb; cases hb
  · rintro ⟨h1, h2⟩
    rw [matchB_iff]
    intro k hk
    have hn128 := near_le n
    rcases Nat.lt_or_ge (common x a) (near n) with hc | hc
    · exfalso
      have hlt : common x a < 128 := by omega
      have hne := common_ne x a hlt
      cases hb : bt a (common x a)
      · have hx : bt x (common x a) = true := by revert hne; rw [hb]; cases bt x (common x a) <;> simp
        have := lt_of_bit a x _ hlt (fun k hk => (common_same x a k hk).symm) hb hx
        omega
      · have hx : bt x (common x a) = false := by revert hne; rw [hb]; cases bt x (common x a) <;> simp
        have hl : bt (lastB w x n) (common x a) = false := by
          rw [bt_last _ _ _ _ hlt, hx]
          have : common x a < near w := by unfold near at *; omega
          simp [hc, this]
        have := lt_of_bit (lastB w x n) a _ hlt (fun k hk => by
          rw [bt_last _ _ _ _ (by omega), ← common_same x a k hk]
          have h1 : k < near n := by omega
          have h2 : k < near w := by unfold near at *; omega
          simp [h1, h2]) hl hb
        omega
    · exact common_same x a k (by omega)

/-! the longest one that covers both -/
def joinN (x : B) (n : Int) (y : B) (m : Int) : Int := min (min n m) (common x y : Int)
theorem join_self {x y : B} {n m : Int} (hx : rightB 128 x n = true) (hy : rightB 128 y m = true) :
    rightB 128 (x &&& maskB (near (joinN x n y m))) (near (joinN x n y m)) = true ∧
    coversB (x &&& maskB (near (joinN x n y m))) (near (joinN x n y m)) x n = true ∧
    coversB (x &&& maskB (near (joinN x n y m))) (near (joinN x n y m)) y m = true ∧
    x &&& maskB (near (joinN x n y m)) = y &&& maskB (near (joinN y m x n)) ∧ joinN x n y m = joinN y m x n := by
  obtain ⟨_, n0, n1, ex⟩ := rightB_parts hx
  obtain ⟨_, m0, m1, ey⟩ := rightB_parts hy
  have hcc := common_comm x y
  have hc := common_le x y
  have hj : joinN x n y m = joinN y m x n := by unfold joinN; rw [hcc]; omega
  have hj0 : 0 ≤ joinN x n y m := by unfold joinN; omega
  have hj1 : joinN x n y m ≤ 128 := by unfold joinN; omega
  have hjc : near (joinN x n y m) ≤ common x y := by unfold near joinN; omega
  have hjn : (near (joinN x n y m) : Int) ≤ n := by unfold near joinN; omega
  have hjm : (near (joinN x n y m) : Int) ≤ m := by unfold near joinN; omega
  have hnn : near (near (joinN x n y m) : Int) = near (joinN x n y m) := near_nat _ (near_le _)
  refine ⟨?_, ?_, ?_, ?_, hj⟩
  · unfold rightB
    rw [hnn, BitVec.and_assoc, BitVec.and_self]
    have := near_le (joinN x n y m)
    simp [famB]; omega
  · unfold coversB
    simp only [Bool.and_eq_true, decide_eq_true_eq]
    refine ⟨hjn, (matchB_iff _ _ _).2 fun k hk => ?_⟩
    rw [hnn] at hk
    have := near_le (joinN x n y m)
    rw [bt_and, bt_mask _ _ (by omega)]; simp [hk]
  · unfold coversB
    simp only [Bool.and_eq_true, decide_eq_true_eq]
    refine ⟨hjm, (matchB_iff _ _ _).2 fun k hk => ?_⟩
    rw [hnn] at hk
    have := near_le (joinN x n y m)
    rw [bt_and, bt_mask _ _ (by omega), common_same x y k (by omega)]; simp [hk]
  · rw [← hj, cut_eq_iff]
    intro k hk _
    exact common_same x y k (by omega)
theorem join_longest {x y : B} {n m : Int} {z : B} {l : Nat} (hx : rightB 128 x n = true) (hy : rightB 128 y m = true) (hl : l ≤ 128) (h : coversB z l x n = true) (h' : coversB z l y m = true) :
    coversB z l (x &&& maskB (near (joinN x n y m))) (near (joinN x n y m)) = true := by
  obtain ⟨_, n0, n1, ex⟩ := rightB_parts hx
  obtain ⟨_, m0, m1, ey⟩ := rightB_parts hy
  unfold coversB at *
  simp only [Bool.and_eq_true, decide_eq_true_eq] at *
  have hm := (matchB_iff _ _ _).1 h.2
  have hm' := (matchB_iff _ _ _).1 h'.2
  rw [near_nat _ hl] at hm hm'
  have hc : l ≤ common x y := (le_common_iff x y l hl).2 fun k hk => by rw [← hm k hk, hm' k hk]
  refine ⟨by unfold near joinN; omega, (matchB_iff _ _ _).2 fun k hk => ?_⟩
  rw [near_nat _ hl] at hk
  rw [bt_and, bt_mask _ _ (by omega), hm k hk]
  have : k < near (joinN x n y m) := by unfold near joinN; omega
  simp [this]
end Pg
