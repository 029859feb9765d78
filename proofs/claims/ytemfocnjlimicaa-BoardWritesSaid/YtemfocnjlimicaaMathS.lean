/- Banks of addresses and words by their first bits. Plain Lean, no program. -/
import Derived.Test.YtemfocnjlimicaaMathW2
import Derived.Test.YtemfocnjlimicaaBits
namespace Pg
open Go

/-- The number that the first k bits are. -/
def topN (a : B) (k : Nat) : Nat := hiN a / 2 ^ (64 - k)
theorem topN_zero (a : B) : topN a 0 = 0 := by unfold topN; exact Nat.div_eq_of_lt (hiN_lt a)
theorem topN_succ (a : B) (k : Nat) (h : k < 64) : topN a (k + 1) = topN a k * 2 + (bt a k).toNat := by
  unfold topN
  rw [show 64 - (k + 1) = 63 - k by omega]
  exact hi_step a k h
theorem topN_lt (a : B) (k : Nat) (h : k ≤ 64) : topN a k < 2 ^ k := by
  unfold topN
  rw [Nat.div_lt_iff_lt_mul (Nat.two_pow_pos _), ← Nat.pow_add, show k + (64 - k) = 64 by omega]
  exact hiN_lt a
theorem topN_bit (a : B) (k i : Nat) (h : k ≤ 64) (hi' : i < k) : (topN a k).testBit (k - 1 - i) = bt a i := by
  unfold topN
  rw [Nat.testBit_div_two_pow, show (k - 1 - i + (64 - k)) = 63 - i by omega]
  exact hiN_testBit a i (by omega)
def atB (k at_ : Nat) : B := mkB (at_ * 2 ^ (64 - k)) 0
theorem atB_lt {k at_ : Nat} (hk : k ≤ 64) (h : at_ < 2 ^ k) : at_ * 2 ^ (64 - k) < 18446744073709551616 := by
  have h1 : at_ * 2 ^ (64 - k) < 2 ^ k * 2 ^ (64 - k) := Nat.mul_lt_mul_of_pos_right h (Nat.two_pow_pos _)
  rw [← Nat.pow_add, show k + (64 - k) = 64 by omega] at h1
  exact h1
theorem atB_hiN {k at_ : Nat} (hk : k ≤ 64) (h : at_ < 2 ^ k) : hiN (atB k at_) = at_ * 2 ^ (64 - k) := by
  have := atB_lt hk h
  unfold atB hiN; rw [mkB_toNat this (by omega)]; omega
theorem atB_hi {k at_ : Nat} (hk : k ≤ 64) (h : at_ < 2 ^ k) : hi (atB k at_) = ((at_ * 2 ^ (64 - k) : Nat) : Int) := by unfold hi; rw [atB_hiN hk h]
theorem atB_lo {k at_ : Nat} (hk : k ≤ 64) (h : at_ < 2 ^ k) : lo (atB k at_) = 0 := by
  have := atB_lt hk h
  unfold lo loN atB; rw [mkB_toNat this (by omega)]; omega
theorem topN_atB {k at_ : Nat} (hk : k ≤ 64) (h : at_ < 2 ^ k) : topN (atB k at_) k = at_ := by
  unfold topN; rw [atB_hiN hk h]; exact Nat.mul_div_cancel _ (Nat.two_pow_pos _)
theorem bt_atB {k at_ : Nat} (hk : k ≤ 64) (h : at_ < 2 ^ k) (i : Nat) (hi' : i < k) : bt (atB k at_) i = at_.testBit (k - 1 - i) := by
  rw [← topN_bit (atB k at_) k i hk hi', topN_atB hk h]
theorem bt_atB_no {k at_ : Nat} (hk : k ≤ 64) (h : at_ < 2 ^ k) (i : Nat) (hi' : k ≤ i) (hi2 : i < 128) : bt (atB k at_) i = false := by
  by_cases h64 : i < 64
  · rw [← hiN_testBit _ i h64, atB_hiN hk h, Nat.testBit_mul_two_pow]
    simp; omega
  · have h1 := loN_testBit (atB k at_) (i - 64) (by omega)
    rw [show 64 + (i - 64) = i by omega] at h1
    rw [← h1]
    have h2 := atB_lo hk h
    unfold lo at h2
    rw [show loN (atB k at_) = 0 by omega]
    exact Nat.zero_testBit _
theorem atB_cut {k at_ : Nat} (hk : k ≤ 64) (h : at_ < 2 ^ k) : atB k at_ &&& maskB k = atB k at_ := by
  rw [cut_self_iff]
  intro i h1 h2
  exact bt_atB_no hk h i h1 h2
/-- Whether a word has to do with a bank. -/
def meetAt (k : Nat) (x m : B) (at_ : Nat) : Bool := meetW x m (atB k at_) (maskB k)
theorem meetAt_iff {k at_ : Nat} (hk : k ≤ 64) (h : at_ < 2 ^ k) (x m : B) : meetAt k x m at_ = true ↔ ∀ i, i < k → bt m i = true → bt x i = at_.testBit (k - 1 - i) := by
  unfold meetAt
  rw [meetW_iff]
  constructor
  · intro h1 i hi' hm
    rw [← bt_atB hk h i hi']
    exact h1 i (by omega) hm (by rw [bt_mask _ _ (by omega)]; simpa using hi')
  · intro h1 i h2 hm hn
    rw [bt_mask _ _ h2] at hn
    have hn : i < k := by simpa using hn
    rw [bt_atB hk h i hn]
    exact h1 i hn hm
def banksL (k : Nat) (x m : B) : List Nat := (List.range (2 ^ k)).filter (meetAt k x m)
theorem mem_banksL {k : Nat} {x m : B} {at_ : Nat} : at_ ∈ banksL k x m ↔ at_ < 2 ^ k ∧ meetAt k x m at_ = true := by
  unfold banksL; rw [List.mem_filter, List.mem_range]
/-- An address is of the bank whose word matches it. -/
theorem match_atB {k at_ : Nat} (hk : k ≤ 64) (h : at_ < 2 ^ k) (a : B) : matchW (atB k at_) (maskB k) a = true ↔ topN a k = at_ := by
  rw [matchW_iff]
  constructor
  · intro h1
    rw [← topN_atB hk h]
    have : ∀ j, j ≤ k → topN a j = topN (atB k at_) j := by
      intro j
      induction j with
      | zero => intro _; rw [topN_zero, topN_zero]
      | succ j ih =>
        intro hj
        rw [topN_succ _ _ (by omega), topN_succ _ _ (by omega), ih (by omega)]
        rw [h1 j (by omega) (by rw [bt_mask _ _ (by omega)]; simp; omega)]
    exact this k (Nat.le_refl _)
  · intro h1 i h2 hm
    rw [bt_mask _ _ h2] at hm
    have hm : i < k := by simpa using hm
    rw [bt_atB hk h i hm, ← h1, topN_bit a k i hk hm]
theorem match_meet {k : Nat} (hk : k ≤ 64) {x m a : B} (h : matchW x m a = true) : meetAt k x m (topN a k) = true := by
  rw [meetAt_iff hk (topN_lt a k hk)]
  intro i hi' hm
  rw [topN_bit a k i hk hi']
  rw [matchW_iff] at h
  exact h i (by omega) hm
theorem pow_small {k : Nat} (h : k ≤ 3) : 2 ^ k ≤ 8 := by
  have := Nat.pow_le_pow_right (show 0 < 2 by decide) h
  simpa using this
end Pg
