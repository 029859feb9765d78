/- Addresses of 128 bits as bit vectors: their two words as numbers, masks, what two have in common. Plain Lean, no program. -/
import Derived.Laws.BitsAllLaws
import Derived.Lib.BitFns
namespace Pg
open Go

abbrev B := BitVec 128
/-- The bit k from the left. -/
abbrev bt (x : B) (k : Nat) : Bool := x.getMsbD k
def hiN (x : B) : Nat := x.toNat / 18446744073709551616
def loN (x : B) : Nat := x.toNat % 18446744073709551616
def hi (x : B) : Int := (hiN x : Int)
def lo (x : B) : Int := (loN x : Int)

theorem toNat_split (x : B) : x.toNat = hiN x * 18446744073709551616 + loN x := by unfold hiN loN; omega
theorem hiN_lt (x : B) : hiN x < 18446744073709551616 := by unfold hiN; have := x.isLt; omega
theorem loN_lt (x : B) : loN x < 18446744073709551616 := by unfold loN; omega
theorem hi_nonneg (x : B) : 0 ≤ hi x := by unfold hi; omega
theorem lo_nonneg (x : B) : 0 ≤ lo x := by unfold lo; omega
theorem hi_le (x : B) : hi x ≤ 18446744073709551615 := by unfold hi; have := hiN_lt x; omega
theorem lo_le (x : B) : lo x ≤ 18446744073709551615 := by unfold lo; have := loN_lt x; omega
theorem eq_of_words {x y : B} (h : hi x = hi y) (l : lo x = lo y) : x = y := by
  apply BitVec.eq_of_toNat_eq
  rw [toNat_split x, toNat_split y]
  unfold hi at h; unfold lo at l
  have h' : hiN x = hiN y := by omega
  have l' : loN x = loN y := by omega
  rw [h', l']
theorem words_eq_iff {x y : B} : (hi x = hi y ∧ lo x = lo y) ↔ x = y := ⟨fun h => eq_of_words h.1 h.2, fun h => by rw [h]; exact ⟨rfl, rfl⟩⟩
def mkB (h l : Nat) : B := BitVec.ofNat 128 (h * 18446744073709551616 + l)
theorem mkB_toNat {h l : Nat} (hh : h < 18446744073709551616) (hl : l < 18446744073709551616) : (mkB h l).toNat = h * 18446744073709551616 + l := by
  unfold mkB; rw [BitVec.toNat_ofNat]; exact Nat.mod_eq_of_lt (by omega)
theorem exists_words (h l : Int) (h0 : 0 ≤ h) (h1 : h ≤ 18446744073709551615) (l0 : 0 ≤ l) (l1 : l ≤ 18446744073709551615) : ∃ x : B, hi x = h ∧ lo x = l := by
  refine ⟨mkB h.toNat l.toNat, ?_, ?_⟩
  · unfold hi hiN; rw [mkB_toNat (by omega) (by omega)]; omega
  · unfold lo loN; rw [mkB_toNat (by omega) (by omega)]; omega
@[simp] theorem hi_zero : hi 0#128 = 0 := rfl
@[simp] theorem lo_zero : lo 0#128 = 0 := rfl

/-! bits -/
theorem bt_toNat (x : B) (k : Nat) (h : k < 128) : bt x k = x.toNat.testBit (127 - k) := by
  unfold bt; rw [BitVec.getMsbD_eq_getLsbD]; simp [h, BitVec.getLsbD]
theorem hiN_testBit (x : B) (k : Nat) (h : k < 64) : (hiN x).testBit (63 - k) = bt x k := by
  rw [bt_toNat x k (by omega)]
  unfold hiN
  rw [show (18446744073709551616 : Nat) = 2 ^ 64 from rfl, Nat.testBit_div_two_pow]
  congr 1; omega
theorem loN_testBit (x : B) (k : Nat) (h : k < 64) : (loN x).testBit (63 - k) = bt x (64 + k) := by
  rw [bt_toNat x (64 + k) (by omega)]
  unfold loN
  rw [show (18446744073709551616 : Nat) = 2 ^ 64 from rfl, Nat.testBit_mod_two_pow]
  simp only [show 63 - k < 64 from by omega, decide_true, Bool.true_and]
  congr 1; omega
theorem ext_bt {x y : B} (h : ∀ k, k < 128 → bt x k = bt y k) : x = y := BitVec.eq_of_getMsbD_eq h
theorem bt_of_le (x : B) (k : Nat) (h : 128 ≤ k) : bt x k = false := by unfold bt; rw [BitVec.getMsbD_eq_getLsbD]; simp; omega
theorem bt_and (x y : B) (k : Nat) : bt (x &&& y) k = (bt x k && bt y k) := BitVec.getMsbD_and
theorem bt_or (x y : B) (k : Nat) : bt (x ||| y) k = (bt x k || bt y k) := BitVec.getMsbD_or
theorem bt_xor (x y : B) (k : Nat) : bt (x ^^^ y) k = (bt x k != bt y k) := BitVec.getMsbD_xor
theorem bt_not (x : B) (k : Nat) (h : k < 128) : bt (~~~ x) k = !bt x k := by unfold bt; rw [BitVec.getMsbD_not]; simp [h]
theorem bt_zero (k : Nat) : bt 0#128 k = false := by simp [bt]

/-! the words of what is reckoned -/
theorem hiN_and (x y : B) : hiN (x &&& y) = hiN x &&& hiN y := by
  unfold hiN; rw [BitVec.toNat_and, show (18446744073709551616 : Nat) = 2 ^ 64 from rfl, Nat.and_div_two_pow]
theorem loN_and (x y : B) : loN (x &&& y) = loN x &&& loN y := by
  unfold loN; rw [BitVec.toNat_and, show (18446744073709551616 : Nat) = 2 ^ 64 from rfl, Nat.and_mod_two_pow]
theorem hiN_or (x y : B) : hiN (x ||| y) = hiN x ||| hiN y := by
  unfold hiN; rw [BitVec.toNat_or, show (18446744073709551616 : Nat) = 2 ^ 64 from rfl, Nat.or_div_two_pow]
theorem loN_or (x y : B) : loN (x ||| y) = loN x ||| loN y := by
  unfold loN; rw [BitVec.toNat_or, show (18446744073709551616 : Nat) = 2 ^ 64 from rfl, Nat.or_mod_two_pow]
theorem hiN_xor (x y : B) : hiN (x ^^^ y) = hiN x ^^^ hiN y := by
  unfold hiN; rw [BitVec.toNat_xor, show (18446744073709551616 : Nat) = 2 ^ 64 from rfl, Nat.xor_div_two_pow]
theorem loN_xor (x y : B) : loN (x ^^^ y) = loN x ^^^ loN y := by
  unfold loN; rw [BitVec.toNat_xor, show (18446744073709551616 : Nat) = 2 ^ 64 from rfl, Nat.xor_mod_two_pow]
theorem and_hi (x y : B) : bits .and .u64 (hi x) (hi y) = hi (x &&& y) := by unfold hi; rw [u64_and_nat _ _ (hiN_lt x) (hiN_lt y), hiN_and]
theorem and_lo (x y : B) : bits .and .u64 (lo x) (lo y) = lo (x &&& y) := by unfold lo; rw [u64_and_nat _ _ (loN_lt x) (loN_lt y), loN_and]
theorem or_hi (x y : B) : bits .or .u64 (hi x) (hi y) = hi (x ||| y) := by unfold hi; rw [u64_or_nat _ _ (hiN_lt x) (hiN_lt y), hiN_or]
theorem or_lo (x y : B) : bits .or .u64 (lo x) (lo y) = lo (x ||| y) := by unfold lo; rw [u64_or_nat _ _ (loN_lt x) (loN_lt y), loN_or]
theorem xor_hi (x y : B) : bits .xor .u64 (hi x) (hi y) = hi (x ^^^ y) := by unfold hi; rw [u64_xor_nat _ _ (hiN_lt x) (hiN_lt y), hiN_xor]
theorem xor_lo (x y : B) : bits .xor .u64 (lo x) (lo y) = lo (x ^^^ y) := by unfold lo; rw [u64_xor_nat _ _ (loN_lt x) (loN_lt y), loN_xor]
theorem hi_allOnes : hi (BitVec.allOnes 128) = IntKind.u64.max := by decide +kernel
theorem lo_allOnes : lo (BitVec.allOnes 128) = IntKind.u64.max := by decide +kernel
theorem bt_allOnes (k : Nat) (h : k < 128) : bt (BitVec.allOnes 128) k = true := by unfold bt; rw [BitVec.getMsbD_allOnes]; exact decide_eq_true h
theorem not_eq_xor (x : B) : ~~~ x = BitVec.allOnes 128 ^^^ x := by
  apply ext_bt; intro k h; rw [bt_not x k h, bt_xor, bt_allOnes k h]; cases bt x k <;> rfl
theorem not_hi (x : B) : bits .xor .u64 IntKind.u64.max (hi x) = hi (~~~ x) := by rw [← hi_allOnes, xor_hi, not_eq_xor]
theorem not_lo (x : B) : bits .xor .u64 IntKind.u64.max (lo x) = lo (~~~ x) := by rw [← lo_allOnes, xor_lo, not_eq_xor]

/-! one bit -/
def bitB (k : Nat) : B := BitVec.ofNat 128 (2 ^ (127 - k))
theorem bitB_toNat (k : Nat) : (bitB k).toNat = 2 ^ (127 - k) := by
  unfold bitB; rw [BitVec.toNat_ofNat]; exact Nat.mod_eq_of_lt (Nat.pow_lt_pow_right (by omega) (by omega))
theorem bt_bitB (k j : Nat) (hk : k < 128) (hj : j < 128) : bt (bitB k) j = decide (k = j) := by
  rw [bt_toNat _ j hj, bitB_toNat, Nat.testBit_two_pow]
  by_cases h : k = j
  · subst h; simp
  · simp [h]; omega
theorem hi_bitB_lo (k : Nat) (h : k < 64) : hi (bitB k) = 2 ^ (63 - k) ∧ lo (bitB k) = 0 := by
  unfold hi lo hiN loN; rw [bitB_toNat, show 127 - k = 63 - k + 64 by omega, Nat.pow_add]
  constructor
  · rw [show (18446744073709551616 : Nat) = 2 ^ 64 from rfl, Nat.mul_div_cancel _ (by omega)]; simp
  · rw [show (18446744073709551616 : Nat) = 2 ^ 64 from rfl, Nat.mul_mod_left]; rfl
theorem hi_bitB_hi (k : Nat) (h : 64 ≤ k) (h' : k < 128) : hi (bitB k) = 0 ∧ lo (bitB k) = 2 ^ (127 - k) := by
  have hp : 2 ^ (127 - k) < 2 ^ 64 := Nat.pow_lt_pow_right (by omega) (by omega)
  unfold hi lo hiN loN; rw [bitB_toNat, show (18446744073709551616 : Nat) = 2 ^ 64 from rfl]
  rw [Nat.div_eq_of_lt hp, Nat.mod_eq_of_lt hp]; simp

/-! masks -/
/-- A number of bits brought between 0 and 128. -/
def near (n : Int) : Nat := min n.toNat 128
theorem near_le (n : Int) : near n ≤ 128 := by unfold near; omega
def maskB (n : Nat) : B := ~~~ (BitVec.allOnes 128 >>> n)
theorem bt_mask (n k : Nat) (h : k < 128) : bt (maskB n) k = decide (k < n) := by
  unfold maskB; rw [bt_not _ k h]; unfold bt
  rw [BitVec.getMsbD_ushiftRight]
  by_cases hk : k < n
  · simp [hk]
  · rw [BitVec.getMsbD_allOnes, decide_eq_true (show k - n < 128 by omega)]; simp [hk, h]
theorem ones_shift (n : Nat) : (BitVec.allOnes 128 >>> n).toNat = 340282366920938463463374607431768211455 / 2 ^ n := by
  rw [BitVec.toNat_ushiftRight, BitVec.toNat_allOnes, Nat.shiftRight_eq_div_pow]
theorem hi_ones_shift (n : Nat) : hiN (BitVec.allOnes 128 >>> n) = 18446744073709551615 / 2 ^ n := by
  unfold hiN; rw [ones_shift, Nat.div_div_eq_div_mul, Nat.mul_comm, ← Nat.div_div_eq_div_mul]
theorem lo_ones_shift_lo (n : Nat) (h : n ≤ 64) : loN (BitVec.allOnes 128 >>> n) = 18446744073709551615 := by
  apply Nat.eq_of_testBit_eq
  intro i
  rw [show (18446744073709551615 : Nat) = 2 ^ 64 - 1 from rfl, Nat.testBit_two_pow_sub_one]
  unfold loN; rw [ones_shift, show (18446744073709551616 : Nat) = 2 ^ 64 from rfl, Nat.testBit_mod_two_pow, Nat.testBit_div_two_pow,
    show (340282366920938463463374607431768211455 : Nat) = 2 ^ 128 - 1 from rfl, Nat.testBit_two_pow_sub_one]
  by_cases hi : i < 64
  · simp [hi]; omega
  · simp [hi]
theorem lo_ones_shift_hi (m : Nat) : loN (BitVec.allOnes 128 >>> (64 + m)) = 18446744073709551615 / 2 ^ m := by
  unfold loN; rw [ones_shift, Nat.pow_add, ← Nat.div_div_eq_div_mul]
  rw [show 340282366920938463463374607431768211455 / 2 ^ 64 = 18446744073709551615 from rfl]
  exact Nat.mod_eq_of_lt (Nat.lt_of_le_of_lt (Nat.div_le_self _ _) (by omega))
theorem mask_hi (n : Nat) : bits .xor .u64 IntKind.u64.max (18446744073709551615 / 2 ^ n) = hi (maskB n) := by
  unfold maskB; rw [← not_hi]; congr 1; unfold hi; rw [hi_ones_shift]; simp
theorem mask_lo_lo (n : Nat) (h : n ≤ 64) : bits .xor .u64 IntKind.u64.max 18446744073709551615 = lo (maskB n) := by
  unfold maskB; rw [← not_lo]; congr 1; unfold lo; rw [lo_ones_shift_lo n h]; simp
theorem mask_lo_hi (m : Nat) : bits .xor .u64 IntKind.u64.max (18446744073709551615 / 2 ^ m) = lo (maskB (64 + m)) := by
  unfold maskB; rw [← not_lo]; congr 1; unfold lo; rw [lo_ones_shift_hi]; simp
theorem mask_hi_hi (n : Nat) (h : 64 ≤ n) : bits .xor .u64 IntKind.u64.max 0 = hi (maskB n) := by
  rw [← mask_hi]; congr 1
  have : (18446744073709551615 : Nat) / 2 ^ n = 0 := Nat.div_eq_of_lt (Nat.lt_of_lt_of_le (by omega : 18446744073709551615 < 2 ^ 64) (Nat.pow_le_pow_right (by omega) h))
  have h2 := congrArg (Nat.cast : Nat → Int) this
  simpa using h2.symm
theorem two_pow_64 : (18446744073709551615 : Int) / 2 ^ 64 = 0 := by decide
theorem mask_hi_min (n : Nat) : bits .xor .u64 IntKind.u64.max (18446744073709551615 / 2 ^ min n 64) = hi (maskB n) := by
  by_cases h : n ≤ 64
  · rw [Nat.min_eq_left h, mask_hi]
  · rw [Nat.min_eq_right (by omega), two_pow_64, mask_hi_hi n (by omega)]
theorem mask_lo_min (n : Nat) : bits .xor .u64 IntKind.u64.max (18446744073709551615 / 2 ^ (n - 64)) = lo (maskB n) := by
  by_cases h : n ≤ 64
  · rw [show n - 64 = 0 by omega, ← mask_lo_lo n h]; rfl
  · obtain ⟨m, rfl⟩ : ∃ m, n = 64 + m := ⟨n - 64, by omega⟩
    rw [show 64 + m - 64 = m by omega, mask_lo_hi]
theorem cut_eq_iff (x y : B) (n : Nat) : x &&& maskB n = y &&& maskB n ↔ ∀ k, k < n → k < 128 → bt x k = bt y k := by
  constructor
  · intro h k hk hk'
    have := congrArg (fun z => bt z k) h
    simpa [bt_and, bt_mask n k hk', hk] using this
  · intro h
    apply ext_bt; intro k hk
    rw [bt_and, bt_and, bt_mask n k hk]
    by_cases hn : k < n
    · simp [hn, h k hn hk]
    · simp [hn]
theorem mask_128 : maskB 128 = BitVec.allOnes 128 := by
  apply ext_bt; intro k h; rw [bt_mask 128 k h, bt_allOnes k h]; exact decide_eq_true h
theorem mask_ge (n : Nat) (h : 128 ≤ n) : maskB n = maskB 128 := by
  apply ext_bt; intro k hk; rw [bt_mask _ k hk, bt_mask _ k hk]; simp; omega
theorem and_mask_ge (x : B) (n : Nat) (h : 128 ≤ n) : x &&& maskB n = x := by
  apply ext_bt; intro k hk; rw [bt_and, bt_mask _ k hk]; simp; omega

/-! what two have in common -/
def common (x y : B) : Nat := if hiN (x ^^^ y) ≠ 0 then 64 - Lib.bitLen (hiN (x ^^^ y)) else 128 - Lib.bitLen (loN (x ^^^ y))
end Pg
