/- Addresses of 128 bits as bit vectors: their two words as numbers, masks, what two have in common. Plain Lean, no program. Addresses: the first bit in which two differ, which one is greater, the next one. Plain Lean, no program. -/
import Derived.Laws.BitsAllLaws
import Derived.Lib.BitFns
namespace Pg
open Go

abbrev B := BitVec 128
/-- The bit k from the left. -/
abbrev bt (x : B) (k : Nat) : Bool := x.getMsbD k
def hiN (x : B) : Nat := x.toNat / 18446744073709551616
def loN (x : B) : Nat := x.toNat % 18446744073709551616
def hi (x : B) : Int := (hiN x : Int)
def lo (x : B) : Int := (loN x : Int)

theorem toNat_split (x : B) : x.toNat = hiN x * 18446744073709551616 + loN x := by unfold hiN loN; omega
theorem hiN_lt (x : B) : hiN x < 18446744073709551616 := by unfold hiN; have := x.isLt; omega
theorem loN_lt (x : B) : loN x < 18446744073709551616 := by unfold loN; omega
theorem hi_nonneg (x : B) : 0 ≤ hi x := by unfold hi; omega
theorem lo_nonneg (x : B) : 0 ≤ lo x := by unfold lo; omega
theorem hi_le (x : B) : hi x ≤ 18446744073709551615 := by unfold hi; have := hiN_lt x; omega
theorem lo_le (x : B) : lo x ≤ 18446744073709551615 := by unfold lo; have := loN_lt x; omega
theorem eq_of_words {x y : B} (h : hi x = hi y) (l : lo x = lo y) : x = y := by
  apply BitVec.eq_of_toNat_eq
  rw [toNat_split x, toNat_split y]
  unfold hi at h; unfold lo at l
  have h' : hiN x = hiN y := by omega
  have l' : loN x = loN y := by omega
  rw [h', l']
theorem words_eq_iff {x y : B} : (hi x = hi y ∧ lo x = lo y) ↔ x = y := ⟨fun h => eq_of_words h.1 h.2, fun h => by rw [h]; exact ⟨rfl, rfl⟩⟩
def mkB (h l : Nat) : B := BitVec.ofNat 128 (h * 18446744073709551616 + l)
theorem mkB_toNat {h l : Nat} (hh : h < 18446744073709551616) (hl : l < 18446744073709551616) : (mkB h l).toNat = h * 18446744073709551616 + l := by
  unfold mkB; rw [BitVec.toNat_ofNat]; exact Nat.mod_eq_of_lt (by omega)
theorem exists_words (h l : Int) (h0 : 0 ≤ h) (h1 : h ≤ 18446744073709551615) (l0 : 0 ≤ l) (l1 : l ≤ 18446744073709551615) : ∃ x : B, hi x = h ∧ lo x = l := by
  refine ⟨mkB h.toNat l.toNat, ?_, ?_⟩
  · unfold hi hiN; rw [mkB_toNat (by omega) (by omega)]; omega
  · unfold lo loN; rw [mkB_toNat (by omega) (by omega)]; omega
@[simp] theorem hi_zero : hi 0#128 = 0 := rfl
@[simp] theorem lo_zero : lo 0#128 = 0 := rfl

/-! bits -/
theorem bt_toNat (x : B) (k : Nat) (h : k < 128) : bt x k = x.toNat.testBit (127 - k) := by
  unfold bt; rw [BitVec.getMsbD_eq_getLsbD]; simp [h, BitVec.getLsbD]
theorem hiN_testBit (x : B) (k : Nat) (h : k < 64) : (hiN x).testBit (63 - k) = bt x k := by
  rw [bt_toNat x k (by omega)]
  unfold hiN
  rw [show (18446744073709551616 : Nat) = 2 ^ 64 from rfl, Nat.testBit_div_two_pow]
  congr 1; omega
theorem loN_testBit (x : B) (k : Nat) (h : k < 64) : (loN x).testBit (63 - k) = bt x (64 + k) := by
  rw [bt_toNat x (64 + k) (by omega)]
  unfold loN
  rw [show (18446744073709551616 : Nat) = 2 ^ 64 from rfl, Nat.testBit_mod_two_pow]
  simp only [show 63 - k < 64 from by omega, decide_true, Bool.true_and]
  congr 1; omega
theorem ext_bt {x y : B} (h : ∀ k, k < 128 → bt x k = bt y k) : x = y := BitVec.eq_of_getMsbD_eq h
theorem bt_of_le (x : B) (k : Nat) (h : 128 ≤ k) : bt x k = false := by unfold bt; rw [BitVec.getMsbD_eq_getLsbD]; simp; omega
theorem bt_and (x y : B) (k : Nat) : bt (x &&& y) k = (bt x k && bt y k) := BitVec.getMsbD_and
theorem bt_or (x y : B) (k : Nat) : bt (x ||| y) k = (bt x k || bt y k) := BitVec.getMsbD_or
theorem bt_xor (x y : B) (k : Nat) : bt (x ^^^ y) k = (bt x k != bt y k) := BitVec.getMsbD_xor
theorem bt_not (x : B) (k : Nat) (h : k < 128) : bt (~~~ x) k = !bt x k := by unfold bt; rw [BitVec.getMsbD_not]; simp [h]
theorem bt_zero (k : Nat) : bt 0#128 k = false := by simp [bt]

/-! the words of what is reckoned -/
theorem hiN_and (x y : B) : hiN (x &&& y) = hiN x &&& hiN y := by
  unfold hiN; rw [BitVec.toNat_and, show (18446744073709551616 : Nat) = 2 ^ 64 from rfl, Nat.and_div_two_pow]
theorem loN_and (x y : B) : loN (x &&& y) = loN x &&& loN y := by
  unfold loN; rw [BitVec.toNat_and, show (18446744073709551616 : Nat) = 2 ^ 64 from rfl, Nat.and_mod_two_pow]
theorem hiN_or (x y : B) : hiN (x ||| y) = hiN x ||| hiN y := by
  unfold hiN; rw [BitVec.toNat_or, show (18446744073709551616 : Nat) = 2 ^ 64 from rfl, Nat.or_div_two_pow]
theorem loN_or (x y : B) : loN (x ||| y) = loN x ||| loN y := by
  unfold loN; rw [BitVec.toNat_or, show (18446744073709551616 : Nat) = 2 ^ 64 from rfl, Nat.or_mod_two_pow]
theorem hiN_xor (x y : B) : hiN (x ^^^ y) = hiN x ^^^ hiN y := by
  unfold hiN; rw [BitVec.toNat_xor, show (18446744073709551616 : Nat) = 2 ^ 64 from rfl, Nat.xor_div_two_pow]
theorem loN_xor (x y : B) : loN (x ^^^ y) = loN x ^^^ loN y := by
  unfold loN; rw [BitVec.toNat_xor, show (18446744073709551616 : Nat) = 2 ^ 64 from rfl, Nat.xor_mod_two_pow]
theorem and_hi (x y : B) : bits .and .u64 (hi x) (hi y) = hi (x &&& y) := by unfold hi; rw [u64_and_nat _ _ (hiN_lt x) (hiN_lt y), hiN_and]
theorem and_lo (x y : B) : bits .and .u64 (lo x) (lo y) = lo (x &&& y) := by unfold lo; rw [u64_and_nat _ _ (loN_lt x) (loN_lt y), loN_and]
theorem or_hi (x y : B) : bits .or .u64 (hi x) (hi y) = hi (x ||| y) := by unfold hi; rw [u64_or_nat _ _ (hiN_lt x) (hiN_lt y), hiN_or]
theorem or_lo (x y : B) : bits .or .u64 (lo x) (lo y) = lo (x ||| y) := by unfold lo; rw [u64_or_nat _ _ (loN_lt x) (loN_lt y), loN_or]
theorem xor_hi (x y : B) : bits .xor .u64 (hi x) (hi y) = hi (x ^^^ y) := by unfold hi; rw [u64_xor_nat _ _ (hiN_lt x) (hiN_lt y), hiN_xor]
theorem xor_lo (x y : B) : bits .xor .u64 (lo x) (lo y) = lo (x ^^^ y) := by unfold lo; rw [u64_xor_nat _ _ (loN_lt x) (loN_lt y), loN_xor]
theorem hi_allOnes : hi (BitVec.allOnes 128) = IntKind.u64.max := by decide +kernel
theorem lo_allOnes : lo (BitVec.allOnes 128) = IntKind.u64.max := by decide +kernel
theorem bt_allOnes (k : Nat) (h : k < 128) : bt (BitVec.allOnes 128) k = true := by unfold bt; rw [BitVec.getMsbD_allOnes]; exact decide_eq_true h
theorem not_eq_xor (x : B) : ~~~ x = BitVec.allOnes 128 ^^^ x := by
  apply ext_bt; intro k h; rw [bt_not x k h, bt_xor, bt_allOnes k h]; cases bt x k <;> rfl
theorem not_hi (x : B) : bits .xor .u64 IntKind.u64.max (hi x) = hi (~~~ x) := by rw [← hi_allOnes, xor_hi, not_eq_xor]
theorem not_lo (x : B) : bits .xor .u64 IntKind.u64.max (lo x) = lo (~~~ x) := by rw [← lo_allOnes, xor_lo, not_eq_xor]

/-! one bit -/
def bitB (k : Nat) : B := BitVec.ofNat 128 (2 ^ (127 - k))
theorem bitB_toNat (k : Nat) : (bitB k).toNat = 2 ^ (127 - k) := by
  unfold bitB; rw [BitVec.toNat_ofNat]; exact Nat.mod_eq_of_lt (Nat.pow_lt_pow_right (by omega) (by omega))
theorem bt_bitB (k j : Nat) (hk : k < 128) (hj : j < 128) : bt (bitB k) j = decide (k = j) := by
  rw [bt_toNat _ j hj, bitB_toNat, Nat.testBit_two_pow]
  by_cases h : k = j
  · subst h; simp
  · simp [h]; omega
theorem hi_bitB_lo (k : Nat) (h : k < 64) : hi (bitB k) = 2 ^ (63 - k) ∧ lo (bitB k) = 0 := by
  unfold hi lo hiN loN; rw [bitB_toNat, show 127 - k = 63 - k + 64 by omega, Nat.pow_add]
  constructor
  · rw [show (18446744073709551616 : Nat) = 2 ^ 64 from rfl, Nat.mul_div_cancel _ (by omega)]; simp
  · rw [show (18446744073709551616 : Nat) = 2 ^ 64 from rfl, Nat.mul_mod_left]; rfl
theorem hi_bitB_hi (k : Nat) (h : 64 ≤ k) (h' : k < 128) : hi (bitB k) = 0 ∧ lo (bitB k) = 2 ^ (127 - k) := by
  have hp : 2 ^ (127 - k) < 2 ^ 64 := Nat.pow_lt_pow_right (by omega) (by omega)
  unfold hi lo hiN loN; rw [bitB_toNat, show (18446744073709551616 : Nat) = 2 ^ 64 from rfl]
  rw [Nat.div_eq_of_lt hp, Nat.mod_eq_of_lt hp]; simp

/-! masks -/
/-- A number of bits brought between 0 and 128. -/
def near (n : Int) : Nat := min n.toNat 128
theorem near_le (n : Int) : near n ≤ 128 := by unfold near; omega
def maskB (n : Nat) : B := ~~~ (BitVec.allOnes 128 >>> n)
theorem bt_mask (n k : Nat) (h : k < 128) : bt (maskB n) k = decide (k < n) := by
  unfold maskB; rw [bt_not _ k h]; unfold bt
  rw [BitVec.getMsbD_ushiftRight]
  by_cases hk : k < n
  · simp [hk]
  · rw [BitVec.getMsbD_allOnes, decide_eq_true (show k - n < 128 by omega)]; simp [hk, h]
theorem ones_shift (n : Nat) : (BitVec.allOnes 128 >>> n).toNat = 340282366920938463463374607431768211455 / 2 ^ n := by
  rw [BitVec.toNat_ushiftRight, BitVec.toNat_allOnes, Nat.shiftRight_eq_div_pow]
theorem hi_ones_shift (n : Nat) : hiN (BitVec.allOnes 128 >>> n) = 18446744073709551615 / 2 ^ n := by
  unfold hiN; rw [ones_shift, Nat.div_div_eq_div_mul, Nat.mul_comm, ← Nat.div_div_eq_div_mul]
theorem lo_ones_shift_lo (n : Nat) (h : n ≤ 64) : loN (BitVec.allOnes 128 >>> n) = 18446744073709551615 := by
  apply Nat.eq_of_testBit_eq
  intro i
  rw [show (18446744073709551615 : Nat) = 2 ^ 64 - 1 from rfl, Nat.testBit_two_pow_sub_one]
  unfold loN; rw [ones_shift, show (18446744073709551616 : Nat) = 2 ^ 64 from rfl, Nat.testBit_mod_two_pow, Nat.testBit_div_two_pow,
    show (340282366920938463463374607431768211455 : Nat) = 2 ^ 128 - 1 from rfl, Nat.testBit_two_pow_sub_one]
  by_cases hi : i < 64
  · simp [hi]; omega
  · simp [hi]
theorem lo_ones_shift_hi (m : Nat) : loN (BitVec.allOnes 128 >>> (64 + m)) = 18446744073709551615 / 2 ^ m := by
  unfold loN; rw [ones_shift, Nat.pow_add, ← Nat.div_div_eq_div_mul]
  rw [show 340282366920938463463374607431768211455 / 2 ^ 64 = 18446744073709551615 from rfl]
  exact Nat.mod_eq_of_lt (Nat.lt_of_le_of_lt (Nat.div_le_self _ _) (by omega))
theorem mask_hi (n : Nat) : bits .xor .u64 IntKind.u64.max (18446744073709551615 / 2 ^ n) = hi (maskB n) := by
  unfold maskB; rw [← not_hi]; congr 1; unfold hi; rw [hi_ones_shift]; simp
theorem mask_lo_lo (n : Nat) (h : n ≤ 64) : bits .xor .u64 IntKind.u64.max 18446744073709551615 = lo (maskB n) := by
  unfold maskB; rw [← not_lo]; congr 1; unfold lo; rw [lo_ones_shift_lo n h]; simp
theorem mask_lo_hi (m : Nat) : bits .xor .u64 IntKind.u64.max (18446744073709551615 / 2 ^ m) = lo (maskB (64 + m)) := by
  unfold maskB; rw [← not_lo]; congr 1; unfold lo; rw [lo_ones_shift_hi]; simp
theorem mask_hi_hi (n : Nat) (h : 64 ≤ n) : bits .xor .u64 IntKind.u64.max 0 = hi (maskB n) := by
  rw [← mask_hi]; congr 1
  have : (18446744073709551615 : Nat) / 2 ^ n = 0 := Nat.div_eq_of_lt (Nat.lt_of_lt_of_le (by omega : 18446744073709551615 < 2 ^ 64) (Nat.pow_le_pow_right (by omega) h))
  have h2 := congrArg (Nat.cast : Nat → Int) this
  simpa using h2.symm
theorem two_pow_64 : (18446744073709551615 : Int) / 2 ^ 64 = 0 := by decide
theorem mask_hi_min (n : Nat) : bits .xor .u64 IntKind.u64.max (18446744073709551615 / 2 ^ min n 64) = hi (maskB n) := by
  by_cases h : n ≤ 64
  · rw [Nat.min_eq_left h, mask_hi]
  · rw [Nat.min_eq_right (by omega), two_pow_64, mask_hi_hi n (by omega)]
theorem mask_lo_min (n : Nat) : bits .xor .u64 IntKind.u64.max (18446744073709551615 / 2 ^ (n - 64)) = lo (maskB n) := by
  by_cases h : n ≤ 64
  · rw [show n - 64 = 0 by omega, ← mask_lo_lo n h]; rfl
  · obtain ⟨m, rfl⟩ : ∃ m, n = 64 + m := ⟨n - 64, by omega⟩
    rw [show 64 + m - 64 = m by omega, mask_lo_hi]
theorem cut_eq_iff (x y : B) (n : Nat) : x &&& maskB n = y &&& maskB n ↔ ∀ k, k < n → k < 128 → bt x k = bt y k := by
  constructor
  · intro h k hk hk'
    have := congrArg (fun z => bt z k) h
    simpa [bt_and, bt_mask n k hk', hk] using this
  · intro h
    apply ext_bt; intro k hk
    rw [bt_and, bt_and, bt_mask n k hk]
    by_cases hn : k < n
    · simp [hn, h k hn hk]
    · simp [hn]
theorem mask_128 : maskB 128 = BitVec.allOnes 128 := by
  apply ext_bt; intro k h; rw [bt_mask 128 k h, bt_allOnes k h]; exact decide_eq_true h
theorem mask_ge (n : Nat) (h : 128 ≤ n) : maskB n = maskB 128 := by
  apply ext_bt; intro k hk; rw [bt_mask _ k hk, bt_mask _ k hk]; simp; omega
theorem and_mask_ge (x : B) (n : Nat) (h : 128 ≤ n) : x &&& maskB n = x := by
  apply ext_bt; intro k hk; rw [bt_and, bt_mask _ k hk]; simp; omega

/-! what two have in common -/
def common (x y : B) : Nat := if hiN (x ^^^ y) ≠ 0 then 64 - Lib.bitLen (hiN (x ^^^ y)) else 128 - Lib.bitLen (loN (x ^^^ y))
end Pg
namespace Pg
open Go

theorem bitLenAux_lt : ∀ (f x : Nat), x < 2 ^ f → x < 2 ^ Lib.bitLenAux f x
  | 0, x, h => by simpa [Lib.bitLenAux] using h
  | f + 1, x, h => by
    unfold Lib.bitLenAux
    by_cases hx : x = 0
    · simp [hx]
    · have ih := bitLenAux_lt f (x / 2) (by rw [Nat.pow_succ] at h; omega)
      simp only [hx, if_false, Nat.add_comm 1, Nat.pow_succ]
      omega
theorem bitLen_lt (x : Nat) (h : x < 18446744073709551616) : x < 2 ^ Lib.bitLen x := bitLenAux_lt 64 x h
theorem bitLen_pos (x : Nat) (h0 : x ≠ 0) (h : x < 18446744073709551616) : 1 ≤ Lib.bitLen x := by
  have := bitLen_lt x h
  rcases Nat.eq_zero_or_pos (Lib.bitLen x) with e | e
  · rw [e] at this; omega
  · exact e
theorem bitLen_top (x : Nat) (h0 : x ≠ 0) (h : x < 18446744073709551616) : x.testBit (Lib.bitLen x - 1) = true := by
  have h1 := bitLen_pos x h0 h
  have h2 := bitLen_lt x h
  have h3 : 2 ^ (Lib.bitLen x - 1) ≤ x := by
    apply Nat.le_of_not_lt; intro h4
    have := Lib.bitLenAux_le 64 x _ h4
    unfold Lib.bitLen at h1 this
    omega
  apply Nat.testBit_of_two_pow_le_and_two_pow_add_one_gt h3
  rw [show Lib.bitLen x - 1 + 1 = Lib.bitLen x by omega]; exact h2
theorem bitLen_above (x i : Nat) (h : x < 18446744073709551616) (hi : Lib.bitLen x ≤ i) : x.testBit i = false :=
  Nat.testBit_lt_two_pow (Nat.lt_of_lt_of_le (bitLen_lt x h) (Nat.pow_le_pow_right (by omega) hi))
theorem bitLen_le64 (x : Nat) (h : x < 18446744073709551616) : Lib.bitLen x ≤ 64 := Lib.bitLen_le x 64 (by omega) (by omega)

theorem common_le (x y : B) : common x y ≤ 128 := by unfold common; split <;> omega
/-- Ahead of 'common' the bits are the same. -/
theorem common_same (x y : B) (k : Nat) (h : k < common x y) : bt x k = bt y k := by
  have e : bt (x ^^^ y) k = false := by
    unfold common at h
    split at h
    · rename_i hz
      have hb := hiN_lt (x ^^^ y)
      rw [← hiN_testBit _ k (by omega)]
      exact bitLen_above _ _ hb (by omega)
    · rename_i hz
      have hz' : hiN (x ^^^ y) = 0 := by omega
      have hb := loN_lt (x ^^^ y)
      by_cases hk : k < 64
      · rw [← hiN_testBit _ k hk, hz', Nat.zero_testBit]
      · rw [show k = 64 + (k - 64) by omega, ← loN_testBit _ (k - 64) (by omega)]
        exact bitLen_above _ _ hb (by omega)
  rw [bt_xor] at e
  revert e; cases bt x k <;> cases bt y k <;> simp
/-- At 'common' they differ. -/
theorem common_ne (x y : B) (h : common x y < 128) : bt x (common x y) ≠ bt y (common x y) := by
  have e : bt (x ^^^ y) (common x y) = true := by
    unfold common at h ⊢
    split
    · rename_i hz
      have hb := hiN_lt (x ^^^ y)
      have h1 := bitLen_pos _ hz hb
      have h2 := bitLen_le64 _ hb
      rw [← hiN_testBit _ _ (by omega), show 63 - (64 - Lib.bitLen (hiN (x ^^^ y))) = Lib.bitLen (hiN (x ^^^ y)) - 1 by omega]
      exact bitLen_top _ hz hb
    · rename_i hz
      rw [if_neg hz] at h
      have hb := loN_lt (x ^^^ y)
      have h2 := bitLen_le64 _ hb
      have h0 : loN (x ^^^ y) ≠ 0 := by
        intro h0; rw [h0] at h
        revert h; decide
      have h1 := bitLen_pos _ h0 hb
      rw [show 128 - Lib.bitLen (loN (x ^^^ y)) = 64 + (64 - Lib.bitLen (loN (x ^^^ y))) by omega, ← loN_testBit _ _ (by omega),
        show 63 - (64 - Lib.bitLen (loN (x ^^^ y))) = Lib.bitLen (loN (x ^^^ y)) - 1 by omega]
      exact bitLen_top _ h0 hb
  rw [bt_xor] at e
  revert e; cases bt x (common x y) <;> cases bt y (common x y) <;> simp
theorem le_common_iff (x y : B) (n : Nat) (hn : n ≤ 128) : n ≤ common x y ↔ ∀ k, k < n → bt x k = bt y k := by
  constructor
  · intro h k hk; exact common_same x y k (by omega)
  · intro h
    apply Nat.le_of_not_lt; intro hlt
    exact common_ne x y (by omega) (h _ hlt)
theorem common_eq_of (x y : B) (n : Nat) (hn : n ≤ 128) (h : ∀ k, k < n → bt x k = bt y k) (h' : n < 128 → bt x n ≠ bt y n) : common x y = n := by
  have h1 := (le_common_iff x y n hn).2 h
  rcases Nat.lt_or_ge n (common x y) with h2 | h2
  · have h3 := common_le x y
    exact absurd (common_same x y n h2) (h' (by omega))
  · omega
theorem common_128 (x y : B) : common x y = 128 ↔ x = y := by
  constructor
  · intro h; exact ext_bt fun k hk => common_same x y k (by omega)
  · intro h; subst h; exact common_eq_of x x 128 (by omega) (fun _ _ => rfl) (fun h => by omega)
theorem common_comm (x y : B) : common x y = common y x :=
  common_eq_of x y _ (common_le y x) (fun k hk => (common_same y x k hk).symm) (fun h => (common_ne y x h).symm)
theorem match_mask (x y : B) (n : Nat) (hn : n ≤ 128) : (n ≤ common x y) ↔ x &&& maskB n = y &&& maskB n := by
  rw [le_common_iff x y n hn, cut_eq_iff]
  exact ⟨fun h k hk _ => h k hk, fun h k hk => h k hk (by omega)⟩

/-! which one is greater -/
def cmpB (x y : B) : Int := if x.toNat < y.toNat then -1 else if y.toNat < x.toNat then 1 else 0
theorem shift_eq (x y : B) (n : Nat) (h : ∀ k, k < n → bt x k = bt y k) (hn : n ≤ 128) : x.toNat / 2 ^ (128 - n) = y.toNat / 2 ^ (128 - n) := by
  apply Nat.eq_of_testBit_eq
  intro i
  rw [Nat.testBit_div_two_pow, Nat.testBit_div_two_pow]
  by_cases hi : i < n
  · have := h (n - 1 - i) (by omega)
    rw [bt_toNat _ _ (by omega), bt_toNat _ _ (by omega)] at this
    rw [show i + (128 - n) = 127 - (n - 1 - i) by omega]
    exact this
  · have hx : x.toNat < 2 ^ (i + (128 - n)) := Nat.lt_of_lt_of_le x.isLt (Nat.pow_le_pow_right (by omega) (by omega))
    have hy : y.toNat < 2 ^ (i + (128 - n)) := Nat.lt_of_lt_of_le y.isLt (Nat.pow_le_pow_right (by omega) (by omega))
    rw [Nat.testBit_lt_two_pow hx, Nat.testBit_lt_two_pow hy]
theorem lt_of_bit (x y : B) (n : Nat) (hn : n < 128) (h : ∀ k, k < n → bt x k = bt y k) (hx : bt x n = false) (hy : bt y n = true) : x.toNat < y.toNat := by
  have e := shift_eq x y n h (by omega)
  rw [bt_toNat _ _ hn] at hx hy
  rw [show 128 - n = 127 - n + 1 by omega, Nat.pow_succ, ← Nat.div_div_eq_div_mul, ← Nat.div_div_eq_div_mul] at e
  have ex : x.toNat / 2 ^ (127 - n) % 2 = 0 := by
    have := Nat.testBit_eq_decide_div_mod_eq (x := x.toNat) (i := 127 - n); rw [hx] at this; simp at this; omega
  have ey : y.toNat / 2 ^ (127 - n) % 2 = 1 := by
    have := Nat.testBit_eq_decide_div_mod_eq (x := y.toNat) (i := 127 - n); rw [hy] at this; simpa using this.symm
  apply Nat.lt_of_not_le; intro hle
  have := Nat.div_le_div_right (c := 2 ^ (127 - n)) hle
  omega
theorem cmp_of_common (x y : B) : cmpB x y = if common x y = 128 then 0 else if bt y (common x y) then -1 else 1 := by
  by_cases h : common x y = 128
  · have := (common_128 x y).1 h
    subst this
    simp [h, cmpB]
  · have hlt : common x y < 128 := by have := common_le x y; omega
    have hne := common_ne x y hlt
    rw [if_neg h]
    cases hy : bt y (common x y)
    · have hx : bt x (common x y) = true := by revert hne; rw [hy]; cases bt x (common x y) <;> simp
      have := lt_of_bit y x _ hlt (fun k hk => (common_same x y k hk).symm) hy hx
      unfold cmpB; rw [if_neg (by omega), if_pos this]; rfl
    · have hx : bt x (common x y) = false := by revert hne; rw [hy]; cases bt x (common x y) <;> simp
      have := lt_of_bit x y _ hlt (fun k hk => common_same x y k hk) hx hy
      unfold cmpB; rw [if_pos this]; rfl
theorem cmp_words (x y : B) : cmpB x y = if hi x < hi y then -1 else if hi y < hi x then 1 else if lo x < lo y then -1 else if lo y < lo x then 1 else 0 := by
  have hx := toNat_split x; have hy := toNat_split y
  have lx := loN_lt x; have ly := loN_lt y
  unfold cmpB hi lo
  rw [hx, hy]
  by_cases a : hiN x < hiN y
  · rw [if_pos (by omega), if_pos (by omega)]
  by_cases b : hiN y < hiN x
  · rw [if_neg (by omega), if_pos (by omega), if_neg (by omega), if_pos (by omega)]
  · rw [if_neg (show ¬ ((hiN x : Int) < hiN y) by omega), if_neg (show ¬ ((hiN y : Int) < hiN x) by omega)]
    by_cases c : loN x < loN y
    · rw [if_pos (by omega), if_pos (by omega)]
    by_cases d : loN y < loN x
    · rw [if_neg (by omega), if_pos (by omega), if_neg (by omega), if_pos (by omega)]
    · rw [if_neg (by omega), if_neg (by omega), if_neg (by omega), if_neg (by omega)]
theorem cmp_zero (x y : B) : cmpB x y = 0 ↔ x = y := by
  unfold cmpB
  constructor
  · intro h; apply BitVec.eq_of_toNat_eq; split at h <;> try split at h
    all_goals omega
  · intro h; subst h; simp
theorem cmp_neg (x y : B) : cmpB x y = -cmpB y x := by
  unfold cmpB; split <;> split <;> first | omega | (try split) <;> omega
theorem cmp_values (x y : B) : cmpB x y = -1 ∨ cmpB x y = 0 ∨ cmpB x y = 1 := by
  unfold cmpB; split <;> (try split) <;> simp

/-! the next one -/
theorem next_wrap (x : B) (h : (IntKind.u64.wrap (lo x + 1) == 0) = true) : IntKind.u64.wrap (hi x + 1) = hi (x + 1#128) ∧ IntKind.u64.wrap (lo x + 1) = lo (x + 1#128) := by
  have e := toNat_split x; have l := loN_lt x; have hh := hiN_lt x
  rw [beq_iff_eq, IntKind.wrap_u64] at h
  rw [IntKind.wrap_u64, IntKind.wrap_u64]
  have t : (x + 1#128).toNat = (x.toNat + 1) % 340282366920938463463374607431768211456 := by rw [BitVec.toNat_add]; rfl
  unfold hi lo at *
  unfold hiN loN at *
  rw [t]
  omega
theorem next_plain (x : B) (h : (IntKind.u64.wrap (lo x + 1) == 0) = false) : hi x = hi (x + 1#128) ∧ IntKind.u64.wrap (lo x + 1) = lo (x + 1#128) := by
  have e := toNat_split x; have l := loN_lt x; have hh := hiN_lt x
  rw [beq_eq_false_iff_ne, IntKind.wrap_u64] at h
  rw [IntKind.wrap_u64]
  have t : (x + 1#128).toNat = (x.toNat + 1) % 340282366920938463463374607431768211456 := by rw [BitVec.toNat_add]; rfl
  unfold hi lo at *
  unfold hiN loN at *
  rw [t]
  omega
/-- Behind the last bit that is not set all are: one more turns these and that one. -/
theorem bt_next (x : B) (k : Nat) (hk : k < 128) (h0 : bt x k = false) (h1 : ∀ j, k < j → j < 128 → bt x j = true) (j : Nat) (hj : j < 128) :
    bt (x + 1#128) j = if k < j then false else if j = k then true else bt x j := by
  have hm : x.toNat % 2 ^ (127 - k) = 2 ^ (127 - k) - 1 := by
    apply Nat.eq_of_testBit_eq; intro i
    rw [Nat.testBit_mod_two_pow, Nat.testBit_two_pow_sub_one]
    by_cases hi : i < 127 - k
    · have := h1 (127 - i) (by omega) (by omega)
      rw [bt_toNat _ _ (by omega), show 127 - (127 - i) = i by omega] at this
      simp [hi, this]
    · simp [hi]
  have hz : x.toNat / 2 ^ (127 - k) % 2 = 0 := by
    rw [bt_toNat _ _ hk] at h0
    have := Nat.testBit_eq_decide_div_mod_eq (x := x.toNat) (i := 127 - k); rw [h0] at this; simp at this; omega
  have hp : 0 < 2 ^ (127 - k) := Nat.pow_pos (by omega)
  have hd := Nat.div_add_mod x.toNat (2 ^ (127 - k))
  generalize hq : x.toNat / 2 ^ (127 - k) = q at *
  have hx1 : x.toNat + 1 = 2 ^ (127 - k) * (q + 1) := by rw [Nat.mul_add]; omega
  have hlt : x.toNat + 1 < 2 ^ 128 := by
    have hx := x.isLt
    rcases Nat.lt_or_ge (x.toNat + 1) (2 ^ 128) with h | h
    · exact h
    · exfalso
      have e : x.toNat + 1 = 2 ^ 128 := by omega
      rw [e, show (128 : Nat) = (127 - k) + (k + 1) by omega, Nat.pow_add] at hx1
      have := Nat.eq_of_mul_eq_mul_left hp hx1
      rw [Nat.pow_succ] at this
      omega
  have t : (x + 1#128).toNat = x.toNat + 1 := by rw [BitVec.toNat_add]; exact Nat.mod_eq_of_lt hlt
  rw [bt_toNat _ _ hj, t, hx1]
  by_cases c1 : k < j
  · rw [if_pos c1, Nat.testBit_two_pow_mul]; simp; omega
  · rw [if_neg c1, Nat.testBit_two_pow_mul]
    by_cases c2 : j = k
    · subst c2; simp [Nat.testBit_zero]; omega
    · rw [if_neg c2]
      have e1 : (q + 1).testBit (127 - j - (127 - k)) = q.testBit (127 - j - (127 - k)) := by
        rw [show 127 - j - (127 - k) = (k - j - 1) + 1 by omega, Nat.testBit_succ, Nat.testBit_succ]
        congr 1; omega
      rw [e1, ← hq, Nat.testBit_div_two_pow, bt_toNat _ _ hj, show 127 - j - (127 - k) + (127 - k) = 127 - j by omega]
      simp; omega
theorem next_ones (x : B) (h : ∀ j, j < 128 → bt x j = true) : x + 1#128 = 0#128 := by
  have : x = BitVec.allOnes 128 := ext_bt fun j hj => by rw [h j hj, bt_allOnes j hj]
  rw [this]; decide +kernel

theorem and_bit_zero (x : B) (k : Nat) (h : k < 128) : x &&& bitB k = 0#128 ↔ bt x k = false := by
  constructor
  · intro e
    have := congrArg (fun z => bt z k) e
    simpa [bt_and, bt_bitB k k h h, bt_zero] using this
  · intro e
    apply ext_bt; intro j hj
    rw [bt_and, bt_bitB k j h hj, bt_zero]
    by_cases c : k = j
    · subst c; simp [e]
    · simp [c]
/-- A bit put so. -/
def setB (x : B) (k : Nat) (b : Bool) : B := if b then x ||| bitB k else x &&& ~~~ bitB k
theorem bt_setB (x : B) (k : Nat) (b : Bool) (h : k < 128) (j : Nat) (hj : j < 128) : bt (setB x k b) j = if j = k then b else bt x j := by
  unfold setB
  cases b
  · rw [if_neg (by simp), bt_and, bt_not _ _ hj, bt_bitB k j h hj]
    by_cases c : j = k
    · simp [c]
    · simp [c, Ne.symm c]
  · rw [if_pos rfl, bt_or, bt_bitB k j h hj]
    by_cases c : j = k
    · simp [c]
    · simp [c, Ne.symm c]

/-! how many are set -/
def ones (x : B) : Nat := (List.range 128).countP (fun k => bt x k)
theorem countP_not {α : Type} (p : α → Bool) (l : List α) : l.countP (fun a => !p a) = l.length - l.countP p := by
  have h := List.length_eq_countP_add_countP (p := p) (l := l)
  simp only [Bool.not_eq_true] at h
  have e : l.countP (fun a => !p a) = l.countP (fun a => decide (p a = false)) := by
    apply List.countP_congr; intro a _; cases p a <;> simp
  omega
theorem ones_le (x : B) : ones x ≤ 128 := by unfold ones; have := List.countP_le_length (p := fun k => bt x k) (l := List.range 128); simpa using this
theorem ones_not (x : B) : ones (~~~ x) = 128 - ones x := by
  unfold ones
  have : (List.range 128).countP (fun k => bt (~~~ x) k) = (List.range 128).countP (fun k => !bt x k) := by
    apply List.countP_congr; intro k hk; rw [bt_not x k (by simpa using hk)]
  rw [this, countP_not]; simp
end Pg
