/- How many bits of a word are set, reckoned in parallel as math/bits does. Plain Lean, no program. -/
import Derived.Test.YtemfocnjlimicaaMath2
import Derived.RowKit
import Derived.IntWalk
namespace Pg
open Go

theorem and_split (p q m r : Nat) (hq : q < 256) (hr : r < 256) : (p * 256 + q) &&& (m * 256 + r) = (p &&& m) * 256 + (q &&& r) := by
  have h1 := Nat.and_div_two_pow (a := p * 256 + q) (b := m * 256 + r) (n := 8)
  have h2 := Nat.and_mod_two_pow (a := p * 256 + q) (b := m * 256 + r) (n := 8)
  rw [show (2 : Nat) ^ 8 = 256 from rfl] at h1 h2
  rw [show (p * 256 + q) / 256 = p by omega, show (m * 256 + r) / 256 = m by omega] at h1
  rw [show (p * 256 + q) % 256 = q by omega, show (m * 256 + r) % 256 = r by omega] at h2
  omega

def rep (c : Nat) : Nat → Nat
  | 0 => 0
  | n + 1 => rep c n * 256 + c
def s1 (n x : Nat) : Nat := (x / 2 &&& rep 85 n) + (x &&& rep 85 n)
def s2 (n x : Nat) : Nat := (x / 4 &&& rep 51 n) + (x &&& rep 51 n)
def s3 (n x : Nat) : Nat := (x / 16 + x) &&& rep 15 n
def f1 (b : Nat) : Nat := (b / 2 &&& 85) + (b &&& 85)
def f2 (b : Nat) : Nat := (b / 4 &&& 51) + (b &&& 51)
def f3 (b : Nat) : Nat := (b / 16 + b) &&& 15
theorem d1 : ∀ (c : Fin 2) (b : Fin 256), (c.val * 128 + b.val / 2) &&& 85 = b.val / 2 &&& 85 := by decide +kernel
theorem d2 : ∀ (c : Fin 4) (b : Fin 256), (c.val * 64 + b.val / 4) &&& 51 = b.val / 4 &&& 51 := by decide +kernel
theorem f1_lt : ∀ b : Fin 256, f1 b.val < 256 := by decide +kernel
theorem f2_small : ∀ b : Fin 256, f2 (f1 b.val) < 256 ∧ f2 (f1 b.val) % 16 ≤ 4 ∧ f2 (f1 b.val) / 16 ≤ 4 := by decide +kernel
theorem f3_pop : ∀ b : Fin 256, f3 (f2 (f1 b.val)) = Lib.popAux 8 b.val ∧ Lib.popAux 8 b.val ≤ 8 := by decide +kernel
theorem s1_succ (n a b : Nat) (hb : b < 256) : s1 (n + 1) (a * 256 + b) = s1 n a * 256 + f1 b := by
  unfold s1 f1; rw [show rep 85 (n + 1) = rep 85 n * 256 + 85 from rfl]
  rw [and_split a b _ 85 hb (by omega), show (a * 256 + b) / 2 = a / 2 * 256 + (a % 2 * 128 + b / 2) by omega,
    and_split _ _ _ 85 (by omega) (by omega), d1 ⟨a % 2, by omega⟩ ⟨b, hb⟩]
  simp only []
  omega
theorem s2_succ (n a b : Nat) (hb : b < 256) : s2 (n + 1) (a * 256 + b) = s2 n a * 256 + f2 b := by
  unfold s2 f2; rw [show rep 51 (n + 1) = rep 51 n * 256 + 51 from rfl]
  rw [and_split a b _ 51 hb (by omega), show (a * 256 + b) / 4 = a / 4 * 256 + (a % 4 * 64 + b / 4) by omega,
    and_split _ _ _ 51 (by omega) (by omega), d2 ⟨a % 4, by omega⟩ ⟨b, hb⟩]
  simp only []
  omega
theorem and15 (x : Nat) : x &&& 15 = x % 16 := Nat.and_two_pow_sub_one_eq_mod x 4
theorem s3_succ (n a b : Nat) (hb : b < 256) (ha : a % 16 ≤ 4) (h1 : b / 16 ≤ 4) (h2 : b % 16 ≤ 4) : s3 (n + 1) (a * 256 + b) = s3 n a * 256 + f3 b := by
  unfold s3 f3; rw [show rep 15 (n + 1) = rep 15 n * 256 + 15 from rfl]
  rw [show (a * 256 + b) / 16 + (a * 256 + b) = (a / 16 + a) * 256 + (a % 16 * 16 + b / 16 + b) by omega,
    and_split _ _ _ 15 (by omega) (by omega), and15 (a % 16 * 16 + b / 16 + b), and15 (b / 16 + b)]
  omega
/-- The bytes' counts, each in its byte. -/
def bytes : Nat → Nat → Nat
  | 0, _ => 0
  | n + 1, x => bytes n (x / 256) * 256 + Lib.popAux 8 (x % 256)
theorem s_bytes (n : Nat) : ∀ x, s3 n (s2 n (s1 n x)) = bytes n x ∧ s2 n (s1 n x) % 16 ≤ 4 := by
  induction n with
  | zero => intro x; simp [s1, s2, s3, rep, bytes]
  | succ n ih =>
    intro x
    obtain ⟨h1, h2⟩ := ih (x / 256)
    have hb : x % 256 < 256 := by omega
    have b1 := f1_lt ⟨x % 256, hb⟩
    obtain ⟨c1, c2, c3⟩ := f2_small ⟨x % 256, hb⟩
    obtain ⟨e1, e2⟩ := f3_pop ⟨x % 256, hb⟩
    simp only [] at b1 c1 c2 c3 e1 e2
    have k1 : s1 (n + 1) x = s1 n (x / 256) * 256 + f1 (x % 256) := by
      rw [← s1_succ n (x / 256) (x % 256) hb]; congr 1; omega
    rw [k1, s2_succ n _ _ b1, s3_succ n _ _ c1 h2 c3 c2, h1, e1]
    exact ⟨rfl, by omega⟩
theorem popAux_step (k x : Nat) : Lib.popAux (k + 8) x = Lib.popAux 8 (x % 256) + Lib.popAux k (x / 256) := by
  have e : x / 2 / 2 / 2 / 2 / 2 / 2 / 2 / 2 = x / 256 := by omega
  simp only [Lib.popAux, e]
  omega
theorem div_of (P r m : Nat) (h : r < m) : (P * m + r) / m = P := by
  rw [Nat.add_comm, Nat.add_mul_div_right _ _ (by omega), Nat.div_eq_of_lt h, Nat.zero_add]
theorem mod_of (P r m : Nat) (h : r < m) : (P * m + r) % m = r := by
  rw [Nat.add_comm, Nat.add_mul_mod_self_right, Nat.mod_eq_of_lt h]
theorem div_of' {y P r m : Nat} (hy : y = P * m + r) (h : r < m) : y / m = P := by rw [hy]; exact div_of P r m h
theorem lin1 (c0 c1 c2 c3 c4 c5 c6 c7 : Nat) : c7 * 72057594037927936 + c6 * 281474976710656 + c5 * 1099511627776 + c4 * 4294967296 + c3 * 16777216 + c2 * 65536 + c1 * 256 + c0
    = (c7 * 281474976710656 + c6 * 1099511627776 + c5 * 4294967296 + c4 * 16777216 + c3 * 65536 + c2 * 256 + c1) * 256 + c0 := by omega
theorem lin2 (c0 c1 c2 c3 c4 c5 c6 c7 : Nat) : (c7 * 72057594037927936 + c6 * 281474976710656 + c5 * 1099511627776 + c4 * 4294967296 + c3 * 16777216 + c2 * 65536 + c1 * 256 + c0)
    + (c7 * 281474976710656 + c6 * 1099511627776 + c5 * 4294967296 + c4 * 16777216 + c3 * 65536 + c2 * 256 + c1)
    = (c7 * 1099511627776 + (c6 + c7) * 4294967296 + (c5 + c6) * 16777216 + (c4 + c5) * 65536 + (c3 + c4) * 256 + (c2 + c3)) * 65536 + ((c1 + c2) * 256 + (c0 + c1)) := by omega
theorem lin3 (c0 c1 c2 c3 c4 c5 c6 c7 : Nat) : ((c7 * 1099511627776 + (c6 + c7) * 4294967296 + (c5 + c6) * 16777216 + (c4 + c5) * 65536 + (c3 + c4) * 256 + (c2 + c3)) * 65536 + ((c1 + c2) * 256 + (c0 + c1)))
    + (c7 * 1099511627776 + (c6 + c7) * 4294967296 + (c5 + c6) * 16777216 + (c4 + c5) * 65536 + (c3 + c4) * 256 + (c2 + c3))
    = (c7 * 16777216 + (c6 + c7) * 65536 + (c5 + c6 + c7) * 256 + (c4 + c5 + c6 + c7)) * 4294967296 + ((c3 + c4 + c5 + c6) * 16777216 + (c2 + c3 + c4 + c5) * 65536 + (c1 + c2 + c3 + c4) * 256 + (c0 + c1 + c2 + c3)) := by omega
theorem lin4 (c0 c1 c2 c3 c4 c5 c6 c7 : Nat) : ((c7 * 16777216 + (c6 + c7) * 65536 + (c5 + c6 + c7) * 256 + (c4 + c5 + c6 + c7)) * 4294967296 + ((c3 + c4 + c5 + c6) * 16777216 + (c2 + c3 + c4 + c5) * 65536 + (c1 + c2 + c3 + c4) * 256 + (c0 + c1 + c2 + c3)))
    + (c7 * 16777216 + (c6 + c7) * 65536 + (c5 + c6 + c7) * 256 + (c4 + c5 + c6 + c7))
    = ((c7 * 16777216 + (c6 + c7) * 65536 + (c5 + c6 + c7) * 256 + (c4 + c5 + c6 + c7)) * 33554432 + (c3 + c4 + c5 + c6 + c7) * 131072 + (c2 + c3 + c4 + c5 + c6 + c7) * 512 + (c1 + c2 + c3 + c4 + c5 + c6 + c7) * 2) * 128 + (c0 + c1 + c2 + c3 + c4 + c5 + c6 + c7) := by omega
theorem four_lt (d0 d1 d2 d3 : Nat) (h0 : d0 ≤ 32) (h1 : d1 ≤ 32) (h2 : d2 ≤ 32) (h3 : d3 ≤ 32) : d3 * 16777216 + d2 * 65536 + d1 * 256 + d0 < 4294967296 := by omega
theorem fold8 (c0 c1 c2 c3 c4 c5 c6 c7 : Nat) (h0 : c0 ≤ 8) (h1 : c1 ≤ 8) (h2 : c2 ≤ 8) (h3 : c3 ≤ 8) (h4 : c4 ≤ 8) (h5 : c5 ≤ 8) (h6 : c6 ≤ 8) (h7 : c7 ≤ 8) (y x1 x2 x3 : Nat)
    (hy : y = c7 * 72057594037927936 + c6 * 281474976710656 + c5 * 1099511627776 + c4 * 4294967296 + c3 * 16777216 + c2 * 65536 + c1 * 256 + c0)
    (e1 : x1 = y + y / 256) (e2 : x2 = x1 + x1 / 65536) (e3 : x3 = x2 + x2 / 4294967296) :
    x3 % 128 = c0 + c1 + c2 + c3 + c4 + c5 + c6 + c7 := by
  have b1 : c0 < 256 := by clear hy e1 e2 e3; omega
  have b2 : (c1 + c2) * 256 + (c0 + c1) < 65536 := by clear hy e1 e2 e3; omega
  have b3 : (c3 + c4 + c5 + c6) * 16777216 + (c2 + c3 + c4 + c5) * 65536 + (c1 + c2 + c3 + c4) * 256 + (c0 + c1 + c2 + c3) < 4294967296 :=
    four_lt _ _ _ _ (by clear hy e1 e2 e3; omega) (by clear hy e1 e2 e3; omega) (by clear hy e1 e2 e3; omega) (by clear hy e1 e2 e3; omega)
  have b4 : c0 + c1 + c2 + c3 + c4 + c5 + c6 + c7 < 128 := by clear hy e1 e2 e3; omega
  have k1 := div_of' (hy.trans (lin1 c0 c1 c2 c3 c4 c5 c6 c7)) b1
  rw [k1, hy, lin2] at e1
  have k2 := div_of' e1 b2
  rw [k2, e1, lin3] at e2
  have k3 := div_of' e2 b3
  rw [k3, e2, lin4] at e3
  rw [e3]; exact mod_of _ _ _ b4
theorem grow64 (y x1 x2 x3 : Nat) (hy : y ≤ 1085102592571150095) (e1 : x1 = y + y / 256) (e2 : x2 = x1 + x1 / 65536) (e3 : x3 = x2 + x2 / 4294967296) : x3 < 18446744073709551616 := by omega
theorem bytes8 (x : Nat) (x1 x2 x3 : Nat) (e1 : x1 = bytes 8 x + bytes 8 x / 256) (e2 : x2 = x1 + x1 / 65536) (e3 : x3 = x2 + x2 / 4294967296) :
    x3 % 128 = Lib.onesCount x := by
  have p : ∀ b, b < 256 → Lib.popAux 8 b ≤ 8 := fun b hb => (f3_pop ⟨b, hb⟩).2
  have m : ∀ z : Nat, z % 256 < 256 := fun z => by omega
  have h := fold8 _ _ _ _ _ _ _ _ (p (x % 256) (m _)) (p (x / 256 % 256) (m _)) (p (x / 256 / 256 % 256) (m _)) (p (x / 256 / 256 / 256 % 256) (m _))
    (p (x / 256 / 256 / 256 / 256 % 256) (m _)) (p (x / 256 / 256 / 256 / 256 / 256 % 256) (m _)) (p (x / 256 / 256 / 256 / 256 / 256 / 256 % 256) (m _))
    (p (x / 256 / 256 / 256 / 256 / 256 / 256 / 256 % 256) (m _)) (bytes 8 x) x1 x2 x3 (by simp only [bytes, Nat.add_mul, Nat.mul_assoc, Nat.reduceMul, Nat.zero_mul, Nat.zero_add]) e1 e2 e3
  rw [h]
  clear h e1 e2 e3
  unfold Lib.onesCount
  have t1 : Lib.popAux 64 x = _ := popAux_step 56 x
  have t2 : Lib.popAux 56 (x / 256) = _ := popAux_step 48 _
  have t3 : Lib.popAux 48 (x / 256 / 256) = _ := popAux_step 40 _
  have t4 : Lib.popAux 40 (x / 256 / 256 / 256) = _ := popAux_step 32 _
  have t5 : Lib.popAux 32 (x / 256 / 256 / 256 / 256) = _ := popAux_step 24 _
  have t6 : Lib.popAux 24 (x / 256 / 256 / 256 / 256 / 256) = _ := popAux_step 16 _
  have t7 : Lib.popAux 16 (x / 256 / 256 / 256 / 256 / 256 / 256) = _ := popAux_step 8 _
  have t8 : Lib.popAux 8 (x / 256 / 256 / 256 / 256 / 256 / 256 / 256) = _ := popAux_step 0 _
  have t9 : Lib.popAux 0 (x / 256 / 256 / 256 / 256 / 256 / 256 / 256 / 256) = 0 := rfl
  rw [t1, t2, t3, t4, t5, t6, t7, t8, t9]
  simp only [Nat.add_assoc, Nat.add_zero]
theorem rep85 : rep 85 8 = 6148914691236517205 := by decide
theorem rep51 : rep 51 8 = 3689348814741910323 := by decide
theorem rep15 : rep 15 8 = 1085102592571150095 := by decide

/-! as the program reckons it -/
def i1 (x : Int) : Int := IntKind.u64.wrap (bits .and .u64 (x / 2) 6148914691236517205 + bits .and .u64 x 6148914691236517205)
def i2 (x : Int) : Int := IntKind.u64.wrap (bits .and .u64 (x / 4) 3689348814741910323 + bits .and .u64 x 3689348814741910323)
def i3 (x : Int) : Int := bits .and .u64 (IntKind.u64.wrap (x / 16 + x)) 1085102592571150095
def i4 (x : Int) : Int := IntKind.u64.wrap (x + x / 256)
def i5 (x : Int) : Int := IntKind.u64.wrap (x + x / 65536)
def i6 (x : Int) : Int := IntKind.u64.wrap (x + x / 4294967296)
theorem and_le (a b : Nat) : a &&& b ≤ b := Nat.and_le_right
theorem u64_nat (n : Nat) (h : n < 18446744073709551616) : IntKind.u64.wrap (n : Int) = (n : Int) := by rw [IntKind.wrap_u64]; omega
theorem i1_eq (n : Nat) (h : n < 18446744073709551616) : i1 (n : Int) = (s1 8 n : Int) ∧ s1 8 n < 18446744073709551616 := by
  have h1 := and_le (n / 2) 6148914691236517205
  have h2 := and_le n 6148914691236517205
  unfold i1 s1
  rw [rep85]
  have e := u64_and_nat (n / 2) 6148914691236517205 (by omega) (by omega)
  have e' := u64_and_nat n 6148914691236517205 h (by omega)
  simp only [Int.natCast_ediv, Int.cast_ofNat_Int] at e e'
  rw [e, e', ← Int.natCast_add, u64_nat _ (by omega)]
  exact ⟨rfl, by omega⟩
theorem i2_eq (n : Nat) (h : n < 18446744073709551616) : i2 (n : Int) = (s2 8 n : Int) ∧ s2 8 n < 18446744073709551616 := by
  have h1 := and_le (n / 4) 3689348814741910323
  have h2 := and_le n 3689348814741910323
  unfold i2 s2
  rw [rep51]
  have e := u64_and_nat (n / 4) 3689348814741910323 (by omega) (by omega)
  have e' := u64_and_nat n 3689348814741910323 h (by omega)
  simp only [Int.natCast_ediv, Int.cast_ofNat_Int] at e e'
  rw [e, e', ← Int.natCast_add, u64_nat _ (by omega)]
  exact ⟨rfl, by omega⟩
theorem i3_eq (n : Nat) (h : n / 16 + n < 18446744073709551616) : i3 (n : Int) = (s3 8 n : Int) := by
  unfold i3 s3
  rw [rep15]
  have e := u64_and_nat (n / 16 + n) 1085102592571150095 h (by omega)
  have e' := u64_nat (n / 16 + n) h
  simp only [Int.natCast_add, Int.natCast_ediv, Int.cast_ofNat_Int] at e e'
  rw [e', e]
theorem s2_bound (x : Nat) : s2 8 x ≤ 7378697629483820646 := by
  unfold s2; rw [rep51]
  have h1 := and_le (x / 4) 3689348814741910323
  have h2 := and_le x 3689348814741910323
  omega
theorem bytes_bound (x : Nat) : bytes 8 x ≤ 1085102592571150095 := by
  have := (s_bytes 8 x).1
  rw [← this]; unfold s3; rw [rep15]; exact and_le _ _
theorem pop_eq (n : Nat) (h : n < 18446744073709551616) : i6 (i5 (i4 (i3 (i2 (i1 (n : Int)))))) % 128 = (Lib.onesCount n : Int) ∧ 0 ≤ i6 (i5 (i4 (i3 (i2 (i1 (n : Int)))))) ∧ i6 (i5 (i4 (i3 (i2 (i1 (n : Int)))))) < 18446744073709551616 := by
  obtain ⟨a1, b1⟩ := i1_eq n h
  obtain ⟨a2, b2⟩ := i2_eq _ b1
  have hb := s2_bound (s1 8 n)
  rw [a1, a2, i3_eq _ (by omega), (s_bytes 8 n).1]
  have h8 := bytes_bound n
  have g := bytes8 n _ _ _ rfl rfl rfl
  have g' := grow64 (bytes 8 n) _ _ _ h8 rfl rfl rfl
  have e4 : i4 (bytes 8 n : Int) = ((bytes 8 n + bytes 8 n / 256 : Nat) : Int) := by
    unfold i4; rw [IntKind.wrap_u64]; omega
  rw [e4]
  generalize hx1 : bytes 8 n + bytes 8 n / 256 = x1 at *
  have e5 : i5 (x1 : Int) = ((x1 + x1 / 65536 : Nat) : Int) := by
    unfold i5; rw [IntKind.wrap_u64]; omega
  rw [e5]
  generalize hx2 : x1 + x1 / 65536 = x2 at *
  have e6 : i6 (x2 : Int) = ((x2 + x2 / 4294967296 : Nat) : Int) := by
    unfold i6; rw [IntKind.wrap_u64]; omega
  rw [e6]
  refine ⟨?_, by omega, by omega⟩
  rw [← g]; omega

theorem and127 (n : Nat) (h : n < 18446744073709551616) : bits .and .i64 (RowKit.wrap64 (n : Int)) 127 = ((n % 128 : Nat) : Int) := by
  have e : (BitVec.ofInt 64 (RowKit.wrap64 (n : Int))).toNat = n := by
    rw [BitVec.toNat_ofInt]; unfold RowKit.wrap64; omega
  have e2 : (BitVec.ofInt 64 127).toNat = 127 := rfl
  have e3 : n &&& 127 = n % 128 := Nat.and_two_pow_sub_one_eq_mod n 7
  show IntKind.i64.wrap ((BitVec.ofInt 64 (RowKit.wrap64 (n : Int)) &&& BitVec.ofInt 64 127).toNat : Int) = _
  rw [BitVec.toNat_and, e, e2, e3, IntKind.wrap_i64]
  omega
theorem pop_and (n : Nat) (h : n < 18446744073709551616) : bits .and .i64 (RowKit.wrap64 (i6 (i5 (i4 (i3 (i2 (i1 (n : Int)))))))) 127 = (Lib.onesCount n : Int) := by
  obtain ⟨p1, p2, p3⟩ := pop_eq n h
  obtain ⟨m, hm⟩ := Int.eq_ofNat_of_zero_le p2
  rw [hm] at p1 p3 ⊢
  rw [and127 m (by omega), ← p1]; omega

/-! and of an address -/
theorem popAux_count : ∀ (f x : Nat), Lib.popAux f x = (List.range f).countP (fun i => x.testBit i)
  | 0, _ => rfl
  | f + 1, x => by
    rw [List.range_succ_eq_map, List.countP_cons, List.countP_map, Lib.popAux, popAux_count f (x / 2)]
    have e : (List.range f).countP ((fun i => x.testBit i) ∘ Nat.succ) = (List.range f).countP (fun i => (x / 2).testBit i) := by
      apply List.countP_congr; intro i _; simp [Nat.testBit_succ]
    rw [e, Nat.testBit_zero]
    by_cases h : x % 2 = 1
    · simp [h]; omega
    · simp [h]; omega
theorem countP_flip (p : Nat → Bool) (n : Nat) : (List.range n).countP (fun k => p (n - 1 - k)) = (List.range n).countP p := by
  have h : (List.range n).countP (fun k => p (n - 1 - k)) = ((List.range n).map (fun k => n - 1 - k)).countP p := by rw [List.countP_map]; rfl
  rw [h]
  apply List.Perm.countP_eq
  rw [List.map_congr_left (g := fun k => (List.range n).reverse.getD k 0) (fun k hk => by
    have : k < n := by simpa using hk
    simp [List.getD, this])]
  have : (List.range n).map (fun k => (List.range n).reverse.getD k 0) = (List.range n).reverse := by
    apply List.ext_getElem?
    intro i
    by_cases hi : i < n
    · simp [hi, List.getD]
    · simp [hi]
  rw [this]; exact List.reverse_perm _
theorem ones_words (x : B) : ones x = Lib.onesCount (hiN x) + Lib.onesCount (loN x) := by
  unfold ones Lib.onesCount
  rw [popAux_count, popAux_count, show (128 : Nat) = 64 + 64 from rfl, List.range_add, List.countP_append, List.countP_map,
    ← countP_flip (fun i => (hiN x).testBit i) 64, ← countP_flip (fun i => (loN x).testBit i) 64]
  congr 1
  · apply List.countP_congr; intro k hk
    have : k < 64 := by simpa using hk
    rw [hiN_testBit x k this]
  · apply List.countP_congr; intro k hk
    have : k < 64 := by simpa using hk
    simp only [Function.comp, loN_testBit x k this]
end Pg
