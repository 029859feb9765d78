/- Banks of addresses: what the reference of layer 16 hands back, and the banks that a word has to do with. -/
import Derived.Test.YtemfocnjlimicaaSplit
import Derived.Test.YtemfocnjlimicaaInfo
import Derived.Test.YtemfocnjlimicaaRef01
namespace Pg
open Go
theorem take_banks (k : Nat) (x m : B) (j : Nat) : ((List.range (j + 1)).filter (meetAt k x m)) = (List.range j).filter (meetAt k x m) ++ if meetAt k x m j then [j] else [] := by
  rw [List.range_succ, List.filter_append]
  cases h : meetAt k x m j <;> simp [h]
/-- Whether the last j of the first k bits that a word tells are a number's. -/
def isAt (k : Nat) (x m : B) (at_ : Nat) : Nat → Bool
  | 0 => true
  | j + 1 => isAt k x m at_ j && !(bt m (k - 1 - j) && (bt x (k - 1 - j) != at_.testBit j))
theorem isAt_iff (k : Nat) (x m : B) (at_ : Nat) : ∀ j, isAt k x m at_ j = true ↔ ∀ t, t < j → bt m (k - 1 - t) = true → bt x (k - 1 - t) = at_.testBit t
  | 0 => ⟨fun _ t h => by omega, fun _ => rfl⟩
  | j + 1 => by
    rw [isAt, Bool.and_eq_true, isAt_iff k x m at_ j]
    constructor
    · rintro ⟨h1, h2⟩ t ht hm
      rcases Nat.lt_or_ge t j with h3 | h3
      · exact h1 t h3 hm
      · have : t = j := by omega
        subst this
        rw [hm] at h2
        revert h2; cases bt x (k - 1 - t) <;> cases at_.testBit t <;> simp
    · intro h
      refine ⟨fun t ht hm => h t (by omega) hm, ?_⟩
      have := h j (by omega)
      revert this; cases bt m (k - 1 - j) <;> cases bt x (k - 1 - j) <;> cases at_.testBit j <;> simp
theorem isAt_meet {k at_ : Nat} (hk : k ≤ 64) (h : at_ < 2 ^ k) (x m : B) : isAt k x m at_ k = meetAt k x m at_ := by
  rw [Bool.eq_iff_iff, isAt_iff, meetAt_iff hk h]
  constructor
  · intro h1 i hi' hm
    have := h1 (k - 1 - i) (by omega)
    rw [show k - 1 - (k - 1 - i) = i by omega] at this
    exact this hm
  · intro h1 t ht hm
    have := h1 (k - 1 - t) (by omega) hm
    rw [show k - 1 - (k - 1 - t) = t by omega] at this
    exact this
end Pg
namespace Go.Proofs.Ytemfocnjlimicaa
open Go.RowKit Pg

theorem refsof_no (k : Int) (h : k < 0 ∨ 3 < k) (a : B) (w : World) : Calls Try.prog 10 #[.int .i64 k, av a] w (Ret (.int .i64 0) w) := by
  by_cases h1 : k < 0
  · go_enter Try.func10, Try.ntmps10
    go_wp2_with fail
    go_ret
    exact Ret.of (rfl) (by simp (maxDischargeDepth := 99))
  · have h2 : 3 < k := by omega
    clear h
    go_enter Try.func10, Try.ntmps10
    go_wp2_with fail
    go_ret
    exact Ret.of (rfl) (by simp (maxDischargeDepth := 99))
set_option maxRecDepth 100000 in
theorem refsof_yes (k : Nat) (h : k ≤ 3) (a : B) (w : World) : Calls Try.prog 10 #[.int .i64 (k : Int), av a] w (Ret (.int .i64 (topN a k : Int)) w) := by
  have h1 : ¬ (k : Int) < 0 := by omega
  have h2 : ¬ (3 : Int) < k := by omega
  go_enter Try.func10, Try.ntmps10
  go_wp2_with fail
  refine (bits_any a _).mono ?_
  rintro e w1 ⟨g, rfl, hg, hb, p, rfl⟩
  have HB := Lib.hid hb
  have hl := hb.lt
  clear hb
  go_wp2_with fail
  go_loopw [6, 7] (fun vn vi wr => ∃ i : Nat, i ≤ k ∧ vi = .int .i64 i ∧ vn = .int .i64 (topN a i : Int) ∧ Kept w wr ∧ IsBits wr g 4 (bt a)) (fun _ i _ => k - (intOf i).toNat)
  case atStart => exact ⟨0, by omega, rfl, by rw [topN_zero]; rfl, by simp (maxDischargeDepth := 99), HB.out⟩
  case round =>
    clear HB hl hg
    obtain ⟨i, hi', rfl, rfl, hkw, hb⟩ := hrel
    have HX := Lib.hid (And.intro hkw hb)
    by_cases hlt : i < k
    · have c1 := hb.cell i (by omega)
      have l1 := hb.lt
      have hil : (i : Int) < (k : Int) := by omega
      have i0 : (0 : Int) ≤ i := by omega
      have i1 : (i : Int) < 128 := by omega
      have ht := topN_lt a i (by omega)
      have ht8 := pow_small (show i ≤ 3 by omega)
      have HS := topN_succ a i (by omega)
      clear hkw hb
      generalize topN a i = N at *
      cases hb : bt a i
      · rw [hb] at c1 HS
        have HS := Lib.hid HS
        clear hb
        go_wp2_with fail
        go_roundw
        case rel => exact ⟨i + 1, by omega, by go_num, by rw [HS.out]; simp, HX.out.1, HX.out.2⟩
        case measure => simp [intOf]; omega
      · rw [hb] at c1 HS
        have HS := Lib.hid HS
        clear hb
        go_wp2_with fail
        go_roundw
        case rel => exact ⟨i + 1, by omega, by go_num, by rw [HS.out]; simp, HX.out.1, HX.out.2⟩
        case measure => simp [intOf]; omega
    · have hik : i = k := by omega
      subst hik
      clear hkw hb hlt
      go_wp2_with fail
      go_ret
      exact Ret.of (rfl) (by simp (maxDischargeDepth := 99) [HX.out.1])
theorem bit_div (n j : Nat) : n.testBit j = (n / 2 ^ j % 2 == 1) := by rw [Nat.testBit_eq_decide_div_mod_eq]; rfl
end Go.Proofs.Ytemfocnjlimicaa
