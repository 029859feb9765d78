/- What each function of package addr hands back: the contracts over the program. -/
import Derived.Test.YtemfocnjlimicaaProg
import Derived.Test.YtemfocnjlimicaaKit0
import Derived.Test.YtemfocnjlimicaaPop
import Derived.Lib.Strings
import Derived.Lib.Slices
import Derived.Lib.Small
import Derived.Lib.Walk
namespace Go.Proofs.Ytemfocnjlimicaa
open Go.RowKit Pg

theorem mixed : Try.prog.follows .mixedOrders = true := by kernel_rfl
/-- An address as a value. -/
abbrev av (x : B) : Value := .agg #[.int .u64 (hi x), .int .u64 (lo x)]

theorem and_any (x y : B) (w : World) : Calls Try.prog 62 #[av x, av y] w (Ret (av (x &&& y)) w) := by
  go_enter Try.func62, Try.ntmps62
  go_wp2
  exact bodyPost_ret (v := av (x &&& y)) (by simp [results, Try.results62, go_sem, and_hi, and_lo]) rfl (Ret.mk (by simp (maxDischargeDepth := 99)))
theorem xor_any (x y : B) (w : World) : Calls Try.prog 65 #[av x, av y] w (Ret (av (x ^^^ y)) w) := by
  go_enter Try.func65, Try.ntmps65
  go_wp2
  exact bodyPost_ret (v := av (x ^^^ y)) (by simp [results, Try.results65, go_sem, xor_hi, xor_lo]) rfl (Ret.mk (by simp (maxDischargeDepth := 99)))
theorem pow_wrap (n : Nat) (h : n < 64) : IntKind.u64.wrap (2 ^ n) = 2 ^ n := by
  rw [IntKind.wrap_u64]
  have h2 : 2 ^ n < 2 ^ 64 := Nat.pow_lt_pow_right (by omega) h
  have e : ((2 ^ n : Nat) : Int) = 2 ^ n := by simp
  rw [← e]
  generalize 2 ^ n = z at h2
  omega
theorem info_u64 : ∃ i, Try.prog.info? 23 = some i ∧ i.size = 1 := by
  have h : (Try.prog.info? 23).map (·.size) = some 1 := by kernel_rfl
  cases e : Try.prog.info? 23 with
  | none => rw [e] at h; cases h
  | some i => rw [e] at h; exact ⟨i, rfl, by simpa using h⟩
theorem under_addr : Try.prog.underlying 25 = some (.array 2 23) := by kernel_rfl
theorem under_pair : Try.prog.underlying 24 = some (.array 2 23) := by kernel_rfl
theorem under_u64 : Try.prog.underlying 23 = some (.int .u64) := by kernel_rfl
theorem eq_words_iff (x y : B) : (hi x == hi y && lo x == lo y) = decide (x = y) := by
  rw [Bool.eq_iff_iff]; simp only [Bool.and_eq_true, beq_iff_eq, decide_eq_true_eq]; exact words_eq_iff
@[go_sem] theorem eq_addr (d : Nat) (x y : B) (w : World) : (Op.equalIn (d + 2) 25 (av x) (av y)).run Try.prog w = .ok (decide (x = y)) w := by
  obtain ⟨i, hi, hs⟩ := info_u64
  rw [run_equalIn_pair w d _ _ .u64 i under_addr under_u64 hi hs, eq_words_iff]
@[go_sem] theorem eq_addr_zero (d : Nat) (x : B) (w : World) : (Op.equalIn (d + 2) 25 (av x) (.agg #[.int .u64 0, .int .u64 0])).run Try.prog w = .ok (decide (x = 0#128)) w := eq_addr d x 0#128 w
@[go_sem] theorem eq_pair (d : Nat) (x y : B) (w : World) : (Op.equalIn (d + 2) 24 (av x) (av y)).run Try.prog w = .ok (decide (x = y)) w := by
  obtain ⟨i, hi, hs⟩ := info_u64
  rw [run_equalIn_pair w d _ _ .u64 i under_pair under_u64 hi hs, eq_words_iff]

theorem mask_any (n : Int) (w : World) : Calls Try.prog 56 #[.int .i64 n] w (Ret (av (maskB (near n))) w) := by
  have m1 := Lib.hid (mask_hi_min (near n))
  have m2 := Lib.hid (mask_lo_min (near n))
  have e1 := Lib.hid (show (min (max (min (max n 0) 128) 0) 64).toNat = min (near n) 64 by unfold near; omega)
  have e2 := Lib.hid (show (min (max (min (max n 0) 128 - 64) 0) 64).toNat = near n - 64 by unfold near; omega)
  go_enter Try.func56, Try.ntmps56
  go_wp2
  go_rounds 3
  refine bodyPost_ret (v := av (maskB (near n))) ?_ rfl (Ret.mk (by simp (maxDischargeDepth := 99)))
  simp [results, Try.results56, go_sem, av, ← m2.out, ← m1.out, e1.out, e2.out]
theorem cut_any (x : B) (n : Int) (w : World) : Calls Try.prog 57 #[av x, .int .i64 n] w (Ret (av (x &&& maskB (near n))) w) := by
  go_enter Try.func57, Try.ntmps57
  go_wp2_with fail
  refine region_ext_tail _ (by first | exact Later.ext _ _ | exact Later.refl _) 4 mixed (by kernel_rfl) ?_
  simp only [List.take_succ_cons, List.take_zero, List.drop_succ_cons, List.drop_zero]
  repeat (go_big_quiet_step ((first | (go_at_call 56; exact calls_in (mask_any _ _)) | (go_at_call 62; exact calls_in (and_any _ _ _)))))
  refine wpQuiet_nil ?_
  rintro _ ⟨q1, rfl⟩
  go_wp2_with fail
  exact bodyPost_ret (v := av (x &&& maskB (near n))) (by simp [results, Try.results57, go_sem]) rfl (Ret.mk (by simp (maxDischargeDepth := 99)))
end Go.Proofs.Ytemfocnjlimicaa
