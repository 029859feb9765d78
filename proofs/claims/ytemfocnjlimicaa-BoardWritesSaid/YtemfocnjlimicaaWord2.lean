/- What each function of package word hands back: the contracts over the program. An address that a word matches: the contract of word.Some. -/
import Derived.Test.YtemfocnjlimicaaPrefix
import Derived.Test.YtemfocnjlimicaaMathW2
import Derived.Test.YtemfocnjlimicaaKit3
namespace Go.Proofs.Ytemfocnjlimicaa
open Go.RowKit Pg

/-- A word as a value. -/
abbrev wv (x m : B) : Value := .agg #[.int .u64 (hi x), .int .u64 (lo x), .int .u64 (hi m), .int .u64 (lo m)]
theorem under_word : Try.prog.underlying 46 = some (.struct (Try.prog.fieldsOf 46)) := by kernel_rfl
theorem stood_word : Try.prog.stoodInHeld 46 = false := by kernel_rfl
@[go_sem] theorem eq_word (d : Nat) (x m y n : B) (w : World) : (Op.equalIn (d + 3) 46 (wv x m) (wv y n)).run Try.prog w = .ok (decide (x = y) && decide (m = n)) w := by
  rw [run_equalIn_struct w (d + 2) _ _ _ under_word stood_word]
  simp [go_sem]
  by_cases h1 : x = y <;> by_cases h2 : m = n <;> simp [h1, h2]
@[go_sem] theorem eq_addr_zz (d : Nat) (w : World) : (Op.equalIn (d + 2) 25 (.agg #[.int .u64 0, .int .u64 0]) (.agg #[.int .u64 0, .int .u64 0])).run Try.prog w = .ok true w := by
  have h := eq_addr d 0#128 0#128 w
  rwa [decide_eq_true rfl] at h
@[go_sem] theorem eq_pair_zz (d : Nat) (w : World) : (Op.equalIn (d + 2) 24 (.agg #[.int .u64 0, .int .u64 0]) (.agg #[.int .u64 0, .int .u64 0])).run Try.prog w = .ok true w := by
  have h := eq_pair d 0#128 0#128 w
  rwa [decide_eq_true rfl] at h
theorem differ_any (a b m : B) (w : World) : Calls Try.prog 60 #[av a, av b, av m] w (Ret (av (differB a b m)) w) := by
  go_enter Try.func60, Try.ntmps60
  go_wp2_with fail
  refine region_ext_tail _ (by first | exact Later.ext _ _ | exact Later.refl _) 5 mixed (by kernel_rfl) ?_
  simp only [List.take_succ_cons, List.take_zero, List.drop_succ_cons, List.drop_zero]
  repeat (go_big_quiet_step ((first | (go_at_call 65; exact calls_in (xor_any _ _ _)) | (go_at_call 62; exact calls_in (and_any _ _ _)))))
  refine wpQuiet_nil ?_
  rintro _ ⟨q, rfl⟩
  go_wp2_with fail
  exact bodyPost_ret (v := av (differB a b m)) (by simp [results, Try.results60, go_sem, differB]) rfl (Ret.mk (by simp (maxDischargeDepth := 99)))
theorem clean_any (x m : B) (w : World) : Calls Try.prog 64 #[wv x m] w (Ret (wv (x &&& m) m) w) := by
  go_enter Try.func64, Try.ntmps64
  go_wp2_with fail
  refine region_ext_tail _ (by first | exact Later.ext _ _ | exact Later.refl _) 8 mixed (by kernel_rfl) ?_
  simp only [List.take_succ_cons, List.take_zero, List.drop_succ_cons, List.drop_zero]
  repeat (go_big_quiet_step ((first | (go_at_call 62; exact calls_in (and_any _ _ _)))))
  refine wpQuiet_nil ?_
  rintro _ ⟨q, rfl⟩
  go_wp2_with fail
  exact bodyPost_ret (v := wv (x &&& m) m) (by simp [results, Try.results64, go_sem, wv]) rfl (Ret.mk (by simp (maxDischargeDepth := 99)))
theorem wright_any (x m : B) (w : World) : Calls Try.prog 59 #[wv x m] w (Ret (.bool (decide (x = x &&& m))) w) := by
  by_cases h : x &&& m = x
  · have e := Lib.hid h.symm
    go_enter Try.func59, Try.ntmps59
    go_wp2_with fail
    refine region_ext _ (by first | exact Later.ext _ _ | exact Later.refl _) mixed (by kernel_rfl) ?_
    repeat (go_big_quiet_step ((first | (go_at_call 64; exact calls_in (clean_any _ _ _)))))
    refine wpQuiet_nil ?_
    rintro _ ⟨q, rfl⟩
    go_wp2_with fail
    go_ret
    exact Ret.of (by rw [decide_eq_true e.out]; rfl) (by simp (maxDischargeDepth := 99))
  · have h2 : ¬ x = x &&& m := fun hh => h hh.symm
    have e := Lib.hid h2
    go_enter Try.func59, Try.ntmps59
    go_wp2_with fail
    refine region_ext _ (by first | exact Later.ext _ _ | exact Later.refl _) mixed (by kernel_rfl) ?_
    repeat (go_big_quiet_step ((first | (go_at_call 64; exact calls_in (clean_any _ _ _)))))
    refine wpQuiet_nil ?_
    rintro _ ⟨q, rfl⟩
    go_wp2_with fail
    go_ret
    exact Ret.of (by rw [decide_eq_false e.out]; rfl) (by simp (maxDischargeDepth := 99))
theorem wof_any (x : B) (n : Int) (w : World) : Calls Try.prog 48 #[pv x n] w (Ret (wv (x &&& maskB (near n)) (maskB (near n))) w) := by
  have e1 := Lib.hid (near_nat (near n) (near_le n))
  go_enter Try.func48, Try.ntmps48
  go_wp2_with (first | (go_at_call 49; first | ((refine (calls_in (make_any _ _ _)).mono ?_); rintro e w1 ⟨rfl, q1, rfl⟩) | ((refine (make_any _ _ _).mono ?_); rintro e w1 ⟨rfl, q1, rfl⟩)))
  refine named fun w2 hw2 => ?_
  have hb : Blk w2 w.heap.size 74 #[.int .u64 (hi (x &&& maskB (near n))), .int .u64 (lo (x &&& maskB (near n))), .int .i64 (near n : Int)] := by
    rw [hw2]
    exact Blk.set_ (Blk.set_ (Blk.set_ (Blk.ext (Blk.alloc (Blk.new _ _ _) _) _) 0 _) 1 _) 2 _
  have hr : Blk w2 (w.heap.size + 1) 46 #[.int .u64 0, .int .u64 0, .int .u64 0, .int .u64 0] := by
    rw [hw2]
    exact Blk.far (Blk.far (Blk.far (Blk.ext (Blk.new' _ _ _ (by simp)) _) (by simp) _) (by simp) _) (by simp) _
  have hkw : Kept w w2 := by rw [hw2]; simp (maxDischargeDepth := 99)
  obtain ⟨r0, r1, r2, r3, rl⟩ := Blk.four hr
  have rf := Blk.frozen hr
  obtain ⟨c0, c1, c2, bl⟩ := Blk.three hb
  clear hw2 hr hb
  refine region_ext_tail _ (by first | exact Later.ext _ _ | exact Later.refl _) 6 mixed (by kernel_rfl) ?_
  simp only [List.take_succ_cons, List.take_zero, List.drop_succ_cons, List.drop_zero]
  repeat (go_big_quiet_step ((first | (go_at_call 56; exact calls_in (mask_any _ _)))))
  refine wpQuiet_nil ?_
  rintro _ ⟨q, rfl⟩
  go_wp2_with fail
  refine bodyPost_ret (v := wv (x &&& maskB (near n)) (maskB (near n))) ?_ rfl (Ret.mk (by simp (maxDischargeDepth := 99) [hkw]))
  simp [results, Try.results48, go_sem, wv, e1.out, r0, r1, r2, r3, rl]
theorem wmatch_any (x m a : B) (w : World) : Calls Try.prog 54 #[wv x m, av a] w (Ret (.bool (matchW x m a)) w) := by
  go_enter Try.func54, Try.ntmps54
  go_wp2_with (first | (go_at_call 60; first | ((refine (calls_in (differ_any _ _ _ _)).mono ?_); rintro e w1 ⟨rfl, q1, rfl⟩) | ((refine (differ_any _ _ _ _).mono ?_); rintro e w1 ⟨rfl, q1, rfl⟩)))
  go_ret
  exact Ret.of (rfl) (by simp (maxDischargeDepth := 99))
theorem wmatch_as {b : Bool} {x m a : B} (h : matchW x m a = b) (w : World) : Calls Try.prog 54 #[wv x m, av a] w (Ret (.bool b) w) := by rw [← h]; exact wmatch_any x m a w
end Go.Proofs.Ytemfocnjlimicaa
namespace Go.Proofs.Ytemfocnjlimicaa
open Go.RowKit Pg

theorem u64N_lt (n : Int) : u64N n < 18446744073709551616 := by
  unfold u64N
  rw [IntKind.wrap_u64]
  omega
theorem u64N_cast (n : Int) : IntKind.u64.wrap n = (u64N n : Int) := by
  unfold u64N
  rw [IntKind.wrap_u64]
  omega
theorem and_one (r : Nat) (h : r < 18446744073709551616) : bits .and .u64 (r : Int) 1 = ((r % 2 : Nat) : Int) := by
  rw [show (1 : Int) = ((1 : Nat) : Int) from rfl, u64_and_nat r 1 h (by omega), Nat.and_one_is_mod]
theorem parity (r : Nat) : ((r : Int) % 2 == 1) = (r % 2 == 1) := by
  have h1 : (r : Int) % 2 = ((r % 2 : Nat) : Int) := by omega
  rw [h1]
  have : r % 2 = 0 ∨ r % 2 = 1 := by omega
  rcases this with h | h <;> rw [h] <;> rfl
@[go_sem] theorem field_word (x m : B) (w : World) : (Instr.field 46 (wv x m) 0).run Try.prog w = .ok (av x) w := by kernel_rfl
end Go.Proofs.Ytemfocnjlimicaa
