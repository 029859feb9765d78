/- The statements of layer 2: what each asks of two prefixes besides. -/
import Derived.Test.YtcooheiipplahaaPrefix
namespace Go.Proofs.Ytcooheiipplahaa
open Go.RowKit Pg

@[go_sem] theorem eq_zero_zero2 (d : Nat) (w : World) : (Op.equalIn (d + 2) 24 (.agg #[.int .u64 0, .int .u64 0]) (.agg #[.int .u64 0, .int .u64 0])).run Try.prog w = .ok true w := by
  have h := eq_addr d 0#128 0#128 w
  rwa [decide_eq_true rfl] at h
@[go_sem] theorem eq_prefix_zero (d : Nat) (x : B) (n : Int) (w : World) : (Op.equalIn (d + 3) 26 (pv x n) (.agg #[.int .u64 0, .int .u64 0, .int .i64 0])).run Try.prog w = .ok (decide (x = 0#128) && decide (n = 0)) w := eq_prefix d x 0#128 n 0 w
@[go_sem] theorem eq_prefix_zz (d : Nat) (w : World) : (Op.equalIn (d + 3) 26 (.agg #[.int .u64 0, .int .u64 0, .int .i64 0]) (.agg #[.int .u64 0, .int .u64 0, .int .i64 0])).run Try.prog w = .ok true w := by
  have h := eq_prefix d 0#128 0#128 0 0 w
  rwa [decide_eq_true rfl, decide_eq_true rfl] at h
def pA : B := BitVec.ofNat 128 (10 * 2 ^ 120)
def qA : B := BitVec.ofNat 128 (10 * 2 ^ 120 + 2 ^ 112)
theorem pA_words : hi pA = 720575940379279360 ∧ lo pA = 0 := by decide +kernel
theorem qA_words : hi qA = 720857415355990016 ∧ lo qA = 0 := by decide +kernel
theorem awake2_p (w : World) : Calls Try.prog 20 #[.agg #[.int .u64 720575940379279360, .int .u64 0], .int .i64 8] w (Ret (pv pA 8) w) := by
  have h := make_any pA 8 w
  rw [show pA &&& maskB (near 8) = pA by decide +kernel, show near 8 = 8 by decide +kernel] at h
  unfold av at h
  rw [pA_words.1, pA_words.2] at h
  exact h
theorem awake2_q (w : World) : Calls Try.prog 20 #[.agg #[.int .u64 720857415355990016, .int .u64 0], .int .i64 16] w (Ret (pv qA 16) w) := by
  have h := make_any qA 16 w
  rw [show qA &&& maskB (near 16) = qA by decide +kernel, show near 16 = 16 by decide +kernel] at h
  unfold av at h
  rw [qA_words.1, qA_words.2] at h
  exact h
theorem awake2_join (w : World) : Calls Try.prog 19 #[pv pA 8, pv qA 16] w (Ret (pv pA 8) w) := by
  have h := join_any pA 8 qA 16 w
  rw [show pA &&& maskB (near (joinN pA 8 qA 16)) = pA by decide +kernel, show near (joinN pA 8 qA 16) = 8 by decide +kernel] at h
  exact h
set_option maxRecDepth 100000 in
theorem awake2_any (w : World) : Calls Try.prog 17 #[] w (Ret (.bool true) w) := by
  have f1 := Lib.hid (show coversB pA 8 qA 16 = true by decide +kernel)
  have f2 := Lib.hid (show coversB qA 16 pA 8 = false by decide +kernel)
  have f3 := Lib.hid (show rightB 32 qA 16 = true by decide +kernel)
  have f4 := Lib.hid (show matchB pA 8 qA = true by decide +kernel)
  have f5 := Lib.hid (show (!coversB pA 8 qA 16 && !coversB qA 16 pA 8) = false by rw [f1.out]; rfl)
  go_enter Try.func17, Try.ntmps17
  go_wp2_with (first | (go_at_call 20; first | ((with_reducible refine (calls_in (awake2_p _)).mono ?_); rintro e w1 ⟨rfl, q1, rfl⟩) | ((with_reducible refine (awake2_p _).mono ?_); rintro e w1 ⟨rfl, q1, rfl⟩) | ((with_reducible refine (calls_in (awake2_q _)).mono ?_); rintro e w1 ⟨rfl, q1, rfl⟩) | ((with_reducible refine (awake2_q _).mono ?_); rintro e w1 ⟨rfl, q1, rfl⟩)))
  refine region_ext _ (by first | exact Later.ext _ _ | exact Later.refl _) mixed (by kernel_rfl) ?_
  repeat (go_big_quiet_step ((first | (go_at_call 13; first | with_reducible exact calls_in (covers_as f1.out _) | with_reducible exact calls_in (covers_as f2.out _)) | (go_at_call 19; exact calls_in (awake2_join _)) | (go_at_call 21; exact calls_in (right_as f3.out _)) | (go_at_call 15; exact calls_in (match_as f4.out _)) | (go_at_call 14; exact calls_in (apart_as f5.out _)))))
  refine wpQuiet_nil ?_
  rintro _ ⟨q, rfl⟩
  go_wp2_with fail
  go_ret
  exact Ret.of (rfl) (by simp (maxDischargeDepth := 99))
end Go.Proofs.Ytcooheiipplahaa
