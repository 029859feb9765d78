/- The statements of layer 1: what each asks of one mask besides. -/
import Derived.Test.YtnjopepdjmifjaaAddr
namespace Go.Proofs.Ytnjopepdjmifjaa
open Go.RowKit Pg

@[go_sem] theorem eq_zero_zero (d : Nat) (w : World) : (Op.equalIn (d + 2) 24 (.agg #[.int .u64 0, .int .u64 0]) (.agg #[.int .u64 0, .int .u64 0])).run Try.prog w = .ok true w := by
  have h := eq_addr d 0#128 0#128 w
  rwa [decide_eq_true rfl] at h
def m4 : B := maskB (near 4)
theorem m4_words : hi m4 = 17293822569102704640 ∧ lo m4 = 0 := by decide +kernel
theorem m4_eq (d : Nat) (w : World) : (Op.equalIn (d + 2) 24 (av m4) (.agg #[.int .u64 17293822569102704640, .int .u64 0])).run Try.prog w = .ok true w := by
  have h := eq_addr d m4 m4 w
  rw [decide_eq_true rfl] at h
  rw [← h]
  unfold av
  rw [m4_words.1, m4_words.2]
theorem m4_mask (w : World) : Calls Try.prog 12 #[.int .i64 4] w (Ret (av m4) w) := mask_any 4 w
theorem m4_bit3 (w : World) : Calls Try.prog 25 #[av m4, .int .i64 3] w (Ret (.bool true) w) := by
  have h := getbit_in m4 3 (by omega) w
  rwa [show bt m4 3 = true by decide +kernel] at h
theorem m4_bit4 (w : World) : Calls Try.prog 25 #[av m4, .int .i64 4] w (Ret (.bool false) w) := by
  have h := getbit_in m4 4 (by omega) w
  rwa [show bt m4 4 = false by decide +kernel] at h
theorem m4_ones (w : World) : Calls Try.prog 18 #[av m4] w (Ret (.int .i64 4) w) := by
  have h := ones_any m4 w
  rwa [show ones m4 = 4 by decide +kernel] at h
theorem m4_common (w : World) : Calls Try.prog 20 #[av m4, av (maskB (near 9))] w (Ret (.int .i64 4) w) := by
  have h := common_any m4 (maskB (near 9)) w
  rwa [show common m4 (maskB (near 9)) = 4 by decide +kernel] at h
theorem awake_any (w : World) : Calls Try.prog 16 #[] w (Ret (.bool true) w) := by
  have heq := m4_eq
  go_enter Try.func16, Try.ntmps16
  go_wp2_with (go_at_call 12; refine (m4_mask _).mono ?_; rintro e w1 ⟨rfl, q1, rfl⟩)
  refine region_ext _ (by first | exact Later.ext _ _ | exact Later.refl _) mixed (by kernel_rfl) ?_
  repeat (go_big_quiet_step ((first | (go_at_call 12; exact calls_in (mask_any _ _)) | (go_at_call 18; exact calls_in (m4_ones _)) | (go_at_call 20; exact calls_in (m4_common _)) | (go_at_call 25; first | with_reducible exact calls_in (m4_bit3 _) | with_reducible exact calls_in (m4_bit4 _)))))
  refine wpQuiet_nil ?_
  rintro _ ⟨q2, rfl⟩
  go_wp2_with fail
  go_ret
  exact Ret.of rfl (by simp (maxDischargeDepth := 99))
end Go.Proofs.Ytnjopepdjmifjaa
