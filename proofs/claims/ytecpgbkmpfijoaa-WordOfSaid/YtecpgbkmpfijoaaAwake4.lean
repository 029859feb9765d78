/- The statements of layer 4: what each asks of two halves besides. -/
import Derived.Test.YtecpgbkmpfijoaaWord
namespace Go.Proofs.Ytecpgbkmpfijoaa
open Go.RowKit Pg

def wA : B := BitVec.ofNat 128 (10 * 2 ^ 120)
def wB : B := BitVec.ofNat 128 (10 * 2 ^ 120 + 2 ^ 119)
def m9 : B := maskB 9
def m8 : B := maskB 8
theorem wA_words : hi wA = 720575940379279360 ∧ lo wA = 0 := by decide +kernel
theorem wB_words : hi wB = 756604737398243328 ∧ lo wB = 0 := by decide +kernel
theorem awake4_mk1 (w : World) : Calls Try.prog 40 #[.agg #[.int .u64 720575940379279360, .int .u64 0], .int .i64 9] w (Ret (pv wA 9) w) := by
  have h := make_any wA 9 w
  rw [show wA &&& maskB (near 9) = wA by decide +kernel, show near 9 = 9 by decide +kernel] at h
  unfold av at h
  rw [wA_words.1, wA_words.2] at h
  exact h
theorem awake4_mk2 (w : World) : Calls Try.prog 40 #[.agg #[.int .u64 756604737398243328, .int .u64 0], .int .i64 9] w (Ret (pv wB 9) w) := by
  have h := make_any wB 9 w
  rw [show wB &&& maskB (near 9) = wB by decide +kernel, show near 9 = 9 by decide +kernel] at h
  unfold av at h
  rw [wB_words.1, wB_words.2] at h
  exact h
theorem awake4_mk3 (w : World) : Calls Try.prog 40 #[.agg #[.int .u64 720575940379279360, .int .u64 0], .int .i64 8] w (Ret (pv wA 8) w) := by
  have h := make_any wA 8 w
  rw [show wA &&& maskB (near 8) = wA by decide +kernel, show near 8 = 8 by decide +kernel] at h
  unfold av at h
  rw [wA_words.1, wA_words.2] at h
  exact h
theorem awake4_of1 (w : World) : Calls Try.prog 29 #[pv wA 9] w (Ret (wv wA m9) w) := by
  have h := wof_any wA 9 w
  rwa [show wA &&& maskB (near 9) = wA by decide +kernel, show near 9 = 9 by decide +kernel] at h
theorem awake4_of2 (w : World) : Calls Try.prog 29 #[pv wB 9] w (Ret (wv wB m9) w) := by
  have h := wof_any wB 9 w
  rwa [show wB &&& maskB (near 9) = wB by decide +kernel, show near 9 = 9 by decide +kernel] at h
theorem awake4_of3 (w : World) : Calls Try.prog 29 #[pv wA 8] w (Ret (wv wA m8) w) := by
  have h := wof_any wA 8 w
  rwa [show wA &&& maskB (near 8) = wA by decide +kernel, show near 8 = 8 by decide +kernel] at h
theorem awake4_merge (w : World) : Calls Try.prog 10 #[wv wA m9, wv wB m9] w (Ret (.tuple #[wv wA m8, .bool true]) w) := by
  have h := wmerge_yes (x := wA) (m := m9) (y := wB) (by decide +kernel) w
  rwa [show m9 ^^^ differB wA wB m9 = m8 by decide +kernel, show wA &&& m8 = wA by decide +kernel] at h
theorem awake4_eq (d : Nat) (w : World) : (Op.equalIn (d + 3) 26 (wv wA m8) (wv wA m8)).run Try.prog w = .ok true w := by
  have h := eq_word d wA m8 wA m8 w
  rwa [decide_eq_true rfl, decide_eq_true rfl] at h
theorem awake4_right (w : World) : Calls Try.prog 22 #[wv wA m8] w (Ret (.bool true) w) := by
  have h := wright_any wA m8 w
  rwa [show decide (wA = wA &&& m8) = true by decide +kernel] at h
theorem awake4_free (w : World) : Calls Try.prog 14 #[wv wA m8] w (Ret (.int .i64 120) w) := by
  have h := wfree_any wA m8 w
  rwa [show ones (~~~ m8) = 120 by decide +kernel] at h
set_option maxRecDepth 100000 in
theorem awake4_any (w : World) : Calls Try.prog 15 #[] w (Ret (.bool true) w) := by
  have he := awake4_eq
  have f1 := Lib.hid (show matchW wA m8 wB = true by decide +kernel)
  have f2 := Lib.hid (show meetW wA m9 wB m9 = false by decide +kernel)
  go_enter Try.func15, Try.ntmps15
  go_wp2_with (first | (go_at_call 40; first | ((with_reducible refine (calls_in (awake4_mk1 _)).mono ?_); rintro e w1 ⟨rfl, q1, rfl⟩) | ((with_reducible refine (awake4_mk1 _).mono ?_); rintro e w1 ⟨rfl, q1, rfl⟩) | ((with_reducible refine (calls_in (awake4_mk2 _)).mono ?_); rintro e w1 ⟨rfl, q1, rfl⟩) | ((with_reducible refine (awake4_mk2 _).mono ?_); rintro e w1 ⟨rfl, q1, rfl⟩)) | (go_at_call 29; first | ((with_reducible refine (calls_in (awake4_of1 _)).mono ?_); rintro e w1 ⟨rfl, q1, rfl⟩) | ((with_reducible refine (awake4_of1 _).mono ?_); rintro e w1 ⟨rfl, q1, rfl⟩) | ((with_reducible refine (calls_in (awake4_of2 _)).mono ?_); rintro e w1 ⟨rfl, q1, rfl⟩) | ((with_reducible refine (awake4_of2 _).mono ?_); rintro e w1 ⟨rfl, q1, rfl⟩)) | (go_at_call 10; first | ((refine (calls_in (awake4_merge _)).mono ?_); rintro e w1 ⟨rfl, q1, rfl⟩) | ((refine (awake4_merge _).mono ?_); rintro e w1 ⟨rfl, q1, rfl⟩)))
  refine region_ext _ (by first | exact Later.ext _ _ | exact Later.refl _) mixed (by kernel_rfl) ?_
  repeat (go_big_quiet_step ((first | (go_at_call 40; exact calls_in (awake4_mk3 _)) | (go_at_call 29; exact calls_in (awake4_of3 _)) | (go_at_call 13; exact calls_in (wmatch_as f1.out _)) | (go_at_call 20; exact calls_in (wmeet_as f2.out _)) | (go_at_call 22; exact calls_in (awake4_right _)) | (go_at_call 14; exact calls_in (awake4_free _)))))
  refine wpQuiet_nil ?_
  rintro _ ⟨q, rfl⟩
  go_wp2_with fail
  go_ret
  exact Ret.of (rfl) (by simp (maxDischargeDepth := 99))
end Go.Proofs.Ytecpgbkmpfijoaa
