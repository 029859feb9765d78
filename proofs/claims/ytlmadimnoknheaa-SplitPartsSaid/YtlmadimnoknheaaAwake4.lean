/- The statements of layer 4: what each asks of two halves besides. -/
import Derived.Test.YtlmadimnoknheaaWord
namespace Go.Proofs.Ytlmadimnoknheaa
open Go.RowKit Pg

def wA : B := BitVec.ofNat 128 (10 * 2 ^ 120)
def wB : B := BitVec.ofNat 128 (10 * 2 ^ 120 + 2 ^ 119)
def m9 : B := maskB 9
def m8 : B := maskB 8
theorem wA_words : hi wA = 720575940379279360 ∧ lo wA = 0 := by decide +kernel
theorem wB_words : hi wB = 756604737398243328 ∧ lo wB = 0 := by decide +kernel
theorem awake4_mk1 (w : World) : Calls Try.prog 27 #[.agg #[.int .u64 720575940379279360, .int .u64 0], .int .i64 9] w (Ret (pv wA 9) w) := by
  have h := make_any wA 9 w
  rw [show wA &&& maskB (near 9) = wA by decide +kernel, show near 9 = 9 by decide +kernel] at h
  unfold av at h
  rw [wA_words.1, wA_words.2] at h
  exact h
theorem awake4_mk2 (w : World) : Calls Try.prog 27 #[.agg #[.int .u64 756604737398243328, .int .u64 0], .int .i64 9] w (Ret (pv wB 9) w) := by
  have h := make_any wB 9 w
  rw [show wB &&& maskB (near 9) = wB by decide +kernel, show near 9 = 9 by decide +kernel] at h
  unfold av at h
  rw [wB_words.1, wB_words.2] at h
  exact h
theorem awake4_mk3 (w : World) : Calls Try.prog 27 #[.agg #[.int .u64 720575940379279360, .int .u64 0], .int .i64 8] w (Ret (pv wA 8) w) := by
  have h := make_any wA 8 w
  rw [show wA &&& maskB (near 8) = wA by decide +kernel, show near 8 = 8 by decide +kernel] at h
  unfold av at h
  rw [wA_words.1, wA_words.2] at h
  exact h
theorem awake4_of1 (w : World) : Calls Try.prog 26 #[pv wA 9] w (Ret (wv wA m9) w) := by
  have h := wof_any wA 9 w
  rwa [show wA &&& maskB (near 9) = wA by decide +kernel, show near 9 = 9 by decide +kernel] at h
theorem awake4_of2 (w : World) : Calls Try.prog 26 #[pv wB 9] w (Ret (wv wB m9) w) := by
  have h := wof_any wB 9 w
  rwa [show wB &&& maskB (near 9) = wB by decide +kernel, show near 9 = 9 by decide +kernel] at h
theorem awake4_of3 (w : World) : Calls Try.prog 26 #[pv wA 8] w (Ret (wv wA m8) w) := by
  have h := wof_any wA 8 w
  rwa [show wA &&& maskB (near 8) = wA by decide +kernel, show near 8 = 8 by decide +kernel] at h
theorem awake4_eq (d : Nat) (w : World) : (Op.equalIn (d + 3) 26 (wv wA m8) (wv wA m8)).run Try.prog w = .ok true w := by
  have h := eq_word d wA m8 wA m8 w
  rwa [decide_eq_true rfl, decide_eq_true rfl] at h
end Go.Proofs.Ytlmadimnoknheaa
