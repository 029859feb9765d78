/- An address that a word matches: the contract of word.Some. -/
import Derived.Test.YtdlikcdmhgbolaaWord
namespace Go.Proofs.Ytdlikcdmhgbolaa
open Go.RowKit Pg

theorem u64N_lt (n : Int) : u64N n < 18446744073709551616 := by
  unfold u64N
  rw [IntKind.wrap_u64]
  omega
theorem u64N_cast (n : Int) : IntKind.u64.wrap n = (u64N n : Int) := by
  unfold u64N
  rw [IntKind.wrap_u64]
  omega
theorem and_one (r : Nat) (h : r < 18446744073709551616) : bits .and .u64 (r : Int) 1 = ((r % 2 : Nat) : Int) := by
  rw [show (1 : Int) = ((1 : Nat) : Int) from rfl, u64_and_nat r 1 h (by omega), Nat.and_one_is_mod]
theorem parity (r : Nat) : ((r : Int) % 2 == 1) = (r % 2 == 1) := by
  have h1 : (r : Int) % 2 = ((r % 2 : Nat) : Int) := by omega
  rw [h1]
  have : r % 2 = 0 ∨ r % 2 = 1 := by omega
  rcases this with h | h <;> rw [h] <;> rfl
@[go_sem] theorem field_word (x m : B) (w : World) : (Instr.field 27 (wv x m) 0).run Try.prog w = .ok (av x) w := by kernel_rfl
end Go.Proofs.Ytdlikcdmhgbolaa
