/- What each function of package prefix hands back: the contracts over the program. -/
import Derived.Test.YtemfocnjlimicaaAddr
import Derived.Test.YtemfocnjlimicaaMathP
namespace Go.Proofs.Ytemfocnjlimicaa
open Go.RowKit Pg

/-- A prefix as a value. -/
abbrev pv (x : B) (n : Int) : Value := .agg #[.int .u64 (hi x), .int .u64 (lo x), .int .i64 n]
theorem near_min (n : Int) : near (min (max n 0) 128) = near n := by unfold near; omega
theorem near_val (n : Int) : min (max n 0) 128 = (near n : Int) := by unfold near; omega

theorem make_any (x : B) (n : Int) (w : World) : Calls Try.prog 49 #[av x, .int .i64 n] w (Ret (pv (x &&& maskB (near n)) (near n)) w) := by
  have e1 := Lib.hid (near_nat (near n) (near_le n))
  have e2 := Lib.hid (near_val n)
  go_enter Try.func49, Try.ntmps49
  go_wp2_with (first | (go_at_call 57; refine (cut_any _ _ _).mono ?_; rintro e w1 ⟨rfl, q1, rfl⟩))
  refine bodyPost_ret (v := pv (x &&& maskB (near n)) (near n)) ?_ rfl (Ret.mk (by simp (maxDischargeDepth := 99)))
  simp [results, Try.results49, go_sem, pv, e1.out, e2.out]
theorem under_prefix : Try.prog.underlying 74 = some (.struct (Try.prog.fieldsOf 74)) := by kernel_rfl
theorem stood_prefix : Try.prog.stoodInHeld 74 = false := by kernel_rfl
@[go_sem] theorem eq_prefix (d : Nat) (x y : B) (n m : Int) (w : World) : (Op.equalIn (d + 3) 74 (pv x n) (pv y m)).run Try.prog w = .ok (decide (x = y) && decide (n = m)) w := by
  rw [run_equalIn_struct w (d + 2) _ _ _ under_prefix stood_prefix]
  simp [go_sem]
  by_cases h1 : x = y <;> by_cases h2 : n = m <;> simp [h1, h2]
end Go.Proofs.Ytemfocnjlimicaa
