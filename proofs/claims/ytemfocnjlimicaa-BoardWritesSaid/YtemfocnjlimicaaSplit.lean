/- Banks of addresses: the contracts of split.Right, Many, Of, all. -/
import Derived.Test.YtemfocnjlimicaaMathS
import Derived.Test.YtemfocnjlimicaaWord2
import Derived.Test.YtemfocnjlimicaaEls
namespace Go.Proofs.Ytemfocnjlimicaa
open Go.RowKit Pg

theorem sright_yes (k : Nat) (h : k ≤ 3) (w : World) : Calls Try.prog 40 #[.int .i64 (k : Int)] w (Ret (.bool true) w) := by
  have h1 : (0 : Int) ≤ k := by omega
  have h2 : (k : Int) ≤ 3 := by omega
  go_enter Try.func40, Try.ntmps40
  go_wp2_with fail
  go_ret
  exact Ret.of (rfl) (by simp (maxDischargeDepth := 99))
theorem sright_no (k : Int) (h : k < 0 ∨ 3 < k) (w : World) : Calls Try.prog 40 #[.int .i64 k] w (Ret (.bool false) w) := by
  by_cases h1 : k < 0
  · have h2 : ¬ 0 ≤ k := by omega
    go_enter Try.func40, Try.ntmps40
    go_wp2_with fail
    go_ret
    exact Ret.of (rfl) (by simp (maxDischargeDepth := 99))
  · have h2 : 0 ≤ k := by omega
    have h3 : ¬ k ≤ 3 := by omega
    clear h
    go_enter Try.func40, Try.ntmps40
    go_wp2_with fail
    go_ret
    exact Ret.of (rfl) (by simp (maxDischargeDepth := 99))
theorem smany_yes (k : Nat) (h : k ≤ 3) (w : World) : Calls Try.prog 41 #[.int .i64 (k : Int)] w (Ret (.int .i64 ((2 ^ k : Nat) : Int)) w) := by
  have hc : k = 0 ∨ k = 1 ∨ k = 2 ∨ k = 3 := by omega
  rcases hc with rfl | rfl | rfl | rfl
  all_goals
    go_enter Try.func41, Try.ntmps41
    go_wp2_with (first | (go_at_call 40; first | ((refine (calls_in (sright_yes _ (by omega) _)).mono ?_); rintro e w1 ⟨rfl, q1, rfl⟩) | ((refine (sright_yes _ (by omega) _).mono ?_); rintro e w1 ⟨rfl, q1, rfl⟩)))
    go_ret
    exact Ret.of (rfl) (by simp (maxDischargeDepth := 99))
theorem smany_no (k : Int) (h : k < 0 ∨ 3 < k) (w : World) : Calls Try.prog 41 #[.int .i64 k] w (Ret (.int .i64 0) w) := by
  go_enter Try.func41, Try.ntmps41
  go_wp2_with (first | (go_at_call 40; first | ((refine (calls_in (sright_no _ h _)).mono ?_); rintro e w1 ⟨rfl, q1, rfl⟩) | ((refine (sright_no _ h _).mono ?_); rintro e w1 ⟨rfl, q1, rfl⟩)))
  go_ret
  exact Ret.of (rfl) (by simp (maxDischargeDepth := 99))
theorem topN_hi (a : B) (k : Nat) : (topN a k : Int) = hi a / ((2 ^ (64 - k) : Nat) : Int) := by unfold topN hi; rw [Int.natCast_ediv]
theorem sof_yes (k : Nat) (h : k ≤ 3) (a : B) (w : World) : Calls Try.prog 36 #[.int .i64 (k : Int), av a] w (Ret (.int .i64 (topN a k : Int)) w) := by
  have hc : k = 0 ∨ k = 1 ∨ k = 2 ∨ k = 3 := by omega
  have a0 := hi_nonneg a
  have a1 := hi_le a
  rcases hc with rfl | rfl | rfl | rfl
  all_goals
    go_enter Try.func36, Try.ntmps36
    go_wp2_with (first | (go_at_call 40; first | ((refine (calls_in (sright_yes _ (by omega) _)).mono ?_); rintro e w1 ⟨rfl, q1, rfl⟩) | ((refine (sright_yes _ (by omega) _).mono ?_); rintro e w1 ⟨rfl, q1, rfl⟩)))
    go_ret
    exact Ret.of (by rw [topN_hi]; rfl) (by simp (maxDischargeDepth := 99))
theorem sof_no (k : Int) (h : k < 0 ∨ 3 < k) (a : B) (w : World) : Calls Try.prog 36 #[.int .i64 k, av a] w (Ret (.int .i64 0) w) := by
  go_enter Try.func36, Try.ntmps36
  go_wp2_with (first | (go_at_call 40; first | ((refine (calls_in (sright_no _ h _)).mono ?_); rintro e w1 ⟨rfl, q1, rfl⟩) | ((refine (sright_no _ h _).mono ?_); rintro e w1 ⟨rfl, q1, rfl⟩)))
  go_ret
  exact Ret.of (rfl) (by simp (maxDischargeDepth := 99))
/-- prefix.Make of a bank's first address, as its words are reckoned. -/
theorem smake_any (k : Nat) (h : k ≤ 3) (j : Nat) (hj : j < 2 ^ k) (J : Int) (hJ : J = (j : Int) * ((2 ^ (64 - k) : Nat) : Int)) (w : World) : Calls Try.prog 49 #[.agg #[.int .u64 J, .int .u64 0], .int .i64 (k : Int)] w (Ret (pv (atB k j) k) w) := by
  have h1 := make_any (atB k j) k w
  have hn : near (k : Int) = k := near_nat k (by omega)
  rw [hn, atB_cut (by omega) hj] at h1
  unfold av at h1
  rw [atB_hi (by omega) hj, atB_lo (by omega) hj, Int.natCast_mul, ← hJ] at h1
  exact h1
theorem sword_any (k : Nat) (h : k ≤ 3) (j : Nat) (hj : j < 2 ^ k) (w : World) : Calls Try.prog 48 #[pv (atB k j) k] w (Ret (wv (atB k j) (maskB k)) w) := by
  have h1 := wof_any (atB k j) k w
  rwa [near_nat k (by omega), atB_cut (by omega) hj] at h1
end Go.Proofs.Ytemfocnjlimicaa
