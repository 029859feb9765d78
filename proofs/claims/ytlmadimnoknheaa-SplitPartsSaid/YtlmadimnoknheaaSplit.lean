/- Banks of addresses: the contracts of split.Right, Many, Of, all. -/
import Derived.Test.YtlmadimnoknheaaMathS
import Derived.Test.YtlmadimnoknheaaWord2
import Derived.Test.YtlmadimnoknheaaEls
namespace Go.Proofs.Ytlmadimnoknheaa
open Go.RowKit Pg

theorem sright_yes (k : Nat) (h : k ≤ 3) (w : World) : Calls Try.prog 13 #[.int .i64 (k : Int)] w (Ret (.bool true) w) := by
  have h1 : (0 : Int) ≤ k := by omega
  have h2 : (k : Int) ≤ 3 := by omega
  go_enter Try.func13, Try.ntmps13
  go_wp2_with fail
  go_ret
  exact Ret.of (rfl) (by simp (maxDischargeDepth := 99))
theorem sright_no (k : Int) (h : k < 0 ∨ 3 < k) (w : World) : Calls Try.prog 13 #[.int .i64 k] w (Ret (.bool false) w) := by
  by_cases h1 : k < 0
  · have h2 : ¬ 0 ≤ k := by omega
    go_enter Try.func13, Try.ntmps13
    go_wp2_with fail
    go_ret
    exact Ret.of (rfl) (by simp (maxDischargeDepth := 99))
  · have h2 : 0 ≤ k := by omega
    have h3 : ¬ k ≤ 3 := by omega
    clear h
    go_enter Try.func13, Try.ntmps13
    go_wp2_with fail
    go_ret
    exact Ret.of (rfl) (by simp (maxDischargeDepth := 99))
theorem smany_yes (k : Nat) (h : k ≤ 3) (w : World) : Calls Try.prog 12 #[.int .i64 (k : Int)] w (Ret (.int .i64 ((2 ^ k : Nat) : Int)) w) := by
  have hc : k = 0 ∨ k = 1 ∨ k = 2 ∨ k = 3 := by omega
  rcases hc with rfl | rfl | rfl | rfl
  all_goals
    go_enter Try.func12, Try.ntmps12
    go_wp2_with (first | (go_at_call 13; first | ((refine (calls_in (sright_yes _ (by omega) _)).mono ?_); rintro e w1 ⟨rfl, q1, rfl⟩) | ((refine (sright_yes _ (by omega) _).mono ?_); rintro e w1 ⟨rfl, q1, rfl⟩)))
    go_ret
    exact Ret.of (rfl) (by simp (maxDischargeDepth := 99))
theorem smany_no (k : Int) (h : k < 0 ∨ 3 < k) (w : World) : Calls Try.prog 12 #[.int .i64 k] w (Ret (.int .i64 0) w) := by
  go_enter Try.func12, Try.ntmps12
  go_wp2_with (first | (go_at_call 13; first | ((refine (calls_in (sright_no _ h _)).mono ?_); rintro e w1 ⟨rfl, q1, rfl⟩) | ((refine (sright_no _ h _).mono ?_); rintro e w1 ⟨rfl, q1, rfl⟩)))
  go_ret
  exact Ret.of (rfl) (by simp (maxDischargeDepth := 99))
theorem topN_hi (a : B) (k : Nat) : (topN a k : Int) = hi a / ((2 ^ (64 - k) : Nat) : Int) := by unfold topN hi; rw [Int.natCast_ediv]
theorem sof_yes (k : Nat) (h : k ≤ 3) (a : B) (w : World) : Calls Try.prog 14 #[.int .i64 (k : Int), av a] w (Ret (.int .i64 (topN a k : Int)) w) := by
  have hc : k = 0 ∨ k = 1 ∨ k = 2 ∨ k = 3 := by omega
  have a0 := hi_nonneg a
  have a1 := hi_le a
  rcases hc with rfl | rfl | rfl | rfl
  all_goals
    go_enter Try.func14, Try.ntmps14
    go_wp2_with (first | (go_at_call 13; first | ((refine (calls_in (sright_yes _ (by omega) _)).mono ?_); rintro e w1 ⟨rfl, q1, rfl⟩) | ((refine (sright_yes _ (by omega) _).mono ?_); rintro e w1 ⟨rfl, q1, rfl⟩)))
    go_ret
    exact Ret.of (by rw [topN_hi]; rfl) (by simp (maxDischargeDepth := 99))
theorem sof_no (k : Int) (h : k < 0 ∨ 3 < k) (a : B) (w : World) : Calls Try.prog 14 #[.int .i64 k, av a] w (Ret (.int .i64 0) w) := by
  go_enter Try.func14, Try.ntmps14
  go_wp2_with (first | (go_at_call 13; first | ((refine (calls_in (sright_no _ h _)).mono ?_); rintro e w1 ⟨rfl, q1, rfl⟩) | ((refine (sright_no _ h _).mono ?_); rintro e w1 ⟨rfl, q1, rfl⟩)))
  go_ret
  exact Ret.of (rfl) (by simp (maxDischargeDepth := 99))
/-- prefix.Make of a bank's first address, as its words are reckoned. -/
theorem smake_any (k : Nat) (h : k ≤ 3) (j : Nat) (hj : j < 2 ^ k) (J : Int) (hJ : J = (j : Int) * ((2 ^ (64 - k) : Nat) : Int)) (w : World) : Calls Try.prog 27 #[.agg #[.int .u64 J, .int .u64 0], .int .i64 (k : Int)] w (Ret (pv (atB k j) k) w) := by
  have h1 := make_any (atB k j) k w
  have hn : near (k : Int) = k := near_nat k (by omega)
  rw [hn, atB_cut (by omega) hj] at h1
  unfold av at h1
  rw [atB_hi (by omega) hj, atB_lo (by omega) hj, Int.natCast_mul, ← hJ] at h1
  exact h1
theorem sword_any (k : Nat) (h : k ≤ 3) (j : Nat) (hj : j < 2 ^ k) (w : World) : Calls Try.prog 26 #[pv (atB k j) k] w (Ret (wv (atB k j) (maskB k)) w) := by
  have h1 := wof_any (atB k j) k w
  rwa [near_nat k (by omega), atB_cut (by omega) hj] at h1
theorem sall_any (k : Nat) (h : k ≤ 3) (j : Nat) (hj : j < 2 ^ k) (w : World) : Calls Try.prog 31 #[.int .i64 (k : Int), .int .i64 (j : Int)] w (Ret (wv (atB k j) (maskB k)) w) := by
  have h8 := pow_small h
  have i0 : (0 : Int) ≤ j := by omega
  have i1 : (j : Int) ≤ 8 := by omega
  have hc : k = 0 ∨ k = 1 ∨ k = 2 ∨ k = 3 := by omega
  have hw := Lib.hid (sword_any k h j hj)
  rcases hc with rfl | rfl | rfl | rfl
  · obtain rfl : j = 0 := by omega
    go_enter Try.func31, Try.ntmps31
    go_wp2_with (first | (go_at_call 27; first | ((refine (calls_in (smake_any 0 h 0 hj _ rfl _)).mono ?_); rintro e w1 ⟨rfl, q1, rfl⟩) | ((refine (smake_any 0 h 0 hj _ rfl _).mono ?_); rintro e w1 ⟨rfl, q1, rfl⟩)) | (go_at_call 26; first | ((refine (calls_in (hw.out _)).mono ?_); rintro e w1 ⟨rfl, q1, rfl⟩) | ((refine (hw.out _).mono ?_); rintro e w1 ⟨rfl, q1, rfl⟩)))
    exact bodyPost_ret (v := wv (atB 0 0) (maskB 0)) (by simp [results, Try.results31, go_sem, wv]) rfl (Ret.mk (by simp (maxDischargeDepth := 99)))
  · go_enter Try.func31, Try.ntmps31
    go_wp2_with (first | (go_at_call 27; first | ((refine (calls_in (smake_any 1 h j hj _ rfl _)).mono ?_); rintro e w1 ⟨rfl, q1, rfl⟩) | ((refine (smake_any 1 h j hj _ rfl _).mono ?_); rintro e w1 ⟨rfl, q1, rfl⟩)) | (go_at_call 26; first | ((refine (calls_in (hw.out _)).mono ?_); rintro e w1 ⟨rfl, q1, rfl⟩) | ((refine (hw.out _).mono ?_); rintro e w1 ⟨rfl, q1, rfl⟩)))
    exact bodyPost_ret (v := wv (atB 1 j) (maskB 1)) (by simp [results, Try.results31, go_sem, wv]) rfl (Ret.mk (by simp (maxDischargeDepth := 99)))
  · go_enter Try.func31, Try.ntmps31
    go_wp2_with (first | (go_at_call 27; first | ((refine (calls_in (smake_any 2 h j hj _ rfl _)).mono ?_); rintro e w1 ⟨rfl, q1, rfl⟩) | ((refine (smake_any 2 h j hj _ rfl _).mono ?_); rintro e w1 ⟨rfl, q1, rfl⟩)) | (go_at_call 26; first | ((refine (calls_in (hw.out _)).mono ?_); rintro e w1 ⟨rfl, q1, rfl⟩) | ((refine (hw.out _).mono ?_); rintro e w1 ⟨rfl, q1, rfl⟩)))
    exact bodyPost_ret (v := wv (atB 2 j) (maskB 2)) (by simp [results, Try.results31, go_sem, wv]) rfl (Ret.mk (by simp (maxDischargeDepth := 99)))
  · go_enter Try.func31, Try.ntmps31
    go_wp2_with (first | (go_at_call 27; first | ((refine (calls_in (smake_any 3 h j hj _ rfl _)).mono ?_); rintro e w1 ⟨rfl, q1, rfl⟩) | ((refine (smake_any 3 h j hj _ rfl _).mono ?_); rintro e w1 ⟨rfl, q1, rfl⟩)) | (go_at_call 26; first | ((refine (calls_in (hw.out _)).mono ?_); rintro e w1 ⟨rfl, q1, rfl⟩) | ((refine (hw.out _).mono ?_); rintro e w1 ⟨rfl, q1, rfl⟩)))
    exact bodyPost_ret (v := wv (atB 3 j) (maskB 3)) (by simp [results, Try.results31, go_sem, wv]) rfl (Ret.mk (by simp (maxDischargeDepth := 99)))
end Go.Proofs.Ytlmadimnoknheaa
