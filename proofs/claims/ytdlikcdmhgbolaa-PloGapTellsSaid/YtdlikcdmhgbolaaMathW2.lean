/- Words of prefixes; words with one bit turned. Plain Lean, no program. -/
import Derived.Test.YtdlikcdmhgbolaaMathW
namespace Pg
open Go

theorem matchW_of (X : B) (N : Int) (a : B) : matchW (X &&& maskB (near N)) (maskB (near N)) a = matchB X N a := by
  rw [Bool.eq_iff_iff, matchW_iff, matchB_iff]
  have hn := near_le N
  constructor
  · intro h k hk
    have := h k (by omega) (by rw [bt_mask _ _ (by omega)]; simpa using hk)
    rw [← this, bt_and, bt_mask _ _ (by omega)]
    simp [hk]
  · intro h k hk hm
    rw [bt_mask _ _ hk] at hm
    have hm : k < near N := by simpa using hm
    rw [bt_and, bt_mask _ _ hk, h k hm]
    simp [hm]
theorem right_of (X : B) (n : Nat) : X &&& maskB n = (X &&& maskB n) &&& maskB n := by
  apply ext_bt; intro k hk; simp only [bt_and]; cases bt X k <;> cases bt (maskB n) k <;> rfl
theorem coversW_of {X : B} {N : Int} {Y : B} {K : Int} (h1 : rightB 128 X N = true) (h2 : rightB 128 Y K = true) :
    coversW (X &&& maskB (near N)) (maskB (near N)) (Y &&& maskB (near K)) (maskB (near K)) = coversB X N Y K := by
  obtain ⟨_, a1, b1, _⟩ := rightB_parts h1
  obtain ⟨_, a2, b2, _⟩ := rightB_parts h2
  have n1 : (near N : Int) = N := near_of a1 b1
  have n2 : (near K : Int) = K := near_of a2 b2
  rw [Bool.eq_iff_iff, coversW_iff]
  unfold coversB
  rw [Bool.and_eq_true, decide_eq_true_eq, matchB_iff]
  constructor
  · intro h
    have hle : N ≤ K := by
      by_cases hlt : K < N
      · have := (h (near K) (by omega) (by rw [bt_mask _ _ (by omega)]; simp; omega)).1
        rw [bt_mask _ _ (by omega)] at this
        simp at this
      · omega
    refine ⟨hle, fun k hk => ?_⟩
    have := (h k (by omega) (by rw [bt_mask _ _ (by omega)]; simpa using hk)).2
    simp only [bt_and] at this
    rw [bt_mask _ _ (by omega), bt_mask _ _ (by omega), decide_eq_true hk, decide_eq_true (show k < near K by omega)] at this
    simpa using this
  · rintro ⟨hle, h⟩ k hk hm
    rw [bt_mask _ _ hk] at hm
    have hm : k < near N := by simpa using hm
    simp only [bt_and]
    rw [bt_mask _ _ hk, bt_mask _ _ hk, decide_eq_true hm, decide_eq_true (show k < near K by omega), h k hm]
    simp
theorem meetW_of {X : B} {N : Int} {Y : B} {K : Int} (h1 : rightB 128 X N = true) (h2 : rightB 128 Y K = true) :
    meetW (X &&& maskB (near N)) (maskB (near N)) (Y &&& maskB (near K)) (maskB (near K)) = (coversB X N Y K || coversB Y K X N) := by
  obtain ⟨_, a1, b1, _⟩ := rightB_parts h1
  obtain ⟨_, a2, b2, _⟩ := rightB_parts h2
  have n1 : (near N : Int) = N := near_of a1 b1
  have n2 : (near K : Int) = K := near_of a2 b2
  have key : meetW (X &&& maskB (near N)) (maskB (near N)) (Y &&& maskB (near K)) (maskB (near K)) = true ↔ ∀ k, k < near N → k < near K → bt X k = bt Y k := by
    rw [meetW_iff]
    constructor
    · intro h k k1 k2
      have := h k (by omega) (by rw [bt_mask _ _ (by omega)]; simpa using k1) (by rw [bt_mask _ _ (by omega)]; simpa using k2)
      simp only [bt_and] at this
      rw [bt_mask _ _ (by omega), bt_mask _ _ (by omega), decide_eq_true k1, decide_eq_true k2] at this
      simpa using this
    · intro h k hk k1 k2
      rw [bt_mask _ _ hk] at k1 k2
      have k1 : k < near N := by simpa using k1
      have k2 : k < near K := by simpa using k2
      simp only [bt_and]
      rw [bt_mask _ _ hk, bt_mask _ _ hk, decide_eq_true k1, decide_eq_true k2, h k k1 k2]
  rw [Bool.eq_iff_iff, key, Bool.or_eq_true]
  unfold coversB
  rw [Bool.and_eq_true, Bool.and_eq_true, decide_eq_true_eq, decide_eq_true_eq, matchB_iff, matchB_iff]
  constructor
  · intro h
    by_cases hlt : K < N
    · exact .inr ⟨by omega, fun k hk => (h k (by omega) hk).symm⟩
    · exact .inl ⟨by omega, fun k hk => h k hk (by omega)⟩
  · rintro (⟨hle, h⟩ | ⟨hle, h⟩) k k1 k2
    · exact h k k1
    · exact (h k k2).symm
theorem free_ones (m : B) : ones (~~~ m) + ones m = 128 := by rw [ones_not]; have := ones_le m; omega
theorem free_of (n : Nat) : ones (~~~ maskB n) = 128 - n := by
  have e : ones (~~~ maskB n) = (List.range 128).countP (fun k => decide (n ≤ k)) := by
    unfold ones
    apply List.countP_congr
    intro k hk
    rw [List.mem_range] at hk
    rw [bt_not _ _ hk, bt_mask _ _ hk]
    simp
  rw [e]
  have key : ∀ d, (List.range d).countP (fun k => decide (n ≤ k)) = d - n := by
    intro d
    induction d with
    | zero => simp
    | succ d ih =>
      rw [List.range_succ, List.countP_append, ih]
      by_cases c : n ≤ d
      · simp [c]; omega
      · simp [c]; omega
  exact key 128
theorem turned_match {x m A : B} (h : matchW x m A = true) (k : Nat) (hk : k < 128) : matchW x m (setB A k (!bt A k)) = !bt m k := by
  rw [matchW_iff] at h
  cases hm : bt m k
  · rw [Bool.not_false, matchW_iff]
    intro i hi hmi
    rw [bt_setB _ _ _ hk i hi]
    by_cases he : i = k
    · subst he; rw [hm] at hmi; cases hmi
    · rw [if_neg he]; exact h i hi hmi
  · rw [Bool.not_true, Bool.eq_false_iff]
    intro hc
    rw [matchW_iff] at hc
    have h1 := hc k hk hm
    rw [bt_setB _ _ _ hk k hk, if_pos rfl, h k hk hm] at h1
    revert h1; cases bt A k <;> simp
theorem u64N_nat (k : Nat) (h : k < 256) : u64N (k : Int) = k := by
  unfold u64N; rw [IntKind.wrap_u64]; omega
theorem someB_nat (x m : B) (k : Nat) (h : k < 256) : someB x m (k : Int) = (someAt x m k 128).1 := by unfold someB; rw [u64N_nat k h]
end Pg
