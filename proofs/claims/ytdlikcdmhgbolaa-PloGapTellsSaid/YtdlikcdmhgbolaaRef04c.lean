/- What two words are merged to by the reference of layer 4: the contract over the program. -/
import Derived.Test.YtdlikcdmhgbolaaRef04b
namespace Go.Proofs.Ytdlikcdmhgbolaa
open Go.RowKit Pg

def dcount (d : B) (k : Nat) : Nat := (List.range k).countP (bt d)
def dlast (d : B) : Nat → Int
  | 0 => -1
  | k + 1 => if bt d k then (k : Int) else dlast d k
theorem dcount_le (d : B) (k : Nat) : dcount d k ≤ k := by unfold dcount; have := List.countP_le_length (p := bt d) (l := List.range k); simpa using this
theorem dcount_succ (d : B) (k : Nat) : dcount d (k + 1) = dcount d k + (bt d k).toNat := by
  unfold dcount
  rw [List.range_succ, List.countP_append]
  cases h : bt d k <;> simp [h]
theorem dlast_spec (d : B) : ∀ n, (dlast d n = -1 ∧ ∀ i, i < n → bt d i = false) ∨ ∃ k : Nat, k < n ∧ dlast d n = (k : Int) ∧ bt d k = true
  | 0 => .inl ⟨rfl, fun i h => by omega⟩
  | n + 1 => by
    unfold dlast
    cases h : bt d n
    · rw [if_neg (by simp)]
      rcases dlast_spec d n with ⟨h1, h2⟩ | ⟨k, h1, h2, h3⟩
      · left; refine ⟨h1, fun i hi => ?_⟩
        rcases Nat.lt_or_ge i n with h4 | h4
        · exact h2 i h4
        · rw [show i = n by omega]; exact h
      · right; exact ⟨k, by omega, h2, h3⟩
    · rw [if_pos rfl]
      exact .inr ⟨n, by omega, rfl, h⟩
theorem dlast_one (d : B) (h : ones d = 1) : ∃ k : Nat, k < 128 ∧ dlast d 128 = (k : Int) ∧ bt d k = true ∧ ∀ j, j < 128 → bt d j = true → j = k := by
  obtain ⟨k, hk, hb, hu⟩ := ones_one d h
  rcases dlast_spec d 128 with ⟨_, h2⟩ | ⟨j, h1, h2, h3⟩
  · rw [h2 k hk] at hb; cases hb
  · obtain rfl := hu j h1 h3
    exact ⟨j, h1, h2, h3, hu⟩
def mergeV (x m y n : B) : Value := if m = n ∧ ones (differB x y m) = 1 then .tuple #[wv (x &&& (m ^^^ differB x y m)) (m ^^^ differB x y m), .bool true] else .tuple #[wv 0#128 0#128, .bool false]
theorem bt_merge {x m y : B} {k : Nat} (hk : k < 128) (hd : bt (differB x y m) k = true) (hu : ∀ j, j < 128 → bt (differB x y m) j = true → j = k) (i : Nat) (hi : i < 128) :
    bt (m ^^^ differB x y m) i = upd (bt m) k false i := by
  by_cases he : i = k
  · subst he
    rw [upd_same, bt_xor, hd]
    rw [bt_differ, Bool.and_eq_true] at hd
    rw [hd.2]; rfl
  · rw [upd_other _ _ _ _ he, bt_xor]
    have : bt (differB x y m) i = false := by
      cases e : bt (differB x y m) i
      · rfl
      · exact absurd (hu i hi e) he
    rw [this]; simp
end Go.Proofs.Ytdlikcdmhgbolaa
