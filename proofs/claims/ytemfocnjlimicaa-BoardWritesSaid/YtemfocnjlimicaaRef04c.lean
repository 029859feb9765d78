/- What each function of the reference of layer 4 hands back: the contracts over the program. The reference's address that a word matches, and what two words are merged to: the contracts over the program. What two words are merged to by the reference of layer 4: the contract over the program. -/
import Derived.Test.YtemfocnjlimicaaWord2
import Derived.Test.YtemfocnjlimicaaRef01
namespace Go.Proofs.Ytemfocnjlimicaa
open Go.RowKit Pg

def mStep (x m a : B) (k : Nat) : Bool := !(bt m k && (bt x k != bt a k))
def cStep (x m y n : B) (k : Nat) : Bool := !(bt m k && (!bt n k || (bt x k != bt y k)))
def eStep (x m y n : B) (k : Nat) : Bool := !(bt m k && (bt n k && (bt x k != bt y k)))
theorem mStep_iff (x m a : B) : matchW x m a = true ↔ ∀ k, k < 128 → mStep x m a k = true := by
  rw [matchW_iff]
  constructor
  · intro h k hk
    have := h k hk
    unfold mStep
    revert this; cases bt m k <;> cases bt x k <;> cases bt a k <;> simp
  · intro h k hk
    have := h k hk
    unfold mStep at this
    revert this; cases bt m k <;> cases bt x k <;> cases bt a k <;> simp
theorem cStep_iff (x m y n : B) : coversW x m y n = true ↔ ∀ k, k < 128 → cStep x m y n k = true := by
  rw [coversW_iff]
  constructor
  · intro h k hk
    have := h k hk
    unfold cStep
    revert this; cases bt m k <;> cases bt n k <;> cases bt x k <;> cases bt y k <;> simp
  · intro h k hk
    have := h k hk
    unfold cStep at this
    revert this; cases bt m k <;> cases bt n k <;> cases bt x k <;> cases bt y k <;> simp
theorem eStep_iff (x m y n : B) : meetW x m y n = true ↔ ∀ k, k < 128 → eStep x m y n k = true := by
  rw [meetW_iff]
  constructor
  · intro h k hk
    have := h k hk
    unfold eStep
    revert this; cases bt m k <;> cases bt n k <;> cases bt x k <;> cases bt y k <;> simp
  · intro h k hk
    have := h k hk
    unfold eStep at this
    revert this; cases bt m k <;> cases bt n k <;> cases bt x k <;> cases bt y k <;> simp
theorem by_step_no {b : Bool} {p : Nat → Bool} {k : Nat} (h : b = true ↔ ∀ i, i < 128 → p i = true) (hk : k < 128) (hp : p k = false) : b = false :=
  Bool.eq_false_iff.2 fun hc => by have := h.1 hc k hk; rw [hp] at this; cases this
theorem step_more {p : Nat → Bool} {k : Nat} (h : ∀ i, i < k → p i = true) (hp : p k = true) : ∀ i, i < k + 1 → p i = true := fun i hi => by
  rcases Nat.lt_or_ge i k with hik | hik
  · exact h i hik
  · rw [show i = k by omega]; exact hp
theorem law04of_any (x m : B) (w : World) : Calls Try.prog 61 #[wv x m] w (Ret (wv x m) w) := by
  go_enter Try.func61, Try.ntmps61
  go_wp2_with fail
  exact bodyPost_ret (v := wv x m) (by simp [results, Try.results61, go_sem, wv]) rfl (Ret.mk (by simp (maxDischargeDepth := 99)))
set_option maxHeartbeats 1000000 in
set_option maxRecDepth 100000 in
theorem refwmatch_any (x m a : B) (w : World) : Calls Try.prog 38 #[wv x m, av a] w (Ret (.bool (matchW x m a)) w) := by
  go_enter Try.func38, Try.ntmps38
  go_wp2_with fail
  refine (bits_any x _).mono ?_
  rintro e w1 ⟨g0, rfl, hg0, hb0, p0, rfl⟩
  have hl0 := hb0.lt
  have HB0 := Lib.hid hb0
  clear hb0
  go_wp2_with fail
  have hb0 := HB0.out
  clear HB0 hl0
  refine (calls_in_bits (bits_any m _)).mono ?_
  rintro e w1 ⟨g1, rfl, hg1, hb1, p1, rfl, hk1⟩
  replace hb0 := Blk.kept hb0 hk1
  clear hk1
  have hl0 := hb0.lt
  have HB0 := Lib.hid hb0
  clear hb0
  have hl1 := hb1.lt
  have HB1 := Lib.hid hb1
  clear hb1
  go_wp2_with fail
  have hb0 := HB0.out
  clear HB0 hl0
  have hb1 := HB1.out
  clear HB1 hl1
  refine (calls_in_bits (bits_any a _)).mono ?_
  rintro e w1 ⟨g2, rfl, hg2, hb2, p2, rfl, hk2⟩
  replace hb0 := Blk.kept hb0 hk2
  replace hb1 := Blk.kept hb1 hk2
  clear hk2
  have hl0 := hb0.lt
  have HB0 := Lib.hid hb0
  clear hb0
  have hl1 := hb1.lt
  have HB1 := Lib.hid hb1
  clear hb1
  have hl2 := hb2.lt
  have HB2 := Lib.hid hb2
  clear hb2
  go_wp2_with fail
  go_loopw [8] (fun vk wr => ∃ k : Nat, k ≤ 128 ∧ (∀ i, i < k → mStep x m a i = true) ∧ vk = .int .i64 k ∧ Kept w wr ∧ IsBits wr g0 4 (bt x) ∧ IsBits wr g1 4 (bt m) ∧ IsBits wr g2 4 (bt a)) (fun k _ => 128 - (intOf k).toNat)
  case atStart => exact ⟨0, by omega, fun i h => by omega, rfl, by simp (maxDischargeDepth := 99), HB0.out, HB1.out, HB2.out⟩
  case round =>
    clear HB0 hl0 hg0 HB1 hl1 hg1 HB2 hl2 hg2
    obtain ⟨k, hk, hs, rfl, hkw, hb0, hb1, hb2⟩ := hrel
    have HX := Lib.hid (And.intro hs (And.intro hkw (And.intro hb0 (And.intro hb1 hb2))))
    have l0 := hb0.lt
    have l1 := hb1.lt
    have l2 := hb2.lt
    by_cases hlt : k < 128
    · have c0 := hb0.cell k hlt
      have c1 := hb1.cell k hlt
      have c2 := hb2.cell k hlt
      have i0 : (0 : Int) ≤ k := by omega
      have i1 : (k : Int) < 128 := by omega
      clear hs hkw hb0 hb1 hb2
      cases h0 : bt x k <;> cases h1 : bt m k <;> cases h2 : bt a k
      all_goals
        rw [h0] at c0
        rw [h1] at c1
        rw [h2] at c2
        have HS := Lib.hid (show mStep x m a k = _ by unfold mStep; rw [h0, h1, h2])
        clear h0 h1 h2
        go_wp2_with fail
        refine region_ext _ (Later.refl _) mixed (by kernel_rfl) ?_
        repeat (go_big_quiet_step (fail))
        refine wpQuiet_nil ?_
        rintro _ ⟨q, rfl⟩
        go_wp2_with fail
        first
          | (go_ret; exact Ret.of (congrArg Value.bool (by_step_no (mStep_iff x m a) hlt HS.out).symm) (by simp (maxDischargeDepth := 99) [HX.out.2.1]))
          | go_roundw
      all_goals first
        | exact ⟨k + 1, by omega, step_more HX.out.1 HS.out, by go_num, by simp (maxDischargeDepth := 99) [HX.out.2.1], Blk.ext HX.out.2.2.1 _, Blk.ext HX.out.2.2.2.1 _, Blk.ext HX.out.2.2.2.2 _⟩
        | (simp [intOf]; omega)
    · have hk128 : k = 128 := by omega
      subst hk128
      have H1 := Lib.hid ((mStep_iff x m a).2 fun i hi => hs i hi)
      clear hs hkw hb0 hb1 hb2 hlt hk
      go_wp2_with fail
      go_ret
      exact Ret.of (by rw [H1.out]; rfl) (by simp (maxDischargeDepth := 99) [HX.out.2.1])
theorem refwmatch_as {b : Bool} {x m a : B} (h : matchW x m a = b) (w : World) : Calls Try.prog 38 #[wv x m, av a] w (Ret (.bool b) w) := by rw [← h]; exact refwmatch_any x m a w
end Go.Proofs.Ytemfocnjlimicaa
namespace Go.Proofs.Ytemfocnjlimicaa
open Go.RowKit Pg

theorem quo_two (r : Nat) : ((r : Int) / 2) = ((r / 2 : Nat) : Int) := by omega
end Go.Proofs.Ytemfocnjlimicaa
namespace Go.Proofs.Ytemfocnjlimicaa
open Go.RowKit Pg

def dcount (d : B) (k : Nat) : Nat := (List.range k).countP (bt d)
def dlast (d : B) : Nat → Int
  | 0 => -1
  | k + 1 => if bt d k then (k : Int) else dlast d k
theorem dcount_le (d : B) (k : Nat) : dcount d k ≤ k := by unfold dcount; have := List.countP_le_length (p := bt d) (l := List.range k); simpa using this
theorem dcount_succ (d : B) (k : Nat) : dcount d (k + 1) = dcount d k + (bt d k).toNat := by
  unfold dcount
  rw [List.range_succ, List.countP_append]
  cases h : bt d k <;> simp [h]
theorem dlast_spec (d : B) : ∀ n, (dlast d n = -1 ∧ ∀ i, i < n → bt d i = false) ∨ ∃ k : Nat, k < n ∧ dlast d n = (k : Int) ∧ bt d k = true
  | 0 => .inl ⟨rfl, fun i h => by omega⟩
  | n + 1 => by
    unfold dlast
    cases h : bt d n
    · rw [if_neg (by simp)]
      rcases dlast_spec d n with ⟨h1, h2⟩ | ⟨k, h1, h2, h3⟩
      · left; refine ⟨h1, fun i hi => ?_⟩
        rcases Nat.lt_or_ge i n with h4 | h4
        · exact h2 i h4
        · rw [show i = n by omega]; exact h
      · right; exact ⟨k, by omega, h2, h3⟩
    · rw [if_pos rfl]
      exact .inr ⟨n, by omega, rfl, h⟩
theorem dlast_one (d : B) (h : ones d = 1) : ∃ k : Nat, k < 128 ∧ dlast d 128 = (k : Int) ∧ bt d k = true ∧ ∀ j, j < 128 → bt d j = true → j = k := by
  obtain ⟨k, hk, hb, hu⟩ := ones_one d h
  rcases dlast_spec d 128 with ⟨_, h2⟩ | ⟨j, h1, h2, h3⟩
  · rw [h2 k hk] at hb; cases hb
  · obtain rfl := hu j h1 h3
    exact ⟨j, h1, h2, h3, hu⟩
def mergeV (x m y n : B) : Value := if m = n ∧ ones (differB x y m) = 1 then .tuple #[wv (x &&& (m ^^^ differB x y m)) (m ^^^ differB x y m), .bool true] else .tuple #[wv 0#128 0#128, .bool false]
theorem bt_merge {x m y : B} {k : Nat} (hk : k < 128) (hd : bt (differB x y m) k = true) (hu : ∀ j, j < 128 → bt (differB x y m) j = true → j = k) (i : Nat) (hi : i < 128) :
    bt (m ^^^ differB x y m) i = upd (bt m) k false i := by
  by_cases he : i = k
  · subst he
    rw [upd_same, bt_xor, hd]
    rw [bt_differ, Bool.and_eq_true] at hd
    rw [hd.2]; rfl
  · rw [upd_other _ _ _ _ he, bt_xor]
    have : bt (differB x y m) i = false := by
      cases e : bt (differB x y m) i
      · rfl
      · exact absurd (hu i hi e) he
    rw [this]; simp
end Go.Proofs.Ytemfocnjlimicaa
