/- What each function of the reference of layer 4 hands back: the contracts over the program. -/
import Derived.Test.YtdlikcdmhgbolaaWord2
import Derived.Test.YtdlikcdmhgbolaaRef01
namespace Go.Proofs.Ytdlikcdmhgbolaa
open Go.RowKit Pg

def mStep (x m a : B) (k : Nat) : Bool := !(bt m k && (bt x k != bt a k))
def cStep (x m y n : B) (k : Nat) : Bool := !(bt m k && (!bt n k || (bt x k != bt y k)))
def eStep (x m y n : B) (k : Nat) : Bool := !(bt m k && (bt n k && (bt x k != bt y k)))
theorem mStep_iff (x m a : B) : matchW x m a = true ↔ ∀ k, k < 128 → mStep x m a k = true := by
  rw [matchW_iff]
  constructor
  · intro h k hk
    have := h k hk
    unfold mStep
    revert this; cases bt m k <;> cases bt x k <;> cases bt a k <;> simp
  · intro h k hk
    have := h k hk
    unfold mStep at this
    revert this; cases bt m k <;> cases bt x k <;> cases bt a k <;> simp
theorem cStep_iff (x m y n : B) : coversW x m y n = true ↔ ∀ k, k < 128 → cStep x m y n k = true := by
  rw [coversW_iff]
  constructor
  · intro h k hk
    have := h k hk
    unfold cStep
    revert this; cases bt m k <;> cases bt n k <;> cases bt x k <;> cases bt y k <;> simp
  · intro h k hk
    have := h k hk
    unfold cStep at this
    revert this; cases bt m k <;> cases bt n k <;> cases bt x k <;> cases bt y k <;> simp
theorem eStep_iff (x m y n : B) : meetW x m y n = true ↔ ∀ k, k < 128 → eStep x m y n k = true := by
  rw [meetW_iff]
  constructor
  · intro h k hk
    have := h k hk
    unfold eStep
    revert this; cases bt m k <;> cases bt n k <;> cases bt x k <;> cases bt y k <;> simp
  · intro h k hk
    have := h k hk
    unfold eStep at this
    revert this; cases bt m k <;> cases bt n k <;> cases bt x k <;> cases bt y k <;> simp
theorem by_step_no {b : Bool} {p : Nat → Bool} {k : Nat} (h : b = true ↔ ∀ i, i < 128 → p i = true) (hk : k < 128) (hp : p k = false) : b = false :=
  Bool.eq_false_iff.2 fun hc => by have := h.1 hc k hk; rw [hp] at this; cases this
theorem step_more {p : Nat → Bool} {k : Nat} (h : ∀ i, i < k → p i = true) (hp : p k = true) : ∀ i, i < k + 1 → p i = true := fun i hi => by
  rcases Nat.lt_or_ge i k with hik | hik
  · exact h i hik
  · rw [show i = k by omega]; exact hp
theorem law04of_any (x m : B) (w : World) : Calls Try.prog 35 #[wv x m] w (Ret (wv x m) w) := by
  go_enter Try.func35, Try.ntmps35
  go_wp2_with fail
  exact bodyPost_ret (v := wv x m) (by simp [results, Try.results35, go_sem, wv]) rfl (Ret.mk (by simp (maxDischargeDepth := 99)))
set_option maxHeartbeats 1000000 in
set_option maxRecDepth 100000 in
theorem refwmeet_any (x m y n : B) (w : World) : Calls Try.prog 50 #[wv x m, wv y n] w (Ret (.bool (meetW x m y n)) w) := by
  go_enter Try.func50, Try.ntmps50
  go_wp2_with fail
  refine (bits_any x _).mono ?_
  rintro e w1 ⟨g0, rfl, hg0, hb0, p0, rfl⟩
  have hl0 := hb0.lt
  have HB0 := Lib.hid hb0
  clear hb0
  go_wp2_with fail
  have hb0 := HB0.out
  clear HB0 hl0
  refine (calls_in_bits (bits_any m _)).mono ?_
  rintro e w1 ⟨g1, rfl, hg1, hb1, p1, rfl, hk1⟩
  replace hb0 := Blk.kept hb0 hk1
  clear hk1
  have hl0 := hb0.lt
  have HB0 := Lib.hid hb0
  clear hb0
  have hl1 := hb1.lt
  have HB1 := Lib.hid hb1
  clear hb1
  go_wp2_with fail
  have hb0 := HB0.out
  clear HB0 hl0
  have hb1 := HB1.out
  clear HB1 hl1
  refine (calls_in_bits (bits_any y _)).mono ?_
  rintro e w1 ⟨g2, rfl, hg2, hb2, p2, rfl, hk2⟩
  replace hb0 := Blk.kept hb0 hk2
  replace hb1 := Blk.kept hb1 hk2
  clear hk2
  have hl0 := hb0.lt
  have HB0 := Lib.hid hb0
  clear hb0
  have hl1 := hb1.lt
  have HB1 := Lib.hid hb1
  clear hb1
  have hl2 := hb2.lt
  have HB2 := Lib.hid hb2
  clear hb2
  go_wp2_with fail
  have hb0 := HB0.out
  clear HB0 hl0
  have hb1 := HB1.out
  clear HB1 hl1
  have hb2 := HB2.out
  clear HB2 hl2
  refine (calls_in_bits (bits_any n _)).mono ?_
  rintro e w1 ⟨g3, rfl, hg3, hb3, p3, rfl, hk3⟩
  replace hb0 := Blk.kept hb0 hk3
  replace hb1 := Blk.kept hb1 hk3
  replace hb2 := Blk.kept hb2 hk3
  clear hk3
  have hl0 := hb0.lt
  have HB0 := Lib.hid hb0
  clear hb0
  have hl1 := hb1.lt
  have HB1 := Lib.hid hb1
  clear hb1
  have hl2 := hb2.lt
  have HB2 := Lib.hid hb2
  clear hb2
  have hl3 := hb3.lt
  have HB3 := Lib.hid hb3
  clear hb3
  go_wp2_with fail
  go_loopw [9] (fun vk wr => ∃ k : Nat, k ≤ 128 ∧ (∀ i, i < k → eStep x m y n i = true) ∧ vk = .int .i64 k ∧ Kept w wr ∧ IsBits wr g0 4 (bt x) ∧ IsBits wr g1 4 (bt m) ∧ IsBits wr g2 4 (bt y) ∧ IsBits wr g3 4 (bt n)) (fun k _ => 128 - (intOf k).toNat)
  case atStart => exact ⟨0, by omega, fun i h => by omega, rfl, by simp (maxDischargeDepth := 99), HB0.out, HB1.out, HB2.out, HB3.out⟩
  case round =>
    clear HB0 hl0 hg0 HB1 hl1 hg1 HB2 hl2 hg2 HB3 hl3 hg3
    obtain ⟨k, hk, hs, rfl, hkw, hb0, hb1, hb2, hb3⟩ := hrel
    have HX := Lib.hid (And.intro hs (And.intro hkw (And.intro hb0 (And.intro hb1 (And.intro hb2 hb3)))))
    have l0 := hb0.lt
    have l1 := hb1.lt
    have l2 := hb2.lt
    have l3 := hb3.lt
    by_cases hlt : k < 128
    · have c0 := hb0.cell k hlt
      have c1 := hb1.cell k hlt
      have c2 := hb2.cell k hlt
      have c3 := hb3.cell k hlt
      have i0 : (0 : Int) ≤ k := by omega
      have i1 : (k : Int) < 128 := by omega
      clear hs hkw hb0 hb1 hb2 hb3
      cases h0 : bt x k <;> cases h1 : bt m k <;> cases h2 : bt y k <;> cases h3 : bt n k
      all_goals
        rw [h0] at c0
        rw [h1] at c1
        rw [h2] at c2
        rw [h3] at c3
        have HS := Lib.hid (show eStep x m y n k = _ by unfold eStep; rw [h0, h1, h2, h3])
        clear h0 h1 h2 h3
        go_wp2_with fail
        refine region_ext _ (Later.refl _) mixed (by kernel_rfl) ?_
        repeat (go_big_quiet_step (fail))
        refine wpQuiet_nil ?_
        rintro _ ⟨q, rfl⟩
        go_wp2_with fail
        first
          | (go_ret; exact Ret.of (congrArg Value.bool (by_step_no (eStep_iff x m y n) hlt HS.out).symm) (by simp (maxDischargeDepth := 99) [HX.out.2.1]))
          | go_roundw
      all_goals first
        | exact ⟨k + 1, by omega, step_more HX.out.1 HS.out, by go_num, by simp (maxDischargeDepth := 99) [HX.out.2.1], Blk.ext HX.out.2.2.1 _, Blk.ext HX.out.2.2.2.1 _, Blk.ext HX.out.2.2.2.2.1 _, Blk.ext HX.out.2.2.2.2.2 _⟩
        | (simp [intOf]; omega)
    · have hk128 : k = 128 := by omega
      subst hk128
      have H1 := Lib.hid ((eStep_iff x m y n).2 fun i hi => hs i hi)
      clear hs hkw hb0 hb1 hb2 hb3 hlt hk
      go_wp2_with fail
      go_ret
      exact Ret.of (by rw [H1.out]; rfl) (by simp (maxDischargeDepth := 99) [HX.out.2.1])
theorem refwmeet_as {b : Bool} {x m y n : B} (h : meetW x m y n = b) (w : World) : Calls Try.prog 50 #[wv x m, wv y n] w (Ret (.bool b) w) := by rw [← h]; exact refwmeet_any x m y n w
end Go.Proofs.Ytdlikcdmhgbolaa
