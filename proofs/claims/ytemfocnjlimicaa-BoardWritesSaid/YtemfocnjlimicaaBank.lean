/- Slots, writes: May, One, the reference's May, Right. -/
import Derived.Test.YtemfocnjlimicaaEnt
import Derived.Test.YtemfocnjlimicaaSlSlot
import Derived.Test.YtemfocnjlimicaaRef01c
namespace Pg
open Go
def zeroE (e : Ent) : Bool := decide (e.x = 0#128) && (decide (e.m = 0#128) && (decide (e.len = 0) && decide (e.act = 0)))
def zeroS (s : Slot) : Bool := !s.v && zeroE s.e
def mayW (w : Wr) (n : Int) : Bool := decide (0 ≤ w.at_) && (decide (w.at_ < n) && (zeroS w.s || (w.s.v && rightE w.s.e)))
end Pg
namespace Go.Proofs.Ytemfocnjlimicaa
open Go.RowKit Pg

set_option maxHeartbeats 1000000 in
set_option maxRecDepth 100000 in
theorem bmay_yes (x m : B) (len act at_ n : Int) (b : Bool) (w : World) (h0 : 0 ≤ at_) (hn : at_ < n) (h : rightE ⟨x, m, len, act⟩ = b) : Calls Try.prog 42 #[wrv ⟨at_, true, x, m, len, act⟩, .int .i64 n] w (Ret (.bool b) w) := by
  have HR := Lib.hid (fun w => eright_as h w)
  clear h
  go_enter Try.func42, Try.ntmps42
  cases b
  · go_wp2_with (first | (go_at_call 51; first | ((refine (calls_in (HR.out _)).mono ?_); rintro e w1 ⟨rfl, q1, rfl⟩) | ((refine (HR.out _).mono ?_); rintro e w1 ⟨rfl, q1, rfl⟩)))
    go_ret
    exact Ret.of (rfl) (by simp (maxDischargeDepth := 99))
  · go_wp2_with (first | (go_at_call 51; first | ((refine (calls_in (HR.out _)).mono ?_); rintro e w1 ⟨rfl, q1, rfl⟩) | ((refine (HR.out _).mono ?_); rintro e w1 ⟨rfl, q1, rfl⟩)))
    go_ret
    exact Ret.of (rfl) (by simp (maxDischargeDepth := 99))
set_option maxHeartbeats 1000000 in
set_option maxRecDepth 100000 in
theorem bmay_no (x m : B) (len act at_ n : Int) (w : World) (h0 : 0 ≤ at_) (hn : at_ < n) : Calls Try.prog 42 #[wrv ⟨at_, false, x, m, len, act⟩, .int .i64 n] w (Ret (.bool (zeroE ⟨x, m, len, act⟩)) w) := by
  by_cases hx : x = 0#128
  rotate_left
  · have HV := Lib.hid (show zeroE ⟨x, m, len, act⟩ = false by simp [zeroE, hx])
    go_enter Try.func42, Try.ntmps42
    go_wp2_with fail
    go_ret
    exact Ret.of (by rw [HV.out]; rfl) (by simp (maxDischargeDepth := 99))
  subst hx
  by_cases hm : m = 0#128
  rotate_left
  · have HV := Lib.hid (show zeroE ⟨0#128, m, len, act⟩ = false by simp [zeroE, hm])
    go_enter Try.func42, Try.ntmps42
    go_wp2_with fail
    go_ret
    exact Ret.of (by rw [HV.out]; rfl) (by simp (maxDischargeDepth := 99))
  subst hm
  by_cases hlen : len = 0
  rotate_left
  · have HV := Lib.hid (show zeroE ⟨0#128, 0#128, len, act⟩ = false by simp [zeroE, hlen])
    go_enter Try.func42, Try.ntmps42
    go_wp2_with fail
    go_ret
    exact Ret.of (by rw [HV.out]; rfl) (by simp (maxDischargeDepth := 99))
  subst hlen
  by_cases hact : act = 0
  rotate_left
  · have HV := Lib.hid (show zeroE ⟨0#128, 0#128, 0, act⟩ = false by simp [zeroE, hact])
    go_enter Try.func42, Try.ntmps42
    go_wp2_with fail
    go_ret
    exact Ret.of (by rw [HV.out]; rfl) (by simp (maxDischargeDepth := 99))
  subst hact
  have HV := Lib.hid (show zeroE ⟨0#128, 0#128, 0, 0⟩ = true by simp [zeroE])
  go_enter Try.func42, Try.ntmps42
  go_wp2_with fail
  go_ret
  exact Ret.of (by rw [HV.out]; rfl) (by simp (maxDischargeDepth := 99))
set_option maxHeartbeats 1000000 in
set_option maxRecDepth 100000 in
theorem bmay_at (wr : Wr) (n : Int) (w : World) (h : wr.at_ < 0 ∨ n ≤ wr.at_) : Calls Try.prog 42 #[wrv wr, .int .i64 n] w (Ret (.bool false) w) := by
  by_cases h0 : wr.at_ < 0
  · have h1 : ¬ 0 ≤ wr.at_ := by omega
    clear h
    go_enter Try.func42, Try.ntmps42
    go_wp2_with fail
    go_ret
    exact Ret.of (rfl) (by simp (maxDischargeDepth := 99))
  · have h1 : 0 ≤ wr.at_ := by omega
    have h2 : ¬ wr.at_ < n := by omega
    clear h h0
    go_enter Try.func42, Try.ntmps42
    go_wp2_with fail
    go_ret
    exact Ret.of (rfl) (by simp (maxDischargeDepth := 99))
set_option maxHeartbeats 1000000 in
set_option maxRecDepth 100000 in
theorem law08one_any (s : Slot) (w : World) : Calls Try.prog 47 #[slv s] w (Ret (slv s) w) := by
  go_enter Try.func47, Try.ntmps47
  go_wp2_with fail
  refine region_ext_tail _ (by first | exact Later.ext _ _ | exact Later.refl _) 6 mixed (by kernel_rfl) ?_
  simp only [List.take_succ_cons, List.take_zero, List.drop_succ_cons, List.drop_zero]
  repeat (go_big_quiet_step ((first | (go_at_call 55; exact calls_in (law05one_any _ _)))))
  refine wpQuiet_nil ?_
  rintro _ ⟨q, rfl⟩
  go_wp2_with fail
  exact bodyPost_ret (v := slv s) (by simp [results, Try.results47, go_sem, slv]) rfl (Ret.mk (by simp (maxDischargeDepth := 99)))
theorem bmay_any (wr : Wr) (n : Int) (w : World) : Calls Try.prog 42 #[wrv wr, .int .i64 n] w (Ret (.bool (mayW wr n)) w) := by
  by_cases h : wr.at_ < 0 ∨ n ≤ wr.at_
  · have hm : mayW wr n = false := by
      unfold mayW
      rcases h with h | h
      · rw [decide_eq_false (show ¬ 0 ≤ wr.at_ by omega)]; rfl
      · rw [decide_eq_false (show ¬ wr.at_ < n by omega)]; simp
    rw [hm]; exact bmay_at wr n w h
  · have h0 : 0 ≤ wr.at_ := by omega
    have hn : wr.at_ < n := by omega
    have hm : mayW wr n = (zeroS wr.s || (wr.s.v && rightE wr.s.e)) := by unfold mayW; rw [decide_eq_true h0, decide_eq_true hn]; simp
    obtain ⟨at_, v, x, m, len, act⟩ := wr
    rw [hm]
    cases v
    · have := bmay_no x m len act at_ n w h0 hn
      simpa [zeroS] using this
    · have := bmay_yes x m len act at_ n _ w h0 hn rfl
      simpa [zeroS] using this
theorem bmay_as {b : Bool} {wr : Wr} {n : Int} (h : mayW wr n = b) (w : World) : Calls Try.prog 42 #[wrv wr, .int .i64 n] w (Ret (.bool b) w) := by rw [← h]; exact bmay_any wr n w
set_option maxHeartbeats 1000000 in
set_option maxRecDepth 100000 in
theorem refright8_any (e : Ent) (w : World) : Calls Try.prog 50 #[ev e] w (Ret (.bool (rightE e)) w) := by
  cases h1 : decide (e.x &&& e.m = e.x)
  · have h1' : decide (e.x = e.x &&& e.m) = false := by rw [← h1]; exact decide_eq_decide.2 eq_comm
    have HV := Lib.hid (show rightE e = false by unfold rightE; rw [h1']; rfl)
    clear h1'
    go_enter Try.func50, Try.ntmps50
    go_wp2_with fail
    refine region_ext _ (by first | exact Later.ext _ _ | exact Later.refl _) mixed (by kernel_rfl) ?_
    repeat (go_big_quiet_step ((first | (go_at_call 58; exact calls_in (refop0_any _ _ _)))))
    refine wpQuiet_nil ?_
    rintro _ ⟨q, rfl⟩
    go_wp2_with fail
    go_ret
    exact Ret.of (by rw [HV.out]; rfl) (by simp (maxDischargeDepth := 99))
  have h1' : decide (e.x = e.x &&& e.m) = true := by rw [← h1]; exact decide_eq_decide.2 eq_comm
  cases h2 : decide (0 ≤ e.len)
  · have HV := Lib.hid (show rightE e = false by unfold rightE; rw [h1', h2]; rfl)
    clear h1'
    go_enter Try.func50, Try.ntmps50
    go_wp2_with fail
    refine region_ext _ (by first | exact Later.ext _ _ | exact Later.refl _) mixed (by kernel_rfl) ?_
    repeat (go_big_quiet_step ((first | (go_at_call 58; exact calls_in (refop0_any _ _ _)))))
    refine wpQuiet_nil ?_
    rintro _ ⟨q, rfl⟩
    go_wp2_with fail
    go_ret
    exact Ret.of (by rw [HV.out]; rfl) (by simp (maxDischargeDepth := 99))
  cases h3 : decide (e.len ≤ 128)
  · have HV := Lib.hid (show rightE e = false by unfold rightE; rw [h1', h2, h3]; rfl)
    clear h1'
    go_enter Try.func50, Try.ntmps50
    go_wp2_with fail
    refine region_ext _ (by first | exact Later.ext _ _ | exact Later.refl _) mixed (by kernel_rfl) ?_
    repeat (go_big_quiet_step ((first | (go_at_call 58; exact calls_in (refop0_any _ _ _)))))
    refine wpQuiet_nil ?_
    rintro _ ⟨q, rfl⟩
    go_wp2_with fail
    go_ret
    exact Ret.of (by rw [HV.out]; rfl) (by simp (maxDischargeDepth := 99))
  cases h4 : decide (1 ≤ e.act)
  · have HV := Lib.hid (show rightE e = false by unfold rightE; rw [h1', h2, h3, h4]; rfl)
    clear h1'
    go_enter Try.func50, Try.ntmps50
    go_wp2_with fail
    refine region_ext _ (by first | exact Later.ext _ _ | exact Later.refl _) mixed (by kernel_rfl) ?_
    repeat (go_big_quiet_step ((first | (go_at_call 58; exact calls_in (refop0_any _ _ _)))))
    refine wpQuiet_nil ?_
    rintro _ ⟨q, rfl⟩
    go_wp2_with fail
    go_ret
    exact Ret.of (by rw [HV.out]; rfl) (by simp (maxDischargeDepth := 99))
  have HV := Lib.hid (show rightE e = decide (e.act ≤ 255) by unfold rightE; rw [h1', h2, h3, h4]; rfl)
  clear h1'
  go_enter Try.func50, Try.ntmps50
  go_wp2_with fail
  refine region_ext _ (by first | exact Later.ext _ _ | exact Later.refl _) mixed (by kernel_rfl) ?_
  repeat (go_big_quiet_step ((first | (go_at_call 58; exact calls_in (refop0_any _ _ _)))))
  refine wpQuiet_nil ?_
  rintro _ ⟨q, rfl⟩
  go_wp2_with fail
  go_ret
  exact Ret.of (by rw [HV.out]; rfl) (by simp (maxDischargeDepth := 99))
theorem refright8_as {b : Bool} {e : Ent} (h : rightE e = b) (w : World) : Calls Try.prog 50 #[ev e] w (Ret (.bool b) w) := by rw [← h]; exact refright8_any e w
end Go.Proofs.Ytemfocnjlimicaa
