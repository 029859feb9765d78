/- Entries: their contracts, one at a time. -/
import Derived.Test.YtemfocnjlimicaaMathW2
import Derived.Test.YtemfocnjlimicaaWord2
import Derived.Test.YtemfocnjlimicaaRef04c
import Derived.Test.YtemfocnjlimicaaInfo
namespace Pg
open Go
/-- May an entry be? -/
def rightE (e : Ent) : Bool := decide (e.x = e.x &&& e.m) && (decide (0 ≤ e.len) && (decide (e.len ≤ 128) && (decide (1 ≤ e.act) && decide (e.act ≤ 255))))
def ofE (X : B) (N act : Int) : Ent := ⟨X &&& maskB (near N), maskB (near N), near N, act⟩
def aboveE (x y : Ent) : Bool := decide (y.len < x.len) && meetW x.x x.m y.x y.m
end Pg
namespace Go.Proofs.Ytemfocnjlimicaa
open Go.RowKit Pg

theorem wright_is {b : Bool} {x m : B} (h : decide (x = x &&& m) = b) (w : World) : Calls Try.prog 59 #[wv x m] w (Ret (.bool b) w) := by rw [← h]; exact wright_any x m w
@[go_sem] theorem field_prefix1 (x : B) (n : Int) (w : World) : (Instr.field 74 (pv x n) 1).run Try.prog w = .ok (.int .i64 n) w := by kernel_rfl
theorem eof_any (X : B) (N act : Int) (w : World) : Calls Try.prog 31 #[pv X N, .int .i64 act] w (Ret (ev (ofE X N act)) w) := by
  go_enter Try.func31, Try.ntmps31
  go_wp2_with fail
  refine region_ext_tail _ (by first | exact Later.ext _ _ | exact Later.refl _) 10 mixed (by kernel_rfl) ?_
  simp only [List.take_succ_cons, List.take_zero, List.drop_succ_cons, List.drop_zero]
  repeat (go_big_quiet_step ((first | (go_at_call 48; exact calls_in (wof_any _ _ _)) | (go_at_call 49; exact calls_in (make_any _ _ _)))))
  refine wpQuiet_nil ?_
  rintro _ ⟨q, rfl⟩
  go_wp2_with fail
  exact bodyPost_ret (v := ev (ofE X N act)) (by simp [results, Try.results31, go_sem, ofE]) rfl (Ret.mk (by simp (maxDischargeDepth := 99)))
theorem eright_any (e : Ent) (w : World) : Calls Try.prog 51 #[ev e] w (Ret (.bool (rightE e)) w) := by
  cases h1 : decide (e.x = e.x &&& e.m)
  · have H1 := Lib.hid h1
    have HV := Lib.hid (show rightE e = false by unfold rightE; rw [h1]; rfl)
    clear h1
    go_enter Try.func51, Try.ntmps51
    go_wp2_with (first | (go_at_call 59; first | ((refine (calls_in (wright_is H1.out _)).mono ?_); rintro e w1 ⟨rfl, q1, rfl⟩) | ((refine (wright_is H1.out _).mono ?_); rintro e w1 ⟨rfl, q1, rfl⟩)))
    go_ret
    exact Ret.of (by rw [HV.out]; rfl) (by simp (maxDischargeDepth := 99))
  have H1 := Lib.hid h1
  by_cases h2 : 0 ≤ e.len
  rotate_left
  · have HV := Lib.hid (show rightE e = false by unfold rightE; rw [h1, decide_eq_false h2]; rfl)
    clear h1
    go_enter Try.func51, Try.ntmps51
    go_wp2_with (first | (go_at_call 59; first | ((refine (calls_in (wright_is H1.out _)).mono ?_); rintro e w1 ⟨rfl, q1, rfl⟩) | ((refine (wright_is H1.out _).mono ?_); rintro e w1 ⟨rfl, q1, rfl⟩)))
    go_ret
    exact Ret.of (by rw [HV.out]; rfl) (by simp (maxDischargeDepth := 99))
  by_cases h3 : e.len ≤ 128
  rotate_left
  · have HV := Lib.hid (show rightE e = false by unfold rightE; rw [h1, decide_eq_true h2, decide_eq_false h3]; rfl)
    clear h1
    go_enter Try.func51, Try.ntmps51
    go_wp2_with (first | (go_at_call 59; first | ((refine (calls_in (wright_is H1.out _)).mono ?_); rintro e w1 ⟨rfl, q1, rfl⟩) | ((refine (wright_is H1.out _).mono ?_); rintro e w1 ⟨rfl, q1, rfl⟩)))
    go_ret
    exact Ret.of (by rw [HV.out]; rfl) (by simp (maxDischargeDepth := 99))
  by_cases h4 : 1 ≤ e.act
  rotate_left
  · have HV := Lib.hid (show rightE e = false by unfold rightE; rw [h1, decide_eq_true h2, decide_eq_true h3, decide_eq_false h4]; rfl)
    clear h1
    go_enter Try.func51, Try.ntmps51
    go_wp2_with (first | (go_at_call 59; first | ((refine (calls_in (wright_is H1.out _)).mono ?_); rintro e w1 ⟨rfl, q1, rfl⟩) | ((refine (wright_is H1.out _).mono ?_); rintro e w1 ⟨rfl, q1, rfl⟩)))
    go_ret
    exact Ret.of (by rw [HV.out]; rfl) (by simp (maxDischargeDepth := 99))
  have HV := Lib.hid (show rightE e = decide (e.act ≤ 255) by unfold rightE; rw [h1, decide_eq_true h2, decide_eq_true h3, decide_eq_true h4]; rfl)
  clear h1
  go_enter Try.func51, Try.ntmps51
  go_wp2_with (first | (go_at_call 59; first | ((refine (calls_in (wright_is H1.out _)).mono ?_); rintro e w1 ⟨rfl, q1, rfl⟩) | ((refine (wright_is H1.out _).mono ?_); rintro e w1 ⟨rfl, q1, rfl⟩)))
  go_ret
  exact Ret.of (by rw [HV.out]; rfl) (by simp (maxDischargeDepth := 99))
theorem eright_as {b : Bool} {e : Ent} (h : rightE e = b) (w : World) : Calls Try.prog 51 #[ev e] w (Ret (.bool b) w) := by rw [← h]; exact eright_any e w
theorem law05one_any (e : Ent) (w : World) : Calls Try.prog 55 #[ev e] w (Ret (ev e) w) := by
  go_enter Try.func55, Try.ntmps55
  go_wp2_with fail
  refine region_ext_tail _ (by first | exact Later.ext _ _ | exact Later.refl _) 8 mixed (by kernel_rfl) ?_
  simp only [List.take_succ_cons, List.take_zero, List.drop_succ_cons, List.drop_zero]
  repeat (go_big_quiet_step ((first | (go_at_call 61; exact calls_in (law04of_any _ _ _)))))
  refine wpQuiet_nil ?_
  rintro _ ⟨q, rfl⟩
  go_wp2_with fail
  exact bodyPost_ret (v := ev e) (by simp [results, Try.results55, go_sem, ev]) rfl (Ret.mk (by simp (maxDischargeDepth := 99)))
end Go.Proofs.Ytemfocnjlimicaa
