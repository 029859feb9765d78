/- What each function of package prefix hands back: the contracts over the program. -/
import Derived.Test.YtjkhdjonlppdoaaAddr
import Derived.Test.YtjkhdjonlppdoaaMathP
namespace Go.Proofs.Ytjkhdjonlppdoaa
open Go.RowKit Pg

/-- A prefix as a value. -/
abbrev pv (x : B) (n : Int) : Value := .agg #[.int .u64 (hi x), .int .u64 (lo x), .int .i64 n]
theorem near_min (n : Int) : near (min (max n 0) 128) = near n := by unfold near; omega
theorem near_val (n : Int) : min (max n 0) 128 = (near n : Int) := by unfold near; omega

theorem cmpint_any (n m : Int) (w : World) : Calls Try.prog 60 #[.int .i64 n, .int .i64 m] w (Ret (.int .i64 (cmpI n m)) w) := by
  by_cases h1 : n < m
  · have e := Lib.hid (show cmpI n m = -1 by unfold cmpI; rw [if_pos h1])
    go_enter Try.func60, Try.ntmps60
    go_wp2
    go_ret
    exact Ret.of (by rw [e.out]; rfl) (by simp (maxDischargeDepth := 99))
  by_cases h2 : m < n
  · have e := Lib.hid (show cmpI n m = 1 by unfold cmpI; rw [if_neg h1, if_pos h2])
    go_enter Try.func60, Try.ntmps60
    go_wp2
    go_ret
    exact Ret.of (by rw [e.out]; rfl) (by simp (maxDischargeDepth := 99))
  · have e := Lib.hid (show cmpI n m = 0 by unfold cmpI; rw [if_neg h1, if_neg h2])
    go_enter Try.func60, Try.ntmps60
    go_wp2
    go_ret
    exact Ret.of (by rw [e.out]; rfl) (by simp (maxDischargeDepth := 99))
theorem match_any (x : B) (n : Int) (y : B) (w : World) : Calls Try.prog 34 #[pv x n, av y] w (Ret (.bool (matchB x n y)) w) := by
  have e := Lib.hid (near_val n)
  go_enter Try.func34, Try.ntmps34
  go_wp2_with fail
  refine region_ext _ (by first | exact Later.ext _ _ | exact Later.refl _) mixed (by kernel_rfl) ?_
  repeat (go_big_quiet_step ((first | (go_at_call 53; exact calls_in (common_any _ _ _)))))
  refine wpQuiet_nil ?_
  rintro _ ⟨q, rfl⟩
  go_wp2_with fail
  go_ret
  exact Ret.of (by show Value.bool (decide (min (max n 0) 128 ≤ (common x y : Int))) = Value.bool (matchB x n y); rw [e.out]; unfold matchB; congr 1; exact decide_eq_decide.2 (by omega)) (by simp (maxDischargeDepth := 99))
theorem covers_any (x : B) (n : Int) (y : B) (m : Int) (w : World) : Calls Try.prog 44 #[pv x n, pv y m] w (Ret (.bool (coversB x n y m)) w) := by
  by_cases h : n ≤ m
  · have e := Lib.hid (show coversB x n y m = matchB x n y by unfold coversB; rw [decide_eq_true h]; rfl)
    go_enter Try.func44, Try.ntmps44
    go_wp2_with (first | (go_at_call 34; first | (refine (calls_in (match_any _ _ _ _)).mono ?_; rintro e w1 ⟨rfl, q1, rfl⟩) | (refine (match_any _ _ _ _).mono ?_; rintro e w1 ⟨rfl, q1, rfl⟩)))
    go_ret
    exact Ret.of (by rw [e.out]; rfl) (by simp (maxDischargeDepth := 99))
  · have e := Lib.hid (show coversB x n y m = false by unfold coversB; rw [decide_eq_false h]; rfl)
    go_enter Try.func44, Try.ntmps44
    go_wp2_with (first | (go_at_call 34; first | (refine (calls_in (match_any _ _ _ _)).mono ?_; rintro e w1 ⟨rfl, q1, rfl⟩) | (refine (match_any _ _ _ _).mono ?_; rintro e w1 ⟨rfl, q1, rfl⟩)))
    go_ret
    exact Ret.of (by rw [e.out]; rfl) (by simp (maxDischargeDepth := 99))
theorem make_any (x : B) (n : Int) (w : World) : Calls Try.prog 39 #[av x, .int .i64 n] w (Ret (pv (x &&& maskB (near n)) (near n)) w) := by
  have e1 := Lib.hid (near_nat (near n) (near_le n))
  have e2 := Lib.hid (near_val n)
  go_enter Try.func39, Try.ntmps39
  go_wp2_with (first | (go_at_call 57; refine (cut_any _ _ _).mono ?_; rintro e w1 ⟨rfl, q1, rfl⟩))
  refine bodyPost_ret (v := pv (x &&& maskB (near n)) (near n)) ?_ rfl (Ret.mk (by simp (maxDischargeDepth := 99)))
  simp [results, Try.results39, go_sem, pv, e1.out, e2.out]
theorem family_any (k : Int) (w : World) : Calls Try.prog 42 #[.int .i64 k] w (Ret (.bool (famB k)) w) := by
  by_cases h1 : k = 32
  · subst h1
    go_enter Try.func42, Try.ntmps42
    go_wp2
    go_ret
    exact Ret.of (rfl) (by simp (maxDischargeDepth := 99))
  · have e := Lib.hid (show famB k = (k == 128) by unfold famB; rw [decide_eq_false h1]; rfl)
    have h2 : (k == 32) = false := by rw [beq_eq_false_iff_ne]; exact h1
    go_enter Try.func42, Try.ntmps42
    go_wp2
    go_ret
    exact Ret.of (by rw [e.out]; rfl) (by simp (maxDischargeDepth := 99))
theorem family_as {b : Bool} {k : Int} (h : famB k = b) (w : World) : Calls Try.prog 42 #[.int .i64 k] w (Ret (.bool b) w) := by rw [← h]; exact family_any k w
theorem under_prefix : Try.prog.underlying 27 = some (.struct (Try.prog.fieldsOf 27)) := by kernel_rfl
theorem stood_prefix : Try.prog.stoodInHeld 27 = false := by kernel_rfl
@[go_sem] theorem eq_prefix (d : Nat) (x y : B) (n m : Int) (w : World) : (Op.equalIn (d + 3) 27 (pv x n) (pv y m)).run Try.prog w = .ok (decide (x = y) && decide (n = m)) w := by
  rw [run_equalIn_struct w (d + 2) _ _ _ under_prefix stood_prefix]
  simp [go_sem]
  by_cases h1 : x = y <;> by_cases h2 : n = m <;> simp [h1, h2]
theorem right_any (k : Int) (x : B) (n : Int) (w : World) : Calls Try.prog 35 #[.int .i64 k, pv x n] w (Ret (.bool (rightB k x n)) w) := by
  cases h : famB k
  · have e := Lib.hid (show rightB k x n = false by unfold rightB; rw [h]; rfl)
    go_enter Try.func35, Try.ntmps35
    go_wp2_with fail
    refine region_ext _ (by first | exact Later.ext _ _ | exact Later.refl _) mixed (by kernel_rfl) ?_
    repeat (go_big_quiet_step ((first | (go_at_call 42; exact calls_in (family_as h _)) | (go_at_call 39; exact calls_in (make_any _ _ _)))))
    refine wpQuiet_nil ?_
    rintro _ ⟨q, rfl⟩
    go_wp2_with fail
    go_ret
    exact Ret.of (by rw [e.out]; rfl) (by simp (maxDischargeDepth := 99))
  by_cases h0 : 0 ≤ n
  · by_cases h1 : n ≤ k
    · have hk := fam_le h
      have hn : (near n : Int) = n := near_of h0 (by omega)
      have e := Lib.hid (show rightB k x n = decide (x &&& maskB (near n) = x) by unfold rightB; rw [h, decide_eq_true h0, decide_eq_true h1]; rfl)
      by_cases hx : x &&& maskB (near n) = x
      · have e2 := Lib.hid (show rightB k x n = true by rw [e.out]; exact decide_eq_true hx)
        clear hk
        go_enter Try.func35, Try.ntmps35
        go_wp2_with fail
        refine region_ext _ (by first | exact Later.ext _ _ | exact Later.refl _) mixed (by kernel_rfl) ?_
        repeat (go_big_quiet_step ((first | (go_at_call 42; exact calls_in (family_as h _)) | (go_at_call 39; exact calls_in (make_any _ _ _)))))
        refine wpQuiet_nil ?_
        rintro _ ⟨q, rfl⟩
        go_wp2_with fail
        go_ret
        exact Ret.of (by rw [e2.out]; rfl) (by simp (maxDischargeDepth := 99))
      · have e2 := Lib.hid (show rightB k x n = false by rw [e.out]; exact decide_eq_false hx)
        have hx2 : ¬ x = x &&& maskB (near n) := fun hh => hx hh.symm
        clear hk
        go_enter Try.func35, Try.ntmps35
        go_wp2_with fail
        refine region_ext _ (by first | exact Later.ext _ _ | exact Later.refl _) mixed (by kernel_rfl) ?_
        repeat (go_big_quiet_step ((first | (go_at_call 42; exact calls_in (family_as h _)) | (go_at_call 39; exact calls_in (make_any _ _ _)))))
        refine wpQuiet_nil ?_
        rintro _ ⟨q, rfl⟩
        go_wp2_with fail
        go_ret
        exact Ret.of (by rw [e2.out]; rfl) (by simp (maxDischargeDepth := 99))
    · have e := Lib.hid (show rightB k x n = false by unfold rightB; rw [decide_eq_false h1]; simp)
      have hd : decide (n ≤ k) = false := decide_eq_false h1
      go_enter Try.func35, Try.ntmps35
      go_wp2_with fail
      refine region_ext _ (by first | exact Later.ext _ _ | exact Later.refl _) mixed (by kernel_rfl) ?_
      repeat (go_big_quiet_step ((first | (go_at_call 42; exact calls_in (family_as h _)) | (go_at_call 39; exact calls_in (make_any _ _ _)))))
      refine wpQuiet_nil ?_
      rintro _ ⟨q, rfl⟩
      go_wp2_with fail
      go_ret
      exact Ret.of (by rw [e.out]; rfl) (by simp (maxDischargeDepth := 99))
  · have e := Lib.hid (show rightB k x n = false by unfold rightB; rw [decide_eq_false h0]; simp)
    have hd : decide (0 ≤ n) = false := decide_eq_false h0
    go_enter Try.func35, Try.ntmps35
    go_wp2_with fail
    refine region_ext _ (by first | exact Later.ext _ _ | exact Later.refl _) mixed (by kernel_rfl) ?_
    repeat (go_big_quiet_step ((first | (go_at_call 42; exact calls_in (family_as h _)) | (go_at_call 39; exact calls_in (make_any _ _ _)))))
    refine wpQuiet_nil ?_
    rintro _ ⟨q, rfl⟩
    go_wp2_with fail
    go_ret
    exact Ret.of (by rw [e.out]; rfl) (by simp (maxDischargeDepth := 99))
theorem right_as {b : Bool} {k : Int} {x : B} {n : Int} (h : rightB k x n = b) (w : World) : Calls Try.prog 35 #[.int .i64 k, pv x n] w (Ret (.bool b) w) := by rw [← h]; exact right_any k x n w
theorem match_as {b : Bool} {x : B} {n : Int} {y : B} (h : matchB x n y = b) (w : World) : Calls Try.prog 34 #[pv x n, av y] w (Ret (.bool b) w) := by rw [← h]; exact match_any x n y w
theorem covers_as {b : Bool} {x : B} {n : Int} {y : B} {m : Int} (h : coversB x n y m = b) (w : World) : Calls Try.prog 44 #[pv x n, pv y m] w (Ret (.bool b) w) := by rw [← h]; exact covers_any x n y m w
theorem cmpp_any (x : B) (n : Int) (y : B) (m : Int) (w : World) : Calls Try.prog 41 #[pv x n, pv y m] w (Ret (.int .i64 (cmpP x n y m)) w) := by
  by_cases h : cmpB x y = 0
  · have e := Lib.hid (show cmpP x n y m = cmpI n m by unfold cmpP; rw [if_pos h])
    have ht : (cmpB x y != 0) = false := by rw [h]; rfl
    clear h
    go_enter Try.func41, Try.ntmps41
    go_wp2_with (first | (go_at_call 59; first | (refine (calls_in (cmp_any _ _ _)).mono ?_; rintro e w1 ⟨rfl, q1, rfl⟩) | (refine (cmp_any _ _ _).mono ?_; rintro e w1 ⟨rfl, q1, rfl⟩)) | (go_at_call 60; first | (refine (calls_in (cmpint_any _ _ _)).mono ?_; rintro e w1 ⟨rfl, q1, rfl⟩) | (refine (cmpint_any _ _ _).mono ?_; rintro e w1 ⟨rfl, q1, rfl⟩)))
    go_ret
    exact Ret.of (by rw [e.out]; rfl) (by simp (maxDischargeDepth := 99))
  · have e := Lib.hid (show cmpP x n y m = cmpB x y by unfold cmpP; rw [if_neg h])
    have ht : (cmpB x y != 0) = true := by rw [bne_iff_ne]; exact h
    clear h
    go_enter Try.func41, Try.ntmps41
    go_wp2_with (first | (go_at_call 59; first | (refine (calls_in (cmp_any _ _ _)).mono ?_; rintro e w1 ⟨rfl, q1, rfl⟩) | (refine (cmp_any _ _ _).mono ?_; rintro e w1 ⟨rfl, q1, rfl⟩)) | (go_at_call 60; first | (refine (calls_in (cmpint_any _ _ _)).mono ?_; rintro e w1 ⟨rfl, q1, rfl⟩) | (refine (cmpint_any _ _ _).mono ?_; rintro e w1 ⟨rfl, q1, rfl⟩)))
    go_ret
    exact Ret.of (by rw [e.out]; rfl) (by simp (maxDischargeDepth := 99))
end Go.Proofs.Ytjkhdjonlppdoaa
