/- What each function of package addr hands back: the contracts over the program. -/
import Derived.Test.YtlmadimnoknheaaProg
import Derived.Test.YtlmadimnoknheaaKit0
import Derived.Test.YtlmadimnoknheaaPop
import Derived.Lib.Strings
import Derived.Lib.Slices
import Derived.Lib.Small
import Derived.Lib.Walk
namespace Go.Proofs.Ytlmadimnoknheaa
open Go.RowKit Pg

theorem mixed : Try.prog.follows .mixedOrders = true := by kernel_rfl
/-- An address as a value. -/
abbrev av (x : B) : Value := .agg #[.int .u64 (hi x), .int .u64 (lo x)]

theorem and_any (x y : B) (w : World) : Calls Try.prog 38 #[av x, av y] w (Ret (av (x &&& y)) w) := by
  go_enter Try.func38, Try.ntmps38
  go_wp2
  exact bodyPost_ret (v := av (x &&& y)) (by simp [results, Try.results38, go_sem, and_hi, and_lo]) rfl (Ret.mk (by simp (maxDischargeDepth := 99)))
theorem or_any (x y : B) (w : World) : Calls Try.prog 46 #[av x, av y] w (Ret (av (x ||| y)) w) := by
  go_enter Try.func46, Try.ntmps46
  go_wp2
  exact bodyPost_ret (v := av (x ||| y)) (by simp [results, Try.results46, go_sem, or_hi, or_lo]) rfl (Ret.mk (by simp (maxDischargeDepth := 99)))
theorem xor_any (x y : B) (w : World) : Calls Try.prog 50 #[av x, av y] w (Ret (av (x ^^^ y)) w) := by
  go_enter Try.func50, Try.ntmps50
  go_wp2
  exact bodyPost_ret (v := av (x ^^^ y)) (by simp [results, Try.results50, go_sem, xor_hi, xor_lo]) rfl (Ret.mk (by simp (maxDischargeDepth := 99)))
theorem not_any (x : B) (w : World) : Calls Try.prog 51 #[av x] w (Ret (av (~~~ x)) w) := by
  go_enter Try.func51, Try.ntmps51
  go_wp2
  exact bodyPost_ret (v := av (~~~ x)) (by simp [results, Try.results51, go_sem, not_hi, not_lo]) rfl (Ret.mk (by simp (maxDischargeDepth := 99)))
theorem pow_wrap (n : Nat) (h : n < 64) : IntKind.u64.wrap (2 ^ n) = 2 ^ n := by
  rw [IntKind.wrap_u64]
  have h2 : 2 ^ n < 2 ^ 64 := Nat.pow_lt_pow_right (by omega) h
  have e : ((2 ^ n : Nat) : Int) = 2 ^ n := by simp
  rw [← e]
  generalize 2 ^ n = z at h2
  omega
theorem bit_any (k : Nat) (hk : k < 128) (w : World) : Calls Try.prog 39 #[.int .i64 k] w (Ret (av (bitB k)) w) := by
  by_cases h : k < 64
  · have e : ((k : Int) / 64).toNat = 0 := by omega
    obtain ⟨e1, e2⟩ := hi_bitB_lo k h
    have H1 := Lib.hid e1; clear e1
    have H2 := Lib.hid e2; clear e2
    go_enter Try.func39, Try.ntmps39
    go_wp2
    refine bodyPost_ret (v := av (bitB k)) ?_ rfl (Ret.mk (by simp (maxDischargeDepth := 99)))
    simp [results, Try.results39, go_sem, av, H1.out, H2.out]
    rw [show 63 - k % 64 = 63 - k by omega]
    exact pow_wrap _ (by omega)
  · have e : ((k : Int) / 64).toNat = 1 := by omega
    obtain ⟨e1, e2⟩ := hi_bitB_hi k (by omega) hk
    have H1 := Lib.hid e1; clear e1
    have H2 := Lib.hid e2; clear e2
    go_enter Try.func39, Try.ntmps39
    go_wp2
    refine bodyPost_ret (v := av (bitB k)) ?_ rfl (Ret.mk (by simp (maxDischargeDepth := 99)))
    simp [results, Try.results39, go_sem, av, H1.out, H2.out]
    rw [show 63 - k % 64 = 127 - k by omega]
    exact pow_wrap _ (by omega)
theorem info_u64 : ∃ i, Try.prog.info? 22 = some i ∧ i.size = 1 := by
  have h : (Try.prog.info? 22).map (·.size) = some 1 := by kernel_rfl
  cases e : Try.prog.info? 22 with
  | none => rw [e] at h; cases h
  | some i => rw [e] at h; exact ⟨i, rfl, by simpa using h⟩
theorem under_addr : Try.prog.underlying 24 = some (.array 2 22) := by kernel_rfl
theorem under_pair : Try.prog.underlying 23 = some (.array 2 22) := by kernel_rfl
theorem under_u64 : Try.prog.underlying 22 = some (.int .u64) := by kernel_rfl
theorem eq_words_iff (x y : B) : (hi x == hi y && lo x == lo y) = decide (x = y) := by
  rw [Bool.eq_iff_iff]; simp only [Bool.and_eq_true, beq_iff_eq, decide_eq_true_eq]; exact words_eq_iff
@[go_sem] theorem eq_addr (d : Nat) (x y : B) (w : World) : (Op.equalIn (d + 2) 24 (av x) (av y)).run Try.prog w = .ok (decide (x = y)) w := by
  obtain ⟨i, hi, hs⟩ := info_u64
  rw [run_equalIn_pair w d _ _ .u64 i under_addr under_u64 hi hs, eq_words_iff]
@[go_sem] theorem eq_addr_zero (d : Nat) (x : B) (w : World) : (Op.equalIn (d + 2) 24 (av x) (.agg #[.int .u64 0, .int .u64 0])).run Try.prog w = .ok (decide (x = 0#128)) w := eq_addr d x 0#128 w
@[go_sem] theorem eq_pair (d : Nat) (x y : B) (w : World) : (Op.equalIn (d + 2) 23 (av x) (av y)).run Try.prog w = .ok (decide (x = y)) w := by
  obtain ⟨i, hi, hs⟩ := info_u64
  rw [run_equalIn_pair w d _ _ .u64 i under_pair under_u64 hi hs, eq_words_iff]

theorem is_yes (k : Int) (h0 : 0 ≤ k) (h1 : k < 128) (w : World) : Calls Try.prog 37 #[.int .i64 k] w (Ret (.bool true) w) := by
  go_enter Try.func37, Try.ntmps37
  go_wp2
  go_ret
  exact Ret.of (by simp) (by simp)
theorem is_no (k : Int) (h : ¬ (0 ≤ k ∧ k < 128)) (w : World) : Calls Try.prog 37 #[.int .i64 k] w (Ret (.bool false) w) := by
  by_cases h0 : 0 ≤ k
  · have h1 : ¬ k < 128 := fun h1 => h ⟨h0, h1⟩
    clear h
    go_enter Try.func37, Try.ntmps37
    go_wp2
    go_ret
    exact Ret.of (by simp) (by simp)
  · have h1 : k < 0 := by omega
    clear h
    go_enter Try.func37, Try.ntmps37
    go_wp2
    go_ret
    exact Ret.of (by simp) (by simp)
theorem getbit_in (x : B) (k : Nat) (h : k < 128) (w : World) : Calls Try.prog 22 #[av x, .int .i64 k] w (Ret (.bool (bt x k)) w) := by
  have hb := Lib.hid (and_bit_zero x k h)
  go_enter Try.func22, Try.ntmps22
  go_wp2_with fail
  refine region_ext _ (by first | exact Later.ext _ _ | exact Later.refl _) mixed (by kernel_rfl) ?_
  repeat (go_big_quiet_step ((first | (go_at_call 37; exact calls_in (is_yes _ (by omega) (by omega) _)) | (go_at_call 39; exact calls_in (bit_any _ h _)) | (go_at_call 38; exact calls_in (and_any _ _ _)))))
  refine wpQuiet_nil ?_
  rintro _ ⟨q1, rfl⟩
  go_wp2_with fail
  go_ret
  refine Ret.of ?_ (by simp (maxDischargeDepth := 99))
  congr 1
  cases e : bt x k
  · simp [hb.out.2 e]
  · have : ¬ (x &&& bitB k = 0#128) := fun hc => by rw [hb.out.1 hc] at e; cases e
    simp [this]
theorem getbit_out (x : B) (k : Int) (h : ¬ (0 ≤ k ∧ k < 128)) (w : World) : Calls Try.prog 22 #[av x, .int .i64 k] w (Ret (.bool false) w) := by
  go_enter Try.func22, Try.ntmps22
  go_wp2_with fail
  refine region_ext _ (by first | exact Later.ext _ _ | exact Later.refl _) mixed (by kernel_rfl) ?_
  repeat (go_big_quiet_step ((go_at_call 37; exact calls_in (is_no _ h _))))
  refine wpQuiet_nil ?_
  rintro _ ⟨q1, rfl⟩
  go_wp2_with fail
  go_ret
  exact Ret.of rfl (by simp (maxDischargeDepth := 99))
theorem with_in (x : B) (k : Nat) (h : k < 128) (b : Bool) (w : World) : Calls Try.prog 47 #[av x, .int .i64 k, .bool b] w (Ret (av (setB x k b)) w) := by
  cases b
  · go_enter Try.func47, Try.ntmps47
    go_wp2_with (go_at_call 37; refine (is_yes _ (by omega) (by omega) _).mono ?_; rintro e w1 ⟨rfl, q1, rfl⟩)
    refine region_ext_tail _ (by first | exact Later.ext _ _ | exact Later.refl _) 5 mixed (by kernel_rfl) ?_
    simp only [List.take_succ_cons, List.take_zero, List.drop_succ_cons, List.drop_zero]
    repeat (go_big_quiet_step ((first | (go_at_call 39; exact calls_in (bit_any _ h _)) | (go_at_call 51; exact calls_in (not_any _ _)) | (go_at_call 38; exact calls_in (and_any _ _ _)))))
    refine wpQuiet_nil ?_
    rintro _ ⟨q2, rfl⟩
    go_wp2_with fail
    exact bodyPost_ret (v := av (x &&& ~~~ bitB k)) (by simp [results, Try.results47, go_sem]) rfl (Ret.mk (by simp (maxDischargeDepth := 99)))
  · go_enter Try.func47, Try.ntmps47
    go_wp2_with (go_at_call 37; refine (is_yes _ (by omega) (by omega) _).mono ?_; rintro e w1 ⟨rfl, q1, rfl⟩)
    refine region_ext_tail _ (by first | exact Later.ext _ _ | exact Later.refl _) 4 mixed (by kernel_rfl) ?_
    simp only [List.take_succ_cons, List.take_zero, List.drop_succ_cons, List.drop_zero]
    repeat (go_big_quiet_step ((first | (go_at_call 39; exact calls_in (bit_any _ h _)) | (go_at_call 46; exact calls_in (or_any _ _ _)))))
    refine wpQuiet_nil ?_
    rintro _ ⟨q2, rfl⟩
    go_wp2_with fail
    exact bodyPost_ret (v := av (x ||| bitB k)) (by simp [results, Try.results47, go_sem]) rfl (Ret.mk (by simp (maxDischargeDepth := 99)))
theorem with_out (x : B) (k : Int) (h : ¬ (0 ≤ k ∧ k < 128)) (b : Bool) (w : World) : Calls Try.prog 47 #[av x, .int .i64 k, .bool b] w (Ret (av x) w) := by
  go_enter Try.func47, Try.ntmps47
  go_wp2_with (go_at_call 37; refine (is_no _ h _).mono ?_; rintro e w1 ⟨rfl, q1, rfl⟩)
  exact bodyPost_ret (v := av x) (by simp [results, Try.results47, go_sem]) rfl (Ret.mk (by simp (maxDischargeDepth := 99)))

theorem mask_any (n : Int) (w : World) : Calls Try.prog 43 #[.int .i64 n] w (Ret (av (maskB (near n))) w) := by
  have m1 := Lib.hid (mask_hi_min (near n))
  have m2 := Lib.hid (mask_lo_min (near n))
  have e1 := Lib.hid (show (min (max (min (max n 0) 128) 0) 64).toNat = min (near n) 64 by unfold near; omega)
  have e2 := Lib.hid (show (min (max (min (max n 0) 128 - 64) 0) 64).toNat = near n - 64 by unfold near; omega)
  go_enter Try.func43, Try.ntmps43
  go_wp2
  go_rounds 3
  refine bodyPost_ret (v := av (maskB (near n))) ?_ rfl (Ret.mk (by simp (maxDischargeDepth := 99)))
  simp [results, Try.results43, go_sem, av, ← m2.out, ← m1.out, e1.out, e2.out]
theorem cut_any (x : B) (n : Int) (w : World) : Calls Try.prog 44 #[av x, .int .i64 n] w (Ret (av (x &&& maskB (near n))) w) := by
  go_enter Try.func44, Try.ntmps44
  go_wp2_with fail
  refine region_ext_tail _ (by first | exact Later.ext _ _ | exact Later.refl _) 4 mixed (by kernel_rfl) ?_
  simp only [List.take_succ_cons, List.take_zero, List.drop_succ_cons, List.drop_zero]
  repeat (go_big_quiet_step ((first | (go_at_call 43; exact calls_in (mask_any _ _)) | (go_at_call 38; exact calls_in (and_any _ _ _)))))
  refine wpQuiet_nil ?_
  rintro _ ⟨q1, rfl⟩
  go_wp2_with fail
  exact bodyPost_ret (v := av (x &&& maskB (near n))) (by simp [results, Try.results44, go_sem]) rfl (Ret.mk (by simp (maxDischargeDepth := 99)))
end Go.Proofs.Ytlmadimnoknheaa
