/- What each function of package addr hands back: the contracts over the program. -/
import Derived.Test.YtecpgbkmpfijoaaProg
import Derived.Test.YtecpgbkmpfijoaaKit0
import Derived.Test.YtecpgbkmpfijoaaPop
import Derived.Lib.Strings
import Derived.Lib.Slices
import Derived.Lib.Small
import Derived.Lib.Walk
namespace Go.Proofs.Ytecpgbkmpfijoaa
open Go.RowKit Pg

theorem mixed : Try.prog.follows .mixedOrders = true := by kernel_rfl
/-- An address as a value. -/
abbrev av (x : B) : Value := .agg #[.int .u64 (hi x), .int .u64 (lo x)]

set_option maxHeartbeats 4000000 in
set_option maxRecDepth 100000 in
theorem len64_any (x : Int) (w : World) (h0 : 0 ≤ x) (h1 : x ≤ 18446744073709551615) :
    Calls Try.prog 51 #[.int .u64 x] w fun e w' => e = .returned (.int .i64 (Lib.bitLen x.toNat)) ∧ w' = w := by
  by_cases c1 : 4294967296 ≤ x
  · by_cases c2 : 65536 ≤ x / 4294967296
    · by_cases c3 : 256 ≤ x / 4294967296 / 65536
      · have t0 : 0 ≤ x / 4294967296 / 65536 / 256 := by omega
        have t1 : x / 4294967296 / 65536 / 256 ≤ 255 := by omega
        have H : (Lib.len8 (x / 4294967296 / 65536 / 256) + 56 : Int) = (Lib.bitLen x.toNat : Int) := by
          rw [Lib.len8_of _ t0 t1]
          have e : (x / 4294967296 / 65536 / 256).toNat = x.toNat / 72057594037927936 := by omega
          have s := Lib.bitLen_shift56 x.toNat (by omega) (by omega)
          rw [e]; omega
        have l := Lib.bitLen_le8' (x / 4294967296 / 65536 / 256) t0 t1
        have L0 : 0 ≤ Lib.len8 (x / 4294967296 / 65536 / 256) := by rw [Lib.len8_of _ t0 t1]; omega
        have L1 : Lib.len8 (x / 4294967296 / 65536 / 256) ≤ 8 := by rw [Lib.len8_of _ t0 t1]; omega
        clear l
        have H := Lib.hid H
        go_enter Try.func51, Try.ntmps51
        go_wp2
        go_ret
        exact ⟨congrArg Ending.returned (congrArg (Value.int IntKind.i64) (by rw [← H.out]; omega)), rfl⟩
      · have t0 : 0 ≤ x / 4294967296 / 65536 := by omega
        have t1 : x / 4294967296 / 65536 ≤ 255 := by omega
        have H : (Lib.len8 (x / 4294967296 / 65536) + 48 : Int) = (Lib.bitLen x.toNat : Int) := by
          rw [Lib.len8_of _ t0 t1]
          have e : (x / 4294967296 / 65536).toNat = x.toNat / 281474976710656 := by omega
          have s := Lib.bitLen_shift48 x.toNat (by omega) (by omega)
          rw [e]; omega
        have l := Lib.bitLen_le8' (x / 4294967296 / 65536) t0 t1
        have L0 : 0 ≤ Lib.len8 (x / 4294967296 / 65536) := by rw [Lib.len8_of _ t0 t1]; omega
        have L1 : Lib.len8 (x / 4294967296 / 65536) ≤ 8 := by rw [Lib.len8_of _ t0 t1]; omega
        clear l
        have H := Lib.hid H
        go_enter Try.func51, Try.ntmps51
        go_wp2
        go_ret
        exact ⟨congrArg Ending.returned (congrArg (Value.int IntKind.i64) (by rw [← H.out]; omega)), rfl⟩
    · by_cases c3 : 256 ≤ x / 4294967296
      · have t0 : 0 ≤ x / 4294967296 / 256 := by omega
        have t1 : x / 4294967296 / 256 ≤ 255 := by omega
        have H : (Lib.len8 (x / 4294967296 / 256) + 40 : Int) = (Lib.bitLen x.toNat : Int) := by
          rw [Lib.len8_of _ t0 t1]
          have e : (x / 4294967296 / 256).toNat = x.toNat / 1099511627776 := by omega
          have s := Lib.bitLen_shift40 x.toNat (by omega) (by omega)
          rw [e]; omega
        have l := Lib.bitLen_le8' (x / 4294967296 / 256) t0 t1
        have L0 : 0 ≤ Lib.len8 (x / 4294967296 / 256) := by rw [Lib.len8_of _ t0 t1]; omega
        have L1 : Lib.len8 (x / 4294967296 / 256) ≤ 8 := by rw [Lib.len8_of _ t0 t1]; omega
        clear l
        have H := Lib.hid H
        go_enter Try.func51, Try.ntmps51
        go_wp2
        go_ret
        exact ⟨congrArg Ending.returned (congrArg (Value.int IntKind.i64) (by rw [← H.out]; omega)), rfl⟩
      · have t0 : 0 ≤ x / 4294967296 := by omega
        have t1 : x / 4294967296 ≤ 255 := by omega
        have H : (Lib.len8 (x / 4294967296) + 32 : Int) = (Lib.bitLen x.toNat : Int) := by
          rw [Lib.len8_of _ t0 t1]
          have e : (x / 4294967296).toNat = x.toNat / 4294967296 := by omega
          have s := Lib.bitLen_shift32 x.toNat (by omega) (by omega)
          rw [e]; omega
        have l := Lib.bitLen_le8' (x / 4294967296) t0 t1
        have L0 : 0 ≤ Lib.len8 (x / 4294967296) := by rw [Lib.len8_of _ t0 t1]; omega
        have L1 : Lib.len8 (x / 4294967296) ≤ 8 := by rw [Lib.len8_of _ t0 t1]; omega
        clear l
        have H := Lib.hid H
        go_enter Try.func51, Try.ntmps51
        go_wp2
        go_ret
        exact ⟨congrArg Ending.returned (congrArg (Value.int IntKind.i64) (by rw [← H.out]; omega)), rfl⟩
  · by_cases c2 : 65536 ≤ x
    · by_cases c3 : 256 ≤ x / 65536
      · have t0 : 0 ≤ x / 65536 / 256 := by omega
        have t1 : x / 65536 / 256 ≤ 255 := by omega
        have H : (Lib.len8 (x / 65536 / 256) + 24 : Int) = (Lib.bitLen x.toNat : Int) := by
          rw [Lib.len8_of _ t0 t1]
          have e : (x / 65536 / 256).toNat = x.toNat / 16777216 := by omega
          have s := Lib.bitLen_shift24 x.toNat (by omega) (by omega)
          rw [e]; omega
        have l := Lib.bitLen_le8' (x / 65536 / 256) t0 t1
        have L0 : 0 ≤ Lib.len8 (x / 65536 / 256) := by rw [Lib.len8_of _ t0 t1]; omega
        have L1 : Lib.len8 (x / 65536 / 256) ≤ 8 := by rw [Lib.len8_of _ t0 t1]; omega
        clear l
        have H := Lib.hid H
        go_enter Try.func51, Try.ntmps51
        go_wp2
        go_ret
        exact ⟨congrArg Ending.returned (congrArg (Value.int IntKind.i64) (by rw [← H.out]; omega)), rfl⟩
      · have t0 : 0 ≤ x / 65536 := by omega
        have t1 : x / 65536 ≤ 255 := by omega
        have H : (Lib.len8 (x / 65536) + 16 : Int) = (Lib.bitLen x.toNat : Int) := by
          rw [Lib.len8_of _ t0 t1]
          have e : (x / 65536).toNat = x.toNat / 65536 := by omega
          have s := Lib.bitLen_shift16 x.toNat (by omega) (by omega)
          rw [e]; omega
        have l := Lib.bitLen_le8' (x / 65536) t0 t1
        have L0 : 0 ≤ Lib.len8 (x / 65536) := by rw [Lib.len8_of _ t0 t1]; omega
        have L1 : Lib.len8 (x / 65536) ≤ 8 := by rw [Lib.len8_of _ t0 t1]; omega
        clear l
        have H := Lib.hid H
        go_enter Try.func51, Try.ntmps51
        go_wp2
        go_ret
        exact ⟨congrArg Ending.returned (congrArg (Value.int IntKind.i64) (by rw [← H.out]; omega)), rfl⟩
    · by_cases c3 : 256 ≤ x
      · have t0 : 0 ≤ x / 256 := by omega
        have t1 : x / 256 ≤ 255 := by omega
        have H : (Lib.len8 (x / 256) + 8 : Int) = (Lib.bitLen x.toNat : Int) := by
          rw [Lib.len8_of _ t0 t1]
          have e : (x / 256).toNat = x.toNat / 256 := by omega
          have s := Lib.bitLen_shift8 x.toNat (by omega) (by omega)
          rw [e]; omega
        have l := Lib.bitLen_le8' (x / 256) t0 t1
        have L0 : 0 ≤ Lib.len8 (x / 256) := by rw [Lib.len8_of _ t0 t1]; omega
        have L1 : Lib.len8 (x / 256) ≤ 8 := by rw [Lib.len8_of _ t0 t1]; omega
        clear l
        have H := Lib.hid H
        go_enter Try.func51, Try.ntmps51
        go_wp2
        go_ret
        exact ⟨congrArg Ending.returned (congrArg (Value.int IntKind.i64) (by rw [← H.out]; omega)), rfl⟩
      · have t0 : 0 ≤ x := by omega
        have t1 : x ≤ 255 := by omega
        have H : (Lib.len8 (x) + 0 : Int) = (Lib.bitLen x.toNat : Int) := by
          rw [Lib.len8_of _ t0 t1]
          simp
        have l := Lib.bitLen_le8' (x) t0 t1
        have L0 : 0 ≤ Lib.len8 (x) := by rw [Lib.len8_of _ t0 t1]; omega
        have L1 : Lib.len8 (x) ≤ 8 := by rw [Lib.len8_of _ t0 t1]; omega
        clear l
        have H := Lib.hid H
        go_enter Try.func51, Try.ntmps51
        go_wp2
        go_ret
        exact ⟨congrArg Ending.returned (congrArg (Value.int IntKind.i64) (by rw [← H.out]; omega)), rfl⟩
theorem lz64_any (n : Nat) (w : World) (h1 : n < 18446744073709551616) :
    Calls Try.prog 50 #[.int .u64 (n : Int)] w (Ret (.int .i64 ((64 - Lib.bitLen n : Nat) : Int)) w) := by
  have hb := bitLen_le64 n h1
  go_enter Try.func50, Try.ntmps50
  go_wp2_with (go_at_call 51; refine (len64_any _ _ (by omega) (by omega)).mono ?_; rintro e w' ⟨rfl, rfl⟩)
  go_ret
  exact Ret.of (by congr 1; simp; omega) (by simp)

theorem and_any (x y : B) (w : World) : Calls Try.prog 41 #[av x, av y] w (Ret (av (x &&& y)) w) := by
  go_enter Try.func41, Try.ntmps41
  go_wp2
  exact bodyPost_ret (v := av (x &&& y)) (by simp [results, Try.results41, go_sem, and_hi, and_lo]) rfl (Ret.mk (by simp (maxDischargeDepth := 99)))
theorem or_any (x y : B) (w : World) : Calls Try.prog 42 #[av x, av y] w (Ret (av (x ||| y)) w) := by
  go_enter Try.func42, Try.ntmps42
  go_wp2
  exact bodyPost_ret (v := av (x ||| y)) (by simp [results, Try.results42, go_sem, or_hi, or_lo]) rfl (Ret.mk (by simp (maxDischargeDepth := 99)))
theorem xor_any (x y : B) (w : World) : Calls Try.prog 36 #[av x, av y] w (Ret (av (x ^^^ y)) w) := by
  go_enter Try.func36, Try.ntmps36
  go_wp2
  exact bodyPost_ret (v := av (x ^^^ y)) (by simp [results, Try.results36, go_sem, xor_hi, xor_lo]) rfl (Ret.mk (by simp (maxDischargeDepth := 99)))
theorem not_any (x : B) (w : World) : Calls Try.prog 39 #[av x] w (Ret (av (~~~ x)) w) := by
  go_enter Try.func39, Try.ntmps39
  go_wp2
  exact bodyPost_ret (v := av (~~~ x)) (by simp [results, Try.results39, go_sem, not_hi, not_lo]) rfl (Ret.mk (by simp (maxDischargeDepth := 99)))
theorem pow_wrap (n : Nat) (h : n < 64) : IntKind.u64.wrap (2 ^ n) = 2 ^ n := by
  rw [IntKind.wrap_u64]
  have h2 : 2 ^ n < 2 ^ 64 := Nat.pow_lt_pow_right (by omega) h
  have e : ((2 ^ n : Nat) : Int) = 2 ^ n := by simp
  rw [← e]
  generalize 2 ^ n = z at h2
  omega
theorem bit_any (k : Nat) (hk : k < 128) (w : World) : Calls Try.prog 44 #[.int .i64 k] w (Ret (av (bitB k)) w) := by
  by_cases h : k < 64
  · have e : ((k : Int) / 64).toNat = 0 := by omega
    obtain ⟨e1, e2⟩ := hi_bitB_lo k h
    have H1 := Lib.hid e1; clear e1
    have H2 := Lib.hid e2; clear e2
    go_enter Try.func44, Try.ntmps44
    go_wp2
    refine bodyPost_ret (v := av (bitB k)) ?_ rfl (Ret.mk (by simp (maxDischargeDepth := 99)))
    simp [results, Try.results44, go_sem, av, H1.out, H2.out]
    rw [show 63 - k % 64 = 63 - k by omega]
    exact pow_wrap _ (by omega)
  · have e : ((k : Int) / 64).toNat = 1 := by omega
    obtain ⟨e1, e2⟩ := hi_bitB_hi k (by omega) hk
    have H1 := Lib.hid e1; clear e1
    have H2 := Lib.hid e2; clear e2
    go_enter Try.func44, Try.ntmps44
    go_wp2
    refine bodyPost_ret (v := av (bitB k)) ?_ rfl (Ret.mk (by simp (maxDischargeDepth := 99)))
    simp [results, Try.results44, go_sem, av, H1.out, H2.out]
    rw [show 63 - k % 64 = 127 - k by omega]
    exact pow_wrap _ (by omega)
theorem info_u64 : ∃ i, Try.prog.info? 22 = some i ∧ i.size = 1 := by
  have h : (Try.prog.info? 22).map (·.size) = some 1 := by kernel_rfl
  cases e : Try.prog.info? 22 with
  | none => rw [e] at h; cases h
  | some i => rw [e] at h; exact ⟨i, rfl, by simpa using h⟩
theorem under_addr : Try.prog.underlying 24 = some (.array 2 22) := by kernel_rfl
theorem under_pair : Try.prog.underlying 23 = some (.array 2 22) := by kernel_rfl
theorem under_u64 : Try.prog.underlying 22 = some (.int .u64) := by kernel_rfl
theorem eq_words_iff (x y : B) : (hi x == hi y && lo x == lo y) = decide (x = y) := by
  rw [Bool.eq_iff_iff]; simp only [Bool.and_eq_true, beq_iff_eq, decide_eq_true_eq]; exact words_eq_iff
@[go_sem] theorem eq_addr (d : Nat) (x y : B) (w : World) : (Op.equalIn (d + 2) 24 (av x) (av y)).run Try.prog w = .ok (decide (x = y)) w := by
  obtain ⟨i, hi, hs⟩ := info_u64
  rw [run_equalIn_pair w d _ _ .u64 i under_addr under_u64 hi hs, eq_words_iff]
@[go_sem] theorem eq_addr_zero (d : Nat) (x : B) (w : World) : (Op.equalIn (d + 2) 24 (av x) (.agg #[.int .u64 0, .int .u64 0])).run Try.prog w = .ok (decide (x = 0#128)) w := eq_addr d x 0#128 w
@[go_sem] theorem eq_pair (d : Nat) (x y : B) (w : World) : (Op.equalIn (d + 2) 23 (av x) (av y)).run Try.prog w = .ok (decide (x = y)) w := by
  obtain ⟨i, hi, hs⟩ := info_u64
  rw [run_equalIn_pair w d _ _ .u64 i under_pair under_u64 hi hs, eq_words_iff]

theorem is_yes (k : Int) (h0 : 0 ≤ k) (h1 : k < 128) (w : World) : Calls Try.prog 43 #[.int .i64 k] w (Ret (.bool true) w) := by
  go_enter Try.func43, Try.ntmps43
  go_wp2
  go_ret
  exact Ret.of (by simp) (by simp)
theorem is_no (k : Int) (h : ¬ (0 ≤ k ∧ k < 128)) (w : World) : Calls Try.prog 43 #[.int .i64 k] w (Ret (.bool false) w) := by
  by_cases h0 : 0 ≤ k
  · have h1 : ¬ k < 128 := fun h1 => h ⟨h0, h1⟩
    clear h
    go_enter Try.func43, Try.ntmps43
    go_wp2
    go_ret
    exact Ret.of (by simp) (by simp)
  · have h1 : k < 0 := by omega
    clear h
    go_enter Try.func43, Try.ntmps43
    go_wp2
    go_ret
    exact Ret.of (by simp) (by simp)
theorem getbit_in (x : B) (k : Nat) (h : k < 128) (w : World) : Calls Try.prog 27 #[av x, .int .i64 k] w (Ret (.bool (bt x k)) w) := by
  have hb := Lib.hid (and_bit_zero x k h)
  go_enter Try.func27, Try.ntmps27
  go_wp2_with fail
  refine region_ext _ (by first | exact Later.ext _ _ | exact Later.refl _) mixed (by kernel_rfl) ?_
  repeat (go_big_quiet_step ((first | (go_at_call 43; exact calls_in (is_yes _ (by omega) (by omega) _)) | (go_at_call 44; exact calls_in (bit_any _ h _)) | (go_at_call 41; exact calls_in (and_any _ _ _)))))
  refine wpQuiet_nil ?_
  rintro _ ⟨q1, rfl⟩
  go_wp2_with fail
  go_ret
  refine Ret.of ?_ (by simp (maxDischargeDepth := 99))
  congr 1
  cases e : bt x k
  · simp [hb.out.2 e]
  · have : ¬ (x &&& bitB k = 0#128) := fun hc => by rw [hb.out.1 hc] at e; cases e
    simp [this]
theorem getbit_out (x : B) (k : Int) (h : ¬ (0 ≤ k ∧ k < 128)) (w : World) : Calls Try.prog 27 #[av x, .int .i64 k] w (Ret (.bool false) w) := by
  go_enter Try.func27, Try.ntmps27
  go_wp2_with fail
  refine region_ext _ (by first | exact Later.ext _ _ | exact Later.refl _) mixed (by kernel_rfl) ?_
  repeat (go_big_quiet_step ((go_at_call 43; exact calls_in (is_no _ h _))))
  refine wpQuiet_nil ?_
  rintro _ ⟨q1, rfl⟩
  go_wp2_with fail
  go_ret
  exact Ret.of rfl (by simp (maxDischargeDepth := 99))
theorem with_in (x : B) (k : Nat) (h : k < 128) (b : Bool) (w : World) : Calls Try.prog 26 #[av x, .int .i64 k, .bool b] w (Ret (av (setB x k b)) w) := by
  cases b
  · go_enter Try.func26, Try.ntmps26
    go_wp2_with (go_at_call 43; refine (is_yes _ (by omega) (by omega) _).mono ?_; rintro e w1 ⟨rfl, q1, rfl⟩)
    refine region_ext_tail _ (by first | exact Later.ext _ _ | exact Later.refl _) 5 mixed (by kernel_rfl) ?_
    simp only [List.take_succ_cons, List.take_zero, List.drop_succ_cons, List.drop_zero]
    repeat (go_big_quiet_step ((first | (go_at_call 44; exact calls_in (bit_any _ h _)) | (go_at_call 39; exact calls_in (not_any _ _)) | (go_at_call 41; exact calls_in (and_any _ _ _)))))
    refine wpQuiet_nil ?_
    rintro _ ⟨q2, rfl⟩
    go_wp2_with fail
    exact bodyPost_ret (v := av (x &&& ~~~ bitB k)) (by simp [results, Try.results26, go_sem]) rfl (Ret.mk (by simp (maxDischargeDepth := 99)))
  · go_enter Try.func26, Try.ntmps26
    go_wp2_with (go_at_call 43; refine (is_yes _ (by omega) (by omega) _).mono ?_; rintro e w1 ⟨rfl, q1, rfl⟩)
    refine region_ext_tail _ (by first | exact Later.ext _ _ | exact Later.refl _) 4 mixed (by kernel_rfl) ?_
    simp only [List.take_succ_cons, List.take_zero, List.drop_succ_cons, List.drop_zero]
    repeat (go_big_quiet_step ((first | (go_at_call 44; exact calls_in (bit_any _ h _)) | (go_at_call 42; exact calls_in (or_any _ _ _)))))
    refine wpQuiet_nil ?_
    rintro _ ⟨q2, rfl⟩
    go_wp2_with fail
    exact bodyPost_ret (v := av (x ||| bitB k)) (by simp [results, Try.results26, go_sem]) rfl (Ret.mk (by simp (maxDischargeDepth := 99)))
theorem with_out (x : B) (k : Int) (h : ¬ (0 ≤ k ∧ k < 128)) (b : Bool) (w : World) : Calls Try.prog 26 #[av x, .int .i64 k, .bool b] w (Ret (av x) w) := by
  go_enter Try.func26, Try.ntmps26
  go_wp2_with (go_at_call 43; refine (is_no _ h _).mono ?_; rintro e w1 ⟨rfl, q1, rfl⟩)
  exact bodyPost_ret (v := av x) (by simp [results, Try.results26, go_sem]) rfl (Ret.mk (by simp (maxDischargeDepth := 99)))

theorem mask_any (n : Int) (w : World) : Calls Try.prog 46 #[.int .i64 n] w (Ret (av (maskB (near n))) w) := by
  have m1 := Lib.hid (mask_hi_min (near n))
  have m2 := Lib.hid (mask_lo_min (near n))
  have e1 := Lib.hid (show (min (max (min (max n 0) 128) 0) 64).toNat = min (near n) 64 by unfold near; omega)
  have e2 := Lib.hid (show (min (max (min (max n 0) 128 - 64) 0) 64).toNat = near n - 64 by unfold near; omega)
  go_enter Try.func46, Try.ntmps46
  go_wp2
  go_rounds 3
  refine bodyPost_ret (v := av (maskB (near n))) ?_ rfl (Ret.mk (by simp (maxDischargeDepth := 99)))
  simp [results, Try.results46, go_sem, av, ← m2.out, ← m1.out, e1.out, e2.out]
theorem cut_any (x : B) (n : Int) (w : World) : Calls Try.prog 49 #[av x, .int .i64 n] w (Ret (av (x &&& maskB (near n))) w) := by
  go_enter Try.func49, Try.ntmps49
  go_wp2_with fail
  refine region_ext_tail _ (by first | exact Later.ext _ _ | exact Later.refl _) 4 mixed (by kernel_rfl) ?_
  simp only [List.take_succ_cons, List.take_zero, List.drop_succ_cons, List.drop_zero]
  repeat (go_big_quiet_step ((first | (go_at_call 46; exact calls_in (mask_any _ _)) | (go_at_call 41; exact calls_in (and_any _ _ _)))))
  refine wpQuiet_nil ?_
  rintro _ ⟨q1, rfl⟩
  go_wp2_with fail
  exact bodyPost_ret (v := av (x &&& maskB (near n))) (by simp [results, Try.results49, go_sem]) rfl (Ret.mk (by simp (maxDischargeDepth := 99)))
theorem common_any (x y : B) (w : World) : Calls Try.prog 47 #[av x, av y] w (Ret (.int .i64 (common x y : Int)) w) := by
  have hh := hiN_lt (x ^^^ y)
  have hl := loN_lt (x ^^^ y)
  have bh := bitLen_le64 _ hh
  have bl := bitLen_le64 _ hl
  by_cases h0 : hiN (x ^^^ y) = 0
  · have ht : (hi (x ^^^ y) != 0) = false := by unfold hi; rw [h0]; rfl
    have hc := Lib.hid (show common x y = 64 + (64 - Lib.bitLen (loN (x ^^^ y))) by unfold common; rw [if_neg (by simp [h0])]; omega)
    have hb : 64 - Lib.bitLen (loN (x ^^^ y)) ≤ 64 := by omega
    clear h0
    go_enter Try.func47, Try.ntmps47
    go_wp2_with (first | (go_at_call 36; refine (xor_any _ _ _).mono ?_; rintro e w1 ⟨rfl, q1, rfl⟩) | (go_at_call 50; refine (lz64_any (loN (x ^^^ y)) _ hl).mono ?_; rintro e w1 ⟨rfl, q2, rfl⟩))
    go_ret
    exact Ret.of (by rw [hc.out]; simp [go_sem]) (by simp (maxDischargeDepth := 99))
  · have ht : (hi (x ^^^ y) != 0) = true := by unfold hi; rw [bne_iff_ne]; omega
    have hc := Lib.hid (show common x y = 64 - Lib.bitLen (hiN (x ^^^ y)) by unfold common; rw [if_pos h0])
    clear h0
    go_enter Try.func47, Try.ntmps47
    go_wp2_with (first | (go_at_call 36; refine (xor_any _ _ _).mono ?_; rintro e w1 ⟨rfl, q1, rfl⟩) | (go_at_call 50; refine (lz64_any (hiN (x ^^^ y)) _ hh).mono ?_; rintro e w1 ⟨rfl, q2, rfl⟩))
    go_ret
    exact Ret.of (by rw [hc.out]; rfl) (by simp (maxDischargeDepth := 99))

theorem onescount_any (n : Nat) (h : n < 18446744073709551616) (w : World) : Calls Try.prog 45 #[.int .u64 (n : Int)] w (Ret (.int .i64 (Lib.onesCount n : Int)) w) := by
  have P := Lib.hid (pop_and n h)
  go_enter Try.func45, Try.ntmps45
  go_wp2
  go_ret
  refine Ret.of ?_ (by simp (maxDischargeDepth := 99))
  show Value.int .i64 (bits .and .i64 (wrap64 (i6 (i5 (i4 (i3 (i2 (i1 (n : Int)))))))) 127) = _
  rw [P.out]
theorem onescount_hi (x : B) (w : World) : Calls Try.prog 45 #[.int .u64 (hi x)] w (Ret (.int .i64 (Lib.onesCount (hiN x) : Int)) w) := onescount_any (hiN x) (hiN_lt x) w
theorem onescount_lo (x : B) (w : World) : Calls Try.prog 45 #[.int .u64 (lo x)] w (Ret (.int .i64 (Lib.onesCount (loN x) : Int)) w) := onescount_any (loN x) (loN_lt x) w
theorem ones_any (x : B) (w : World) : Calls Try.prog 28 #[av x] w (Ret (.int .i64 (ones x : Int)) w) := by
  have ho := Lib.hid (ones_words x)
  have b1 := ones_le x
  have b2 : (Lib.onesCount (hiN x) : Int) + (Lib.onesCount (loN x) : Int) ≤ 128 := by rw [ho.out] at b1; omega
  clear b1
  go_enter Try.func28, Try.ntmps28
  go_wp2_with fail
  refine region_ext _ (by first | exact Later.ext _ _ | exact Later.refl _) mixed (by kernel_rfl) ?_
  repeat (go_big_quiet_step ((first | (go_at_call 45; with_reducible exact calls_in (onescount_hi x _)) | (go_at_call 45; with_reducible exact calls_in (onescount_lo x _)))))
  refine wpQuiet_nil ?_
  rintro _ ⟨q1, rfl⟩
  go_wp2_with fail
  go_ret
  exact Ret.of (by rw [ho.out]; simp) (by simp (maxDischargeDepth := 99))
end Go.Proofs.Ytecpgbkmpfijoaa
