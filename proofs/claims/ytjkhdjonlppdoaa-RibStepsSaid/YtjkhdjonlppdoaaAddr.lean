/- What each function of package addr hands back: the contracts over the program. -/
import Derived.Test.YtjkhdjonlppdoaaProg
import Derived.Test.YtjkhdjonlppdoaaKit0
import Derived.Test.YtjkhdjonlppdoaaPop
import Derived.Lib.Strings
import Derived.Lib.Slices
import Derived.Lib.Small
import Derived.Lib.Walk
namespace Go.Proofs.Ytjkhdjonlppdoaa
open Go.RowKit Pg

theorem mixed : Try.prog.follows .mixedOrders = true := by kernel_rfl
/-- An address as a value. -/
abbrev av (x : B) : Value := .agg #[.int .u64 (hi x), .int .u64 (lo x)]

set_option maxHeartbeats 4000000 in
set_option maxRecDepth 100000 in
theorem len64_any (x : Int) (w : World) (h0 : 0 ≤ x) (h1 : x ≤ 18446744073709551615) :
    Calls Try.prog 75 #[.int .u64 x] w fun e w' => e = .returned (.int .i64 (Lib.bitLen x.toNat)) ∧ w' = w := by
  by_cases c1 : 4294967296 ≤ x
  · by_cases c2 : 65536 ≤ x / 4294967296
    · by_cases c3 : 256 ≤ x / 4294967296 / 65536
      · have t0 : 0 ≤ x / 4294967296 / 65536 / 256 := by omega
        have t1 : x / 4294967296 / 65536 / 256 ≤ 255 := by omega
        have H : (Lib.len8 (x / 4294967296 / 65536 / 256) + 56 : Int) = (Lib.bitLen x.toNat : Int) := by
          rw [Lib.len8_of _ t0 t1]
          have e : (x / 4294967296 / 65536 / 256).toNat = x.toNat / 72057594037927936 := by omega
          have s := Lib.bitLen_shift56 x.toNat (by omega) (by omega)
          rw [e]; omega
        have l := Lib.bitLen_le8' (x / 4294967296 / 65536 / 256) t0 t1
        have L0 : 0 ≤ Lib.len8 (x / 4294967296 / 65536 / 256) := by rw [Lib.len8_of _ t0 t1]; omega
        have L1 : Lib.len8 (x / 4294967296 / 65536 / 256) ≤ 8 := by rw [Lib.len8_of _ t0 t1]; omega
        clear l
        have H := Lib.hid H
        go_enter Try.func75, Try.ntmps75
        go_wp2
        go_ret
        exact ⟨congrArg Ending.returned (congrArg (Value.int IntKind.i64) (by rw [← H.out]; omega)), rfl⟩
      · have t0 : 0 ≤ x / 4294967296 / 65536 := by omega
        have t1 : x / 4294967296 / 65536 ≤ 255 := by omega
        have H : (Lib.len8 (x / 4294967296 / 65536) + 48 : Int) = (Lib.bitLen x.toNat : Int) := by
          rw [Lib.len8_of _ t0 t1]
          have e : (x / 4294967296 / 65536).toNat = x.toNat / 281474976710656 := by omega
          have s := Lib.bitLen_shift48 x.toNat (by omega) (by omega)
          rw [e]; omega
        have l := Lib.bitLen_le8' (x / 4294967296 / 65536) t0 t1
        have L0 : 0 ≤ Lib.len8 (x / 4294967296 / 65536) := by rw [Lib.len8_of _ t0 t1]; omega
        have L1 : Lib.len8 (x / 4294967296 / 65536) ≤ 8 := by rw [Lib.len8_of _ t0 t1]; omega
        clear l
        have H := Lib.hid H
        go_enter Try.func75, Try.ntmps75
        go_wp2
        go_ret
        exact ⟨congrArg Ending.returned (congrArg (Value.int IntKind.i64) (by rw [← H.out]; omega)), rfl⟩
    · by_cases c3 : 256 ≤ x / 4294967296
      · have t0 : 0 ≤ x / 4294967296 / 256 := by omega
        have t1 : x / 4294967296 / 256 ≤ 255 := by omega
        have H : (Lib.len8 (x / 4294967296 / 256) + 40 : Int) = (Lib.bitLen x.toNat : Int) := by
          rw [Lib.len8_of _ t0 t1]
          have e : (x / 4294967296 / 256).toNat = x.toNat / 1099511627776 := by omega
          have s := Lib.bitLen_shift40 x.toNat (by omega) (by omega)
          rw [e]; omega
        have l := Lib.bitLen_le8' (x / 4294967296 / 256) t0 t1
        have L0 : 0 ≤ Lib.len8 (x / 4294967296 / 256) := by rw [Lib.len8_of _ t0 t1]; omega
        have L1 : Lib.len8 (x / 4294967296 / 256) ≤ 8 := by rw [Lib.len8_of _ t0 t1]; omega
        clear l
        have H := Lib.hid H
        go_enter Try.func75, Try.ntmps75
        go_wp2
        go_ret
        exact ⟨congrArg Ending.returned (congrArg (Value.int IntKind.i64) (by rw [← H.out]; omega)), rfl⟩
      · have t0 : 0 ≤ x / 4294967296 := by omega
        have t1 : x / 4294967296 ≤ 255 := by omega
        have H : (Lib.len8 (x / 4294967296) + 32 : Int) = (Lib.bitLen x.toNat : Int) := by
          rw [Lib.len8_of _ t0 t1]
          have e : (x / 4294967296).toNat = x.toNat / 4294967296 := by omega
          have s := Lib.bitLen_shift32 x.toNat (by omega) (by omega)
          rw [e]; omega
        have l := Lib.bitLen_le8' (x / 4294967296) t0 t1
        have L0 : 0 ≤ Lib.len8 (x / 4294967296) := by rw [Lib.len8_of _ t0 t1]; omega
        have L1 : Lib.len8 (x / 4294967296) ≤ 8 := by rw [Lib.len8_of _ t0 t1]; omega
        clear l
        have H := Lib.hid H
        go_enter Try.func75, Try.ntmps75
        go_wp2
        go_ret
        exact ⟨congrArg Ending.returned (congrArg (Value.int IntKind.i64) (by rw [← H.out]; omega)), rfl⟩
  · by_cases c2 : 65536 ≤ x
    · by_cases c3 : 256 ≤ x / 65536
      · have t0 : 0 ≤ x / 65536 / 256 := by omega
        have t1 : x / 65536 / 256 ≤ 255 := by omega
        have H : (Lib.len8 (x / 65536 / 256) + 24 : Int) = (Lib.bitLen x.toNat : Int) := by
          rw [Lib.len8_of _ t0 t1]
          have e : (x / 65536 / 256).toNat = x.toNat / 16777216 := by omega
          have s := Lib.bitLen_shift24 x.toNat (by omega) (by omega)
          rw [e]; omega
        have l := Lib.bitLen_le8' (x / 65536 / 256) t0 t1
        have L0 : 0 ≤ Lib.len8 (x / 65536 / 256) := by rw [Lib.len8_of _ t0 t1]; omega
        have L1 : Lib.len8 (x / 65536 / 256) ≤ 8 := by rw [Lib.len8_of _ t0 t1]; omega
        clear l
        have H := Lib.hid H
        go_enter Try.func75, Try.ntmps75
        go_wp2
        go_ret
        exact ⟨congrArg Ending.returned (congrArg (Value.int IntKind.i64) (by rw [← H.out]; omega)), rfl⟩
      · have t0 : 0 ≤ x / 65536 := by omega
        have t1 : x / 65536 ≤ 255 := by omega
        have H : (Lib.len8 (x / 65536) + 16 : Int) = (Lib.bitLen x.toNat : Int) := by
          rw [Lib.len8_of _ t0 t1]
          have e : (x / 65536).toNat = x.toNat / 65536 := by omega
          have s := Lib.bitLen_shift16 x.toNat (by omega) (by omega)
          rw [e]; omega
        have l := Lib.bitLen_le8' (x / 65536) t0 t1
        have L0 : 0 ≤ Lib.len8 (x / 65536) := by rw [Lib.len8_of _ t0 t1]; omega
        have L1 : Lib.len8 (x / 65536) ≤ 8 := by rw [Lib.len8_of _ t0 t1]; omega
        clear l
        have H := Lib.hid H
        go_enter Try.func75, Try.ntmps75
        go_wp2
        go_ret
        exact ⟨congrArg Ending.returned (congrArg (Value.int IntKind.i64) (by rw [← H.out]; omega)), rfl⟩
    · by_cases c3 : 256 ≤ x
      · have t0 : 0 ≤ x / 256 := by omega
        have t1 : x / 256 ≤ 255 := by omega
        have H : (Lib.len8 (x / 256) + 8 : Int) = (Lib.bitLen x.toNat : Int) := by
          rw [Lib.len8_of _ t0 t1]
          have e : (x / 256).toNat = x.toNat / 256 := by omega
          have s := Lib.bitLen_shift8 x.toNat (by omega) (by omega)
          rw [e]; omega
        have l := Lib.bitLen_le8' (x / 256) t0 t1
        have L0 : 0 ≤ Lib.len8 (x / 256) := by rw [Lib.len8_of _ t0 t1]; omega
        have L1 : Lib.len8 (x / 256) ≤ 8 := by rw [Lib.len8_of _ t0 t1]; omega
        clear l
        have H := Lib.hid H
        go_enter Try.func75, Try.ntmps75
        go_wp2
        go_ret
        exact ⟨congrArg Ending.returned (congrArg (Value.int IntKind.i64) (by rw [← H.out]; omega)), rfl⟩
      · have t0 : 0 ≤ x := by omega
        have t1 : x ≤ 255 := by omega
        have H : (Lib.len8 (x) + 0 : Int) = (Lib.bitLen x.toNat : Int) := by
          rw [Lib.len8_of _ t0 t1]
          simp
        have l := Lib.bitLen_le8' (x) t0 t1
        have L0 : 0 ≤ Lib.len8 (x) := by rw [Lib.len8_of _ t0 t1]; omega
        have L1 : Lib.len8 (x) ≤ 8 := by rw [Lib.len8_of _ t0 t1]; omega
        clear l
        have H := Lib.hid H
        go_enter Try.func75, Try.ntmps75
        go_wp2
        go_ret
        exact ⟨congrArg Ending.returned (congrArg (Value.int IntKind.i64) (by rw [← H.out]; omega)), rfl⟩
theorem lz64_any (n : Nat) (w : World) (h1 : n < 18446744073709551616) :
    Calls Try.prog 68 #[.int .u64 (n : Int)] w (Ret (.int .i64 ((64 - Lib.bitLen n : Nat) : Int)) w) := by
  have hb := bitLen_le64 n h1
  go_enter Try.func68, Try.ntmps68
  go_wp2_with (go_at_call 75; refine (len64_any _ _ (by omega) (by omega)).mono ?_; rintro e w' ⟨rfl, rfl⟩)
  go_ret
  exact Ret.of (by congr 1; simp; omega) (by simp)

theorem and_any (x y : B) (w : World) : Calls Try.prog 70 #[av x, av y] w (Ret (av (x &&& y)) w) := by
  go_enter Try.func70, Try.ntmps70
  go_wp2
  exact bodyPost_ret (v := av (x &&& y)) (by simp [results, Try.results70, go_sem, and_hi, and_lo]) rfl (Ret.mk (by simp (maxDischargeDepth := 99)))
theorem xor_any (x y : B) (w : World) : Calls Try.prog 67 #[av x, av y] w (Ret (av (x ^^^ y)) w) := by
  go_enter Try.func67, Try.ntmps67
  go_wp2
  exact bodyPost_ret (v := av (x ^^^ y)) (by simp [results, Try.results67, go_sem, xor_hi, xor_lo]) rfl (Ret.mk (by simp (maxDischargeDepth := 99)))
theorem pow_wrap (n : Nat) (h : n < 64) : IntKind.u64.wrap (2 ^ n) = 2 ^ n := by
  rw [IntKind.wrap_u64]
  have h2 : 2 ^ n < 2 ^ 64 := Nat.pow_lt_pow_right (by omega) h
  have e : ((2 ^ n : Nat) : Int) = 2 ^ n := by simp
  rw [← e]
  generalize 2 ^ n = z at h2
  omega
theorem info_u64 : ∃ i, Try.prog.info? 23 = some i ∧ i.size = 1 := by
  have h : (Try.prog.info? 23).map (·.size) = some 1 := by kernel_rfl
  cases e : Try.prog.info? 23 with
  | none => rw [e] at h; cases h
  | some i => rw [e] at h; exact ⟨i, rfl, by simpa using h⟩
theorem under_addr : Try.prog.underlying 25 = some (.array 2 23) := by kernel_rfl
theorem under_pair : Try.prog.underlying 24 = some (.array 2 23) := by kernel_rfl
theorem under_u64 : Try.prog.underlying 23 = some (.int .u64) := by kernel_rfl
theorem eq_words_iff (x y : B) : (hi x == hi y && lo x == lo y) = decide (x = y) := by
  rw [Bool.eq_iff_iff]; simp only [Bool.and_eq_true, beq_iff_eq, decide_eq_true_eq]; exact words_eq_iff
@[go_sem] theorem eq_addr (d : Nat) (x y : B) (w : World) : (Op.equalIn (d + 2) 25 (av x) (av y)).run Try.prog w = .ok (decide (x = y)) w := by
  obtain ⟨i, hi, hs⟩ := info_u64
  rw [run_equalIn_pair w d _ _ .u64 i under_addr under_u64 hi hs, eq_words_iff]
@[go_sem] theorem eq_addr_zero (d : Nat) (x : B) (w : World) : (Op.equalIn (d + 2) 25 (av x) (.agg #[.int .u64 0, .int .u64 0])).run Try.prog w = .ok (decide (x = 0#128)) w := eq_addr d x 0#128 w
@[go_sem] theorem eq_pair (d : Nat) (x y : B) (w : World) : (Op.equalIn (d + 2) 24 (av x) (av y)).run Try.prog w = .ok (decide (x = y)) w := by
  obtain ⟨i, hi, hs⟩ := info_u64
  rw [run_equalIn_pair w d _ _ .u64 i under_pair under_u64 hi hs, eq_words_iff]

theorem mask_any (n : Int) (w : World) : Calls Try.prog 71 #[.int .i64 n] w (Ret (av (maskB (near n))) w) := by
  have m1 := Lib.hid (mask_hi_min (near n))
  have m2 := Lib.hid (mask_lo_min (near n))
  have e1 := Lib.hid (show (min (max (min (max n 0) 128) 0) 64).toNat = min (near n) 64 by unfold near; omega)
  have e2 := Lib.hid (show (min (max (min (max n 0) 128 - 64) 0) 64).toNat = near n - 64 by unfold near; omega)
  go_enter Try.func71, Try.ntmps71
  go_wp2
  go_rounds 3
  refine bodyPost_ret (v := av (maskB (near n))) ?_ rfl (Ret.mk (by simp (maxDischargeDepth := 99)))
  simp [results, Try.results71, go_sem, av, ← m2.out, ← m1.out, e1.out, e2.out]
theorem cut_any (x : B) (n : Int) (w : World) : Calls Try.prog 57 #[av x, .int .i64 n] w (Ret (av (x &&& maskB (near n))) w) := by
  go_enter Try.func57, Try.ntmps57
  go_wp2_with fail
  refine region_ext_tail _ (by first | exact Later.ext _ _ | exact Later.refl _) 4 mixed (by kernel_rfl) ?_
  simp only [List.take_succ_cons, List.take_zero, List.drop_succ_cons, List.drop_zero]
  repeat (go_big_quiet_step ((first | (go_at_call 71; exact calls_in (mask_any _ _)) | (go_at_call 70; exact calls_in (and_any _ _ _)))))
  refine wpQuiet_nil ?_
  rintro _ ⟨q1, rfl⟩
  go_wp2_with fail
  exact bodyPost_ret (v := av (x &&& maskB (near n))) (by simp [results, Try.results57, go_sem]) rfl (Ret.mk (by simp (maxDischargeDepth := 99)))
theorem common_any (x y : B) (w : World) : Calls Try.prog 53 #[av x, av y] w (Ret (.int .i64 (common x y : Int)) w) := by
  have hh := hiN_lt (x ^^^ y)
  have hl := loN_lt (x ^^^ y)
  have bh := bitLen_le64 _ hh
  have bl := bitLen_le64 _ hl
  by_cases h0 : hiN (x ^^^ y) = 0
  · have ht : (hi (x ^^^ y) != 0) = false := by unfold hi; rw [h0]; rfl
    have hc := Lib.hid (show common x y = 64 + (64 - Lib.bitLen (loN (x ^^^ y))) by unfold common; rw [if_neg (by simp [h0])]; omega)
    have hb : 64 - Lib.bitLen (loN (x ^^^ y)) ≤ 64 := by omega
    clear h0
    go_enter Try.func53, Try.ntmps53
    go_wp2_with (first | (go_at_call 67; refine (xor_any _ _ _).mono ?_; rintro e w1 ⟨rfl, q1, rfl⟩) | (go_at_call 68; refine (lz64_any (loN (x ^^^ y)) _ hl).mono ?_; rintro e w1 ⟨rfl, q2, rfl⟩))
    go_ret
    exact Ret.of (by rw [hc.out]; simp [go_sem]) (by simp (maxDischargeDepth := 99))
  · have ht : (hi (x ^^^ y) != 0) = true := by unfold hi; rw [bne_iff_ne]; omega
    have hc := Lib.hid (show common x y = 64 - Lib.bitLen (hiN (x ^^^ y)) by unfold common; rw [if_pos h0])
    clear h0
    go_enter Try.func53, Try.ntmps53
    go_wp2_with (first | (go_at_call 67; refine (xor_any _ _ _).mono ?_; rintro e w1 ⟨rfl, q1, rfl⟩) | (go_at_call 68; refine (lz64_any (hiN (x ^^^ y)) _ hh).mono ?_; rintro e w1 ⟨rfl, q2, rfl⟩))
    go_ret
    exact Ret.of (by rw [hc.out]; rfl) (by simp (maxDischargeDepth := 99))

theorem cmp_any (x y : B) (w : World) : Calls Try.prog 59 #[av x, av y] w (Ret (.int .i64 (cmpB x y)) w) := by
  have hc := Lib.hid (cmp_words x y)
  by_cases c1 : hi x < hi y
  · have e := Lib.hid (show cmpB x y = -1 by rw [hc.out, if_pos c1])
    go_enter Try.func59, Try.ntmps59
    go_wp2_with fail
    refine wp_loop_rounds 1 ?_
    rw [rounds_succ]
    go_wp2_with fail
    refine region_ext _ (by first | exact Later.ext _ _ | exact Later.refl _) mixed (by kernel_rfl) ?_
    repeat (go_big_quiet_step (fail))
    refine wpQuiet_nil ?_
    rintro _ ⟨q1, rfl⟩
    go_wp2_with fail
    go_ret
    exact Ret.of (by rw [e.out]; rfl) (by simp (maxDischargeDepth := 99))
  by_cases c2 : hi y < hi x
  · have e := Lib.hid (show cmpB x y = 1 by rw [hc.out, if_neg c1, if_pos c2])
    go_enter Try.func59, Try.ntmps59
    go_wp2_with fail
    refine wp_loop_rounds 1 ?_
    rw [rounds_succ]
    go_wp2_with fail
    refine region_ext _ (by first | exact Later.ext _ _ | exact Later.refl _) mixed (by kernel_rfl) ?_
    repeat (go_big_quiet_step (fail))
    refine wpQuiet_nil ?_
    rintro _ ⟨q1, rfl⟩
    go_wp2_with fail
    refine region_ext _ (by first | exact Later.ext _ _ | exact Later.refl _) mixed (by kernel_rfl) ?_
    repeat (go_big_quiet_step (fail))
    refine wpQuiet_nil ?_
    rintro _ ⟨q2, rfl⟩
    go_wp2_with fail
    go_ret
    exact Ret.of (by rw [e.out]; rfl) (by simp (maxDischargeDepth := 99))
  by_cases c3 : lo x < lo y
  · have e := Lib.hid (show cmpB x y = -1 by rw [hc.out, if_neg c1, if_neg c2, if_pos c3])
    go_enter Try.func59, Try.ntmps59
    go_wp2_with fail
    refine wp_loop_rounds 2 ?_
    rw [rounds_succ]
    go_wp2_with fail
    refine region_ext _ (by first | exact Later.ext _ _ | exact Later.refl _) mixed (by kernel_rfl) ?_
    repeat (go_big_quiet_step (fail))
    refine wpQuiet_nil ?_
    rintro _ ⟨q, rfl⟩
    go_wp2_with fail
    refine region_ext _ (by first | exact Later.ext _ _ | exact Later.refl _) mixed (by kernel_rfl) ?_
    repeat (go_big_quiet_step (fail))
    refine wpQuiet_nil ?_
    rintro _ ⟨q, rfl⟩
    go_wp2_with fail
    rw [rounds_succ]
    go_wp2_with fail
    refine region_ext _ (by first | exact Later.ext _ _ | exact Later.refl _) mixed (by kernel_rfl) ?_
    repeat (go_big_quiet_step (fail))
    refine wpQuiet_nil ?_
    rintro _ ⟨q, rfl⟩
    go_wp2_with fail
    go_ret
    exact Ret.of (by rw [e.out]; rfl) (by simp (maxDischargeDepth := 99))
  by_cases c4 : lo y < lo x
  · have e := Lib.hid (show cmpB x y = 1 by rw [hc.out, if_neg c1, if_neg c2, if_neg c3, if_pos c4])
    go_enter Try.func59, Try.ntmps59
    go_wp2_with fail
    refine wp_loop_rounds 2 ?_
    rw [rounds_succ]
    go_wp2_with fail
    refine region_ext _ (by first | exact Later.ext _ _ | exact Later.refl _) mixed (by kernel_rfl) ?_
    repeat (go_big_quiet_step (fail))
    refine wpQuiet_nil ?_
    rintro _ ⟨q, rfl⟩
    go_wp2_with fail
    refine region_ext _ (by first | exact Later.ext _ _ | exact Later.refl _) mixed (by kernel_rfl) ?_
    repeat (go_big_quiet_step (fail))
    refine wpQuiet_nil ?_
    rintro _ ⟨q, rfl⟩
    go_wp2_with fail
    rw [rounds_succ]
    go_wp2_with fail
    refine region_ext _ (by first | exact Later.ext _ _ | exact Later.refl _) mixed (by kernel_rfl) ?_
    repeat (go_big_quiet_step (fail))
    refine wpQuiet_nil ?_
    rintro _ ⟨q, rfl⟩
    go_wp2_with fail
    refine region_ext _ (by first | exact Later.ext _ _ | exact Later.refl _) mixed (by kernel_rfl) ?_
    repeat (go_big_quiet_step (fail))
    refine wpQuiet_nil ?_
    rintro _ ⟨q, rfl⟩
    go_wp2_with fail
    go_ret
    exact Ret.of (by rw [e.out]; rfl) (by simp (maxDischargeDepth := 99))
  have e := Lib.hid (show cmpB x y = 0 by rw [hc.out, if_neg c1, if_neg c2, if_neg c3, if_neg c4])
  go_enter Try.func59, Try.ntmps59
  go_wp2_with fail
  refine wp_loop_rounds 3 ?_
  rw [rounds_succ]
  go_wp2_with fail
  refine region_ext _ (by first | exact Later.ext _ _ | exact Later.refl _) mixed (by kernel_rfl) ?_
  repeat (go_big_quiet_step (fail))
  refine wpQuiet_nil ?_
  rintro _ ⟨q, rfl⟩
  go_wp2_with fail
  refine region_ext _ (by first | exact Later.ext _ _ | exact Later.refl _) mixed (by kernel_rfl) ?_
  repeat (go_big_quiet_step (fail))
  refine wpQuiet_nil ?_
  rintro _ ⟨q, rfl⟩
  go_wp2_with fail
  rw [rounds_succ]
  go_wp2_with fail
  refine region_ext _ (by first | exact Later.ext _ _ | exact Later.refl _) mixed (by kernel_rfl) ?_
  repeat (go_big_quiet_step (fail))
  refine wpQuiet_nil ?_
  rintro _ ⟨q, rfl⟩
  go_wp2_with fail
  refine region_ext _ (by first | exact Later.ext _ _ | exact Later.refl _) mixed (by kernel_rfl) ?_
  repeat (go_big_quiet_step (fail))
  refine wpQuiet_nil ?_
  rintro _ ⟨q, rfl⟩
  go_wp2_with fail
  rw [rounds_succ]
  go_wp2_with fail
  go_ret
  exact Ret.of (by rw [e.out]; rfl) (by simp (maxDischargeDepth := 99))
end Go.Proofs.Ytjkhdjonlppdoaa
