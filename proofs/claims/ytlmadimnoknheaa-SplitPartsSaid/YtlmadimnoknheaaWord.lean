/- What each function of package word hands back: the contracts over the program. -/
import Derived.Test.YtlmadimnoknheaaPrefix
import Derived.Test.YtlmadimnoknheaaMathW
import Derived.Test.YtlmadimnoknheaaKit3
namespace Go.Proofs.Ytlmadimnoknheaa
open Go.RowKit Pg

/-- A word as a value. -/
abbrev wv (x m : B) : Value := .agg #[.int .u64 (hi x), .int .u64 (lo x), .int .u64 (hi m), .int .u64 (lo m)]
theorem under_word : Try.prog.underlying 26 = some (.struct (Try.prog.fieldsOf 26)) := by kernel_rfl
theorem stood_word : Try.prog.stoodInHeld 26 = false := by kernel_rfl
@[go_sem] theorem eq_word (d : Nat) (x m y n : B) (w : World) : (Op.equalIn (d + 3) 26 (wv x m) (wv y n)).run Try.prog w = .ok (decide (x = y) && decide (m = n)) w := by
  rw [run_equalIn_struct w (d + 2) _ _ _ under_word stood_word]
  simp [go_sem]
  by_cases h1 : x = y <;> by_cases h2 : m = n <;> simp [h1, h2]
@[go_sem] theorem eq_addr_zz (d : Nat) (w : World) : (Op.equalIn (d + 2) 24 (.agg #[.int .u64 0, .int .u64 0]) (.agg #[.int .u64 0, .int .u64 0])).run Try.prog w = .ok true w := by
  have h := eq_addr d 0#128 0#128 w
  rwa [decide_eq_true rfl] at h
@[go_sem] theorem eq_pair_zz (d : Nat) (w : World) : (Op.equalIn (d + 2) 23 (.agg #[.int .u64 0, .int .u64 0]) (.agg #[.int .u64 0, .int .u64 0])).run Try.prog w = .ok true w := by
  have h := eq_pair d 0#128 0#128 w
  rwa [decide_eq_true rfl] at h
theorem differ_any (a b m : B) (w : World) : Calls Try.prog 42 #[av a, av b, av m] w (Ret (av (differB a b m)) w) := by
  go_enter Try.func42, Try.ntmps42
  go_wp2_with fail
  refine region_ext_tail _ (by first | exact Later.ext _ _ | exact Later.refl _) 5 mixed (by kernel_rfl) ?_
  simp only [List.take_succ_cons, List.take_zero, List.drop_succ_cons, List.drop_zero]
  repeat (go_big_quiet_step ((first | (go_at_call 50; exact calls_in (xor_any _ _ _)) | (go_at_call 38; exact calls_in (and_any _ _ _)))))
  refine wpQuiet_nil ?_
  rintro _ ⟨q, rfl⟩
  go_wp2_with fail
  exact bodyPost_ret (v := av (differB a b m)) (by simp [results, Try.results42, go_sem, differB]) rfl (Ret.mk (by simp (maxDischargeDepth := 99)))
theorem clean_any (x m : B) (w : World) : Calls Try.prog 45 #[wv x m] w (Ret (wv (x &&& m) m) w) := by
  go_enter Try.func45, Try.ntmps45
  go_wp2_with fail
  refine region_ext_tail _ (by first | exact Later.ext _ _ | exact Later.refl _) 8 mixed (by kernel_rfl) ?_
  simp only [List.take_succ_cons, List.take_zero, List.drop_succ_cons, List.drop_zero]
  repeat (go_big_quiet_step ((first | (go_at_call 38; exact calls_in (and_any _ _ _)))))
  refine wpQuiet_nil ?_
  rintro _ ⟨q, rfl⟩
  go_wp2_with fail
  exact bodyPost_ret (v := wv (x &&& m) m) (by simp [results, Try.results45, go_sem, wv]) rfl (Ret.mk (by simp (maxDischargeDepth := 99)))
theorem wof_any (x : B) (n : Int) (w : World) : Calls Try.prog 26 #[pv x n] w (Ret (wv (x &&& maskB (near n)) (maskB (near n))) w) := by
  have e1 := Lib.hid (near_nat (near n) (near_le n))
  go_enter Try.func26, Try.ntmps26
  go_wp2_with (first | (go_at_call 27; first | ((refine (calls_in (make_any _ _ _)).mono ?_); rintro e w1 ⟨rfl, q1, rfl⟩) | ((refine (make_any _ _ _).mono ?_); rintro e w1 ⟨rfl, q1, rfl⟩)))
  refine named fun w2 hw2 => ?_
  have hb : Blk w2 w.heap.size 60 #[.int .u64 (hi (x &&& maskB (near n))), .int .u64 (lo (x &&& maskB (near n))), .int .i64 (near n : Int)] := by
    rw [hw2]
    exact Blk.set_ (Blk.set_ (Blk.set_ (Blk.ext (Blk.alloc (Blk.new _ _ _) _) _) 0 _) 1 _) 2 _
  have hr : Blk w2 (w.heap.size + 1) 26 #[.int .u64 0, .int .u64 0, .int .u64 0, .int .u64 0] := by
    rw [hw2]
    exact Blk.far (Blk.far (Blk.far (Blk.ext (Blk.new' _ _ _ (by simp)) _) (by simp) _) (by simp) _) (by simp) _
  have hkw : Kept w w2 := by rw [hw2]; simp (maxDischargeDepth := 99)
  obtain ⟨r0, r1, r2, r3, rl⟩ := Blk.four hr
  have rf := Blk.frozen hr
  obtain ⟨c0, c1, c2, bl⟩ := Blk.three hb
  clear hw2 hr hb
  refine region_ext_tail _ (by first | exact Later.ext _ _ | exact Later.refl _) 6 mixed (by kernel_rfl) ?_
  simp only [List.take_succ_cons, List.take_zero, List.drop_succ_cons, List.drop_zero]
  repeat (go_big_quiet_step ((first | (go_at_call 43; exact calls_in (mask_any _ _)))))
  refine wpQuiet_nil ?_
  rintro _ ⟨q, rfl⟩
  go_wp2_with fail
  refine bodyPost_ret (v := wv (x &&& maskB (near n)) (maskB (near n))) ?_ rfl (Ret.mk (by simp (maxDischargeDepth := 99) [hkw]))
  simp [results, Try.results26, go_sem, wv, e1.out, r0, r1, r2, r3, rl]
theorem wmatch_any (x m a : B) (w : World) : Calls Try.prog 25 #[wv x m, av a] w (Ret (.bool (matchW x m a)) w) := by
  go_enter Try.func25, Try.ntmps25
  go_wp2_with (first | (go_at_call 42; first | ((refine (calls_in (differ_any _ _ _ _)).mono ?_); rintro e w1 ⟨rfl, q1, rfl⟩) | ((refine (differ_any _ _ _ _).mono ?_); rintro e w1 ⟨rfl, q1, rfl⟩)))
  go_ret
  exact Ret.of (rfl) (by simp (maxDischargeDepth := 99))
theorem wmatch_as {b : Bool} {x m a : B} (h : matchW x m a = b) (w : World) : Calls Try.prog 25 #[wv x m, av a] w (Ret (.bool b) w) := by rw [← h]; exact wmatch_any x m a w
theorem wmeet_any (x m y n : B) (w : World) : Calls Try.prog 30 #[wv x m, wv y n] w (Ret (.bool (meetW x m y n)) w) := by
  go_enter Try.func30, Try.ntmps30
  go_wp2_with fail
  refine region_ext _ (by first | exact Later.ext _ _ | exact Later.refl _) mixed (by kernel_rfl) ?_
  repeat (go_big_quiet_step ((first | (go_at_call 38; exact calls_in (and_any _ _ _)) | (go_at_call 42; exact calls_in (differ_any _ _ _ _)))))
  refine wpQuiet_nil ?_
  rintro _ ⟨q, rfl⟩
  go_wp2_with fail
  go_ret
  exact Ret.of (rfl) (by simp (maxDischargeDepth := 99))
theorem wmeet_as {b : Bool} {x m y n : B} (h : meetW x m y n = b) (w : World) : Calls Try.prog 30 #[wv x m, wv y n] w (Ret (.bool b) w) := by rw [← h]; exact wmeet_any x m y n w
theorem wboth_no {x m y n : B} (h : meetW x m y n = false) (w : World) : Calls Try.prog 28 #[wv x m, wv y n] w (Ret (.tuple #[wv 0#128 0#128, .bool false]) w) := by
  have H := Lib.hid h
  clear h
  go_enter Try.func28, Try.ntmps28
  go_wp2_with (first | (go_at_call 30; first | ((refine (calls_in (wmeet_as H.out _)).mono ?_); rintro e w1 ⟨rfl, q1, rfl⟩) | ((refine (wmeet_as H.out _).mono ?_); rintro e w1 ⟨rfl, q1, rfl⟩)))
  exact bodyPost_ret (v := .tuple #[wv 0#128 0#128, .bool false]) (by simp [results, Try.results28, go_sem, wv]) rfl (Ret.mk (by simp (maxDischargeDepth := 99)))
set_option maxRecDepth 100000 in
theorem wboth_yes {x m y n : B} (h : meetW x m y n = true) (w : World) : Calls Try.prog 28 #[wv x m, wv y n] w (Ret (.tuple #[wv ((x &&& m) ||| (y &&& n)) (m ||| n), .bool true]) w) := by
  have H := Lib.hid h
  clear h
  go_enter Try.func28, Try.ntmps28
  go_wp2_with (first | (go_at_call 30; first | ((refine (calls_in (wmeet_as H.out _)).mono ?_); rintro e w1 ⟨rfl, q1, rfl⟩) | ((refine (wmeet_as H.out _).mono ?_); rintro e w1 ⟨rfl, q1, rfl⟩)))
  refine region_ext_tail _ (by first | exact Later.ext _ _ | exact Later.refl _) 4 mixed (by kernel_rfl) ?_
  simp only [List.take_succ_cons, List.take_zero, List.drop_succ_cons, List.drop_zero]
  repeat (go_big_quiet_step ((first | (go_at_call 45; exact calls_in (clean_any _ _ _)))))
  refine wpQuiet_nil ?_
  rintro _ ⟨q, rfl⟩
  go_wp2_with fail
  refine named fun w2 hw2 => ?_
  have hb : Blk w2 w.heap.size 26 #[.int .u64 (hi (x &&& m)), .int .u64 (lo (x &&& m)), .int .u64 (hi m), .int .u64 (lo m)] := by
    rw [hw2]
    have h1 : ¬ w.heap.size = w.heap.size + 1 := by omega
    exact Blk.far (Blk.far (Blk.far (Blk.far (Blk.set_ (Blk.set_ (Blk.set_ (Blk.set_ (Blk.ext (Blk.alloc (Blk.alloc (Blk.new _ _ _) _) _) _) 0 _) 1 _) 2 _) 3 _) h1 _) h1 _) h1 _) h1 _
  have hb2 : Blk w2 (w.heap.size + 1) 26 #[.int .u64 (hi (y &&& n)), .int .u64 (lo (y &&& n)), .int .u64 (hi n), .int .u64 (lo n)] := by
    rw [hw2]
    have h1 : ¬ w.heap.size + 1 = w.heap.size := by omega
    exact Blk.set_ (Blk.set_ (Blk.set_ (Blk.set_ (Blk.far (Blk.far (Blk.far (Blk.far (Blk.ext (Blk.alloc (Blk.new' _ _ _ (by simp)) _) _) h1 _) h1 _) h1 _) h1 _) 0 _) 1 _) 2 _) 3 _
  have hr : Blk w2 (w.heap.size + 1 + 1) 26 #[.int .u64 0, .int .u64 0, .int .u64 0, .int .u64 0] := by
    rw [hw2]
    have h1 : ¬ w.heap.size + 1 + 1 = w.heap.size := by omega
    have h2 : ¬ w.heap.size + 1 + 1 = w.heap.size + 1 := by omega
    exact Blk.far (Blk.far (Blk.far (Blk.far (Blk.far (Blk.far (Blk.far (Blk.far (Blk.ext (Blk.new' _ _ _ (by simp)) _) h1 _) h1 _) h1 _) h1 _) h2 _) h2 _) h2 _) h2 _
  have hkw : Kept w w2 := by rw [hw2]; simp (maxDischargeDepth := 99)
  obtain ⟨r0, r1, r2, r3, rl⟩ := Blk.four hr
  have rf := Blk.frozen hr
  obtain ⟨c0, c1, c2, c3, bl⟩ := Blk.four hb
  obtain ⟨d0, d1, d2, d3, bl2⟩ := Blk.four hb2
  clear hw2 hr hb hb2
  refine region_ext_tail _ (by first | exact Later.ext _ _ | exact Later.refl _) 11 mixed (by kernel_rfl) ?_
  simp only [List.take_succ_cons, List.take_zero, List.drop_succ_cons, List.drop_zero]
  repeat (go_big_quiet_step ((first | (go_at_call 46; exact calls_in (or_any _ _ _)))))
  refine wpQuiet_nil ?_
  rintro _ ⟨q, rfl⟩
  go_wp2_with fail
  refine bodyPost_ret (v := .tuple #[wv ((x &&& m) ||| (y &&& n)) (m ||| n), .bool true]) ?_ rfl (Ret.mk (by simp (maxDischargeDepth := 99) [hkw]))
  simp [results, Try.results28, go_sem, wv, r0, r1, r2, r3, rl]
end Go.Proofs.Ytlmadimnoknheaa
