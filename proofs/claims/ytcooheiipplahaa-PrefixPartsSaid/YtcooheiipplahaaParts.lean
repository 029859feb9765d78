/- Parents and siblings of prefixes: the contracts over the program. -/
import Derived.Test.YtcooheiipplahaaPrefix
import Derived.Test.YtcooheiipplahaaKit3
namespace Go.Proofs.Ytcooheiipplahaa
open Go.RowKit Pg

theorem setB_self (x : B) (k : Nat) (hk : k < 128) : setB x k (bt x k) = x := by
  apply ext_bt; intro i hi
  rw [bt_setB x k _ hk i hi]
  split
  · rename_i h; rw [h]
  · rfl
theorem parent1_any (b : Bool) (w : World) : Calls Try.prog 43 #[.bool b] w (Ret (.bool b) w) := by
  go_enter Try.func43, Try.ntmps43
  go_wp2_with fail
  go_ret
  exact Ret.of (rfl) (by simp (maxDischargeDepth := 99))
theorem bitParent_no (x : B) (n m : Int) (h : ¬ (1 ≤ n ∧ n ≤ 128)) (w : World) : Calls Try.prog 42 #[pv x n, .int .i64 m, .func (.func 43) #[] #[]] w (Ret (.tuple #[pv 0#128 0, .bool false]) w) := by
  by_cases h1 : n < 1
  · go_enter Try.func42, Try.ntmps42
    go_wp2_with fail
    exact bodyPost_ret (v := .tuple #[pv 0#128 0, .bool false]) (by simp [results, Try.results42, go_sem, pv]) rfl (Ret.mk (by simp (maxDischargeDepth := 99)))
  · have h2 : 128 < n := by omega
    go_enter Try.func42, Try.ntmps42
    go_wp2_with fail
    exact bodyPost_ret (v := .tuple #[pv 0#128 0, .bool false]) (by simp [results, Try.results42, go_sem, pv]) rfl (Ret.mk (by simp (maxDischargeDepth := 99)))
set_option maxRecDepth 100000 in
theorem bitParent_yes (x : B) (k : Nat) (m : Int) (hk : k < 128) (w : World) : Calls Try.prog 42 #[pv x (k + 1), .int .i64 m, .func (.func 43) #[] #[]] w (Ret (.tuple #[pv (setB x k (bt x k) &&& maskB (near m)) (near m), .bool true]) w) := by
  have c1 : ¬ ((k : Int) + 1 < 1) := by omega
  have c2 : ¬ (128 < (k : Int) + 1) := by omega
  have c3 : (k : Int) + 1 - 1 = k := by omega
  go_enter Try.func42, Try.ntmps42
  go_wp2_with fail
  refine region_var1 _ (by first | exact Later.ext _ _ | exact Later.refl _) 14 8 31 24 #[.int .u64 0, .int .u64 0] _ mixed rfl (by kernel_rfl) (by kernel_rfl) (by decide) (fun _ _ => by kernel_rfl) ?_
  apply Exists.intro
  refine And.intro (fun I hI hne => ?_) ?_
  · simp only [Nat.reduceAdd, List.take_succ_cons, List.take_zero, List.drop_succ_cons, List.drop_zero, List.cons_append, List.nil_append]
    repeat (go_big_quiet_step ((first | (go_at_call 50; exact calls_reg hI (getbit_in _ _ hk _)) | (go_at_call 43; exact calls_reg hI (parent1_any _ _)) | (go_at_call 49; exact calls_reg hI (with_in _ _ hk _ _)))))
    exact wpQuiet_nil rfl
  apply Exists.intro
  refine And.intro ⟨rfl, rfl, by simp [Value.oneCell'], by kernel_rfl⟩ ?_
  simp only [Act.put, List.setIfInBounds_toArray, List.set_cons_succ, List.set_cons_zero]
  intro g w2 hk2 hg2 hb2
  obtain ⟨a0, a1, al⟩ := Blk.two hb2
  have hr : Blk w2 (w.heap.size + 1) 26 #[.int .u64 0, .int .u64 0, .int .i64 0] := Blk.kept (Blk.new' _ _ _ (by simp)) hk2
  obtain ⟨r0, r1, r2, rl⟩ := Blk.three hr
  have rf := Blk.frozen hr
  have hkw : Kept w w2 := Kept.trans (by simp) hk2
  clear hr hb2 hk2 hg2
  go_wp2_with (first | (go_at_call 20; first | ((refine (calls_in (make_any _ _ _)).mono ?_); rintro e w1 ⟨rfl, q1, rfl⟩) | ((refine (make_any _ _ _).mono ?_); rintro e w1 ⟨rfl, q1, rfl⟩)))
  exact bodyPost_ret (v := .tuple #[pv (setB x k (bt x k) &&& maskB (near m)) (near m), .bool true]) (by simp [results, Try.results42, go_sem, pv, r0, r1, r2, rl]) rfl (Ret.mk (by simp (maxDischargeDepth := 99) [hkw]))
theorem parent_no (x : B) (n : Int) (h : ¬ (1 ≤ n ∧ n ≤ 128)) (w : World) : Calls Try.prog 28 #[pv x n] w (Ret (.tuple #[pv 0#128 0, .bool false]) w) := by
  go_enter Try.func28, Try.ntmps28
  go_wp2_with (first | (go_at_call 42; first | ((refine (calls_in (bitParent_no _ _ _ h _)).mono ?_); rintro e w1 ⟨rfl, q1, rfl⟩) | ((refine (bitParent_no _ _ _ h _).mono ?_); rintro e w1 ⟨rfl, q1, rfl⟩)))
  exact bodyPost_ret (v := .tuple #[pv 0#128 0, .bool false]) (by simp [results, Try.results28, go_sem, pv]) rfl (Ret.mk (by simp (maxDischargeDepth := 99)))
theorem parent_yes (x : B) (k : Nat) (hk : k < 128) (w : World) : Calls Try.prog 28 #[pv x (k + 1)] w (Ret (.tuple #[pv (x &&& maskB k) (k : Nat), .bool true]) w) := by
  have c3 : (k : Int) + 1 - 1 = k := by omega
  have hc : ∀ w, Calls Try.prog 42 #[pv x (k + 1), .int .i64 (k : Int), .func (.func 43) #[] #[]] w (Ret (.tuple #[pv (x &&& maskB k) (k : Nat), .bool true]) w) := fun w => by
    have h := bitParent_yes x k (k : Int) hk w
    rw [show near (k : Int) = k by unfold near; omega, setB_self x k hk] at h
    exact h
  have hc := Lib.hid hc
  go_enter Try.func28, Try.ntmps28
  go_wp2_with (first | (go_at_call 42; first | ((refine (calls_in (hc.out _)).mono ?_); rintro e w1 ⟨rfl, q1, rfl⟩) | ((refine (hc.out _).mono ?_); rintro e w1 ⟨rfl, q1, rfl⟩)))
  exact bodyPost_ret (v := .tuple #[pv (x &&& maskB k) (k : Nat), .bool true]) (by simp [results, Try.results28, go_sem, pv]) rfl (Ret.mk (by simp (maxDischargeDepth := 99)))
theorem sibling1_any (b : Bool) (w : World) : Calls Try.prog 44 #[.bool b] w (Ret (.bool (!b)) w) := by
  go_enter Try.func44, Try.ntmps44
  go_wp2_with fail
  go_ret
  exact Ret.of (rfl) (by simp (maxDischargeDepth := 99))
theorem bitSibling_no (x : B) (n m : Int) (h : ¬ (1 ≤ n ∧ n ≤ 128)) (w : World) : Calls Try.prog 42 #[pv x n, .int .i64 m, .func (.func 44) #[] #[]] w (Ret (.tuple #[pv 0#128 0, .bool false]) w) := by
  by_cases h1 : n < 1
  · go_enter Try.func42, Try.ntmps42
    go_wp2_with fail
    exact bodyPost_ret (v := .tuple #[pv 0#128 0, .bool false]) (by simp [results, Try.results42, go_sem, pv]) rfl (Ret.mk (by simp (maxDischargeDepth := 99)))
  · have h2 : 128 < n := by omega
    go_enter Try.func42, Try.ntmps42
    go_wp2_with fail
    exact bodyPost_ret (v := .tuple #[pv 0#128 0, .bool false]) (by simp [results, Try.results42, go_sem, pv]) rfl (Ret.mk (by simp (maxDischargeDepth := 99)))
set_option maxRecDepth 100000 in
theorem bitSibling_yes (x : B) (k : Nat) (m : Int) (hk : k < 128) (w : World) : Calls Try.prog 42 #[pv x (k + 1), .int .i64 m, .func (.func 44) #[] #[]] w (Ret (.tuple #[pv (setB x k (!bt x k) &&& maskB (near m)) (near m), .bool true]) w) := by
  have c1 : ¬ ((k : Int) + 1 < 1) := by omega
  have c2 : ¬ (128 < (k : Int) + 1) := by omega
  have c3 : (k : Int) + 1 - 1 = k := by omega
  go_enter Try.func42, Try.ntmps42
  go_wp2_with fail
  refine region_var1 _ (by first | exact Later.ext _ _ | exact Later.refl _) 14 8 31 24 #[.int .u64 0, .int .u64 0] _ mixed rfl (by kernel_rfl) (by kernel_rfl) (by decide) (fun _ _ => by kernel_rfl) ?_
  apply Exists.intro
  refine And.intro (fun I hI hne => ?_) ?_
  · simp only [Nat.reduceAdd, List.take_succ_cons, List.take_zero, List.drop_succ_cons, List.drop_zero, List.cons_append, List.nil_append]
    repeat (go_big_quiet_step ((first | (go_at_call 50; exact calls_reg hI (getbit_in _ _ hk _)) | (go_at_call 44; exact calls_reg hI (sibling1_any _ _)) | (go_at_call 49; exact calls_reg hI (with_in _ _ hk _ _)))))
    exact wpQuiet_nil rfl
  apply Exists.intro
  refine And.intro ⟨rfl, rfl, by simp [Value.oneCell'], by kernel_rfl⟩ ?_
  simp only [Act.put, List.setIfInBounds_toArray, List.set_cons_succ, List.set_cons_zero]
  intro g w2 hk2 hg2 hb2
  obtain ⟨a0, a1, al⟩ := Blk.two hb2
  have hr : Blk w2 (w.heap.size + 1) 26 #[.int .u64 0, .int .u64 0, .int .i64 0] := Blk.kept (Blk.new' _ _ _ (by simp)) hk2
  obtain ⟨r0, r1, r2, rl⟩ := Blk.three hr
  have rf := Blk.frozen hr
  have hkw : Kept w w2 := Kept.trans (by simp) hk2
  clear hr hb2 hk2 hg2
  go_wp2_with (first | (go_at_call 20; first | ((refine (calls_in (make_any _ _ _)).mono ?_); rintro e w1 ⟨rfl, q1, rfl⟩) | ((refine (make_any _ _ _).mono ?_); rintro e w1 ⟨rfl, q1, rfl⟩)))
  exact bodyPost_ret (v := .tuple #[pv (setB x k (!bt x k) &&& maskB (near m)) (near m), .bool true]) (by simp [results, Try.results42, go_sem, pv, r0, r1, r2, rl]) rfl (Ret.mk (by simp (maxDischargeDepth := 99) [hkw]))
theorem sibling_no (x : B) (n : Int) (h : ¬ (1 ≤ n ∧ n ≤ 128)) (w : World) : Calls Try.prog 29 #[pv x n] w (Ret (.tuple #[pv 0#128 0, .bool false]) w) := by
  go_enter Try.func29, Try.ntmps29
  go_wp2_with (first | (go_at_call 42; first | ((refine (calls_in (bitSibling_no _ _ _ h _)).mono ?_); rintro e w1 ⟨rfl, q1, rfl⟩) | ((refine (bitSibling_no _ _ _ h _).mono ?_); rintro e w1 ⟨rfl, q1, rfl⟩)))
  exact bodyPost_ret (v := .tuple #[pv 0#128 0, .bool false]) (by simp [results, Try.results29, go_sem, pv]) rfl (Ret.mk (by simp (maxDischargeDepth := 99)))
theorem sibling_yes (x : B) (k : Nat) (hk : k < 128) (w : World) : Calls Try.prog 29 #[pv x (k + 1)] w (Ret (.tuple #[pv ((setB x k (!bt x k)) &&& maskB (k + 1)) ((k + 1) : Nat), .bool true]) w) := by
  have c3 : (k : Int) + 1 - 1 = k := by omega
  have hc : ∀ w, Calls Try.prog 42 #[pv x (k + 1), .int .i64 (k + 1), .func (.func 44) #[] #[]] w (Ret (.tuple #[pv ((setB x k (!bt x k)) &&& maskB (k + 1)) ((k + 1) : Nat), .bool true]) w) := fun w => by
    have h := bitSibling_yes x k (k + 1) hk w
    rw [show near (k + 1) = (k + 1) by unfold near; omega] at h
    exact h
  have hc := Lib.hid hc
  go_enter Try.func29, Try.ntmps29
  go_wp2_with (first | (go_at_call 42; first | ((refine (calls_in (hc.out _)).mono ?_); rintro e w1 ⟨rfl, q1, rfl⟩) | ((refine (hc.out _).mono ?_); rintro e w1 ⟨rfl, q1, rfl⟩)))
  exact bodyPost_ret (v := .tuple #[pv ((setB x k (!bt x k)) &&& maskB (k + 1)) ((k + 1) : Nat), .bool true]) (by simp [results, Try.results29, go_sem, pv]) rfl (Ret.mk (by simp (maxDischargeDepth := 99)))
end Go.Proofs.Ytcooheiipplahaa
