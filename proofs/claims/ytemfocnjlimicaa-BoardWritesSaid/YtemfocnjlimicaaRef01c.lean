/- What each function of the reference of layer 1 hands back, those that build a row: the contracts over the program. What the reference of layer 1 hands back bit by bit of two addresses: and, or, one of both alone: the contracts over the program. -/
import Derived.Test.YtemfocnjlimicaaRef01
import Derived.Test.YtemfocnjlimicaaKit1
namespace Go.Proofs.Ytemfocnjlimicaa
open Go.RowKit Pg

theorem info_bool : (Try.prog.info? 4).map (fun i => (i.zero, i.size, i.bytes)) = some (some (.bool false), 1, 1) := by kernel_rfl
theorem range_snoc (k : Nat) (f : Nat → Bool) : ((List.range k).map fun i => Value.bool (f i)) ++ [.bool (f k)] = (List.range (k + 1)).map fun i => Value.bool (f i) := by
  rw [List.range_succ, List.map_append]; rfl
theorem range_get (k i : Nat) (f : Nat → Bool) (h : i < k) : ((List.range k).map fun i => Value.bool (f i))[i]? = some (.bool (f i)) := by simp [h]

end Go.Proofs.Ytemfocnjlimicaa
namespace Go.Proofs.Ytemfocnjlimicaa
open Go.RowKit Pg

set_option maxHeartbeats 1000000 in
set_option maxRecDepth 100000 in
theorem refop0_any (x y : B) (w : World) : Calls Try.prog 58 #[.int .i64 0, av x, av y] w (Ret (av (x &&& y)) w) := by
  go_enter Try.func58, Try.ntmps58
  go_wp2_with fail
  refine (bits_any x _).mono ?_
  rintro e w1 ⟨g1, rfl, hg1, hb1, p1, rfl⟩
  have hl1 := hb1.lt
  go_wp2_with fail
  refine (calls_in_bits (bits_any y _)).mono ?_
  rintro e w2 ⟨g2, rfl, hg2, hb2, p2, rfl, hk2⟩
  have HB1 := Lib.hid (Blk.kept hb1 hk2)
  have HB2 := Lib.hid hb2
  clear hb1 hb2 hk2
  go_wp2_with fail
  go_loopw [9, 10, 11] (fun vo vk _ wr => ∃ (W0 : World) (k : Nat), k ≤ 128 ∧ vk = .int .i64 k ∧ Kept w W0 ∧ IsBits W0 g1 4 (bt x) ∧ IsBits W0 g2 4 (bt y) ∧ Blk W0 (w.heap.size + 1 + 1) 24 #[.int .u64 0, .int .u64 0] ∧ Own W0 wr 4 1 vo k ((List.range k).map fun i : Nat => .bool (bt x i && bt y i))) (fun _ k _ _ => 128 - (intOf k).toNat)
  case atStart => exact ⟨_, 0, by omega, rfl, by simp (maxDischargeDepth := 99), HB1.out, HB2.out, Blk.ext (Blk.new' _ _ _ (by simp)) _, Own.nil _ _ (Kept.refl _) _ _⟩
  case round =>
    clear HB1 HB2
    obtain ⟨W0, k, hk, rfl, hkw, hb1, hb2, hr, hown⟩ := hrel
    obtain ⟨p, rfl⟩ := ext_of hown.kept
    have HO := Lib.hid hown
    have HX := Lib.hid (And.intro hkw (And.intro hb1 (And.intro hb2 hr)))
    by_cases hlt : k < 128
    · have c1 := Blk.cell (hb1.ext p) k
      have c2 := Blk.cell (hb2.ext p) k
      rw [bitCells_get _ k hlt] at c1 c2
      have l1 := (hb1.ext p).lt
      have l2 := (hb2.ext p).lt
      clear hown hkw hb1 hb2 hr
      cases e1 : bt x k
      · rw [e1] at c1
        cases e2 : bt y k
        · rw [e2] at c2
          have E1 := Lib.hid e1
          have E2 := Lib.hid e2
          clear e1 e2
          go_wp2_with (at_builtin; refine wpList_push rfl _ _ 88 rfl 4 (.bool false) 1 1 Try.underlying88 info_bool rfl (by omega) u9 k _ rfl (HO.out.alloc _) _ 1 1 [.bool false] rfl rfl (heap_alloc_new _ _) (by simp [Value.oneCell']) (by unfold maxLen; omega) (by omega) ?_; intro v' w1 hown1)
          go_roundw
          case rel => exact ⟨W0, k + 1, by omega, by go_num, HX.out.1, HX.out.2.1, HX.out.2.2.1, HX.out.2.2.2, by rw [← range_snoc k (fun i => bt x i && bt y i), E1.out, E2.out]; exact hown1⟩
          case measure => simp [intOf]; omega
        · rw [e2] at c2
          have E1 := Lib.hid e1
          have E2 := Lib.hid e2
          clear e1 e2
          go_wp2_with (at_builtin; refine wpList_push rfl _ _ 88 rfl 4 (.bool false) 1 1 Try.underlying88 info_bool rfl (by omega) u9 k _ rfl (HO.out.alloc _) _ 1 1 [.bool false] rfl rfl (heap_alloc_new _ _) (by simp [Value.oneCell']) (by unfold maxLen; omega) (by omega) ?_; intro v' w1 hown1)
          go_roundw
          case rel => exact ⟨W0, k + 1, by omega, by go_num, HX.out.1, HX.out.2.1, HX.out.2.2.1, HX.out.2.2.2, by rw [← range_snoc k (fun i => bt x i && bt y i), E1.out, E2.out]; exact hown1⟩
          case measure => simp [intOf]; omega
      · rw [e1] at c1
        cases e2 : bt y k
        · rw [e2] at c2
          have E1 := Lib.hid e1
          have E2 := Lib.hid e2
          clear e1 e2
          go_wp2_with (at_builtin; refine wpList_push rfl _ _ 88 rfl 4 (.bool false) 1 1 Try.underlying88 info_bool rfl (by omega) u9 k _ rfl (HO.out.alloc _) _ 1 1 [.bool false] rfl rfl (heap_alloc_new _ _) (by simp [Value.oneCell']) (by unfold maxLen; omega) (by omega) ?_; intro v' w1 hown1)
          go_roundw
          case rel => exact ⟨W0, k + 1, by omega, by go_num, HX.out.1, HX.out.2.1, HX.out.2.2.1, HX.out.2.2.2, by rw [← range_snoc k (fun i => bt x i && bt y i), E1.out, E2.out]; exact hown1⟩
          case measure => simp [intOf]; omega
        · rw [e2] at c2
          have E1 := Lib.hid e1
          have E2 := Lib.hid e2
          clear e1 e2
          go_wp2_with (at_builtin; refine wpList_push rfl _ _ 88 rfl 4 (.bool false) 1 1 Try.underlying88 info_bool rfl (by omega) u9 k _ rfl (HO.out.alloc _) _ 1 1 [.bool true] rfl rfl (heap_alloc_new _ _) (by simp [Value.oneCell']) (by unfold maxLen; omega) (by omega) ?_; intro v' w1 hown1)
          go_roundw
          case rel => exact ⟨W0, k + 1, by omega, by go_num, HX.out.1, HX.out.2.1, HX.out.2.2.1, HX.out.2.2.2, by rw [← range_snoc k (fun i => bt x i && bt y i), E1.out, E2.out]; exact hown1⟩
          case measure => simp [intOf]; omega
    · have hk128 : k = 128 := by omega
      subst hk128
      obtain ⟨g, c, rfl, hg1', hgl, hc, hcells, _⟩ := HO.out.form (by omega)
      have HC := Lib.hid hcells
      have r0 := Blk.cell hr 0
      have r1 := Blk.cell hr 1
      have rf := Blk.frozen hr
      have rl := hr.lt
      simp only [List.getElem?_toArray, List.getElem?_cons_zero, List.getElem?_cons_succ] at r0 r1
      clear hcells hlt hk hown hb1 hb2 hr hc hg1'
      have hks := hkw.size_le
      go_wp2_with (go_at_call 63; refine (calls_in (words_any (x &&& y) g c _ hgl (fun i hi => by rw [HC.out i (by omega), range_get _ _ (fun i => bt x i && bt y i) hi, bt_and]))).mono ?_; rintro e w1 ⟨rfl, q1, rfl⟩)
      exact bodyPost_ret (v := av (x &&& y)) (by simp [results, Try.results58, go_sem, r0, r1, rl]) rfl (Ret.mk (by simp (maxDischargeDepth := 99) [hkw, Nat.add_assoc]))
set_option maxHeartbeats 1000000 in
set_option maxRecDepth 100000 in
theorem refop1_any (x y : B) (w : World) : Calls Try.prog 58 #[.int .i64 1, av x, av y] w (Ret (av (x ||| y)) w) := by
  go_enter Try.func58, Try.ntmps58
  go_wp2_with fail
  refine (bits_any x _).mono ?_
  rintro e w1 ⟨g1, rfl, hg1, hb1, p1, rfl⟩
  have hl1 := hb1.lt
  go_wp2_with fail
  refine (calls_in_bits (bits_any y _)).mono ?_
  rintro e w2 ⟨g2, rfl, hg2, hb2, p2, rfl, hk2⟩
  have HB1 := Lib.hid (Blk.kept hb1 hk2)
  have HB2 := Lib.hid hb2
  clear hb1 hb2 hk2
  go_wp2_with fail
  go_loopw [9, 10, 11] (fun vo vk _ wr => ∃ (W0 : World) (k : Nat), k ≤ 128 ∧ vk = .int .i64 k ∧ Kept w W0 ∧ IsBits W0 g1 4 (bt x) ∧ IsBits W0 g2 4 (bt y) ∧ Blk W0 (w.heap.size + 1 + 1) 24 #[.int .u64 0, .int .u64 0] ∧ Own W0 wr 4 1 vo k ((List.range k).map fun i : Nat => .bool (bt x i || bt y i))) (fun _ k _ _ => 128 - (intOf k).toNat)
  case atStart => exact ⟨_, 0, by omega, rfl, by simp (maxDischargeDepth := 99), HB1.out, HB2.out, Blk.ext (Blk.new' _ _ _ (by simp)) _, Own.nil _ _ (Kept.refl _) _ _⟩
  case round =>
    clear HB1 HB2
    obtain ⟨W0, k, hk, rfl, hkw, hb1, hb2, hr, hown⟩ := hrel
    obtain ⟨p, rfl⟩ := ext_of hown.kept
    have HO := Lib.hid hown
    have HX := Lib.hid (And.intro hkw (And.intro hb1 (And.intro hb2 hr)))
    by_cases hlt : k < 128
    · have c1 := Blk.cell (hb1.ext p) k
      have c2 := Blk.cell (hb2.ext p) k
      rw [bitCells_get _ k hlt] at c1 c2
      have l1 := (hb1.ext p).lt
      have l2 := (hb2.ext p).lt
      clear hown hkw hb1 hb2 hr
      cases e1 : bt x k
      · rw [e1] at c1
        cases e2 : bt y k
        · rw [e2] at c2
          have E1 := Lib.hid e1
          have E2 := Lib.hid e2
          clear e1 e2
          go_wp2_with (at_builtin; refine wpList_push rfl _ _ 88 rfl 4 (.bool false) 1 1 Try.underlying88 info_bool rfl (by omega) u9 k _ rfl (HO.out.alloc _) _ 1 1 [.bool false] rfl rfl (heap_alloc_new _ _) (by simp [Value.oneCell']) (by unfold maxLen; omega) (by omega) ?_; intro v' w1 hown1)
          go_roundw
          case rel => exact ⟨W0, k + 1, by omega, by go_num, HX.out.1, HX.out.2.1, HX.out.2.2.1, HX.out.2.2.2, by rw [← range_snoc k (fun i => bt x i || bt y i), E1.out, E2.out]; exact hown1⟩
          case measure => simp [intOf]; omega
        · rw [e2] at c2
          have E1 := Lib.hid e1
          have E2 := Lib.hid e2
          clear e1 e2
          go_wp2_with (at_builtin; refine wpList_push rfl _ _ 88 rfl 4 (.bool false) 1 1 Try.underlying88 info_bool rfl (by omega) u9 k _ rfl (HO.out.alloc _) _ 1 1 [.bool true] rfl rfl (heap_alloc_new _ _) (by simp [Value.oneCell']) (by unfold maxLen; omega) (by omega) ?_; intro v' w1 hown1)
          go_roundw
          case rel => exact ⟨W0, k + 1, by omega, by go_num, HX.out.1, HX.out.2.1, HX.out.2.2.1, HX.out.2.2.2, by rw [← range_snoc k (fun i => bt x i || bt y i), E1.out, E2.out]; exact hown1⟩
          case measure => simp [intOf]; omega
      · rw [e1] at c1
        cases e2 : bt y k
        · rw [e2] at c2
          have E1 := Lib.hid e1
          have E2 := Lib.hid e2
          clear e1 e2
          go_wp2_with (at_builtin; refine wpList_push rfl _ _ 88 rfl 4 (.bool false) 1 1 Try.underlying88 info_bool rfl (by omega) u9 k _ rfl (HO.out.alloc _) _ 1 1 [.bool true] rfl rfl (heap_alloc_new _ _) (by simp [Value.oneCell']) (by unfold maxLen; omega) (by omega) ?_; intro v' w1 hown1)
          go_roundw
          case rel => exact ⟨W0, k + 1, by omega, by go_num, HX.out.1, HX.out.2.1, HX.out.2.2.1, HX.out.2.2.2, by rw [← range_snoc k (fun i => bt x i || bt y i), E1.out, E2.out]; exact hown1⟩
          case measure => simp [intOf]; omega
        · rw [e2] at c2
          have E1 := Lib.hid e1
          have E2 := Lib.hid e2
          clear e1 e2
          go_wp2_with (at_builtin; refine wpList_push rfl _ _ 88 rfl 4 (.bool false) 1 1 Try.underlying88 info_bool rfl (by omega) u9 k _ rfl (HO.out.alloc _) _ 1 1 [.bool true] rfl rfl (heap_alloc_new _ _) (by simp [Value.oneCell']) (by unfold maxLen; omega) (by omega) ?_; intro v' w1 hown1)
          go_roundw
          case rel => exact ⟨W0, k + 1, by omega, by go_num, HX.out.1, HX.out.2.1, HX.out.2.2.1, HX.out.2.2.2, by rw [← range_snoc k (fun i => bt x i || bt y i), E1.out, E2.out]; exact hown1⟩
          case measure => simp [intOf]; omega
    · have hk128 : k = 128 := by omega
      subst hk128
      obtain ⟨g, c, rfl, hg1', hgl, hc, hcells, _⟩ := HO.out.form (by omega)
      have HC := Lib.hid hcells
      have r0 := Blk.cell hr 0
      have r1 := Blk.cell hr 1
      have rf := Blk.frozen hr
      have rl := hr.lt
      simp only [List.getElem?_toArray, List.getElem?_cons_zero, List.getElem?_cons_succ] at r0 r1
      clear hcells hlt hk hown hb1 hb2 hr hc hg1'
      have hks := hkw.size_le
      go_wp2_with (go_at_call 63; refine (calls_in (words_any (x ||| y) g c _ hgl (fun i hi => by rw [HC.out i (by omega), range_get _ _ (fun i => bt x i || bt y i) hi, bt_or]))).mono ?_; rintro e w1 ⟨rfl, q1, rfl⟩)
      exact bodyPost_ret (v := av (x ||| y)) (by simp [results, Try.results58, go_sem, r0, r1, rl]) rfl (Ret.mk (by simp (maxDischargeDepth := 99) [hkw, Nat.add_assoc]))
set_option maxHeartbeats 1000000 in
set_option maxRecDepth 100000 in
theorem refop2_any (x y : B) (w : World) : Calls Try.prog 58 #[.int .i64 2, av x, av y] w (Ret (av (x ^^^ y)) w) := by
  go_enter Try.func58, Try.ntmps58
  go_wp2_with fail
  refine (bits_any x _).mono ?_
  rintro e w1 ⟨g1, rfl, hg1, hb1, p1, rfl⟩
  have hl1 := hb1.lt
  go_wp2_with fail
  refine (calls_in_bits (bits_any y _)).mono ?_
  rintro e w2 ⟨g2, rfl, hg2, hb2, p2, rfl, hk2⟩
  have HB1 := Lib.hid (Blk.kept hb1 hk2)
  have HB2 := Lib.hid hb2
  clear hb1 hb2 hk2
  go_wp2_with fail
  go_loopw [9, 10, 11] (fun vo vk _ wr => ∃ (W0 : World) (k : Nat), k ≤ 128 ∧ vk = .int .i64 k ∧ Kept w W0 ∧ IsBits W0 g1 4 (bt x) ∧ IsBits W0 g2 4 (bt y) ∧ Blk W0 (w.heap.size + 1 + 1) 24 #[.int .u64 0, .int .u64 0] ∧ Own W0 wr 4 1 vo k ((List.range k).map fun i : Nat => .bool (bt x i != bt y i))) (fun _ k _ _ => 128 - (intOf k).toNat)
  case atStart => exact ⟨_, 0, by omega, rfl, by simp (maxDischargeDepth := 99), HB1.out, HB2.out, Blk.ext (Blk.new' _ _ _ (by simp)) _, Own.nil _ _ (Kept.refl _) _ _⟩
  case round =>
    clear HB1 HB2
    obtain ⟨W0, k, hk, rfl, hkw, hb1, hb2, hr, hown⟩ := hrel
    obtain ⟨p, rfl⟩ := ext_of hown.kept
    have HO := Lib.hid hown
    have HX := Lib.hid (And.intro hkw (And.intro hb1 (And.intro hb2 hr)))
    by_cases hlt : k < 128
    · have c1 := Blk.cell (hb1.ext p) k
      have c2 := Blk.cell (hb2.ext p) k
      rw [bitCells_get _ k hlt] at c1 c2
      have l1 := (hb1.ext p).lt
      have l2 := (hb2.ext p).lt
      clear hown hkw hb1 hb2 hr
      cases e1 : bt x k
      · rw [e1] at c1
        cases e2 : bt y k
        · rw [e2] at c2
          have E1 := Lib.hid e1
          have E2 := Lib.hid e2
          clear e1 e2
          go_wp2_with fail
          refine region_ext _ (Later.refl _) mixed (by kernel_rfl) ?_
          repeat (go_big_quiet_step (fail))
          refine wpQuiet_nil ?_
          rintro _ ⟨q1, rfl⟩
          go_wp2_with (at_builtin; refine wpList_push rfl _ _ 88 rfl 4 (.bool false) 1 1 Try.underlying88 info_bool rfl (by omega) u9 k _ rfl ((HO.out.ext q1).alloc _) _ 1 1 [.bool false] rfl rfl (heap_alloc_new _ _) (by simp [Value.oneCell']) (by unfold maxLen; omega) (by omega) ?_; intro v' w1 hown1)
          go_roundw
          case rel => exact ⟨W0, k + 1, by omega, by go_num, HX.out.1, HX.out.2.1, HX.out.2.2.1, HX.out.2.2.2, by rw [← range_snoc k (fun i => bt x i != bt y i), E1.out, E2.out]; exact hown1⟩
          case measure => simp [intOf]; omega
        · rw [e2] at c2
          have E1 := Lib.hid e1
          have E2 := Lib.hid e2
          clear e1 e2
          go_wp2_with fail
          refine region_ext _ (Later.refl _) mixed (by kernel_rfl) ?_
          repeat (go_big_quiet_step (fail))
          refine wpQuiet_nil ?_
          rintro _ ⟨q1, rfl⟩
          go_wp2_with (at_builtin; refine wpList_push rfl _ _ 88 rfl 4 (.bool false) 1 1 Try.underlying88 info_bool rfl (by omega) u9 k _ rfl ((HO.out.ext q1).alloc _) _ 1 1 [.bool true] rfl rfl (heap_alloc_new _ _) (by simp [Value.oneCell']) (by unfold maxLen; omega) (by omega) ?_; intro v' w1 hown1)
          go_roundw
          case rel => exact ⟨W0, k + 1, by omega, by go_num, HX.out.1, HX.out.2.1, HX.out.2.2.1, HX.out.2.2.2, by rw [← range_snoc k (fun i => bt x i != bt y i), E1.out, E2.out]; exact hown1⟩
          case measure => simp [intOf]; omega
      · rw [e1] at c1
        cases e2 : bt y k
        · rw [e2] at c2
          have E1 := Lib.hid e1
          have E2 := Lib.hid e2
          clear e1 e2
          go_wp2_with fail
          refine region_ext _ (Later.refl _) mixed (by kernel_rfl) ?_
          repeat (go_big_quiet_step (fail))
          refine wpQuiet_nil ?_
          rintro _ ⟨q1, rfl⟩
          go_wp2_with (at_builtin; refine wpList_push rfl _ _ 88 rfl 4 (.bool false) 1 1 Try.underlying88 info_bool rfl (by omega) u9 k _ rfl ((HO.out.ext q1).alloc _) _ 1 1 [.bool true] rfl rfl (heap_alloc_new _ _) (by simp [Value.oneCell']) (by unfold maxLen; omega) (by omega) ?_; intro v' w1 hown1)
          go_roundw
          case rel => exact ⟨W0, k + 1, by omega, by go_num, HX.out.1, HX.out.2.1, HX.out.2.2.1, HX.out.2.2.2, by rw [← range_snoc k (fun i => bt x i != bt y i), E1.out, E2.out]; exact hown1⟩
          case measure => simp [intOf]; omega
        · rw [e2] at c2
          have E1 := Lib.hid e1
          have E2 := Lib.hid e2
          clear e1 e2
          go_wp2_with fail
          refine region_ext _ (Later.refl _) mixed (by kernel_rfl) ?_
          repeat (go_big_quiet_step (fail))
          refine wpQuiet_nil ?_
          rintro _ ⟨q1, rfl⟩
          go_wp2_with (at_builtin; refine wpList_push rfl _ _ 88 rfl 4 (.bool false) 1 1 Try.underlying88 info_bool rfl (by omega) u9 k _ rfl ((HO.out.ext q1).alloc _) _ 1 1 [.bool false] rfl rfl (heap_alloc_new _ _) (by simp [Value.oneCell']) (by unfold maxLen; omega) (by omega) ?_; intro v' w1 hown1)
          go_roundw
          case rel => exact ⟨W0, k + 1, by omega, by go_num, HX.out.1, HX.out.2.1, HX.out.2.2.1, HX.out.2.2.2, by rw [← range_snoc k (fun i => bt x i != bt y i), E1.out, E2.out]; exact hown1⟩
          case measure => simp [intOf]; omega
    · have hk128 : k = 128 := by omega
      subst hk128
      obtain ⟨g, c, rfl, hg1', hgl, hc, hcells, _⟩ := HO.out.form (by omega)
      have HC := Lib.hid hcells
      have r0 := Blk.cell hr 0
      have r1 := Blk.cell hr 1
      have rf := Blk.frozen hr
      have rl := hr.lt
      simp only [List.getElem?_toArray, List.getElem?_cons_zero, List.getElem?_cons_succ] at r0 r1
      clear hcells hlt hk hown hb1 hb2 hr hc hg1'
      have hks := hkw.size_le
      go_wp2_with (go_at_call 63; refine (calls_in (words_any (x ^^^ y) g c _ hgl (fun i hi => by rw [HC.out i (by omega), range_get _ _ (fun i => bt x i != bt y i) hi, bt_xor]))).mono ?_; rintro e w1 ⟨rfl, q1, rfl⟩)
      exact bodyPost_ret (v := av (x ^^^ y)) (by simp [results, Try.results58, go_sem, r0, r1, rl]) rfl (Ret.mk (by simp (maxDischargeDepth := 99) [hkw, Nat.add_assoc]))
end Go.Proofs.Ytemfocnjlimicaa
