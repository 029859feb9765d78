/- What each function of the reference of layer 1 hands back, those that build a row: the contracts over the program. -/
import Derived.Test.YtcooheiipplahaaRef01
import Derived.Test.YtcooheiipplahaaKit1
namespace Go.Proofs.Ytcooheiipplahaa
open Go.RowKit Pg

theorem info_bool : (Try.prog.info? 4).map (fun i => (i.zero, i.size, i.bytes)) = some (some (.bool false), 1, 1) := by kernel_rfl
theorem range_snoc (k : Nat) (f : Nat → Bool) : ((List.range k).map fun i => Value.bool (f i)) ++ [.bool (f k)] = (List.range (k + 1)).map fun i => Value.bool (f i) := by
  rw [List.range_succ, List.map_append]; rfl
theorem range_get (k i : Nat) (f : Nat → Bool) (h : i < k) : ((List.range k).map fun i => Value.bool (f i))[i]? = some (.bool (f i)) := by simp [h]

set_option maxRecDepth 100000 in
theorem refmask_any (n : Int) (w : World) : Calls Try.prog 37 #[.int .i64 n] w (Ret (av (maskB (near n))) w) := by
  have hnear : ∀ k : Nat, k < 128 → decide ((k : Int) < n) = bt (maskB (near n)) k := by
    intro k hk; rw [bt_mask _ k hk]; unfold near; rw [Bool.eq_iff_iff]; simp; omega
  have HN := Lib.hid hnear; clear hnear
  go_enter Try.func37, Try.ntmps37
  go_wp2_with fail
  go_loopw [3, 4] (fun vo vk wr => ∃ k : Nat, k ≤ 128 ∧ vk = .int .i64 k ∧ Own (w.alloc (.cells #[.int .u64 0, .int .u64 0] 23)) wr 4 1 vo k ((List.range k).map fun i : Nat => .bool (decide ((i : Int) < n)))) (fun _ k _ => 128 - (intOf k).toNat)
  case atStart => exact ⟨0, by omega, rfl, Own.nil _ _ (Kept.refl _) _ _⟩
  case round =>
    obtain ⟨k, hk, rfl, hown⟩ := hrel
    obtain ⟨p, rfl⟩ := ext_of hown.kept
    have HO := Lib.hid hown; clear hown
    by_cases hlt : k < 128
    · go_wp2_with (at_builtin; refine wpList_push rfl _ _ 52 rfl 4 (.bool false) 1 1 Try.underlying52 info_bool rfl (by omega) u3 k _ rfl (HO.out.alloc _) _ 1 1 [.bool (decide ((k : Int) < n))] rfl rfl (heap_alloc_new _ _) (by simp [Value.oneCell']) (by unfold maxLen; omega) (by omega) ?_; intro v' w1 hown1)
      go_roundw
      case rel => exact ⟨k + 1, by omega, by go_num, by rw [← range_snoc]; exact hown1⟩
      case measure => simp [intOf]; omega
    · have hk128 : k = 128 := by omega
      subst hk128
      obtain ⟨g, c, rfl, hg1, hgl, hc, hcells, _⟩ := HO.out.form (by omega)
      have HC := Lib.hid hcells; clear hcells
      clear hlt hk
      go_wp2_with (go_at_call 41; refine (calls_in (words_any (maskB (near n)) g c _ hgl (fun i hi => by rw [HC.out i (by omega), range_get _ _ _ hi, HN.out i hi]))).mono ?_; rintro e w1 ⟨rfl, q1, rfl⟩)
      exact bodyPost_ret (v := av (maskB (near n))) (by simp [results, Try.results37, go_sem]) rfl (Ret.mk (by simp (maxDischargeDepth := 99)))
set_option maxRecDepth 100000 in
theorem refcommon_any (x y : B) (w : World) : Calls Try.prog 52 #[av x, av y] w (Ret (.int .i64 (common x y : Int)) w) := by
  go_enter Try.func52, Try.ntmps52
  go_wp2_with fail
  refine (bits_any x _).mono ?_
  rintro e w1 ⟨g1, rfl, hg1, hb1, p1, rfl⟩
  have hl1 := hb1.lt
  go_wp2_with fail
  refine (calls_in_bits (bits_any y _)).mono ?_
  rintro e w2 ⟨g2, rfl, hg2, hb2, p2, rfl, hk2⟩
  have HB1 := Lib.hid (Blk.kept hb1 hk2)
  have HB2 := Lib.hid hb2
  clear hb1 hb2 hk2
  go_wp2_with fail
  go_loopw [7] (fun vn wr => ∃ (n : Nat), n ≤ common x y ∧ vn = .int .i64 n ∧ Kept w wr ∧ IsBits wr g1 4 (bt x) ∧ IsBits wr g2 4 (bt y)) (fun n _ => 128 - (intOf n).toNat)
  case atStart => exact ⟨0, by omega, rfl, by simp (maxDischargeDepth := 99), HB1.out, HB2.out⟩
  case round =>
    clear HB1 HB2
    obtain ⟨n, hn, rfl, hkw, hb1, hb2⟩ := hrel
    have hle := common_le x y
    have HX := Lib.hid (And.intro hkw (And.intro hb1 hb2))
    by_cases hlt : n < 128
    · have c1 := Blk.cell hb1 n
      have c2 := Blk.cell hb2 n
      rw [bitCells_get _ n hlt] at c1 c2
      have l1 := hb1.lt
      have l2 := hb2.lt
      have i0 : (0 : Int) ≤ n := by omega
      have i1 : (n : Int) < 128 := by omega
      clear hkw hb1 hb2
      by_cases he : bt x n = bt y n
      · have hn1 : n + 1 ≤ common x y := by
          rcases Nat.lt_or_ge n (common x y) with h | h
          · exact h
          · exact absurd he (by rw [show n = common x y by omega]; exact common_ne x y (by omega))
        rw [← he] at c2
        have ht : (bt x n == bt x n) = true := by simp
        clear he
        go_wp2_with fail
        refine region_ext _ (Later.refl _) mixed (by kernel_rfl) ?_
        repeat (go_big_quiet_step (fail))
        refine wpQuiet_nil ?_
        rintro _ ⟨q1, rfl⟩
        go_wp2_with fail
        go_roundw
        case rel => exact ⟨n + 1, hn1, by go_num, Kept.ext HX.out.1 q1, Blk.ext HX.out.2.1 q1, Blk.ext HX.out.2.2 q1⟩
        case measure => simp [intOf]; omega
      · have hn1 : common x y = n := by
          rcases Nat.lt_or_ge n (common x y) with h | h
          · exact absurd (common_same x y n h) he
          · omega
        have hne : bt y n = !bt x n := by revert he; cases bt x n <;> cases bt y n <;> simp
        rw [hne] at c2
        have ht : (bt x n == !bt x n) = false := by cases bt x n <;> rfl
        have H1 := Lib.hid hn1
        clear he hne hn1 hn
        go_wp2_with fail
        refine region_ext _ (Later.refl _) mixed (by kernel_rfl) ?_
        repeat (go_big_quiet_step (fail))
        refine wpQuiet_nil ?_
        rintro _ ⟨q1, rfl⟩
        go_wp2_with fail
        go_ret
        exact Ret.of (by rw [H1.out]; rfl) (Kept.ext HX.out.1 q1)
    · have hn128 : n = 128 := by omega
      have H1 := Lib.hid (show common x y = 128 by omega)
      subst hn128
      clear hlt hn hle hkw hb1 hb2
      go_wp2_with fail
      refine region_ext _ (Later.refl _) mixed (by kernel_rfl) ?_
      repeat (go_big_quiet_step (fail))
      refine wpQuiet_nil ?_
      rintro _ ⟨q1, rfl⟩
      go_wp2_with fail
      go_ret
      exact Ret.of (by rw [H1.out]; rfl) (Kept.ext HX.out.1 q1)
end Go.Proofs.Ytcooheiipplahaa
