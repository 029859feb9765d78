/- What each function of the reference of layer 1 hands back, those that build a row: the contracts over the program. -/
import Derived.Test.YtjkhdjonlppdoaaRef01
import Derived.Test.YtjkhdjonlppdoaaKit1
namespace Go.Proofs.Ytjkhdjonlppdoaa
open Go.RowKit Pg

theorem info_bool : (Try.prog.info? 4).map (fun i => (i.zero, i.size, i.bytes)) = some (some (.bool false), 1, 1) := by kernel_rfl
theorem range_snoc (k : Nat) (f : Nat → Bool) : ((List.range k).map fun i => Value.bool (f i)) ++ [.bool (f k)] = (List.range (k + 1)).map fun i => Value.bool (f i) := by
  rw [List.range_succ, List.map_append]; rfl
theorem range_get (k i : Nat) (f : Nat → Bool) (h : i < k) : ((List.range k).map fun i => Value.bool (f i))[i]? = some (.bool (f i)) := by simp [h]

set_option maxRecDepth 100000 in
theorem refcommon_any (x y : B) (w : World) : Calls Try.prog 73 #[av x, av y] w (Ret (.int .i64 (common x y : Int)) w) := by
  go_enter Try.func73, Try.ntmps73
  go_wp2_with fail
  refine (bits_any x _).mono ?_
  rintro e w1 ⟨g1, rfl, hg1, hb1, p1, rfl⟩
  have hl1 := hb1.lt
  go_wp2_with fail
  refine (calls_in_bits (bits_any y _)).mono ?_
  rintro e w2 ⟨g2, rfl, hg2, hb2, p2, rfl, hk2⟩
  have HB1 := Lib.hid (Blk.kept hb1 hk2)
  have HB2 := Lib.hid hb2
  clear hb1 hb2 hk2
  go_wp2_with fail
  go_loopw [7] (fun vn wr => ∃ (n : Nat), n ≤ common x y ∧ vn = .int .i64 n ∧ Kept w wr ∧ IsBits wr g1 4 (bt x) ∧ IsBits wr g2 4 (bt y)) (fun n _ => 128 - (intOf n).toNat)
  case atStart => exact ⟨0, by omega, rfl, by simp (maxDischargeDepth := 99), HB1.out, HB2.out⟩
  case round =>
    clear HB1 HB2
    obtain ⟨n, hn, rfl, hkw, hb1, hb2⟩ := hrel
    have hle := common_le x y
    have HX := Lib.hid (And.intro hkw (And.intro hb1 hb2))
    by_cases hlt : n < 128
    · have c1 := Blk.cell hb1 n
      have c2 := Blk.cell hb2 n
      rw [bitCells_get _ n hlt] at c1 c2
      have l1 := hb1.lt
      have l2 := hb2.lt
      have i0 : (0 : Int) ≤ n := by omega
      have i1 : (n : Int) < 128 := by omega
      clear hkw hb1 hb2
      by_cases he : bt x n = bt y n
      · have hn1 : n + 1 ≤ common x y := by
          rcases Nat.lt_or_ge n (common x y) with h | h
          · exact h
          · exact absurd he (by rw [show n = common x y by omega]; exact common_ne x y (by omega))
        rw [← he] at c2
        have ht : (bt x n == bt x n) = true := by simp
        clear he
        go_wp2_with fail
        refine region_ext _ (Later.refl _) mixed (by kernel_rfl) ?_
        repeat (go_big_quiet_step (fail))
        refine wpQuiet_nil ?_
        rintro _ ⟨q1, rfl⟩
        go_wp2_with fail
        go_roundw
        case rel => exact ⟨n + 1, hn1, by go_num, Kept.ext HX.out.1 q1, Blk.ext HX.out.2.1 q1, Blk.ext HX.out.2.2 q1⟩
        case measure => simp [intOf]; omega
      · have hn1 : common x y = n := by
          rcases Nat.lt_or_ge n (common x y) with h | h
          · exact absurd (common_same x y n h) he
          · omega
        have hne : bt y n = !bt x n := by revert he; cases bt x n <;> cases bt y n <;> simp
        rw [hne] at c2
        have ht : (bt x n == !bt x n) = false := by cases bt x n <;> rfl
        have H1 := Lib.hid hn1
        clear he hne hn1 hn
        go_wp2_with fail
        refine region_ext _ (Later.refl _) mixed (by kernel_rfl) ?_
        repeat (go_big_quiet_step (fail))
        refine wpQuiet_nil ?_
        rintro _ ⟨q1, rfl⟩
        go_wp2_with fail
        go_ret
        exact Ret.of (by rw [H1.out]; rfl) (Kept.ext HX.out.1 q1)
    · have hn128 : n = 128 := by omega
      have H1 := Lib.hid (show common x y = 128 by omega)
      subst hn128
      clear hlt hn hle hkw hb1 hb2
      go_wp2_with fail
      refine region_ext _ (Later.refl _) mixed (by kernel_rfl) ?_
      repeat (go_big_quiet_step (fail))
      refine wpQuiet_nil ?_
      rintro _ ⟨q1, rfl⟩
      go_wp2_with fail
      go_ret
      exact Ret.of (by rw [H1.out]; rfl) (Kept.ext HX.out.1 q1)
end Go.Proofs.Ytjkhdjonlppdoaa
