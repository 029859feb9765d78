/- What the reference of layer 1 hands back: which of two addresses is the greater one, and the next one: the contracts over the program. -/
import Derived.Test.YtjkhdjonlppdoaaRef01b
namespace Go.Proofs.Ytjkhdjonlppdoaa
open Go.RowKit Pg

theorem refcmp_any (x y : B) (w : World) : Calls Try.prog 61 #[av x, av y] w (Ret (.int .i64 (cmpB x y)) w) := by
  have hc := Lib.hid (cmp_of_common x y)
  have hle := common_le x y
  by_cases h : common x y = 128
  · have he := Lib.hid (show cmpB x y = 0 by rw [hc.out, if_pos h])
    have ht : ((common x y : Int) == 128) = true := by rw [h]; rfl
    clear h
    go_enter Try.func61, Try.ntmps61
    go_wp2_with (go_at_call 73; refine (refcommon_any _ _ _).mono ?_; rintro e w1 ⟨rfl, q1, rfl⟩)
    go_ret
    exact Ret.of (by rw [he.out]; rfl) (by simp (maxDischargeDepth := 99))
  · have hlt : common x y < 128 := by omega
    have ht : ((common x y : Int) == 128) = false := by rw [beq_eq_false_iff_ne]; omega
    have i0 : (0 : Int) ≤ common x y := by omega
    have i1 : (common x y : Int) < 128 := by omega
    have he := Lib.hid (show cmpB x y = if bt y (common x y) then -1 else 1 by rw [hc.out, if_neg h])
    clear h
    have hcm := Lib.hid (refcommon_any x y)
    generalize hn : common x y = n at *
    clear hn
    cases hb : bt y n
    all_goals
      have hb' := Lib.hid hb
      clear hb
      go_enter Try.func61, Try.ntmps61
      go_wp2_with fail
      refine (hcm.out _).mono ?_
      rintro e w1 ⟨rfl, q1, rfl⟩
      go_wp2_with fail
      refine (calls_in_bits (bits_any y _)).mono ?_
      rintro e w2 ⟨g2, rfl, hg2, hb2, p2, rfl, hk2⟩
      have c := Blk.cell hb2 n
      rw [bitCells_get _ _ hlt, hb'.out] at c
      have l2 := hb2.lt
      clear hb2 hk2 hg2
      go_wp2_with fail
      go_ret
      exact Ret.of (by rw [he.out, hb'.out]; rfl) (by simp (maxDischargeDepth := 99))
end Go.Proofs.Ytjkhdjonlppdoaa
