/- What each function of the reference of layer 2 hands back: the contracts over the program. -/
import Derived.Test.YtjkhdjonlppdoaaPrefix
import Derived.Test.YtjkhdjonlppdoaaRef01c
import Derived.Test.YtjkhdjonlppdoaaRef01d
namespace Go.Proofs.Ytjkhdjonlppdoaa
open Go.RowKit Pg

theorem refnear_any (n : Int) (w : World) : Calls Try.prog 66 #[.int .i64 n] w (Ret (.int .i64 (near n : Int)) w) := by
  by_cases h1 : n < 0
  · have e := Lib.hid (show (near n : Int) = 0 by unfold near; omega)
    go_enter Try.func66, Try.ntmps66
    go_wp2
    go_ret
    exact Ret.of (by rw [e.out]; rfl) (by simp (maxDischargeDepth := 99))
  by_cases h2 : 128 < n
  · have e := Lib.hid (show (near n : Int) = 128 by unfold near; omega)
    go_enter Try.func66, Try.ntmps66
    go_wp2
    go_ret
    exact Ret.of (by rw [e.out]; rfl) (by simp (maxDischargeDepth := 99))
  · have e := Lib.hid (show (near n : Int) = n by unfold near; omega)
    go_enter Try.func66, Try.ntmps66
    go_wp2
    go_ret
    exact Ret.of (by rw [e.out]; rfl) (by simp (maxDischargeDepth := 99))
theorem refright_no1 {k : Int} {x : B} {n : Int} (h1 : ¬ k = 32) (h2 : ¬ k = 128) (w : World) : Calls Try.prog 40 #[.int .i64 k, pv x n] w (Ret (.bool (rightB k x n)) w) := by
  have e := Lib.hid (show rightB k x n = false by unfold rightB famB; rw [decide_eq_false h1, decide_eq_false h2]; rfl)
  have c1 : (k != 32) = true := by rw [bne_iff_ne]; exact h1
  have c2 : (k != 128) = true := by rw [bne_iff_ne]; exact h2
  go_enter Try.func40, Try.ntmps40
  go_wp2_with fail
  go_ret
  exact Ret.of (by rw [e.out]; rfl) (by simp (maxDischargeDepth := 99))
theorem refright_no2 {k : Int} {x : B} {n : Int} (h : k = 32 ∨ k = 128) (h1 : n < 0) (w : World) : Calls Try.prog 40 #[.int .i64 k, pv x n] w (Ret (.bool (rightB k x n)) w) := by
  have e := Lib.hid (show rightB k x n = false by unfold rightB; rw [decide_eq_false (show ¬ 0 ≤ n by omega)]; simp)
  rcases h with rfl | rfl
  · go_enter Try.func40, Try.ntmps40
    go_wp2_with fail
    go_ret
    exact Ret.of (by rw [e.out]; rfl) (by simp (maxDischargeDepth := 99))
  · go_enter Try.func40, Try.ntmps40
    go_wp2_with fail
    go_ret
    exact Ret.of (by rw [e.out]; rfl) (by simp (maxDischargeDepth := 99))
theorem refright_no3 {k : Int} {x : B} {n : Int} (h : k = 32 ∨ k = 128) (h1 : ¬ n < 0) (h2 : k < n) (w : World) : Calls Try.prog 40 #[.int .i64 k, pv x n] w (Ret (.bool (rightB k x n)) w) := by
  have e := Lib.hid (show rightB k x n = false by unfold rightB; rw [decide_eq_false (show ¬ n ≤ k by omega)]; simp)
  rcases h with rfl | rfl
  · go_enter Try.func40, Try.ntmps40
    go_wp2_with fail
    go_ret
    exact Ret.of (by rw [e.out]; rfl) (by simp (maxDischargeDepth := 99))
  · go_enter Try.func40, Try.ntmps40
    go_wp2_with fail
    go_ret
    exact Ret.of (by rw [e.out]; rfl) (by simp (maxDischargeDepth := 99))
set_option maxRecDepth 100000 in
theorem refright_go {k : Int} {x : B} {m : Nat} (h : k = 32 ∨ k = 128) (h2 : ¬ k < m) (w : World) : Calls Try.prog 40 #[.int .i64 k, pv x m] w (Ret (.bool (rightB k x m)) w) := by
  have hm : m ≤ 128 := by omega
  have e := Lib.hid (show rightB k x m = decide (x &&& maskB m = x) by
    unfold rightB famB; rw [near_nat m hm, decide_eq_true (show (m : Int) ≤ k by omega), decide_eq_true (show (0 : Int) ≤ m by omega)]
    rcases h with rfl | rfl <;> rfl)
  have hno : ¬ (m : Int) < 0 := by omega
  rcases h with rfl | rfl
  all_goals
    go_enter Try.func40, Try.ntmps40
    go_wp2_with fail
    refine (bits_any x _).mono ?_
    rintro e w1 ⟨g, rfl, hg, hb, p1, rfl⟩
    have HB := Lib.hid hb
    have hl := hb.lt
    clear hb
    go_wp2_with fail
    go_loopw [6] (fun vk wr => ∃ j : Nat, m ≤ j ∧ j ≤ 128 ∧ vk = .int .i64 j ∧ Kept w wr ∧ IsBits wr g 4 (bt x) ∧ ∀ i, m ≤ i → i < j → bt x i = false) (fun k _ => 128 - (intOf k).toNat)
    case atStart => exact ⟨m, Nat.le_refl _, hm, rfl, by simp (maxDischargeDepth := 99), HB.out, fun i _ _ => by omega⟩
    case round =>
      clear HB hl hno h2 hg
      obtain ⟨j, hmj, hj, rfl, hkw, hb, hz⟩ := hrel
      have HX := Lib.hid (And.intro hkw (And.intro hb hz))
      by_cases hlt : j < 128
      · have c1 := Blk.cell hb j
        rw [bitCells_get _ _ hlt] at c1
        have l1 := hb.lt
        clear hkw hb hz
        cases hx : bt x j
        · rw [hx] at c1
          have H1 := Lib.hid hx; clear hx
          go_wp2_with fail
          go_roundw
          case rel => exact ⟨j + 1, by omega, by omega, by go_num, HX.out.1, HX.out.2.1, fun i h1 h2 => by
            rcases Nat.lt_or_ge i j with hij | hij
            · exact HX.out.2.2 i h1 hij
            · rw [show i = j by omega]; exact H1.out⟩
          case measure => simp [intOf]; omega
        · rw [hx] at c1
          have H1 := Lib.hid hx; clear hx
          go_wp2_with fail
          go_ret
          exact Ret.of (by rw [e.out]; exact congrArg Value.bool (decide_eq_false (fun hc => by have := (cut_self_iff x m).1 hc j hmj hlt; rw [H1.out] at this; cases this)).symm) HX.out.1
      · have hj128 : j = 128 := by omega
        subst hj128
        clear hkw hb hz hlt hj
        go_wp2_with fail
        go_ret
        exact Ret.of (by rw [e.out]; exact congrArg Value.bool (decide_eq_true ((cut_self_iff x m).2 fun i h1 h2 => HX.out.2.2 i h1 h2)).symm) HX.out.1
theorem refright_any (k : Int) (x : B) (n : Int) (w : World) : Calls Try.prog 40 #[.int .i64 k, pv x n] w (Ret (.bool (rightB k x n)) w) := by
  by_cases h : k = 32 ∨ k = 128
  · by_cases h1 : n < 0
    · exact refright_no2 h h1 w
    · by_cases h2 : k < n
      · exact refright_no3 h h1 h2 w
      · obtain ⟨m, rfl⟩ := Int.eq_ofNat_of_zero_le (show 0 ≤ n by omega)
        exact refright_go h h2 w
  · exact refright_no1 (fun h1 => h (.inl h1)) (fun h2 => h (.inr h2)) w
theorem refright_as {b : Bool} {k : Int} {x : B} {n : Int} (h : rightB k x n = b) (w : World) : Calls Try.prog 40 #[.int .i64 k, pv x n] w (Ret (.bool b) w) := by rw [← h]; exact refright_any k x n w
set_option maxRecDepth 100000 in
theorem refmatch_any (x : B) (n : Int) (y : B) (w : World) : Calls Try.prog 50 #[pv x n, av y] w (Ret (.bool (matchB x n y)) w) := by
  go_enter Try.func50, Try.ntmps50
  go_wp2_with fail
  refine (bits_any x _).mono ?_
  rintro e w1 ⟨g1, rfl, hg1, hb1, p1, rfl⟩
  have hl1 := hb1.lt
  go_wp2_with fail
  refine (calls_in_bits (bits_any y _)).mono ?_
  rintro e w2 ⟨g2, rfl, hg2, hb2, p2, rfl, hk2⟩
  have HB1 := Lib.hid (Blk.kept hb1 hk2)
  have HB2 := Lib.hid hb2
  clear hb1 hb2 hk2
  go_wp2_with fail
  go_loopw [7] (fun vk wr => ∃ k : Nat, k ≤ near n ∧ (∀ i, i < k → bt x i = bt y i) ∧ vk = .int .i64 k ∧ Kept w wr ∧ IsBits wr g1 4 (bt x) ∧ IsBits wr g2 4 (bt y) ∧ Blk wr w.heap.size 34 #[.int .u64 (hi x), .int .u64 (lo x), .int .i64 n]) (fun k _ => 128 - (intOf k).toNat)
  case atStart => exact ⟨0, by omega, fun i h => by omega, rfl, by simp (maxDischargeDepth := 99), HB1.out, HB2.out, Blk.ext (Blk.alloc (Blk.new _ _ _) _) _⟩
  case round =>
    clear HB1 HB2 hl1 hg1 hg2
    obtain ⟨k, hk, hs, rfl, hkw, hb1, hb2, hr⟩ := hrel
    have HX := Lib.hid (And.intro hkw (And.intro hb1 (And.intro hb2 (And.intro hr hs))))
    have l1 := hb1.lt
    have l2 := hb2.lt
    have r2 := Blk.cell hr 2
    have rl := hr.lt
    simp only [List.getElem?_toArray, List.getElem?_cons_zero, List.getElem?_cons_succ] at r2
    have hn128 := near_le n
    by_cases hlt : k < near n
    · have c1 := Blk.cell hb1 k
      have c2 := Blk.cell hb2 k
      rw [bitCells_get _ _ (by omega)] at c1 c2
      have hl : (k : Int) < (near n : Int) := by omega
      have i0 : (0 : Int) ≤ k := by omega
      have i1 : (k : Int) < 128 := by omega
      clear hkw hb1 hb2 hr hs
      by_cases he : bt x k = bt y k
      · rw [← he] at c2
        have ht : (bt x k != bt x k) = false := by simp
        have H1 := Lib.hid he
        clear he hlt
        go_wp2_with (first | (go_at_call 66; first | ((refine (calls_in (refnear_any _ _)).mono ?_); rintro e w1 ⟨rfl, q1, rfl⟩) | ((refine (refnear_any _ _).mono ?_); rintro e w1 ⟨rfl, q1, rfl⟩)))
        refine region_ext _ (Later.refl _) mixed (by kernel_rfl) ?_
        repeat (go_big_quiet_step (fail))
        refine wpQuiet_nil ?_
        rintro _ ⟨q, rfl⟩
        go_wp2_with fail
        go_roundw
        case rel => exact ⟨k + 1, by omega, fun i h => by
          rcases Nat.lt_or_ge i k with hik | hik
          · exact HX.out.2.2.2.2 i hik
          · rw [show i = k by omega]; exact H1.out, by go_num, by simp (maxDischargeDepth := 99) [HX.out.1], Blk.ext (Blk.ext HX.out.2.1 _) _, Blk.ext (Blk.ext HX.out.2.2.1 _) _, Blk.ext (Blk.ext HX.out.2.2.2.1 _) _⟩
        case measure => simp [intOf]; omega
      · have hne : bt y k = !bt x k := by revert he; cases bt x k <;> cases bt y k <;> simp
        rw [hne] at c2
        have ht : (bt x k != !bt x k) = true := by cases bt x k <;> rfl
        have H1 := Lib.hid (show matchB x n y = false from Bool.eq_false_iff.2 fun hc => he ((matchB_iff x n y).1 hc k hlt))
        clear he hne hlt
        go_wp2_with (first | (go_at_call 66; first | ((refine (calls_in (refnear_any _ _)).mono ?_); rintro e w1 ⟨rfl, q1, rfl⟩) | ((refine (refnear_any _ _).mono ?_); rintro e w1 ⟨rfl, q1, rfl⟩)))
        refine region_ext _ (Later.refl _) mixed (by kernel_rfl) ?_
        repeat (go_big_quiet_step (fail))
        refine wpQuiet_nil ?_
        rintro _ ⟨q, rfl⟩
        go_wp2_with fail
        go_ret
        exact Ret.of (by rw [H1.out]; rfl) (by simp (maxDischargeDepth := 99) [HX.out.1])
    · have H1 := Lib.hid (show matchB x n y = true from (matchB_iff x n y).2 fun i hi => hs i (by omega))
      have hl : ¬ (k : Int) < (near n : Int) := by omega
      clear hkw hb1 hb2 hr hs hlt
      go_wp2_with (first | (go_at_call 66; first | ((refine (calls_in (refnear_any _ _)).mono ?_); rintro e w1 ⟨rfl, q1, rfl⟩) | ((refine (refnear_any _ _).mono ?_); rintro e w1 ⟨rfl, q1, rfl⟩)))
      go_ret
      exact Ret.of (by rw [H1.out]; rfl) (by simp (maxDischargeDepth := 99) [HX.out.1])
theorem refcovers_any (x : B) (n : Int) (y : B) (m : Int) (w : World) : Calls Try.prog 56 #[pv x n, pv y m] w (Ret (.bool (coversB x n y m)) w) := by
  by_cases h : n ≤ m
  · have e := Lib.hid (show coversB x n y m = matchB x n y by unfold coversB; rw [decide_eq_true h]; rfl)
    go_enter Try.func56, Try.ntmps56
    go_wp2_with (first | (go_at_call 50; first | ((refine (calls_in (refmatch_any _ _ _ _)).mono ?_); rintro e w1 ⟨rfl, q1, rfl⟩) | ((refine (refmatch_any _ _ _ _).mono ?_); rintro e w1 ⟨rfl, q1, rfl⟩)))
    go_ret
    exact Ret.of (by rw [e.out]; rfl) (by simp (maxDischargeDepth := 99))
  · have e := Lib.hid (show coversB x n y m = false by unfold coversB; rw [decide_eq_false h]; rfl)
    go_enter Try.func56, Try.ntmps56
    go_wp2_with fail
    go_ret
    exact Ret.of (by rw [e.out]; rfl) (by simp (maxDischargeDepth := 99))
theorem refcovers_as {b : Bool} {x : B} {n : Int} {y : B} {m : Int} (h : coversB x n y m = b) (w : World) : Calls Try.prog 56 #[pv x n, pv y m] w (Ret (.bool b) w) := by rw [← h]; exact refcovers_any x n y m w
theorem refcmpp_any (x : B) (n : Int) (y : B) (m : Int) (w : World) : Calls Try.prog 43 #[pv x n, pv y m] w (Ret (.int .i64 (cmpP x n y m)) w) := by
  by_cases h : cmpB x y = 0
  · have hc := Lib.hid (fun w => (by rw [← h]; exact refcmp_any x y w : Calls Try.prog 61 #[av x, av y] w (Ret (.int .i64 0) w)))
    by_cases h1 : n < m
    · have e := Lib.hid (show cmpP x n y m = -1 by unfold cmpP cmpI; rw [if_pos h, if_pos h1])
      clear h
      go_enter Try.func43, Try.ntmps43
      go_wp2_with (first | (go_at_call 61; first | ((refine (calls_in (hc.out _)).mono ?_); rintro e w1 ⟨rfl, q1, rfl⟩) | ((refine (hc.out _).mono ?_); rintro e w1 ⟨rfl, q1, rfl⟩)))
      go_ret
      exact Ret.of (by rw [e.out]; rfl) (by simp (maxDischargeDepth := 99))
    · by_cases h2 : m < n
      · have e := Lib.hid (show cmpP x n y m = 1 by unfold cmpP cmpI; rw [if_pos h, if_neg h1, if_pos h2])
        clear h
        go_enter Try.func43, Try.ntmps43
        go_wp2_with (first | (go_at_call 61; first | ((refine (calls_in (hc.out _)).mono ?_); rintro e w1 ⟨rfl, q1, rfl⟩) | ((refine (hc.out _).mono ?_); rintro e w1 ⟨rfl, q1, rfl⟩)))
        go_ret
        exact Ret.of (by rw [e.out]; rfl) (by simp (maxDischargeDepth := 99))
      · have e := Lib.hid (show cmpP x n y m = 0 by unfold cmpP cmpI; rw [if_pos h, if_neg h1, if_neg h2])
        clear h
        go_enter Try.func43, Try.ntmps43
        go_wp2_with (first | (go_at_call 61; first | ((refine (calls_in (hc.out _)).mono ?_); rintro e w1 ⟨rfl, q1, rfl⟩) | ((refine (hc.out _).mono ?_); rintro e w1 ⟨rfl, q1, rfl⟩)))
        go_ret
        exact Ret.of (by rw [e.out]; rfl) (by simp (maxDischargeDepth := 99))
  · have e := Lib.hid (show cmpP x n y m = cmpB x y by unfold cmpP; rw [if_neg h])
    have ht : (cmpB x y == 0) = false := by rw [beq_eq_false_iff_ne]; exact h
    clear h
    go_enter Try.func43, Try.ntmps43
    go_wp2_with (first | (go_at_call 61; first | ((refine (calls_in (refcmp_any _ _ _)).mono ?_); rintro e w1 ⟨rfl, q1, rfl⟩) | ((refine (refcmp_any _ _ _).mono ?_); rintro e w1 ⟨rfl, q1, rfl⟩)))
    go_ret
    exact Ret.of (by rw [e.out]; rfl) (by simp (maxDischargeDepth := 99))
theorem law02of_any (x : B) (n : Int) (w : World) : Calls Try.prog 25 #[pv x n] w (Ret (pv x n) w) := by
  go_enter Try.func25, Try.ntmps25
  go_wp2_with fail
  exact bodyPost_ret (v := pv x n) (by simp [results, Try.results25, go_sem, pv]) rfl (Ret.mk (by simp (maxDischargeDepth := 99)))
theorem under_refprefix : Try.prog.underlying 34 = some (.struct (Try.prog.fieldsOf 34)) := by kernel_rfl
theorem stood_refprefix : Try.prog.stoodInHeld 34 = false := by kernel_rfl
@[go_sem] theorem eq_refprefix (d : Nat) (x y : B) (n m : Int) (w : World) : (Op.equalIn (d + 3) 34 (pv x n) (pv y m)).run Try.prog w = .ok (decide (x = y) && decide (n = m)) w := by
  rw [run_equalIn_struct w (d + 2) _ _ _ under_refprefix stood_refprefix]
  simp [go_sem]
  by_cases h1 : x = y <;> by_cases h2 : n = m <;> simp [h1, h2]
end Go.Proofs.Ytjkhdjonlppdoaa
