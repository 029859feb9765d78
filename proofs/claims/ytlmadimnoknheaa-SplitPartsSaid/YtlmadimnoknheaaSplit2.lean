/- Banks of addresses: what the reference of layer 16 hands back, and the banks that a word has to do with. -/
import Derived.Test.YtlmadimnoknheaaSplit
import Derived.Test.YtlmadimnoknheaaInfo
import Derived.Test.YtlmadimnoknheaaRef01
namespace Pg
open Go
theorem take_banks (k : Nat) (x m : B) (j : Nat) : ((List.range (j + 1)).filter (meetAt k x m)) = (List.range j).filter (meetAt k x m) ++ if meetAt k x m j then [j] else [] := by
  rw [List.range_succ, List.filter_append]
  cases h : meetAt k x m j <;> simp [h]
/-- Whether the last j of the first k bits that a word tells are a number's. -/
def isAt (k : Nat) (x m : B) (at_ : Nat) : Nat → Bool
  | 0 => true
  | j + 1 => isAt k x m at_ j && !(bt m (k - 1 - j) && (bt x (k - 1 - j) != at_.testBit j))
theorem isAt_iff (k : Nat) (x m : B) (at_ : Nat) : ∀ j, isAt k x m at_ j = true ↔ ∀ t, t < j → bt m (k - 1 - t) = true → bt x (k - 1 - t) = at_.testBit t
  | 0 => ⟨fun _ t h => by omega, fun _ => rfl⟩
  | j + 1 => by
    rw [isAt, Bool.and_eq_true, isAt_iff k x m at_ j]
    constructor
    · rintro ⟨h1, h2⟩ t ht hm
      rcases Nat.lt_or_ge t j with h3 | h3
      · exact h1 t h3 hm
      · have : t = j := by omega
        subst this
        rw [hm] at h2
        revert h2; cases bt x (k - 1 - t) <;> cases at_.testBit t <;> simp
    · intro h
      refine ⟨fun t ht hm => h t (by omega) hm, ?_⟩
      have := h j (by omega)
      revert this; cases bt m (k - 1 - j) <;> cases bt x (k - 1 - j) <;> cases at_.testBit j <;> simp
theorem isAt_meet {k at_ : Nat} (hk : k ≤ 64) (h : at_ < 2 ^ k) (x m : B) : isAt k x m at_ k = meetAt k x m at_ := by
  rw [Bool.eq_iff_iff, isAt_iff, meetAt_iff hk h]
  constructor
  · intro h1 i hi' hm
    have := h1 (k - 1 - i) (by omega)
    rw [show k - 1 - (k - 1 - i) = i by omega] at this
    exact this hm
  · intro h1 t ht hm
    have := h1 (k - 1 - t) (by omega) hm
    rw [show k - 1 - (k - 1 - t) = t by omega] at this
    exact this
end Pg
namespace Go.Proofs.Ytlmadimnoknheaa
open Go.RowKit Pg

theorem refsof_no (k : Int) (h : k < 0 ∨ 3 < k) (a : B) (w : World) : Calls Try.prog 15 #[.int .i64 k, av a] w (Ret (.int .i64 0) w) := by
  by_cases h1 : k < 0
  · go_enter Try.func15, Try.ntmps15
    go_wp2_with fail
    go_ret
    exact Ret.of (rfl) (by simp (maxDischargeDepth := 99))
  · have h2 : 3 < k := by omega
    clear h
    go_enter Try.func15, Try.ntmps15
    go_wp2_with fail
    go_ret
    exact Ret.of (rfl) (by simp (maxDischargeDepth := 99))
set_option maxRecDepth 100000 in
theorem refsof_yes (k : Nat) (h : k ≤ 3) (a : B) (w : World) : Calls Try.prog 15 #[.int .i64 (k : Int), av a] w (Ret (.int .i64 (topN a k : Int)) w) := by
  have h1 : ¬ (k : Int) < 0 := by omega
  have h2 : ¬ (3 : Int) < k := by omega
  go_enter Try.func15, Try.ntmps15
  go_wp2_with fail
  refine (bits_any a _).mono ?_
  rintro e w1 ⟨g, rfl, hg, hb, p, rfl⟩
  have HB := Lib.hid hb
  have hl := hb.lt
  clear hb
  go_wp2_with fail
  go_loopw [6, 7] (fun vn vi wr => ∃ i : Nat, i ≤ k ∧ vi = .int .i64 i ∧ vn = .int .i64 (topN a i : Int) ∧ Kept w wr ∧ IsBits wr g 4 (bt a)) (fun _ i _ => k - (intOf i).toNat)
  case atStart => exact ⟨0, by omega, rfl, by rw [topN_zero]; rfl, by simp (maxDischargeDepth := 99), HB.out⟩
  case round =>
    clear HB hl hg
    obtain ⟨i, hi', rfl, rfl, hkw, hb⟩ := hrel
    have HX := Lib.hid (And.intro hkw hb)
    by_cases hlt : i < k
    · have c1 := hb.cell i (by omega)
      have l1 := hb.lt
      have hil : (i : Int) < (k : Int) := by omega
      have i0 : (0 : Int) ≤ i := by omega
      have i1 : (i : Int) < 128 := by omega
      have ht := topN_lt a i (by omega)
      have ht8 := pow_small (show i ≤ 3 by omega)
      have HS := topN_succ a i (by omega)
      clear hkw hb
      generalize topN a i = N at *
      cases hb : bt a i
      · rw [hb] at c1 HS
        have HS := Lib.hid HS
        clear hb
        go_wp2_with fail
        go_roundw
        case rel => exact ⟨i + 1, by omega, by go_num, by rw [HS.out]; simp, HX.out.1, HX.out.2⟩
        case measure => simp [intOf]; omega
      · rw [hb] at c1 HS
        have HS := Lib.hid HS
        clear hb
        go_wp2_with fail
        go_roundw
        case rel => exact ⟨i + 1, by omega, by go_num, by rw [HS.out]; simp, HX.out.1, HX.out.2⟩
        case measure => simp [intOf]; omega
    · have hik : i = k := by omega
      subst hik
      clear hkw hb hlt
      go_wp2_with fail
      go_ret
      exact Ret.of (rfl) (by simp (maxDischargeDepth := 99) [HX.out.1])
theorem sbanks_no (k : Int) (h : k < 0 ∨ 3 < k) (x m : B) (w : World) : Calls Try.prog 9 #[.int .i64 k, wv x m] w (RetEls 3 1 encN [] w) := by
  go_enter Try.func9, Try.ntmps9
  go_wp2_with (first | (go_at_call 12; first | ((refine (calls_in (smany_no _ h _)).mono ?_); rintro e w1 ⟨rfl, q1, rfl⟩) | ((refine (smany_no _ h _).mono ?_); rintro e w1 ⟨rfl, q1, rfl⟩)))
  go_loopw [5, 6, 9] (fun vo _ vk wr => vo = .slice none 0 0 ∧ vk = .int .i64 0 ∧ Kept w wr) (fun _ _ k _ => 0)
  case atStart => exact ⟨rfl, rfl, by simp (maxDischargeDepth := 99)⟩
  case round =>
    obtain ⟨rfl, rfl, hkw⟩ := hrel
    have HX := Lib.hid hkw
    clear hkw
    go_wp2_with fail
    go_ret
    exact RetEls.mk (Kept.refl w) (Own.nil _ _ HX.out _ _)
set_option maxRecDepth 100000 in
theorem sbanks_yes (k : Nat) (h : k ≤ 3) (x m : B) (w : World) : Calls Try.prog 9 #[.int .i64 (k : Int), wv x m] w (RetEls 3 1 encN (banksL k x m) w) := by
  have h8 := pow_small h
  obtain ⟨M, hM⟩ : ∃ M, 2 ^ k = M := ⟨_, rfl⟩
  have hb : banksL k x m = (List.range M).filter (meetAt k x m) := by unfold banksL; rw [hM]
  rw [hb]
  have hmany := Lib.hid (fun w => (by have := smany_yes k h w; rwa [hM] at this : Calls Try.prog 12 #[.int .i64 (k : Int)] w (Ret (.int .i64 (M : Int)) w)))
  have hall := Lib.hid (fun j (hj : j < M) w => sall_any k h j (by rw [hM]; exact hj) w)
  rw [hM] at h8
  clear hM hb
  go_enter Try.func9, Try.ntmps9
  go_wp2_with (first | (go_at_call 12; first | ((refine (calls_in (hmany.out _)).mono ?_); rintro e w1 ⟨rfl, q1, rfl⟩) | ((refine (hmany.out _).mono ?_); rintro e w1 ⟨rfl, q1, rfl⟩)))
  go_loopw [5, 6, 9] (fun vo _ vk wr => ∃ j : Nat, j ≤ M ∧ vk = .int .i64 j ∧ Own (w.alloc (.cells #[.int .u64 (hi x), .int .u64 (lo x), .int .u64 (hi m), .int .u64 (lo m)] 26)) wr 3 1 vo ((List.range j).filter (meetAt k x m)).length (((List.range j).filter (meetAt k x m)).flatMap encN)) (fun _ _ k _ => M - (intOf k).toNat)
  case atStart => exact ⟨0, by omega, rfl, Own.nil _ _ (by simp) _ _⟩
  case round =>
    obtain ⟨j, hj, rfl, hown⟩ := hrel
    have bx : Blk wr w.heap.size 26 #[.int .u64 (hi x), .int .u64 (lo x), .int .u64 (hi m), .int .u64 (lo m)] := Blk.kept (Blk.new _ _ _) hown.1
    obtain ⟨x0, x1, x2, x3, xl⟩ := Blk.four bx
    have hll : ((List.range j).filter (meetAt k x m)).length ≤ 8 := Nat.le_trans (List.length_filter_le _ _) (by simp; omega)
    have HO := Lib.hid hown
    have HT := Lib.hid (take_banks k x m j)
    clear bx hown
    by_cases hlt : j < M
    · have hjl : (j : Int) < (M : Int) := by omega
      have ha := Lib.hid (hall.out j hlt)
      cases hm : meetAt k x m j
      · have hmeet := Lib.hid (show meetW x m (atB k j) (maskB k) = false from hm)
        rw [hm] at HT
        clear hm
        go_wp2_with fail
        refine region_ext _ (Later.refl _) mixed (by kernel_rfl) ?_
        repeat (go_big_quiet_step ((first | (go_at_call 31; exact calls_in (ha.out _)) | (go_at_call 30; exact calls_in (wmeet_as hmeet.out _)))))
        refine wpQuiet_nil ?_
        rintro _ ⟨q, rfl⟩
        go_wp2_with fail
        go_roundw
        case rel => exact ⟨j + 1, by omega, by go_num, by rw [HT.out]; simpa using HO.out.ext _⟩
        case measure => simp [intOf]; omega
      · have hmeet := Lib.hid (show meetW x m (atB k j) (maskB k) = true from hm)
        rw [hm] at HT
        clear hm
        generalize (List.range j).filter (meetAt k x m) = L at *
        go_wp2_with fail
        refine region_ext _ (Later.refl _) mixed (by kernel_rfl) ?_
        repeat (go_big_quiet_step ((first | (go_at_call 31; exact calls_in (ha.out _)) | (go_at_call 30; exact calls_in (wmeet_as hmeet.out _)))))
        refine wpQuiet_nil ?_
        rintro _ ⟨q, rfl⟩
        go_wp2_with (first | (at_builtin; refine wpList_push rfl _ _ 27 rfl 3 (.int .i64 0) 1 8 Try.underlying27 info_int rfl (by omega) u5 L.length _ rfl ((HO.out.ext _).alloc _) _ 1 1 (encN j) rfl rfl (heap_alloc_new _ _) (by simp [encN, Value.oneCell']) (by unfold maxLen; omega) (by omega) ?_; intro v' w1 hown1))
        go_roundw
        case rel => exact ⟨j + 1, by omega, by go_num, by rw [HT.out]; simpa using hown1⟩
        case measure => simp [intOf]; omega
    · have hjM : j = M := by omega
      subst hjM
      go_wp2_with fail
      go_ret
      exact RetEls.mk (by simp) HO.out
theorem refsbanks_no (k : Int) (h : k < 0 ∨ 3 < k) (x m : B) (w : World) : Calls Try.prog 10 #[.int .i64 k, wv x m] w (RetEls 3 1 encN [] w) := by
  by_cases h1 : k < 0
  · go_enter Try.func10, Try.ntmps10
    go_wp2_with fail
    go_ret
    exact RetEls.mk (Kept.refl w) (Own.nil _ _ (by simp) _ _)
  · have h2 : 3 < k := by omega
    clear h
    go_enter Try.func10, Try.ntmps10
    go_wp2_with fail
    go_ret
    exact RetEls.mk (Kept.refl w) (Own.nil _ _ (by simp) _ _)
theorem bit_div (n j : Nat) : n.testBit j = (n / 2 ^ j % 2 == 1) := by rw [Nat.testBit_eq_decide_div_mod_eq]; rfl
set_option maxHeartbeats 2000000 in
set_option maxRecDepth 100000 in
theorem refsbanks_yes (k : Nat) (h : k ≤ 3) (x m : B) (w : World) : Calls Try.prog 10 #[.int .i64 (k : Int), wv x m] w (RetEls 3 1 encN (banksL k x m) w) := by
  have h8 := pow_small h
  have h1 : ¬ (k : Int) < 0 := by omega
  have h2 : ¬ (3 : Int) < k := by omega
  obtain ⟨M, hM⟩ : ∃ M, 2 ^ k = M := ⟨_, rfl⟩
  have hb : banksL k x m = (List.range M).filter (meetAt k x m) := by unfold banksL; rw [hM]
  rw [hb]
  have HM := Lib.hid hM
  rw [hM] at h8
  clear hM hb
  go_enter Try.func10, Try.ntmps10
  go_wp2_with fail
  go_loopw [6, 7] (fun vn vi wr => ∃ i : Nat, i ≤ k ∧ vi = .int .i64 i ∧ vn = .int .i64 ((2 ^ i : Nat) : Int) ∧ wr = w.alloc (.cells #[.int .u64 (hi x), .int .u64 (lo x), .int .u64 (hi m), .int .u64 (lo m)] 31)) (fun _ i _ => k - (intOf i).toNat)
  case atStart => exact ⟨0, by omega, rfl, rfl, rfl⟩
  case round =>
    obtain ⟨i, hi', rfl, rfl, rfl⟩ := hrel
    by_cases hlt : i < k
    · have hil : (i : Int) < (k : Int) := by omega
      have ht8 := pow_small (show i ≤ 3 by omega)
      have HS := Lib.hid (show 2 ^ (i + 1) = 2 ^ i * 2 from Nat.pow_succ 2 i)
      generalize 2 ^ i = N at *
      go_wp2_with fail
      go_roundw
      case rel => exact ⟨i + 1, by omega, by go_num, by rw [HS.out]; go_num, trivial⟩
      case measure => simp [intOf]; omega
    · have hik : i = k := by omega
      subst hik
      clear hlt hi'
      rw [HM.out]
      go_wp2_with fail
      refine (bits_any x _).mono ?_
      rintro e w1 ⟨g0, rfl, hg0, hb0, p0, rfl⟩
      have hl0 := hb0.lt
      have HB0 := Lib.hid hb0
      clear hb0
      go_wp2_with fail
      refine (calls_in_bits (bits_any m _)).mono ?_
      rintro e w1 ⟨g1, rfl, hg1, hb1, p1, rfl, hk1⟩
      have hb0 := Blk.kept HB0.out hk1
      clear hk1 HB0 hl0
      have hl0 := hb0.lt
      have HB0 := Lib.hid hb0
      have HB1 := Lib.hid hb1
      clear hb0 hb1
      go_wp2_with fail
      have hb0 := HB0.out
      have hb1 := HB1.out
      refine named fun W hW => ?_
      have hkW : Kept w W := by rw [hW]; simp (maxDischargeDepth := 99)
      have hb0' : IsBits W g0 4 (bt x) := by rw [hW]; exact hb0
      have hb1' : IsBits W g1 4 (bt m) := by rw [hW]; exact hb1
      clear hW hb0 hb1 hg0 hg1
      have HW := Lib.hid (And.intro hkW (And.intro hb0' hb1'))
      clear hkW hb0' hb1' HB0 HB1 hl0
      go_loopw [5, 10, 11, 12, 13] (fun vo vk _ _ _ wr => ∃ j : Nat, j ≤ M ∧ vk = .int .i64 j ∧ Own W wr 3 1 vo ((List.range j).filter (meetAt i x m)).length (((List.range j).filter (meetAt i x m)).flatMap encN)) (fun _ k _ _ _ _ => M - (intOf k).toNat)
      case atStart => exact ⟨0, by omega, rfl, Own.nil _ _ (by simp) _ _⟩
      case round =>
        obtain ⟨j, hj, rfl, hown⟩ := hrel
        by_cases hlt : j < M
        · have hjl : (j : Int) < (M : Int) := by omega
          have HO := Lib.hid hown
          have HT := Lib.hid (take_banks i x m j)
          have HI := Lib.hid (isAt_meet (show i ≤ 64 by omega) (show j < 2 ^ i by rw [HM.out]; exact hlt) x m)
          have hll : ((List.range j).filter (meetAt i x m)).length ≤ 8 := Nat.le_trans (List.length_filter_le _ _) (by simp; omega)
          have hbx := HW.out.2.1.kept hown.1
          have hbm := HW.out.2.2.kept hown.1
          clear hown
          have HXM := Lib.hid (And.intro hbx hbm)
          clear hbx hbm
          go_wp2_with fail
          obtain ⟨wo, hwo⟩ : ∃ wo, wo = wr := ⟨_, rfl⟩
          rw [← hwo]
          rw [← hwo] at HO HXM
          clear hwo
          go_loopw [11, 12, 13] (fun vi vr vt wr' => ∃ t : Nat, t ≤ i ∧ vt = .int .i64 ((i : Int) - 1 - t) ∧ vr = .int .i64 ((j / 2 ^ t : Nat) : Int) ∧ vi = .bool (isAt i x m j t) ∧ Kept wo wr') (fun _ _ t _ => (intOf t + 1).toNat)
          case atStart => exact ⟨0, by omega, by simp, by simp, rfl, Kept.refl _⟩
          case round =>
            obtain ⟨t, ht, rfl, rfl, rfl, hkw⟩ := hrel
            have HX := Lib.hid hkw
            have hb0 := HXM.out.1.kept hkw
            have hb1 := HXM.out.2.kept hkw
            by_cases hti : t < i
            · have c0 := hb0.cell (i - 1 - t) (by omega)
              have c1 := hb1.cell (i - 1 - t) (by omega)
              have l0 := hb0.lt
              have l1 := hb1.lt
              have i0 : (0 : Int) ≤ (i : Int) - 1 - t := by omega
              have i1 : (i : Int) - 1 - t < 128 := by omega
              have HS := show isAt i x m j (t + 1) = (isAt i x m j t && !(bt m (i - 1 - t) && (bt x (i - 1 - t) != j.testBit t))) from rfl
              rw [bit_div] at HS
              have HR := Lib.hid (show j / 2 ^ (t + 1) = j / 2 ^ t / 2 by rw [Nat.pow_succ, Nat.div_div_eq_div_mul])
              have hR8 : j / 2 ^ t ≤ 8 := Nat.le_trans (Nat.div_le_self _ _) (by omega)
              have hp := parity (j / 2 ^ t)
              clear hb0 hb1 hkw
              generalize j / 2 ^ t = R at *
              generalize isAt i x m j t = S at *
              obtain ⟨p, hpp⟩ : ∃ p, (R % 2 == 1) = p := ⟨_, rfl⟩
              rw [hpp] at hp HS
              clear hpp
              cases hx : bt x (i - 1 - t) <;> cases hm : bt m (i - 1 - t) <;> cases p
              all_goals
                rw [hx] at c0
                rw [hm] at c1
                rw [hx, hm] at HS
                simp at HS
                have HS := Lib.hid HS
                clear hx hm
                go_wp2_with fail
                go_roundw
                case rel => exact ⟨t + 1, by omega, by go_num, by rw [HR.out]; go_num, by rw [HS.out], HX.out⟩
                case measure => simp [intOf]; omega
            · have hti : t = i := by omega
              subst hti
              rw [HI.out]
              have HO2 := Lib.hid (HO.out.step HX.out)
              clear hb0 hb1 hkw HO
              cases hm : meetAt t x m j
              · rw [hm] at HT
                go_wp2_with fail
                go_roundw
                case rel => exact ⟨j + 1, by omega, by go_num, by rw [HT.out]; simpa using HO2.out⟩
                case measure => simp [intOf]; omega
              · rw [hm] at HT
                generalize (List.range j).filter (meetAt t x m) = L at *
                go_wp2_with (first | (at_builtin; refine wpList_push rfl _ _ 27 rfl 3 (.int .i64 0) 1 8 Try.underlying27 info_int rfl (by omega) u5 L.length _ rfl (HO2.out.alloc _) _ 1 1 (encN j) rfl rfl (heap_alloc_new _ _) (by simp [encN, Value.oneCell']) (by unfold maxLen; omega) (by omega) ?_; intro v' w1 hown1))
                go_roundw
                case rel => exact ⟨j + 1, by omega, by go_num, by rw [HT.out]; simpa using hown1⟩
                case measure => simp [intOf]; omega
        · have hjM : j = M := by omega
          subst hjM
          have HO := Lib.hid hown
          clear hown
          go_wp2_with fail
          go_ret
          exact RetEls.mk HW.out.1 HO.out
end Go.Proofs.Ytlmadimnoknheaa
