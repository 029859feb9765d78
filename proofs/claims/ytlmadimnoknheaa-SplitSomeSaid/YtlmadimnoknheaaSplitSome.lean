/- SplitSome: some address of each bank that a word has to do with is matched by it. -/
import Derived.Test.YtlmadimnoknheaaRows
import Derived.Test.YtlmadimnoknheaaAwake16
import Derived.Test.YtlmadimnoknheaaOpen4
namespace Pg
open Go
/-- An address that a word and a bank's word both match. -/
theorem both_some {k j : Nat} (hk : k ≤ 3) (hj : j < 2 ^ k) {x m : B} (h : meetAt k x m j = true) (n : Int) :
    topN (someB ((x &&& m) ||| (atB k j &&& maskB k)) (m ||| maskB k) n) k = j ∧ matchW x m (someB ((x &&& m) ||| (atB k j &&& maskB k)) (m ||| maskB k) n) = true := by
  have h1 := some_match ((x &&& m) ||| (atB k j &&& maskB k)) (m ||| maskB k) n
  have h2 := both_match (x := x) (m := m) (y := atB k j) (n := maskB k) h (someB ((x &&& m) ||| (atB k j &&& maskB k)) (m ||| maskB k) n)
  rw [h1] at h2
  have h3 := (Bool.and_eq_true _ _ ▸ h2.symm : matchW x m _ = true ∧ matchW (atB k j) (maskB k) _ = true)
  exact ⟨(match_atB (by omega) hj _).1 h3.2, h3.1⟩
end Pg
namespace Go.Proofs.Ytlmadimnoknheaa
open Go.RowKit Pg Go.ChangeShapes Go.WideShapes Go.ChangeAt

set_option maxHeartbeats 1000000 in
set_option maxRecDepth 100000 in
theorem splitSome_0 (x m : B) (n : Int) (w : World) : Calls Try.prog 8 #[.int .i64 0, wv x m, .int .i64 n] w (Ret (.bool true) w) := by
  have H1 := Lib.hid (fun w => sbanks_any 0 x m w)
  have hlen := bankZ_len 0 x m
  have HM := Lib.hid (fun j (hj : j ∈ bankZ 0 x m) => mem_banksL.1 (show j ∈ banksL 0 x m from hj))
  obtain ⟨L, hL⟩ : ∃ L, bankZ 0 x m = L := ⟨_, rfl⟩
  rw [hL] at H1 hlen HM
  clear hL
  have hmx : max (0 : Int) 0 = 0 := by decide
  have hmn : min (0 : Int) 3 = 0 := by decide
  go_enter Try.func8, Try.ntmps8
  go_wp2_with fail
  refine (H1.out _).mono ?_
  rintro e w1 hR
  obtain ⟨a1, c1, rfl, hlc1, hown1, hels1⟩ := RetEls.out2 encN_len hR
  have HE := Lib.hid hels1
  have hkW : Kept w w1 := Kept.trans (Kept.alloc (Kept.refl w) _) hown1.1
  have bx : Blk w1 w.heap.size 26 #[.int .u64 (hi x), .int .u64 (lo x), .int .u64 (hi m), .int .u64 (lo m)] := Blk.kept (Blk.new _ _ _) hown1.1
  have HK := Lib.hid (And.intro hkW bx)
  clear hown1 hels1 hR hkW bx
  go_wp2_with fail
  go_loopw [8, 9, 10, 11, 12, 17] (fun _ _ _ _ _ vk wr => ∃ i : Nat, i ≤ L.length ∧ vk = .int .i64 i ∧ Kept w1 wr) (fun _ _ _ _ _ k _ => L.length - (intOf k).toNat)
  case atStart => exact ⟨0, by omega, rfl, Kept.refl _⟩
  case round =>
    obtain ⟨i, hi', rfl, hkw⟩ := hrel
    have HX := Lib.hid hkw
    have bx := HK.out.2.kept hkw
    obtain ⟨x0, x1, x2, x3, xl⟩ := Blk.four bx
    have HBX := Lib.hid bx
    clear bx
    by_cases hlt : i < L.length
    · obtain ⟨bA, oA, rfl, hbA, hcellA⟩ := (HE.out.kept hkw).at_ (i) hlt
      obtain ⟨eA, heeA⟩ : ∃ e, (L)[i]'hlt = e := ⟨_, rfl⟩
      rw [heeA] at hcellA
      have cA0 : wr.cell? ⟨bA, oA + i, none⟩ = some (.int .i64 (eA : Int)) := by have := hcellA 0 (by omega); simpa [encN, encI] using this
      have HeeA := Lib.hid heeA
      clear hcellA heeA
      have hm := HM.out eA (by rw [← HeeA.out]; exact List.getElem_mem hlt)
      have hil : (i : Int) < (L.length : Int) := by omega
      have i0 : (0 : Int) ≤ i := by omega
      obtain ⟨hj, hmeet⟩ := hm
      clear hkw HeeA
      generalize eA = j at *
      have j8 : (j : Int) < 1 := Int.ofNat_lt.2 hj
      have j0 : (0 : Int) ≤ j := by omega
      obtain rfl : j = 0 := by omega
      have HF := both_some (k := 0) (by omega) hj hmeet n
      have HB := Lib.hid (fun w => wboth_yes (x := x) (m := m) (y := atB 0 0) (n := maskB 0) hmeet w)
      generalize ((x &&& m) ||| (atB 0 0 &&& maskB 0)) = Z at HF HB
      generalize (m ||| maskB 0) = M at HF HB
      have HS := Lib.hid (fun w => wsome_any Z M n w)
      generalize someB Z M n = A at HF HS
      have HO := Lib.hid (fun w => show Calls Try.prog 14 #[.int .i64 0, av A] w (Ret (.int .i64 ((0 : Nat) : Int)) w) by have := sof_yes 0 (by omega) A w; rwa [HF.1] at this)
      have HMa := Lib.hid HF.2
      have HP := Lib.hid (fun w => show Calls Try.prog 27 #[.agg #[.int .u64 0, .int .u64 0], .int .i64 0] w (Ret (pv (atB 0 0) 0) w) from smake_any 0 (by omega) 0 hj _ rfl w)
      have HW := Lib.hid (fun w => show Calls Try.prog 26 #[pv (atB 0 0) 0] w (Ret (wv (atB 0 0) (maskB 0)) w) from sword_any 0 (by omega) 0 hj w)
      clear HF hj hmeet
      go_wp2_with (first | (go_at_call 27; first | ((with_reducible refine (calls_in (HP.out _)).mono ?_); rintro e w1 ⟨rfl, q1, rfl⟩) | ((with_reducible refine (HP.out _).mono ?_); rintro e w1 ⟨rfl, q1, rfl⟩) | ((with_reducible refine (calls_in (HP.out _)).mono ?_); rintro e w1 ⟨rfl, q1, rfl⟩) | ((with_reducible refine (HP.out _).mono ?_); rintro e w1 ⟨rfl, q1, rfl⟩)) | (go_at_call 26; refine (HW.out _).mono ?_; rintro e wo ⟨rfl, q1, hw9⟩; have hk9 : Kept wr wo := (by rw [hw9]; simp (maxDischargeDepth := 99)); replace HX := Lib.hid (HX.out.trans hk9); replace HBX := Lib.hid (HBX.out.kept hk9); clear x0 x1 x2 x3 xl hw9 hk9; obtain ⟨x0, x1, x2, x3, xl⟩ := Blk.four HBX.out) | (go_at_call 28; first | ((with_reducible refine (calls_in (HB.out _)).mono ?_); rintro e w1 ⟨rfl, q1, rfl⟩) | ((with_reducible refine (HB.out _).mono ?_); rintro e w1 ⟨rfl, q1, rfl⟩) | ((with_reducible refine (calls_in (HB.out _)).mono ?_); rintro e w1 ⟨rfl, q1, rfl⟩) | ((with_reducible refine (HB.out _).mono ?_); rintro e w1 ⟨rfl, q1, rfl⟩)) | (go_at_call 29; refine (HS.out _).mono ?_; rintro e ws ⟨rfl, q1, hw9⟩; have hk9 : Kept wo ws := (by rw [hw9]; simp (maxDischargeDepth := 99)); replace HX := Lib.hid (HX.out.trans hk9); replace HBX := Lib.hid (HBX.out.kept hk9); clear x0 x1 x2 x3 xl hw9 hk9; obtain ⟨x0, x1, x2, x3, xl⟩ := Blk.four HBX.out) | (go_at_call 14; first | ((with_reducible refine (calls_in (HO.out _)).mono ?_); rintro e w1 ⟨rfl, q1, rfl⟩) | ((with_reducible refine (HO.out _).mono ?_); rintro e w1 ⟨rfl, q1, rfl⟩) | ((with_reducible refine (calls_in (HO.out _)).mono ?_); rintro e w1 ⟨rfl, q1, rfl⟩) | ((with_reducible refine (HO.out _).mono ?_); rintro e w1 ⟨rfl, q1, rfl⟩)) | (go_at_call 25; first | ((with_reducible refine (calls_in (wmatch_as HMa.out _)).mono ?_); rintro e w1 ⟨rfl, q1, rfl⟩) | ((with_reducible refine (wmatch_as HMa.out _).mono ?_); rintro e w1 ⟨rfl, q1, rfl⟩) | ((with_reducible refine (calls_in (wmatch_as HMa.out _)).mono ?_); rintro e w1 ⟨rfl, q1, rfl⟩) | ((with_reducible refine (wmatch_as HMa.out _).mono ?_); rintro e w1 ⟨rfl, q1, rfl⟩)))
      go_roundw
      case rel => exact ⟨i + 1, by omega, by go_num, by simp (maxDischargeDepth := 99) [HX.out]⟩
      case measure => simp [intOf]; omega
    · have hil : i = L.length := by omega
      subst hil
      have hkW := Lib.hid (HK.out.1.trans hkw)
      clear hkw hlt
      go_wp2_with (first | (go_at_call 16; first | ((refine (calls_in (awake16_any _)).mono ?_); rintro e w1 ⟨rfl, q1, rfl⟩) | ((refine (awake16_any _).mono ?_); rintro e w1 ⟨rfl, q1, rfl⟩)))
      go_ret
      exact Ret.of (rfl) (by simp (maxDischargeDepth := 99) [hkW.out])
set_option maxHeartbeats 1000000 in
set_option maxRecDepth 100000 in
theorem splitSome_1 (x m : B) (n : Int) (w : World) : Calls Try.prog 8 #[.int .i64 1, wv x m, .int .i64 n] w (Ret (.bool true) w) := by
  have H1 := Lib.hid (fun w => sbanks_any 1 x m w)
  have hlen := bankZ_len 1 x m
  have HM := Lib.hid (fun j (hj : j ∈ bankZ 1 x m) => mem_banksL.1 (show j ∈ banksL 1 x m from hj))
  obtain ⟨L, hL⟩ : ∃ L, bankZ 1 x m = L := ⟨_, rfl⟩
  rw [hL] at H1 hlen HM
  clear hL
  have hmx : max (1 : Int) 0 = 1 := by decide
  have hmn : min (1 : Int) 3 = 1 := by decide
  go_enter Try.func8, Try.ntmps8
  go_wp2_with fail
  refine (H1.out _).mono ?_
  rintro e w1 hR
  obtain ⟨a1, c1, rfl, hlc1, hown1, hels1⟩ := RetEls.out2 encN_len hR
  have HE := Lib.hid hels1
  have hkW : Kept w w1 := Kept.trans (Kept.alloc (Kept.refl w) _) hown1.1
  have bx : Blk w1 w.heap.size 26 #[.int .u64 (hi x), .int .u64 (lo x), .int .u64 (hi m), .int .u64 (lo m)] := Blk.kept (Blk.new _ _ _) hown1.1
  have HK := Lib.hid (And.intro hkW bx)
  clear hown1 hels1 hR hkW bx
  go_wp2_with fail
  go_loopw [8, 9, 10, 11, 12, 17] (fun _ _ _ _ _ vk wr => ∃ i : Nat, i ≤ L.length ∧ vk = .int .i64 i ∧ Kept w1 wr) (fun _ _ _ _ _ k _ => L.length - (intOf k).toNat)
  case atStart => exact ⟨0, by omega, rfl, Kept.refl _⟩
  case round =>
    obtain ⟨i, hi', rfl, hkw⟩ := hrel
    have HX := Lib.hid hkw
    have bx := HK.out.2.kept hkw
    obtain ⟨x0, x1, x2, x3, xl⟩ := Blk.four bx
    have HBX := Lib.hid bx
    clear bx
    by_cases hlt : i < L.length
    · obtain ⟨bA, oA, rfl, hbA, hcellA⟩ := (HE.out.kept hkw).at_ (i) hlt
      obtain ⟨eA, heeA⟩ : ∃ e, (L)[i]'hlt = e := ⟨_, rfl⟩
      rw [heeA] at hcellA
      have cA0 : wr.cell? ⟨bA, oA + i, none⟩ = some (.int .i64 (eA : Int)) := by have := hcellA 0 (by omega); simpa [encN, encI] using this
      have HeeA := Lib.hid heeA
      clear hcellA heeA
      have hm := HM.out eA (by rw [← HeeA.out]; exact List.getElem_mem hlt)
      have hil : (i : Int) < (L.length : Int) := by omega
      have i0 : (0 : Int) ≤ i := by omega
      obtain ⟨hj, hmeet⟩ := hm
      clear hkw HeeA
      generalize eA = j at *
      have j8 : (j : Int) < 2 := Int.ofNat_lt.2 hj
      have j0 : (0 : Int) ≤ j := by omega
      have HF := both_some (k := 1) (by omega) hj hmeet n
      have HB := Lib.hid (fun w => wboth_yes (x := x) (m := m) (y := atB 1 j) (n := maskB 1) hmeet w)
      generalize ((x &&& m) ||| (atB 1 j &&& maskB 1)) = Z at HF HB
      generalize (m ||| maskB 1) = M at HF HB
      have HS := Lib.hid (fun w => wsome_any Z M n w)
      generalize someB Z M n = A at HF HS
      have HO := Lib.hid (fun w => show Calls Try.prog 14 #[.int .i64 1, av A] w (Ret (.int .i64 ((j : Nat) : Int)) w) by have := sof_yes 1 (by omega) A w; rwa [HF.1] at this)
      have HMa := Lib.hid HF.2
      have HP := Lib.hid (fun w => show Calls Try.prog 27 #[.agg #[.int .u64 ((j : Int) * 9223372036854775808), .int .u64 0], .int .i64 1] w (Ret (pv (atB 1 j) 1) w) from smake_any 1 (by omega) j hj _ rfl w)
      have HW := Lib.hid (fun w => show Calls Try.prog 26 #[pv (atB 1 j) 1] w (Ret (wv (atB 1 j) (maskB 1)) w) from sword_any 1 (by omega) j hj w)
      clear HF hj hmeet
      go_wp2_with (first | (go_at_call 27; first | ((with_reducible refine (calls_in (HP.out _)).mono ?_); rintro e w1 ⟨rfl, q1, rfl⟩) | ((with_reducible refine (HP.out _).mono ?_); rintro e w1 ⟨rfl, q1, rfl⟩) | ((with_reducible refine (calls_in (HP.out _)).mono ?_); rintro e w1 ⟨rfl, q1, rfl⟩) | ((with_reducible refine (HP.out _).mono ?_); rintro e w1 ⟨rfl, q1, rfl⟩)) | (go_at_call 26; refine (HW.out _).mono ?_; rintro e wo ⟨rfl, q1, hw9⟩; have hk9 : Kept wr wo := (by rw [hw9]; simp (maxDischargeDepth := 99)); replace HX := Lib.hid (HX.out.trans hk9); replace HBX := Lib.hid (HBX.out.kept hk9); clear x0 x1 x2 x3 xl hw9 hk9; obtain ⟨x0, x1, x2, x3, xl⟩ := Blk.four HBX.out) | (go_at_call 28; first | ((with_reducible refine (calls_in (HB.out _)).mono ?_); rintro e w1 ⟨rfl, q1, rfl⟩) | ((with_reducible refine (HB.out _).mono ?_); rintro e w1 ⟨rfl, q1, rfl⟩) | ((with_reducible refine (calls_in (HB.out _)).mono ?_); rintro e w1 ⟨rfl, q1, rfl⟩) | ((with_reducible refine (HB.out _).mono ?_); rintro e w1 ⟨rfl, q1, rfl⟩)) | (go_at_call 29; refine (HS.out _).mono ?_; rintro e ws ⟨rfl, q1, hw9⟩; have hk9 : Kept wo ws := (by rw [hw9]; simp (maxDischargeDepth := 99)); replace HX := Lib.hid (HX.out.trans hk9); replace HBX := Lib.hid (HBX.out.kept hk9); clear x0 x1 x2 x3 xl hw9 hk9; obtain ⟨x0, x1, x2, x3, xl⟩ := Blk.four HBX.out) | (go_at_call 14; first | ((with_reducible refine (calls_in (HO.out _)).mono ?_); rintro e w1 ⟨rfl, q1, rfl⟩) | ((with_reducible refine (HO.out _).mono ?_); rintro e w1 ⟨rfl, q1, rfl⟩) | ((with_reducible refine (calls_in (HO.out _)).mono ?_); rintro e w1 ⟨rfl, q1, rfl⟩) | ((with_reducible refine (HO.out _).mono ?_); rintro e w1 ⟨rfl, q1, rfl⟩)) | (go_at_call 25; first | ((with_reducible refine (calls_in (wmatch_as HMa.out _)).mono ?_); rintro e w1 ⟨rfl, q1, rfl⟩) | ((with_reducible refine (wmatch_as HMa.out _).mono ?_); rintro e w1 ⟨rfl, q1, rfl⟩) | ((with_reducible refine (calls_in (wmatch_as HMa.out _)).mono ?_); rintro e w1 ⟨rfl, q1, rfl⟩) | ((with_reducible refine (wmatch_as HMa.out _).mono ?_); rintro e w1 ⟨rfl, q1, rfl⟩)))
      go_roundw
      case rel => exact ⟨i + 1, by omega, by go_num, by simp (maxDischargeDepth := 99) [HX.out]⟩
      case measure => simp [intOf]; omega
    · have hil : i = L.length := by omega
      subst hil
      have hkW := Lib.hid (HK.out.1.trans hkw)
      clear hkw hlt
      go_wp2_with (first | (go_at_call 16; first | ((refine (calls_in (awake16_any _)).mono ?_); rintro e w1 ⟨rfl, q1, rfl⟩) | ((refine (awake16_any _).mono ?_); rintro e w1 ⟨rfl, q1, rfl⟩)))
      go_ret
      exact Ret.of (rfl) (by simp (maxDischargeDepth := 99) [hkW.out])
set_option maxHeartbeats 1000000 in
set_option maxRecDepth 100000 in
theorem splitSome_2 (x m : B) (n : Int) (w : World) : Calls Try.prog 8 #[.int .i64 2, wv x m, .int .i64 n] w (Ret (.bool true) w) := by
  have H1 := Lib.hid (fun w => sbanks_any 2 x m w)
  have hlen := bankZ_len 2 x m
  have HM := Lib.hid (fun j (hj : j ∈ bankZ 2 x m) => mem_banksL.1 (show j ∈ banksL 2 x m from hj))
  obtain ⟨L, hL⟩ : ∃ L, bankZ 2 x m = L := ⟨_, rfl⟩
  rw [hL] at H1 hlen HM
  clear hL
  have hmx : max (2 : Int) 0 = 2 := by decide
  have hmn : min (2 : Int) 3 = 2 := by decide
  go_enter Try.func8, Try.ntmps8
  go_wp2_with fail
  refine (H1.out _).mono ?_
  rintro e w1 hR
  obtain ⟨a1, c1, rfl, hlc1, hown1, hels1⟩ := RetEls.out2 encN_len hR
  have HE := Lib.hid hels1
  have hkW : Kept w w1 := Kept.trans (Kept.alloc (Kept.refl w) _) hown1.1
  have bx : Blk w1 w.heap.size 26 #[.int .u64 (hi x), .int .u64 (lo x), .int .u64 (hi m), .int .u64 (lo m)] := Blk.kept (Blk.new _ _ _) hown1.1
  have HK := Lib.hid (And.intro hkW bx)
  clear hown1 hels1 hR hkW bx
  go_wp2_with fail
  go_loopw [8, 9, 10, 11, 12, 17] (fun _ _ _ _ _ vk wr => ∃ i : Nat, i ≤ L.length ∧ vk = .int .i64 i ∧ Kept w1 wr) (fun _ _ _ _ _ k _ => L.length - (intOf k).toNat)
  case atStart => exact ⟨0, by omega, rfl, Kept.refl _⟩
  case round =>
    obtain ⟨i, hi', rfl, hkw⟩ := hrel
    have HX := Lib.hid hkw
    have bx := HK.out.2.kept hkw
    obtain ⟨x0, x1, x2, x3, xl⟩ := Blk.four bx
    have HBX := Lib.hid bx
    clear bx
    by_cases hlt : i < L.length
    · obtain ⟨bA, oA, rfl, hbA, hcellA⟩ := (HE.out.kept hkw).at_ (i) hlt
      obtain ⟨eA, heeA⟩ : ∃ e, (L)[i]'hlt = e := ⟨_, rfl⟩
      rw [heeA] at hcellA
      have cA0 : wr.cell? ⟨bA, oA + i, none⟩ = some (.int .i64 (eA : Int)) := by have := hcellA 0 (by omega); simpa [encN, encI] using this
      have HeeA := Lib.hid heeA
      clear hcellA heeA
      have hm := HM.out eA (by rw [← HeeA.out]; exact List.getElem_mem hlt)
      have hil : (i : Int) < (L.length : Int) := by omega
      have i0 : (0 : Int) ≤ i := by omega
      obtain ⟨hj, hmeet⟩ := hm
      clear hkw HeeA
      generalize eA = j at *
      have j8 : (j : Int) < 4 := Int.ofNat_lt.2 hj
      have j0 : (0 : Int) ≤ j := by omega
      have HF := both_some (k := 2) (by omega) hj hmeet n
      have HB := Lib.hid (fun w => wboth_yes (x := x) (m := m) (y := atB 2 j) (n := maskB 2) hmeet w)
      generalize ((x &&& m) ||| (atB 2 j &&& maskB 2)) = Z at HF HB
      generalize (m ||| maskB 2) = M at HF HB
      have HS := Lib.hid (fun w => wsome_any Z M n w)
      generalize someB Z M n = A at HF HS
      have HO := Lib.hid (fun w => show Calls Try.prog 14 #[.int .i64 2, av A] w (Ret (.int .i64 ((j : Nat) : Int)) w) by have := sof_yes 2 (by omega) A w; rwa [HF.1] at this)
      have HMa := Lib.hid HF.2
      have HP := Lib.hid (fun w => show Calls Try.prog 27 #[.agg #[.int .u64 ((j : Int) * 4611686018427387904), .int .u64 0], .int .i64 2] w (Ret (pv (atB 2 j) 2) w) from smake_any 2 (by omega) j hj _ rfl w)
      have HW := Lib.hid (fun w => show Calls Try.prog 26 #[pv (atB 2 j) 2] w (Ret (wv (atB 2 j) (maskB 2)) w) from sword_any 2 (by omega) j hj w)
      clear HF hj hmeet
      go_wp2_with (first | (go_at_call 27; first | ((with_reducible refine (calls_in (HP.out _)).mono ?_); rintro e w1 ⟨rfl, q1, rfl⟩) | ((with_reducible refine (HP.out _).mono ?_); rintro e w1 ⟨rfl, q1, rfl⟩) | ((with_reducible refine (calls_in (HP.out _)).mono ?_); rintro e w1 ⟨rfl, q1, rfl⟩) | ((with_reducible refine (HP.out _).mono ?_); rintro e w1 ⟨rfl, q1, rfl⟩)) | (go_at_call 26; refine (HW.out _).mono ?_; rintro e wo ⟨rfl, q1, hw9⟩; have hk9 : Kept wr wo := (by rw [hw9]; simp (maxDischargeDepth := 99)); replace HX := Lib.hid (HX.out.trans hk9); replace HBX := Lib.hid (HBX.out.kept hk9); clear x0 x1 x2 x3 xl hw9 hk9; obtain ⟨x0, x1, x2, x3, xl⟩ := Blk.four HBX.out) | (go_at_call 28; first | ((with_reducible refine (calls_in (HB.out _)).mono ?_); rintro e w1 ⟨rfl, q1, rfl⟩) | ((with_reducible refine (HB.out _).mono ?_); rintro e w1 ⟨rfl, q1, rfl⟩) | ((with_reducible refine (calls_in (HB.out _)).mono ?_); rintro e w1 ⟨rfl, q1, rfl⟩) | ((with_reducible refine (HB.out _).mono ?_); rintro e w1 ⟨rfl, q1, rfl⟩)) | (go_at_call 29; refine (HS.out _).mono ?_; rintro e ws ⟨rfl, q1, hw9⟩; have hk9 : Kept wo ws := (by rw [hw9]; simp (maxDischargeDepth := 99)); replace HX := Lib.hid (HX.out.trans hk9); replace HBX := Lib.hid (HBX.out.kept hk9); clear x0 x1 x2 x3 xl hw9 hk9; obtain ⟨x0, x1, x2, x3, xl⟩ := Blk.four HBX.out) | (go_at_call 14; first | ((with_reducible refine (calls_in (HO.out _)).mono ?_); rintro e w1 ⟨rfl, q1, rfl⟩) | ((with_reducible refine (HO.out _).mono ?_); rintro e w1 ⟨rfl, q1, rfl⟩) | ((with_reducible refine (calls_in (HO.out _)).mono ?_); rintro e w1 ⟨rfl, q1, rfl⟩) | ((with_reducible refine (HO.out _).mono ?_); rintro e w1 ⟨rfl, q1, rfl⟩)) | (go_at_call 25; first | ((with_reducible refine (calls_in (wmatch_as HMa.out _)).mono ?_); rintro e w1 ⟨rfl, q1, rfl⟩) | ((with_reducible refine (wmatch_as HMa.out _).mono ?_); rintro e w1 ⟨rfl, q1, rfl⟩) | ((with_reducible refine (calls_in (wmatch_as HMa.out _)).mono ?_); rintro e w1 ⟨rfl, q1, rfl⟩) | ((with_reducible refine (wmatch_as HMa.out _).mono ?_); rintro e w1 ⟨rfl, q1, rfl⟩)))
      go_roundw
      case rel => exact ⟨i + 1, by omega, by go_num, by simp (maxDischargeDepth := 99) [HX.out]⟩
      case measure => simp [intOf]; omega
    · have hil : i = L.length := by omega
      subst hil
      have hkW := Lib.hid (HK.out.1.trans hkw)
      clear hkw hlt
      go_wp2_with (first | (go_at_call 16; first | ((refine (calls_in (awake16_any _)).mono ?_); rintro e w1 ⟨rfl, q1, rfl⟩) | ((refine (awake16_any _).mono ?_); rintro e w1 ⟨rfl, q1, rfl⟩)))
      go_ret
      exact Ret.of (rfl) (by simp (maxDischargeDepth := 99) [hkW.out])
set_option maxHeartbeats 1000000 in
set_option maxRecDepth 100000 in
theorem splitSome_3 (x m : B) (n : Int) (w : World) : Calls Try.prog 8 #[.int .i64 3, wv x m, .int .i64 n] w (Ret (.bool true) w) := by
  have H1 := Lib.hid (fun w => sbanks_any 3 x m w)
  have hlen := bankZ_len 3 x m
  have HM := Lib.hid (fun j (hj : j ∈ bankZ 3 x m) => mem_banksL.1 (show j ∈ banksL 3 x m from hj))
  obtain ⟨L, hL⟩ : ∃ L, bankZ 3 x m = L := ⟨_, rfl⟩
  rw [hL] at H1 hlen HM
  clear hL
  have hmx : max (3 : Int) 0 = 3 := by decide
  have hmn : min (3 : Int) 3 = 3 := by decide
  go_enter Try.func8, Try.ntmps8
  go_wp2_with fail
  refine (H1.out _).mono ?_
  rintro e w1 hR
  obtain ⟨a1, c1, rfl, hlc1, hown1, hels1⟩ := RetEls.out2 encN_len hR
  have HE := Lib.hid hels1
  have hkW : Kept w w1 := Kept.trans (Kept.alloc (Kept.refl w) _) hown1.1
  have bx : Blk w1 w.heap.size 26 #[.int .u64 (hi x), .int .u64 (lo x), .int .u64 (hi m), .int .u64 (lo m)] := Blk.kept (Blk.new _ _ _) hown1.1
  have HK := Lib.hid (And.intro hkW bx)
  clear hown1 hels1 hR hkW bx
  go_wp2_with fail
  go_loopw [8, 9, 10, 11, 12, 17] (fun _ _ _ _ _ vk wr => ∃ i : Nat, i ≤ L.length ∧ vk = .int .i64 i ∧ Kept w1 wr) (fun _ _ _ _ _ k _ => L.length - (intOf k).toNat)
  case atStart => exact ⟨0, by omega, rfl, Kept.refl _⟩
  case round =>
    obtain ⟨i, hi', rfl, hkw⟩ := hrel
    have HX := Lib.hid hkw
    have bx := HK.out.2.kept hkw
    obtain ⟨x0, x1, x2, x3, xl⟩ := Blk.four bx
    have HBX := Lib.hid bx
    clear bx
    by_cases hlt : i < L.length
    · obtain ⟨bA, oA, rfl, hbA, hcellA⟩ := (HE.out.kept hkw).at_ (i) hlt
      obtain ⟨eA, heeA⟩ : ∃ e, (L)[i]'hlt = e := ⟨_, rfl⟩
      rw [heeA] at hcellA
      have cA0 : wr.cell? ⟨bA, oA + i, none⟩ = some (.int .i64 (eA : Int)) := by have := hcellA 0 (by omega); simpa [encN, encI] using this
      have HeeA := Lib.hid heeA
      clear hcellA heeA
      have hm := HM.out eA (by rw [← HeeA.out]; exact List.getElem_mem hlt)
      have hil : (i : Int) < (L.length : Int) := by omega
      have i0 : (0 : Int) ≤ i := by omega
      obtain ⟨hj, hmeet⟩ := hm
      clear hkw HeeA
      generalize eA = j at *
      have j8 : (j : Int) < 8 := Int.ofNat_lt.2 hj
      have j0 : (0 : Int) ≤ j := by omega
      have HF := both_some (k := 3) (by omega) hj hmeet n
      have HB := Lib.hid (fun w => wboth_yes (x := x) (m := m) (y := atB 3 j) (n := maskB 3) hmeet w)
      generalize ((x &&& m) ||| (atB 3 j &&& maskB 3)) = Z at HF HB
      generalize (m ||| maskB 3) = M at HF HB
      have HS := Lib.hid (fun w => wsome_any Z M n w)
      generalize someB Z M n = A at HF HS
      have HO := Lib.hid (fun w => show Calls Try.prog 14 #[.int .i64 3, av A] w (Ret (.int .i64 ((j : Nat) : Int)) w) by have := sof_yes 3 (by omega) A w; rwa [HF.1] at this)
      have HMa := Lib.hid HF.2
      have HP := Lib.hid (fun w => show Calls Try.prog 27 #[.agg #[.int .u64 ((j : Int) * 2305843009213693952), .int .u64 0], .int .i64 3] w (Ret (pv (atB 3 j) 3) w) from smake_any 3 (by omega) j hj _ rfl w)
      have HW := Lib.hid (fun w => show Calls Try.prog 26 #[pv (atB 3 j) 3] w (Ret (wv (atB 3 j) (maskB 3)) w) from sword_any 3 (by omega) j hj w)
      clear HF hj hmeet
      go_wp2_with (first | (go_at_call 27; first | ((with_reducible refine (calls_in (HP.out _)).mono ?_); rintro e w1 ⟨rfl, q1, rfl⟩) | ((with_reducible refine (HP.out _).mono ?_); rintro e w1 ⟨rfl, q1, rfl⟩) | ((with_reducible refine (calls_in (HP.out _)).mono ?_); rintro e w1 ⟨rfl, q1, rfl⟩) | ((with_reducible refine (HP.out _).mono ?_); rintro e w1 ⟨rfl, q1, rfl⟩)) | (go_at_call 26; refine (HW.out _).mono ?_; rintro e wo ⟨rfl, q1, hw9⟩; have hk9 : Kept wr wo := (by rw [hw9]; simp (maxDischargeDepth := 99)); replace HX := Lib.hid (HX.out.trans hk9); replace HBX := Lib.hid (HBX.out.kept hk9); clear x0 x1 x2 x3 xl hw9 hk9; obtain ⟨x0, x1, x2, x3, xl⟩ := Blk.four HBX.out) | (go_at_call 28; first | ((with_reducible refine (calls_in (HB.out _)).mono ?_); rintro e w1 ⟨rfl, q1, rfl⟩) | ((with_reducible refine (HB.out _).mono ?_); rintro e w1 ⟨rfl, q1, rfl⟩) | ((with_reducible refine (calls_in (HB.out _)).mono ?_); rintro e w1 ⟨rfl, q1, rfl⟩) | ((with_reducible refine (HB.out _).mono ?_); rintro e w1 ⟨rfl, q1, rfl⟩)) | (go_at_call 29; refine (HS.out _).mono ?_; rintro e ws ⟨rfl, q1, hw9⟩; have hk9 : Kept wo ws := (by rw [hw9]; simp (maxDischargeDepth := 99)); replace HX := Lib.hid (HX.out.trans hk9); replace HBX := Lib.hid (HBX.out.kept hk9); clear x0 x1 x2 x3 xl hw9 hk9; obtain ⟨x0, x1, x2, x3, xl⟩ := Blk.four HBX.out) | (go_at_call 14; first | ((with_reducible refine (calls_in (HO.out _)).mono ?_); rintro e w1 ⟨rfl, q1, rfl⟩) | ((with_reducible refine (HO.out _).mono ?_); rintro e w1 ⟨rfl, q1, rfl⟩) | ((with_reducible refine (calls_in (HO.out _)).mono ?_); rintro e w1 ⟨rfl, q1, rfl⟩) | ((with_reducible refine (HO.out _).mono ?_); rintro e w1 ⟨rfl, q1, rfl⟩)) | (go_at_call 25; first | ((with_reducible refine (calls_in (wmatch_as HMa.out _)).mono ?_); rintro e w1 ⟨rfl, q1, rfl⟩) | ((with_reducible refine (wmatch_as HMa.out _).mono ?_); rintro e w1 ⟨rfl, q1, rfl⟩) | ((with_reducible refine (calls_in (wmatch_as HMa.out _)).mono ?_); rintro e w1 ⟨rfl, q1, rfl⟩) | ((with_reducible refine (wmatch_as HMa.out _).mono ?_); rintro e w1 ⟨rfl, q1, rfl⟩)))
      go_roundw
      case rel => exact ⟨i + 1, by omega, by go_num, by simp (maxDischargeDepth := 99) [HX.out]⟩
      case measure => simp [intOf]; omega
    · have hil : i = L.length := by omega
      subst hil
      have hkW := Lib.hid (HK.out.1.trans hkw)
      clear hkw hlt
      go_wp2_with (first | (go_at_call 16; first | ((refine (calls_in (awake16_any _)).mono ?_); rintro e w1 ⟨rfl, q1, rfl⟩) | ((refine (awake16_any _).mono ?_); rintro e w1 ⟨rfl, q1, rfl⟩)))
      go_ret
      exact Ret.of (rfl) (by simp (maxDischargeDepth := 99) [hkW.out])
theorem splitSome_no (k : Int) (h : k < 0 ∨ 3 < k) (x m : B) (n : Int) (w : World) : Calls Try.prog 8 #[.int .i64 k, wv x m, .int .i64 n] w (Ret (.bool true) w) := by
  have H1 := Lib.hid (fun w => sbanks_no k h x m w)
  go_enter Try.func8, Try.ntmps8
  go_wp2_with fail
  refine (H1.out _).mono ?_
  rintro e w1 hR
  obtain ⟨a1, c1, rfl, hlc1, hown1, hels1⟩ := RetEls.out2 encN_len hR
  have HK := Lib.hid (show Kept w w1 from Kept.trans (Kept.alloc (Kept.refl w) _) hown1.1)
  clear hown1 hels1 hR
  go_wp2_with fail
  go_loopw [17] (fun vk wr => vk = .int .i64 0 ∧ Kept w wr) (fun _ _ => 0)
  case atStart => exact ⟨rfl, HK.out⟩
  case round =>
    obtain ⟨rfl, hkw⟩ := hrel
    have HX := Lib.hid hkw
    clear hkw
    go_wp2_with (first | (go_at_call 16; first | ((refine (calls_in (awake16_any _)).mono ?_); rintro e w1 ⟨rfl, q1, rfl⟩) | ((refine (awake16_any _).mono ?_); rintro e w1 ⟨rfl, q1, rfl⟩)))
    go_ret
    exact Ret.of (rfl) (by simp (maxDischargeDepth := 99) [HX.out])
theorem splitSome_walk (k : Int) (_ : -9223372036854775808 ≤ k) (_ : k ≤ 9223372036854775807) (x m : B) (n : Int) (_ : -9223372036854775808 ≤ n) (_ : n ≤ 9223372036854775807) (w : World) : Calls Try.prog 8 #[.int .i64 k, wv x m, .int .i64 n] w (Ret (.bool true) w) := by
  by_cases h1 : k < 0 ∨ 3 < k
  · exact splitSome_no k h1 x m n w
  have hc : k = 0 ∨ k = 1 ∨ k = 2 ∨ k = 3 := by omega
  rcases hc with rfl | rfl | rfl | rfl
  · exact splitSome_0 x m n w
  · exact splitSome_1 x m n w
  · exact splitSome_2 x m n w
  · exact splitSome_3 x m n w
set_option maxRecDepth 100000 in
theorem splitSome_lifted (os : Os) (started : os.Started) (H : Type) (enc : TypeId × Value → H) :
    ReturnsInHanded {} Try.checked os 8 .any (Rows.splitSomeSpec.pre6 enc Try.prog Try.f8 Rows.splitSomeRow.domain false) (Rows.splitSomeSpec.post enc Try.prog Try.f8 false true false false) := by
  refine returnsInHanded_of_change (C := Try.checked) own started (by kernel_rfl) Try.func8
    (ChangeSpec.witness6 (enc := enc) (C := Try.checked) false ⟨#[], #[.int .i64 0, .agg #[.int .u64 0, .int .u64 0, .int .u64 0, .int .u64 0], .int .i64 0], []⟩ 8 (by kernel_rfl) (by kernel_rfl) (by kernel_rfl) (by kernel_rfl)) ?_
  intro W base args ds gs before hval0 hW hcnd _
  have hval : ∀ (j : Nat) t v, Try.f8.params[j]? = some t → args[j]? = some v → Value.okWide Try.prog W .any base t v := hval0
  have hW' := hW
  obtain ⟨p, q, hA0, hV, rfl, hfz, hnd⟩ := hW
  obtain ⟨rfl, rfl⟩ := trodVars_none hV
  rw [List.append_nil] at hW'
  have hA : DataW.TrodAll enc Try.prog W 0 (fun _ => true) true Try.f8.params.toList args.toList ds p := hA0
  have hA1 := hA
  rw [Try.params8] at hA1 hval
  obtain ⟨v0, vs0, d0, ds0, p0, q0, hargs, rfl, rfl, h0, r0⟩ := trodAll_cons hA1
  obtain ⟨v1, vs1, d1, ds1, p1, q1, rfl, rfl, rfl, h1, r1⟩ := trodAll_cons r0
  obtain ⟨v2, vs2, d2, ds2, p2, q2, rfl, rfl, rfl, h2, r2⟩ := trodAll_cons r1
  obtain ⟨rfl, rfl, rfl⟩ := trodAll_nil r2
  obtain rfl : args = #[v0, v1, v2] := by cases args; simp_all
  obtain ⟨X0, rfl, rfl, rfl, w0⟩ := open_int Try.underlying3 (hval 0 _ v0 rfl rfl) h0
  obtain ⟨X1, M1, rfl⟩ := open_word (hval 1 _ v1 rfl rfl) h1
  obtain ⟨X2, rfl, rfl, rfl, w2⟩ := open_int Try.underlying3 (hval 2 _ v2 rfl rfl) h2
  refine (splitSome_walk X0 (wf_i64' w0).1 (wf_i64' w0).2 X1 M1 X2 (wf_i64' w2).1 (wf_i64' w2).2 W).mono fun e W' ⟨he, hg⟩ => ?_
  subst he
  exact ⟨_, rfl, post_true laidOut (by rw [Try.params8]; intro t ht; simp at ht; first | (subst ht; exact ⟨by kernel_rfl, of_decide_eq_true (by kernel_rfl)⟩) | (rcases ht with rfl | rfl <;> exact ⟨by kernel_rfl, of_decide_eq_true (by kernel_rfl)⟩) | (rcases ht with rfl | rfl | rfl <;> exact ⟨by kernel_rfl, of_decide_eq_true (by kernel_rfl)⟩) | (rcases ht with rfl | rfl | rfl | rfl <;> exact ⟨by kernel_rfl, of_decide_eq_true (by kernel_rfl)⟩)) rfl hW' hA rfl (trodAll_cons_mk (shut_bool Try.underlying4 _) trodAll_mk0) (Later.kept hg)⟩

theorem splitSome_holds : Rows.SplitSomeSaid :=
  OpenClaim.holds_of_wide 8 Try.f8 rfl rfl rfl rfl rfl rfl rfl ⟨rfl, rfl, rfl, rfl, rfl⟩ rfl rfl rfl rfl rfl (by kernel_rfl) Try.func8 (by kernel_rfl)
    (of_decide_eq_true (by kernel_rfl)) (by unfold Func.isWrapper; first | (rw [if_pos (by decide +kernel)]; kernel_rfl) | (rw [if_neg (by decide +kernel)]; exact ⟨rfl, rfl⟩))
    (fun os started H enc _ => splitSome_lifted os started H enc)
#print axioms splitSome_holds
end Go.Proofs.Ytlmadimnoknheaa
