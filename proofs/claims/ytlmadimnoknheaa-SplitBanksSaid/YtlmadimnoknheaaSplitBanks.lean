/- SplitBanks: an address's bank, and the banks that any word has to do with, are the document's, of any index. -/
import Derived.Test.YtlmadimnoknheaaRows
import Derived.Test.YtlmadimnoknheaaAwake16
import Derived.Test.YtlmadimnoknheaaOpen4
import Derived.Test.YtlmadimnoknheaaKit4
namespace Go.Proofs.Ytlmadimnoknheaa
open Go.RowKit Pg Go.ChangeShapes Go.WideShapes Go.ChangeAt

set_option maxHeartbeats 4000000 in
set_option maxRecDepth 100000 in
theorem splitBanks_0 (x m a : B) (w : World) : Calls Try.prog 3 #[.int .i64 0, wv x m, av a] w (Ret (.bool true) w) := by
  have H1 := Lib.hid (fun w => sbanks_any 0 x m w)
  have H2 := Lib.hid (fun w => refsbanks_any 0 x m w)
  have hlen := bankZ_len 0 x m
  obtain ⟨L, hL⟩ : ∃ L, bankZ 0 x m = L := ⟨_, rfl⟩
  rw [hL] at H1 H2 hlen
  clear hL
  have HM := Lib.hid (fun w => show Calls Try.prog 12 #[.int .i64 0] w (Ret (.int .i64 1) w) from smany_yes 0 (by omega) w)
  have HR := Lib.hid (fun w => show Calls Try.prog 13 #[.int .i64 0] w (Ret (.bool true) w) from sright_yes 0 (by omega) w)
  have HO1 := Lib.hid (fun w => show Calls Try.prog 14 #[.int .i64 0, av a] w (Ret (.int .i64 (topN a 0 : Int)) w) from sof_yes 0 (by omega) a w)
  have HO2 := Lib.hid (fun w => show Calls Try.prog 15 #[.int .i64 0, av a] w (Ret (.int .i64 (topN a 0 : Int)) w) from refsof_yes 0 (by omega) a w)
  go_enter Try.func3, Try.ntmps3
  go_wp2_with fail
  refine region_seq _ (by first | exact Later.ext _ _ | exact Later.refl _) mixed (by kernel_rfl) (by kernel_rfl) ?_
  intro q9
  refine seq_named fun W1 hW1 => ?_
  have hC := Lib.hid (show ∃ p, W1 = ext _ p from ⟨q9, hW1⟩)
  clear hW1 q9
  repeat (first | (refine seq_plain (by rfl) ?_; go_big_quiet_step (fail); refine wpQuiet_nil ?_) | (refine seq_move (by rfl) (by rfl) ?_; go_wp2_with (first | (go_at_call 11; first | ((refine (calls_in (law04of_any _ _ _)).mono ?_); rintro e w1 ⟨rfl, q1, rfl⟩) | ((refine (law04of_any _ _ _).mono ?_); rintro e w1 ⟨rfl, q1, rfl⟩))); refine ⟨_, rfl, (class_kept hC (by first | exact below_ext _ _ | exact Kept.refl _)).out, ?_⟩))
  refine seq_move (by rfl) (by rfl) ?_
  go_wp2_with fail
  refine (H1.out _).mono ?_
  rintro e w1 hR
  obtain ⟨a1, c1, rfl, hlc1, hown1, hels1⟩ := RetEls.out2 encN_len hR
  have hkk := kept_on hC (by first | exact .inl rfl | exact .inr ⟨_, rfl⟩) hown1.1
  replace hC := class_kept hC hkk
  have HE1 := Lib.hid hels1
  clear hown1 hels1 hR hkk
  go_wp2_with fail
  refine ⟨_, rfl, hC.out, ?_⟩
  repeat (first | (refine seq_plain (by rfl) ?_; go_big_quiet_step (fail); refine wpQuiet_nil ?_) | (refine seq_move (by rfl) (by rfl) ?_; go_wp2_with (first | (go_at_call 11; first | ((refine (calls_in (law04of_any _ _ _)).mono ?_); rintro e w1 ⟨rfl, q1, rfl⟩) | ((refine (law04of_any _ _ _).mono ?_); rintro e w1 ⟨rfl, q1, rfl⟩))); refine ⟨_, rfl, (class_kept hC (by first | exact below_ext _ _ | exact Kept.refl _)).out, ?_⟩))
  refine seq_move (by rfl) (by rfl) ?_
  go_wp2_with fail
  refine (H2.out _).mono ?_
  rintro e w2 hR
  obtain ⟨a2, c2, rfl, hlc2, hown2, hels2⟩ := RetEls.out2 encN_len hR
  have hkk := kept_on hC (by first | exact .inl rfl | exact .inr ⟨_, rfl⟩) hown2.1
  replace hC := class_kept hC hkk
  have HE2 := Lib.hid hels2
  replace HE1 := Lib.hid (HE1.out.kept hkk)
  clear hown2 hels2 hR hkk
  go_wp2_with fail
  refine ⟨_, rfl, hC.out, ?_⟩
  repeat (first | (refine seq_plain (by rfl) ?_; go_big_quiet_step (fail); refine wpQuiet_nil ?_))
  refine seq_nil ?_
  have hkC := Later.kept hC.out
  clear hC
  have hkW : Kept w w2 := Kept.trans (Kept.alloc (Kept.alloc (Kept.refl w) _) _) hkC
  have ba : Blk w2 (w.heap.size + 1) 24 #[.int .u64 (hi a), .int .u64 (lo a)] := Blk.kept (Blk.new' _ _ _ (by simp)) hkC
  have HK := Lib.hid (And.intro hkW ba)
  clear hkW ba hkC
  go_wp2_with (first | (go_at_call 12; first | ((refine (calls_in (HM.out _)).mono ?_); rintro e w1 ⟨rfl, q1, rfl⟩) | ((refine (HM.out _).mono ?_); rintro e w1 ⟨rfl, q1, rfl⟩)) | (go_at_call 13; first | ((refine (calls_in (HR.out _)).mono ?_); rintro e w1 ⟨rfl, q1, rfl⟩) | ((refine (HR.out _).mono ?_); rintro e w1 ⟨rfl, q1, rfl⟩)))
  go_loopw [10, 46] (fun _ vk wr => ∃ i : Nat, i ≤ L.length ∧ vk = .int .i64 i ∧ Kept w2 wr) (fun _ k _ => L.length - (intOf k).toNat)
  case atStart => exact ⟨0, by omega, rfl, by simp (maxDischargeDepth := 99)⟩
  case round =>
    obtain ⟨i, hi', rfl, hkw⟩ := hrel
    have HX := Lib.hid hkw
    by_cases hlt : i < L.length
    · obtain ⟨bA, oA, rfl, hbA, hcellA⟩ := (HE1.out.kept hkw).at_ (i) hlt
      obtain ⟨eA, heeA⟩ : ∃ e, (L)[i]'hlt = e := ⟨_, rfl⟩
      rw [heeA] at hcellA
      have cA0 : wr.cell? ⟨bA, oA + i, none⟩ = some (.int .i64 (eA : Int)) := by have := hcellA 0 (by omega); simpa [encN, encI] using this
      have HeeA := Lib.hid heeA
      clear hcellA heeA
      obtain ⟨bZ, oZ, rfl, hbZ, hcellZ⟩ := (HE2.out.kept hkw).at_ (i) hlt
      obtain ⟨eZ, heeZ⟩ : ∃ e, (L)[i]'hlt = e := ⟨_, rfl⟩
      rw [heeZ] at hcellZ
      have cZ0 : wr.cell? ⟨bZ, oZ + i, none⟩ = some (.int .i64 (eZ : Int)) := by have := hcellZ 0 (by omega); simpa [encN, encI] using this
      have HeeZ := Lib.hid heeZ
      clear hcellZ heeZ
      obtain rfl : eA = eZ := by rw [← HeeA.out, ← HeeZ.out]
      have hil : (i : Int) < (L.length : Int) := by omega
      have i0 : (0 : Int) ≤ i := by omega
      clear hkw HeeA HeeZ
      go_wp2_with fail
      refine region_ext _ (Later.refl _) mixed (by kernel_rfl) ?_
      repeat (go_big_quiet_step (fail))
      refine wpQuiet_nil ?_
      rintro _ ⟨q, rfl⟩
      go_wp2_with fail
      go_roundw
      case rel => exact ⟨i + 1, by omega, by go_num, HX.out.ext _⟩
      case measure => simp [intOf]; omega
    · have hil : i = L.length := by omega
      subst hil
      have ba := HK.out.2.kept hkw
      have hkW := Lib.hid (HK.out.1.trans hkw)
      obtain ⟨b0, b1, bl⟩ := Blk.two ba
      clear hkw ba hlt
      go_wp2_with fail
      refine region_ext _ (Later.refl _) mixed (by kernel_rfl) ?_
      repeat (go_big_quiet_step ((first | (go_at_call 14; exact calls_in (HO1.out _)) | (go_at_call 15; exact calls_in (HO2.out _)) | (go_at_call 16; exact calls_in (awake16_any _)))))
      refine wpQuiet_nil ?_
      rintro _ ⟨q, rfl⟩
      go_wp2_with fail
      go_ret
      exact Ret.of (rfl) (by simp (maxDischargeDepth := 99) [hkW.out])

set_option maxHeartbeats 4000000 in
set_option maxRecDepth 100000 in
theorem splitBanks_1 (x m a : B) (w : World) : Calls Try.prog 3 #[.int .i64 1, wv x m, av a] w (Ret (.bool true) w) := by
  have H1 := Lib.hid (fun w => sbanks_any 1 x m w)
  have H2 := Lib.hid (fun w => refsbanks_any 1 x m w)
  have hlen := bankZ_len 1 x m
  obtain ⟨L, hL⟩ : ∃ L, bankZ 1 x m = L := ⟨_, rfl⟩
  rw [hL] at H1 H2 hlen
  clear hL
  have HM := Lib.hid (fun w => show Calls Try.prog 12 #[.int .i64 1] w (Ret (.int .i64 2) w) from smany_yes 1 (by omega) w)
  have HR := Lib.hid (fun w => show Calls Try.prog 13 #[.int .i64 1] w (Ret (.bool true) w) from sright_yes 1 (by omega) w)
  have HO1 := Lib.hid (fun w => show Calls Try.prog 14 #[.int .i64 1, av a] w (Ret (.int .i64 (topN a 1 : Int)) w) from sof_yes 1 (by omega) a w)
  have HO2 := Lib.hid (fun w => show Calls Try.prog 15 #[.int .i64 1, av a] w (Ret (.int .i64 (topN a 1 : Int)) w) from refsof_yes 1 (by omega) a w)
  go_enter Try.func3, Try.ntmps3
  go_wp2_with fail
  refine region_seq _ (by first | exact Later.ext _ _ | exact Later.refl _) mixed (by kernel_rfl) (by kernel_rfl) ?_
  intro q9
  refine seq_named fun W1 hW1 => ?_
  have hC := Lib.hid (show ∃ p, W1 = ext _ p from ⟨q9, hW1⟩)
  clear hW1 q9
  repeat (first | (refine seq_plain (by rfl) ?_; go_big_quiet_step (fail); refine wpQuiet_nil ?_) | (refine seq_move (by rfl) (by rfl) ?_; go_wp2_with (first | (go_at_call 11; first | ((refine (calls_in (law04of_any _ _ _)).mono ?_); rintro e w1 ⟨rfl, q1, rfl⟩) | ((refine (law04of_any _ _ _).mono ?_); rintro e w1 ⟨rfl, q1, rfl⟩))); refine ⟨_, rfl, (class_kept hC (by first | exact below_ext _ _ | exact Kept.refl _)).out, ?_⟩))
  refine seq_move (by rfl) (by rfl) ?_
  go_wp2_with fail
  refine (H1.out _).mono ?_
  rintro e w1 hR
  obtain ⟨a1, c1, rfl, hlc1, hown1, hels1⟩ := RetEls.out2 encN_len hR
  have hkk := kept_on hC (by first | exact .inl rfl | exact .inr ⟨_, rfl⟩) hown1.1
  replace hC := class_kept hC hkk
  have HE1 := Lib.hid hels1
  clear hown1 hels1 hR hkk
  go_wp2_with fail
  refine ⟨_, rfl, hC.out, ?_⟩
  repeat (first | (refine seq_plain (by rfl) ?_; go_big_quiet_step (fail); refine wpQuiet_nil ?_) | (refine seq_move (by rfl) (by rfl) ?_; go_wp2_with (first | (go_at_call 11; first | ((refine (calls_in (law04of_any _ _ _)).mono ?_); rintro e w1 ⟨rfl, q1, rfl⟩) | ((refine (law04of_any _ _ _).mono ?_); rintro e w1 ⟨rfl, q1, rfl⟩))); refine ⟨_, rfl, (class_kept hC (by first | exact below_ext _ _ | exact Kept.refl _)).out, ?_⟩))
  refine seq_move (by rfl) (by rfl) ?_
  go_wp2_with fail
  refine (H2.out _).mono ?_
  rintro e w2 hR
  obtain ⟨a2, c2, rfl, hlc2, hown2, hels2⟩ := RetEls.out2 encN_len hR
  have hkk := kept_on hC (by first | exact .inl rfl | exact .inr ⟨_, rfl⟩) hown2.1
  replace hC := class_kept hC hkk
  have HE2 := Lib.hid hels2
  replace HE1 := Lib.hid (HE1.out.kept hkk)
  clear hown2 hels2 hR hkk
  go_wp2_with fail
  refine ⟨_, rfl, hC.out, ?_⟩
  repeat (first | (refine seq_plain (by rfl) ?_; go_big_quiet_step (fail); refine wpQuiet_nil ?_))
  refine seq_nil ?_
  have hkC := Later.kept hC.out
  clear hC
  have hkW : Kept w w2 := Kept.trans (Kept.alloc (Kept.alloc (Kept.refl w) _) _) hkC
  have ba : Blk w2 (w.heap.size + 1) 24 #[.int .u64 (hi a), .int .u64 (lo a)] := Blk.kept (Blk.new' _ _ _ (by simp)) hkC
  have HK := Lib.hid (And.intro hkW ba)
  clear hkW ba hkC
  go_wp2_with (first | (go_at_call 12; first | ((refine (calls_in (HM.out _)).mono ?_); rintro e w1 ⟨rfl, q1, rfl⟩) | ((refine (HM.out _).mono ?_); rintro e w1 ⟨rfl, q1, rfl⟩)) | (go_at_call 13; first | ((refine (calls_in (HR.out _)).mono ?_); rintro e w1 ⟨rfl, q1, rfl⟩) | ((refine (HR.out _).mono ?_); rintro e w1 ⟨rfl, q1, rfl⟩)))
  go_loopw [10, 46] (fun _ vk wr => ∃ i : Nat, i ≤ L.length ∧ vk = .int .i64 i ∧ Kept w2 wr) (fun _ k _ => L.length - (intOf k).toNat)
  case atStart => exact ⟨0, by omega, rfl, by simp (maxDischargeDepth := 99)⟩
  case round =>
    obtain ⟨i, hi', rfl, hkw⟩ := hrel
    have HX := Lib.hid hkw
    by_cases hlt : i < L.length
    · obtain ⟨bA, oA, rfl, hbA, hcellA⟩ := (HE1.out.kept hkw).at_ (i) hlt
      obtain ⟨eA, heeA⟩ : ∃ e, (L)[i]'hlt = e := ⟨_, rfl⟩
      rw [heeA] at hcellA
      have cA0 : wr.cell? ⟨bA, oA + i, none⟩ = some (.int .i64 (eA : Int)) := by have := hcellA 0 (by omega); simpa [encN, encI] using this
      have HeeA := Lib.hid heeA
      clear hcellA heeA
      obtain ⟨bZ, oZ, rfl, hbZ, hcellZ⟩ := (HE2.out.kept hkw).at_ (i) hlt
      obtain ⟨eZ, heeZ⟩ : ∃ e, (L)[i]'hlt = e := ⟨_, rfl⟩
      rw [heeZ] at hcellZ
      have cZ0 : wr.cell? ⟨bZ, oZ + i, none⟩ = some (.int .i64 (eZ : Int)) := by have := hcellZ 0 (by omega); simpa [encN, encI] using this
      have HeeZ := Lib.hid heeZ
      clear hcellZ heeZ
      obtain rfl : eA = eZ := by rw [← HeeA.out, ← HeeZ.out]
      have hil : (i : Int) < (L.length : Int) := by omega
      have i0 : (0 : Int) ≤ i := by omega
      clear hkw HeeA HeeZ
      go_wp2_with fail
      refine region_ext _ (Later.refl _) mixed (by kernel_rfl) ?_
      repeat (go_big_quiet_step (fail))
      refine wpQuiet_nil ?_
      rintro _ ⟨q, rfl⟩
      go_wp2_with fail
      go_roundw
      case rel => exact ⟨i + 1, by omega, by go_num, HX.out.ext _⟩
      case measure => simp [intOf]; omega
    · have hil : i = L.length := by omega
      subst hil
      have ba := HK.out.2.kept hkw
      have hkW := Lib.hid (HK.out.1.trans hkw)
      obtain ⟨b0, b1, bl⟩ := Blk.two ba
      clear hkw ba hlt
      go_wp2_with fail
      refine region_ext _ (Later.refl _) mixed (by kernel_rfl) ?_
      repeat (go_big_quiet_step ((first | (go_at_call 14; exact calls_in (HO1.out _)) | (go_at_call 15; exact calls_in (HO2.out _)) | (go_at_call 16; exact calls_in (awake16_any _)))))
      refine wpQuiet_nil ?_
      rintro _ ⟨q, rfl⟩
      go_wp2_with fail
      go_ret
      exact Ret.of (rfl) (by simp (maxDischargeDepth := 99) [hkW.out])

set_option maxHeartbeats 4000000 in
set_option maxRecDepth 100000 in
theorem splitBanks_2 (x m a : B) (w : World) : Calls Try.prog 3 #[.int .i64 2, wv x m, av a] w (Ret (.bool true) w) := by
  have H1 := Lib.hid (fun w => sbanks_any 2 x m w)
  have H2 := Lib.hid (fun w => refsbanks_any 2 x m w)
  have hlen := bankZ_len 2 x m
  obtain ⟨L, hL⟩ : ∃ L, bankZ 2 x m = L := ⟨_, rfl⟩
  rw [hL] at H1 H2 hlen
  clear hL
  have HM := Lib.hid (fun w => show Calls Try.prog 12 #[.int .i64 2] w (Ret (.int .i64 4) w) from smany_yes 2 (by omega) w)
  have HR := Lib.hid (fun w => show Calls Try.prog 13 #[.int .i64 2] w (Ret (.bool true) w) from sright_yes 2 (by omega) w)
  have HO1 := Lib.hid (fun w => show Calls Try.prog 14 #[.int .i64 2, av a] w (Ret (.int .i64 (topN a 2 : Int)) w) from sof_yes 2 (by omega) a w)
  have HO2 := Lib.hid (fun w => show Calls Try.prog 15 #[.int .i64 2, av a] w (Ret (.int .i64 (topN a 2 : Int)) w) from refsof_yes 2 (by omega) a w)
  go_enter Try.func3, Try.ntmps3
  go_wp2_with fail
  refine region_seq _ (by first | exact Later.ext _ _ | exact Later.refl _) mixed (by kernel_rfl) (by kernel_rfl) ?_
  intro q9
  refine seq_named fun W1 hW1 => ?_
  have hC := Lib.hid (show ∃ p, W1 = ext _ p from ⟨q9, hW1⟩)
  clear hW1 q9
  repeat (first | (refine seq_plain (by rfl) ?_; go_big_quiet_step (fail); refine wpQuiet_nil ?_) | (refine seq_move (by rfl) (by rfl) ?_; go_wp2_with (first | (go_at_call 11; first | ((refine (calls_in (law04of_any _ _ _)).mono ?_); rintro e w1 ⟨rfl, q1, rfl⟩) | ((refine (law04of_any _ _ _).mono ?_); rintro e w1 ⟨rfl, q1, rfl⟩))); refine ⟨_, rfl, (class_kept hC (by first | exact below_ext _ _ | exact Kept.refl _)).out, ?_⟩))
  refine seq_move (by rfl) (by rfl) ?_
  go_wp2_with fail
  refine (H1.out _).mono ?_
  rintro e w1 hR
  obtain ⟨a1, c1, rfl, hlc1, hown1, hels1⟩ := RetEls.out2 encN_len hR
  have hkk := kept_on hC (by first | exact .inl rfl | exact .inr ⟨_, rfl⟩) hown1.1
  replace hC := class_kept hC hkk
  have HE1 := Lib.hid hels1
  clear hown1 hels1 hR hkk
  go_wp2_with fail
  refine ⟨_, rfl, hC.out, ?_⟩
  repeat (first | (refine seq_plain (by rfl) ?_; go_big_quiet_step (fail); refine wpQuiet_nil ?_) | (refine seq_move (by rfl) (by rfl) ?_; go_wp2_with (first | (go_at_call 11; first | ((refine (calls_in (law04of_any _ _ _)).mono ?_); rintro e w1 ⟨rfl, q1, rfl⟩) | ((refine (law04of_any _ _ _).mono ?_); rintro e w1 ⟨rfl, q1, rfl⟩))); refine ⟨_, rfl, (class_kept hC (by first | exact below_ext _ _ | exact Kept.refl _)).out, ?_⟩))
  refine seq_move (by rfl) (by rfl) ?_
  go_wp2_with fail
  refine (H2.out _).mono ?_
  rintro e w2 hR
  obtain ⟨a2, c2, rfl, hlc2, hown2, hels2⟩ := RetEls.out2 encN_len hR
  have hkk := kept_on hC (by first | exact .inl rfl | exact .inr ⟨_, rfl⟩) hown2.1
  replace hC := class_kept hC hkk
  have HE2 := Lib.hid hels2
  replace HE1 := Lib.hid (HE1.out.kept hkk)
  clear hown2 hels2 hR hkk
  go_wp2_with fail
  refine ⟨_, rfl, hC.out, ?_⟩
  repeat (first | (refine seq_plain (by rfl) ?_; go_big_quiet_step (fail); refine wpQuiet_nil ?_))
  refine seq_nil ?_
  have hkC := Later.kept hC.out
  clear hC
  have hkW : Kept w w2 := Kept.trans (Kept.alloc (Kept.alloc (Kept.refl w) _) _) hkC
  have ba : Blk w2 (w.heap.size + 1) 24 #[.int .u64 (hi a), .int .u64 (lo a)] := Blk.kept (Blk.new' _ _ _ (by simp)) hkC
  have HK := Lib.hid (And.intro hkW ba)
  clear hkW ba hkC
  go_wp2_with (first | (go_at_call 12; first | ((refine (calls_in (HM.out _)).mono ?_); rintro e w1 ⟨rfl, q1, rfl⟩) | ((refine (HM.out _).mono ?_); rintro e w1 ⟨rfl, q1, rfl⟩)) | (go_at_call 13; first | ((refine (calls_in (HR.out _)).mono ?_); rintro e w1 ⟨rfl, q1, rfl⟩) | ((refine (HR.out _).mono ?_); rintro e w1 ⟨rfl, q1, rfl⟩)))
  go_loopw [10, 46] (fun _ vk wr => ∃ i : Nat, i ≤ L.length ∧ vk = .int .i64 i ∧ Kept w2 wr) (fun _ k _ => L.length - (intOf k).toNat)
  case atStart => exact ⟨0, by omega, rfl, by simp (maxDischargeDepth := 99)⟩
  case round =>
    obtain ⟨i, hi', rfl, hkw⟩ := hrel
    have HX := Lib.hid hkw
    by_cases hlt : i < L.length
    · obtain ⟨bA, oA, rfl, hbA, hcellA⟩ := (HE1.out.kept hkw).at_ (i) hlt
      obtain ⟨eA, heeA⟩ : ∃ e, (L)[i]'hlt = e := ⟨_, rfl⟩
      rw [heeA] at hcellA
      have cA0 : wr.cell? ⟨bA, oA + i, none⟩ = some (.int .i64 (eA : Int)) := by have := hcellA 0 (by omega); simpa [encN, encI] using this
      have HeeA := Lib.hid heeA
      clear hcellA heeA
      obtain ⟨bZ, oZ, rfl, hbZ, hcellZ⟩ := (HE2.out.kept hkw).at_ (i) hlt
      obtain ⟨eZ, heeZ⟩ : ∃ e, (L)[i]'hlt = e := ⟨_, rfl⟩
      rw [heeZ] at hcellZ
      have cZ0 : wr.cell? ⟨bZ, oZ + i, none⟩ = some (.int .i64 (eZ : Int)) := by have := hcellZ 0 (by omega); simpa [encN, encI] using this
      have HeeZ := Lib.hid heeZ
      clear hcellZ heeZ
      obtain rfl : eA = eZ := by rw [← HeeA.out, ← HeeZ.out]
      have hil : (i : Int) < (L.length : Int) := by omega
      have i0 : (0 : Int) ≤ i := by omega
      clear hkw HeeA HeeZ
      go_wp2_with fail
      refine region_ext _ (Later.refl _) mixed (by kernel_rfl) ?_
      repeat (go_big_quiet_step (fail))
      refine wpQuiet_nil ?_
      rintro _ ⟨q, rfl⟩
      go_wp2_with fail
      go_roundw
      case rel => exact ⟨i + 1, by omega, by go_num, HX.out.ext _⟩
      case measure => simp [intOf]; omega
    · have hil : i = L.length := by omega
      subst hil
      have ba := HK.out.2.kept hkw
      have hkW := Lib.hid (HK.out.1.trans hkw)
      obtain ⟨b0, b1, bl⟩ := Blk.two ba
      clear hkw ba hlt
      go_wp2_with fail
      refine region_ext _ (Later.refl _) mixed (by kernel_rfl) ?_
      repeat (go_big_quiet_step ((first | (go_at_call 14; exact calls_in (HO1.out _)) | (go_at_call 15; exact calls_in (HO2.out _)) | (go_at_call 16; exact calls_in (awake16_any _)))))
      refine wpQuiet_nil ?_
      rintro _ ⟨q, rfl⟩
      go_wp2_with fail
      go_ret
      exact Ret.of (rfl) (by simp (maxDischargeDepth := 99) [hkW.out])

set_option maxHeartbeats 4000000 in
set_option maxRecDepth 100000 in
theorem splitBanks_3 (x m a : B) (w : World) : Calls Try.prog 3 #[.int .i64 3, wv x m, av a] w (Ret (.bool true) w) := by
  have H1 := Lib.hid (fun w => sbanks_any 3 x m w)
  have H2 := Lib.hid (fun w => refsbanks_any 3 x m w)
  have hlen := bankZ_len 3 x m
  obtain ⟨L, hL⟩ : ∃ L, bankZ 3 x m = L := ⟨_, rfl⟩
  rw [hL] at H1 H2 hlen
  clear hL
  have HM := Lib.hid (fun w => show Calls Try.prog 12 #[.int .i64 3] w (Ret (.int .i64 8) w) from smany_yes 3 (by omega) w)
  have HR := Lib.hid (fun w => show Calls Try.prog 13 #[.int .i64 3] w (Ret (.bool true) w) from sright_yes 3 (by omega) w)
  have HO1 := Lib.hid (fun w => show Calls Try.prog 14 #[.int .i64 3, av a] w (Ret (.int .i64 (topN a 3 : Int)) w) from sof_yes 3 (by omega) a w)
  have HO2 := Lib.hid (fun w => show Calls Try.prog 15 #[.int .i64 3, av a] w (Ret (.int .i64 (topN a 3 : Int)) w) from refsof_yes 3 (by omega) a w)
  go_enter Try.func3, Try.ntmps3
  go_wp2_with fail
  refine region_seq _ (by first | exact Later.ext _ _ | exact Later.refl _) mixed (by kernel_rfl) (by kernel_rfl) ?_
  intro q9
  refine seq_named fun W1 hW1 => ?_
  have hC := Lib.hid (show ∃ p, W1 = ext _ p from ⟨q9, hW1⟩)
  clear hW1 q9
  repeat (first | (refine seq_plain (by rfl) ?_; go_big_quiet_step (fail); refine wpQuiet_nil ?_) | (refine seq_move (by rfl) (by rfl) ?_; go_wp2_with (first | (go_at_call 11; first | ((refine (calls_in (law04of_any _ _ _)).mono ?_); rintro e w1 ⟨rfl, q1, rfl⟩) | ((refine (law04of_any _ _ _).mono ?_); rintro e w1 ⟨rfl, q1, rfl⟩))); refine ⟨_, rfl, (class_kept hC (by first | exact below_ext _ _ | exact Kept.refl _)).out, ?_⟩))
  refine seq_move (by rfl) (by rfl) ?_
  go_wp2_with fail
  refine (H1.out _).mono ?_
  rintro e w1 hR
  obtain ⟨a1, c1, rfl, hlc1, hown1, hels1⟩ := RetEls.out2 encN_len hR
  have hkk := kept_on hC (by first | exact .inl rfl | exact .inr ⟨_, rfl⟩) hown1.1
  replace hC := class_kept hC hkk
  have HE1 := Lib.hid hels1
  clear hown1 hels1 hR hkk
  go_wp2_with fail
  refine ⟨_, rfl, hC.out, ?_⟩
  repeat (first | (refine seq_plain (by rfl) ?_; go_big_quiet_step (fail); refine wpQuiet_nil ?_) | (refine seq_move (by rfl) (by rfl) ?_; go_wp2_with (first | (go_at_call 11; first | ((refine (calls_in (law04of_any _ _ _)).mono ?_); rintro e w1 ⟨rfl, q1, rfl⟩) | ((refine (law04of_any _ _ _).mono ?_); rintro e w1 ⟨rfl, q1, rfl⟩))); refine ⟨_, rfl, (class_kept hC (by first | exact below_ext _ _ | exact Kept.refl _)).out, ?_⟩))
  refine seq_move (by rfl) (by rfl) ?_
  go_wp2_with fail
  refine (H2.out _).mono ?_
  rintro e w2 hR
  obtain ⟨a2, c2, rfl, hlc2, hown2, hels2⟩ := RetEls.out2 encN_len hR
  have hkk := kept_on hC (by first | exact .inl rfl | exact .inr ⟨_, rfl⟩) hown2.1
  replace hC := class_kept hC hkk
  have HE2 := Lib.hid hels2
  replace HE1 := Lib.hid (HE1.out.kept hkk)
  clear hown2 hels2 hR hkk
  go_wp2_with fail
  refine ⟨_, rfl, hC.out, ?_⟩
  repeat (first | (refine seq_plain (by rfl) ?_; go_big_quiet_step (fail); refine wpQuiet_nil ?_))
  refine seq_nil ?_
  have hkC := Later.kept hC.out
  clear hC
  have hkW : Kept w w2 := Kept.trans (Kept.alloc (Kept.alloc (Kept.refl w) _) _) hkC
  have ba : Blk w2 (w.heap.size + 1) 24 #[.int .u64 (hi a), .int .u64 (lo a)] := Blk.kept (Blk.new' _ _ _ (by simp)) hkC
  have HK := Lib.hid (And.intro hkW ba)
  clear hkW ba hkC
  go_wp2_with (first | (go_at_call 12; first | ((refine (calls_in (HM.out _)).mono ?_); rintro e w1 ⟨rfl, q1, rfl⟩) | ((refine (HM.out _).mono ?_); rintro e w1 ⟨rfl, q1, rfl⟩)) | (go_at_call 13; first | ((refine (calls_in (HR.out _)).mono ?_); rintro e w1 ⟨rfl, q1, rfl⟩) | ((refine (HR.out _).mono ?_); rintro e w1 ⟨rfl, q1, rfl⟩)))
  go_loopw [10, 46] (fun _ vk wr => ∃ i : Nat, i ≤ L.length ∧ vk = .int .i64 i ∧ Kept w2 wr) (fun _ k _ => L.length - (intOf k).toNat)
  case atStart => exact ⟨0, by omega, rfl, by simp (maxDischargeDepth := 99)⟩
  case round =>
    obtain ⟨i, hi', rfl, hkw⟩ := hrel
    have HX := Lib.hid hkw
    by_cases hlt : i < L.length
    · obtain ⟨bA, oA, rfl, hbA, hcellA⟩ := (HE1.out.kept hkw).at_ (i) hlt
      obtain ⟨eA, heeA⟩ : ∃ e, (L)[i]'hlt = e := ⟨_, rfl⟩
      rw [heeA] at hcellA
      have cA0 : wr.cell? ⟨bA, oA + i, none⟩ = some (.int .i64 (eA : Int)) := by have := hcellA 0 (by omega); simpa [encN, encI] using this
      have HeeA := Lib.hid heeA
      clear hcellA heeA
      obtain ⟨bZ, oZ, rfl, hbZ, hcellZ⟩ := (HE2.out.kept hkw).at_ (i) hlt
      obtain ⟨eZ, heeZ⟩ : ∃ e, (L)[i]'hlt = e := ⟨_, rfl⟩
      rw [heeZ] at hcellZ
      have cZ0 : wr.cell? ⟨bZ, oZ + i, none⟩ = some (.int .i64 (eZ : Int)) := by have := hcellZ 0 (by omega); simpa [encN, encI] using this
      have HeeZ := Lib.hid heeZ
      clear hcellZ heeZ
      obtain rfl : eA = eZ := by rw [← HeeA.out, ← HeeZ.out]
      have hil : (i : Int) < (L.length : Int) := by omega
      have i0 : (0 : Int) ≤ i := by omega
      clear hkw HeeA HeeZ
      go_wp2_with fail
      refine region_ext _ (Later.refl _) mixed (by kernel_rfl) ?_
      repeat (go_big_quiet_step (fail))
      refine wpQuiet_nil ?_
      rintro _ ⟨q, rfl⟩
      go_wp2_with fail
      go_roundw
      case rel => exact ⟨i + 1, by omega, by go_num, HX.out.ext _⟩
      case measure => simp [intOf]; omega
    · have hil : i = L.length := by omega
      subst hil
      have ba := HK.out.2.kept hkw
      have hkW := Lib.hid (HK.out.1.trans hkw)
      obtain ⟨b0, b1, bl⟩ := Blk.two ba
      clear hkw ba hlt
      go_wp2_with fail
      refine region_ext _ (Later.refl _) mixed (by kernel_rfl) ?_
      repeat (go_big_quiet_step ((first | (go_at_call 14; exact calls_in (HO1.out _)) | (go_at_call 15; exact calls_in (HO2.out _)) | (go_at_call 16; exact calls_in (awake16_any _)))))
      refine wpQuiet_nil ?_
      rintro _ ⟨q, rfl⟩
      go_wp2_with fail
      go_ret
      exact Ret.of (rfl) (by simp (maxDischargeDepth := 99) [hkW.out])

set_option maxHeartbeats 4000000 in
set_option maxRecDepth 100000 in
theorem splitBanks_neg (k : Int) (h : k < 0) (x m a : B) (w : World) : Calls Try.prog 3 #[.int .i64 k, wv x m, av a] w (Ret (.bool true) w) := by
  have H1 := Lib.hid (fun w => sbanks_any k x m w)
  have H2 := Lib.hid (fun w => refsbanks_any k x m w)
  have hlen := bankZ_len k x m
  obtain ⟨L, hL⟩ : ∃ L, bankZ k x m = L := ⟨_, rfl⟩
  rw [hL] at H1 H2 hlen
  clear hL
  have HM := Lib.hid (fun w => smany_no k (.inl h) w)
  have HR := Lib.hid (fun w => sright_no k (.inl h) w)
  have HO1 := Lib.hid (fun w => sof_no k (.inl h) a w)
  have HO2 := Lib.hid (fun w => refsof_no k (.inl h) a w)
  have h2 : ¬ 0 ≤ k := by omega
  go_enter Try.func3, Try.ntmps3
  go_wp2_with fail
  refine region_seq _ (by first | exact Later.ext _ _ | exact Later.refl _) mixed (by kernel_rfl) (by kernel_rfl) ?_
  intro q9
  refine seq_named fun W1 hW1 => ?_
  have hC := Lib.hid (show ∃ p, W1 = ext _ p from ⟨q9, hW1⟩)
  clear hW1 q9
  repeat (first | (refine seq_plain (by rfl) ?_; go_big_quiet_step (fail); refine wpQuiet_nil ?_) | (refine seq_move (by rfl) (by rfl) ?_; go_wp2_with (first | (go_at_call 11; first | ((refine (calls_in (law04of_any _ _ _)).mono ?_); rintro e w1 ⟨rfl, q1, rfl⟩) | ((refine (law04of_any _ _ _).mono ?_); rintro e w1 ⟨rfl, q1, rfl⟩))); refine ⟨_, rfl, (class_kept hC (by first | exact below_ext _ _ | exact Kept.refl _)).out, ?_⟩))
  refine seq_move (by rfl) (by rfl) ?_
  go_wp2_with fail
  refine (H1.out _).mono ?_
  rintro e w1 hR
  obtain ⟨a1, c1, rfl, hlc1, hown1, hels1⟩ := RetEls.out2 encN_len hR
  have hkk := kept_on hC (by first | exact .inl rfl | exact .inr ⟨_, rfl⟩) hown1.1
  replace hC := class_kept hC hkk
  have HE1 := Lib.hid hels1
  clear hown1 hels1 hR hkk
  go_wp2_with fail
  refine ⟨_, rfl, hC.out, ?_⟩
  repeat (first | (refine seq_plain (by rfl) ?_; go_big_quiet_step (fail); refine wpQuiet_nil ?_) | (refine seq_move (by rfl) (by rfl) ?_; go_wp2_with (first | (go_at_call 11; first | ((refine (calls_in (law04of_any _ _ _)).mono ?_); rintro e w1 ⟨rfl, q1, rfl⟩) | ((refine (law04of_any _ _ _).mono ?_); rintro e w1 ⟨rfl, q1, rfl⟩))); refine ⟨_, rfl, (class_kept hC (by first | exact below_ext _ _ | exact Kept.refl _)).out, ?_⟩))
  refine seq_move (by rfl) (by rfl) ?_
  go_wp2_with fail
  refine (H2.out _).mono ?_
  rintro e w2 hR
  obtain ⟨a2, c2, rfl, hlc2, hown2, hels2⟩ := RetEls.out2 encN_len hR
  have hkk := kept_on hC (by first | exact .inl rfl | exact .inr ⟨_, rfl⟩) hown2.1
  replace hC := class_kept hC hkk
  have HE2 := Lib.hid hels2
  replace HE1 := Lib.hid (HE1.out.kept hkk)
  clear hown2 hels2 hR hkk
  go_wp2_with fail
  refine ⟨_, rfl, hC.out, ?_⟩
  repeat (first | (refine seq_plain (by rfl) ?_; go_big_quiet_step (fail); refine wpQuiet_nil ?_))
  refine seq_nil ?_
  have hkC := Later.kept hC.out
  clear hC
  have hkW : Kept w w2 := Kept.trans (Kept.alloc (Kept.alloc (Kept.refl w) _) _) hkC
  have ba : Blk w2 (w.heap.size + 1) 24 #[.int .u64 (hi a), .int .u64 (lo a)] := Blk.kept (Blk.new' _ _ _ (by simp)) hkC
  have HK := Lib.hid (And.intro hkW ba)
  clear hkW ba hkC
  go_wp2_with (first | (go_at_call 12; first | ((refine (calls_in (HM.out _)).mono ?_); rintro e w1 ⟨rfl, q1, rfl⟩) | ((refine (HM.out _).mono ?_); rintro e w1 ⟨rfl, q1, rfl⟩)) | (go_at_call 13; first | ((refine (calls_in (HR.out _)).mono ?_); rintro e w1 ⟨rfl, q1, rfl⟩) | ((refine (HR.out _).mono ?_); rintro e w1 ⟨rfl, q1, rfl⟩)))
  go_loopw [10, 46] (fun _ vk wr => ∃ i : Nat, i ≤ L.length ∧ vk = .int .i64 i ∧ Kept w2 wr) (fun _ k _ => L.length - (intOf k).toNat)
  case atStart => exact ⟨0, by omega, rfl, by simp (maxDischargeDepth := 99)⟩
  case round =>
    obtain ⟨i, hi', rfl, hkw⟩ := hrel
    have HX := Lib.hid hkw
    by_cases hlt : i < L.length
    · obtain ⟨bA, oA, rfl, hbA, hcellA⟩ := (HE1.out.kept hkw).at_ (i) hlt
      obtain ⟨eA, heeA⟩ : ∃ e, (L)[i]'hlt = e := ⟨_, rfl⟩
      rw [heeA] at hcellA
      have cA0 : wr.cell? ⟨bA, oA + i, none⟩ = some (.int .i64 (eA : Int)) := by have := hcellA 0 (by omega); simpa [encN, encI] using this
      have HeeA := Lib.hid heeA
      clear hcellA heeA
      obtain ⟨bZ, oZ, rfl, hbZ, hcellZ⟩ := (HE2.out.kept hkw).at_ (i) hlt
      obtain ⟨eZ, heeZ⟩ : ∃ e, (L)[i]'hlt = e := ⟨_, rfl⟩
      rw [heeZ] at hcellZ
      have cZ0 : wr.cell? ⟨bZ, oZ + i, none⟩ = some (.int .i64 (eZ : Int)) := by have := hcellZ 0 (by omega); simpa [encN, encI] using this
      have HeeZ := Lib.hid heeZ
      clear hcellZ heeZ
      obtain rfl : eA = eZ := by rw [← HeeA.out, ← HeeZ.out]
      have hil : (i : Int) < (L.length : Int) := by omega
      have i0 : (0 : Int) ≤ i := by omega
      clear hkw HeeA HeeZ
      go_wp2_with fail
      refine region_ext _ (Later.refl _) mixed (by kernel_rfl) ?_
      repeat (go_big_quiet_step (fail))
      refine wpQuiet_nil ?_
      rintro _ ⟨q, rfl⟩
      go_wp2_with fail
      go_roundw
      case rel => exact ⟨i + 1, by omega, by go_num, HX.out.ext _⟩
      case measure => simp [intOf]; omega
    · have hil : i = L.length := by omega
      subst hil
      have ba := HK.out.2.kept hkw
      have hkW := Lib.hid (HK.out.1.trans hkw)
      obtain ⟨b0, b1, bl⟩ := Blk.two ba
      clear hkw ba hlt
      go_wp2_with fail
      refine region_ext _ (Later.refl _) mixed (by kernel_rfl) ?_
      repeat (go_big_quiet_step ((first | (go_at_call 14; exact calls_in (HO1.out _)) | (go_at_call 15; exact calls_in (HO2.out _)) | (go_at_call 16; exact calls_in (awake16_any _)))))
      refine wpQuiet_nil ?_
      rintro _ ⟨q, rfl⟩
      go_wp2_with fail
      go_ret
      exact Ret.of (rfl) (by simp (maxDischargeDepth := 99) [hkW.out])

set_option maxHeartbeats 4000000 in
set_option maxRecDepth 100000 in
theorem splitBanks_big (k : Int) (h : 3 < k) (x m a : B) (w : World) : Calls Try.prog 3 #[.int .i64 k, wv x m, av a] w (Ret (.bool true) w) := by
  have H1 := Lib.hid (fun w => sbanks_any k x m w)
  have H2 := Lib.hid (fun w => refsbanks_any k x m w)
  have hlen := bankZ_len k x m
  obtain ⟨L, hL⟩ : ∃ L, bankZ k x m = L := ⟨_, rfl⟩
  rw [hL] at H1 H2 hlen
  clear hL
  have HM := Lib.hid (fun w => smany_no k (.inr h) w)
  have HR := Lib.hid (fun w => sright_no k (.inr h) w)
  have HO1 := Lib.hid (fun w => sof_no k (.inr h) a w)
  have HO2 := Lib.hid (fun w => refsof_no k (.inr h) a w)
  have h2 : 0 ≤ k := by omega
  have h3 : ¬ k ≤ 3 := by omega
  go_enter Try.func3, Try.ntmps3
  go_wp2_with fail
  refine region_seq _ (by first | exact Later.ext _ _ | exact Later.refl _) mixed (by kernel_rfl) (by kernel_rfl) ?_
  intro q9
  refine seq_named fun W1 hW1 => ?_
  have hC := Lib.hid (show ∃ p, W1 = ext _ p from ⟨q9, hW1⟩)
  clear hW1 q9
  repeat (first | (refine seq_plain (by rfl) ?_; go_big_quiet_step (fail); refine wpQuiet_nil ?_) | (refine seq_move (by rfl) (by rfl) ?_; go_wp2_with (first | (go_at_call 11; first | ((refine (calls_in (law04of_any _ _ _)).mono ?_); rintro e w1 ⟨rfl, q1, rfl⟩) | ((refine (law04of_any _ _ _).mono ?_); rintro e w1 ⟨rfl, q1, rfl⟩))); refine ⟨_, rfl, (class_kept hC (by first | exact below_ext _ _ | exact Kept.refl _)).out, ?_⟩))
  refine seq_move (by rfl) (by rfl) ?_
  go_wp2_with fail
  refine (H1.out _).mono ?_
  rintro e w1 hR
  obtain ⟨a1, c1, rfl, hlc1, hown1, hels1⟩ := RetEls.out2 encN_len hR
  have hkk := kept_on hC (by first | exact .inl rfl | exact .inr ⟨_, rfl⟩) hown1.1
  replace hC := class_kept hC hkk
  have HE1 := Lib.hid hels1
  clear hown1 hels1 hR hkk
  go_wp2_with fail
  refine ⟨_, rfl, hC.out, ?_⟩
  repeat (first | (refine seq_plain (by rfl) ?_; go_big_quiet_step (fail); refine wpQuiet_nil ?_) | (refine seq_move (by rfl) (by rfl) ?_; go_wp2_with (first | (go_at_call 11; first | ((refine (calls_in (law04of_any _ _ _)).mono ?_); rintro e w1 ⟨rfl, q1, rfl⟩) | ((refine (law04of_any _ _ _).mono ?_); rintro e w1 ⟨rfl, q1, rfl⟩))); refine ⟨_, rfl, (class_kept hC (by first | exact below_ext _ _ | exact Kept.refl _)).out, ?_⟩))
  refine seq_move (by rfl) (by rfl) ?_
  go_wp2_with fail
  refine (H2.out _).mono ?_
  rintro e w2 hR
  obtain ⟨a2, c2, rfl, hlc2, hown2, hels2⟩ := RetEls.out2 encN_len hR
  have hkk := kept_on hC (by first | exact .inl rfl | exact .inr ⟨_, rfl⟩) hown2.1
  replace hC := class_kept hC hkk
  have HE2 := Lib.hid hels2
  replace HE1 := Lib.hid (HE1.out.kept hkk)
  clear hown2 hels2 hR hkk
  go_wp2_with fail
  refine ⟨_, rfl, hC.out, ?_⟩
  repeat (first | (refine seq_plain (by rfl) ?_; go_big_quiet_step (fail); refine wpQuiet_nil ?_))
  refine seq_nil ?_
  have hkC := Later.kept hC.out
  clear hC
  have hkW : Kept w w2 := Kept.trans (Kept.alloc (Kept.alloc (Kept.refl w) _) _) hkC
  have ba : Blk w2 (w.heap.size + 1) 24 #[.int .u64 (hi a), .int .u64 (lo a)] := Blk.kept (Blk.new' _ _ _ (by simp)) hkC
  have HK := Lib.hid (And.intro hkW ba)
  clear hkW ba hkC
  go_wp2_with (first | (go_at_call 12; first | ((refine (calls_in (HM.out _)).mono ?_); rintro e w1 ⟨rfl, q1, rfl⟩) | ((refine (HM.out _).mono ?_); rintro e w1 ⟨rfl, q1, rfl⟩)) | (go_at_call 13; first | ((refine (calls_in (HR.out _)).mono ?_); rintro e w1 ⟨rfl, q1, rfl⟩) | ((refine (HR.out _).mono ?_); rintro e w1 ⟨rfl, q1, rfl⟩)))
  go_loopw [10, 46] (fun _ vk wr => ∃ i : Nat, i ≤ L.length ∧ vk = .int .i64 i ∧ Kept w2 wr) (fun _ k _ => L.length - (intOf k).toNat)
  case atStart => exact ⟨0, by omega, rfl, by simp (maxDischargeDepth := 99)⟩
  case round =>
    obtain ⟨i, hi', rfl, hkw⟩ := hrel
    have HX := Lib.hid hkw
    by_cases hlt : i < L.length
    · obtain ⟨bA, oA, rfl, hbA, hcellA⟩ := (HE1.out.kept hkw).at_ (i) hlt
      obtain ⟨eA, heeA⟩ : ∃ e, (L)[i]'hlt = e := ⟨_, rfl⟩
      rw [heeA] at hcellA
      have cA0 : wr.cell? ⟨bA, oA + i, none⟩ = some (.int .i64 (eA : Int)) := by have := hcellA 0 (by omega); simpa [encN, encI] using this
      have HeeA := Lib.hid heeA
      clear hcellA heeA
      obtain ⟨bZ, oZ, rfl, hbZ, hcellZ⟩ := (HE2.out.kept hkw).at_ (i) hlt
      obtain ⟨eZ, heeZ⟩ : ∃ e, (L)[i]'hlt = e := ⟨_, rfl⟩
      rw [heeZ] at hcellZ
      have cZ0 : wr.cell? ⟨bZ, oZ + i, none⟩ = some (.int .i64 (eZ : Int)) := by have := hcellZ 0 (by omega); simpa [encN, encI] using this
      have HeeZ := Lib.hid heeZ
      clear hcellZ heeZ
      obtain rfl : eA = eZ := by rw [← HeeA.out, ← HeeZ.out]
      have hil : (i : Int) < (L.length : Int) := by omega
      have i0 : (0 : Int) ≤ i := by omega
      clear hkw HeeA HeeZ
      go_wp2_with fail
      refine region_ext _ (Later.refl _) mixed (by kernel_rfl) ?_
      repeat (go_big_quiet_step (fail))
      refine wpQuiet_nil ?_
      rintro _ ⟨q, rfl⟩
      go_wp2_with fail
      go_roundw
      case rel => exact ⟨i + 1, by omega, by go_num, HX.out.ext _⟩
      case measure => simp [intOf]; omega
    · have hil : i = L.length := by omega
      subst hil
      have ba := HK.out.2.kept hkw
      have hkW := Lib.hid (HK.out.1.trans hkw)
      obtain ⟨b0, b1, bl⟩ := Blk.two ba
      clear hkw ba hlt
      go_wp2_with fail
      refine region_ext _ (Later.refl _) mixed (by kernel_rfl) ?_
      repeat (go_big_quiet_step ((first | (go_at_call 14; exact calls_in (HO1.out _)) | (go_at_call 15; exact calls_in (HO2.out _)) | (go_at_call 16; exact calls_in (awake16_any _)))))
      refine wpQuiet_nil ?_
      rintro _ ⟨q, rfl⟩
      go_wp2_with fail
      go_ret
      exact Ret.of (rfl) (by simp (maxDischargeDepth := 99) [hkW.out])

theorem splitBanks_walk (k : Int) (_ : -9223372036854775808 ≤ k) (_ : k ≤ 9223372036854775807) (x m a : B) (w : World) : Calls Try.prog 3 #[.int .i64 k, wv x m, av a] w (Ret (.bool true) w) := by
  by_cases h1 : k < 0
  · exact splitBanks_neg k h1 x m a w
  by_cases h2 : 3 < k
  · exact splitBanks_big k h2 x m a w
  have hc : k = 0 ∨ k = 1 ∨ k = 2 ∨ k = 3 := by omega
  rcases hc with rfl | rfl | rfl | rfl
  · exact splitBanks_0 x m a w
  · exact splitBanks_1 x m a w
  · exact splitBanks_2 x m a w
  · exact splitBanks_3 x m a w
set_option maxRecDepth 100000 in
theorem splitBanks_lifted (os : Os) (started : os.Started) (H : Type) (enc : TypeId × Value → H) :
    ReturnsInHanded {} Try.checked os 3 .any (Rows.splitBanksSpec.pre6 enc Try.prog Try.f3 Rows.splitBanksRow.domain false) (Rows.splitBanksSpec.post enc Try.prog Try.f3 false true false false) := by
  refine returnsInHanded_of_change (C := Try.checked) own started (by kernel_rfl) Try.func3
    (ChangeSpec.witness6 (enc := enc) (C := Try.checked) false ⟨#[], #[.int .i64 0, .agg #[.int .u64 0, .int .u64 0, .int .u64 0, .int .u64 0], .agg #[.int .u64 0, .int .u64 0]], []⟩ 8 (by kernel_rfl) (by kernel_rfl) (by kernel_rfl) (by kernel_rfl)) ?_
  intro W base args ds gs before hval0 hW hcnd _
  have hval : ∀ (j : Nat) t v, Try.f3.params[j]? = some t → args[j]? = some v → Value.okWide Try.prog W .any base t v := hval0
  have hW' := hW
  obtain ⟨p, q, hA0, hV, rfl, hfz, hnd⟩ := hW
  obtain ⟨rfl, rfl⟩ := trodVars_none hV
  rw [List.append_nil] at hW'
  have hA : DataW.TrodAll enc Try.prog W 0 (fun _ => true) true Try.f3.params.toList args.toList ds p := hA0
  have hA1 := hA
  rw [Try.params3] at hA1 hval
  obtain ⟨v0, vs0, d0, ds0, p0, q0, hargs, rfl, rfl, h0, r0⟩ := trodAll_cons hA1
  obtain ⟨v1, vs1, d1, ds1, p1, q1, rfl, rfl, rfl, h1, r1⟩ := trodAll_cons r0
  obtain ⟨v2, vs2, d2, ds2, p2, q2, rfl, rfl, rfl, h2, r2⟩ := trodAll_cons r1
  obtain ⟨rfl, rfl, rfl⟩ := trodAll_nil r2
  obtain rfl : args = #[v0, v1, v2] := by cases args; simp_all
  obtain ⟨X0, rfl, rfl, rfl, w0⟩ := open_int Try.underlying3 (hval 0 _ v0 rfl rfl) h0
  obtain ⟨X1, M1, rfl⟩ := open_word (hval 1 _ v1 rfl rfl) h1
  obtain ⟨X2, rfl⟩ := open_addr (hval 2 _ v2 rfl rfl) h2
  refine (splitBanks_walk X0 (wf_i64' w0).1 (wf_i64' w0).2 X1 M1 X2 W).mono fun e W' ⟨he, hg⟩ => ?_
  subst he
  exact ⟨_, rfl, post_true laidOut (by rw [Try.params3]; intro t ht; simp at ht; first | (subst ht; exact ⟨by kernel_rfl, of_decide_eq_true (by kernel_rfl)⟩) | (rcases ht with rfl | rfl <;> exact ⟨by kernel_rfl, of_decide_eq_true (by kernel_rfl)⟩) | (rcases ht with rfl | rfl | rfl <;> exact ⟨by kernel_rfl, of_decide_eq_true (by kernel_rfl)⟩) | (rcases ht with rfl | rfl | rfl | rfl <;> exact ⟨by kernel_rfl, of_decide_eq_true (by kernel_rfl)⟩)) rfl hW' hA rfl (trodAll_cons_mk (shut_bool Try.underlying4 _) trodAll_mk0) (Later.kept hg)⟩

theorem splitBanks_holds : Rows.SplitBanksSaid :=
  OpenClaim.holds_of_wide 3 Try.f3 rfl rfl rfl rfl rfl rfl rfl ⟨rfl, rfl, rfl, rfl, rfl⟩ rfl rfl rfl rfl rfl (by kernel_rfl) Try.func3 (by kernel_rfl)
    (of_decide_eq_true (by kernel_rfl)) (by unfold Func.isWrapper; first | (rw [if_pos (by decide +kernel)]; kernel_rfl) | (rw [if_neg (by decide +kernel)]; exact ⟨rfl, rfl⟩))
    (fun os started H enc _ => splitBanks_lifted os started H enc)
#print axioms splitBanks_holds
end Go.Proofs.Ytlmadimnoknheaa
