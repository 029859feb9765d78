/- BoardWrites: behind any moves the slots of all banks are the document's, and how many were written, and are valid; each tells what it is to; a board that may not be is told. -/
import Derived.Test.YtemfocnjlimicaaRows
import Derived.Test.YtemfocnjlimicaaRun2
import Derived.Test.YtemfocnjlimicaaBoard13
import Derived.Test.YtemfocnjlimicaaOpenMoves
namespace Go.Proofs.Ytemfocnjlimicaa
open Go.RowKit Pg Go.ChangeShapes Go.WideShapes Go.ChangeAt

theorem may17_no'' {k n : Int} (h : ¬ (0 ≤ k ∧ k ≤ 3 ∧ 1 ≤ n ∧ n ≤ 20)) : (decide (0 ≤ k) && (decide (k ≤ 3) && (decide (1 ≤ n) && decide (n ≤ 20)))) = false := by
  rw [Bool.eq_false_iff]
  intro h2
  simp only [Bool.and_eq_true, decide_eq_true_eq] at h2
  exact h ⟨h2.1, h2.2.1, h2.2.2.1, h2.2.2.2⟩
theorem kept_x {W w : World} (h : Kept W w) (p : Regrown) : Kept W (ext w p) := h.trans (below_ext w p)
set_option maxHeartbeats 4000000 in
set_option maxRecDepth 100000 in
theorem boardWrites_go {l : List Mv} {v : Value} (k n : Nat) (hk : k ≤ 3) (h1 : 1 ≤ n) (h2 : n ≤ 20) (w : World) (hl : Els w v 9 Mv.cells l) (hn : l.length ≤ 30) : Calls Try.prog 6 #[.int .i64 (k : Int), .int .i64 (n : Int), v] w (Ret (.bool true) w) := by
  have HE := Lib.hid hl
  obtain ⟨ad, c, rfl, hc, he⟩ := hl.form
  have g1 : ¬ (30 : Int) < (l.length : Int) := by omega
  have hmay := Lib.hid (fun W => law17may_any k n true (by simp; omega) W)
  obtain ⟨M, hM⟩ : ∃ M, 2 ^ k = M := ⟨_, rfl⟩
  have hrun := Lib.hid (fun W (h : Els W (.slice ad l.length c) 9 Mv.cells l) => run_any k n M hk hM h1 h2 W h hn)
  have hM8 : M ≤ 8 := by rw [← hM]; have : k = 0 ∨ k = 1 ∨ k = 2 ∨ k = 3 := by omega
                         rcases this with rfl | rfl | rfl | rfl <;> decide
  have hM0 : 0 < M := by rw [← hM]; exact Nat.pow_pos (by omega)
  clear hl he hn hM
  go_enter Try.func6, Try.ntmps6
  go_wp2_with (first | (go_at_call 7; first | ((refine (calls_in (hmay.out _)).mono ?_); rintro e w1 ⟨rfl, q1, rfl⟩) | ((refine (hmay.out _).mono ?_); rintro e w1 ⟨rfl, q1, rfl⟩)))
  refine (hrun.out _ (HE.out.kept (by simp (maxDischargeDepth := 99)))).mono ?_
  rintro e w1 ⟨s, gb, gp, cap, gw, capw, bs, rs, rfl, hR⟩
  obtain ⟨S, hS⟩ : ∃ S, sumB Bk.c bs = S := ⟨_, rfl⟩
  rw [hS]
  have HR := Lib.hid hR
  have HK1 := Lib.hid ((Kept.trans (by simp (maxDischargeDepth := 99)) hR.board.banks.kept : Kept w w1))
  have HLB := Lib.hid hR.len
  have hb8 : bs.length ≤ 8 := by rw [hR.len]; omega
  have hwr := Lib.hid (fun W (h : Kept w1 W) => show Calls Try.prog 21 #[.pointer (some ⟨gb, 0, none⟩)] W (Ret (.int .i64 S) W) by
    have := bowrites_any (hR.board.kept h) (by omega) (fun b hb => by have := hR.cnt b hb; omega)
    rwa [hS] at this)
  have hbi := Lib.hid (fun W (h : Kept w1 W) => bobits_any (hR.board.kept h))
  have hsi := Lib.hid (fun W (h : Kept w1 W) => bosize_any (hR.board.kept h))
  have hva := Lib.hid (fun W (h : Kept w1 W) => bovalid_any (hR.board.kept h) (by omega))
  clear hrun hmay hR hS
  go_wp2_with fail
  refine (boslots_any HR.out.board (by omega)).mono ?_
  rintro e w2 ⟨v2, rs2, rfl, hr2⟩
  have hrl2 : rs2.length = M := by have := hr2.len; rw [List.length_map, HLB.out] at this; exact this
  obtain ⟨gs, caps, hv2, _, _, hgs⟩ := hr2.form (by omega)
  rw [hrl2] at hv2
  subst hv2
  have HR2 := Lib.hid hr2
  have HK2 := Lib.hid hr2.own.1
  have HRL2 := Lib.hid hrl2
  clear hr2 hrl2 hgs
  go_wp2_with (first | (go_at_call 21; first | ((with_reducible refine (calls_in (hwr.out _ (kept_x HK2.out _))).mono ?_); rintro e w1 ⟨rfl, q1, rfl⟩) | ((with_reducible refine (hwr.out _ (kept_x HK2.out _)).mono ?_); rintro e w1 ⟨rfl, q1, rfl⟩) | ((with_reducible refine (calls_in (hwr.out _ HK2.out)).mono ?_); rintro e w1 ⟨rfl, q1, rfl⟩) | ((with_reducible refine (hwr.out _ HK2.out).mono ?_); rintro e w1 ⟨rfl, q1, rfl⟩)) | (go_at_call 27; first | ((refine (calls_in (hbi.out _ (kept_x HK2.out _))).mono ?_); rintro e w1 ⟨rfl, q1, rfl⟩) | ((refine (hbi.out _ (kept_x HK2.out _)).mono ?_); rintro e w1 ⟨rfl, q1, rfl⟩)) | (go_at_call 28; first | ((refine (calls_in (hsi.out _ (kept_x HK2.out _))).mono ?_); rintro e w1 ⟨rfl, q1, rfl⟩) | ((refine (hsi.out _ (kept_x HK2.out _)).mono ?_); rintro e w1 ⟨rfl, q1, rfl⟩)))
  obtain ⟨w3, hw3⟩ : ∃ w3, w3 = ext w2 q1 := ⟨_, rfl⟩
  have HK3 := Lib.hid (show Kept w2 w3 by rw [hw3]; exact below_ext _ _)
  rw [← hw3]
  clear hw3 hwr hbi hsi
  go_loopw [14, 15, 93] (fun vv _ vk wr => ∃ j : Nat, j ≤ M ∧ vk = .int .i64 j ∧ vv = .int .i64 (sumB validB (bs.take j)) ∧ Kept w2 wr) (fun _ _ vk _ => M - (intOf vk).toNat)
  case atStart => exact ⟨0, by omega, rfl, rfl, HK3.out⟩
  case round =>
    clear HK3
    obtain ⟨j, hj, rfl, rfl, hkw⟩ := hrel
    have HX := Lib.hid hkw
    by_cases hlt : j < M
    · have hjl : (j : Int) < (M : Int) := by omega
      have j0 : (0 : Int) ≤ (j : Int) := by omega
      have hjb : j < bs.length := by rw [HLB.out]; exact hlt
      have hjm : j < (bs.map Bk.l).length := by rw [List.length_map]; exact hjb
      have hjr : j < rs.length := by rw [HR.out.rlen]; exact hlt
      have hjr2 : j < rs2.length := by rw [HRL2.out]; exact hlt
      have HE1 := Lib.hid (show Els wr rs[j] 7 Slot.cells bs[j].l by
        have := (HR.out.rows.els j hjr hjm).kept (HK2.out.trans hkw)
        rwa [List.getElem_map] at this)
      have HE2 := Lib.hid (show Els wr rs2[j] 7 Slot.cells bs[j].l by
        have := (HR2.out.els j hjr2 hjm).kept hkw
        rwa [List.getElem_map] at this)
      have hst := Lib.hid (sumB_step validB bs j hjb)
      obtain ⟨s1, s2⟩ := sumB_le validB (bs.take j) (fun b hb => by
        have h1 := entsS_len b.l
        have h2 := (HR.out.board.banks.at_ b (List.mem_of_mem_take hb)).le
        unfold validB
        omega)
      have tl : (bs.take j).length ≤ 8 := by rw [List.length_take]; omega
      have hLn := (HR.out.board.banks.at_ bs[j] (List.getElem_mem hjb)).le
      have hvb : validB bs[j] = ((entsS bs[j].l).length : Int) := rfl
      have hel := entsS_len bs[j].l
      rw [hvb] at hst
      obtain ⟨L, hL⟩ : ∃ L, bs[j].l = L := ⟨_, rfl⟩
      rw [hL] at HE1 HE2 hst hLn hel
      obtain ⟨A, hA⟩ : ∃ A, entsS L = A := ⟨_, rfl⟩
      rw [hA] at hst hel
      obtain ⟨ar, cr, hri, hlr, _⟩ := HE1.out.form
      obtain ⟨ar2, cr2, hri2, hlr2, _⟩ := HE2.out.form
      have x0 : wr.cell? ⟨gw, j, none⟩ = some (.slice ar L.length cr) := by rw [← hri]; exact (HR.out.rows.kept (HK2.out.trans hkw)).cell j hjr
      have xl : gw < wr.heap.size := (HR.out.kept (HK2.out.trans hkw)).sle.2.1
      have y0 : wr.cell? ⟨gs, j, none⟩ = some (.slice ar2 L.length cr2) := by rw [← hri2]; exact (HR2.out.kept hkw).cell j hjr2
      have yl : gs < wr.heap.size := ((HR2.out.kept hkw).own.2.lt gs rfl).2
      rw [hri] at HE1
      rw [hri2] at HE2
      obtain ⟨V, hV⟩ : ∃ V, sumB validB (bs.take j) = V := ⟨_, rfl⟩
      rw [hV] at s1 s2 hst ⊢
      have hsm := Lib.hid (fun W (h : Kept wr W) => same_any W (HE2.out.kept h) (HE1.out.kept h) (by omega))
      have hen := Lib.hid (fun W (h : Kept wr W) => show Calls Try.prog 30 #[.slice ar L.length cr] W (RetEls 82 6 Ent.cells A W) by
        have := refentries_any W (HE1.out.kept h) (by omega)
        rwa [hA] at this)
      clear hkw hL hA hri hri2 hV hvb hjb hjm hjr hjr2
      go_wp2_with fail
      refine region_ext _ (Later.refl _) mixed (by kernel_rfl) ?_
      repeat (go_big_quiet_step ((first | (go_at_call 29; exact calls_in (hsm.out _ (kept_17 _ _))))))
      refine wpQuiet_nil ?_
      rintro _ ⟨q, rfl⟩
      go_wp2_with fail
      refine (hen.out _ (kept_17 _ _)).mono ?_
      rintro e w4 hR4
      obtain ⟨a4, c4, rfl, hlc4, hown4, hels4⟩ := RetEls.out2 Ent.cells_len hR4
      have HK4 := Lib.hid (Kept.trans (below_ext wr q) hown4.1)
      clear hR4 hown4 hels4
      go_wp2_with fail
      go_roundw
      case rel => exact ⟨j + 1, by omega, by go_num, by rw [hst.out], HX.out.trans HK4.out⟩
      case measure => simp [intOf]; omega
    · have hjM : j = M := by omega
      subst hjM
      have hT : bs.take j = bs := List.take_of_length_le (by rw [HLB.out]; exact Nat.le_refl _)
      rw [hT]
      obtain ⟨V, hV⟩ : ∃ V, sumB validB bs = V := ⟨_, rfl⟩
      rw [hV] at hva ⊢
      clear hkw hlt hT hV
      have HKf := Lib.hid (HK1.out.trans (HK2.out.trans HX.out))
      have HKg := Lib.hid (HK2.out.trans HX.out)
      go_wp2_with (first | (go_at_call 23; first | ((refine (calls_in (hva.out _ HKg.out)).mono ?_); rintro e w1 ⟨rfl, q1, rfl⟩) | ((refine (hva.out _ HKg.out).mono ?_); rintro e w1 ⟨rfl, q1, rfl⟩)) | (go_at_call 8; first | ((refine (calls_in (awake17_ok _)).mono ?_); rintro e w1 ⟨rfl, q1, rfl⟩) | ((refine (awake17_ok _).mono ?_); rintro e w1 ⟨rfl, q1, rfl⟩)))
      go_ret
      exact Ret.of (rfl) (by simp (maxDischargeDepth := 99) [HKf.out])
set_option maxHeartbeats 2000000 in
set_option maxRecDepth 100000 in
theorem boardWrites_walk (k : Int) (_ : -9223372036854775808 ≤ k) (_ : k ≤ 9223372036854775807) (n : Int) (_ : -9223372036854775808 ≤ n) (_ : n ≤ 9223372036854775807) (l : List Mv) (v : Value) (w : World) (hl : Els w v 9 Mv.cells l) : Calls Try.prog 6 #[.int .i64 k, .int .i64 n, v] w (Ret (.bool true) w) := by
  by_cases hn : l.length ≤ 30
  rotate_left
  · obtain ⟨ad, c, rfl, hc, he⟩ := hl.form
    have g1 : (30 : Int) < (l.length : Int) := by omega
    clear hl he hn
    go_enter Try.func6, Try.ntmps6
    go_wp2_with (first | (go_at_call 8; first | ((refine (calls_in (awake17_ok _)).mono ?_); rintro e w1 ⟨rfl, q1, rfl⟩) | ((refine (awake17_ok _).mono ?_); rintro e w1 ⟨rfl, q1, rfl⟩)))
    go_ret
    exact Ret.of (rfl) (by simp (maxDischargeDepth := 99))
  by_cases hm : 0 ≤ k ∧ k ≤ 3 ∧ 1 ≤ n ∧ n ≤ 20
  · obtain ⟨K, rfl⟩ := Int.eq_ofNat_of_zero_le hm.1
    obtain ⟨N, rfl⟩ := Int.eq_ofNat_of_zero_le (show 0 ≤ n by omega)
    exact boardWrites_go K N (by omega) (by omega) (by omega) w hl hn
  obtain ⟨ad, c, rfl, hc, he⟩ := hl.form
  have hmay := Lib.hid (fun W => law17may_any k n false (may17_no'' hm) W)
  have g1 : ¬ (30 : Int) < (l.length : Int) := by omega
  clear hl he hn
  by_cases hk : 0 ≤ k ∧ k ≤ 3
  · obtain ⟨K, rfl⟩ := Int.eq_ofNat_of_zero_le hk.1
    have e0 : decide (0 ≤ (K : Int)) = true := decide_eq_true hk.1
    have e1 : decide ((K : Int) ≤ 3) = true := decide_eq_true hk.2
    by_cases hr : 1 ≤ n ∧ n ≤ 256
    · obtain ⟨N, rfl⟩ := Int.eq_ofNat_of_zero_le (show 0 ≤ n by omega)
      have hnew := Lib.hid (fun W => bonew_yes K (by omega) N (by omega) (by omega) W)
      have e2 : decide ((20 : Int) < (N : Int)) = true := decide_eq_true (by omega)
      have e3 : decide ((N : Int) ≤ 256) = true := decide_eq_true hr.2
      clear hm hr hk
      go_enter Try.func6, Try.ntmps6
      go_wp2_with (first | (go_at_call 7; first | ((refine (calls_in (hmay.out _)).mono ?_); rintro e w1 ⟨rfl, q1, rfl⟩) | ((refine (hmay.out _).mono ?_); rintro e w1 ⟨rfl, q1, rfl⟩)))
      refine (hnew.out _).mono ?_
      rintro e w1 ⟨gb, gp, cap, bs, rfl, hk1, hb1, hl1, hn1⟩
      have HK1 := Lib.hid (show Kept w w1 from Kept.trans (by simp (maxDischargeDepth := 99)) hk1)
      clear hk1 hb1 hl1 hn1
      go_wp2_with (first | (go_at_call 8; first | ((refine (calls_in (awake17_ok _)).mono ?_); rintro e w1 ⟨rfl, q1, rfl⟩) | ((refine (awake17_ok _).mono ?_); rintro e w1 ⟨rfl, q1, rfl⟩)))
      go_ret
      exact Ret.of (rfl) (by simp (maxDischargeDepth := 99) [HK1.out])
    · have hnew := Lib.hid (fun W => bonew_n K (by omega) n hr W)
      by_cases h20 : 20 < n
      · have e2 : decide ((20 : Int) < n) = true := decide_eq_true h20
        have e3 : decide (n ≤ 256) = false := decide_eq_false (by omega)
        clear hm hr hk h20
        go_enter Try.func6, Try.ntmps6
        go_wp2_with (first | (go_at_call 7; first | ((refine (calls_in (hmay.out _)).mono ?_); rintro e w1 ⟨rfl, q1, rfl⟩) | ((refine (hmay.out _).mono ?_); rintro e w1 ⟨rfl, q1, rfl⟩)) | (go_at_call 15; first | ((refine (calls_in (hnew.out _)).mono ?_); rintro e w1 ⟨rfl, q1, rfl⟩) | ((refine (hnew.out _).mono ?_); rintro e w1 ⟨rfl, q1, rfl⟩)) | (go_at_call 8; first | ((refine (calls_in (awake17_ok _)).mono ?_); rintro e w1 ⟨rfl, q1, rfl⟩) | ((refine (awake17_ok _).mono ?_); rintro e w1 ⟨rfl, q1, rfl⟩)))
        go_ret
        exact Ret.of (rfl) (by simp (maxDischargeDepth := 99))
      · have e2 : decide ((20 : Int) < n) = false := decide_eq_false h20
        clear hm hr hk h20
        go_enter Try.func6, Try.ntmps6
        go_wp2_with (first | (go_at_call 7; first | ((refine (calls_in (hmay.out _)).mono ?_); rintro e w1 ⟨rfl, q1, rfl⟩) | ((refine (hmay.out _).mono ?_); rintro e w1 ⟨rfl, q1, rfl⟩)) | (go_at_call 15; first | ((refine (calls_in (hnew.out _)).mono ?_); rintro e w1 ⟨rfl, q1, rfl⟩) | ((refine (hnew.out _).mono ?_); rintro e w1 ⟨rfl, q1, rfl⟩)) | (go_at_call 8; first | ((refine (calls_in (awake17_ok _)).mono ?_); rintro e w1 ⟨rfl, q1, rfl⟩) | ((refine (awake17_ok _).mono ?_); rintro e w1 ⟨rfl, q1, rfl⟩)))
        go_ret
        exact Ret.of (rfl) (by simp (maxDischargeDepth := 99))
  · have hnew := Lib.hid (fun W => bonew_k k n (by omega) W)
    by_cases h20 : 20 < n
    · have e2 : decide ((20 : Int) < n) = true := decide_eq_true h20
      by_cases h256 : n ≤ 256
      · have e3 : decide (n ≤ 256) = true := decide_eq_true h256
        by_cases h0 : 0 ≤ k
        · have e0 : decide (0 ≤ k) = true := decide_eq_true h0
          have e1 : decide (k ≤ 3) = false := decide_eq_false (by omega)
          clear hm hk h20 h256 h0
          go_enter Try.func6, Try.ntmps6
          go_wp2_with (first | (go_at_call 7; first | ((refine (calls_in (hmay.out _)).mono ?_); rintro e w1 ⟨rfl, q1, rfl⟩) | ((refine (hmay.out _).mono ?_); rintro e w1 ⟨rfl, q1, rfl⟩)) | (go_at_call 15; first | ((refine (calls_in (hnew.out _)).mono ?_); rintro e w1 ⟨rfl, q1, rfl⟩) | ((refine (hnew.out _).mono ?_); rintro e w1 ⟨rfl, q1, rfl⟩)) | (go_at_call 8; first | ((refine (calls_in (awake17_ok _)).mono ?_); rintro e w1 ⟨rfl, q1, rfl⟩) | ((refine (awake17_ok _).mono ?_); rintro e w1 ⟨rfl, q1, rfl⟩)))
          go_ret
          exact Ret.of (rfl) (by simp (maxDischargeDepth := 99))
        · have e0 : decide (0 ≤ k) = false := decide_eq_false h0
          clear hm hk h20 h256 h0
          go_enter Try.func6, Try.ntmps6
          go_wp2_with (first | (go_at_call 7; first | ((refine (calls_in (hmay.out _)).mono ?_); rintro e w1 ⟨rfl, q1, rfl⟩) | ((refine (hmay.out _).mono ?_); rintro e w1 ⟨rfl, q1, rfl⟩)) | (go_at_call 15; first | ((refine (calls_in (hnew.out _)).mono ?_); rintro e w1 ⟨rfl, q1, rfl⟩) | ((refine (hnew.out _).mono ?_); rintro e w1 ⟨rfl, q1, rfl⟩)) | (go_at_call 8; first | ((refine (calls_in (awake17_ok _)).mono ?_); rintro e w1 ⟨rfl, q1, rfl⟩) | ((refine (awake17_ok _).mono ?_); rintro e w1 ⟨rfl, q1, rfl⟩)))
          go_ret
          exact Ret.of (rfl) (by simp (maxDischargeDepth := 99))
      · have e3 : decide (n ≤ 256) = false := decide_eq_false h256
        clear hm hk h20 h256
        go_enter Try.func6, Try.ntmps6
        go_wp2_with (first | (go_at_call 7; first | ((refine (calls_in (hmay.out _)).mono ?_); rintro e w1 ⟨rfl, q1, rfl⟩) | ((refine (hmay.out _).mono ?_); rintro e w1 ⟨rfl, q1, rfl⟩)) | (go_at_call 15; first | ((refine (calls_in (hnew.out _)).mono ?_); rintro e w1 ⟨rfl, q1, rfl⟩) | ((refine (hnew.out _).mono ?_); rintro e w1 ⟨rfl, q1, rfl⟩)) | (go_at_call 8; first | ((refine (calls_in (awake17_ok _)).mono ?_); rintro e w1 ⟨rfl, q1, rfl⟩) | ((refine (awake17_ok _).mono ?_); rintro e w1 ⟨rfl, q1, rfl⟩)))
        go_ret
        exact Ret.of (rfl) (by simp (maxDischargeDepth := 99))
    · have e2 : decide ((20 : Int) < n) = false := decide_eq_false h20
      clear hm hk h20
      go_enter Try.func6, Try.ntmps6
      go_wp2_with (first | (go_at_call 7; first | ((refine (calls_in (hmay.out _)).mono ?_); rintro e w1 ⟨rfl, q1, rfl⟩) | ((refine (hmay.out _).mono ?_); rintro e w1 ⟨rfl, q1, rfl⟩)) | (go_at_call 15; first | ((refine (calls_in (hnew.out _)).mono ?_); rintro e w1 ⟨rfl, q1, rfl⟩) | ((refine (hnew.out _).mono ?_); rintro e w1 ⟨rfl, q1, rfl⟩)) | (go_at_call 8; first | ((refine (calls_in (awake17_ok _)).mono ?_); rintro e w1 ⟨rfl, q1, rfl⟩) | ((refine (awake17_ok _).mono ?_); rintro e w1 ⟨rfl, q1, rfl⟩)))
      go_ret
      exact Ret.of (rfl) (by simp (maxDischargeDepth := 99))
set_option maxRecDepth 100000 in
theorem boardWrites_lifted (os : Os) (started : os.Started) (H : Type) (enc : TypeId × Value → H) :
    ReturnsInHanded {} Try.checked os 6 .any (Rows.boardWritesSpec.pre6 enc Try.prog Try.f6 Rows.boardWritesRow.domain false) (Rows.boardWritesSpec.post enc Try.prog Try.f6 false true false false) := by
  refine returnsInHanded_of_change (C := Try.checked) own started (by kernel_rfl) Try.func6
    (ChangeSpec.witness6 (enc := enc) (C := Try.checked) false ⟨#[], #[.int .i64 0, .int .i64 0, .slice none 0 0], []⟩ 8 (by kernel_rfl) (by kernel_rfl) (by kernel_rfl) (by kernel_rfl)) ?_
  intro W base args ds gs before hval0 hW hcnd _
  have hval : ∀ (j : Nat) t v, Try.f6.params[j]? = some t → args[j]? = some v → Value.okWide Try.prog W .any base t v := hval0
  have hW' := hW
  obtain ⟨p, q, hA0, hV, rfl, hfz, hnd⟩ := hW
  obtain ⟨rfl, rfl⟩ := trodVars_none hV
  rw [List.append_nil] at hW'
  have hA : DataW.TrodAll enc Try.prog W 0 (fun _ => true) true Try.f6.params.toList args.toList ds p := hA0
  have hA1 := hA
  rw [Try.params6] at hA1 hval
  obtain ⟨v0, vs0, d0, ds0, p0, q0, hargs, rfl, rfl, h0, r0⟩ := trodAll_cons hA1
  obtain ⟨v1, vs1, d1, ds1, p1, q1, rfl, rfl, rfl, h1, r1⟩ := trodAll_cons r0
  obtain ⟨v2, vs2, d2, ds2, p2, q2, rfl, rfl, rfl, h2, r2⟩ := trodAll_cons r1
  obtain ⟨rfl, rfl, rfl⟩ := trodAll_nil r2
  obtain rfl : args = #[v0, v1, v2] := by cases args; simp_all
  obtain ⟨X0, rfl, rfl, rfl, w0⟩ := open_int Try.underlying3 (hval 0 _ v0 rfl rfl) h0
  obtain ⟨X1, rfl, rfl, rfl, w1⟩ := open_int Try.underlying3 (hval 1 _ v1 rfl rfl) h1
  obtain ⟨L2, E2, _⟩ := open_moves (hval 2 _ v2 rfl rfl) h2
  refine (boardWrites_walk X0 (wf_i64' w0).1 (wf_i64' w0).2 X1 (wf_i64' w1).1 (wf_i64' w1).2 L2 v2 W E2).mono fun e W' ⟨he, hg⟩ => ?_
  subst he
  exact ⟨_, rfl, post_true laidOut (by rw [Try.params6]; intro t ht; simp at ht; first | (subst ht; exact ⟨by kernel_rfl, of_decide_eq_true (by kernel_rfl)⟩) | (rcases ht with rfl | rfl <;> exact ⟨by kernel_rfl, of_decide_eq_true (by kernel_rfl)⟩) | (rcases ht with rfl | rfl | rfl <;> exact ⟨by kernel_rfl, of_decide_eq_true (by kernel_rfl)⟩) | (rcases ht with rfl | rfl | rfl | rfl <;> exact ⟨by kernel_rfl, of_decide_eq_true (by kernel_rfl)⟩)) rfl hW' hA rfl (trodAll_cons_mk (shut_bool Try.underlying4 _) trodAll_mk0) (Later.kept hg)⟩

theorem boardWrites_holds : Rows.BoardWritesSaid :=
  OpenClaim.holds_of_wide 6 Try.f6 rfl rfl rfl rfl rfl rfl rfl ⟨rfl, rfl, rfl, rfl, rfl⟩ rfl rfl rfl rfl rfl (by kernel_rfl) Try.func6 (by kernel_rfl)
    (of_decide_eq_true (by kernel_rfl)) (by unfold Func.isWrapper; first | (rw [if_pos (by decide +kernel)]; kernel_rfl) | (rw [if_neg (by decide +kernel)]; exact ⟨rfl, rfl⟩))
    (fun os started H enc _ => boardWrites_lifted os started H enc)
#print axioms boardWrites_holds
end Go.Proofs.Ytemfocnjlimicaa
