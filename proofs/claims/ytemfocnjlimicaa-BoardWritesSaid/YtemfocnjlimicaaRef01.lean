/- What each function of the reference of layer 1 hands back: the contracts over the program. -/
import Derived.Test.YtemfocnjlimicaaAddr
import Derived.Test.YtemfocnjlimicaaBits
namespace Go.Proofs.Ytemfocnjlimicaa
open Go.RowKit Pg

theorem bits_any (x : B) (w : World) : Calls Try.prog 35 #[av x] w (RetBits 4 (bt x) w) := by
  have hmk : ∀ w : World, (Instr.makeSlice 88 (.int .i64 128) (.int .i64 128)).run Try.prog w = .ok (.slice (some ⟨w.heap.size, 0, none⟩) 128 128) (w.alloc (.cells (bitCells fun _ => false) 4)) := fun _ => by kernel_rfl
  go_enter Try.func35, Try.ntmps35
  go_wp2_with fail
  clear hmk
  refine wp_loop_rounds 3 ?_
  rw [rounds_succ]
  go_wp2_with fail
  go_loopw [5, 6] (fun vn vk wr => ∃ (j m : Nat) (f : Nat → Bool), j ≤ 64 ∧ m < 18446744073709551616 ∧ vk = .int .i64 (63 - j) ∧ vn = .int .u64 (m : Int) ∧ wr = (w.alloc (.cells #[.int .u64 (hi x), .int .u64 (lo x)] 24)).alloc (.cells (bitCells f) 4) ∧ m = hiN x / 2 ^ j ∧ ∀ i, 63 < i + j → i < 64 → f i = bt x i) (fun _ k _ => (intOf k + 1).toNat)
  case atStart => exact ⟨0, hiN x, fun _ => false, by omega, hiN_lt x, rfl, rfl, rfl, by simp, fun i h1 h2 => by omega⟩
  case round =>
    obtain ⟨j, m, f, hj, hm, rfl, rfl, rfl, hmj, hf⟩ := hrel
    by_cases hlt : j < 64
    · have hc0 : (0 : Int) ≤ 63 - j := by omega
      have hc1 : (63 : Int) - j < 128 := by omega
      have hget := bitCells_get f (63 - j) (by omega)
      have HF := Lib.hid hf; clear hf
      have HM := Lib.hid hmj; clear hmj
      go_wp2_with fail
      go_roundw
      case rel =>
        refine ⟨j + 1, m / 2, upd f (63 - j) ((m : Int) % 2 == 1), by omega, by omega, by go_num, by simp, by rw [bitCells_set], ?_, ?_⟩
        · rw [HM.out, Nat.div_div_eq_div_mul, Nat.pow_succ]
        · intro i h1 h2
          by_cases hi : i = 63 - j
          · subst hi
            rw [upd_same, ← hiN_testBit x _ h2, Nat.testBit_eq_decide_div_mod_eq, show 63 - (63 - j) = j by omega, ← HM.out, Bool.eq_iff_iff]
            simp; omega
          · rw [upd_other _ _ _ _ hi]; exact HF.out i (by omega) h2
      case measure => simp [intOf]; omega
    · have hj64 : j = 64 := by omega
      subst hj64
      have HF := Lib.hid hf; clear hf hmj hlt
      go_wp2_with fail
      rw [rounds_succ]
      go_wp2_with fail
      go_loopw [5, 6] (fun vn vk wr => ∃ (j m : Nat) (f : Nat → Bool), j ≤ 64 ∧ m < 18446744073709551616 ∧ vk = .int .i64 (63 - j) ∧ vn = .int .u64 (m : Int) ∧ wr = (w.alloc (.cells #[.int .u64 (hi x), .int .u64 (lo x)] 24)).alloc (.cells (bitCells f) 4) ∧ m = loN x / 2 ^ j ∧ ∀ i, (i < 64 ∨ 127 < i + j) → i < 128 → f i = bt x i) (fun _ k _ => (intOf k + 1).toNat)
      case atStart => exact ⟨0, loN x, f, by omega, loN_lt x, rfl, rfl, rfl, by simp, fun i h1 h2 => HF.out i (by omega) (by omega)⟩
      case round =>
        clear HF
        obtain ⟨j, m, f, hj, hm, rfl, rfl, rfl, hmj, hf⟩ := hrel
        by_cases hlt : j < 64
        · have hc0 : (0 : Int) ≤ 63 - j := by omega
          have hc1 : (64 : Int) + (63 - j) < 128 := by omega
          have hc2 : (0 : Int) ≤ 64 + (63 - j) := by omega
          have hget := bitCells_get f (64 + (63 - j)) (by omega)
          have HF := Lib.hid hf; clear hf
          have HM := Lib.hid hmj; clear hmj
          go_wp2_with fail
          go_roundw
          case rel =>
            refine ⟨j + 1, m / 2, upd f (64 + (63 - j)) ((m : Int) % 2 == 1), by omega, by omega, by go_num, by simp, by rw [bitCells_set], ?_, ?_⟩
            · rw [HM.out, Nat.div_div_eq_div_mul, Nat.pow_succ]
            · intro i h1 h2
              by_cases hi : i = 64 + (63 - j)
              · subst hi
                rw [upd_same, ← loN_testBit x _ (by omega), Nat.testBit_eq_decide_div_mod_eq, show 63 - (63 - j) = j by omega, ← HM.out, Bool.eq_iff_iff]
                simp; omega
              · rw [upd_other _ _ _ _ hi]; exact HF.out i (by omega) h2
          case measure => simp [intOf]; omega
        · have hj64 : j = 64 := by omega
          subst hj64
          have HF := Lib.hid hf; clear hf hmj hlt
          go_wp2_with fail
          rw [rounds_succ]
          go_wp2_with fail
          go_ret
          refine ⟨w.heap.size + 1, rfl, by omega, ?_, Later.of (by simp)⟩
          rw [show bitCells f = bitCells (bt x) from bitCells_congr fun k hk => HF.out k (by omega) hk]
          unfold IsBits
          simpa using Blk.new (w.alloc (.cells #[.int .u64 (hi x), .int .u64 (lo x)] 24)) 4 (bitCells (bt x))
set_option maxRecDepth 100000 in
theorem words_any (x : B) (g c : Nat) (w : World) (hg : g < w.heap.size) (hc : ∀ k, k < 128 → w.cell? ⟨g, k, none⟩ = some (.bool (bt x k))) :
    Calls Try.prog 63 #[.slice (some ⟨g, 0, none⟩) 128 c] w (Ret (av x) w) := by
  have HC := Lib.hid hc; clear hc
  go_enter Try.func63, Try.ntmps63
  go_wp2_with fail
  go_loopw [4] (fun vk wr => ∃ (k p q : Nat), k ≤ 128 ∧ vk = .int .i64 k ∧ wr = (w.alloc (.cells #[.int .u64 0, .int .u64 0] 24)).alloc (.cells #[.int .u64 (p : Int), .int .u64 (q : Int)] 24) ∧ (p, q) = wordsAt x k) (fun k _ => 128 - (intOf k).toNat)
  case atStart => exact ⟨0, 0, 0, by omega, rfl, rfl, by unfold wordsAt; rw [if_pos (by omega), Nat.div_eq_of_lt (hiN_lt x)]⟩
  case round =>
    obtain ⟨k, p, q, hk, rfl, rfl, hpq⟩ := hrel
    by_cases hlt : k < 128
    · have hcell := HC.out k hlt
      by_cases hk64 : k < 64
      · have e1 : k / 64 = 0 := by omega
        have hp := words_lt_hi hpq hk64
        have hst := words_step_hi hpq hk64
        cases hb : bt x k
        · rw [hb] at hcell hst
          have HS := Lib.hid hst; clear hst hb hpq
          go_wp2_with fail
          go_roundw
          case rel => exact ⟨k + 1, p * 2, q, by omega, by go_num, by simp, HS.out⟩
          case measure => simp [intOf]; omega
        · rw [hb] at hcell hst
          have HS := Lib.hid hst; clear hst hb hpq
          go_wp2_with fail
          go_roundw
          case rel => exact ⟨k + 1, p * 2 + 1, q, by omega, by go_num, by simp, HS.out⟩
          case measure => simp [intOf]; omega
      · have e1 : k / 64 = 1 := by omega
        have hp := words_lt_lo hpq (by omega) hlt
        have hst := words_step_lo hpq (by omega) hlt
        cases hb : bt x k
        · rw [hb] at hcell hst
          have HS := Lib.hid hst; clear hst hb hpq
          go_wp2_with fail
          go_roundw
          case rel => exact ⟨k + 1, p, q * 2, by omega, by go_num, by simp, HS.out⟩
          case measure => simp [intOf]; omega
        · rw [hb] at hcell hst
          have HS := Lib.hid hst; clear hst hb hpq
          go_wp2_with fail
          go_roundw
          case rel => exact ⟨k + 1, p, q * 2 + 1, by omega, by go_num, by simp, HS.out⟩
          case measure => simp [intOf]; omega
    · have hk128 : k = 128 := by omega
      subst hk128
      have HE := Lib.hid (words_end hpq); clear hpq
      go_wp2_with fail
      refine bodyPost_ret (v := av x) ?_ rfl (Ret.mk (by simp (maxDischargeDepth := 99)))
      simp [results, Try.results63, go_sem, av, HE.out.1, HE.out.2]
end Go.Proofs.Ytemfocnjlimicaa
