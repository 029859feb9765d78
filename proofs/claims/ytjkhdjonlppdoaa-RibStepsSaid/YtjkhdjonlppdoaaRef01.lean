/- What each function of the reference of layer 1 hands back: the contracts over the program. -/
import Derived.Test.YtjkhdjonlppdoaaAddr
import Derived.Test.YtjkhdjonlppdoaaBits
namespace Go.Proofs.Ytjkhdjonlppdoaa
open Go.RowKit Pg

theorem bits_any (x : B) (w : World) : Calls Try.prog 58 #[av x] w (RetBits 4 (bt x) w) := by
  have hmk : ∀ w : World, (Instr.makeSlice 86 (.int .i64 128) (.int .i64 128)).run Try.prog w = .ok (.slice (some ⟨w.heap.size, 0, none⟩) 128 128) (w.alloc (.cells (bitCells fun _ => false) 4)) := fun _ => by kernel_rfl
  go_enter Try.func58, Try.ntmps58
  go_wp2_with fail
  clear hmk
  refine wp_loop_rounds 3 ?_
  rw [rounds_succ]
  go_wp2_with fail
  go_loopw [5, 6] (fun vn vk wr => ∃ (j m : Nat) (f : Nat → Bool), j ≤ 64 ∧ m < 18446744073709551616 ∧ vk = .int .i64 (63 - j) ∧ vn = .int .u64 (m : Int) ∧ wr = (w.alloc (.cells #[.int .u64 (hi x), .int .u64 (lo x)] 24)).alloc (.cells (bitCells f) 4) ∧ m = hiN x / 2 ^ j ∧ ∀ i, 63 < i + j → i < 64 → f i = bt x i) (fun _ k _ => (intOf k + 1).toNat)
  case atStart => exact ⟨0, hiN x, fun _ => false, by omega, hiN_lt x, rfl, rfl, rfl, by simp, fun i h1 h2 => by omega⟩
  case round =>
    obtain ⟨j, m, f, hj, hm, rfl, rfl, rfl, hmj, hf⟩ := hrel
    by_cases hlt : j < 64
    · have hc0 : (0 : Int) ≤ 63 - j := by omega
      have hc1 : (63 : Int) - j < 128 := by omega
      have hget := bitCells_get f (63 - j) (by omega)
      have HF := Lib.hid hf; clear hf
      have HM := Lib.hid hmj; clear hmj
      go_wp2_with fail
      go_roundw
      case rel =>
        refine ⟨j + 1, m / 2, upd f (63 - j) ((m : Int) % 2 == 1), by omega, by omega, by go_num, by simp, by rw [bitCells_set], ?_, ?_⟩
        · rw [HM.out, Nat.div_div_eq_div_mul, Nat.pow_succ]
        · intro i h1 h2
          by_cases hi : i = 63 - j
          · subst hi
            rw [upd_same, ← hiN_testBit x _ h2, Nat.testBit_eq_decide_div_mod_eq, show 63 - (63 - j) = j by omega, ← HM.out, Bool.eq_iff_iff]
            simp; omega
          · rw [upd_other _ _ _ _ hi]; exact HF.out i (by omega) h2
      case measure => simp [intOf]; omega
    · have hj64 : j = 64 := by omega
      subst hj64
      have HF := Lib.hid hf; clear hf hmj hlt
      go_wp2_with fail
      rw [rounds_succ]
      go_wp2_with fail
      go_loopw [5, 6] (fun vn vk wr => ∃ (j m : Nat) (f : Nat → Bool), j ≤ 64 ∧ m < 18446744073709551616 ∧ vk = .int .i64 (63 - j) ∧ vn = .int .u64 (m : Int) ∧ wr = (w.alloc (.cells #[.int .u64 (hi x), .int .u64 (lo x)] 24)).alloc (.cells (bitCells f) 4) ∧ m = loN x / 2 ^ j ∧ ∀ i, (i < 64 ∨ 127 < i + j) → i < 128 → f i = bt x i) (fun _ k _ => (intOf k + 1).toNat)
      case atStart => exact ⟨0, loN x, f, by omega, loN_lt x, rfl, rfl, rfl, by simp, fun i h1 h2 => HF.out i (by omega) (by omega)⟩
      case round =>
        clear HF
        obtain ⟨j, m, f, hj, hm, rfl, rfl, rfl, hmj, hf⟩ := hrel
        by_cases hlt : j < 64
        · have hc0 : (0 : Int) ≤ 63 - j := by omega
          have hc1 : (64 : Int) + (63 - j) < 128 := by omega
          have hc2 : (0 : Int) ≤ 64 + (63 - j) := by omega
          have hget := bitCells_get f (64 + (63 - j)) (by omega)
          have HF := Lib.hid hf; clear hf
          have HM := Lib.hid hmj; clear hmj
          go_wp2_with fail
          go_roundw
          case rel =>
            refine ⟨j + 1, m / 2, upd f (64 + (63 - j)) ((m : Int) % 2 == 1), by omega, by omega, by go_num, by simp, by rw [bitCells_set], ?_, ?_⟩
            · rw [HM.out, Nat.div_div_eq_div_mul, Nat.pow_succ]
            · intro i h1 h2
              by_cases hi : i = 64 + (63 - j)
              · subst hi
                rw [upd_same, ← loN_testBit x _ (by omega), Nat.testBit_eq_decide_div_mod_eq, show 63 - (63 - j) = j by omega, ← HM.out, Bool.eq_iff_iff]
                simp; omega
              · rw [upd_other _ _ _ _ hi]; exact HF.out i (by omega) h2
          case measure => simp [intOf]; omega
        · have hj64 : j = 64 := by omega
          subst hj64
          have HF := Lib.hid hf; clear hf hmj hlt
          go_wp2_with fail
          rw [rounds_succ]
          go_wp2_with fail
          go_ret
          refine ⟨w.heap.size + 1, rfl, by omega, ?_, Later.of (by simp)⟩
          rw [show bitCells f = bitCells (bt x) from bitCells_congr fun k hk => HF.out k (by omega) hk]
          unfold IsBits
          simpa using Blk.new (w.alloc (.cells #[.int .u64 (hi x), .int .u64 (lo x)] 24)) 4 (bitCells (bt x))
end Go.Proofs.Ytjkhdjonlppdoaa
