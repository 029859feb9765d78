/- A bank: New, Read, Search, Slots, how many were written. -/
import Derived.Test.YtpocbcohoefojaaBank9
namespace Go.Proofs.Ytpocbcohoefojaa
open Go.RowKit Pg

set_option maxHeartbeats 1000000 in
set_option maxRecDepth 100000 in
theorem bnew_no (n : Int) (w : World) (h : ¬ (1 ≤ n ∧ n ≤ 256)) : Calls Try.prog 10 #[.int .i64 n] w (Ret (.tuple #[.pointer none, .int .i64 1]) w) := by
  by_cases h1 : n < 1
  · clear h
    go_enter Try.func10, Try.ntmps10
    go_wp2_with fail
    exact bodyPost_ret (v := .tuple #[.pointer none, .int .i64 1]) (by simp [results, Try.results10, go_sem]) rfl (Ret.mk (by simp (maxDischargeDepth := 99)))
  · have h2 : 256 < n := by omega
    clear h
    go_enter Try.func10, Try.ntmps10
    go_wp2_with fail
    exact bodyPost_ret (v := .tuple #[.pointer none, .int .i64 1]) (by simp [results, Try.results10, go_sem]) rfl (Ret.mk (by simp (maxDischargeDepth := 99)))
theorem run_make_slots (n : Nat) (h : n ≤ 1000) (W : World) : (Instr.makeSlice 55 (.int .i64 (n : Int)) (.int .i64 (n : Int))).run Try.prog W = .ok (.slice (some ⟨W.heap.size, 0, none⟩) n n) (W.alloc (.cells ((List.replicate n z0).flatMap Slot.cells).toArray 37)) := by
  obtain ⟨i, hi, hz, hs, hb⟩ := parts_of info_slot
  have := run_make (P := Try.prog) W 55 37 i _ Try.underlying55 hi hz .i64 .i64 (n : Int) (n : Int) (by omega) (by omega) (by rw [hb]; omega) (by omega)
  have hz0 : (Slot.cells z0).toArray = #[.bool false, .int .u64 0, .int .u64 0, .int .u64 0, .int .u64 0, .int .i64 0, .int .i64 0] := by kernel_rfl
  have hm := made_flat Slot.cells_len z0 n
  rw [hz0] at hm
  rw [this, Int.toNat_natCast, hs, ← hm]
  rfl
theorem own_flat {α : Type} {k : Nat} {enc : α → List Value} (hk : ∀ x, (enc x).length = k) (l : List α) (hn : l.length ≤ 1000) (W0 w : World) (hw : Kept W0 w) (e : TypeId) : Own W0 (w.alloc (.cells (l.flatMap enc).toArray e)) e k (.slice (some ⟨w.heap.size, 0, none⟩) l.length l.length) l.length (l.flatMap enc) := by
  refine ⟨Kept.alloc hw _, flat_len hk l, .inr ⟨w.heap.size, l.length, (l.flatMap enc).toArray, rfl, hw.size, heap_alloc_new _ _, Nat.le_refl _, by unfold maxLen; omega, by simp [flat_len hk], ?_⟩⟩
  exact List.take_of_length_le (Nat.le_of_eq (flat_len hk l))
def NewPost (n : Nat) (w : World) (e : Ending) (w2 : World) : Prop := ∃ g gr, e = .returned (.tuple #[.pointer (some ⟨g, 0, none⟩), .int .i64 0]) ∧ Kept w w2 ∧ BankAt w w2 g gr (List.replicate n z0) 0
set_option maxHeartbeats 1000000 in
set_option maxRecDepth 100000 in
theorem bnew_yes (n : Nat) (w : World) (h1 : 1 ≤ n) (h2 : n ≤ 256) : Calls Try.prog 10 #[.int .i64 (n : Int)] w (NewPost n w) := by
  have hmk := run_make_slots n (by omega)
  have g1 : ¬ ((n : Int) < 1) := by omega
  have g2 : ¬ (256 < (n : Int)) := by omega
  go_enter Try.func10, Try.ntmps10
  go_wp2_with fail
  refine bodyPost_ret (v := .tuple #[.pointer (some ⟨w.heap.size + 1, 0, none⟩), .int .i64 0]) (by simp [results, Try.results10, go_sem]) rfl ⟨w.heap.size + 1, w.heap.size, rfl, by simp, ?_⟩
  have ho := own_flat Slot.cells_len (List.replicate n z0) (by simp; omega) w w (Kept.refl w) 37
  simp only [List.length_replicate] at ho
  exact ⟨by simpa using ho.alloc _, by simpa using Blk.new' (w.alloc (.cells ((List.replicate n z0).flatMap Slot.cells).toArray 37)) 84 #[.slice (some ⟨w.heap.size, 0, none⟩) n n, .int .i64 0] (g := w.heap.size + 1) (by simp), by omega, by omega, by simp; omega, by simpa using h2⟩
end Go.Proofs.Ytpocbcohoefojaa
