/- A bank: Slots, Read, Search, how many were written. -/
import Derived.Test.YtpocbcohoefojaaBank10
namespace Pg
open Go Go.RowKit
theorem Own.base {W0 W w : World} {e : TypeId} {k n : Nat} {v : Value} {xs : List Value} (h : Own W w e k v n xs) (hk : Kept W0 W) : Own W0 w e k v n xs := by
  refine ⟨hk.trans h.1, h.2.1, ?_⟩
  rcases h.2.2 with h2 | ⟨g, cap, cur, hv, hg, r⟩
  · exact .inl h2
  · exact .inr ⟨g, cap, cur, hv, Nat.le_trans hk.size hg, r⟩
theorem own_setRow {α : Type} {k : Nat} {enc : α → List Value} (hk : ∀ x, (enc x).length = k) (l : List α) (hn : l.length ≤ 1000) (W0 w : World) (hw : Kept W0 w) (e : TypeId) (cur : Array Value) (g : Nat) (hg : g = w.heap.size) :
    Own W0 ((w.alloc (.cells cur e)).setRow g (l.flatMap enc).toArray) e k (.slice (some ⟨g, 0, none⟩) l.length l.length) l.length (l.flatMap enc) := by
  subst hg
  refine ⟨Kept.setRow (Kept.alloc hw _) hw.size _, flat_len hk l, .inr ⟨w.heap.size, l.length, (l.flatMap enc).toArray, rfl, hw.size, setRow_heap _ _ cur _ e (0, 0) (heap_alloc_new _ _), Nat.le_refl _, by unfold maxLen; omega, by simp [flat_len hk], ?_⟩⟩
  exact List.take_of_length_le (Nat.le_of_eq (flat_len hk l))
end Pg
namespace Go.Proofs.Ytpocbcohoefojaa
open Go.RowKit Pg

def SlotsPost (l : List Slot) (w : World) (e : Ending) (w2 : World) : Prop := ∃ g, e = .returned (.slice (some ⟨g, 0, none⟩) l.length l.length) ∧ Own w w2 37 7 (.slice (some ⟨g, 0, none⟩) l.length l.length) l.length (l.flatMap Slot.cells)
set_option maxHeartbeats 1000000 in
set_option maxRecDepth 100000 in
theorem bslots_exact {W0 w : World} {g gr : Nat} {l : List Slot} {n : Int} (h : BankAt W0 w g gr l n) : Calls Try.prog 18 #[.pointer (some ⟨g, 0, none⟩)] w (SlotsPost l w) := by
  obtain ⟨c0, c1, hlt⟩ := Blk.two h.blk
  have hle := h.le
  have HE := Lib.hid (Own.els Slot.cells_len h.own)
  have hmk := run_make_slots l.length (by omega)
  have hcp := fun ty => run_copy_els (P := Try.prog) (w := w.alloc (.cells ((List.replicate l.length z0).flatMap Slot.cells).toArray 37)) 55 55 ty 37 7 Try.underlying55 (by kernel_rfl) (by omega) Slot.cells_len Slot.one w.heap.size ((List.replicate l.length z0).flatMap Slot.cells).toArray l.length l.length l ⟨gr, 0, none⟩ (Blk.new' _ _ _ rfl) (by simp [Slot.cells_len]) (HE.out.alloc _)
  simp only [goInt] at hcp
  clear h
  go_enter Try.func18, Try.ntmps18
  go_wp2_with fail
  go_ret
  exact ⟨_, rfl, own_setRow Slot.cells_len l (by omega) w w (Kept.refl w) _ _ _ rfl⟩
theorem bslots_any {W0 w : World} {g gr : Nat} {l : List Slot} {n : Int} (h : BankAt W0 w g gr l n) : Calls Try.prog 18 #[.pointer (some ⟨g, 0, none⟩)] w (RetEls 37 7 Slot.cells l w) :=
  (bslots_exact h).mono fun _ _ ⟨_, he, ho⟩ => ⟨_, he, ho⟩
set_option maxHeartbeats 1000000 in
set_option maxRecDepth 100000 in
theorem bwrites_any {W0 w : World} {g gr : Nat} {l : List Slot} {n : Int} (h : BankAt W0 w g gr l n) : Calls Try.prog 16 #[.pointer (some ⟨g, 0, none⟩)] w (Ret (.int .i64 n) w) := by
  obtain ⟨c0, c1, hlt⟩ := Blk.two h.blk
  clear h
  go_enter Try.func16, Try.ntmps16
  go_wp2_with fail
  go_ret
  exact Ret.of (rfl) (by simp (maxDischargeDepth := 99))
set_option maxHeartbeats 1000000 in
set_option maxRecDepth 100000 in
theorem bread_no {W0 w : World} {g gr : Nat} {l : List Slot} {n : Int} (h : BankAt W0 w g gr l n) (k : Int) (hk : k < 0 ∨ (l.length : Int) ≤ k) : Calls Try.prog 20 #[.pointer (some ⟨g, 0, none⟩), .int .i64 k] w (Ret (.tuple #[slv z0, .int .i64 5]) w) := by
  obtain ⟨c0, c1, hlt⟩ := Blk.two h.blk
  clear h
  have e0 : hi 0#128 = 0 := by kernel_rfl
  have e1 : lo 0#128 = 0 := by kernel_rfl
  by_cases h1 : k < 0
  · clear hk
    go_enter Try.func20, Try.ntmps20
    go_wp2_with fail
    exact bodyPost_ret (v := .tuple #[slv z0, .int .i64 5]) (by simp [results, Try.results20, go_sem, slv, z0, e0, e1]) rfl (Ret.mk (by simp (maxDischargeDepth := 99)))
  · have h2 : (l.length : Int) ≤ k := by omega
    clear hk
    go_enter Try.func20, Try.ntmps20
    go_wp2_with fail
    exact bodyPost_ret (v := .tuple #[slv z0, .int .i64 5]) (by simp [results, Try.results20, go_sem, slv, z0, e0, e1]) rfl (Ret.mk (by simp (maxDischargeDepth := 99)))
set_option maxHeartbeats 1000000 in
set_option maxRecDepth 100000 in
theorem bread_yes {W0 w : World} {g gr : Nat} {l : List Slot} {n : Int} (h : BankAt W0 w g gr l n) (k : Nat) (hk : k < l.length) : Calls Try.prog 20 #[.pointer (some ⟨g, 0, none⟩), .int .i64 (k : Int)] w (Ret (.tuple #[slv l[k], .int .i64 0]) w) := by
  obtain ⟨c0, c1, hlt⟩ := Blk.two h.blk
  have HE := Lib.hid (Own.els Slot.cells_len h.own)
  clear h
  obtain ⟨hb, hcell⟩ := (HE.out).at2 (k) hk
  obtain ⟨e, hee⟩ : ∃ e, (l)[k]'hk = e := ⟨_, rfl⟩
  rw [hee] at hcell
  have c0 : w.cell? ⟨gr, k * 7, none⟩ = some (.bool e.v) := by have h := hcell 0 (by omega); rw [Nat.zero_add] at h; exact h
  have c1 : w.cell? ⟨gr, k * 7 + 1, none⟩ = some (.int .u64 (hi e.e.x)) := by have h := hcell 1 (by omega); rw [Nat.zero_add] at h; exact h
  have c2 : w.cell? ⟨gr, k * 7 + 2, none⟩ = some (.int .u64 (lo e.e.x)) := by have h := hcell 2 (by omega); rw [Nat.zero_add] at h; exact h
  have c3 : w.cell? ⟨gr, k * 7 + 3, none⟩ = some (.int .u64 (hi e.e.m)) := by have h := hcell 3 (by omega); rw [Nat.zero_add] at h; exact h
  have c4 : w.cell? ⟨gr, k * 7 + 4, none⟩ = some (.int .u64 (lo e.e.m)) := by have h := hcell 4 (by omega); rw [Nat.zero_add] at h; exact h
  have c5 : w.cell? ⟨gr, k * 7 + 5, none⟩ = some (.int .i64 e.e.len) := by have h := hcell 5 (by omega); rw [Nat.zero_add] at h; exact h
  have c6 : w.cell? ⟨gr, k * 7 + 6, none⟩ = some (.int .i64 e.e.act) := by have h := hcell 6 (by omega); rw [Nat.zero_add] at h; exact h
  have Hee := Lib.hid hee
  clear hcell hee
  rw [Hee.out]
  clear Hee
  have k1 : ¬ (k : Int) < 0 := by omega
  have k2 : ¬ (l.length : Int) ≤ (k : Int) := by omega
  have k3 : (k : Int) < (l.length : Int) := by omega
  go_enter Try.func20, Try.ntmps20
  go_wp2_with fail
  exact bodyPost_ret (v := .tuple #[slv e, .int .i64 0]) (by simp [results, Try.results20, go_sem, slv]) rfl (Ret.mk (by simp (maxDischargeDepth := 99)))
set_option maxHeartbeats 1000000 in
set_option maxRecDepth 100000 in
theorem bsearch_any {W0 w : World} {g gr : Nat} {l : List Slot} {n : Int} (h : BankAt W0 w g gr l n) (a : B) : Calls Try.prog 21 #[.pointer (some ⟨g, 0, none⟩), av a] w (Ret (.tuple #[.int .i64 (max (idxI (matchS a) l) 0), .bool (decide (0 ≤ idxI (matchS a) l))]) w) := by
  obtain ⟨c0, c1, hlt⟩ := Blk.two h.blk
  have hle := h.le
  have HF := Lib.hid (fun (w' : World) (hk : Kept w w') => bfound_any a w' ((Own.els Slot.cells_len h.own).kept hk) (by omega))
  clear h
  obtain ⟨i, hi⟩ : ∃ i, idxI (matchS a) l = i := ⟨_, rfl⟩
  rw [hi] at HF ⊢
  clear hi
  go_enter Try.func21, Try.ntmps21
  go_wp2_with fail
  refine region_ext _ (by first | exact Later.ext _ _ | exact Later.refl _) mixed (by kernel_rfl) ?_
  repeat (go_big_quiet_step ((first | (go_at_call 38; exact calls_in (HF.out _ (by simp (maxDischargeDepth := 99)))))))
  refine wpQuiet_nil ?_
  rintro _ ⟨q, rfl⟩
  go_wp2_with fail
  exact bodyPost_ret (v := .tuple #[.int .i64 (max i 0), .bool (decide (0 ≤ i))]) (by simp [results, Try.results21, go_sem]) rfl (Ret.mk (by simp (maxDischargeDepth := 99)))
end Go.Proofs.Ytpocbcohoefojaa
