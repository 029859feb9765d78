/- A bank: two blocks; New, Read, Search, Slots. A bank: New, Read, Search, Slots, how many were written. A bank: Slots, Read, Search, how many were written. -/
import Derived.Test.YtemfocnjlimicaaBank8
import Derived.Laws.OwnMore
import Derived.Laws.CopyRow
namespace Pg
open Go Go.RowKit Go.Sort
def z0 : Slot := ⟨false, 0#128, 0#128, 0, 0⟩
theorem made_flat {α : Type} {k : Nat} {enc : α → List Value} (hk : ∀ x, (enc x).length = k) (x : α) (n : Nat) : madeCells (enc x).toArray (n * k) = ((List.replicate n x).flatMap enc).toArray := by
  apply Array.ext
  · rw [size_madeCells]; simp [hk]
  · intro i h1 h2
    rw [size_madeCells] at h1
    have hk0 : 0 < k := by
      rcases Nat.eq_zero_or_pos k with h | h
      · subst h; omega
      · exact h
    obtain ⟨h3, h4⟩ := flat_get' hk (List.replicate n x) i (by simpa using h1)
    have h5 : i % k < (enc x).length := by rw [hk]; exact Nat.mod_lt _ hk0
    have h6 : i < ((List.replicate n x).flatMap enc).length := by simpa using h2
    rw [List.getElem?_eq_getElem h6, List.getElem_replicate, List.getElem?_eq_getElem h5] at h4
    injection h4 with h4
    simp only [List.getElem_toArray]
    rw [h4]
    simp only [madeCells, Array.getElem_map, Array.getElem_range, List.size_toArray, hk]
    rw [getElem!_pos (enc x).toArray (i % k) (by simpa using h5)]
    simp
/-- What changes: blocks g and gr alone; blocks may have been laid. -/
structure Chg (w w' : World) (g gr : Nat) : Prop where
  os : w'.os = w.os
  tape : w'.tape = w.tape
  output : w'.output = w.output
  size : w.heap.size ≤ w'.heap.size
  block : ∀ k, k < w.heap.size → k ≠ g → k ≠ gr → w'.heap[k]? = w.heap[k]?
theorem Chg.of {w w' : World} (g gr : Nat) (h : Kept w w') : Chg w w' g gr := ⟨h.os, h.tape, h.output, h.size, fun k hk _ _ => h.block k hk⟩
theorem Chg.kept {W0 w w' : World} {g gr : Nat} (h : Chg w w' g gr) (hk : Kept W0 w) (h1 : W0.heap.size ≤ g) (h2 : W0.heap.size ≤ gr) : Kept W0 w' :=
  ⟨h.os.trans hk.os, h.tape.trans hk.tape, h.output.trans hk.output, Nat.le_trans hk.size h.size, fun k hk' => (h.block k (Nat.lt_of_lt_of_le hk' hk.size) (by omega) (by omega)).trans (hk.block k hk')⟩
theorem Chg.blk {w w' : World} {g gr b : Nat} {t : TypeId} {cs : Array Value} (h : Chg w w' g gr) (hb : Blk w b t cs) (h1 : b ≠ g) (h2 : b ≠ gr) : Blk w' b t cs := by
  unfold Blk at *
  rw [h.block b (by
    rcases Nat.lt_or_ge b w.heap.size with h3 | h3
    · exact h3
    · rw [Array.getElem?_eq_none h3] at hb; cases hb) h1 h2]
  exact hb
theorem Chg.trans {w w' w2 : World} {g gr : Nat} (h : Chg w w' g gr) (h' : Chg w' w2 g gr) : Chg w w2 g gr :=
  ⟨h'.os.trans h.os, h'.tape.trans h.tape, h'.output.trans h.output, Nat.le_trans h.size h'.size, fun k hk h1 h2 => (h'.block k (Nat.lt_of_lt_of_le hk h.size) h1 h2).trans (h.block k hk h1 h2)⟩
theorem Chg.setCell {w w' : World} {g gr : Nat} (h : Chg w w' g gr) (b o : Nat) (hb : b = g ∨ b = gr) (u : Value) : Chg w (w'.setCell ⟨b, o, none⟩ u) g gr :=
  ⟨h.os, h.tape, h.output, by simpa using h.size, fun k hk h1 h2 => (Below.heap_setCell w' ⟨b, o, none⟩ u k (by simp; omega)).trans (h.block k hk h1 h2)⟩
theorem Els.chg {α : Type} {w w' : World} {g gr k : Nat} {enc : α → List Value} {l : List α} {v : Value} (h : Els w v k enc l) (hc : Chg w w' g gr) (h1 : v.ownBlock ≠ some g) (h2 : v.ownBlock ≠ some gr) : Els w' v k enc l := by
  obtain ⟨a, c, rfl, hc', h⟩ := h
  refine ⟨a, c, rfl, hc', fun h0 => ?_⟩
  obtain ⟨b, o, rfl, hb, hcell⟩ := h h0
  refine ⟨b, o, rfl, Nat.lt_of_lt_of_le hb hc.size, fun i hi j hj => ?_⟩
  have hbl : w'.heap[b]? = w.heap[b]? := hc.block b hb (fun hr => h1 (by rw [← hr]; rfl)) (fun hr => h2 (by rw [← hr]; rfl))
  exact (World.cell?_of_block (a := ⟨b, o + i * k + j, none⟩) hbl).trans (hcell i hi j hj)
/-- 'copy(d, s)': s as long as d, d a block of its own. -/
theorem run_copy_els {P : Program} {α : Type} {enc : α → List Value} {w : World} (dT sT ty : TypeId) (e : TypeId) (size : Nat) (hu : P.underlying dT = some (.slice e)) (hs : (P.info? e).map (·.size) = some size)
    (hsz : 0 < size) (hk : ∀ x : α, (enc x).length = size) (hone : ∀ x : α, ∀ u ∈ enc x, u.oneCell' = true)
    (g : Nat) (cur : Array Value) (c c' : Nat) (l : List α) (b : Addr) (hblk : Blk w g e cur) (hcs : cur.size = l.length * size) (hl : Els w (.slice (some b) l.length c') size enc l) :
    (Builtin.copy_ #[dT, sT] ty #[.slice (some ⟨g, 0, none⟩) l.length c, .slice (some b) l.length c']).run P w = .ok (goInt l.length) (w.setRow g (l.flatMap enc).toArray) := by
  have hlen := flat_len hk l
  have hsrc : ∀ j v, (l.flatMap enc)[j]? = some v → w.cell? (b.add j) = some v := by
    intro j u hu
    have hj : j < l.length * size := by
      have := (List.getElem?_eq_some_iff.1 hu).1
      rwa [flat_len hk] at this
    obtain ⟨h2, h3⟩ := flat_get' hk l j hj
    obtain ⟨b', o', e', hb, hcell⟩ := hl.at_ (j / size) h2
    injection e' with e'
    subst e'
    have h4 := hcell (j % size) (Nat.mod_lt _ hsz)
    rw [← h3, hu] at h4
    have e5 : o' + j / size * size + j % size = o' + j := by rw [Nat.add_assoc, Nat.mul_comm, Nat.div_add_mod]
    rw [e5] at h4
    unfold Addr.add
    split
    · rename_i h0; subst h0; exact h4
    · simpa using h4
  have hld := run_loadCells_list (P := P) w b (l.flatMap enc) hsrc
  have hst := run_storeCells_at P g 0 e (l.flatMap enc) 0 cur w hblk (by rw [hlen, hcs]; omega) (fun v hv => by
    obtain ⟨y, _, hy⟩ := List.mem_flatMap.1 hv
    exact hone y v hy)
  have hfin : (List.take (0 + 0) cur.toList ++ l.flatMap enc ++ List.drop (0 + 0 + (l.flatMap enc).length) cur.toList).toArray = (l.flatMap enc).toArray := by
    rw [List.drop_eq_nil_of_le (by simp [hlen, hcs])]; simp
  rw [hfin] at hst
  cases hq : P.info? e with
  | none => simp [hq] at hs
  | some i =>
    have hi : i.size = size := by simpa [hq] using hs
    have hm : Nat.min l.length l.length = l.length := Nat.min_self _
    rw [hlen] at hld
    simp [Builtin.copy_, run_underlying hu, Builtin.lenOf, Builtin.firstCells, Go.sizeOf, Go.typeInfo, hq, hi, hm, hld, hst]
end Pg
namespace Go.Proofs.Ytemfocnjlimicaa
open Go.RowKit Pg

structure BankAt (W0 w : World) (g gr : Nat) (l : List Slot) (n : Int) : Prop where
  own : Own W0 w 50 7 (.slice (some ⟨gr, 0, none⟩) l.length l.length) l.length (l.flatMap Slot.cells)
  blk : Blk w g 102 #[.slice (some ⟨gr, 0, none⟩) l.length l.length, .int .i64 n]
  low : W0.heap.size ≤ g
  ne : g ≠ gr
  pos : 0 < l.length
  le : l.length ≤ 256
end Go.Proofs.Ytemfocnjlimicaa
namespace Go.Proofs.Ytemfocnjlimicaa
open Go.RowKit Pg

set_option maxHeartbeats 1000000 in
set_option maxRecDepth 100000 in
theorem bnew_no (n : Int) (w : World) (h : ¬ (1 ≤ n ∧ n ≤ 256)) : Calls Try.prog 16 #[.int .i64 n] w (Ret (.tuple #[.pointer none, .int .i64 1]) w) := by
  by_cases h1 : n < 1
  · clear h
    go_enter Try.func16, Try.ntmps16
    go_wp2_with fail
    exact bodyPost_ret (v := .tuple #[.pointer none, .int .i64 1]) (by simp [results, Try.results16, go_sem]) rfl (Ret.mk (by simp (maxDischargeDepth := 99)))
  · have h2 : 256 < n := by omega
    clear h
    go_enter Try.func16, Try.ntmps16
    go_wp2_with fail
    exact bodyPost_ret (v := .tuple #[.pointer none, .int .i64 1]) (by simp [results, Try.results16, go_sem]) rfl (Ret.mk (by simp (maxDischargeDepth := 99)))
theorem run_make_slots (n : Nat) (h : n ≤ 1000) (W : World) : (Instr.makeSlice 58 (.int .i64 (n : Int)) (.int .i64 (n : Int))).run Try.prog W = .ok (.slice (some ⟨W.heap.size, 0, none⟩) n n) (W.alloc (.cells ((List.replicate n z0).flatMap Slot.cells).toArray 50)) := by
  obtain ⟨i, hi, hz, hs, hb⟩ := parts_of info_slot
  have := run_make (P := Try.prog) W 58 50 i _ Try.underlying58 hi hz .i64 .i64 (n : Int) (n : Int) (by omega) (by omega) (by rw [hb]; omega) (by omega)
  have hz0 : (Slot.cells z0).toArray = #[.bool false, .int .u64 0, .int .u64 0, .int .u64 0, .int .u64 0, .int .i64 0, .int .i64 0] := by kernel_rfl
  have hm := made_flat Slot.cells_len z0 n
  rw [hz0] at hm
  rw [this, Int.toNat_natCast, hs, ← hm]
  rfl
theorem own_flat {α : Type} {k : Nat} {enc : α → List Value} (hk : ∀ x, (enc x).length = k) (l : List α) (hn : l.length ≤ 1000) (W0 w : World) (hw : Kept W0 w) (e : TypeId) : Own W0 (w.alloc (.cells (l.flatMap enc).toArray e)) e k (.slice (some ⟨w.heap.size, 0, none⟩) l.length l.length) l.length (l.flatMap enc) := by
  refine ⟨Kept.alloc hw _, flat_len hk l, .inr ⟨w.heap.size, l.length, (l.flatMap enc).toArray, rfl, hw.size, heap_alloc_new _ _, Nat.le_refl _, by unfold maxLen; omega, by simp [flat_len hk], ?_⟩⟩
  exact List.take_of_length_le (Nat.le_of_eq (flat_len hk l))
def NewPost (n : Nat) (w : World) (e : Ending) (w2 : World) : Prop := ∃ g gr, e = .returned (.tuple #[.pointer (some ⟨g, 0, none⟩), .int .i64 0]) ∧ Kept w w2 ∧ BankAt w w2 g gr (List.replicate n z0) 0
set_option maxHeartbeats 1000000 in
set_option maxRecDepth 100000 in
theorem bnew_yes (n : Nat) (w : World) (h1 : 1 ≤ n) (h2 : n ≤ 256) : Calls Try.prog 16 #[.int .i64 (n : Int)] w (NewPost n w) := by
  have hmk := run_make_slots n (by omega)
  have g1 : ¬ ((n : Int) < 1) := by omega
  have g2 : ¬ (256 < (n : Int)) := by omega
  go_enter Try.func16, Try.ntmps16
  go_wp2_with fail
  refine bodyPost_ret (v := .tuple #[.pointer (some ⟨w.heap.size + 1, 0, none⟩), .int .i64 0]) (by simp [results, Try.results16, go_sem]) rfl ⟨w.heap.size + 1, w.heap.size, rfl, by simp, ?_⟩
  have ho := own_flat Slot.cells_len (List.replicate n z0) (by simp; omega) w w (Kept.refl w) 50
  simp only [List.length_replicate] at ho
  exact ⟨by simpa using ho.alloc _, by simpa using Blk.new' (w.alloc (.cells ((List.replicate n z0).flatMap Slot.cells).toArray 50)) 102 #[.slice (some ⟨w.heap.size, 0, none⟩) n n, .int .i64 0] (g := w.heap.size + 1) (by simp), by omega, by omega, by simp; omega, by simpa using h2⟩
end Go.Proofs.Ytemfocnjlimicaa
namespace Pg
open Go Go.RowKit
theorem Own.base {W0 W w : World} {e : TypeId} {k n : Nat} {v : Value} {xs : List Value} (h : Own W w e k v n xs) (hk : Kept W0 W) : Own W0 w e k v n xs := by
  refine ⟨hk.trans h.1, h.2.1, ?_⟩
  rcases h.2.2 with h2 | ⟨g, cap, cur, hv, hg, r⟩
  · exact .inl h2
  · exact .inr ⟨g, cap, cur, hv, Nat.le_trans hk.size hg, r⟩
theorem own_setRow {α : Type} {k : Nat} {enc : α → List Value} (hk : ∀ x, (enc x).length = k) (l : List α) (hn : l.length ≤ 1000) (W0 w : World) (hw : Kept W0 w) (e : TypeId) (cur : Array Value) (g : Nat) (hg : g = w.heap.size) :
    Own W0 ((w.alloc (.cells cur e)).setRow g (l.flatMap enc).toArray) e k (.slice (some ⟨g, 0, none⟩) l.length l.length) l.length (l.flatMap enc) := by
  subst hg
  refine ⟨Kept.setRow (Kept.alloc hw _) hw.size _, flat_len hk l, .inr ⟨w.heap.size, l.length, (l.flatMap enc).toArray, rfl, hw.size, setRow_heap _ _ cur _ e (0, 0) (heap_alloc_new _ _), Nat.le_refl _, by unfold maxLen; omega, by simp [flat_len hk], ?_⟩⟩
  exact List.take_of_length_le (Nat.le_of_eq (flat_len hk l))
end Pg
namespace Go.Proofs.Ytemfocnjlimicaa
open Go.RowKit Pg

def SlotsPost (l : List Slot) (w : World) (e : Ending) (w2 : World) : Prop := ∃ g, e = .returned (.slice (some ⟨g, 0, none⟩) l.length l.length) ∧ Own w w2 50 7 (.slice (some ⟨g, 0, none⟩) l.length l.length) l.length (l.flatMap Slot.cells)
set_option maxHeartbeats 1000000 in
set_option maxRecDepth 100000 in
theorem bslots_exact {W0 w : World} {g gr : Nat} {l : List Slot} {n : Int} (h : BankAt W0 w g gr l n) : Calls Try.prog 20 #[.pointer (some ⟨g, 0, none⟩)] w (SlotsPost l w) := by
  obtain ⟨c0, c1, hlt⟩ := Blk.two h.blk
  have hle := h.le
  have HE := Lib.hid (Own.els Slot.cells_len h.own)
  have hmk := run_make_slots l.length (by omega)
  have hcp := fun ty => run_copy_els (P := Try.prog) (w := w.alloc (.cells ((List.replicate l.length z0).flatMap Slot.cells).toArray 50)) 58 58 ty 50 7 Try.underlying58 (by kernel_rfl) (by omega) Slot.cells_len Slot.one w.heap.size ((List.replicate l.length z0).flatMap Slot.cells).toArray l.length l.length l ⟨gr, 0, none⟩ (Blk.new' _ _ _ rfl) (by simp [Slot.cells_len]) (HE.out.alloc _)
  simp only [goInt] at hcp
  clear h
  go_enter Try.func20, Try.ntmps20
  go_wp2_with fail
  go_ret
  exact ⟨_, rfl, own_setRow Slot.cells_len l (by omega) w w (Kept.refl w) _ _ _ rfl⟩
theorem bslots_any {W0 w : World} {g gr : Nat} {l : List Slot} {n : Int} (h : BankAt W0 w g gr l n) : Calls Try.prog 20 #[.pointer (some ⟨g, 0, none⟩)] w (RetEls 50 7 Slot.cells l w) :=
  (bslots_exact h).mono fun _ _ ⟨_, he, ho⟩ => ⟨_, he, ho⟩
set_option maxHeartbeats 1000000 in
set_option maxRecDepth 100000 in
theorem bwrites_any {W0 w : World} {g gr : Nat} {l : List Slot} {n : Int} (h : BankAt W0 w g gr l n) : Calls Try.prog 22 #[.pointer (some ⟨g, 0, none⟩)] w (Ret (.int .i64 n) w) := by
  obtain ⟨c0, c1, hlt⟩ := Blk.two h.blk
  clear h
  go_enter Try.func22, Try.ntmps22
  go_wp2_with fail
  go_ret
  exact Ret.of (rfl) (by simp (maxDischargeDepth := 99))
set_option maxHeartbeats 1000000 in
set_option maxRecDepth 100000 in
theorem bread_no {W0 w : World} {g gr : Nat} {l : List Slot} {n : Int} (h : BankAt W0 w g gr l n) (k : Int) (hk : k < 0 ∨ (l.length : Int) ≤ k) : Calls Try.prog 39 #[.pointer (some ⟨g, 0, none⟩), .int .i64 k] w (Ret (.tuple #[slv z0, .int .i64 5]) w) := by
  obtain ⟨c0, c1, hlt⟩ := Blk.two h.blk
  clear h
  have e0 : hi 0#128 = 0 := by kernel_rfl
  have e1 : lo 0#128 = 0 := by kernel_rfl
  by_cases h1 : k < 0
  · clear hk
    go_enter Try.func39, Try.ntmps39
    go_wp2_with fail
    exact bodyPost_ret (v := .tuple #[slv z0, .int .i64 5]) (by simp [results, Try.results39, go_sem, slv, z0, e0, e1]) rfl (Ret.mk (by simp (maxDischargeDepth := 99)))
  · have h2 : (l.length : Int) ≤ k := by omega
    clear hk
    go_enter Try.func39, Try.ntmps39
    go_wp2_with fail
    exact bodyPost_ret (v := .tuple #[slv z0, .int .i64 5]) (by simp [results, Try.results39, go_sem, slv, z0, e0, e1]) rfl (Ret.mk (by simp (maxDischargeDepth := 99)))
set_option maxHeartbeats 1000000 in
set_option maxRecDepth 100000 in
theorem bread_yes {W0 w : World} {g gr : Nat} {l : List Slot} {n : Int} (h : BankAt W0 w g gr l n) (k : Nat) (hk : k < l.length) : Calls Try.prog 39 #[.pointer (some ⟨g, 0, none⟩), .int .i64 (k : Int)] w (Ret (.tuple #[slv l[k], .int .i64 0]) w) := by
  obtain ⟨c0, c1, hlt⟩ := Blk.two h.blk
  have HE := Lib.hid (Own.els Slot.cells_len h.own)
  clear h
  obtain ⟨hb, hcell⟩ := (HE.out).at2 (k) hk
  obtain ⟨e, hee⟩ : ∃ e, (l)[k]'hk = e := ⟨_, rfl⟩
  rw [hee] at hcell
  have c0 : w.cell? ⟨gr, k * 7, none⟩ = some (.bool e.v) := by have h := hcell 0 (by omega); rw [Nat.zero_add] at h; exact h
  have c1 : w.cell? ⟨gr, k * 7 + 1, none⟩ = some (.int .u64 (hi e.e.x)) := by have h := hcell 1 (by omega); rw [Nat.zero_add] at h; exact h
  have c2 : w.cell? ⟨gr, k * 7 + 2, none⟩ = some (.int .u64 (lo e.e.x)) := by have h := hcell 2 (by omega); rw [Nat.zero_add] at h; exact h
  have c3 : w.cell? ⟨gr, k * 7 + 3, none⟩ = some (.int .u64 (hi e.e.m)) := by have h := hcell 3 (by omega); rw [Nat.zero_add] at h; exact h
  have c4 : w.cell? ⟨gr, k * 7 + 4, none⟩ = some (.int .u64 (lo e.e.m)) := by have h := hcell 4 (by omega); rw [Nat.zero_add] at h; exact h
  have c5 : w.cell? ⟨gr, k * 7 + 5, none⟩ = some (.int .i64 e.e.len) := by have h := hcell 5 (by omega); rw [Nat.zero_add] at h; exact h
  have c6 : w.cell? ⟨gr, k * 7 + 6, none⟩ = some (.int .i64 e.e.act) := by have h := hcell 6 (by omega); rw [Nat.zero_add] at h; exact h
  have Hee := Lib.hid hee
  clear hcell hee
  rw [Hee.out]
  clear Hee
  have k1 : ¬ (k : Int) < 0 := by omega
  have k2 : ¬ (l.length : Int) ≤ (k : Int) := by omega
  have k3 : (k : Int) < (l.length : Int) := by omega
  go_enter Try.func39, Try.ntmps39
  go_wp2_with fail
  exact bodyPost_ret (v := .tuple #[slv e, .int .i64 0]) (by simp [results, Try.results39, go_sem, slv]) rfl (Ret.mk (by simp (maxDischargeDepth := 99)))
set_option maxHeartbeats 1000000 in
set_option maxRecDepth 100000 in
theorem bsearch_any {W0 w : World} {g gr : Nat} {l : List Slot} {n : Int} (h : BankAt W0 w g gr l n) (a : B) : Calls Try.prog 37 #[.pointer (some ⟨g, 0, none⟩), av a] w (Ret (.tuple #[.int .i64 (max (idxI (matchS a) l) 0), .bool (decide (0 ≤ idxI (matchS a) l))]) w) := by
  obtain ⟨c0, c1, hlt⟩ := Blk.two h.blk
  have hle := h.le
  have HF := Lib.hid (fun (w' : World) (hk : Kept w w') => bfound_any a w' ((Own.els Slot.cells_len h.own).kept hk) (by omega))
  clear h
  obtain ⟨i, hi⟩ : ∃ i, idxI (matchS a) l = i := ⟨_, rfl⟩
  rw [hi] at HF ⊢
  clear hi
  go_enter Try.func37, Try.ntmps37
  go_wp2_with fail
  refine region_ext _ (by first | exact Later.ext _ _ | exact Later.refl _) mixed (by kernel_rfl) ?_
  repeat (go_big_quiet_step ((first | (go_at_call 43; exact calls_in (HF.out _ (by simp (maxDischargeDepth := 99)))))))
  refine wpQuiet_nil ?_
  rintro _ ⟨q, rfl⟩
  go_wp2_with fail
  exact bodyPost_ret (v := .tuple #[.int .i64 (max i 0), .bool (decide (0 ≤ i))]) (by simp [results, Try.results37, go_sem]) rfl (Ret.mk (by simp (maxDischargeDepth := 99)))
end Go.Proofs.Ytemfocnjlimicaa
