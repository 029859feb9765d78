/- Slots as lists: the reference's Entries, Free. Slots as lists: Same of equal rows. Writes as lists: the law's Writes. Slots behind writes: bank.Apply. Slots behind writes: the reference's Apply. -/
import Derived.Test.YtemfocnjlimicaaBank3
import Derived.Test.YtemfocnjlimicaaKit5
namespace Go.Proofs.Ytemfocnjlimicaa
open Go.RowKit Pg

set_option maxHeartbeats 1000000 in
set_option maxRecDepth 100000 in
theorem refentries_any {l : List Slot} {v : Value} (w : World) (hl : Els w v 7 Slot.cells l) (hn : l.length ≤ 1000) : Calls Try.prog 30 #[v] w (RetEls 82 6 Ent.cells (entsS l) w) := by
  obtain ⟨a, c, rfl, hc, he⟩ := hl.form
  have HE := Lib.hid he
  clear hl he
  go_enter Try.func30, Try.ntmps30
  go_wp2_with fail
  go_loopw [3, 4] (fun vo vk wr => ∃ k : Nat, k ≤ l.length ∧ vk = .int .i64 k ∧ Own w wr 82 6 vo (entsS (l.take k)).length ((entsS (l.take k)).flatMap Ent.cells)) (fun _ k _ => l.length - (intOf k).toNat)
  case atStart => exact ⟨0, by omega, rfl, Own.nil _ _ (Kept.refl _) _ _⟩
  case round =>
    obtain ⟨k, hk, rfl, hown⟩ := hrel
    by_cases hlt : k < l.length
    · obtain ⟨A, hA⟩ : ∃ A, A = entsS (l.take k) := ⟨_, rfl⟩
      rw [← hA] at hown
      have HO := Lib.hid hown
      have hkl : (k : Int) < (l.length : Int) := by omega
      have k0 : (0 : Int) ≤ k := by omega
      have hT := show l.take (k + 1) = l.take k ++ [l[k]] from List.take_succ_eq_append_getElem hlt
      obtain ⟨b, o, rfl, hb, hcell⟩ := (HE.out.kept hown.kept).at_ (k) hlt
      obtain ⟨e, hee⟩ : ∃ e, (l)[k]'hlt = e := ⟨_, rfl⟩
      rw [hee] at hcell
      have c0 : wr.cell? ⟨b, o + k * 7, none⟩ = some (.bool e.v) := hcell 0 (by omega)
      have c1 : wr.cell? ⟨b, o + k * 7 + 1, none⟩ = some (.int .u64 (hi e.e.x)) := hcell 1 (by omega)
      have c2 : wr.cell? ⟨b, o + k * 7 + 2, none⟩ = some (.int .u64 (lo e.e.x)) := hcell 2 (by omega)
      have c3 : wr.cell? ⟨b, o + k * 7 + 3, none⟩ = some (.int .u64 (hi e.e.m)) := hcell 3 (by omega)
      have c4 : wr.cell? ⟨b, o + k * 7 + 4, none⟩ = some (.int .u64 (lo e.e.m)) := hcell 4 (by omega)
      have c5 : wr.cell? ⟨b, o + k * 7 + 5, none⟩ = some (.int .i64 e.e.len) := hcell 5 (by omega)
      have c6 : wr.cell? ⟨b, o + k * 7 + 6, none⟩ = some (.int .i64 e.e.act) := hcell 6 (by omega)
      have Hee := Lib.hid hee
      clear hcell hee
      rw [Hee.out] at hT
      have hAl : A.length ≤ k := by rw [hA]; exact Nat.le_trans (entsS_len (l.take k)) (List.length_take_le k l)
      obtain ⟨v, e⟩ := e
      cases v
      · have HT := Lib.hid (show entsS (l.take (k + 1)) = A by rw [hT, hA]; exact entsS_no _ _ rfl)
        clear hown Hee hT hA
        go_wp2_with fail
        go_roundw
        case rel => exact ⟨k + 1, by omega, by go_num, by rw [HT.out]; exact HO.out⟩
        case measure => simp [intOf]; omega
      · have HT := Lib.hid (show entsS (l.take (k + 1)) = A ++ [e] by rw [hT, hA]; exact entsS_yes _ _ rfl)
        clear hown Hee hT hA
        go_wp2_with (first | (at_builtin; refine wpList_push rfl _ _ 69 rfl 82 (.agg #[.int .u64 0, .int .u64 0, .int .u64 0, .int .u64 0, .int .i64 0, .int .i64 0]) 6 48 Try.underlying69 info_refent rfl (by omega) u3 A.length _ rfl (HO.out.alloc _) _ 1 1 (Ent.cells e) rfl rfl (heap_alloc_new _ _) (by simp [Ent.cells, Value.oneCell']) (by unfold maxLen; omega) (by omega) ?_; intro v' w1 hown1))
        go_roundw
        case rel => exact ⟨k + 1, by omega, by go_num, by rw [HT.out, List.flatMap_append]; simpa using hown1⟩
        case measure => simp [intOf]; omega
    · have hkl : k = l.length := by omega
      subst hkl
      have HO := Lib.hid hown
      clear hown hlt hk
      go_wp2_with fail
      go_ret
      exact RetEls.mk (Kept.refl w) (by have := HO.out; rwa [List.take_length] at this)
end Go.Proofs.Ytemfocnjlimicaa
namespace Go.Proofs.Ytemfocnjlimicaa
open Go.RowKit Pg

set_option maxHeartbeats 1000000 in
set_option maxRecDepth 100000 in
theorem same_any {l : List Slot} {v u : Value} (w : World) (hl : Els w v 7 Slot.cells l) (hm : Els w u 7 Slot.cells l) (hn : l.length ≤ 1000) : Calls Try.prog 29 #[v, u] w (Ret (.bool true) w) := by
  obtain ⟨a, c, rfl, hc, he⟩ := hl.form
  obtain ⟨a2, c2, rfl, hc2, he2⟩ := hm.form
  have HE := Lib.hid he
  have HE2 := Lib.hid he2
  clear hl he hm he2
  go_enter Try.func29, Try.ntmps29
  go_wp2_with fail
  go_loopw [5, 13] (fun _ vk wr => ∃ k : Nat, k ≤ l.length ∧ vk = .int .i64 k ∧ Kept w wr) (fun _ k _ => l.length - (intOf k).toNat)
  case atStart => exact ⟨0, by omega, rfl, by simp (maxDischargeDepth := 99)⟩
  case round =>
    obtain ⟨k, hk, rfl, hkw⟩ := hrel
    have HX := Lib.hid hkw
    by_cases hlt : k < l.length
    · obtain ⟨bA, oA, rfl, hbA, hcellA⟩ := (HE.out.kept hkw).at_ (k) hlt
      obtain ⟨eA, heeA⟩ : ∃ e, (l)[k]'hlt = e := ⟨_, rfl⟩
      rw [heeA] at hcellA
      have cA0 : wr.cell? ⟨bA, oA + k * 7, none⟩ = some (.bool eA.v) := hcellA 0 (by omega)
      have cA1 : wr.cell? ⟨bA, oA + k * 7 + 1, none⟩ = some (.int .u64 (hi eA.e.x)) := hcellA 1 (by omega)
      have cA2 : wr.cell? ⟨bA, oA + k * 7 + 2, none⟩ = some (.int .u64 (lo eA.e.x)) := hcellA 2 (by omega)
      have cA3 : wr.cell? ⟨bA, oA + k * 7 + 3, none⟩ = some (.int .u64 (hi eA.e.m)) := hcellA 3 (by omega)
      have cA4 : wr.cell? ⟨bA, oA + k * 7 + 4, none⟩ = some (.int .u64 (lo eA.e.m)) := hcellA 4 (by omega)
      have cA5 : wr.cell? ⟨bA, oA + k * 7 + 5, none⟩ = some (.int .i64 eA.e.len) := hcellA 5 (by omega)
      have cA6 : wr.cell? ⟨bA, oA + k * 7 + 6, none⟩ = some (.int .i64 eA.e.act) := hcellA 6 (by omega)
      have HeeA := Lib.hid heeA
      clear hcellA heeA
      obtain ⟨bZ, oZ, rfl, hbZ, hcellZ⟩ := (HE2.out.kept hkw).at_ (k) hlt
      obtain ⟨eZ, heeZ⟩ : ∃ e, (l)[k]'hlt = e := ⟨_, rfl⟩
      rw [heeZ] at hcellZ
      have cZ0 : wr.cell? ⟨bZ, oZ + k * 7, none⟩ = some (.bool eZ.v) := hcellZ 0 (by omega)
      have cZ1 : wr.cell? ⟨bZ, oZ + k * 7 + 1, none⟩ = some (.int .u64 (hi eZ.e.x)) := hcellZ 1 (by omega)
      have cZ2 : wr.cell? ⟨bZ, oZ + k * 7 + 2, none⟩ = some (.int .u64 (lo eZ.e.x)) := hcellZ 2 (by omega)
      have cZ3 : wr.cell? ⟨bZ, oZ + k * 7 + 3, none⟩ = some (.int .u64 (hi eZ.e.m)) := hcellZ 3 (by omega)
      have cZ4 : wr.cell? ⟨bZ, oZ + k * 7 + 4, none⟩ = some (.int .u64 (lo eZ.e.m)) := hcellZ 4 (by omega)
      have cZ5 : wr.cell? ⟨bZ, oZ + k * 7 + 5, none⟩ = some (.int .i64 eZ.e.len) := hcellZ 5 (by omega)
      have cZ6 : wr.cell? ⟨bZ, oZ + k * 7 + 6, none⟩ = some (.int .i64 eZ.e.act) := hcellZ 6 (by omega)
      have HeeZ := Lib.hid heeZ
      clear hcellZ heeZ
      obtain rfl : eA = eZ := by rw [← HeeA.out, ← HeeZ.out]
      have hkl : (k : Int) < (l.length : Int) := by omega
      have k0 : (0 : Int) ≤ k := by omega
      clear hkw HeeA HeeZ
      go_wp2_with fail
      refine region_ext _ (Later.refl _) mixed (by kernel_rfl) ?_
      repeat (go_big_quiet_step ((first | (go_at_call 47; exact calls_in (law08one_any _ _)))))
      refine wpQuiet_nil ?_
      rintro _ ⟨q, rfl⟩
      go_wp2_with fail
      go_roundw
      case rel => exact ⟨k + 1, by omega, by go_num, HX.out.ext _⟩
      case measure => simp [intOf]; omega
    · have hkl : k = l.length := by omega
      subst hkl
      clear hkw hlt
      go_wp2_with fail
      go_ret
      exact Ret.of (rfl) (by simp (maxDischargeDepth := 99) [HX.out])
end Go.Proofs.Ytemfocnjlimicaa
namespace Go.Proofs.Ytemfocnjlimicaa
open Go.RowKit Pg

set_option maxHeartbeats 1000000 in
set_option maxRecDepth 100000 in
theorem law08writes_any {l : List Wr} {v : Value} (w : World) (hl : Els w v 8 Wr.cells l) (hn : l.length ≤ 1000) : Calls Try.prog 32 #[v] w (RetEls 86 8 Wr.cells l w) := by
  obtain ⟨a, c, rfl, hc, he⟩ := hl.form
  have HE := Lib.hid he
  clear hl he
  go_enter Try.func32, Try.ntmps32
  go_wp2_with fail
  go_loopw [3, 5, 8] (fun vo _ vk wr => ∃ k : Nat, k ≤ l.length ∧ vk = .int .i64 k ∧ Own w wr 86 8 vo k ((l.take k).flatMap Wr.cells)) (fun _ _ k _ => l.length - (intOf k).toNat)
  case atStart => exact ⟨0, by omega, rfl, Own.nil _ _ (Kept.refl _) _ _⟩
  case round =>
    obtain ⟨k, hk, rfl, hown⟩ := hrel
    by_cases hlt : k < l.length
    · have HO := Lib.hid hown
      have hkl : (k : Int) < (l.length : Int) := by omega
      have HT := Lib.hid (show l.take (k + 1) = l.take k ++ [l[k]] from List.take_succ_eq_append_getElem hlt)
      obtain ⟨b, o, rfl, hb, hcell⟩ := (HE.out.kept hown.kept).at_ (k) hlt
      obtain ⟨e, hee⟩ : ∃ e, (l)[k]'hlt = e := ⟨_, rfl⟩
      rw [hee] at hcell
      have c0 : wr.cell? ⟨b, o + k * 8, none⟩ = some (.int .i64 e.at_) := hcell 0 (by omega)
      have c1 : wr.cell? ⟨b, o + k * 8 + 1, none⟩ = some (.bool e.s.v) := hcell 1 (by omega)
      have c2 : wr.cell? ⟨b, o + k * 8 + 2, none⟩ = some (.int .u64 (hi e.s.e.x)) := hcell 2 (by omega)
      have c3 : wr.cell? ⟨b, o + k * 8 + 3, none⟩ = some (.int .u64 (lo e.s.e.x)) := hcell 3 (by omega)
      have c4 : wr.cell? ⟨b, o + k * 8 + 4, none⟩ = some (.int .u64 (hi e.s.e.m)) := hcell 4 (by omega)
      have c5 : wr.cell? ⟨b, o + k * 8 + 5, none⟩ = some (.int .u64 (lo e.s.e.m)) := hcell 5 (by omega)
      have c6 : wr.cell? ⟨b, o + k * 8 + 6, none⟩ = some (.int .i64 e.s.e.len) := hcell 6 (by omega)
      have c7 : wr.cell? ⟨b, o + k * 8 + 7, none⟩ = some (.int .i64 e.s.e.act) := hcell 7 (by omega)
      have Hee := Lib.hid hee
      clear hcell hee
      rw [Hee.out] at HT
      clear hown Hee
      obtain ⟨g, hg⟩ : ∃ g, g = wr.heap.size := ⟨_, rfl⟩
      have HB := Lib.hid (Blk.new' wr 52 #[.int .i64 e.at_, .bool e.s.v, .int .u64 (hi e.s.e.x), .int .u64 (lo e.s.e.x), .int .u64 (hi e.s.e.m), .int .u64 (lo e.s.e.m), .int .i64 e.s.e.len, .int .i64 e.s.e.act] hg)
      have HG := Lib.hid hg
      clear hg
      go_wp2_with fail
      rw [← HG.out]
      have hI0 : HasBlk w g 52 #[.int .i64 e.at_, .bool e.s.v, .int .u64 (hi e.s.e.x), .int .u64 (lo e.s.e.x), .int .u64 (hi e.s.e.m), .int .u64 (lo e.s.e.m), .int .i64 e.s.e.len, .int .i64 e.s.e.act] (wr.alloc (.cells #[.int .i64 e.at_, .bool e.s.v, .int .u64 (hi e.s.e.x), .int .u64 (lo e.s.e.x), .int .u64 (hi e.s.e.m), .int .u64 (lo e.s.e.m), .int .i64 e.s.e.len, .int .i64 e.s.e.act] 52)) := ⟨(HO.out.alloc _).1, HB.out⟩
      have hIc := HasBlk.cell (W := w) (g := g) (t := 52) (cs := #[.int .i64 e.at_, .bool e.s.v, .int .u64 (hi e.s.e.x), .int .u64 (lo e.s.e.x), .int .u64 (hi e.s.e.m), .int .u64 (lo e.s.e.m), .int .i64 e.s.e.len, .int .i64 e.s.e.act])
      have hne : Nonempty (In (HasBlk w g 52 #[.int .i64 e.at_, .bool e.s.v, .int .u64 (hi e.s.e.x), .int .u64 (lo e.s.e.x), .int .u64 (hi e.s.e.m), .int .u64 (lo e.s.e.m), .int .i64 e.s.e.len, .int .i64 e.s.e.act])) := ⟨⟨_, hI0⟩⟩
      refine region_seq_in _ (hI0.step (Kept.drawn1 (Kept.refl _))) mixed (by kernel_rfl) (by kernel_rfl) ?_
      intro W1 hW1
      have H1 := Lib.hid (show Own w W1 86 8 u3 k ((l.take k).flatMap Wr.cells) by rw [hW1]; exact (HO.out.alloc _).drawn1)
      have HI := Lib.hid (hI0.step (Kept.drawn1 (Kept.refl _)))
      rw [← hW1] at HI
      clear hW1 hI0
      repeat (refine seq_plain (by rfl) ?_; go_big_quiet_step (fail); refine wpQuiet_nil ?_)
      refine seq_move (by rfl) (by rfl) ?_
      go_wp2_with (first | (go_at_call 47; first | ((refine (calls_in (law08one_any _ _)).mono ?_); rintro e w1 ⟨rfl, q1, rfl⟩) | ((refine (law08one_any _ _).mono ?_); rintro e w1 ⟨rfl, q1, rfl⟩)))
      refine ⟨_, rfl, ⟨⟨_, HI.out.step (below_ext _ _)⟩, rfl⟩, ?_⟩
      repeat (refine seq_plain (by rfl) ?_; go_big_quiet_step (fail); refine wpQuiet_nil ?_)
      refine seq_move (by rfl) (by rfl) ?_
      go_wp2_with fail
      refine ⟨_, rfl, ⟨⟨_, HI.out.step (Kept.alloc (below_ext _ _) _)⟩, rfl⟩, ?_⟩
      repeat (refine seq_plain (by rfl) ?_; go_big_quiet_step (fail); refine wpQuiet_nil ?_)
      refine seq_move (by rfl) (by rfl) ?_
      go_wp2_with (first | (at_builtin; refine wpList_push2 rfl _ _ 75 rfl 86 (.agg #[.int .i64 0, .bool false, .int .u64 0, .int .u64 0, .int .u64 0, .int .u64 0, .int .i64 0, .int .i64 0]) 8 64 Try.underlying75 info_refwr rfl (by omega) u3 k _ rfl ((H1.out.ext _).alloc _) _ 1 1 (Wr.cells e) rfl rfl (heap_alloc_new _ _) (by simp [Wr.cells, Value.oneCell']) (by unfold maxLen; omega) (by omega) ?_; intro v' w9 hown9 hgr9 hap9))
      have hI9 := Lib.hid (show HasBlk w g 52 #[.int .i64 e.at_, .bool e.s.v, .int .u64 (hi e.s.e.x), .int .u64 (lo e.s.e.x), .int .u64 (hi e.s.e.m), .int .u64 (lo e.s.e.m), .int .i64 e.s.e.len, .int .i64 e.s.e.act] w9 from ⟨hown9.1, (HI.out.step (Kept.alloc (below_ext _ _) _)).blk.grown hgr9 fun h => by
        have := (HO.out.2.lt g h).2
        rw [HG.out] at this; omega⟩)
      clear hgr9 hap9
      refine ⟨_, rfl, ⟨⟨_, hI9.out⟩, rfl⟩, ?_⟩
      repeat (refine seq_plain (by rfl) ?_; go_big_quiet_step (fail); refine wpQuiet_nil ?_)
      refine seq_nil ?_
      go_wp2_with fail
      go_roundw
      case rel => exact ⟨k + 1, by omega, by go_num, by rw [HT.out, List.flatMap_append]; simpa using hown9⟩
      case measure => simp [intOf]; omega
    · have hkl : k = l.length := by omega
      subst hkl
      have HO := Lib.hid hown
      clear hown hlt hk
      go_wp2_with fail
      go_ret
      exact RetEls.mk (Kept.refl w) (by have := HO.out; rwa [List.take_length] at this)
end Go.Proofs.Ytemfocnjlimicaa
namespace Pg
open Go
/-- Slots behind one write. -/
def putW (l : List Slot) (x : Wr) : List Slot := if mayW x l.length then l.set x.at_.toNat x.s else l
def applyS (l : List Slot) (ws : List Wr) : List Slot := ws.foldl putW l
theorem putW_len (l : List Slot) (x : Wr) : (putW l x).length = l.length := by unfold putW; split <;> simp
theorem applyS_len (ws : List Wr) : ∀ l : List Slot, (applyS l ws).length = l.length := by
  induction ws with
  | nil => intro l; rfl
  | cons x ws ih => intro l; show (applyS (putW l x) ws).length = _; rw [ih, putW_len]
theorem applyS_snoc (l : List Slot) (ws : List Wr) (x : Wr) : applyS l (ws ++ [x]) = putW (applyS l ws) x := by unfold applyS; rw [List.foldl_append]; rfl
theorem mayW_at {x : Wr} {n : Int} (h : mayW x n = true) : 0 ≤ x.at_ ∧ x.at_ < n := by
  unfold mayW at h
  simp only [Bool.and_eq_true, decide_eq_true_eq] at h
  exact ⟨h.1, h.2.1⟩
end Pg
namespace Go.Proofs.Ytemfocnjlimicaa
open Go.RowKit Pg

end Go.Proofs.Ytemfocnjlimicaa
namespace Pg
open Go Go.RowKit Go.Sort
/-- 'append(s, l...)', l nothing. -/
theorem wpList_push_none {P : Program} {ops : Array Oper} {rest : List Oper} {o : Oper} {a : Act} {Q : Exit → Act → World → Prop} {w : World} (hgd : o.guard = none) (s x : Operand) (t : TypeId)
    (ho : o.op = .call { callee := .builtin .append, args := #[s, x], argTypes := #[t, t] }) (e : TypeId) (ht : P.underlying t = some (.slice e)) (i : TypeInfo) (hi : P.info? e = some i)
    (b : Option Addr) (n c c' : Nat) (hs : a.eval s = .slice b n c) (hnc : n ≤ c) (hx : a.eval x = .slice none 0 c')
    (h : wpList P ops Q rest (a.put o.dst (.slice b n c)) w) :
    wpList P ops Q (o :: rest) a w := by
  refine wpList_plain hgd fun K hK => ?_
  have hr : (Builtin.append_ #[t, t] o.type #[.slice b n c, .slice none 0 c']).run P w = .ok (.slice b n c) w := by
    cases b <;> simp [Builtin.append_, run_underlying ht, Go.sizeOf, Go.typeInfo, hi, Builtin.lenOf, Builtin.firstCells, hnc, storeCells]
  unfold Oper.wp
  simp [execOp, ho, resolve, invoke, builtin, hs, hx, hr, Result.andThen]
  exact hK _ _ h
end Pg
namespace Go.Proofs.Ytemfocnjlimicaa
open Go.RowKit Pg

set_option maxHeartbeats 1000000 in
set_option maxRecDepth 100000 in
theorem refapply_any {l : List Slot} {ws : List Wr} {v u : Value} (w : World) (hl : Els w v 7 Slot.cells l) (hn : l.length ≤ 1000) (hw : Els w u 8 Wr.cells ws) (hm : ws.length ≤ 1000) :
    Calls Try.prog 34 #[v, u] w (RetEls 84 7 Slot.cells (applyS l ws) w) := by
  obtain ⟨a, c, rfl, hc, he⟩ := hl.form
  obtain ⟨a2, c2, rfl, hc2, he2⟩ := hw.form
  have HW := Lib.hid he2
  have HE := Lib.hid he
  clear hl he hw he2
  have HO := Lib.hid (show Own w (w.alloc (.cells #[] 84)) 84 7 (.slice (some ⟨w.heap.size, 0, none⟩) 0 0) 0 [] from
      ⟨Kept.alloc (Kept.refl w) _, by simp, .inr ⟨w.heap.size, 0, #[], rfl, Nat.le_refl _, heap_alloc_new _ _, Nat.le_refl _, by unfold maxLen; omega, by simp, by simp⟩⟩)
  go_enter Try.func34, Try.ntmps34
  cases a with
  | none =>
    have h0 : l = [] := by
      obtain ⟨a', c', e, _, h⟩ := HE.out
      by_cases hl : 0 < l.length
      · obtain ⟨b, o, ha, _⟩ := h hl
        injection e with e1
        rw [← e1] at ha; cases ha
      · exact List.eq_nil_of_length_eq_zero (by omega)
    subst h0
    simp only [List.length_nil]
    obtain ⟨ii, hii, _⟩ := parts_of info_refslot
    have HII := Lib.hid hii
    go_wp2_with (first | (at_builtin; refine wpList_push_none rfl _ _ 36 rfl 84 Try.underlying36 ii HII.out (some ⟨w.heap.size, 0, none⟩) 0 0 c rfl (Nat.le_refl _) rfl ?_))
    clear HO
    go_wp2_with fail
    go_loopw [6] (fun vk wr => ∃ k : Nat, k ≤ ws.length ∧ vk = .int .i64 k ∧ Kept (w.alloc (.cells #[] 84)) wr) (fun k _ => ws.length - (intOf k).toNat)
    case atStart => exact ⟨0, by omega, rfl, Kept.refl _⟩
    case round =>
      obtain ⟨k, hk, rfl, hkw⟩ := hrel
      have HX := Lib.hid hkw
      by_cases hlt : k < ws.length
      · have hkl : (k : Int) < (ws.length : Int) := by omega
        have k0 : (0 : Int) ≤ k := by omega
        obtain ⟨b, o, rfl, hb, hcell⟩ := (HW.out.kept ((Kept.alloc (Kept.refl w) _).trans hkw)).at_ (k) hlt
        obtain ⟨e, hee⟩ : ∃ e, (ws)[k]'hlt = e := ⟨_, rfl⟩
        rw [hee] at hcell
        have c0 : wr.cell? ⟨b, o + k * 8, none⟩ = some (.int .i64 e.at_) := hcell 0 (by omega)
        have c1 : wr.cell? ⟨b, o + k * 8 + 1, none⟩ = some (.bool e.s.v) := hcell 1 (by omega)
        have c2 : wr.cell? ⟨b, o + k * 8 + 2, none⟩ = some (.int .u64 (hi e.s.e.x)) := hcell 2 (by omega)
        have c3 : wr.cell? ⟨b, o + k * 8 + 3, none⟩ = some (.int .u64 (lo e.s.e.x)) := hcell 3 (by omega)
        have c4 : wr.cell? ⟨b, o + k * 8 + 4, none⟩ = some (.int .u64 (hi e.s.e.m)) := hcell 4 (by omega)
        have c5 : wr.cell? ⟨b, o + k * 8 + 5, none⟩ = some (.int .u64 (lo e.s.e.m)) := hcell 5 (by omega)
        have c6 : wr.cell? ⟨b, o + k * 8 + 6, none⟩ = some (.int .i64 e.s.e.len) := hcell 6 (by omega)
        have c7 : wr.cell? ⟨b, o + k * 8 + 7, none⟩ = some (.int .i64 e.s.e.act) := hcell 7 (by omega)
        have Hee := Lib.hid hee
        clear hcell hee
        have HM := Lib.hid (refmay_as (wr := e) (n := 0) (b := false) (by
          cases h : mayW e 0
          · rfl
          · have := mayW_at h; omega))
        clear hkw Hee
        go_wp2_with (first | (go_at_call 33; first | ((refine (calls_in (HM.out _)).mono ?_); rintro e w1 ⟨rfl, q1, rfl⟩) | ((refine (HM.out _).mono ?_); rintro e w1 ⟨rfl, q1, rfl⟩)))
        go_roundw
        case rel => exact ⟨k + 1, by omega, by go_num, HX.out.ext _⟩
        case measure => simp [intOf]; omega
      · have hkl : k = ws.length := by omega
        subst hkl
        clear hkw hlt
        go_wp2_with fail
        go_ret
        exact RetEls.mk (Kept.refl w) (by
          rw [show applyS [] ws = [] from List.eq_nil_of_length_eq_zero (by rw [applyS_len]; rfl)]
          refine Own.step ?_ HX.out
          exact ⟨Kept.alloc (Kept.refl w) _, by simp, .inr ⟨w.heap.size, 0, #[], rfl, Nat.le_refl _, heap_alloc_new _ _, Nat.le_refl _, by unfold maxLen; omega, by simp, by simp⟩⟩)
  | some ad =>
    go_wp2_with (first | (at_builtin; refine wpList_push_all rfl _ _ 36 rfl 84 (.agg #[.bool false, .int .u64 0, .int .u64 0, .int .u64 0, .int .u64 0, .int .i64 0, .int .i64 0]) 7 56 Try.underlying36 info_refslot rfl (by omega) Slot.cells_len Slot.one _ 0 [] rfl HO.out ad c l rfl (HE.out.alloc _) (by unfold maxLen; omega) (by omega) ?_; intro v' w1 hown1))
    have hown2 : Own w w1 84 7 v' l.length (l.flatMap Slot.cells) := by simpa using hown1
    obtain ⟨a1, cc, rfl, hlc1, _⟩ := (Own.els Slot.cells_len hown2).form
    have HO1 := Lib.hid hown2
    clear hown1 hown2 HO
    go_wp2_with fail
    go_loopw [6] (fun vk wr => ∃ k : Nat, k ≤ ws.length ∧ vk = .int .i64 k ∧ Own w wr 84 7 (.slice a1 l.length cc) l.length ((applyS l (ws.take k)).flatMap Slot.cells)) (fun k _ => ws.length - (intOf k).toNat)
    case atStart => exact ⟨0, by omega, rfl, HO1.out⟩
    case round =>
      clear HO1
      obtain ⟨k, hk, rfl, hown⟩ := hrel
      by_cases hlt : k < ws.length
      · have HO := Lib.hid hown
        have hkl : (k : Int) < (ws.length : Int) := by omega
        have k0 : (0 : Int) ≤ k := by omega
        obtain ⟨b, o, rfl, hb, hcell⟩ := (HW.out.kept hown.kept).at_ (k) hlt
        obtain ⟨e, hee⟩ : ∃ e, (ws)[k]'hlt = e := ⟨_, rfl⟩
        rw [hee] at hcell
        have c0 : wr.cell? ⟨b, o + k * 8, none⟩ = some (.int .i64 e.at_) := hcell 0 (by omega)
        have c1 : wr.cell? ⟨b, o + k * 8 + 1, none⟩ = some (.bool e.s.v) := hcell 1 (by omega)
        have c2 : wr.cell? ⟨b, o + k * 8 + 2, none⟩ = some (.int .u64 (hi e.s.e.x)) := hcell 2 (by omega)
        have c3 : wr.cell? ⟨b, o + k * 8 + 3, none⟩ = some (.int .u64 (lo e.s.e.x)) := hcell 3 (by omega)
        have c4 : wr.cell? ⟨b, o + k * 8 + 4, none⟩ = some (.int .u64 (hi e.s.e.m)) := hcell 4 (by omega)
        have c5 : wr.cell? ⟨b, o + k * 8 + 5, none⟩ = some (.int .u64 (lo e.s.e.m)) := hcell 5 (by omega)
        have c6 : wr.cell? ⟨b, o + k * 8 + 6, none⟩ = some (.int .i64 e.s.e.len) := hcell 6 (by omega)
        have c7 : wr.cell? ⟨b, o + k * 8 + 7, none⟩ = some (.int .i64 e.s.e.act) := hcell 7 (by omega)
        have Hee := Lib.hid hee
        clear hcell hee
        have hT : applyS l (ws.take (k + 1)) = putW (applyS l (ws.take k)) e := by rw [List.take_succ_eq_append_getElem hlt, applyS_snoc, Hee.out]
        have hL := applyS_len (ws.take k) l
        obtain ⟨L, hLe⟩ : ∃ L, L = applyS l (ws.take k) := ⟨_, rfl⟩
        rw [← hLe] at hT hL HO
        cases hmay : mayW e l.length
        · have HT := Lib.hid (show applyS l (ws.take (k + 1)) = L by rw [hT]; unfold putW; rw [hL, hmay]; rfl)
          have HM := Lib.hid (refmay_as hmay)
          clear hown Hee hT hLe hmay
          go_wp2_with (first | (go_at_call 33; first | ((refine (calls_in (HM.out _)).mono ?_); rintro e w1 ⟨rfl, q1, rfl⟩) | ((refine (HM.out _).mono ?_); rintro e w1 ⟨rfl, q1, rfl⟩)))
          go_roundw
          case rel => exact ⟨k + 1, by omega, by go_num, by rw [HT.out]; exact HO.out.ext _⟩
          case measure => simp [intOf]; omega
        · have HT := Lib.hid (show applyS l (ws.take (k + 1)) = L.set e.at_.toNat e.s by rw [hT]; unfold putW; rw [hL, hmay]; rfl)
          obtain ⟨h0, h1⟩ := mayW_at hmay
          have HM := Lib.hid (refmay_as hmay)
          obtain ⟨b5, c5', hv5, hb0, hblt, hnc, hcl, hfz⟩ := hown.form (by omega)
          injection hv5 with e1 e2 e3
          subst e1 e3
          obtain ⟨at_, e⟩ := e
          dsimp only at h0 h1 HT c0 c1 c2 c3 c4 c5 c6 c7
          obtain ⟨j, rfl⟩ := Int.eq_ofNat_of_zero_le h0
          have hjl : j < L.length := by omega
          have hfz := fun k => HO.out.2.frozenAt k
          have hown2 : Own w wr 84 7 (.slice (some ⟨b5, 0, none⟩) L.length cc) L.length (L.flatMap Slot.cells) := by rw [hL]; exact HO.out
          have HE5 := Lib.hid (Own.els Slot.cells_len hown2)
          obtain ⟨hbz, hcellz⟩ := (HE5.out).at2 (j) hjl
          obtain ⟨ez, heez⟩ : ∃ e, (L)[j]'hjl = e := ⟨_, rfl⟩
          rw [heez] at hcellz
          have cz0 : wr.cell? ⟨b5, j * 7, none⟩ = some (.bool ez.v) := by have h := hcellz 0 (by omega); rw [Nat.zero_add] at h; exact h
          have cz1 : wr.cell? ⟨b5, j * 7 + 1, none⟩ = some (.int .u64 (hi ez.e.x)) := by have h := hcellz 1 (by omega); rw [Nat.zero_add] at h; exact h
          have cz2 : wr.cell? ⟨b5, j * 7 + 2, none⟩ = some (.int .u64 (lo ez.e.x)) := by have h := hcellz 2 (by omega); rw [Nat.zero_add] at h; exact h
          have cz3 : wr.cell? ⟨b5, j * 7 + 3, none⟩ = some (.int .u64 (hi ez.e.m)) := by have h := hcellz 3 (by omega); rw [Nat.zero_add] at h; exact h
          have cz4 : wr.cell? ⟨b5, j * 7 + 4, none⟩ = some (.int .u64 (lo ez.e.m)) := by have h := hcellz 4 (by omega); rw [Nat.zero_add] at h; exact h
          have cz5 : wr.cell? ⟨b5, j * 7 + 5, none⟩ = some (.int .i64 ez.e.len) := by have h := hcellz 5 (by omega); rw [Nat.zero_add] at h; exact h
          have cz6 : wr.cell? ⟨b5, j * 7 + 6, none⟩ = some (.int .i64 ez.e.act) := by have h := hcellz 6 (by omega); rw [Nat.zero_add] at h; exact h
          have Heez := Lib.hid heez
          clear hcellz heez
          clear hown hown2 Hee Heez hT hLe hmay hcl
          go_wp2_with (first | (go_at_call 33; first | ((refine (calls_in (HM.out _)).mono ?_); rintro e w1 ⟨rfl, q1, rfl⟩) | ((refine (HM.out _).mono ?_); rintro e w1 ⟨rfl, q1, rfl⟩)))
          refine region_ext_tail _ (by first | exact Later.ext _ _ | exact Later.refl _) 12 mixed (by kernel_rfl) ?_
          simp only [List.take_succ_cons, List.take_zero, List.drop_succ_cons, List.drop_zero]
          repeat (go_big_quiet_step (fail))
          refine wpQuiet_nil ?_
          rintro _ ⟨q, rfl⟩
          go_wp2_with fail
          go_roundw
          case rel =>
            refine ⟨k + 1, by omega, by go_num, ?_⟩
            have ho := (HO.out.ext q)
            rw [HT.out, Int.toNat_natCast, ← setAll_flat Slot.cells_len L j hjl e]
            exact (Own.stored (Own.stored (Own.stored (Own.stored (Own.stored (Own.stored (Own.stored ho hb0 (j * 7 + 0) _) hb0 (j * 7 + 1) _) hb0 (j * 7 + 2) _) hb0 (j * 7 + 3) _) hb0 (j * 7 + 4) _) hb0 (j * 7 + 5) _) hb0 (j * 7 + 6) _)
          case measure => simp [intOf]; omega
      · have hkl : k = ws.length := by omega
        subst hkl
        rw [List.take_length] at hown
        have HO := Lib.hid hown
        clear hown hlt hk
        go_wp2_with fail
        go_ret
        exact RetEls.mk (Kept.refl w) (by rw [applyS_len]; exact HO.out)
end Go.Proofs.Ytemfocnjlimicaa
