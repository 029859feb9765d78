/- The law's run: a board, and the document's slots, behind moves: how its loop stands. -/
import Derived.Test.YtemfocnjlimicaaAwake17
import Derived.Test.YtemfocnjlimicaaSlRow
namespace Pg
open Go
theorem sumB_set (f : Bk → Int) : ∀ (bs : List Bk) (i : Nat) (h : i < bs.length) (x : Bk), sumB f (bs.set i x) = sumB f bs - f bs[i] + f x
  | b :: bs, 0, _, x => by simp [sumB]; omega
  | b :: bs, i + 1, h, x => by
    have := sumB_set f bs i (by simpa using h) x
    simp only [List.set_cons_succ, sumB, List.getElem_cons_succ, this]
    omega
theorem sumB_zero : ∀ (bs : List Bk), (∀ b ∈ bs, b.c = 0) → sumB Bk.c bs = 0
  | [], _ => rfl
  | b :: bs, h => by
    have h1 := h b (List.mem_cons_self ..)
    have h2 := sumB_zero bs fun x hx => h x (List.mem_cons_of_mem _ hx)
    simp only [sumB, h1, h2]; rfl
end Pg
namespace Go.Proofs.Ytemfocnjlimicaa
open Go.RowKit Pg

structure RunAt (W0 w : World) (k n s gb gp cap gw capw M : Nat) (bs : List Bk) (rs : List Value) (j : Nat) : Prop where
  board : BoardAt W0 w gb gp (k : Int) n cap bs
  rows : RowsAt W0 w 36 s (.slice (some ⟨gw, 0, none⟩) M capw) rs (bs.map Bk.l)
  under : Under s gb gp bs
  len : bs.length = M
  cnt : ∀ b ∈ bs, 0 ≤ b.c ∧ b.c ≤ j
section
variable {W0 w w2 w3 : World} {k n s gb gp cap gw capw M : Nat} {bs : List Bk} {rs : List Value} {j : Nat}
theorem RunAt.rlen (h : RunAt W0 w k n s gb gp cap gw capw M bs rs j) : rs.length = M := by have := h.rows.len; rw [List.length_map, h.len] at this; exact this
theorem RunAt.kept (h : RunAt W0 w k n s gb gp cap gw capw M bs rs j) (hk : Kept w w2) : RunAt W0 w2 k n s gb gp cap gw capw M bs rs j := ⟨h.board.kept hk, h.rows.kept hk, h.under, h.len, h.cnt⟩
theorem RunAt.sle (h : RunAt W0 w k n s gb gp cap gw capw M bs rs j) : s ≤ gw ∧ gw < w.heap.size ∧ W0.heap.size ≤ gw := ⟨h.rows.low gw rfl, (h.rows.own.2.lt gw rfl).2, (h.rows.own.2.lt gw rfl).1⟩
/-- What stands behind a write that is not done, or is done: all at s and above. -/
def Above (s : Nat) (w w2 : World) : Prop := ∀ b t cs, s ≤ b → Blk w b t cs → Blk w2 b t cs
theorem run_same (h : RunAt W0 w k n s gb gp cap gw capw M bs rs j) (hM : M ≤ 8) (hj : j ≤ 500) (m : Mv) (E : Int) (hm : ((m.bank < 0 ∨ (M : Int) ≤ m.bank) ∧ E = 5) ∨ (∃ i : Nat, m.bank = i ∧ i < M ∧ mayW m.w n = false ∧ doE m.w n = E)) :
    Calls Try.prog 17 #[.pointer (some ⟨gb, 0, none⟩), mvv m] w (fun e w2 => e = .returned (.int .i64 E) ∧ RunAt W0 w2 k n s gb gp cap gw capw M bs rs j ∧ Above s w w2) := by
  have hl := h.len
  rcases hm with ⟨hm, rfl⟩ | ⟨i, hi9, hiM, hmay, rfl⟩
  · refine (bodo_no h.board (by omega) m (by rw [hl]; exact hm)).mono fun e w2 ⟨he, p, hp⟩ => ?_
    have hk : Kept w w2 := by rw [hp]; exact below_ext _ _
    exact ⟨he, h.kept hk, fun b t cs _ hb => hb.kept hk⟩
  · obtain ⟨bank, x⟩ := m
    dsimp only at hi9 hmay ⊢
    subst hi9
    have hil : i < bs.length := by omega
    have hc := h.cnt bs[i] (List.getElem_mem hil)
    refine (bodo_yes h.board (by omega) i hil hc.1 (by omega) x).mono fun e w2 ⟨he, hcg, hb⟩ => ?_
    have e1 : putW bs[i].l x = bs[i].l := by unfold putW; rw [h.board.size _ (List.getElem_mem hil), hmay]; rfl
    rw [e1, if_neg (by rw [hmay]; simp), show (⟨bs[i].g, bs[i].gr, bs[i].l, bs[i].c⟩ : Bk) = bs[i] from rfl, List.set_getElem_self] at hb
    obtain ⟨u1, u2⟩ := h.under.all bs[i] (List.getElem_mem hil)
    exact ⟨he, ⟨hb, h.rows.chg hcg hb.banks.kept u1 u2, h.under, h.len, h.cnt⟩, fun b t cs hbs hbl => hcg.blk hbl (by omega) (by omega)⟩
theorem RunAt.le (h : RunAt W0 w k n s gb gp cap gw capw M bs rs j) (j' : Nat) (hj : j ≤ j') : RunAt W0 w k n s gb gp cap gw capw M bs rs j' := ⟨h.board, h.rows, h.under, h.len, fun b hb => by have := h.cnt b hb; omega⟩
/-- A write that is done. -/
theorem run_put (h : RunAt W0 w k n s gb gp cap gw capw M bs rs j) (hM : M ≤ 8) (hj : j ≤ 500) (i : Nat) (hil : i < bs.length) (x : Wr) (hm : mayW x n = true) :
    Calls Try.prog 17 #[.pointer (some ⟨gb, 0, none⟩), mvv ⟨(i : Int), x⟩] w (fun e w2 => e = .returned (.int .i64 0) ∧ BoardAt W0 w2 gb gp (k : Int) n cap (bs.set i ⟨bs[i].g, bs[i].gr, putW bs[i].l x, bs[i].c + 1⟩) ∧
      RowsAt W0 w2 36 s (.slice (some ⟨gw, 0, none⟩) M capw) rs (bs.map Bk.l) ∧ Above s w w2) := by
  have hl := h.len
  have hc := h.cnt bs[i] (List.getElem_mem hil)
  refine (bodo_yes h.board (by omega) i hil hc.1 (by omega) x).mono fun e w2 ⟨he, hcg, hb⟩ => ?_
  rw [doE_ok hm] at he
  rw [if_pos hm] at hb
  obtain ⟨u1, u2⟩ := h.under.all bs[i] (List.getElem_mem hil)
  exact ⟨he, hb, h.rows.chg hcg hb.banks.kept u1 u2, fun b t cs hbs hbl => hcg.blk hbl (by omega) (by omega)⟩
/-- The write done on the document's slots too. -/
theorem RunAt.put (h : RunAt W0 w k n s gb gp cap gw capw M bs rs j) (i : Nat) (hil : i < bs.length) (x : Wr) {r : Value} (hb : BoardAt W0 w2 gb gp (k : Int) n cap (bs.set i ⟨bs[i].g, bs[i].gr, putW bs[i].l x, bs[i].c + 1⟩))
    (hr : RowsAt W0 w2 36 s (.slice (some ⟨gw, 0, none⟩) M capw) rs (bs.map Bk.l)) (hk : Kept w2 w3) (hs : s ≤ w2.heap.size) (hre : Els w3 r 7 Slot.cells (putW bs[i].l x)) (hrl : ∀ g, r.ownBlock = some g → w2.heap.size ≤ g ∧ g < w3.heap.size) :
    RunAt W0 (w3.setCell ⟨gw, i, none⟩ r) k n s gb gp cap gw capw M (bs.set i ⟨bs[i].g, bs[i].gr, putW bs[i].l x, bs[i].c + 1⟩) (rs.set i r) (j + 1) := by
  have hR := hr.set h.rlen.symm hk hs i hre hrl
  obtain ⟨s1, s2, s3⟩ := h.sle
  have hC : Chg w3 (w3.setCell ⟨gw, i, none⟩ r) gw gw := (Chg.of gw gw (Kept.refl w3)).setCell gw i (.inl rfl) r
  refine ⟨(hb.kept hk).over (h.under.set i hil _ _) hC hR.own.1 s1 s1, ?_, h.under.set i hil _ _, by rw [List.length_set]; exact h.len, fun b hbm => ?_⟩
  · rw [List.map_set]; exact hR
  · obtain ⟨q, hq, rfl⟩ := List.getElem_of_mem hbm
    rw [List.getElem_set]
    split
    · have := h.cnt bs[i] (List.getElem_mem hil); dsimp only; omega
    · rw [List.length_set] at hq
      have := h.cnt bs[q] (List.getElem_mem hq); omega
end
def RunPost (k n M : Nat) (w : World) (e : Ending) (w2 : World) : Prop := ∃ s gb gp cap gw capw bs rs, e = .returned (.tuple #[.pointer (some ⟨gb, 0, none⟩), .slice (some ⟨gw, 0, none⟩) M capw, .int .i64 (sumB Bk.c bs), .bool true]) ∧ RunAt w w2 k n s gb gp cap gw capw M bs rs 30
end Go.Proofs.Ytemfocnjlimicaa
