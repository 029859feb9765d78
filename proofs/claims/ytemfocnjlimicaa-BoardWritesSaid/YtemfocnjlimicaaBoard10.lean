/- A board: a block, a row of pointers, and banks; what a write of one bank leaves. A board: Bits, Size, Do, Search. A board: Search. A board: New. A board: sums over its banks: Writes, Valid. A board: Tell. A board: New of as many slots as there may be. A board: New of slots that there may be. A board: New of slots that there may be: the walk. A board: what stands of it where other blocks change. -/
import Derived.Test.YtemfocnjlimicaaBank14
import Derived.Test.YtemfocnjlimicaaSplit
import Derived.Test.YtemfocnjlimicaaEls3
namespace Pg
open Go
structure Mv where
  bank : Int
  w : Wr
def Mv.cells (m : Mv) : List Value := .int .i64 m.bank :: m.w.cells
theorem Mv.one (x : Mv) : ∀ u ∈ x.cells, u.oneCell' = true := by simp [Mv.cells, Wr.cells, Value.oneCell']
theorem Mv.cells_len (m : Mv) : m.cells.length = 9 := rfl
abbrev mvv (m : Mv) : Value := .agg #[.int .i64 m.bank, .int .i64 m.w.at_, .bool m.w.s.v, .int .u64 (hi m.w.s.e.x), .int .u64 (lo m.w.s.e.x), .int .u64 (hi m.w.s.e.m), .int .u64 (lo m.w.s.e.m), .int .i64 m.w.s.e.len, .int .i64 m.w.s.e.act]
/-- A bank of a board: its block, its row's block, its slots, how many writes it has had. -/
structure Bk where
  g : Nat
  gr : Nat
  l : List Slot
  c : Int
def Bk.ptr (b : Bk) : Value := .pointer (some ⟨b.g, 0, none⟩)
/-- Two banks share no block. -/
def Far (a b : Bk) : Prop := a.g ≠ b.g ∧ a.g ≠ b.gr ∧ a.gr ≠ b.g ∧ a.gr ≠ b.gr
theorem Far.symm {a b : Bk} (h : Far a b) : Far b a := ⟨h.1.symm, h.2.2.1.symm, h.2.1.symm, h.2.2.2.symm⟩
theorem pairwise_set {α : Type} {R : α → α → Prop} (hs : ∀ a b, R a b → R b a) {l : List α} (h : l.Pairwise R) (i : Nat) (x : α) (hx : ∀ (j : Nat) (hj : j < l.length), j ≠ i → R x l[j]) : (l.set i x).Pairwise R := by
  rw [List.pairwise_iff_getElem] at h ⊢
  intro a b ha hb hab
  rw [List.length_set] at ha hb
  rw [List.getElem_set, List.getElem_set]
  by_cases h1 : i = a
  · subst h1
    rw [if_pos rfl, if_neg (by omega)]
    exact hx b hb (by omega)
  · rw [if_neg h1]
    by_cases h2 : i = b
    · subst h2
      rw [if_pos rfl]
      exact hs _ _ (hx a ha (by omega))
    · rw [if_neg h2]
      exact h a b ha hb hab
end Pg
namespace Go.Proofs.Ytemfocnjlimicaa
open Go.RowKit Pg

/-- The banks of a board stand. -/
structure BanksAt (W0 w : World) (bs : List Bk) : Prop where
  kept : Kept W0 w
  at_ : ∀ b ∈ bs, BankAt W0 w b.g b.gr b.l b.c
  far : bs.Pairwise Far
theorem BanksAt.nil {W0 w : World} (hk : Kept W0 w) : BanksAt W0 w [] := ⟨hk, fun _ h => absurd h (by simp), List.Pairwise.nil⟩
theorem BanksAt.step {W0 w w' : World} {bs : List Bk} (h : BanksAt W0 w bs) (hk : Kept w w') : BanksAt W0 w' bs := ⟨h.kept.trans hk, fun b hb => (h.at_ b hb).kept hk, h.far⟩
theorem BankAt.blocks {W0 w : World} {g gr : Nat} {l : List Slot} {n : Int} (h : BankAt W0 w g gr l n) : g < w.heap.size ∧ gr < w.heap.size :=
  ⟨h.blk.lt, (h.own.2.lt gr rfl).2⟩
/-- One more bank, made behind all the others. -/
theorem BanksAt.more {W0 w w' : World} {bs : List Bk} (h : BanksAt W0 w bs) (b : Bk) (hk : Kept w w') (hb : BankAt w w' b.g b.gr b.l b.c) : BanksAt W0 w' (bs ++ [b]) := by
  have hb0 := hb.base h.kept
  refine ⟨h.kept.trans hk, fun x hx => ?_, ?_⟩
  · rcases List.mem_append.1 hx with hx | hx
    · exact (h.at_ x hx).kept hk
    · rw [List.mem_singleton.1 hx]; exact hb0
  · rw [List.pairwise_append]
    refine ⟨h.far, List.pairwise_singleton .., fun x hx y hy => ?_⟩
    rw [List.mem_singleton.1 hy]
    obtain ⟨h1, h2⟩ := (h.at_ x hx).blocks
    have h3 := hb.low
    have h4 := hb.lowr
    exact ⟨by omega, by omega, by omega, by omega⟩
/-- A write of one bank. -/
theorem BanksAt.chg {W0 w w' : World} {bs : List Bk} (h : BanksAt W0 w bs) (i : Nat) (hi : i < bs.length) (l : List Slot) (c : Int) (hc : Chg w w' bs[i].g bs[i].gr) (hb : BankAt W0 w' bs[i].g bs[i].gr l c) : BanksAt W0 w' (bs.set i ⟨bs[i].g, bs[i].gr, l, c⟩) := by
  have hk : Kept W0 w' := hb.own.1
  have hf : ∀ (j : Nat) (hj : j < bs.length), j ≠ i → Far bs[i] bs[j] := fun j hj hne => by
    have hp := List.pairwise_iff_getElem.1 h.far
    rcases Nat.lt_or_ge i j with h1 | h1
    · exact hp i j hi hj h1
    · exact (hp j i hj hi (by omega)).symm
  refine ⟨hk, fun b hbm => ?_, pairwise_set (fun _ _ => Far.symm) h.far i _ fun j hj hne => hf j hj hne⟩
  obtain ⟨j, hj, rfl⟩ := List.getElem_of_mem hbm
  rw [List.length_set] at hj
  rw [List.getElem_set]
  by_cases hij : i = j
  · rw [if_pos hij]; exact hb
  · rw [if_neg hij]
    obtain ⟨h1, h2, h3, h4⟩ := hf j hj (by omega)
    have hbj := h.at_ bs[j] (List.getElem_mem hj)
    refine ⟨⟨hk, hbj.own.2.1, ?_⟩, hc.blk hbj.blk h1.symm h3.symm, hbj.low, hbj.ne, hbj.pos, hbj.le⟩
    rcases hbj.own.2.2 with ⟨hv, _⟩ | ⟨b, cap, cur, hv, hg, hh, r⟩
    · cases hv
    · have hbe : b = bs[j].gr := by injection hv with e _ _; injection e with e; injection e with e; exact e.symm
      subst hbe
      exact .inr ⟨_, cap, cur, hv, hg, hc.blk (b := bs[j].gr) (t := 50) (cs := cur) hh h2.symm h4.symm, r⟩
/-- A board: its block gb, the block gp of its row of pointers, its banks. -/
structure BoardAt (W0 w : World) (gb gp : Nat) (k : Int) (n : Nat) (cap : Nat) (bs : List Bk) : Prop where
  banks : BanksAt W0 w bs
  row : Own W0 w 42 1 (.slice (some ⟨gp, 0, none⟩) bs.length cap) bs.length (bs.map Bk.ptr)
  blk : Blk w gb 93 #[.int .i64 k, .int .i64 (n : Int), .slice (some ⟨gp, 0, none⟩) bs.length cap]
  low : W0.heap.size ≤ gb
  pos : 0 < bs.length
  capl : bs.length ≤ cap
  size : ∀ b ∈ bs, b.l.length = n
  ne : gb ≠ gp
  far : ∀ b ∈ bs, gb ≠ b.g ∧ gb ≠ b.gr ∧ gp ≠ b.g ∧ gp ≠ b.gr
theorem BoardAt.kept {W0 w w' : World} {gb gp cap n : Nat} {k : Int} {bs : List Bk} (h : BoardAt W0 w gb gp k n cap bs) (hk : Kept w w') : BoardAt W0 w' gb gp k n cap bs :=
  ⟨h.banks.step hk, h.row.step hk, h.blk.kept hk, h.low, h.pos, h.capl, h.size, h.ne, h.far⟩
/-- The pointer to a bank is read. -/
theorem BoardAt.ptr {W0 w : World} {gb gp cap n : Nat} {k : Int} {bs : List Bk} (h : BoardAt W0 w gb gp k n cap bs) (i : Nat) (hi : i < bs.length) : w.cell? ⟨gp, i, none⟩ = some (.pointer (some ⟨bs[i].g, 0, none⟩)) := by
  obtain ⟨g, c, e, _, _, _, hc, _⟩ := h.row.form h.pos
  injection e with e _ _
  injection e with e
  injection e with e
  subst e
  rw [hc i (by omega), List.getElem?_map, List.getElem?_eq_getElem hi]
  rfl
/-- A write of one bank of a board. -/
theorem BoardAt.chg {W0 w w' : World} {gb gp cap n : Nat} {k : Int} {bs : List Bk} (h : BoardAt W0 w gb gp k n cap bs) (i : Nat) (hi : i < bs.length) (l : List Slot) (c : Int) (hc : Chg w w' bs[i].g bs[i].gr) (hb : BankAt W0 w' bs[i].g bs[i].gr l c) (hl : l.length = n) : BoardAt W0 w' gb gp k n cap (bs.set i ⟨bs[i].g, bs[i].gr, l, c⟩) := by
  obtain ⟨f1, f2, f3, f4⟩ := h.far bs[i] (List.getElem_mem hi)
  have hm : (bs.set i ⟨bs[i].g, bs[i].gr, l, c⟩).map Bk.ptr = bs.map Bk.ptr := by
    rw [List.map_set]
    apply List.ext_getElem
    · simp
    · intro j h1 h2
      rw [List.getElem_set]
      split
      · rename_i hij; subst hij; simp [Bk.ptr]
      · rfl
  refine ⟨h.banks.chg i hi l c hc hb, ?_, ?_, h.low, by rw [List.length_set]; exact h.pos, by rw [List.length_set]; exact h.capl, fun b hbm => ?_, h.ne, fun b hbm => ?_⟩
  · rw [hm, List.length_set]
    refine ⟨hb.own.1, h.row.2.1, ?_⟩
    rcases h.row.2.2 with ⟨hv, _⟩ | ⟨b, cap', cur, hv, hg, hh, r⟩
    · cases hv
    · have hbe : b = gp := by injection hv with e _ _; injection e with e; injection e with e; exact e.symm
      subst hbe
      exact .inr ⟨_, cap', cur, hv, hg, hc.blk (b := b) (t := 42) (cs := cur) hh f3 f4, r⟩
  · rw [List.length_set]; exact hc.blk h.blk f1 f2
  · obtain ⟨j, hj, rfl⟩ := List.getElem_of_mem hbm
    rw [List.getElem_set]
    split
    · exact hl
    · rw [List.length_set] at hj
      exact h.size _ (List.getElem_mem hj)
  · obtain ⟨j, hj, rfl⟩ := List.getElem_of_mem hbm
    rw [List.getElem_set]
    split
    · exact ⟨f1, f2, f3, f4⟩
    · rw [List.length_set] at hj
      exact h.far _ (List.getElem_mem hj)
end Go.Proofs.Ytemfocnjlimicaa
namespace Pg
open Go
theorem putW_lenW (l : List Slot) (x : Wr) : (putW l x).length = l.length := putW_len l x
end Pg
namespace Go.Proofs.Ytemfocnjlimicaa
open Go.RowKit Pg

set_option maxHeartbeats 1000000 in
set_option maxRecDepth 100000 in
theorem bobits_any {W0 w : World} {gb gp cap n : Nat} {k : Int} {bs : List Bk} (h : BoardAt W0 w gb gp k n cap bs) : Calls Try.prog 27 #[.pointer (some ⟨gb, 0, none⟩)] w (Ret (.int .i64 k) w) := by
  have x0 := fun j => h.blk.cell j
  have xl := h.blk.lt
  clear h
  go_enter Try.func27, Try.ntmps27
  go_wp2_with fail
  go_ret
  exact Ret.of (rfl) (by simp (maxDischargeDepth := 99))
set_option maxHeartbeats 1000000 in
set_option maxRecDepth 100000 in
theorem bosize_any {W0 w : World} {gb gp cap n : Nat} {k : Int} {bs : List Bk} (h : BoardAt W0 w gb gp k n cap bs) : Calls Try.prog 28 #[.pointer (some ⟨gb, 0, none⟩)] w (Ret (.int .i64 (n : Int)) w) := by
  have x0 := fun j => h.blk.cell j
  have xl := h.blk.lt
  clear h
  go_enter Try.func28, Try.ntmps28
  go_wp2_with fail
  go_ret
  exact Ret.of (rfl) (by simp (maxDischargeDepth := 99))
set_option maxHeartbeats 1000000 in
set_option maxRecDepth 100000 in
theorem bodo_no {W0 w : World} {gb gp cap n : Nat} {k : Int} {bs : List Bk} (h : BoardAt W0 w gb gp k n cap bs) (_ : bs.length ≤ 100) (m : Mv) (hm : m.bank < 0 ∨ (bs.length : Int) ≤ m.bank) : Calls Try.prog 17 #[.pointer (some ⟨gb, 0, none⟩), mvv m] w (Ret (.int .i64 5) w) := by
  have HB := Lib.hid h.blk
  clear h
  by_cases h0 : m.bank < 0
  · have d0 : decide (m.bank < 0) = true := decide_eq_true h0
    clear hm
    have x0 := fun j => (HB.out.alloc (.cells #[.int .i64 m.bank, .int .i64 m.w.at_, .bool m.w.s.v, .int .u64 (hi m.w.s.e.x), .int .u64 (lo m.w.s.e.x), .int .u64 (hi m.w.s.e.m), .int .u64 (lo m.w.s.e.m), .int .i64 m.w.s.e.len, .int .i64 m.w.s.e.act] 54)).cell j
    go_enter Try.func17, Try.ntmps17
    go_wp2_with fail
    refine region_ext _ (Later.refl _) mixed (by kernel_rfl) ?_
    repeat (go_big_quiet_step (fail))
    refine wpQuiet_nil ?_
    rintro _ ⟨q, rfl⟩
    go_wp2_with fail
    go_ret
    exact Ret.of (rfl) (by simp (maxDischargeDepth := 99))
  · have h1 : (bs.length : Int) ≤ m.bank := by omega
    have d0 : decide (m.bank < 0) = false := decide_eq_false h0
    have d1 : decide ((bs.length : Int) ≤ m.bank) = true := decide_eq_true h1
    clear hm
    obtain ⟨wa, hwa⟩ : ∃ wa, wa = w.alloc (.cells #[.int .i64 m.bank, .int .i64 m.w.at_, .bool m.w.s.v, .int .u64 (hi m.w.s.e.x), .int .u64 (lo m.w.s.e.x), .int .u64 (hi m.w.s.e.m), .int .u64 (lo m.w.s.e.m), .int .i64 m.w.s.e.len, .int .i64 m.w.s.e.act] 54) := ⟨_, rfl⟩
    have HKa := Lib.hid (show Kept w wa by rw [hwa]; exact Kept.alloc (Kept.refl w) _)
    have HBa := Lib.hid (show Blk wa w.heap.size 54 #[.int .i64 m.bank, .int .i64 m.w.at_, .bool m.w.s.v, .int .u64 (hi m.w.s.e.x), .int .u64 (lo m.w.s.e.x), .int .u64 (hi m.w.s.e.m), .int .u64 (lo m.w.s.e.m), .int .i64 m.w.s.e.len, .int .i64 m.w.s.e.act] by rw [hwa]; exact Blk.new' w _ _ rfl)
    go_enter Try.func17, Try.ntmps17
    go_wp2_with fail
    rw [← hwa]
    clear hwa
    have x0 := fun j => (HB.out.kept HKa.out).cell j
    have xl := (HB.out.kept HKa.out).lt
    have y0 := fun j => HBa.out.cell j
    have yl := HBa.out.lt
    refine region_ext _ (Later.refl _) mixed (by kernel_rfl) ?_
    repeat (go_big_quiet_step (fail))
    refine wpQuiet_nil ?_
    rintro _ ⟨q, rfl⟩
    go_wp2_with fail
    go_ret
    exact Ret.of (rfl) (by simp (maxDischargeDepth := 99) [HKa.out])
/-- What a write of a bank leaves of a board. -/
def BoPost (W0 w : World) (gb gp : Nat) (k : Int) (n cap : Nat) (bs : List Bk) (i : Nat) (b : Bk) (x : Wr) (e : Ending) (w2 : World) : Prop :=
  e = .returned (.int .i64 (doE x n)) ∧ Chg w w2 b.g b.gr ∧ BoardAt W0 w2 gb gp k n cap (bs.set i ⟨b.g, b.gr, putW b.l x, if mayW x n then b.c + 1 else b.c⟩)
set_option maxHeartbeats 1000000 in
set_option maxRecDepth 100000 in
theorem bodo_yes {W0 w : World} {gb gp cap n : Nat} {k : Int} {bs : List Bk} (h : BoardAt W0 w gb gp k n cap bs) (_ : bs.length ≤ 100) (i : Nat) (hil : i < bs.length) (h0 : 0 ≤ bs[i].c) (h1000 : bs[i].c ≤ 1000) (x : Wr) : Calls Try.prog 17 #[.pointer (some ⟨gb, 0, none⟩), mvv ⟨(i : Int), x⟩] w (BoPost W0 w gb gp k n cap bs i bs[i] x) := by
  have HBo := Lib.hid h
  have hd := Lib.hid (fun W (hk : Kept w W) => bdo_any ((h.banks.at_ bs[i] (List.getElem_mem hil)).kept hk) h0 h1000 x)
  have hln := h.size bs[i] (List.getElem_mem hil)
  have HP := Lib.hid (fun W (hk : Kept w W) e w2 (hp : DoPost W0 W bs[i].g bs[i].gr bs[i].l bs[i].c x e w2) => show BoPost W0 w gb gp k n cap bs i bs[i] x e w2 by
    obtain ⟨he, hc, hb⟩ := hp
    rw [hln] at he hb
    refine ⟨he, (Chg.of _ _ hk).trans hc, ?_⟩
    exact (h.kept hk).chg i hil _ _ hc hb (by rw [putW_len]; exact hln))
  obtain ⟨b, hb⟩ : ∃ b, bs[i] = b := ⟨_, rfl⟩
  have hptr := h.ptr i hil
  rw [hb] at hd HP hptr ⊢
  have HPT := Lib.hid hptr
  have HR := Lib.hid (h.row.2.lt gp rfl).2
  have i0 : (0 : Int) ≤ i := by omega
  have i1 : (i : Int) < (bs.length : Int) := by omega
  have d0 : decide ((i : Int) < 0) = false := decide_eq_false (by omega)
  have d1 : decide ((bs.length : Int) ≤ (i : Int)) = false := decide_eq_false (by omega)
  have d2 : decide (bs.length ≤ i) = false := decide_eq_false (by omega)
  have hcl := h.capl
  clear h hln hb h0 h1000 hptr
  obtain ⟨wa, hwa⟩ : ∃ wa, wa = w.alloc (.cells #[.int .i64 (i : Int), .int .i64 x.at_, .bool x.s.v, .int .u64 (hi x.s.e.x), .int .u64 (lo x.s.e.x), .int .u64 (hi x.s.e.m), .int .u64 (lo x.s.e.m), .int .i64 x.s.e.len, .int .i64 x.s.e.act] 54) := ⟨_, rfl⟩
  have HKa := Lib.hid (show Kept w wa by rw [hwa]; exact Kept.alloc (Kept.refl w) _)
  have HBa := Lib.hid (show Blk wa w.heap.size 54 #[.int .i64 (i : Int), .int .i64 x.at_, .bool x.s.v, .int .u64 (hi x.s.e.x), .int .u64 (lo x.s.e.x), .int .u64 (hi x.s.e.m), .int .u64 (lo x.s.e.m), .int .i64 x.s.e.len, .int .i64 x.s.e.act] by rw [hwa]; exact Blk.new' w _ _ rfl)
  go_enter Try.func17, Try.ntmps17
  go_wp2_with fail
  rw [← hwa]
  clear hwa
  have x0 := fun j => (HBo.out.blk.kept HKa.out).cell j
  have xl := (HBo.out.blk.kept HKa.out).lt
  have y0 := fun j => HBa.out.cell j
  have yl := HBa.out.lt
  have hrl : gp < wa.heap.size := Nat.lt_of_lt_of_le HR.out HKa.out.size
  have hp0 : wa.cell? ⟨gp, i, none⟩ = some (.pointer (some ⟨b.g, 0, none⟩)) := (World.cell?_of_block (a := ⟨gp, i, none⟩) (HKa.out.block gp HR.out)).trans HPT.out
  refine region_ext _ (Later.refl _) mixed (by kernel_rfl) ?_
  repeat (go_big_quiet_step (fail))
  refine wpQuiet_nil ?_
  rintro _ ⟨q, rfl⟩
  go_wp2_with fail
  refine region_ext_tail _ (by first | exact Later.ext _ _ | exact Later.refl _) 10 mixed (by kernel_rfl) ?_
  simp only [List.take_succ_cons, List.take_zero, List.drop_succ_cons, List.drop_zero]
  repeat (go_big_quiet_step (fail))
  refine wpQuiet_nil ?_
  rintro _ ⟨q, rfl⟩
  go_wp2_with fail
  refine (hd.out _ (HKa.out.trans (below_ext _ _))).mono ?_
  rintro e w2 hp
  have hq := HP.out _ (HKa.out.trans (below_ext _ _)) e w2 hp
  obtain ⟨rfl, hc2, hb2⟩ := hq
  have HC2 := Lib.hid hc2
  have HB2 := Lib.hid hb2
  clear hp hc2 hb2 x0 xl y0 yl hrl hp0
  go_wp2_with fail
  go_ret
  exact ⟨rfl, HC2.out, HB2.out⟩
end Go.Proofs.Ytemfocnjlimicaa
namespace Go.Proofs.Ytemfocnjlimicaa
open Go.RowKit Pg

set_option maxHeartbeats 1000000 in
set_option maxRecDepth 100000 in
theorem bosearch_any {W0 w : World} {gb gp cap n k : Nat} {bs : List Bk} (h : BoardAt W0 w gb gp (k : Int) n cap bs) (hk3 : k ≤ 3) (_ : bs.length ≤ 100) (a : B) (i : Nat) (ht : topN a k = i) (hil : i < bs.length) (f : Int) (hf : idxI (matchS a) bs[i].l = f) :
    Calls Try.prog 11 #[.pointer (some ⟨gb, 0, none⟩), av a] w (Ret (.tuple #[.int .i64 (i : Int), .int .i64 (max f 0), .bool (decide (0 ≤ f))]) w) := by
  have hof := Lib.hid (fun W => show Calls Try.prog 36 #[.int .i64 (k : Int), av a] W (Ret (.int .i64 (i : Int)) W) by rw [← ht]; exact sof_yes k hk3 a W)
  have HBo := Lib.hid h
  have hse := Lib.hid (fun W (hk : Kept w W) => show Calls Try.prog 37 #[.pointer (some ⟨bs[i].g, 0, none⟩), av a] W (Ret (.tuple #[.int .i64 (max f 0), .bool (decide (0 ≤ f))]) W) by
    rw [← hf]; exact bsearch_any ((h.banks.at_ bs[i] (List.getElem_mem hil)).kept hk) a)
  have hptr := h.ptr i hil
  obtain ⟨b, hb⟩ : ∃ b, bs[i] = b := ⟨_, rfl⟩
  rw [hb] at hse hptr
  have HPT := Lib.hid hptr
  have HR := Lib.hid (h.row.2.lt gp rfl).2
  have i0 : (0 : Int) ≤ i := by omega
  have i1 : (i : Int) < (bs.length : Int) := by omega
  have hcl := h.capl
  clear h hb hf ht hptr
  obtain ⟨wa, hwa⟩ : ∃ wa, wa = w.alloc (.cells #[.int .u64 (hi a), .int .u64 (lo a)] 25) := ⟨_, rfl⟩
  have HKa := Lib.hid (show Kept w wa by rw [hwa]; exact Kept.alloc (Kept.refl w) _)
  have HBa := Lib.hid (show Blk wa w.heap.size 25 #[.int .u64 (hi a), .int .u64 (lo a)] by rw [hwa]; exact Blk.new' w _ _ rfl)
  go_enter Try.func11, Try.ntmps11
  go_wp2_with fail
  rw [← hwa]
  clear hwa
  have x0 := fun j => (HBo.out.blk.kept HKa.out).cell j
  have xl := (HBo.out.blk.kept HKa.out).lt
  obtain ⟨y0, y1, yl⟩ := Blk.two HBa.out
  have hrl : gp < wa.heap.size := Nat.lt_of_lt_of_le HR.out HKa.out.size
  have hp0 : wa.cell? ⟨gp, i, none⟩ = some (.pointer (some ⟨b.g, 0, none⟩)) := (World.cell?_of_block (a := ⟨gp, i, none⟩) (HKa.out.block gp HR.out)).trans HPT.out
  refine region_ext _ (Later.refl _) mixed (by kernel_rfl) ?_
  repeat (go_big_quiet_step ((first | (go_at_call 36; exact calls_in (hof.out _)))))
  refine wpQuiet_nil ?_
  rintro _ ⟨q, rfl⟩
  go_wp2_with fail
  refine region_ext _ (by first | exact Later.ext _ _ | exact Later.refl _) mixed (by kernel_rfl) ?_
  repeat (go_big_quiet_step ((first | (go_at_call 37; exact calls_in (hse.out _ (HKa.out.trans (below_ext _ _)))))))
  refine wpQuiet_nil ?_
  rintro _ ⟨q, rfl⟩
  go_wp2_with fail
  exact bodyPost_ret (v := .tuple #[.int .i64 (i : Int), .int .i64 (max f 0), .bool (decide (0 ≤ f))]) (by simp [results, Try.results11, go_sem]) rfl (Ret.mk (by simp (maxDischargeDepth := 99) [HKa.out]))
end Go.Proofs.Ytemfocnjlimicaa
namespace Go.Proofs.Ytemfocnjlimicaa
open Go.RowKit Pg

theorem BankAt.only {W0 w w' : World} {g gr : Nat} {l : List Slot} {n : Int} (h : BankAt W0 w g gr l n) (hk : Kept W0 w') (h1 : w'.heap[g]? = w.heap[g]?) (h2 : w'.heap[gr]? = w.heap[gr]?) : BankAt W0 w' g gr l n := by
  refine ⟨⟨hk, h.own.2.1, ?_⟩, ?_, h.low, h.ne, h.pos, h.le⟩
  · rcases h.own.2.2 with ⟨hv, _⟩ | ⟨b, cap, cur, hv, hg, hh, r⟩
    · cases hv
    · have hbe : b = gr := by injection hv with e _ _; injection e with e; injection e with e; exact e.symm
      subst hbe
      exact .inr ⟨b, cap, cur, hv, hg, h2.trans hh, r⟩
  · have hb := h.blk
    unfold Blk at hb ⊢
    rw [h1]; exact hb
theorem BanksAt.only {W0 w w' : World} {bs : List Bk} (h : BanksAt W0 w bs) (hk : Kept W0 w') (hs : ∀ b ∈ bs, w'.heap[b.g]? = w.heap[b.g]? ∧ w'.heap[b.gr]? = w.heap[b.gr]?) : BanksAt W0 w' bs :=
  ⟨hk, fun b hb => (h.at_ b hb).only hk (hs b hb).1 (hs b hb).2, h.far⟩
theorem info_bankp : (Try.prog.info? 42).map (fun i => (i.zero, i.size, i.bytes)) = some (some (.pointer none), 1, 8) := by kernel_rfl
set_option maxHeartbeats 1000000 in
set_option maxRecDepth 100000 in
theorem bonew_k (k n : Int) (h : k < 0 ∨ 3 < k) (w : World) : Calls Try.prog 15 #[.int .i64 k, .int .i64 n] w (Ret (.tuple #[.pointer none, .int .i64 1]) w) := by
  have hr := Lib.hid (fun W => sright_no k h W)
  clear h
  go_enter Try.func15, Try.ntmps15
  go_wp2_with (first | (go_at_call 40; first | ((refine (calls_in (hr.out _)).mono ?_); rintro e w1 ⟨rfl, q1, rfl⟩) | ((refine (hr.out _).mono ?_); rintro e w1 ⟨rfl, q1, rfl⟩)))
  exact bodyPost_ret (v := .tuple #[.pointer none, .int .i64 1]) (by simp [results, Try.results15, go_sem]) rfl (Ret.mk (by simp (maxDischargeDepth := 99)))
end Go.Proofs.Ytemfocnjlimicaa
namespace Pg
open Go
def sumB (f : Bk → Int) : List Bk → Int
  | [] => 0
  | b :: bs => f b + sumB f bs
theorem sumB_append (f : Bk → Int) (a b : List Bk) : sumB f (a ++ b) = sumB f a + sumB f b := by
  induction a with
  | nil => simp [sumB]
  | cons x a ih => simp only [List.cons_append, sumB, ih]; omega
theorem sumB_step (f : Bk → Int) (bs : List Bk) (j : Nat) (hj : j < bs.length) : sumB f (bs.take (j + 1)) = sumB f (bs.take j) + f bs[j] := by
  rw [List.take_succ_eq_append_getElem hj, sumB_append]
  simp [sumB]
theorem sumB_le (f : Bk → Int) (bs : List Bk) (h : ∀ b ∈ bs, 0 ≤ f b ∧ f b ≤ 1000) : 0 ≤ sumB f bs ∧ sumB f bs ≤ 1000 * bs.length := by
  induction bs with
  | nil => simp [sumB]
  | cons b bs ih =>
    obtain ⟨h1, h2⟩ := ih fun x hx => h x (List.mem_cons_of_mem _ hx)
    obtain ⟨h3, h4⟩ := h b (List.mem_cons_self ..)
    simp only [sumB, List.length_cons]
    omega
end Pg
namespace Go.Proofs.Ytemfocnjlimicaa
open Go.RowKit Pg

set_option maxHeartbeats 1000000 in
set_option maxRecDepth 100000 in
theorem bosum_any {W0 w : World} {gb gp cap n : Nat} {k : Int} {bs : List Bk} (h : BoardAt W0 w gb gp k n cap bs) (hbs : bs.length ≤ 100) (g : FuncId) (eg : ∀ args w, (callFunc g args).run Try.prog w = .ok (.enter g args) w) (f : Bk → Int)
    (hp : ∀ b ∈ bs, ∀ W, Kept w W → Calls Try.prog g #[.pointer (some ⟨b.g, 0, none⟩)] W (Ret (.int .i64 (f b)) W)) (hf : ∀ b ∈ bs, 0 ≤ f b ∧ f b ≤ 1000) : Calls Try.prog 44 #[.pointer (some ⟨gb, 0, none⟩), .func (.func g) #[] #[]] w (Ret (.int .i64 (sumB f bs)) w) := by
  have x0 := fun j => h.blk.cell j
  have xl := h.blk.lt
  have HBo := Lib.hid h
  have HP := Lib.hid hp
  have HF := Lib.hid hf
  clear h hp hf
  go_enter Try.func44, Try.ntmps44
  go_wp2_with fail
  clear x0 xl
  go_loopw [5, 7, 13] (fun vs _ vk wr => ∃ j : Nat, j ≤ bs.length ∧ vk = .int .i64 j ∧ vs = .int .i64 (sumB f (bs.take j)) ∧ Kept w wr) (fun _ _ vk _ => bs.length - (intOf vk).toNat)
  case atStart => exact ⟨0, by omega, rfl, rfl, Kept.refl _⟩
  case round =>
    obtain ⟨j, hj, rfl, rfl, hkw⟩ := hrel
    have HX := Lib.hid hkw
    by_cases hlt : j < bs.length
    · have hjl : (j : Int) < (bs.length : Int) := by omega
      have j0 : (0 : Int) ≤ j := by omega
      have hptr := (HBo.out.kept hkw).ptr j hlt
      have hpl : gp < wr.heap.size := ((HBo.out.kept hkw).row.2.lt gp rfl).2
      have hcall := Lib.hid (HP.out bs[j] (List.getElem_mem hlt) wr hkw)
      have hst := Lib.hid (sumB_step f bs j hlt)
      obtain ⟨s1, s2⟩ := sumB_le f (bs.take j) fun b hb => HF.out b (List.mem_of_mem_take hb)
      obtain ⟨t1, t2⟩ := HF.out bs[j] (List.getElem_mem hlt)
      have tl : (bs.take j).length ≤ 100 := by rw [List.length_take]; omega
      obtain ⟨S, hS⟩ : ∃ S, sumB f (bs.take j) = S := ⟨_, rfl⟩
      obtain ⟨b, hb⟩ : ∃ b, bs[j] = b := ⟨_, rfl⟩
      rw [hS] at s1 s2 hst ⊢
      rw [hb] at hptr hcall hst t1 t2
      obtain ⟨y, hy⟩ : ∃ y, f b = y := ⟨_, rfl⟩
      rw [hy] at hcall hst t1 t2
      clear hkw hS hb hy
      go_wp2_with (first | (go_at_fn g; refine hcall.out.mono ?_; rintro e w1 ⟨rfl, q1, rfl⟩))
      go_roundw
      case rel => exact ⟨j + 1, by omega, by go_num, by rw [hst.out], HX.out.ext _⟩
      case measure => simp [intOf]; omega
    · have hjl : j = bs.length := by omega
      subst hjl
      rw [List.take_length]
      clear hkw hlt
      go_wp2_with fail
      go_ret
      exact Ret.of (rfl) (by simp (maxDischargeDepth := 99) [HX.out])
theorem bowrites_any {W0 w : World} {gb gp cap n : Nat} {k : Int} {bs : List Bk} (h : BoardAt W0 w gb gp k n cap bs) (hbs : bs.length ≤ 100) (hc : ∀ b ∈ bs, 0 ≤ b.c ∧ b.c ≤ 1000) : Calls Try.prog 21 #[.pointer (some ⟨gb, 0, none⟩)] w (Ret (.int .i64 (sumB Bk.c bs)) w) := by
  have hs := Lib.hid (bosum_any h hbs 22 (enters_of Try.func22 (by kernel_rfl) rfl) Bk.c (fun b hb W hk => bwrites_any ((h.banks.at_ b hb).kept hk)) hc)
  clear h hc
  go_enter Try.func21, Try.ntmps21
  go_wp2_with (first | (go_at_call 44; refine (hs.out).mono ?_; rintro e w1 ⟨rfl, q1, rfl⟩))
  go_ret
  exact Ret.of (rfl) (by simp (maxDischargeDepth := 99))
set_option maxHeartbeats 1000000 in
set_option maxRecDepth 100000 in
theorem bovalid1_any {W0 w : World} {g gr : Nat} {l : List Slot} {n : Int} (h : BankAt W0 w g gr l n) : Calls Try.prog 45 #[.pointer (some ⟨g, 0, none⟩)] w (Ret (.int .i64 ((entsS l).length : Int)) w) := by
  have hle := h.le
  have hs := Lib.hid (bslots_any h)
  have he := Lib.hid (fun W u (h : Els W u 7 Slot.cells l) => bentries_any W h (by omega))
  have hel := entsS_len l
  clear h
  go_enter Try.func45, Try.ntmps45
  go_wp2_with fail
  refine (hs.out).mono ?_
  rintro e w1 hR
  obtain ⟨a1, c1, rfl, hlc1, hown1, hels1⟩ := RetEls.out2 Slot.cells_len hR
  have HE1 := Lib.hid hels1
  have HK1 := Lib.hid hown1.1
  clear hown1 hels1 hR
  go_wp2_with fail
  refine (he.out _ _ HE1.out).mono ?_
  rintro e w2 hR
  obtain ⟨a2, c2, rfl, hlc2, hown2, hels2⟩ := RetEls.out2 Ent.cells_len hR
  have HE2 := Lib.hid hels2
  have HK2 := Lib.hid hown2.1
  clear hown2 hels2 hR
  go_wp2_with fail
  go_ret
  exact Ret.of (rfl) (by simp (maxDischargeDepth := 99) [HK1.out.trans HK2.out])
def validB (b : Bk) : Int := ((entsS b.l).length : Int)
theorem bovalid_any {W0 w : World} {gb gp cap n : Nat} {k : Int} {bs : List Bk} (h : BoardAt W0 w gb gp k n cap bs) (hbs : bs.length ≤ 100) : Calls Try.prog 23 #[.pointer (some ⟨gb, 0, none⟩)] w (Ret (.int .i64 (sumB validB bs)) w) := by
  have hs := Lib.hid (bosum_any h hbs 45 (enters_of Try.func45 (by kernel_rfl) rfl) validB (fun b hb W hk => bovalid1_any ((h.banks.at_ b hb).kept hk)) (fun b hb => by
    have h1 := entsS_len b.l
    have h2 := (h.banks.at_ b hb).le
    unfold validB
    omega))
  clear h
  go_enter Try.func23, Try.ntmps23
  go_wp2_with (first | (go_at_call 44; refine (hs.out).mono ?_; rintro e w1 ⟨rfl, q1, rfl⟩))
  go_ret
  exact Ret.of (rfl) (by simp (maxDischargeDepth := 99))
end Go.Proofs.Ytemfocnjlimicaa
namespace Go.Proofs.Ytemfocnjlimicaa
open Go.RowKit Pg

set_option maxHeartbeats 1000000 in
set_option maxRecDepth 100000 in
theorem botell_any {W0 w : World} {gb gp cap n k : Nat} {bs : List Bk} (h : BoardAt W0 w gb gp (k : Int) n cap bs) (hk3 : k ≤ 3) (hbs : bs.length ≤ 100) (a : B) (i : Nat) (ht : topN a k = i) (hil : i < bs.length) : Calls Try.prog 13 #[.pointer (some ⟨gb, 0, none⟩), av a] w (Ret (.int .i64 (tellS bs[i].l a)) w) := by
  obtain ⟨f, hf⟩ : ∃ f, idxI (matchS a) bs[i].l = f := ⟨_, rfl⟩
  have HBo := Lib.hid h
  have HR := Lib.hid (h.row.2.lt gp rfl).2
  have HPT := Lib.hid (h.ptr i hil)
  have i0 : (0 : Int) ≤ i := by omega
  have i1 : (i : Int) < (bs.length : Int) := by omega
  have hcl := h.capl
  have hse0 := fun W (hk : Kept w W) => bosearch_any (h.kept hk) hk3 hbs a i ht hil f hf
  obtain ⟨wa, hwa⟩ : ∃ wa, wa = w.alloc (.cells #[.int .u64 (hi a), .int .u64 (lo a)] 25) := ⟨_, rfl⟩
  have HKa := Lib.hid (show Kept w wa by rw [hwa]; exact Kept.alloc (Kept.refl w) _)
  have HBa := Lib.hid (show Blk wa w.heap.size 25 #[.int .u64 (hi a), .int .u64 (lo a)] by rw [hwa]; exact Blk.new' w _ _ rfl)
  by_cases hn : f < 0
  · have HV := Lib.hid (show tellS bs[i].l a = 0 by unfold tellS; rw [hf, if_pos hn])
    have hse := Lib.hid (fun W (hk : Kept w W) => show Calls Try.prog 11 #[.pointer (some ⟨gb, 0, none⟩), av a] W (Ret (.tuple #[.int .i64 (i : Int), .int .i64 0, .bool false]) W) by
      have := hse0 W hk
      rwa [show max f 0 = 0 by omega, show decide (0 ≤ f) = false from decide_eq_false (by omega)] at this)
    rw [HV.out]
    clear h hse0 hf ht
    go_enter Try.func13, Try.ntmps13
    go_wp2_with fail
    rw [← hwa]
    clear hwa
    obtain ⟨y0, y1, yl⟩ := Blk.two HBa.out
    go_wp2_with fail
    refine (hse.out _ HKa.out).mono ?_
    rintro e w1 ⟨rfl, q1, rfl⟩
    go_wp2_with fail
    go_ret
    exact Ret.of (rfl) (by simp (maxDischargeDepth := 99) [HKa.out])
  · obtain ⟨j, rfl⟩ := Int.eq_ofNat_of_zero_le (show 0 ≤ f by omega)
    have hj : j < bs[i].l.length := by
      rcases idxI_cases (matchS a) bs[i].l with ⟨h1, _⟩ | ⟨k2, h2, h3, _⟩ <;> omega
    have HV := Lib.hid (show tellS bs[i].l a = bs[i].l[j].e.act by
      unfold tellS
      rw [hf, if_neg hn, Int.toNat_natCast, List.getElem?_eq_getElem hj]; rfl)
    have hse := Lib.hid (fun W (hk : Kept w W) => show Calls Try.prog 11 #[.pointer (some ⟨gb, 0, none⟩), av a] W (Ret (.tuple #[.int .i64 (i : Int), .int .i64 (j : Int), .bool true]) W) by
      have := hse0 W hk
      rwa [show max (j : Int) 0 = j by omega, show decide (0 ≤ (j : Int)) = true from decide_eq_true (by omega)] at this)
    have hrd := Lib.hid (fun W (hk : Kept w W) => bread_yes ((h.banks.at_ bs[i] (List.getElem_mem hil)).kept hk) j hj)
    rw [HV.out]
    obtain ⟨e, he⟩ : ∃ e, bs[i].l[j] = e := ⟨_, rfl⟩
    obtain ⟨b, hb⟩ : ∃ b, bs[i].g = b := ⟨_, rfl⟩
    rw [he] at hrd
    rw [hb] at hrd HPT
    rw [he]
    clear h hse0 hf ht HV hj he hb
    go_enter Try.func13, Try.ntmps13
    go_wp2_with fail
    rw [← hwa]
    clear hwa
    obtain ⟨y0, y1, yl⟩ := Blk.two HBa.out
    go_wp2_with fail
    refine (hse.out _ HKa.out).mono ?_
    rintro e w1 ⟨rfl, q1, rfl⟩
    obtain ⟨wb, hwb⟩ : ∃ wb, wb = ext wa q1 := ⟨_, rfl⟩
    have HKb := Lib.hid (HKa.out.trans (show Kept wa wb by rw [hwb]; exact below_ext _ _))
    rw [← hwb]
    clear hwb y0 y1 yl
    have x0 := fun j => (HBo.out.blk.kept HKb.out).cell j
    have xl := (HBo.out.blk.kept HKb.out).lt
    have hrl : gp < wb.heap.size := Nat.lt_of_lt_of_le HR.out HKb.out.size
    have hp0 : wb.cell? ⟨gp, i, none⟩ = some (.pointer (some ⟨b, 0, none⟩)) := (World.cell?_of_block (a := ⟨gp, i, none⟩) (HKb.out.block gp HR.out)).trans HPT.out
    go_wp2_with fail
    refine (hrd.out _ HKb.out).mono ?_
    rintro e w1 ⟨rfl, q2, rfl⟩
    clear x0 xl hrl hp0
    go_wp2_with fail
    go_ret
    exact Ret.of (rfl) (by simp (maxDischargeDepth := 99) [HKb.out])
end Go.Proofs.Ytemfocnjlimicaa
namespace Go.Proofs.Ytemfocnjlimicaa
open Go.RowKit Pg

set_option maxHeartbeats 1000000 in
set_option maxRecDepth 100000 in
theorem bonew_n (k : Nat) (h : k ≤ 3) (n : Int) (hn : ¬ (1 ≤ n ∧ n ≤ 256)) (w : World) : Calls Try.prog 15 #[.int .i64 (k : Int), .int .i64 n] w (Ret (.tuple #[.pointer none, .int .i64 1]) w) := by
  have hr := Lib.hid (fun W => sright_yes k h W)
  obtain ⟨M, hM⟩ : ∃ M, 2 ^ k = M := ⟨_, rfl⟩
  have hmany := Lib.hid (fun W => (by have := smany_yes k h W; rwa [hM] at this : Calls Try.prog 41 #[.int .i64 (k : Int)] W (Ret (.int .i64 (M : Int)) W)))
  have hM0 : 0 < M := by rw [← hM]; exact Nat.pow_pos (by omega)
  have hno := Lib.hid (fun W => bnew_no n W hn)
  clear h hM hn
  go_enter Try.func15, Try.ntmps15
  go_wp2_with (first | (go_at_call 40; first | ((refine (calls_in (hr.out _)).mono ?_); rintro e w1 ⟨rfl, q1, rfl⟩) | ((refine (hr.out _).mono ?_); rintro e w1 ⟨rfl, q1, rfl⟩)) | (go_at_call 41; first | ((refine (calls_in (hmany.out _)).mono ?_); rintro e w1 ⟨rfl, q1, rfl⟩) | ((refine (hmany.out _).mono ?_); rintro e w1 ⟨rfl, q1, rfl⟩)))
  go_loopw [7, 8, 18] (fun _ _ vk wr => vk = .int .i64 0 ∧ Kept w wr) (fun _ _ _ _ => 0)
  case atStart => exact ⟨rfl, by simp (maxDischargeDepth := 99)⟩
  case round =>
    obtain ⟨rfl, hkw⟩ := hrel
    have HX := Lib.hid hkw
    have m0 : (0 : Int) < (M : Int) := by omega
    clear hkw
    go_wp2_with (first | (go_at_call 16; first | ((refine (calls_in (hno.out _)).mono ?_); rintro e w1 ⟨rfl, q1, rfl⟩) | ((refine (hno.out _).mono ?_); rintro e w1 ⟨rfl, q1, rfl⟩)))
    exact bodyPost_ret (v := .tuple #[.pointer none, .int .i64 1]) (by simp [results, Try.results15, go_sem]) rfl (Ret.mk (by simp (maxDischargeDepth := 99) [HX.out]))
set_option maxHeartbeats 1000000 in
set_option maxRecDepth 100000 in
theorem law17may_any (k n : Int) (b : Bool) (h : (decide (0 ≤ k) && (decide (k ≤ 3) && (decide (1 ≤ n) && decide (n ≤ 20)))) = b) (w : World) : Calls Try.prog 7 #[.int .i64 k, .int .i64 n] w (Ret (.bool b) w) := by
  have HB := Lib.hid h
  clear h
  by_cases h1 : 0 ≤ k
  rotate_left
  · have HV := Lib.hid (show b = false by rw [← HB.out, decide_eq_false h1]; rfl)
    go_enter Try.func7, Try.ntmps7
    go_wp2_with fail
    go_ret
    exact Ret.of (by rw [HV.out]; rfl) (by simp (maxDischargeDepth := 99))
  by_cases h2 : k ≤ 3
  rotate_left
  · have HV := Lib.hid (show b = false by rw [← HB.out, decide_eq_true h1, decide_eq_false h2]; rfl)
    go_enter Try.func7, Try.ntmps7
    go_wp2_with fail
    go_ret
    exact Ret.of (by rw [HV.out]; rfl) (by simp (maxDischargeDepth := 99))
  by_cases h3 : 1 ≤ n
  rotate_left
  · have HV := Lib.hid (show b = false by rw [← HB.out, decide_eq_true h1, decide_eq_true h2, decide_eq_false h3]; rfl)
    go_enter Try.func7, Try.ntmps7
    go_wp2_with fail
    go_ret
    exact Ret.of (by rw [HV.out]; rfl) (by simp (maxDischargeDepth := 99))
  have HV := Lib.hid (show b = decide (n ≤ 20) by rw [← HB.out, decide_eq_true h1, decide_eq_true h2, decide_eq_true h3]; rfl)
  go_enter Try.func7, Try.ntmps7
  go_wp2_with fail
  go_ret
  exact Ret.of (by rw [HV.out]; rfl) (by simp (maxDischargeDepth := 99))
end Go.Proofs.Ytemfocnjlimicaa
namespace Pg
open Go Go.RowKit
/-- A pointer to a bank is one more of a row. -/
theorem own_ptr {W0 w : World} {t : TypeId} {v : Value} {j : Nat} (bs : List Bk) (b : Bk) (h : Own W0 w t 1 v (j + 1) (bs.map Bk.ptr ++ [b.ptr])) : Own W0 w t 1 v (j + 1) ((bs ++ [b]).map Bk.ptr) := by
  rw [List.map_append]; exact h
end Pg
namespace Go.Proofs.Ytemfocnjlimicaa
open Go.RowKit Pg

/-- How the loop of New stands. -/
structure NewAt (W0 w : World) (gb : Nat) (k : Int) (n : Nat) (v : Value) (bs : List Bk) : Prop where
  banks : BanksAt W0 w bs
  row : Own W0 w 42 1 v bs.length (bs.map Bk.ptr)
  blk : Blk w gb 93 #[.int .i64 k, .int .i64 (n : Int), v]
  low : W0.heap.size ≤ gb
  new_ : ∀ b ∈ bs, b.l = List.replicate n z0 ∧ b.c = 0
  ne : v.ownBlock ≠ some gb
  far : ∀ b ∈ bs, gb ≠ b.g ∧ gb ≠ b.gr ∧ v.ownBlock ≠ some b.g ∧ v.ownBlock ≠ some b.gr
theorem NewAt.start {W0 w : World} {gb : Nat} {k : Int} {n : Nat} (hk : Kept W0 w) (hb : Blk w gb 93 #[.int .i64 k, .int .i64 (n : Int), .slice none 0 0]) (hl : W0.heap.size ≤ gb) : NewAt W0 w gb k n (.slice none 0 0) [] :=
  ⟨BanksAt.nil hk, Own.nil _ _ hk _ _, hb, hl, fun _ h => absurd h (by simp), by simp [Value.ownBlock], fun _ h => absurd h (by simp)⟩
theorem NewAt.board {W0 w : World} {gb : Nat} {k : Int} {n : Nat} {v : Value} {bs : List Bk} (h : NewAt W0 w gb k n v bs) (hp : 0 < bs.length) : ∃ gp cap, BoardAt W0 w gb gp k n cap bs := by
  obtain ⟨g, c, e, _, _, hc, _⟩ := h.row.form hp
  subst e
  refine ⟨g, c, h.banks, h.row, h.blk, h.low, hp, hc, fun b hb => by rw [(h.new_ b hb).1, List.length_replicate], fun e => h.ne (by rw [e]; rfl), fun b hb => ?_⟩
  obtain ⟨f1, f2, f3, f4⟩ := h.far b hb
  exact ⟨f1, f2, fun e => f3 (by rw [← e]; rfl), fun e => f4 (by rw [← e]; rfl)⟩
/-- One round: a bank is made, its pointer appended, the slice kept in the board's block. -/
theorem NewAt.round {W0 w w1 w2 : World} {gb g gr : Nat} {k : Int} {n : Nat} {v v' : Value} {bs : List Bk} (h : NewAt W0 w gb k n v bs) (hk : Kept w w1) (hb : BankAt w w1 g gr (List.replicate n z0) 0) {o : Obj}
    (hr : Own W0 w2 42 1 v' (bs.length + 1) (bs.map Bk.ptr ++ [.pointer (some ⟨g, 0, none⟩)])) (hg : (w1.alloc o).grownBy w2 v.ownBlock) (hv : v'.ownBlock = v.ownBlock ∨ v'.ownBlock = some (w1.alloc o).heap.size) :
    NewAt W0 (w2.setCell ⟨gb, 2, none⟩ v') gb k n v' (bs ++ [⟨g, gr, List.replicate n z0, 0⟩]) := by
  have hB := h.banks.more ⟨g, gr, List.replicate n z0, 0⟩ hk hb
  have hgl := h.blk.lt
  have hvl : ∀ q, v.ownBlock = some q → q < w.heap.size := fun q hq => (h.row.2.lt q hq).2
  have hs1 := hk.size
  have hsz : (w1.alloc o).heap.size = w1.heap.size + 1 := by simp
  have hF : ∀ x ∈ bs ++ [(⟨g, gr, List.replicate n z0, 0⟩ : Bk)], gb ≠ x.g ∧ gb ≠ x.gr ∧ v.ownBlock ≠ some x.g ∧ v.ownBlock ≠ some x.gr := fun x hx => by
    rcases List.mem_append.1 hx with hx | hx
    · exact h.far x hx
    · rw [List.mem_singleton.1 hx]
      have h1 := hb.low
      have h2 := hb.lowr
      show gb ≠ g ∧ gb ≠ gr ∧ v.ownBlock ≠ some g ∧ v.ownBlock ≠ some gr
      exact ⟨by omega, by omega, fun e => by have := hvl _ e; omega, fun e => by have := hvl _ e; omega⟩
  have hL : ∀ x ∈ bs ++ [(⟨g, gr, List.replicate n z0, 0⟩ : Bk)], x.g < w1.heap.size ∧ x.gr < w1.heap.size := fun x hx => (hB.at_ x hx).blocks
  have hsame : ∀ q, q < w1.heap.size → gb ≠ q → v.ownBlock ≠ some q → (w2.setCell ⟨gb, 2, none⟩ v').heap[q]? = w1.heap[q]? := fun q h1 h2 h3 =>
    (Below.heap_setCell w2 ⟨gb, 2, none⟩ v' q (fun e => h2 e.symm)).trans ((hg.block q (by omega) (fun e => h3 e.symm)).trans (Below.heap_alloc w1 o q h1))
  have hC : Chg w2 (w2.setCell ⟨gb, 2, none⟩ v') gb gb := (Chg.of gb gb (Kept.refl w2)).setCell gb 2 (.inl rfl) v'
  have hK3 : Kept W0 (w2.setCell ⟨gb, 2, none⟩ v') := hC.kept hr.1 h.low h.low
  have hvg : v'.ownBlock ≠ some gb := fun e => by
    rcases hv with hv | hv
    · exact h.ne (hv ▸ e)
    · rw [hv] at e; injection e with e; omega
  refine ⟨hB.only hK3 fun x hx => ?_, ?_, ?_, h.low, fun x hx => ?_, hvg, fun x hx => ?_⟩
  · obtain ⟨f1, f2, f3, f4⟩ := hF x hx
    obtain ⟨l1, l2⟩ := hL x hx
    exact ⟨hsame _ l1 f1 f3, hsame _ l2 f2 f4⟩
  · rw [List.length_append, List.map_append]
    refine ⟨hK3, hr.2.1, ?_⟩
    rcases hr.2.2 with h1 | ⟨b, cap', cur, hv2, hg2, hh, r⟩
    · exact .inl h1
    · refine .inr ⟨b, cap', cur, hv2, hg2, ?_, r⟩
      exact hC.blk (b := b) (t := 42) (cs := cur) hh (fun e => hvg (by rw [hv2, ← e]; rfl)) (fun e => hvg (by rw [hv2, ← e]; rfl))
  · have h1 := (((h.blk.kept hk).alloc o).grown hg h.ne).set_ 2 v'
    simpa using h1
  · rcases List.mem_append.1 hx with hx | hx
    · exact h.new_ x hx
    · rw [List.mem_singleton.1 hx]; exact ⟨rfl, rfl⟩
  · obtain ⟨f1, f2, f3, f4⟩ := hF x hx
    obtain ⟨l1, l2⟩ := hL x hx
    refine ⟨f1, f2, fun e => ?_, fun e => ?_⟩
    · rcases hv with hv | hv
      · exact f3 (hv ▸ e)
      · rw [hv] at e; injection e with e; omega
    · rcases hv with hv | hv
      · exact f4 (hv ▸ e)
      · rw [hv] at e; injection e with e; omega
end Go.Proofs.Ytemfocnjlimicaa
namespace Go.Proofs.Ytemfocnjlimicaa
open Go.RowKit Pg

def BoNewPost (k n : Nat) (w : World) (e : Ending) (w2 : World) : Prop := ∃ gb gp cap bs, e = .returned (.tuple #[.pointer (some ⟨gb, 0, none⟩), .int .i64 0]) ∧ Kept w w2 ∧ BoardAt w w2 gb gp (k : Int) n cap bs ∧ bs.length = 2 ^ k ∧ ∀ b ∈ bs, b.l = List.replicate n z0 ∧ b.c = 0
set_option maxHeartbeats 2000000 in
set_option maxRecDepth 100000 in
theorem bonew_yes (k : Nat) (h : k ≤ 3) (n : Nat) (h1 : 1 ≤ n) (h2 : n ≤ 256) (w : World) : Calls Try.prog 15 #[.int .i64 (k : Int), .int .i64 (n : Int)] w (BoNewPost k n w) := by
  have hr := Lib.hid (fun W => sright_yes k h W)
  obtain ⟨M, hM⟩ : ∃ M, 2 ^ k = M := ⟨_, rfl⟩
  have hmany := Lib.hid (fun W => (by have := smany_yes k h W; rwa [hM] at this : Calls Try.prog 41 #[.int .i64 (k : Int)] W (Ret (.int .i64 (M : Int)) W)))
  have hM8 : M ≤ 8 := by rw [← hM]; have : k = 0 ∨ k = 1 ∨ k = 2 ∨ k = 3 := by omega
                         rcases this with rfl | rfl | rfl | rfl <;> decide
  have hM0 : 0 < M := by rw [← hM]; exact Nat.pow_pos (by omega)
  have HM := Lib.hid hM
  have hne := Lib.hid (fun W => bnew_yes n W h1 h2)
  clear h hM
  go_enter Try.func15, Try.ntmps15
  go_wp2_with fail
  refine (hr.out _).mono ?_
  rintro e w1 ⟨rfl, qa, rfl⟩
  obtain ⟨wx, hwx⟩ : ∃ wx, wx = ext w qa := ⟨_, rfl⟩
  have HKx := Lib.hid (show Kept w wx by rw [hwx]; exact below_ext _ _)
  rw [← hwx]
  clear hwx
  go_wp2_with fail
  refine (hmany.out _).mono ?_
  rintro e w1 ⟨rfl, qb, rfl⟩
  obtain ⟨gb, hgb⟩ : ∃ gb, gb = wx.heap.size := ⟨_, rfl⟩
  obtain ⟨wb, hwb⟩ : ∃ wb, wb = ext (wx.alloc (.cells #[.int .i64 (k : Int), .int .i64 (n : Int), .slice none 0 0] 93)) qb := ⟨_, rfl⟩
  have HN := Lib.hid (show NewAt w wb gb (k : Int) n (.slice none 0 0) [] from NewAt.start (by rw [hwb]; exact HKx.out.trans ((Kept.alloc (Kept.refl _) _).trans (below_ext _ _))) (by rw [hwb]; exact (Blk.new' wx _ _ hgb).ext qb) (by rw [hgb]; exact HKx.out.size))
  rw [← hwb, ← hgb]
  clear hwb hgb
  go_wp2_with fail
  go_loopw [7, 8, 18] (fun _ _ vk wr => ∃ (j : Nat) (v : Value) (bs : List Bk), j ≤ M ∧ vk = .int .i64 j ∧ bs.length = j ∧ NewAt w wr gb (k : Int) n v bs) (fun _ _ vk _ => M - (intOf vk).toNat)
  case atStart => exact ⟨0, _, [], by omega, rfl, rfl, HN.out⟩
  case round =>
    obtain ⟨j, v, bs, hj, rfl, hbl, hN⟩ := hrel
    have HX := Lib.hid hN
    have HBL := Lib.hid hbl
    clear hN HN
    by_cases hlt : j < M
    · have hjl : (j : Int) < (M : Int) := by omega
      clear hbl
      go_wp2_with fail
      refine (hne.out _).mono ?_
      rintro e w1 ⟨g, gr, rfl, hk1, hB1⟩
      have HK1 := Lib.hid hk1
      have HB1 := Lib.hid hB1
      obtain ⟨x0, x1, x2, xl⟩ := Blk.three (HX.out.blk.kept hk1)
      have hbl9 : bs.length ≤ 8 := by have := HBL.out; omega
      clear hB1 hk1
      go_wp2_with (first | (at_builtin; refine wpList_push2 rfl _ _ 91 rfl 42 (.pointer none) 1 8 Try.underlying91 info_bankp rfl (by omega) v bs.length (bs.map Bk.ptr) rfl ((HX.out.row.step HK1.out).alloc _) _ 1 1 [.pointer (some ⟨g, 0, none⟩)] rfl rfl (heap_alloc_new _ _) (by simp [Value.oneCell']) (by unfold maxLen; omega) (by omega) ?_; intro v' w9 hown9 hgr9 hap9; have FB := (((HX.out.blk.kept HK1.out).alloc _).grown hgr9 HX.out.ne); have rf := FB.frozen; have y0 := fun j => FB.cell j; have yl := FB.lt; have HO9 := Lib.hid hown9; have HG9 := Lib.hid hgr9; have HA9 := Lib.hid hap9; obtain ⟨ga, ca, rfl, hfa, hfb, hfc, hfd, hfe⟩ := hown9.form (by omega); clear hown9 hgr9 hap9 FB hfa hfb hfc hfd hfe))
      go_roundw
      case rel => exact ⟨j + 1, _, bs ++ [⟨g, gr, List.replicate n z0, 0⟩], by omega, by go_num, by rw [List.length_append, HBL.out]; rfl, HX.out.round HK1.out HB1.out HO9.out HG9.out HA9.out⟩
      case measure => simp [intOf]; omega
    · have hjl : j = M := by omega
      subst hjl
      have HKF := Lib.hid HX.out.banks.kept
      obtain ⟨gp, cap, hbo⟩ := HX.out.board (by omega)
      have HBO := Lib.hid hbo
      clear hbo hlt hbl
      go_wp2_with fail
      exact bodyPost_ret (v := .tuple #[.pointer (some ⟨gb, 0, none⟩), .int .i64 0]) (by simp [results, Try.results15, go_sem]) rfl ⟨gb, gp, cap, bs, rfl, HKF.out, HBO.out, by rw [HM.out]; exact HBL.out, HX.out.new_⟩
end Go.Proofs.Ytemfocnjlimicaa
namespace Pg
open Go Go.RowKit
/-- All blocks of a board lie below s. -/
structure Under (s gb gp : Nat) (bs : List Bk) : Prop where
  b : gb < s
  p : gp < s
  all : ∀ b ∈ bs, b.g < s ∧ b.gr < s
theorem Under.set {s gb gp : Nat} {bs : List Bk} (h : Under s gb gp bs) (i : Nat) (hil : i < bs.length) (l : List Slot) (c : Int) : Under s gb gp (bs.set i ⟨bs[i].g, bs[i].gr, l, c⟩) :=
  ⟨h.b, h.p, fun b hb => by
    obtain ⟨j, hj, rfl⟩ := List.getElem_of_mem hb
    rw [List.getElem_set]
    split
    · exact h.all bs[i] (List.getElem_mem hil)
    · rw [List.length_set] at hj; exact h.all _ (List.getElem_mem hj)⟩
end Pg
namespace Go.Proofs.Ytemfocnjlimicaa
open Go.RowKit Pg

theorem BoardAt.only {W0 w w' : World} {gb gp cap n : Nat} {k : Int} {bs : List Bk} (h : BoardAt W0 w gb gp k n cap bs) (hk : Kept W0 w') (h1 : w'.heap[gb]? = w.heap[gb]?) (h2 : w'.heap[gp]? = w.heap[gp]?)
    (hs : ∀ b ∈ bs, w'.heap[b.g]? = w.heap[b.g]? ∧ w'.heap[b.gr]? = w.heap[b.gr]?) : BoardAt W0 w' gb gp k n cap bs := by
  refine ⟨h.banks.only hk hs, ⟨hk, h.row.2.1, ?_⟩, ?_, h.low, h.pos, h.capl, h.size, h.ne, h.far⟩
  · rcases h.row.2.2 with ⟨hv, _⟩ | ⟨b, cap', cur, hv, hg, hh, r⟩
    · cases hv
    · have hbe : b = gp := by injection hv with e _ _; injection e with e; injection e with e; exact e.symm
      subst hbe
      exact .inr ⟨b, cap', cur, hv, hg, h2.trans hh, r⟩
  · have hb := h.blk
    unfold Blk at hb ⊢
    rw [h1]; exact hb
theorem BoardAt.under {W0 w : World} {gb gp cap n : Nat} {k : Int} {bs : List Bk} (h : BoardAt W0 w gb gp k n cap bs) : Under w.heap.size gb gp bs :=
  ⟨h.blk.lt, (h.row.2.lt gp rfl).2, fun b hb => (h.banks.at_ b hb).blocks⟩
/-- Blocks above s change: the board below stands. -/
theorem BoardAt.over {W0 w w' : World} {gb gp cap n s g gr : Nat} {k : Int} {bs : List Bk} (h : BoardAt W0 w gb gp k n cap bs) (hu : Under s gb gp bs) (hc : Chg w w' g gr) (hk : Kept W0 w') (h1 : s ≤ g) (h2 : s ≤ gr) : BoardAt W0 w' gb gp k n cap bs := by
  have hw := h.under
  have hu1 := hu.b
  have hu2 := hu.p
  refine h.only hk (hc.block gb hw.b (by omega) (by omega)) (hc.block gp hw.p (by omega) (by omega)) fun b hb => ?_
  obtain ⟨h3, h4⟩ := hu.all b hb
  obtain ⟨h5, h6⟩ := hw.all b hb
  exact ⟨hc.block _ h5 (by omega) (by omega), hc.block _ h6 (by omega) (by omega)⟩
theorem BoardAt.base {W0 W w : World} {gb gp cap n : Nat} {k : Int} {bs : List Bk} (h : BoardAt W w gb gp k n cap bs) (hk : Kept W0 W) : BoardAt W0 w gb gp k n cap bs :=
  ⟨⟨hk.trans h.banks.kept, fun b hb => (h.banks.at_ b hb).base hk, h.banks.far⟩, h.row.base hk, h.blk, Nat.le_trans hk.size h.low, h.pos, h.capl, h.size, h.ne, h.far⟩
end Go.Proofs.Ytemfocnjlimicaa
