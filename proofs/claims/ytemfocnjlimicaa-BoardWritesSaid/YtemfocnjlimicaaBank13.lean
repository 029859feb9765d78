/- A bank: Do. -/
import Derived.Test.YtemfocnjlimicaaBank12
namespace Go.Proofs.Ytemfocnjlimicaa
open Go.RowKit Pg

theorem bank_put {W0 w : World} {g gr : Nat} {l : List Slot} {n : Int} (h : BankAt W0 w g gr l n) (j : Nat) (hj : j < l.length) (e : Slot) :
    BankAt W0 ((((((((w.setCell ⟨gr, j * 7, none⟩ (.bool e.v)).setCell ⟨gr, j * 7 + 1, none⟩ (.int .u64 (hi e.e.x))).setCell ⟨gr, j * 7 + 2, none⟩ (.int .u64 (lo e.e.x))).setCell ⟨gr, j * 7 + 3, none⟩ (.int .u64 (hi e.e.m))).setCell ⟨gr, j * 7 + 4, none⟩ (.int .u64 (lo e.e.m))).setCell ⟨gr, j * 7 + 5, none⟩ (.int .i64 e.e.len)).setCell ⟨gr, j * 7 + 6, none⟩ (.int .i64 e.e.act)).setCell ⟨g, 1, none⟩ (.int .i64 (n + 1))) g gr (l.set j e) (n + 1) := by
  have hr := h.lowr
  have ho := (Own.stored (Own.stored (Own.stored (Own.stored (Own.stored (Own.stored (Own.stored h.own hr (j * 7 + 0) (.bool e.v)) hr (j * 7 + 1) (.int .u64 (hi e.e.x))) hr (j * 7 + 2) (.int .u64 (lo e.e.x))) hr (j * 7 + 3) (.int .u64 (hi e.e.m))) hr (j * 7 + 4) (.int .u64 (lo e.e.m))) hr (j * 7 + 5) (.int .i64 e.e.len)) hr (j * 7 + 6) (.int .i64 e.e.act))
  have hb := (((((((h.blk.far (p := ⟨gr, j * 7, none⟩) h.ne (.bool e.v)).far (p := ⟨gr, j * 7 + 1, none⟩) h.ne (.int .u64 (hi e.e.x))).far (p := ⟨gr, j * 7 + 2, none⟩) h.ne (.int .u64 (lo e.e.x))).far (p := ⟨gr, j * 7 + 3, none⟩) h.ne (.int .u64 (hi e.e.m))).far (p := ⟨gr, j * 7 + 4, none⟩) h.ne (.int .u64 (lo e.e.m))).far (p := ⟨gr, j * 7 + 5, none⟩) h.ne (.int .i64 e.e.len)).far (p := ⟨gr, j * 7 + 6, none⟩) h.ne (.int .i64 e.e.act)).set_ 1 (.int .i64 (n + 1))
  have hlen : (l.set j e).length = l.length := List.length_set ..
  refine ⟨?_, by rw [hlen]; exact hb, h.low, h.ne, by rw [hlen]; exact h.pos, by rw [hlen]; exact h.le⟩
  rw [hlen, ← setAll_flat Slot.cells_len l j hj e]
  exact ho.far (p := ⟨g, 1, none⟩) h.low (by simp [Value.ownBlock]; exact fun e => h.ne e.symm) _
set_option maxHeartbeats 1000000 in
set_option maxRecDepth 100000 in
theorem bdo_ok {W0 w : World} {g gr : Nat} {l : List Slot} {n : Int} (h : BankAt W0 w g gr l n) (h0 : 0 ≤ n) (h1000 : n ≤ 1000) (x : Wr) (hm : mayW x l.length = true) : Calls Try.prog 18 #[.pointer (some ⟨g, 0, none⟩), wrv x] w (DoPost W0 w g gr l n x) := by
  have e1 := doE_ok hm
  have hat := mayW_at hm
  obtain ⟨at_, e⟩ := x
  dsimp only at hat
  obtain ⟨hat0, hat1⟩ := hat
  obtain ⟨j, rfl⟩ := Int.eq_ofNat_of_zero_le hat0
  have hj : j < l.length := by omega
  have ep : putW l ⟨j, e⟩ = l.set j e := by unfold putW; rw [hm]; rfl
  have HP := Lib.hid (fun w2 (hc : Chg w w2 g gr) (hb : BankAt W0 w2 g gr (l.set j e) (n + 1)) => show DoPost W0 w g gr l n ⟨j, e⟩ (.returned (.int .i64 0)) w2 from ⟨by rw [e1], hc, by rw [ep, hm]; exact hb⟩)
  obtain ⟨c0, c1, hlt⟩ := Blk.two h.blk
  have HM := Lib.hid (bmay_as hm)
  have HB := Lib.hid h
  have HE := Lib.hid (Own.els Slot.cells_len h.own)
  obtain ⟨hbz, hcellz⟩ := (HE.out).at2 (j) hj
  obtain ⟨ez, heez⟩ : ∃ e, (l)[j]'hj = e := ⟨_, rfl⟩
  rw [heez] at hcellz
  have cz0 : w.cell? ⟨gr, j * 7, none⟩ = some (.bool ez.v) := by have h := hcellz 0 (by omega); rw [Nat.zero_add] at h; exact h
  have cz1 : w.cell? ⟨gr, j * 7 + 1, none⟩ = some (.int .u64 (hi ez.e.x)) := by have h := hcellz 1 (by omega); rw [Nat.zero_add] at h; exact h
  have cz2 : w.cell? ⟨gr, j * 7 + 2, none⟩ = some (.int .u64 (lo ez.e.x)) := by have h := hcellz 2 (by omega); rw [Nat.zero_add] at h; exact h
  have cz3 : w.cell? ⟨gr, j * 7 + 3, none⟩ = some (.int .u64 (hi ez.e.m)) := by have h := hcellz 3 (by omega); rw [Nat.zero_add] at h; exact h
  have cz4 : w.cell? ⟨gr, j * 7 + 4, none⟩ = some (.int .u64 (lo ez.e.m)) := by have h := hcellz 4 (by omega); rw [Nat.zero_add] at h; exact h
  have cz5 : w.cell? ⟨gr, j * 7 + 5, none⟩ = some (.int .i64 ez.e.len) := by have h := hcellz 5 (by omega); rw [Nat.zero_add] at h; exact h
  have cz6 : w.cell? ⟨gr, j * 7 + 6, none⟩ = some (.int .i64 ez.e.act) := by have h := hcellz 6 (by omega); rw [Nat.zero_add] at h; exact h
  have Heez := Lib.hid heez
  clear hcellz heez
  have hfz := fun k => h.own.2.frozenAt k
  have hfg := fun k => h.blk.frozen k
  have hne : (g = gr) = False := eq_false h.ne
  have hne2 : (gr = g) = False := eq_false h.ne.symm
  clear h e1 hm Heez hat0 ep
  have h1 : decide ((j : Int) < 0) = false := by simp
  have h2 : decide ((l.length : Int) ≤ (j : Int)) = false := by simp; omega
  have h3 : decide (l.length ≤ j) = false := by simp; omega
  have j0 : (0 : Int) ≤ j := by omega
  go_enter Try.func18, Try.ntmps18
  go_wp2_with fail
  refine region_ext _ (by first | exact Later.ext _ _ | exact Later.refl _) mixed (by kernel_rfl) ?_
  repeat (go_big_quiet_step (fail))
  refine wpQuiet_nil ?_
  rintro _ ⟨q, rfl⟩
  go_wp2_with fail
  refine region_ext _ (by first | exact Later.ext _ _ | exact Later.refl _) mixed (by kernel_rfl) ?_
  repeat (go_big_quiet_step ((first | (go_at_call 42; exact calls_in (HM.out _)))))
  refine wpQuiet_nil ?_
  rintro _ ⟨q, rfl⟩
  go_wp2_with fail
  refine region_ext_tail _ (by first | exact Later.ext _ _ | exact Later.refl _) 9 mixed (by kernel_rfl) ?_
  simp only [List.take_succ_cons, List.take_zero, List.drop_succ_cons, List.drop_zero]
  repeat (go_big_quiet_step (fail))
  refine wpQuiet_nil ?_
  rintro _ ⟨q, rfl⟩
  go_wp2_with fail
  go_ret
  have hk := (Kept.alloc (Kept.refl w) (.cells #[.int .i64 (j : Int), .bool e.v, .int .u64 (hi e.e.x), .int .u64 (lo e.e.x), .int .u64 (hi e.e.m), .int .u64 (lo e.e.m), .int .i64 e.e.len, .int .i64 e.e.act] 52)).ext q
  exact HP.out _ ((((((((((Chg.of g gr hk).setCell gr _ (.inr rfl) _).setCell gr _ (.inr rfl) _).setCell gr _ (.inr rfl) _).setCell gr _ (.inr rfl) _).setCell gr _ (.inr rfl) _).setCell gr _ (.inr rfl) _).setCell gr _ (.inr rfl) _).setCell g _ (.inl rfl) _)) (bank_put (HB.out.kept hk) j hj e)
theorem bdo_any {W0 w : World} {g gr : Nat} {l : List Slot} {n : Int} (h : BankAt W0 w g gr l n) (h0 : 0 ≤ n) (h1000 : n ≤ 1000) (x : Wr) : Calls Try.prog 18 #[.pointer (some ⟨g, 0, none⟩), wrv x] w (DoPost W0 w g gr l n x) := by
  by_cases hx : x.at_ < 0 ∨ (l.length : Int) ≤ x.at_
  · exact bdo_slot h x hx
  · cases hm : mayW x l.length
    · exact bdo_bad h x hx hm
    · exact bdo_ok h h0 h1000 x hm
end Go.Proofs.Ytemfocnjlimicaa
