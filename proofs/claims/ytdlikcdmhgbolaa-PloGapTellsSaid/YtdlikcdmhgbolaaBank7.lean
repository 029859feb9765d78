/- Slots behind writes: bank.Apply. -/
import Derived.Test.YtdlikcdmhgbolaaBank6
namespace Pg
open Go
/-- Slots behind one write. -/
def putW (l : List Slot) (x : Wr) : List Slot := if mayW x l.length then l.set x.at_.toNat x.s else l
def applyS (l : List Slot) (ws : List Wr) : List Slot := ws.foldl putW l
theorem putW_len (l : List Slot) (x : Wr) : (putW l x).length = l.length := by unfold putW; split <;> simp
theorem applyS_len (ws : List Wr) : ∀ l : List Slot, (applyS l ws).length = l.length := by
  induction ws with
  | nil => intro l; rfl
  | cons x ws ih => intro l; show (applyS (putW l x) ws).length = _; rw [ih, putW_len]
theorem applyS_snoc (l : List Slot) (ws : List Wr) (x : Wr) : applyS l (ws ++ [x]) = putW (applyS l ws) x := by unfold applyS; rw [List.foldl_append]; rfl
theorem mayW_at {x : Wr} {n : Int} (h : mayW x n = true) : 0 ≤ x.at_ ∧ x.at_ < n := by
  unfold mayW at h
  simp only [Bool.and_eq_true, decide_eq_true_eq] at h
  exact ⟨h.1, h.2.1⟩
end Pg
namespace Go.Proofs.Ytdlikcdmhgbolaa
open Go.RowKit Pg

set_option maxHeartbeats 1000000 in
set_option maxRecDepth 100000 in
theorem bapply_any {l : List Slot} {ws : List Wr} {v u : Value} (w : World) (hl : Els w v 7 Slot.cells l) (hn : l.length ≤ 1000) (hw : Els w u 8 Wr.cells ws) (hm : ws.length ≤ 1000) :
    Calls Try.prog 25 #[v, u] w (RetEls 58 7 Slot.cells (applyS l ws) w) := by
  have hcl := Lib.hid (cloneSlot_any w hl (by omega))
  obtain ⟨a, c, rfl, hc, he⟩ := hl.form
  obtain ⟨a2, c2, rfl, hc2, he2⟩ := hw.form
  have HW := Lib.hid he2
  clear hl he hw he2
  go_enter Try.func25, Try.ntmps25
  go_wp2_with fail
  refine hcl.out.mono ?_
  rintro e w1 hR
  obtain ⟨a1, cc, rfl, hlc1, hown1, hels1⟩ := RetEls.out2 Slot.cells_len hR
  have HO1 := Lib.hid hown1
  clear hown1 hels1 hR
  go_wp2_with fail
  go_loopw [7, 12] (fun _ vk wr => ∃ k : Nat, k ≤ ws.length ∧ vk = .int .i64 k ∧ Own w wr 58 7 (.slice a1 l.length cc) l.length ((applyS l (ws.take k)).flatMap Slot.cells)) (fun _ k _ => ws.length - (intOf k).toNat)
  case atStart => exact ⟨0, by omega, rfl, HO1.out⟩
  case round =>
    clear HO1 hcl
    obtain ⟨k, hk, rfl, hown⟩ := hrel
    by_cases hlt : k < ws.length
    · have HO := Lib.hid hown
      have hkl : (k : Int) < (ws.length : Int) := by omega
      obtain ⟨b, o, rfl, hb, hcell⟩ := (HW.out.kept hown.kept).at_ (k) hlt
      obtain ⟨e, hee⟩ : ∃ e, (ws)[k]'hlt = e := ⟨_, rfl⟩
      rw [hee] at hcell
      have c0 : wr.cell? ⟨b, o + k * 8, none⟩ = some (.int .i64 e.at_) := hcell 0 (by omega)
      have c1 : wr.cell? ⟨b, o + k * 8 + 1, none⟩ = some (.bool e.s.v) := hcell 1 (by omega)
      have c2 : wr.cell? ⟨b, o + k * 8 + 2, none⟩ = some (.int .u64 (hi e.s.e.x)) := hcell 2 (by omega)
      have c3 : wr.cell? ⟨b, o + k * 8 + 3, none⟩ = some (.int .u64 (lo e.s.e.x)) := hcell 3 (by omega)
      have c4 : wr.cell? ⟨b, o + k * 8 + 4, none⟩ = some (.int .u64 (hi e.s.e.m)) := hcell 4 (by omega)
      have c5 : wr.cell? ⟨b, o + k * 8 + 5, none⟩ = some (.int .u64 (lo e.s.e.m)) := hcell 5 (by omega)
      have c6 : wr.cell? ⟨b, o + k * 8 + 6, none⟩ = some (.int .i64 e.s.e.len) := hcell 6 (by omega)
      have c7 : wr.cell? ⟨b, o + k * 8 + 7, none⟩ = some (.int .i64 e.s.e.act) := hcell 7 (by omega)
      have Hee := Lib.hid hee
      clear hcell hee
      have hT : applyS l (ws.take (k + 1)) = putW (applyS l (ws.take k)) e := by rw [List.take_succ_eq_append_getElem hlt, applyS_snoc, Hee.out]
      have hL := applyS_len (ws.take k) l
      obtain ⟨L, hLe⟩ : ∃ L, L = applyS l (ws.take k) := ⟨_, rfl⟩
      rw [← hLe] at hT hL HO
      cases hmay : mayW e l.length
      · have HT := Lib.hid (show applyS l (ws.take (k + 1)) = L by rw [hT]; unfold putW; rw [hL, hmay]; rfl)
        have HM := Lib.hid (bmay_as hmay)
        clear hown Hee hT hLe hmay
        go_wp2_with (first | (go_at_call 44; first | ((refine (calls_in (HM.out _)).mono ?_); rintro e w1 ⟨rfl, q1, rfl⟩) | ((refine (HM.out _).mono ?_); rintro e w1 ⟨rfl, q1, rfl⟩)))
        go_roundw
        case rel => exact ⟨k + 1, by omega, by go_num, by rw [HT.out]; exact (HO.out.alloc _).ext _⟩
        case measure => simp [intOf]; omega
      · have HT := Lib.hid (show applyS l (ws.take (k + 1)) = L.set e.at_.toNat e.s by rw [hT]; unfold putW; rw [hL, hmay]; rfl)
        obtain ⟨h0, h1⟩ := mayW_at hmay
        have HM := Lib.hid (bmay_as hmay)
        obtain ⟨b5, c5', hv5, hb0, hblt, hnc, hcl, hfz⟩ := hown.form (by omega)
        injection hv5 with e1 e2 e3
        subst e1 e3
        obtain ⟨at_, e⟩ := e
        dsimp only at h0 h1 HT c0 c1 c2 c3 c4 c5 c6 c7
        obtain ⟨j, rfl⟩ := Int.eq_ofNat_of_zero_le h0
        have hjl : j < L.length := by omega
        have hfz := fun k => HO.out.2.frozenAt k
        have hown2 : Own w wr 58 7 (.slice (some ⟨b5, 0, none⟩) L.length cc) L.length (L.flatMap Slot.cells) := by rw [hL]; exact HO.out
        have HE5 := Lib.hid (Own.els Slot.cells_len hown2)
        obtain ⟨hbz, hcellz⟩ := (HE5.out).at2 (j) hjl
        obtain ⟨ez, heez⟩ : ∃ e, (L)[j]'hjl = e := ⟨_, rfl⟩
        rw [heez] at hcellz
        have cz0 : wr.cell? ⟨b5, j * 7, none⟩ = some (.bool ez.v) := by have h := hcellz 0 (by omega); rw [Nat.zero_add] at h; exact h
        have cz1 : wr.cell? ⟨b5, j * 7 + 1, none⟩ = some (.int .u64 (hi ez.e.x)) := by have h := hcellz 1 (by omega); rw [Nat.zero_add] at h; exact h
        have cz2 : wr.cell? ⟨b5, j * 7 + 2, none⟩ = some (.int .u64 (lo ez.e.x)) := by have h := hcellz 2 (by omega); rw [Nat.zero_add] at h; exact h
        have cz3 : wr.cell? ⟨b5, j * 7 + 3, none⟩ = some (.int .u64 (hi ez.e.m)) := by have h := hcellz 3 (by omega); rw [Nat.zero_add] at h; exact h
        have cz4 : wr.cell? ⟨b5, j * 7 + 4, none⟩ = some (.int .u64 (lo ez.e.m)) := by have h := hcellz 4 (by omega); rw [Nat.zero_add] at h; exact h
        have cz5 : wr.cell? ⟨b5, j * 7 + 5, none⟩ = some (.int .i64 ez.e.len) := by have h := hcellz 5 (by omega); rw [Nat.zero_add] at h; exact h
        have cz6 : wr.cell? ⟨b5, j * 7 + 6, none⟩ = some (.int .i64 ez.e.act) := by have h := hcellz 6 (by omega); rw [Nat.zero_add] at h; exact h
        have Heez := Lib.hid heez
        clear hcellz heez
        clear hown hown2 Hee Heez hT hLe hmay hcl
        go_wp2_with (first | (go_at_call 44; first | ((refine (calls_in (HM.out _)).mono ?_); rintro e w1 ⟨rfl, q1, rfl⟩) | ((refine (HM.out _).mono ?_); rintro e w1 ⟨rfl, q1, rfl⟩)))
        go_roundw
        case rel =>
          refine ⟨k + 1, by omega, by go_num, ?_⟩
          have ho := (((HO.out.alloc (.cells #[.int .i64 j, .bool e.v, .int .u64 (hi e.e.x), .int .u64 (lo e.e.x), .int .u64 (hi e.e.m), .int .u64 (lo e.e.m), .int .i64 e.e.len, .int .i64 e.e.act] 60)).ext q1))
          rw [HT.out, Int.toNat_natCast, ← setAll_flat Slot.cells_len L j hjl e]
          exact (Own.stored (Own.stored (Own.stored (Own.stored (Own.stored (Own.stored (Own.stored ho hb0 (j * 7 + 0) _) hb0 (j * 7 + 1) _) hb0 (j * 7 + 2) _) hb0 (j * 7 + 3) _) hb0 (j * 7 + 4) _) hb0 (j * 7 + 5) _) hb0 (j * 7 + 6) _)
        case measure => simp [intOf]; omega
    · have hkl : k = ws.length := by omega
      subst hkl
      rw [List.take_length] at hown
      have HO := Lib.hid hown
      clear hown hlt hk
      go_wp2_with fail
      go_ret
      exact RetEls.mk (Kept.refl w) (by rw [applyS_len]; exact HO.out)
end Go.Proofs.Ytdlikcdmhgbolaa
