/- Slots as lists: the reference's Entries, Free. -/
import Derived.Test.YtdlikcdmhgbolaaBank3
namespace Go.Proofs.Ytdlikcdmhgbolaa
open Go.RowKit Pg

set_option maxHeartbeats 1000000 in
set_option maxRecDepth 100000 in
theorem refentries_any {l : List Slot} {v : Value} (w : World) (hl : Els w v 7 Slot.cells l) (hn : l.length ≤ 1000) : Calls Try.prog 24 #[v] w (RetEls 43 6 Ent.cells (entsS l) w) := by
  obtain ⟨a, c, rfl, hc, he⟩ := hl.form
  have HE := Lib.hid he
  clear hl he
  go_enter Try.func24, Try.ntmps24
  go_wp2_with fail
  go_loopw [3, 4] (fun vo vk wr => ∃ k : Nat, k ≤ l.length ∧ vk = .int .i64 k ∧ Own w wr 43 6 vo (entsS (l.take k)).length ((entsS (l.take k)).flatMap Ent.cells)) (fun _ k _ => l.length - (intOf k).toNat)
  case atStart => exact ⟨0, by omega, rfl, Own.nil _ _ (Kept.refl _) _ _⟩
  case round =>
    obtain ⟨k, hk, rfl, hown⟩ := hrel
    by_cases hlt : k < l.length
    · obtain ⟨A, hA⟩ : ∃ A, A = entsS (l.take k) := ⟨_, rfl⟩
      rw [← hA] at hown
      have HO := Lib.hid hown
      have hkl : (k : Int) < (l.length : Int) := by omega
      have k0 : (0 : Int) ≤ k := by omega
      have hT := show l.take (k + 1) = l.take k ++ [l[k]] from List.take_succ_eq_append_getElem hlt
      obtain ⟨b, o, rfl, hb, hcell⟩ := (HE.out.kept hown.kept).at_ (k) hlt
      obtain ⟨e, hee⟩ : ∃ e, (l)[k]'hlt = e := ⟨_, rfl⟩
      rw [hee] at hcell
      have c0 : wr.cell? ⟨b, o + k * 7, none⟩ = some (.bool e.v) := hcell 0 (by omega)
      have c1 : wr.cell? ⟨b, o + k * 7 + 1, none⟩ = some (.int .u64 (hi e.e.x)) := hcell 1 (by omega)
      have c2 : wr.cell? ⟨b, o + k * 7 + 2, none⟩ = some (.int .u64 (lo e.e.x)) := hcell 2 (by omega)
      have c3 : wr.cell? ⟨b, o + k * 7 + 3, none⟩ = some (.int .u64 (hi e.e.m)) := hcell 3 (by omega)
      have c4 : wr.cell? ⟨b, o + k * 7 + 4, none⟩ = some (.int .u64 (lo e.e.m)) := hcell 4 (by omega)
      have c5 : wr.cell? ⟨b, o + k * 7 + 5, none⟩ = some (.int .i64 e.e.len) := hcell 5 (by omega)
      have c6 : wr.cell? ⟨b, o + k * 7 + 6, none⟩ = some (.int .i64 e.e.act) := hcell 6 (by omega)
      have Hee := Lib.hid hee
      clear hcell hee
      rw [Hee.out] at hT
      have hAl : A.length ≤ k := by rw [hA]; exact Nat.le_trans (entsS_len (l.take k)) (List.length_take_le k l)
      obtain ⟨v, e⟩ := e
      cases v
      · have HT := Lib.hid (show entsS (l.take (k + 1)) = A by rw [hT, hA]; exact entsS_no _ _ rfl)
        clear hown Hee hT hA
        go_wp2_with fail
        go_roundw
        case rel => exact ⟨k + 1, by omega, by go_num, by rw [HT.out]; exact HO.out⟩
        case measure => simp [intOf]; omega
      · have HT := Lib.hid (show entsS (l.take (k + 1)) = A ++ [e] by rw [hT, hA]; exact entsS_yes _ _ rfl)
        clear hown Hee hT hA
        go_wp2_with (first | (at_builtin; refine wpList_push rfl _ _ 62 rfl 43 (.agg #[.int .u64 0, .int .u64 0, .int .u64 0, .int .u64 0, .int .i64 0, .int .i64 0]) 6 48 Try.underlying62 info_refent rfl (by omega) u3 A.length _ rfl (HO.out.alloc _) _ 1 1 (Ent.cells e) rfl rfl (heap_alloc_new _ _) (by simp [Ent.cells, Value.oneCell']) (by unfold maxLen; omega) (by omega) ?_; intro v' w1 hown1))
        go_roundw
        case rel => exact ⟨k + 1, by omega, by go_num, by rw [HT.out, List.flatMap_append]; simpa using hown1⟩
        case measure => simp [intOf]; omega
    · have hkl : k = l.length := by omega
      subst hkl
      have HO := Lib.hid hown
      clear hown hlt hk
      go_wp2_with fail
      go_ret
      exact RetEls.mk (Kept.refl w) (by have := HO.out; rwa [List.take_length] at this)
set_option maxHeartbeats 1000000 in
set_option maxRecDepth 100000 in
theorem bfree_any {l : List Slot} {v : Value} (w : World) (hl : Els w v 7 Slot.cells l) (hn : l.length ≤ 1000) : Calls Try.prog 22 #[v] w (Ret (.int .i64 ((l.length : Int) - ((entsS l).length : Int))) w) := by
  have hb := Lib.hid (bentries_any w hl hn)
  have hle := entsS_len l
  obtain ⟨a, c, rfl, hc, he⟩ := hl.form
  clear hl he
  go_enter Try.func22, Try.ntmps22
  go_wp2_with fail
  refine hb.out.mono ?_
  rintro e w1 hR
  obtain ⟨a1, c1, rfl, hlc1, hown1, hels1⟩ := RetEls.out2 Ent.cells_len hR
  have hk1 := Lib.hid hown1.1
  clear hown1 hels1 hR
  go_wp2_with fail
  go_ret
  exact Ret.of (by go_num) (by simp (maxDischargeDepth := 99) [hk1.out])
end Go.Proofs.Ytdlikcdmhgbolaa
