/- Slots as lists: the reference's May; One, Of, Writes of the law; Entries, Free. -/
import Derived.Test.YtdlikcdmhgbolaaBank2
namespace Pg
open Go
def entsS (l : List Slot) : List Ent := (l.filter Slot.v).map Slot.e
theorem entsS_len (l : List Slot) : (entsS l).length ≤ l.length := by unfold entsS; rw [List.length_map]; exact List.length_filter_le _ _
theorem entsS_yes (l : List Slot) (s : Slot) (h : s.v = true) : entsS (l ++ [s]) = entsS l ++ [s.e] := by unfold entsS; rw [List.filter_append, List.map_append, List.filter_cons_of_pos h]; rfl
theorem entsS_no (l : List Slot) (s : Slot) (h : s.v = false) : entsS (l ++ [s]) = entsS l := by unfold entsS; rw [List.filter_append, List.filter_cons_of_neg (by simp [h])]; simp
end Pg
namespace Go.Proofs.Ytdlikcdmhgbolaa
open Go.RowKit Pg

@[go_sem] theorem eq_pair_zero (d : Nat) (x : B) (w : World) : (Op.equalIn (d + 2) 24 (av x) (.agg #[.int .u64 0, .int .u64 0])).run Try.prog w = .ok (decide (x = 0#128)) w := eq_pair d x 0#128 w
set_option maxHeartbeats 1000000 in
set_option maxRecDepth 100000 in
theorem law08of_any {l : List Slot} {v : Value} (w : World) (hl : Els w v 7 Slot.cells l) (hn : l.length ≤ 1000) : Calls Try.prog 9 #[v] w (RetEls 68 7 Slot.cells l w) := by
  obtain ⟨a, c, rfl, hc, he⟩ := hl.form
  have HE := Lib.hid he
  clear hl he
  go_enter Try.func9, Try.ntmps9
  go_wp2_with fail
  go_loopw [3, 5, 8] (fun vo _ vk wr => ∃ k : Nat, k ≤ l.length ∧ vk = .int .i64 k ∧ Own w wr 68 7 vo k ((l.take k).flatMap Slot.cells)) (fun _ _ k _ => l.length - (intOf k).toNat)
  case atStart => exact ⟨0, by omega, rfl, Own.nil _ _ (Kept.refl _) _ _⟩
  case round =>
    obtain ⟨k, hk, rfl, hown⟩ := hrel
    by_cases hlt : k < l.length
    · have HO := Lib.hid hown
      have hkl : (k : Int) < (l.length : Int) := by omega
      have HT := Lib.hid (show l.take (k + 1) = l.take k ++ [l[k]] from List.take_succ_eq_append_getElem hlt)
      obtain ⟨b, o, rfl, hb, hcell⟩ := (HE.out.kept hown.kept).at_ (k) hlt
      obtain ⟨e, hee⟩ : ∃ e, (l)[k]'hlt = e := ⟨_, rfl⟩
      rw [hee] at hcell
      have c0 : wr.cell? ⟨b, o + k * 7, none⟩ = some (.bool e.v) := hcell 0 (by omega)
      have c1 : wr.cell? ⟨b, o + k * 7 + 1, none⟩ = some (.int .u64 (hi e.e.x)) := hcell 1 (by omega)
      have c2 : wr.cell? ⟨b, o + k * 7 + 2, none⟩ = some (.int .u64 (lo e.e.x)) := hcell 2 (by omega)
      have c3 : wr.cell? ⟨b, o + k * 7 + 3, none⟩ = some (.int .u64 (hi e.e.m)) := hcell 3 (by omega)
      have c4 : wr.cell? ⟨b, o + k * 7 + 4, none⟩ = some (.int .u64 (lo e.e.m)) := hcell 4 (by omega)
      have c5 : wr.cell? ⟨b, o + k * 7 + 5, none⟩ = some (.int .i64 e.e.len) := hcell 5 (by omega)
      have c6 : wr.cell? ⟨b, o + k * 7 + 6, none⟩ = some (.int .i64 e.e.act) := hcell 6 (by omega)
      have Hee := Lib.hid hee
      clear hcell hee
      rw [Hee.out] at HT
      clear hown Hee
      go_wp2_with (first | (go_at_call 27; first | ((refine (calls_in (law08one_any _ _)).mono ?_); rintro e w1 ⟨rfl, q1, rfl⟩) | ((refine (law08one_any _ _).mono ?_); rintro e w1 ⟨rfl, q1, rfl⟩)) | (at_builtin; refine wpList_push rfl _ _ 31 rfl 68 (.agg #[.bool false, .int .u64 0, .int .u64 0, .int .u64 0, .int .u64 0, .int .i64 0, .int .i64 0]) 7 56 Try.underlying31 info_refslot rfl (by omega) u3 k _ rfl (((HO.out.alloc _).ext _).alloc _) _ 1 1 (Slot.cells e) rfl rfl (heap_alloc_new _ _) (by simp [Slot.cells, Value.oneCell']) (by unfold maxLen; omega) (by omega) ?_; intro v' w1 hown1))
      go_roundw
      case rel => exact ⟨k + 1, by omega, by go_num, by rw [HT.out, List.flatMap_append]; simpa using hown1⟩
      case measure => simp [intOf]; omega
    · have hkl : k = l.length := by omega
      subst hkl
      have HO := Lib.hid hown
      clear hown hlt hk
      go_wp2_with fail
      go_ret
      exact RetEls.mk (Kept.refl w) (by have := HO.out; rwa [List.take_length] at this)
set_option maxHeartbeats 1000000 in
set_option maxRecDepth 100000 in
theorem bentries_any {l : List Slot} {v : Value} (w : World) (hl : Els w v 7 Slot.cells l) (hn : l.length ≤ 1000) : Calls Try.prog 40 #[v] w (RetEls 29 6 Ent.cells (entsS l) w) := by
  obtain ⟨a, c, rfl, hc, he⟩ := hl.form
  have HE := Lib.hid he
  clear hl he
  go_enter Try.func40, Try.ntmps40
  go_wp2_with fail
  go_loopw [3, 5, 8] (fun vo _ vk wr => ∃ k : Nat, k ≤ l.length ∧ vk = .int .i64 k ∧ Own w wr 29 6 vo (entsS (l.take k)).length ((entsS (l.take k)).flatMap Ent.cells)) (fun _ _ k _ => l.length - (intOf k).toNat)
  case atStart => exact ⟨0, by omega, rfl, Own.nil _ _ (Kept.refl _) _ _⟩
  case round =>
    obtain ⟨k, hk, rfl, hown⟩ := hrel
    by_cases hlt : k < l.length
    · obtain ⟨A, hA⟩ : ∃ A, A = entsS (l.take k) := ⟨_, rfl⟩
      rw [← hA] at hown
      have HO := Lib.hid hown
      have hkl : (k : Int) < (l.length : Int) := by omega
      have hT := show l.take (k + 1) = l.take k ++ [l[k]] from List.take_succ_eq_append_getElem hlt
      obtain ⟨b, o, rfl, hb, hcell⟩ := (HE.out.kept hown.kept).at_ (k) hlt
      obtain ⟨e, hee⟩ : ∃ e, (l)[k]'hlt = e := ⟨_, rfl⟩
      rw [hee] at hcell
      have c0 : wr.cell? ⟨b, o + k * 7, none⟩ = some (.bool e.v) := hcell 0 (by omega)
      have c1 : wr.cell? ⟨b, o + k * 7 + 1, none⟩ = some (.int .u64 (hi e.e.x)) := hcell 1 (by omega)
      have c2 : wr.cell? ⟨b, o + k * 7 + 2, none⟩ = some (.int .u64 (lo e.e.x)) := hcell 2 (by omega)
      have c3 : wr.cell? ⟨b, o + k * 7 + 3, none⟩ = some (.int .u64 (hi e.e.m)) := hcell 3 (by omega)
      have c4 : wr.cell? ⟨b, o + k * 7 + 4, none⟩ = some (.int .u64 (lo e.e.m)) := hcell 4 (by omega)
      have c5 : wr.cell? ⟨b, o + k * 7 + 5, none⟩ = some (.int .i64 e.e.len) := hcell 5 (by omega)
      have c6 : wr.cell? ⟨b, o + k * 7 + 6, none⟩ = some (.int .i64 e.e.act) := hcell 6 (by omega)
      have Hee := Lib.hid hee
      clear hcell hee
      rw [Hee.out] at hT
      have hAl : A.length ≤ k := by rw [hA]; exact Nat.le_trans (entsS_len (l.take k)) (List.length_take_le k l)
      obtain ⟨v, e⟩ := e
      cases v
      · have HT := Lib.hid (show entsS (l.take (k + 1)) = A by rw [hT, hA]; exact entsS_no _ _ rfl)
        clear hown Hee hT hA
        go_wp2_with fail
        go_roundw
        case rel => exact ⟨k + 1, by omega, by go_num, by rw [HT.out]; exact HO.out.alloc _⟩
        case measure => simp [intOf]; omega
      · have HT := Lib.hid (show entsS (l.take (k + 1)) = A ++ [e] by rw [hT, hA]; exact entsS_yes _ _ rfl)
        clear hown Hee hT hA
        have q1 : ∀ u ∈ Ent.cells e, u.oneCell' = true := by simp [Ent.cells, Value.oneCell']
        have q2 : A.length + 1 ≤ maxLen := by unfold maxLen; omega
        have q3 : (A.length + 1) * 48 ≤ 140737488355328 := by omega
        go_wp2_with (first | (at_builtin; refine wpList_push (W0 := w) rfl _ _ 83 rfl 29 (.agg #[.int .u64 0, .int .u64 0, .int .u64 0, .int .u64 0, .int .i64 0, .int .i64 0]) 6 48 Try.underlying83 info_ent rfl (by omega) u3 A.length (A.flatMap Ent.cells) rfl ((HO.out.alloc _).alloc _) _ 1 1 (Ent.cells e) rfl rfl (Blk.new' _ _ _ (by simp)) q1 q2 q3 ?_; intro v' w1 hown1))
        go_roundw
        case rel => exact ⟨k + 1, by omega, by go_num, by rw [HT.out, List.flatMap_append]; simpa using hown1⟩
        case measure => simp [intOf]; omega
    · have hkl : k = l.length := by omega
      subst hkl
      have HO := Lib.hid hown
      clear hown hlt hk
      go_wp2_with fail
      go_ret
      exact RetEls.mk (Kept.refl w) (by have := HO.out; rwa [List.take_length] at this)
end Go.Proofs.Ytdlikcdmhgbolaa
