/- Slots as lists: the reference's May; One, Of, Writes of the law; Entries, Free. -/
import Derived.Test.YtemfocnjlimicaaBank2
namespace Pg
open Go
def entsS (l : List Slot) : List Ent := (l.filter Slot.v).map Slot.e
theorem entsS_len (l : List Slot) : (entsS l).length ≤ l.length := by unfold entsS; rw [List.length_map]; exact List.length_filter_le _ _
theorem entsS_yes (l : List Slot) (s : Slot) (h : s.v = true) : entsS (l ++ [s]) = entsS l ++ [s.e] := by unfold entsS; rw [List.filter_append, List.map_append, List.filter_cons_of_pos h]; rfl
theorem entsS_no (l : List Slot) (s : Slot) (h : s.v = false) : entsS (l ++ [s]) = entsS l := by unfold entsS; rw [List.filter_append, List.filter_cons_of_neg (by simp [h])]; simp
end Pg
namespace Go.Proofs.Ytemfocnjlimicaa
open Go.RowKit Pg

@[go_sem] theorem eq_pair_zero (d : Nat) (x : B) (w : World) : (Op.equalIn (d + 2) 24 (av x) (.agg #[.int .u64 0, .int .u64 0])).run Try.prog w = .ok (decide (x = 0#128)) w := eq_pair d x 0#128 w
set_option maxHeartbeats 1000000 in
set_option maxRecDepth 100000 in
theorem refmay_yes (x m : B) (len act at_ n : Int) (b : Bool) (w : World) (h0 : 0 ≤ at_) (hn : at_ < n) (h : rightE ⟨x, m, len, act⟩ = b) : Calls Try.prog 33 #[wrv ⟨at_, true, x, m, len, act⟩, .int .i64 n] w (Ret (.bool b) w) := by
  have HR := Lib.hid (fun w => refright8_as h w)
  clear h
  go_enter Try.func33, Try.ntmps33
  cases b
  · go_wp2_with (first | (go_at_call 50; first | ((refine (calls_in (HR.out _)).mono ?_); rintro e w1 ⟨rfl, q1, rfl⟩) | ((refine (HR.out _).mono ?_); rintro e w1 ⟨rfl, q1, rfl⟩)))
    go_ret
    exact Ret.of (rfl) (by simp (maxDischargeDepth := 99))
  · go_wp2_with (first | (go_at_call 50; first | ((refine (calls_in (HR.out _)).mono ?_); rintro e w1 ⟨rfl, q1, rfl⟩) | ((refine (HR.out _).mono ?_); rintro e w1 ⟨rfl, q1, rfl⟩)))
    go_ret
    exact Ret.of (rfl) (by simp (maxDischargeDepth := 99))
set_option maxHeartbeats 1000000 in
set_option maxRecDepth 100000 in
theorem refmay_no (x m : B) (len act at_ n : Int) (w : World) (h0 : 0 ≤ at_) (hn : at_ < n) : Calls Try.prog 33 #[wrv ⟨at_, false, x, m, len, act⟩, .int .i64 n] w (Ret (.bool (zeroE ⟨x, m, len, act⟩)) w) := by
  have g0 : ¬ at_ < 0 := by omega
  have g1 : ¬ n ≤ at_ := by omega
  by_cases hx : x = 0#128
  rotate_left
  · have HV := Lib.hid (show zeroE ⟨x, m, len, act⟩ = false by simp [zeroE, hx])
    go_enter Try.func33, Try.ntmps33
    go_wp2_with fail
    go_ret
    exact Ret.of (by rw [HV.out]; rfl) (by simp (maxDischargeDepth := 99))
  subst hx
  by_cases hm : m = 0#128
  rotate_left
  · have HV := Lib.hid (show zeroE ⟨0#128, m, len, act⟩ = false by simp [zeroE, hm])
    go_enter Try.func33, Try.ntmps33
    go_wp2_with fail
    go_ret
    exact Ret.of (by rw [HV.out]; rfl) (by simp (maxDischargeDepth := 99))
  subst hm
  by_cases hlen : len = 0
  rotate_left
  · have HV := Lib.hid (show zeroE ⟨0#128, 0#128, len, act⟩ = false by simp [zeroE, hlen])
    go_enter Try.func33, Try.ntmps33
    go_wp2_with fail
    go_ret
    exact Ret.of (by rw [HV.out]; rfl) (by simp (maxDischargeDepth := 99))
  subst hlen
  by_cases hact : act = 0
  rotate_left
  · have HV := Lib.hid (show zeroE ⟨0#128, 0#128, 0, act⟩ = false by simp [zeroE, hact])
    go_enter Try.func33, Try.ntmps33
    go_wp2_with fail
    go_ret
    exact Ret.of (by rw [HV.out]; rfl) (by simp (maxDischargeDepth := 99))
  subst hact
  have HV := Lib.hid (show zeroE ⟨0#128, 0#128, 0, 0⟩ = true by simp [zeroE])
  go_enter Try.func33, Try.ntmps33
  go_wp2_with fail
  go_ret
  exact Ret.of (by rw [HV.out]; rfl) (by simp (maxDischargeDepth := 99))
set_option maxHeartbeats 1000000 in
set_option maxRecDepth 100000 in
theorem refmay_at (wr : Wr) (n : Int) (w : World) (h : wr.at_ < 0 ∨ n ≤ wr.at_) : Calls Try.prog 33 #[wrv wr, .int .i64 n] w (Ret (.bool false) w) := by
  by_cases h0 : wr.at_ < 0
  · clear h
    go_enter Try.func33, Try.ntmps33
    go_wp2_with fail
    go_ret
    exact Ret.of (rfl) (by simp (maxDischargeDepth := 99))
  · have h2 : n ≤ wr.at_ := by omega
    clear h
    go_enter Try.func33, Try.ntmps33
    go_wp2_with fail
    go_ret
    exact Ret.of (rfl) (by simp (maxDischargeDepth := 99))
theorem refmay_any (wr : Wr) (n : Int) (w : World) : Calls Try.prog 33 #[wrv wr, .int .i64 n] w (Ret (.bool (mayW wr n)) w) := by
  by_cases h : wr.at_ < 0 ∨ n ≤ wr.at_
  · have hm : mayW wr n = false := by
      unfold mayW
      rcases h with h | h
      · rw [decide_eq_false (show ¬ 0 ≤ wr.at_ by omega)]; rfl
      · rw [decide_eq_false (show ¬ wr.at_ < n by omega)]; simp
    rw [hm]; exact refmay_at wr n w h
  · have h0 : 0 ≤ wr.at_ := by omega
    have hn : wr.at_ < n := by omega
    have hm : mayW wr n = (zeroS wr.s || (wr.s.v && rightE wr.s.e)) := by unfold mayW; rw [decide_eq_true h0, decide_eq_true hn]; simp
    obtain ⟨at_, v, x, m, len, act⟩ := wr
    rw [hm]
    cases v
    · have := refmay_no x m len act at_ n w h0 hn
      simpa [zeroS] using this
    · have := refmay_yes x m len act at_ n _ w h0 hn rfl
      simpa [zeroS] using this
theorem refmay_as {b : Bool} {wr : Wr} {n : Int} (h : mayW wr n = b) (w : World) : Calls Try.prog 33 #[wrv wr, .int .i64 n] w (Ret (.bool b) w) := by rw [← h]; exact refmay_any wr n w
set_option maxHeartbeats 1000000 in
set_option maxRecDepth 100000 in
theorem bentries_any {l : List Slot} {v : Value} (w : World) (hl : Els w v 7 Slot.cells l) (hn : l.length ≤ 1000) : Calls Try.prog 24 #[v] w (RetEls 48 6 Ent.cells (entsS l) w) := by
  obtain ⟨a, c, rfl, hc, he⟩ := hl.form
  have HE := Lib.hid he
  clear hl he
  go_enter Try.func24, Try.ntmps24
  go_wp2_with fail
  go_loopw [3, 5, 8] (fun vo _ vk wr => ∃ k : Nat, k ≤ l.length ∧ vk = .int .i64 k ∧ Own w wr 48 6 vo (entsS (l.take k)).length ((entsS (l.take k)).flatMap Ent.cells)) (fun _ _ k _ => l.length - (intOf k).toNat)
  case atStart => exact ⟨0, by omega, rfl, Own.nil _ _ (Kept.refl _) _ _⟩
  case round =>
    obtain ⟨k, hk, rfl, hown⟩ := hrel
    by_cases hlt : k < l.length
    · obtain ⟨A, hA⟩ : ∃ A, A = entsS (l.take k) := ⟨_, rfl⟩
      rw [← hA] at hown
      have HO := Lib.hid hown
      have hkl : (k : Int) < (l.length : Int) := by omega
      have hT := show l.take (k + 1) = l.take k ++ [l[k]] from List.take_succ_eq_append_getElem hlt
      obtain ⟨b, o, rfl, hb, hcell⟩ := (HE.out.kept hown.kept).at_ (k) hlt
      obtain ⟨e, hee⟩ : ∃ e, (l)[k]'hlt = e := ⟨_, rfl⟩
      rw [hee] at hcell
      have c0 : wr.cell? ⟨b, o + k * 7, none⟩ = some (.bool e.v) := hcell 0 (by omega)
      have c1 : wr.cell? ⟨b, o + k * 7 + 1, none⟩ = some (.int .u64 (hi e.e.x)) := hcell 1 (by omega)
      have c2 : wr.cell? ⟨b, o + k * 7 + 2, none⟩ = some (.int .u64 (lo e.e.x)) := hcell 2 (by omega)
      have c3 : wr.cell? ⟨b, o + k * 7 + 3, none⟩ = some (.int .u64 (hi e.e.m)) := hcell 3 (by omega)
      have c4 : wr.cell? ⟨b, o + k * 7 + 4, none⟩ = some (.int .u64 (lo e.e.m)) := hcell 4 (by omega)
      have c5 : wr.cell? ⟨b, o + k * 7 + 5, none⟩ = some (.int .i64 e.e.len) := hcell 5 (by omega)
      have c6 : wr.cell? ⟨b, o + k * 7 + 6, none⟩ = some (.int .i64 e.e.act) := hcell 6 (by omega)
      have Hee := Lib.hid hee
      clear hcell hee
      rw [Hee.out] at hT
      have hAl : A.length ≤ k := by rw [hA]; exact Nat.le_trans (entsS_len (l.take k)) (List.length_take_le k l)
      obtain ⟨v, e⟩ := e
      cases v
      · have HT := Lib.hid (show entsS (l.take (k + 1)) = A by rw [hT, hA]; exact entsS_no _ _ rfl)
        clear hown Hee hT hA
        go_wp2_with fail
        go_roundw
        case rel => exact ⟨k + 1, by omega, by go_num, by rw [HT.out]; exact HO.out.alloc _⟩
        case measure => simp [intOf]; omega
      · have HT := Lib.hid (show entsS (l.take (k + 1)) = A ++ [e] by rw [hT, hA]; exact entsS_yes _ _ rfl)
        clear hown Hee hT hA
        have q1 : ∀ u ∈ Ent.cells e, u.oneCell' = true := by simp [Ent.cells, Value.oneCell']
        have q2 : A.length + 1 ≤ maxLen := by unfold maxLen; omega
        have q3 : (A.length + 1) * 48 ≤ 140737488355328 := by omega
        go_wp2_with (first | (at_builtin; refine wpList_push (W0 := w) rfl _ _ 61 rfl 48 (.agg #[.int .u64 0, .int .u64 0, .int .u64 0, .int .u64 0, .int .i64 0, .int .i64 0]) 6 48 Try.underlying61 info_ent rfl (by omega) u3 A.length (A.flatMap Ent.cells) rfl ((HO.out.alloc _).alloc _) _ 1 1 (Ent.cells e) rfl rfl (Blk.new' _ _ _ (by simp)) q1 q2 q3 ?_; intro v' w1 hown1))
        go_roundw
        case rel => exact ⟨k + 1, by omega, by go_num, by rw [HT.out, List.flatMap_append]; simpa using hown1⟩
        case measure => simp [intOf]; omega
    · have hkl : k = l.length := by omega
      subst hkl
      have HO := Lib.hid hown
      clear hown hlt hk
      go_wp2_with fail
      go_ret
      exact RetEls.mk (Kept.refl w) (by have := HO.out; rwa [List.take_length] at this)
end Go.Proofs.Ytemfocnjlimicaa
