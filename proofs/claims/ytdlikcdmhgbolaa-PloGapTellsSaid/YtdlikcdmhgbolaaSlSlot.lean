/- Package slices' functions at elements of bank.Slot: the contracts over the program. -/
import Derived.Test.YtdlikcdmhgbolaaInfo
import Derived.Shelf.Abstract
namespace Go.Proofs.Ytdlikcdmhgbolaa
open Go.RowKit Pg

/-- A function value on elements hands back p, in every later world. -/
def GivesSlot (g : FuncId) (lb : Array Value) (p : Slot → Bool) (w : World) : Prop := ∀ (W : World) (e : Slot), Kept w W → Calls Try.prog g (#[slv e] ++ lb) W (Ret (.bool (p e)) W)
theorem idx_hitSlot (p : Slot → Bool) (l : List Slot) (k : Nat) (h : k < l.length) (hp : p l[k] = true) (hn : ∀ i (h2 : i < l.length), i < k → p l[i] = false) : idxI p l = (k : Int) := idxI_hit p l k h hp hn
set_option maxHeartbeats 1000000 in
set_option maxRecDepth 100000 in
theorem indexFuncSlot_any {l : List Slot} {v : Value} (p : Slot → Bool) (g : FuncId) (lb : Array Value) (w : World) (hl : Els w v 7 Slot.cells l) (hn : l.length ≤ 100000) (eg : ∀ args w, (callFunc g args).run Try.prog w = .ok (.enter g args) w)
    (hp : GivesSlot g lb p w) : Calls Try.prog 28 #[v, .func (.func g) #[] lb] w (Ret (.int .i64 (idxI p l)) w) := by
  obtain ⟨a, c, rfl, hc, he⟩ := hl.form
  have HE := Lib.hid he
  have HP := Lib.hid hp
  clear hl he hp
  go_enter Try.func28, Try.ntmps28
  go_wp2_with fail
  go_loopw [5, 8] (fun _ vk wr => ∃ k : Nat, k ≤ l.length ∧ vk = .int .i64 k ∧ Kept w wr ∧ ∀ i (h : i < l.length), i < k → p l[i] = false) (fun _ k _ => l.length - (intOf k).toNat)
  case atStart => exact ⟨0, by omega, rfl, Kept.refl w, fun i h h2 => by omega⟩
  case round =>
    obtain ⟨k, hk, rfl, hkw, hno⟩ := hrel
    have HX := Lib.hid (And.intro hkw hno)
    by_cases hlt : k < l.length
    · have hkl : (k : Int) < (l.length : Int) := by omega
      obtain ⟨b, o, rfl, hb, hcell⟩ := (HE.out.kept hkw).at_ (k) hlt
      obtain ⟨e, hee⟩ : ∃ e, (l)[k]'hlt = e := ⟨_, rfl⟩
      rw [hee] at hcell
      have c0 : wr.cell? ⟨b, o + k * 7, none⟩ = some (.bool e.v) := hcell 0 (by omega)
      have c1 : wr.cell? ⟨b, o + k * 7 + 1, none⟩ = some (.int .u64 (hi e.e.x)) := hcell 1 (by omega)
      have c2 : wr.cell? ⟨b, o + k * 7 + 2, none⟩ = some (.int .u64 (lo e.e.x)) := hcell 2 (by omega)
      have c3 : wr.cell? ⟨b, o + k * 7 + 3, none⟩ = some (.int .u64 (hi e.e.m)) := hcell 3 (by omega)
      have c4 : wr.cell? ⟨b, o + k * 7 + 4, none⟩ = some (.int .u64 (lo e.e.m)) := hcell 4 (by omega)
      have c5 : wr.cell? ⟨b, o + k * 7 + 5, none⟩ = some (.int .i64 e.e.len) := hcell 5 (by omega)
      have c6 : wr.cell? ⟨b, o + k * 7 + 6, none⟩ = some (.int .i64 e.e.act) := hcell 6 (by omega)
      have Hee := Lib.hid hee
      clear hcell hee
      clear hkw hno
      cases hpe : p e
      · have HPE := Lib.hid (show p l[k] = false by rw [Hee.out]; exact hpe)
        have hcall := Lib.hid (show Calls Try.prog g (#[slv e] ++ lb) wr (Ret (.bool false) wr) by rw [← hpe]; exact HP.out wr e HX.out.1)
        clear Hee hpe
        go_wp2_with (first | (go_at_fn g; refine hcall.out.mono ?_; rintro e w1 ⟨rfl, q1, rfl⟩))
        go_roundw
        case rel => exact ⟨k + 1, by omega, by go_num, by simp (maxDischargeDepth := 99) [HX.out.1], fun i h h2 => by
          rcases Nat.lt_or_ge i k with hik | hik
          · exact HX.out.2 i h hik
          · have : i = k := by omega
            subst this; exact HPE.out⟩
        case measure => simp [intOf]; omega
      · have HV := Lib.hid (idxI_hit p l k hlt (show p l[k] = true by rw [Hee.out]; exact hpe) HX.out.2)
        have hcall := Lib.hid (show Calls Try.prog g (#[slv e] ++ lb) wr (Ret (.bool true) wr) by rw [← hpe]; exact HP.out wr e HX.out.1)
        clear Hee hpe
        go_wp2_with (first | (go_at_fn g; refine hcall.out.mono ?_; rintro e w1 ⟨rfl, q1, rfl⟩))
        go_ret
        exact Ret.of (by rw [HV.out]; rfl) (by simp (maxDischargeDepth := 99) [HX.out.1])
    · have HV := Lib.hid (idxI_miss p l fun i h => hno i h (by omega))
      clear hkw hno
      go_wp2_with fail
      go_ret
      exact Ret.of (by rw [HV.out]; rfl) (by simp (maxDischargeDepth := 99) [HX.out.1])
theorem under_slSlot : Try.prog.underlying 22 = some (.slice 58) := Try.underlying22
set_option maxRecDepth 100000 in
theorem cloneSlot_any {l : List Slot} {v : Value} (w : World) (hl : Els w v 7 Slot.cells l) (hn : l.length ≤ 100000) : Calls Try.prog 43 #[v] w (RetEls 58 7 Slot.cells l w) := by
  obtain ⟨a, c, rfl, hc, he⟩ := hl.form
  have HE := Lib.hid he
  clear hl he
  have heq := fun w => Lib.run_eql_slice_nil (P := Try.prog) w 22 58 a l.length c 0 0 under_slSlot
  cases a with
  | none =>
    have h0 : l = [] := by
      obtain ⟨a', c', e, _, h⟩ := HE.out
      by_cases hl : 0 < l.length
      · obtain ⟨b, o, ha, _⟩ := h hl
        injection e with e1
        rw [← e1] at ha; cases ha
      · exact List.eq_nil_of_length_eq_zero (by omega)
    subst h0
    simp only [List.length_nil, Option.isNone_none] at heq
    go_enter Try.func43, Try.ntmps43
    go_wp2_with fail
    go_ret
    exact RetEls.mk (Kept.refl w) (Own.nil _ _ (Kept.refl _) _ _)
  | some ad =>
    have HO := Lib.hid (show Own w (w.alloc (.cells #[] 58)) 58 7 (.slice (some ⟨w.heap.size, 0, none⟩) 0 0) 0 [] from
      ⟨Kept.alloc (Kept.refl w) _, by simp, .inr ⟨w.heap.size, 0, #[], rfl, Nat.le_refl _, heap_alloc_new _ _, Nat.le_refl _, by unfold maxLen; omega, by simp, by simp⟩⟩)
    go_enter Try.func43, Try.ntmps43
    go_wp2_with (first | (at_builtin; refine wpList_push_all rfl _ _ 22 rfl 58 (.agg #[.bool false, .int .u64 0, .int .u64 0, .int .u64 0, .int .u64 0, .int .i64 0, .int .i64 0]) 7 56 Try.underlying22 info_slot rfl (by omega) Slot.cells_len Slot.one _ 0 [] rfl HO.out ad c l rfl (HE.out.alloc _) (by unfold maxLen; omega) (by omega) ?_; intro v' w1 hown1))
    go_ret
    exact RetEls.mk (Kept.refl w) (by simpa using hown1)
end Go.Proofs.Ytdlikcdmhgbolaa
