/- Package slices' functions at elements of bank.Slot: the contracts over the program. -/
import Derived.Test.YtemfocnjlimicaaInfo
import Derived.Shelf.Abstract
namespace Go.Proofs.Ytemfocnjlimicaa
open Go.RowKit Pg

/-- A function value on elements hands back p, in every later world. -/
def GivesSlot (g : FuncId) (lb : Array Value) (p : Slot → Bool) (w : World) : Prop := ∀ (W : World) (e : Slot), Kept w W → Calls Try.prog g (#[slv e] ++ lb) W (Ret (.bool (p e)) W)
theorem idx_hitSlot (p : Slot → Bool) (l : List Slot) (k : Nat) (h : k < l.length) (hp : p l[k] = true) (hn : ∀ i (h2 : i < l.length), i < k → p l[i] = false) : idxI p l = (k : Int) := idxI_hit p l k h hp hn
set_option maxHeartbeats 1000000 in
set_option maxRecDepth 100000 in
theorem indexFuncSlot_any {l : List Slot} {v : Value} (p : Slot → Bool) (g : FuncId) (lb : Array Value) (w : World) (hl : Els w v 7 Slot.cells l) (hn : l.length ≤ 100000) (eg : ∀ args w, (callFunc g args).run Try.prog w = .ok (.enter g args) w)
    (hp : GivesSlot g lb p w) : Calls Try.prog 52 #[v, .func (.func g) #[] lb] w (Ret (.int .i64 (idxI p l)) w) := by
  obtain ⟨a, c, rfl, hc, he⟩ := hl.form
  have HE := Lib.hid he
  have HP := Lib.hid hp
  clear hl he hp
  go_enter Try.func52, Try.ntmps52
  go_wp2_with fail
  go_loopw [5, 8] (fun _ vk wr => ∃ k : Nat, k ≤ l.length ∧ vk = .int .i64 k ∧ Kept w wr ∧ ∀ i (h : i < l.length), i < k → p l[i] = false) (fun _ k _ => l.length - (intOf k).toNat)
  case atStart => exact ⟨0, by omega, rfl, Kept.refl w, fun i h h2 => by omega⟩
  case round =>
    obtain ⟨k, hk, rfl, hkw, hno⟩ := hrel
    have HX := Lib.hid (And.intro hkw hno)
    by_cases hlt : k < l.length
    · have hkl : (k : Int) < (l.length : Int) := by omega
      obtain ⟨b, o, rfl, hb, hcell⟩ := (HE.out.kept hkw).at_ (k) hlt
      obtain ⟨e, hee⟩ : ∃ e, (l)[k]'hlt = e := ⟨_, rfl⟩
      rw [hee] at hcell
      have c0 : wr.cell? ⟨b, o + k * 7, none⟩ = some (.bool e.v) := hcell 0 (by omega)
      have c1 : wr.cell? ⟨b, o + k * 7 + 1, none⟩ = some (.int .u64 (hi e.e.x)) := hcell 1 (by omega)
      have c2 : wr.cell? ⟨b, o + k * 7 + 2, none⟩ = some (.int .u64 (lo e.e.x)) := hcell 2 (by omega)
      have c3 : wr.cell? ⟨b, o + k * 7 + 3, none⟩ = some (.int .u64 (hi e.e.m)) := hcell 3 (by omega)
      have c4 : wr.cell? ⟨b, o + k * 7 + 4, none⟩ = some (.int .u64 (lo e.e.m)) := hcell 4 (by omega)
      have c5 : wr.cell? ⟨b, o + k * 7 + 5, none⟩ = some (.int .i64 e.e.len) := hcell 5 (by omega)
      have c6 : wr.cell? ⟨b, o + k * 7 + 6, none⟩ = some (.int .i64 e.e.act) := hcell 6 (by omega)
      have Hee := Lib.hid hee
      clear hcell hee
      clear hkw hno
      cases hpe : p e
      · have HPE := Lib.hid (show p l[k] = false by rw [Hee.out]; exact hpe)
        have hcall := Lib.hid (show Calls Try.prog g (#[slv e] ++ lb) wr (Ret (.bool false) wr) by rw [← hpe]; exact HP.out wr e HX.out.1)
        clear Hee hpe
        go_wp2_with (first | (go_at_fn g; refine hcall.out.mono ?_; rintro e w1 ⟨rfl, q1, rfl⟩))
        go_roundw
        case rel => exact ⟨k + 1, by omega, by go_num, by simp (maxDischargeDepth := 99) [HX.out.1], fun i h h2 => by
          rcases Nat.lt_or_ge i k with hik | hik
          · exact HX.out.2 i h hik
          · have : i = k := by omega
            subst this; exact HPE.out⟩
        case measure => simp [intOf]; omega
      · have HV := Lib.hid (idxI_hit p l k hlt (show p l[k] = true by rw [Hee.out]; exact hpe) HX.out.2)
        have hcall := Lib.hid (show Calls Try.prog g (#[slv e] ++ lb) wr (Ret (.bool true) wr) by rw [← hpe]; exact HP.out wr e HX.out.1)
        clear Hee hpe
        go_wp2_with (first | (go_at_fn g; refine hcall.out.mono ?_; rintro e w1 ⟨rfl, q1, rfl⟩))
        go_ret
        exact Ret.of (by rw [HV.out]; rfl) (by simp (maxDischargeDepth := 99) [HX.out.1])
    · have HV := Lib.hid (idxI_miss p l fun i h => hno i h (by omega))
      clear hkw hno
      go_wp2_with fail
      go_ret
      exact Ret.of (by rw [HV.out]; rfl) (by simp (maxDischargeDepth := 99) [HX.out.1])
theorem under_slSlot : Try.prog.underlying 58 = some (.slice 50) := Try.underlying58
end Go.Proofs.Ytemfocnjlimicaa
