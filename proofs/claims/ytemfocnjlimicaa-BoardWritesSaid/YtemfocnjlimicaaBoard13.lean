/- A board: Slots. -/
import Derived.Test.YtemfocnjlimicaaSlRow
import Derived.Test.YtemfocnjlimicaaBoard10
namespace Go.Proofs.Ytemfocnjlimicaa
open Go.RowKit Pg

theorem info_slots : (Try.prog.info? 58).map (fun i => (i.zero, i.size, i.bytes)) = some (some (.slice none 0 0), 1, 24) := by kernel_rfl
def BoSlotsPost (bs : List Bk) (w : World) (e : Ending) (w2 : World) : Prop := ∃ v rs, e = .returned v ∧ RowsAt w w2 58 w.heap.size v rs (bs.map Bk.l)
set_option maxHeartbeats 4000000 in
set_option maxRecDepth 100000 in
theorem boslots_any {W0 w : World} {gb gp cap n : Nat} {k : Int} {bs : List Bk} (h : BoardAt W0 w gb gp k n cap bs) (hbs : bs.length ≤ 100) : Calls Try.prog 26 #[.pointer (some ⟨gb, 0, none⟩)] w (BoSlotsPost bs w) := by
  have x0 := fun j => h.blk.cell j
  have xl := h.blk.lt
  have HBo := Lib.hid h
  clear h
  go_enter Try.func26, Try.ntmps26
  go_wp2_with fail
  clear x0 xl
  go_loopw [3, 5, 11] (fun vo _ vk wr => ∃ (j : Nat) (rs : List Value), j ≤ bs.length ∧ vk = .int .i64 j ∧ rs.length = j ∧ RowsAt w wr 58 w.heap.size vo rs ((bs.take j).map Bk.l)) (fun _ _ vk _ => bs.length - (intOf vk).toNat)
  case atStart => exact ⟨0, [], by omega, rfl, rfl, RowsAt.nil (Kept.refl _) _ _⟩
  case round =>
    obtain ⟨j, rs, hj, rfl, hrl, hR⟩ := hrel
    have HR := Lib.hid hR
    have HRL := Lib.hid hrl
    by_cases hlt : j < bs.length
    · have hjl : (j : Int) < (bs.length : Int) := by omega
      have j0 : (0 : Int) ≤ j := by omega
      have hptr := (HBo.out.kept hR.own.1).ptr j hlt
      have hpl : gp < wr.heap.size := ((HBo.out.kept hR.own.1).row.2.lt gp rfl).2
      have hcall := Lib.hid (bslots_any ((HBo.out.kept hR.own.1).banks.at_ bs[j] (List.getElem_mem hlt)))
      have HT := Lib.hid (show (bs.take (j + 1)).map Bk.l = (bs.take j).map Bk.l ++ [bs[j].l] by rw [List.take_succ_eq_append_getElem hlt, List.map_append]; rfl)
      obtain ⟨b, hb⟩ : ∃ b, bs[j] = b := ⟨_, rfl⟩
      rw [hb] at hptr hcall HT
      have hrs : rs.length ≤ 100 := by omega
      clear hR hrl hb
      go_wp2_with fail
      refine hcall.out.mono ?_
      rintro e w1 hR1
      obtain ⟨a1, c1, rfl, hlc1, hown1, hels1⟩ := RetEls.out2 Slot.cells_len hR1
      have HN1 := Lib.hid (own_new hown1)
      have HK1 := Lib.hid hown1.1
      have HE1 := Lib.hid hels1
      obtain ⟨L, hL⟩ : ∃ L, b.l = L := ⟨_, rfl⟩
      rw [hL] at HN1 HE1 HT ⊢
      clear hR1 hown1 hels1 hptr hpl hcall
      go_wp2_with (first | (at_builtin; refine wpList_push2 rfl _ _ 66 rfl 58 (.slice none 0 0) 1 24 Try.underlying66 info_slots rfl (by omega) u3 rs.length rs rfl ((HR.out.own.step HK1.out).alloc _) _ 1 1 [.slice a1 L.length c1] rfl rfl (heap_alloc_new _ _) (by simp [Value.oneCell']) (by unfold maxLen; omega) (by omega) ?_; intro v' w9 hown9 hgr9 hap9; have HO9 := Lib.hid hown9; have HG9 := Lib.hid hgr9; have HA9 := Lib.hid hap9; clear hown9 hgr9 hap9))
      go_roundw
      case rel =>
        refine ⟨j + 1, rs ++ [.slice a1 L.length c1], by omega, by go_num, by rw [List.length_append, HRL.out]; rfl, ?_⟩
        rw [HT.out]
        exact HR.out.push HK1.out HR.out.own.1.size HE1.out HN1.out HO9.out HG9.out HA9.out
      case measure => simp [intOf]; omega
    · have hjl : j = bs.length := by omega
      subst hjl
      rw [List.take_length] at HR
      clear hR hlt
      go_wp2_with fail
      go_ret
      exact ⟨u3, rs, rfl, HR.out⟩
end Go.Proofs.Ytemfocnjlimicaa
