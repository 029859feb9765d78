/- The reference's Part. -/
import Derived.Test.YtlmadimnoknheaaSplit4
import Derived.Test.YtlmadimnoknheaaEls3
namespace Pg
open Go
theorem partZ_snoc (k at_ : Int) (l : List Ent) (e : Ent) : partZ k at_ (l ++ [e]) = partZ k at_ l ++ hitL (bankZ k e.x e.m) at_ e (bankZ k e.x e.m).length := by
  unfold partZ hitL
  rw [List.filter_append, List.take_length]
  congr 1
  by_cases h : at_ ∈ (bankZ k e.x e.m).map (fun n : Nat => (n : Int))
  · rw [List.filter_cons_of_pos (by simpa using h), if_pos h]; rfl
  · rw [List.filter_cons_of_neg (by simpa using h), if_neg h]; rfl
theorem partZ_len (k at_ : Int) (l : List Ent) : (partZ k at_ l).length ≤ l.length := List.length_filter_le _ _
end Pg
namespace Go.Proofs.Ytlmadimnoknheaa
open Go.RowKit Pg

set_option maxHeartbeats 1000000 in
set_option maxRecDepth 100000 in
theorem refspart_any {l : List Ent} {v : Value} (k at_ : Int) (w : World) (hl : Els w v 6 Ent.cells l) (hn : l.length ≤ 1000) : Calls Try.prog 19 #[.int .i64 k, .int .i64 at_, v] w (RetEls 45 6 Ent.cells (partZ k at_ l) w) := by
  obtain ⟨ad, c, rfl, hc, he⟩ := hl.form
  have HE := Lib.hid he
  clear hl he
  go_enter Try.func19, Try.ntmps19
  go_wp2_with fail
  go_loopw [7, 8, 9, 10] (fun vo vi _ _ wr => ∃ i : Nat, i ≤ l.length ∧ vi = .int .i64 i ∧ Own w wr 45 6 vo (partZ k at_ (l.take i)).length ((partZ k at_ (l.take i)).flatMap Ent.cells)) (fun _ i _ _ _ => l.length - (intOf i).toNat)
  case atStart => exact ⟨0, by omega, rfl, Own.nil _ _ (Kept.refl _) _ _⟩
  case round =>
    obtain ⟨i, hi', rfl, hown⟩ := hrel
    by_cases hli : i < l.length
    · have HO := Lib.hid hown
      have hst := partZ_snoc k at_ (l.take i) l[i]
      rw [← List.take_succ_eq_append_getElem hli] at hst
      obtain ⟨b, o, rfl, hb, hcell⟩ := (HE.out.kept hown.kept).at_ (i) hli
      obtain ⟨e, hee⟩ : ∃ e, (l)[i]'hli = e := ⟨_, rfl⟩
      rw [hee] at hcell
      have c0 : wr.cell? ⟨b, o + i * 6, none⟩ = some (.int .u64 (hi e.x)) := hcell 0 (by omega)
      have c1 : wr.cell? ⟨b, o + i * 6 + 1, none⟩ = some (.int .u64 (lo e.x)) := hcell 1 (by omega)
      have c2 : wr.cell? ⟨b, o + i * 6 + 2, none⟩ = some (.int .u64 (hi e.m)) := hcell 2 (by omega)
      have c3 : wr.cell? ⟨b, o + i * 6 + 3, none⟩ = some (.int .u64 (lo e.m)) := hcell 3 (by omega)
      have c4 : wr.cell? ⟨b, o + i * 6 + 4, none⟩ = some (.int .i64 e.len) := hcell 4 (by omega)
      have c5 : wr.cell? ⟨b, o + i * 6 + 5, none⟩ = some (.int .i64 e.act) := hcell 5 (by omega)
      have Hee := Lib.hid hee
      clear hcell hee
      rw [Hee.out] at hst
      have hAl := Nat.le_trans (partZ_len k at_ (l.take i)) (List.length_take_le i l)
      have hil : (i : Int) < (l.length : Int) := by omega
      have hb2 := Lib.hid (fun w => refsbanks_any k e.x e.m w)
      have hbl := bankZ_len k e.x e.m
      have hnd := bankZ_nodup k e.x e.m
      generalize bankZ k e.x e.m = L at *
      generalize partZ k at_ (l.take i) = A at *
      have HS := Lib.hid hst
      have HN := Lib.hid hnd
      clear hown hst hnd
      go_wp2_with (first | (go_at_call 10; refine (hb2.out _).mono ?_; rintro e9 w1 hR; obtain ⟨a1, c1, rfl, hlc1, hown1, hels1⟩ := RetEls.out2 encN_len hR; have HE1 := Lib.hid hels1; have HA1 := Lib.hid (own_apart HO.out hown1); have HL1 := Lib.hid (own_sure hown1); have HO1 := Lib.hid (HO.out.step hown1.1); clear hown1 hels1 hR))
      clear hb2 HO
      go_wp2_with fail
      go_loopw [7, 10] (fun vo vj w4 => ∃ t : Nat, t ≤ L.length ∧ vj = .int .i64 t ∧ Own w w4 45 6 vo (A ++ hitL L at_ e t).length ((A ++ hitL L at_ e t).flatMap Ent.cells) ∧ Els w4 (.slice a1 L.length c1) 1 encN L ∧ Apart vo (.slice a1 L.length c1) ∧ ∀ k, (Value.slice a1 L.length c1).ownBlock = some k → k < w4.heap.size) (fun _ j _ => L.length - (intOf j).toNat)
      case atStart => exact ⟨0, by omega, rfl, by rw [hitL_zero, List.append_nil]; exact HO1.out, HE1.out, HA1.out, HL1.out⟩
      case round =>
        clear HE1 HA1 HL1 HO1
        obtain ⟨t, ht, rfl, hO, hE, hA, hL⟩ := hrel
        by_cases hlt : t < L.length
        · obtain ⟨bT, oT, rfl, hbT, hcellT⟩ := (hE).at_ (t) hlt
          obtain ⟨eT, heeT⟩ : ∃ e, (L)[t]'hlt = e := ⟨_, rfl⟩
          rw [heeT] at hcellT
          have cT0 : wr.cell? ⟨bT, oT + t, none⟩ = some (.int .i64 (eT : Int)) := by have := hcellT 0 (by omega); simpa [encN, encI] using this
          have HeeT := Lib.hid heeT
          clear hcellT heeT
          have HO := Lib.hid hO
          have HE1 := Lib.hid hE
          have HA := Lib.hid hA
          have HL := Lib.hid hL
          have htl : (t : Int) < (L.length : Int) := by omega
          clear hO hE hA hL
          by_cases hEq : (eT : Int) = at_
          · have hy := hitL_yes L HN.out at_ e t hlt (by rw [HeeT.out]; exact hEq)
            rw [hy.2, List.append_nil] at HO
            obtain ⟨hbX, hcellX⟩ := (HE.out.kept HO.out.kept).at2 (i) hli
            obtain ⟨eX, heeX⟩ : ∃ e, (l)[i]'hli = e := ⟨_, rfl⟩
            rw [heeX] at hcellX
            have cX0 : wr.cell? ⟨b, o + i * 6, none⟩ = some (.int .u64 (hi eX.x)) := hcellX 0 (by omega)
            have cX1 : wr.cell? ⟨b, o + i * 6 + 1, none⟩ = some (.int .u64 (lo eX.x)) := hcellX 1 (by omega)
            have cX2 : wr.cell? ⟨b, o + i * 6 + 2, none⟩ = some (.int .u64 (hi eX.m)) := hcellX 2 (by omega)
            have cX3 : wr.cell? ⟨b, o + i * 6 + 3, none⟩ = some (.int .u64 (lo eX.m)) := hcellX 3 (by omega)
            have cX4 : wr.cell? ⟨b, o + i * 6 + 4, none⟩ = some (.int .i64 eX.len) := hcellX 4 (by omega)
            have cX5 : wr.cell? ⟨b, o + i * 6 + 5, none⟩ = some (.int .i64 eX.act) := hcellX 5 (by omega)
            have HeeX := Lib.hid heeX
            clear hcellX heeX
            obtain rfl : eX = e := by rw [← HeeX.out, ← Hee.out]
            have HY := Lib.hid hy.1
            have hEq2 : ((eT : Int) == at_) = true := by simpa using hEq
            clear hy HeeX HeeT Hee hEq
            clear hb c0 c1 c2 c3 c4 c5
            go_wp2_with (first | (at_builtin; refine wpList_push2 rfl _ _ 40 rfl 45 (.agg #[.int .u64 0, .int .u64 0, .int .u64 0, .int .u64 0, .int .i64 0, .int .i64 0]) 6 48 Try.underlying40 info_refent rfl (by omega) u7 A.length _ rfl (HO.out.alloc _) _ 1 1 (Ent.cells eX) rfl rfl (heap_alloc_new _ _) (by simp [Ent.cells, Value.oneCell']) (by unfold maxLen; omega) (by omega) ?_; intro v' w9 hown9 hgr9 hap9))
            go_roundw
            case rel =>
              refine ⟨t + 1, by omega, by go_num, ?_, (HE1.out.alloc _).grown hgr9 HA.out, HA.out.grown hap9 (fun k hk => Nat.lt_of_lt_of_le (HL.out k hk) (World.grownBy_alloc _ _ none).size), fun k hk => Nat.lt_of_lt_of_le (HL.out k hk) (Nat.le_trans (World.grownBy_alloc _ _ none).size hgr9.size)⟩
              rw [HY.out, List.flatMap_append]
              simpa using hown9
            case measure => simp [intOf]; omega
          · have hy := hitL_no L at_ e t hlt (by rw [HeeT.out]; exact hEq)
            have HY := Lib.hid hy
            have hEq2 : ((eT : Int) == at_) = false := by simpa using hEq
            clear hy HeeT Hee hEq hb c0 c2 c3 c4 c5
            go_wp2_with fail
            go_roundw
            case rel => exact ⟨t + 1, by omega, by go_num, by rw [HY.out]; exact HO.out, HE1.out, HA.out, HL.out⟩
            case measure => simp [intOf]; omega
        · have htl : t = L.length := by omega
          subst htl
          have HO := Lib.hid hO
          clear hO hE hA hL hlt Hee
          go_wp2_with fail
          go_roundw
          case rel => exact ⟨i + 1, by omega, by go_num, by rw [HS.out]; exact HO.out⟩
          case measure => simp [intOf]; omega
    · have hil : i = l.length := by omega
      subst hil
      have HO := Lib.hid hown
      clear hown hli hi'
      go_wp2_with fail
      go_ret
      exact RetEls.mk (Kept.refl w) (by have := HO.out; rwa [List.take_length] at this)
end Go.Proofs.Ytlmadimnoknheaa
