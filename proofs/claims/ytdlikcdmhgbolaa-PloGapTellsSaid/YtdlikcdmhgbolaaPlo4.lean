/- Slots in the order of lengths: plo.shift upwards; the reference's below, above. -/
import Derived.Test.YtdlikcdmhgbolaaPlo3
namespace Go.Proofs.Ytdlikcdmhgbolaa
open Go.RowKit Pg

set_option maxHeartbeats 2000000 in
set_option maxRecDepth 100000 in
theorem ploshiftU_any {l : List Slot} {v : Value} (f0 p0 e0 : Nat) (x : Ent) (w : World) (hl : Els w v 7 Slot.cells l) (hp : p0 ≤ e0) (he0 : e0 < l.length) (hf0 : e0 - p0 ≤ f0) (hf1 : f0 ≤ 1000) (hn : l.length ≤ 1000) : Calls Try.prog 30 #[v, .int .i64 (p0 : Int), .int .i64 (e0 : Int), .int .i64 1, ev x] w (RetEls 60 8 Wr.cells (shiftU l e0 x f0 p0) w) := by
  obtain ⟨a, c, rfl, hc, he⟩ := hl.form
  have HE := Lib.hid he
  have hsl := shiftU_len l e0 x f0 p0
  clear hl he
  go_enter Try.func30, Try.ntmps30
  go_wp2_with fail
  obtain ⟨w1, hw1⟩ : ∃ w1, w1 = w.alloc (.cells #[.int .u64 (hi x.x), .int .u64 (lo x.x), .int .u64 (hi x.m), .int .u64 (lo x.m), .int .i64 x.len, .int .i64 x.act] 29) := ⟨_, rfl⟩
  have HK1 := Lib.hid (show Kept w w1 by rw [hw1]; exact Kept.alloc (Kept.refl w) _)
  have HB := Lib.hid (show Blk w1 w.heap.size 29 #[.int .u64 (hi x.x), .int .u64 (lo x.x), .int .u64 (hi x.m), .int .u64 (lo x.m), .int .i64 x.len, .int .i64 x.act] by rw [hw1]; exact Blk.new' w _ _ rfl)
  rw [← hw1]
  clear hw1
  go_loopw [1, 11, 12] (fun vp vo _ wr => ∃ (p f : Nat) (A : List Wr), p ≤ e0 ∧ p0 ≤ p ∧ e0 - p ≤ f ∧ vp = .int .i64 (p : Int) ∧ Own w1 wr 60 8 vo A.length (A.flatMap Wr.cells) ∧ A ++ shiftU l e0 x f p = shiftU l e0 x f0 p0) (fun vp _ _ _ => e0 - (intOf vp).toNat)
  case atStart => exact ⟨p0, f0, [], hp, Nat.le_refl _, hf0, rfl, Own.nil _ _ (Kept.refl _) _ _, rfl⟩
  case round =>
    obtain ⟨p, f, A, hep, hpp, hf, rfl, hown, heq⟩ := hrel
    have HO := Lib.hid hown
    have hAl : A.length ≤ f0 := by
      have h1 := congrArg List.length heq
      rw [List.length_append] at h1
      have h2 := shiftU_ne l e0 x f p
      omega
    by_cases hpe : p = e0
    · subst hpe
      have hs : shiftU l p x f p = [⟨p, ⟨true, x⟩⟩] := by
        cases f with
        | zero => rfl
        | succ f => unfold shiftU; rw [if_pos (Nat.le_refl _)]
      rw [hs] at heq
      have HQ := Lib.hid heq
      have x0 := fun j => (HB.out.kept hown.1).cell j
      have xl := (HB.out.kept hown.1).lt
      clear hown heq hs hsl
      go_wp2_with (first | (at_builtin; refine wpList_push rfl _ _ 33 rfl 60 (.agg #[.int .i64 0, .bool false, .int .u64 0, .int .u64 0, .int .u64 0, .int .u64 0, .int .i64 0, .int .i64 0]) 8 64 Try.underlying33 info_wr rfl (by omega) u11 A.length (A.flatMap Wr.cells) rfl (HO.out.alloc _) _ 1 1 (Wr.cells ⟨p, ⟨true, x⟩⟩) rfl rfl (heap_alloc_new _ _) (by simp [Wr.cells, Value.oneCell']) (by unfold maxLen; omega) (by omega) ?_; intro v' w1 hown1))
      go_ret
      exact RetEls.mk HK1.out (by rw [← HQ.out]; exact own_pushW A ⟨p, ⟨true, x⟩⟩ rfl hown1)
    · have hlt : p < e0 := by omega
      obtain ⟨f', rfl⟩ : ∃ f', f = f' + 1 := ⟨f - 1, by omega⟩
      obtain ⟨q, hq⟩ : ∃ q, q = p + 1 := ⟨_, rfl⟩
      have hql : q < l.length := by omega
      obtain ⟨M, hM⟩ : ∃ M, lenAt l q = M := ⟨_, rfl⟩
      have hs : shiftU l e0 x (f' + 1) p = ⟨(p : Int), slotAt l (upK l M e0 e0 q)⟩ :: shiftU l e0 x f' (upK l M e0 e0 q) := by
        conv => lhs; unfold shiftU
        rw [if_neg (by omega), ← hq, hM]
      rw [hs] at heq
      have HQ := Lib.hid heq
      have HM := Lib.hid hM
      have hb : ((p : Int) == (e0 : Int)) = false := by rw [beq_eq_false_iff_ne]; omega
      have hbp : ((p : Int) != (e0 : Int)) = true := by rw [bne_iff_ne]; omega
      have hq1 : (p : Int) + 1 = (q : Int) := by omega
      have hqi : (q : Int) < (l.length : Int) := by omega
      have q0 : (0 : Int) ≤ q := by omega
      have hpq : p < q := by omega
      have heq0 : q ≤ e0 := by omega
      clear hown heq hs hsl hM hq
      go_wp2_with fail
      go_loopw [12] (fun vk w5 => ∃ k g : Nat, q ≤ k ∧ k ≤ e0 ∧ e0 - k ≤ g ∧ vk = .int .i64 (k : Int) ∧ Kept wr w5 ∧ upK l M e0 g k = upK l M e0 e0 q ∧ lenAt l k = M) (fun vk _ => e0 - (intOf vk).toNat)
      case atStart => exact ⟨q, e0, Nat.le_refl _, heq0, by omega, by first | rfl | rw [hq1] | go_num, Kept.refl _, rfl, HM.out⟩
      case round =>
        obtain ⟨k, g, hkq, hke, hkg, rfl, hkw, hdk, hlk⟩ := hrel
        have HY := Lib.hid hkw
        have hkl : k < l.length := by omega
        have hki : (k : Int) < (l.length : Int) := by omega
        have k0 : (0 : Int) ≤ k := by omega
        by_cases hk0 : k = e0
        · subst hk0
          have hfin : upK l M k k q = k := by rw [← hdk]; cases g with
            | zero => rfl
            | succ g => unfold upK; rw [if_pos rfl]
          obtain ⟨bz, oz, rfl, hbz, hcellz⟩ := (HE.out.kept (HK1.out.trans (HO.out.1.trans hkw))).at_ (k) hkl
          obtain ⟨ez, heez⟩ : ∃ e, (l)[k]'hkl = e := ⟨_, rfl⟩
          rw [heez] at hcellz
          have cz0 : wr.cell? ⟨bz, oz + k * 7, none⟩ = some (.bool ez.v) := hcellz 0 (by omega)
          have cz1 : wr.cell? ⟨bz, oz + k * 7 + 1, none⟩ = some (.int .u64 (hi ez.e.x)) := hcellz 1 (by omega)
          have cz2 : wr.cell? ⟨bz, oz + k * 7 + 2, none⟩ = some (.int .u64 (lo ez.e.x)) := hcellz 2 (by omega)
          have cz3 : wr.cell? ⟨bz, oz + k * 7 + 3, none⟩ = some (.int .u64 (hi ez.e.m)) := hcellz 3 (by omega)
          have cz4 : wr.cell? ⟨bz, oz + k * 7 + 4, none⟩ = some (.int .u64 (lo ez.e.m)) := hcellz 4 (by omega)
          have cz5 : wr.cell? ⟨bz, oz + k * 7 + 5, none⟩ = some (.int .i64 ez.e.len) := hcellz 5 (by omega)
          have cz6 : wr.cell? ⟨bz, oz + k * 7 + 6, none⟩ = some (.int .i64 ez.e.act) := hcellz 6 (by omega)
          have Heez := Lib.hid heez
          clear hcellz heez
          have hQ := HQ.out
          rw [hfin, slotAt_get hkl, Heez.out] at hQ
          have HQ2 := Lib.hid hQ
          have HOO := Lib.hid (HO.out.step hkw)
          clear hkw hdk hlk Heez hQ hfin
          go_wp2_with fail
          refine region_ext _ (by first | exact Later.ext _ _ | exact Later.refl _) mixed (by kernel_rfl) ?_
          repeat (go_big_quiet_step (fail))
          refine wpQuiet_nil ?_
          rintro _ ⟨q, rfl⟩
          go_wp2_with (first | (at_builtin; refine wpList_push rfl _ _ 33 rfl 60 (.agg #[.int .i64 0, .bool false, .int .u64 0, .int .u64 0, .int .u64 0, .int .u64 0, .int .i64 0, .int .i64 0]) 8 64 Try.underlying33 info_wr rfl (by omega) u11 A.length _ rfl (((HOO.out.ext _).alloc _)) _ 1 1 (Wr.cells ⟨p, ez⟩) rfl rfl (heap_alloc_new _ _) (by simp [Wr.cells, Value.oneCell']) (by unfold maxLen; omega) (by omega) ?_; intro v' w1 hown1))
          go_roundw
          case rel => exact ⟨k, f', A ++ [⟨p, ez⟩], Nat.le_refl _, by omega, by omega, rfl, own_pushW A ⟨p, ez⟩ rfl hown1, by rw [List.append_assoc]; exact HQ2.out⟩
          case measure => simp [intOf]; try omega
        · obtain ⟨j, hj⟩ : ∃ j, j = k + 1 := ⟨_, rfl⟩
          have hbk : ((k : Int) == (e0 : Int)) = false := by rw [beq_eq_false_iff_ne]; omega
          have hbn : ((k : Int) != (e0 : Int)) = true := by rw [bne_iff_ne]; omega
          have hk1 : (k : Int) + 1 = (j : Int) := by omega
          have hjl : j < l.length := by omega
          have hji : (j : Int) < (l.length : Int) := by omega
          have j0 : (0 : Int) ≤ j := by omega
          obtain ⟨g', hg'⟩ : ∃ g', g = g' + 1 := ⟨g - 1, by omega⟩
          obtain ⟨bz, oz, rfl, hbz, hcellz⟩ := (HE.out.kept (HK1.out.trans (HO.out.1.trans hkw))).at_ (k) hkl
          obtain ⟨ez, heez⟩ : ∃ e, (l)[k]'hkl = e := ⟨_, rfl⟩
          rw [heez] at hcellz
          have cz0 : wr.cell? ⟨bz, oz + k * 7, none⟩ = some (.bool ez.v) := hcellz 0 (by omega)
          have cz1 : wr.cell? ⟨bz, oz + k * 7 + 1, none⟩ = some (.int .u64 (hi ez.e.x)) := hcellz 1 (by omega)
          have cz2 : wr.cell? ⟨bz, oz + k * 7 + 2, none⟩ = some (.int .u64 (lo ez.e.x)) := hcellz 2 (by omega)
          have cz3 : wr.cell? ⟨bz, oz + k * 7 + 3, none⟩ = some (.int .u64 (hi ez.e.m)) := hcellz 3 (by omega)
          have cz4 : wr.cell? ⟨bz, oz + k * 7 + 4, none⟩ = some (.int .u64 (lo ez.e.m)) := hcellz 4 (by omega)
          have cz5 : wr.cell? ⟨bz, oz + k * 7 + 5, none⟩ = some (.int .i64 ez.e.len) := hcellz 5 (by omega)
          have cz6 : wr.cell? ⟨bz, oz + k * 7 + 6, none⟩ = some (.int .i64 ez.e.act) := hcellz 6 (by omega)
          have Heez := Lib.hid heez
          clear hcellz heez
          obtain ⟨hby, hcelly⟩ := (HE.out.kept (HK1.out.trans (HO.out.1.trans hkw))).at2 (j) hjl
          obtain ⟨ey, heey⟩ : ∃ e, (l)[j]'hjl = e := ⟨_, rfl⟩
          rw [heey] at hcelly
          have cy0 : wr.cell? ⟨bz, oz + j * 7, none⟩ = some (.bool ey.v) := hcelly 0 (by omega)
          have cy1 : wr.cell? ⟨bz, oz + j * 7 + 1, none⟩ = some (.int .u64 (hi ey.e.x)) := hcelly 1 (by omega)
          have cy2 : wr.cell? ⟨bz, oz + j * 7 + 2, none⟩ = some (.int .u64 (lo ey.e.x)) := hcelly 2 (by omega)
          have cy3 : wr.cell? ⟨bz, oz + j * 7 + 3, none⟩ = some (.int .u64 (hi ey.e.m)) := hcelly 3 (by omega)
          have cy4 : wr.cell? ⟨bz, oz + j * 7 + 4, none⟩ = some (.int .u64 (lo ey.e.m)) := hcelly 4 (by omega)
          have cy5 : wr.cell? ⟨bz, oz + j * 7 + 5, none⟩ = some (.int .i64 ey.e.len) := hcelly 5 (by omega)
          have cy6 : wr.cell? ⟨bz, oz + j * 7 + 6, none⟩ = some (.int .i64 ey.e.act) := hcelly 6 (by omega)
          have Heey := Lib.hid heey
          clear hcelly heey
          obtain ⟨hbx, hcellx⟩ := (HE.out.kept (HK1.out.trans (HO.out.1.trans hkw))).at2 (q) hql
          obtain ⟨ex, heex⟩ : ∃ e, (l)[q]'hql = e := ⟨_, rfl⟩
          rw [heex] at hcellx
          have cx0 : wr.cell? ⟨bz, oz + q * 7, none⟩ = some (.bool ex.v) := hcellx 0 (by omega)
          have cx1 : wr.cell? ⟨bz, oz + q * 7 + 1, none⟩ = some (.int .u64 (hi ex.e.x)) := hcellx 1 (by omega)
          have cx2 : wr.cell? ⟨bz, oz + q * 7 + 2, none⟩ = some (.int .u64 (lo ex.e.x)) := hcellx 2 (by omega)
          have cx3 : wr.cell? ⟨bz, oz + q * 7 + 3, none⟩ = some (.int .u64 (hi ex.e.m)) := hcellx 3 (by omega)
          have cx4 : wr.cell? ⟨bz, oz + q * 7 + 4, none⟩ = some (.int .u64 (lo ex.e.m)) := hcellx 4 (by omega)
          have cx5 : wr.cell? ⟨bz, oz + q * 7 + 5, none⟩ = some (.int .i64 ex.e.len) := hcellx 5 (by omega)
          have cx6 : wr.cell? ⟨bz, oz + q * 7 + 6, none⟩ = some (.int .i64 ex.e.act) := hcellx 6 (by omega)
          have Heex := Lib.hid heex
          clear hcellx heex
          have hMx : ex.e.len = M := by rw [← HM.out, lenAt_get hql, Heex.out]
          rw [hMx] at cx5
          have hly := lenAt_get hjl
          rw [Heey.out] at hly
          have hun : upK l M e0 g k = if k = e0 then k else if lenAt l j = M then upK l M e0 g' j else k := by rw [hg', hj]; conv => lhs; unfold upK
          rw [if_neg hk0, hly] at hun
          by_cases hyM : ey.e.len = M
          · rw [if_pos hyM] at hun
            have HD := Lib.hid (show upK l M e0 g' j = upK l M e0 e0 q by rw [← hun]; exact hdk)
            have HLJ := Lib.hid (show lenAt l j = M by rw [hly]; exact hyM)
            rw [hyM] at cy5
            have hje : j ≤ e0 := by omega
            have hjq : q ≤ j := by omega
            have hjk : k < j := by omega
            have hjg : e0 - j ≤ g' := by omega
            clear hkw hdk hlk Heez Heey Heex hMx hly hun hyM hj hg' hkg
            go_wp2_with fail
            refine region_ext _ (by first | exact Later.ext _ _ | exact Later.refl _) mixed (by kernel_rfl) ?_
            repeat (go_big_quiet_step (fail))
            refine wpQuiet_nil ?_
            rintro _ ⟨q, rfl⟩
            go_wp2_with fail
            go_roundw
            case rel => exact ⟨j, g', hjq, hje, hjg, by go_num, HY.out.ext _, HD.out, HLJ.out⟩
            case measure => simp [intOf]; try omega
          · rw [if_neg hyM] at hun
            have hfin : upK l M e0 e0 q = k := by rw [← hdk, hun]
            have hbe : (ey.e.len == M) = false := by simp [hyM]
            have hQ := HQ.out
            rw [hfin, slotAt_get hkl, Heez.out] at hQ
            have HQ2 := Lib.hid hQ
            have HOO := Lib.hid (HO.out.step hkw)
            have hkp : p < k := by omega
            clear hkw hdk hlk Heez Heey Heex hMx hly hun hfin hQ hj hg' hkg
            go_wp2_with fail
            refine region_ext _ (by first | exact Later.ext _ _ | exact Later.refl _) mixed (by kernel_rfl) ?_
            repeat (go_big_quiet_step (fail))
            refine wpQuiet_nil ?_
            rintro _ ⟨q, rfl⟩
            go_wp2_with (first | (at_builtin; refine wpList_push rfl _ _ 33 rfl 60 (.agg #[.int .i64 0, .bool false, .int .u64 0, .int .u64 0, .int .u64 0, .int .u64 0, .int .i64 0, .int .i64 0]) 8 64 Try.underlying33 info_wr rfl (by omega) u11 A.length _ rfl (((HOO.out.ext _).alloc _)) _ 1 1 (Wr.cells ⟨p, ez⟩) rfl rfl (heap_alloc_new _ _) (by simp [Wr.cells, Value.oneCell']) (by unfold maxLen; omega) (by omega) ?_; intro v' w1 hown1))
            go_roundw
            case rel => exact ⟨k, f', A ++ [⟨p, ez⟩], hke, by omega, by omega, rfl, own_pushW A ⟨p, ez⟩ rfl hown1, by rw [List.append_assoc]; exact HQ2.out⟩
            case measure => simp [intOf]; try omega
set_option maxHeartbeats 2000000 in
set_option maxRecDepth 100000 in
theorem refbelow_any {l : List Slot} {v : Value} (p0 e0 : Nat) (x : Ent) (w : World) (hl : Els w v 7 Slot.cells l) (hp : p0 < l.length) (he0 : e0 ≤ p0) (hfa : Falls l e0 p0) (hn : l.length ≤ 1000) : Calls Try.prog 34 #[v, .int .i64 (p0 : Int), .int .i64 (e0 : Int), ev x] w (RetEls 76 8 Wr.cells (shiftD l e0 x p0 p0) w) := by
  obtain ⟨a, c, rfl, hc, he⟩ := hl.form
  have HE := Lib.hid he
  have hsl := shiftD_len l e0 x p0 p0
  have HFA := Lib.hid hfa
  clear hl he hfa
  go_enter Try.func34, Try.ntmps34
  go_wp2_with fail
  obtain ⟨w1, hw1⟩ : ∃ w1, w1 = w.alloc (.cells #[.int .u64 (hi x.x), .int .u64 (lo x.x), .int .u64 (hi x.m), .int .u64 (lo x.m), .int .i64 x.len, .int .i64 x.act] 43) := ⟨_, rfl⟩
  have HK1 := Lib.hid (show Kept w w1 by rw [hw1]; exact Kept.alloc (Kept.refl w) _)
  have HB := Lib.hid (show Blk w1 w.heap.size 43 #[.int .u64 (hi x.x), .int .u64 (lo x.x), .int .u64 (hi x.m), .int .u64 (lo x.m), .int .i64 x.len, .int .i64 x.act] by rw [hw1]; exact Blk.new' w _ _ rfl)
  rw [← hw1]
  clear hw1
  go_loopw [9, 10, 11, 12] (fun vo vp _ _ wr => ∃ (p f : Nat) (A : List Wr), e0 ≤ p ∧ p ≤ p0 ∧ p - e0 ≤ f ∧ vp = .int .i64 (p : Int) ∧ Own w1 wr 76 8 vo A.length (A.flatMap Wr.cells) ∧ A ++ shiftD l e0 x f p = shiftD l e0 x p0 p0) (fun _ vp _ _ _ => (intOf vp).toNat)
  case atStart => exact ⟨p0, p0, [], he0, Nat.le_refl _, by omega, rfl, Own.nil _ _ (Kept.refl _) _ _, rfl⟩
  case round =>
    obtain ⟨p, f, A, hep, hpp, hf, rfl, hown, heq⟩ := hrel
    have HO := Lib.hid hown
    have hAl : A.length ≤ p0 := by
      have h1 := congrArg List.length heq
      rw [List.length_append] at h1
      have h2 := shiftD_ne l e0 x f p
      omega
    by_cases hpe : p = e0
    · subst hpe
      have hs : shiftD l p x f p = [⟨p, ⟨true, x⟩⟩] := by
        cases f with
        | zero => rfl
        | succ f => unfold shiftD; rw [if_pos (Nat.le_refl _)]
      rw [hs] at heq
      have HQ := Lib.hid heq
      have x0 := fun j => (HB.out.kept hown.1).cell j
      have xl := (HB.out.kept hown.1).lt
      clear hown heq hs hsl
      go_wp2_with (first | (at_builtin; refine wpList_push rfl _ _ 37 rfl 76 (.agg #[.int .i64 0, .bool false, .int .u64 0, .int .u64 0, .int .u64 0, .int .u64 0, .int .i64 0, .int .i64 0]) 8 64 Try.underlying37 info_refwr rfl (by omega) u9 A.length (A.flatMap Wr.cells) rfl (HO.out.alloc _) _ 1 1 (Wr.cells ⟨p, ⟨true, x⟩⟩) rfl rfl (heap_alloc_new _ _) (by simp [Wr.cells, Value.oneCell']) (by unfold maxLen; omega) (by omega) ?_; intro v' w1 hown1))
      go_ret
      exact RetEls.mk HK1.out (by rw [← HQ.out]; exact own_pushW A ⟨p, ⟨true, x⟩⟩ rfl hown1)
    · have hlt : e0 < p := by omega
      obtain ⟨f', rfl⟩ : ∃ f', f = f' + 1 := ⟨f - 1, by omega⟩
      obtain ⟨q, hq⟩ : ∃ q, p = q + 1 := ⟨p - 1, by omega⟩
      have hql : q < l.length := by omega
      obtain ⟨M, hM⟩ : ∃ M, lenAt l q = M := ⟨_, rfl⟩
      have hlow : IsLow l M e0 p (downK l M e0 q) := by
        have := downK_low (HFA.out.sub (Nat.le_refl _) hpp) hlt
        rw [show p - 1 = q by omega, hM] at this
        exact this
      have hs : shiftD l e0 x (f' + 1) p = ⟨(p : Int), slotAt l (downK l M e0 q)⟩ :: shiftD l e0 x f' (downK l M e0 q) := by
        conv => lhs; unfold shiftD
        rw [if_neg (by omega), show p - 1 = q by omega, hM]
      rw [hs] at heq
      have HQ := Lib.hid heq
      have HM := Lib.hid hM
      have HLO := Lib.hid hlow
      have hgt : (e0 : Int) < (p : Int) := by omega
      have hq1 : (p : Int) - 1 = (q : Int) := by omega
      have hqi : (q : Int) < (l.length : Int) := by omega
      have q0 : (0 : Int) ≤ q := by omega
      have heq0 : e0 ≤ q := by omega
      have HP := Lib.hid hq
      clear hown heq hs hsl hM hq hlow
      go_wp2_with fail
      go_loopw [11, 12] (fun vf vi w5 => ∃ (i d : Nat), e0 ≤ i ∧ i ≤ p ∧ vi = .int .i64 ((i : Int) - 1) ∧ vf = .int .i64 (d : Int) ∧ Kept wr w5 ∧ (i = p ∧ d = q ∨ IsLow l M i p d)) (fun _ vi _ => (intOf vi + 1).toNat)
      case atStart => exact ⟨p, q, hep, Nat.le_refl _, by first | rfl | go_num, by first | rfl | rw [hq1] | go_num, Kept.refl _, .inl ⟨rfl, rfl⟩⟩
      case round =>
        obtain ⟨i, d, hie, hip, rfl, rfl, hkw, hd⟩ := hrel
        have HY := Lib.hid hkw
        by_cases hi0 : i = e0
        · subst hi0
          have hdlow : IsLow l M i p d := by
            rcases hd with ⟨h1, _⟩ | h1
            · omega
            · exact h1
          have hfin : downK l M i q = d := HLO.out.uniq hdlow
          have hdl : d < l.length := by have := hdlow.lt; omega
          have hdi : (d : Int) < (l.length : Int) := by omega
          have d0 : (0 : Int) ≤ d := by omega
          have hdp : d < p := hdlow.lt
          have hid : i ≤ d := hdlow.ge
          have hng : ¬ (i : Int) ≤ (i : Int) - 1 := by omega
          have hngd : decide ((i : Int) ≤ (i : Int) - 1) = false := by simp; omega
          obtain ⟨bz, oz, rfl, hbz, hcellz⟩ := (HE.out.kept (HK1.out.trans (HO.out.1.trans hkw))).at_ (d) hdl
          obtain ⟨ez, heez⟩ : ∃ e, (l)[d]'hdl = e := ⟨_, rfl⟩
          rw [heez] at hcellz
          have cz0 : wr.cell? ⟨bz, oz + d * 7, none⟩ = some (.bool ez.v) := hcellz 0 (by omega)
          have cz1 : wr.cell? ⟨bz, oz + d * 7 + 1, none⟩ = some (.int .u64 (hi ez.e.x)) := hcellz 1 (by omega)
          have cz2 : wr.cell? ⟨bz, oz + d * 7 + 2, none⟩ = some (.int .u64 (lo ez.e.x)) := hcellz 2 (by omega)
          have cz3 : wr.cell? ⟨bz, oz + d * 7 + 3, none⟩ = some (.int .u64 (hi ez.e.m)) := hcellz 3 (by omega)
          have cz4 : wr.cell? ⟨bz, oz + d * 7 + 4, none⟩ = some (.int .u64 (lo ez.e.m)) := hcellz 4 (by omega)
          have cz5 : wr.cell? ⟨bz, oz + d * 7 + 5, none⟩ = some (.int .i64 ez.e.len) := hcellz 5 (by omega)
          have cz6 : wr.cell? ⟨bz, oz + d * 7 + 6, none⟩ = some (.int .i64 ez.e.act) := hcellz 6 (by omega)
          have Heez := Lib.hid heez
          clear hcellz heez
          have hQ := HQ.out
          rw [hfin, slotAt_get hdl, Heez.out] at hQ
          have HQ2 := Lib.hid hQ
          have HOO := Lib.hid (HO.out.step hkw)
          clear hkw hd hdlow Heez hQ hfin
          go_wp2_with (first | (at_builtin; refine wpList_push rfl _ _ 37 rfl 76 (.agg #[.int .i64 0, .bool false, .int .u64 0, .int .u64 0, .int .u64 0, .int .u64 0, .int .i64 0, .int .i64 0]) 8 64 Try.underlying37 info_refwr rfl (by omega) u9 A.length _ rfl (((HOO.out).alloc _)) _ 1 1 (Wr.cells ⟨p, ez⟩) rfl rfl (heap_alloc_new _ _) (by simp [Wr.cells, Value.oneCell']) (by unfold maxLen; omega) (by omega) ?_; intro v' w1 hown1))
          go_roundw
          case rel => exact ⟨d, f', A ++ [⟨p, ez⟩], hid, by omega, by omega, rfl, own_pushW A ⟨p, ez⟩ rfl hown1, by rw [List.append_assoc]; exact HQ2.out⟩
          case measure => simp [intOf]; try omega
        · obtain ⟨j, hj⟩ : ∃ j, i = j + 1 := ⟨i - 1, by omega⟩
          have hj1 : (i : Int) - 1 = (j : Int) := by omega
          have hjl : j < l.length := by have := HP.out; omega
          have hji : (j : Int) < (l.length : Int) := by omega
          have j0 : (0 : Int) ≤ j := by omega
          have hge : (e0 : Int) ≤ (j : Int) := by omega
          have hged : decide ((e0 : Int) ≤ (j : Int)) = true := by simp; omega
          have hje : e0 ≤ j := by omega
          have hjp : j < p := by omega
          have hji2 : i ≤ j + 1 := by omega
          have hji3 : j < i := by omega
          rw [hj1]
          obtain ⟨bY, oY, rfl, hbY, hcellY⟩ := (HE.out.kept (HK1.out.trans (HO.out.1.trans hkw))).at_ (j) hjl
          obtain ⟨eY, heeY⟩ : ∃ e, (l)[j]'hjl = e := ⟨_, rfl⟩
          rw [heeY] at hcellY
          have cY0 : wr.cell? ⟨bY, oY + j * 7, none⟩ = some (.bool eY.v) := hcellY 0 (by omega)
          have cY1 : wr.cell? ⟨bY, oY + j * 7 + 1, none⟩ = some (.int .u64 (hi eY.e.x)) := hcellY 1 (by omega)
          have cY2 : wr.cell? ⟨bY, oY + j * 7 + 2, none⟩ = some (.int .u64 (lo eY.e.x)) := hcellY 2 (by omega)
          have cY3 : wr.cell? ⟨bY, oY + j * 7 + 3, none⟩ = some (.int .u64 (hi eY.e.m)) := hcellY 3 (by omega)
          have cY4 : wr.cell? ⟨bY, oY + j * 7 + 4, none⟩ = some (.int .u64 (lo eY.e.m)) := hcellY 4 (by omega)
          have cY5 : wr.cell? ⟨bY, oY + j * 7 + 5, none⟩ = some (.int .i64 eY.e.len) := hcellY 5 (by omega)
          have cY6 : wr.cell? ⟨bY, oY + j * 7 + 6, none⟩ = some (.int .i64 eY.e.act) := hcellY 6 (by omega)
          have HeeY := Lib.hid heeY
          clear hcellY heeY
          obtain ⟨hbx, hcellx⟩ := (HE.out.kept (HK1.out.trans (HO.out.1.trans hkw))).at2 (q) hql
          obtain ⟨ex, heex⟩ : ∃ e, (l)[q]'hql = e := ⟨_, rfl⟩
          rw [heex] at hcellx
          have cx0 : wr.cell? ⟨bY, oY + q * 7, none⟩ = some (.bool ex.v) := hcellx 0 (by omega)
          have cx1 : wr.cell? ⟨bY, oY + q * 7 + 1, none⟩ = some (.int .u64 (hi ex.e.x)) := hcellx 1 (by omega)
          have cx2 : wr.cell? ⟨bY, oY + q * 7 + 2, none⟩ = some (.int .u64 (lo ex.e.x)) := hcellx 2 (by omega)
          have cx3 : wr.cell? ⟨bY, oY + q * 7 + 3, none⟩ = some (.int .u64 (hi ex.e.m)) := hcellx 3 (by omega)
          have cx4 : wr.cell? ⟨bY, oY + q * 7 + 4, none⟩ = some (.int .u64 (lo ex.e.m)) := hcellx 4 (by omega)
          have cx5 : wr.cell? ⟨bY, oY + q * 7 + 5, none⟩ = some (.int .i64 ex.e.len) := hcellx 5 (by omega)
          have cx6 : wr.cell? ⟨bY, oY + q * 7 + 6, none⟩ = some (.int .i64 ex.e.act) := hcellx 6 (by omega)
          have Heex := Lib.hid heex
          clear hcellx heex
          have hMx : ex.e.len = M := by rw [← HM.out, lenAt_get hql, Heex.out]
          rw [hMx] at cx5
          have hly := lenAt_get hjl
          rw [HeeY.out] at hly
          by_cases hyM : eY.e.len = M
          · have HL := Lib.hid (show IsLow l M j p j from ⟨Nat.le_refl _, hjp, by rw [hly]; exact hyM, fun t h1 h2 => by omega⟩)
            rw [hyM] at cY5
            clear hkw hd HeeY Heex hMx hly hyM hj
            go_wp2_with fail
            refine region_ext _ (by first | exact Later.ext _ _ | exact Later.refl _) mixed (by kernel_rfl) ?_
            repeat (go_big_quiet_step (fail))
            refine wpQuiet_nil ?_
            rintro _ ⟨q, rfl⟩
            go_wp2_with fail
            go_roundw
            case rel => exact ⟨j, j, hje, by omega, by go_num, rfl, HY.out.ext _, .inr HL.out⟩
            case measure => simp [intOf]; try omega
          · have hd2 : IsLow l M j p d := by
              rcases hd with ⟨h1, h2⟩ | h1
              · exfalso
                have : j = q := by have := HP.out; omega
                subst this
                rw [HM.out] at hly
                exact hyM hly.symm
              · refine ⟨by have := h1.ge; omega, h1.lt, h1.same, fun t h2 h3 => ?_⟩
                rcases Nat.eq_or_lt_of_le h2 with h4 | h4
                · rw [← h4, hly]; exact hyM
                · exact h1.no t (by omega) h3
            have HL := Lib.hid hd2
            have hbe : (eY.e.len == M) = false := by simp [hyM]
            clear hkw hd HeeY Heex hMx hly hj hd2
            go_wp2_with fail
            refine region_ext _ (by first | exact Later.ext _ _ | exact Later.refl _) mixed (by kernel_rfl) ?_
            repeat (go_big_quiet_step (fail))
            refine wpQuiet_nil ?_
            rintro _ ⟨q, rfl⟩
            go_wp2_with fail
            go_roundw
            case rel => exact ⟨j, d, hje, by omega, by go_num, rfl, HY.out.ext _, .inr HL.out⟩
            case measure => simp [intOf]; try omega
set_option maxHeartbeats 2000000 in
set_option maxRecDepth 100000 in
theorem refabovew_any {l : List Slot} {v : Value} (f0 p0 e0 : Nat) (x : Ent) (w : World) (hl : Els w v 7 Slot.cells l) (hp : p0 ≤ e0) (he0 : e0 < l.length) (hf0 : e0 - p0 ≤ f0) (hf1 : f0 ≤ 1000) (hfa : Falls l (p0 + 1) (e0 + 1)) (hn : l.length ≤ 1000) : Calls Try.prog 33 #[v, .int .i64 (p0 : Int), .int .i64 (e0 : Int), ev x] w (RetEls 76 8 Wr.cells (shiftU l e0 x f0 p0) w) := by
  obtain ⟨a, c, rfl, hc, he⟩ := hl.form
  have HE := Lib.hid he
  have hsl := shiftU_len l e0 x f0 p0
  have HFA := Lib.hid hfa
  clear hl he hfa
  go_enter Try.func33, Try.ntmps33
  go_wp2_with fail
  obtain ⟨w1, hw1⟩ : ∃ w1, w1 = w.alloc (.cells #[.int .u64 (hi x.x), .int .u64 (lo x.x), .int .u64 (hi x.m), .int .u64 (lo x.m), .int .i64 x.len, .int .i64 x.act] 43) := ⟨_, rfl⟩
  have HK1 := Lib.hid (show Kept w w1 by rw [hw1]; exact Kept.alloc (Kept.refl w) _)
  have HB := Lib.hid (show Blk w1 w.heap.size 43 #[.int .u64 (hi x.x), .int .u64 (lo x.x), .int .u64 (hi x.m), .int .u64 (lo x.m), .int .i64 x.len, .int .i64 x.act] by rw [hw1]; exact Blk.new' w _ _ rfl)
  rw [← hw1]
  clear hw1
  go_loopw [9, 10, 11, 12] (fun vo vp _ _ wr => ∃ (p f : Nat) (A : List Wr), p ≤ e0 ∧ p0 ≤ p ∧ e0 - p ≤ f ∧ vp = .int .i64 (p : Int) ∧ Own w1 wr 76 8 vo A.length (A.flatMap Wr.cells) ∧ A ++ shiftU l e0 x f p = shiftU l e0 x f0 p0) (fun _ vp _ _ _ => e0 - (intOf vp).toNat)
  case atStart => exact ⟨p0, f0, [], hp, Nat.le_refl _, hf0, rfl, Own.nil _ _ (Kept.refl _) _ _, rfl⟩
  case round =>
    obtain ⟨p, f, A, hep, hpp, hf, rfl, hown, heq⟩ := hrel
    have HO := Lib.hid hown
    have hAl : A.length ≤ f0 := by
      have h1 := congrArg List.length heq
      rw [List.length_append] at h1
      have h2 := shiftU_ne l e0 x f p
      omega
    by_cases hpe : p = e0
    · subst hpe
      have hs : shiftU l p x f p = [⟨p, ⟨true, x⟩⟩] := by
        cases f with
        | zero => rfl
        | succ f => unfold shiftU; rw [if_pos (Nat.le_refl _)]
      rw [hs] at heq
      have HQ := Lib.hid heq
      have x0 := fun j => (HB.out.kept hown.1).cell j
      have xl := (HB.out.kept hown.1).lt
      clear hown heq hs hsl
      go_wp2_with (first | (at_builtin; refine wpList_push rfl _ _ 37 rfl 76 (.agg #[.int .i64 0, .bool false, .int .u64 0, .int .u64 0, .int .u64 0, .int .u64 0, .int .i64 0, .int .i64 0]) 8 64 Try.underlying37 info_refwr rfl (by omega) u9 A.length (A.flatMap Wr.cells) rfl (HO.out.alloc _) _ 1 1 (Wr.cells ⟨p, ⟨true, x⟩⟩) rfl rfl (heap_alloc_new _ _) (by simp [Wr.cells, Value.oneCell']) (by unfold maxLen; omega) (by omega) ?_; intro v' w1 hown1))
      go_ret
      exact RetEls.mk HK1.out (by rw [← HQ.out]; exact own_pushW A ⟨p, ⟨true, x⟩⟩ rfl hown1)
    · have hlt : p < e0 := by omega
      obtain ⟨f', rfl⟩ : ∃ f', f = f' + 1 := ⟨f - 1, by omega⟩
      obtain ⟨q, hq⟩ : ∃ q, q = p + 1 := ⟨_, rfl⟩
      have hql : q < l.length := by omega
      obtain ⟨M, hM⟩ : ∃ M, lenAt l q = M := ⟨_, rfl⟩
      have htop : IsTopmost l M p e0 (upK l M e0 e0 q) := by
        have := upK_top (HFA.out.sub (show p0 + 1 ≤ p + 1 by omega) (Nat.le_refl _)) hlt
        rw [← hq, hM] at this
        exact this
      have hs : shiftU l e0 x (f' + 1) p = ⟨(p : Int), slotAt l (upK l M e0 e0 q)⟩ :: shiftU l e0 x f' (upK l M e0 e0 q) := by
        conv => lhs; unfold shiftU
        rw [if_neg (by omega), ← hq, hM]
      rw [hs] at heq
      have HQ := Lib.hid heq
      have HM := Lib.hid hM
      have HTO := Lib.hid htop
      have hgt : (p : Int) < (e0 : Int) := by omega
      have hq1 : (p : Int) + 1 = (q : Int) := by omega
      have hqi : (q : Int) < (l.length : Int) := by omega
      have q0 : (0 : Int) ≤ q := by omega
      have heq0 : q ≤ e0 := by omega
      have HP := Lib.hid hq
      clear hown heq hs hsl hM hq htop
      go_wp2_with fail
      go_loopw [11, 12] (fun vf vi w5 => ∃ (i d : Nat), q ≤ i ∧ i ≤ e0 + 1 ∧ vi = .int .i64 (i : Int) ∧ vf = .int .i64 (d : Int) ∧ Kept wr w5 ∧ (i = q ∧ d = q ∨ IsTopmost l M p (i - 1) d)) (fun _ vi _ => e0 + 1 - (intOf vi).toNat)
      case atStart => exact ⟨q, q, Nat.le_refl _, by omega, by first | rfl | rw [hq1] | go_num, by first | rfl | rw [hq1] | go_num, Kept.refl _, .inl ⟨rfl, rfl⟩⟩
      case round =>
        obtain ⟨i, d, hiq, hie, rfl, rfl, hkw, hd⟩ := hrel
        have HY := Lib.hid hkw
        by_cases hi0 : i = e0 + 1
        · have hdtop : IsTopmost l M p e0 d := by
            rcases hd with ⟨h1, _⟩ | h1
            · omega
            · rwa [show i - 1 = e0 by omega] at h1
          have hfin : upK l M e0 e0 q = d := HTO.out.uniq hdtop
          have hdl : d < l.length := by have := hdtop.le; omega
          have hdi : (d : Int) < (l.length : Int) := by omega
          have d0 : (0 : Int) ≤ d := by omega
          have hdp : p < d := hdtop.gt
          have hid : d ≤ e0 := hdtop.le
          have hng : ¬ (i : Int) ≤ (e0 : Int) := by omega
          have hngd : decide ((i : Int) ≤ (e0 : Int)) = false := by simp; omega
          obtain ⟨bz, oz, rfl, hbz, hcellz⟩ := (HE.out.kept (HK1.out.trans (HO.out.1.trans hkw))).at_ (d) hdl
          obtain ⟨ez, heez⟩ : ∃ e, (l)[d]'hdl = e := ⟨_, rfl⟩
          rw [heez] at hcellz
          have cz0 : wr.cell? ⟨bz, oz + d * 7, none⟩ = some (.bool ez.v) := hcellz 0 (by omega)
          have cz1 : wr.cell? ⟨bz, oz + d * 7 + 1, none⟩ = some (.int .u64 (hi ez.e.x)) := hcellz 1 (by omega)
          have cz2 : wr.cell? ⟨bz, oz + d * 7 + 2, none⟩ = some (.int .u64 (lo ez.e.x)) := hcellz 2 (by omega)
          have cz3 : wr.cell? ⟨bz, oz + d * 7 + 3, none⟩ = some (.int .u64 (hi ez.e.m)) := hcellz 3 (by omega)
          have cz4 : wr.cell? ⟨bz, oz + d * 7 + 4, none⟩ = some (.int .u64 (lo ez.e.m)) := hcellz 4 (by omega)
          have cz5 : wr.cell? ⟨bz, oz + d * 7 + 5, none⟩ = some (.int .i64 ez.e.len) := hcellz 5 (by omega)
          have cz6 : wr.cell? ⟨bz, oz + d * 7 + 6, none⟩ = some (.int .i64 ez.e.act) := hcellz 6 (by omega)
          have Heez := Lib.hid heez
          clear hcellz heez
          have hQ := HQ.out
          rw [hfin, slotAt_get hdl, Heez.out] at hQ
          have HQ2 := Lib.hid hQ
          have HOO := Lib.hid (HO.out.step hkw)
          clear hkw hd hdtop Heez hQ hfin hi0
          go_wp2_with (first | (at_builtin; refine wpList_push rfl _ _ 37 rfl 76 (.agg #[.int .i64 0, .bool false, .int .u64 0, .int .u64 0, .int .u64 0, .int .u64 0, .int .i64 0, .int .i64 0]) 8 64 Try.underlying37 info_refwr rfl (by omega) u9 A.length _ rfl (((HOO.out).alloc _)) _ 1 1 (Wr.cells ⟨p, ez⟩) rfl rfl (heap_alloc_new _ _) (by simp [Wr.cells, Value.oneCell']) (by unfold maxLen; omega) (by omega) ?_; intro v' w1 hown1))
          go_roundw
          case rel => exact ⟨d, f', A ++ [⟨p, ez⟩], hid, by omega, by omega, rfl, own_pushW A ⟨p, ez⟩ rfl hown1, by rw [List.append_assoc]; exact HQ2.out⟩
          case measure => simp [intOf]; try omega
        · have hil : i < l.length := by omega
          have hii : (i : Int) < (l.length : Int) := by omega
          have i0 : (0 : Int) ≤ i := by omega
          have hle : (i : Int) ≤ (e0 : Int) := by omega
          have hled : decide ((i : Int) ≤ (e0 : Int)) = true := by simp; omega
          have hip : p < i := by have := HP.out; omega
          obtain ⟨bY, oY, rfl, hbY, hcellY⟩ := (HE.out.kept (HK1.out.trans (HO.out.1.trans hkw))).at_ (i) hil
          obtain ⟨eY, heeY⟩ : ∃ e, (l)[i]'hil = e := ⟨_, rfl⟩
          rw [heeY] at hcellY
          have cY0 : wr.cell? ⟨bY, oY + i * 7, none⟩ = some (.bool eY.v) := hcellY 0 (by omega)
          have cY1 : wr.cell? ⟨bY, oY + i * 7 + 1, none⟩ = some (.int .u64 (hi eY.e.x)) := hcellY 1 (by omega)
          have cY2 : wr.cell? ⟨bY, oY + i * 7 + 2, none⟩ = some (.int .u64 (lo eY.e.x)) := hcellY 2 (by omega)
          have cY3 : wr.cell? ⟨bY, oY + i * 7 + 3, none⟩ = some (.int .u64 (hi eY.e.m)) := hcellY 3 (by omega)
          have cY4 : wr.cell? ⟨bY, oY + i * 7 + 4, none⟩ = some (.int .u64 (lo eY.e.m)) := hcellY 4 (by omega)
          have cY5 : wr.cell? ⟨bY, oY + i * 7 + 5, none⟩ = some (.int .i64 eY.e.len) := hcellY 5 (by omega)
          have cY6 : wr.cell? ⟨bY, oY + i * 7 + 6, none⟩ = some (.int .i64 eY.e.act) := hcellY 6 (by omega)
          have HeeY := Lib.hid heeY
          clear hcellY heeY
          obtain ⟨hbx, hcellx⟩ := (HE.out.kept (HK1.out.trans (HO.out.1.trans hkw))).at2 (q) hql
          obtain ⟨ex, heex⟩ : ∃ e, (l)[q]'hql = e := ⟨_, rfl⟩
          rw [heex] at hcellx
          have cx0 : wr.cell? ⟨bY, oY + q * 7, none⟩ = some (.bool ex.v) := hcellx 0 (by omega)
          have cx1 : wr.cell? ⟨bY, oY + q * 7 + 1, none⟩ = some (.int .u64 (hi ex.e.x)) := hcellx 1 (by omega)
          have cx2 : wr.cell? ⟨bY, oY + q * 7 + 2, none⟩ = some (.int .u64 (lo ex.e.x)) := hcellx 2 (by omega)
          have cx3 : wr.cell? ⟨bY, oY + q * 7 + 3, none⟩ = some (.int .u64 (hi ex.e.m)) := hcellx 3 (by omega)
          have cx4 : wr.cell? ⟨bY, oY + q * 7 + 4, none⟩ = some (.int .u64 (lo ex.e.m)) := hcellx 4 (by omega)
          have cx5 : wr.cell? ⟨bY, oY + q * 7 + 5, none⟩ = some (.int .i64 ex.e.len) := hcellx 5 (by omega)
          have cx6 : wr.cell? ⟨bY, oY + q * 7 + 6, none⟩ = some (.int .i64 ex.e.act) := hcellx 6 (by omega)
          have Heex := Lib.hid heex
          clear hcellx heex
          have hMx : ex.e.len = M := by rw [← HM.out, lenAt_get hql, Heex.out]
          rw [hMx] at cx5
          have hly := lenAt_get hil
          rw [HeeY.out] at hly
          by_cases hyM : eY.e.len = M
          · have HL := Lib.hid (show IsTopmost l M p (i + 1 - 1) i from ⟨hip, by omega, by rw [hly]; exact hyM, fun t h1 h2 => by omega⟩)
            rw [hyM] at cY5
            clear hkw hd HeeY Heex hMx hly hyM hi0
            go_wp2_with fail
            refine region_ext _ (by first | exact Later.ext _ _ | exact Later.refl _) mixed (by kernel_rfl) ?_
            repeat (go_big_quiet_step (fail))
            refine wpQuiet_nil ?_
            rintro _ ⟨q, rfl⟩
            go_wp2_with fail
            go_roundw
            case rel => exact ⟨i + 1, i, by omega, by omega, by go_num, rfl, HY.out.ext _, .inr HL.out⟩
            case measure => simp [intOf]; try omega
          · have hd2 : IsTopmost l M p (i + 1 - 1) d := by
              rcases hd with ⟨h1, h2⟩ | h1
              · exfalso
                subst h1
                rw [HM.out] at hly
                exact hyM hly.symm
              · refine ⟨h1.gt, by have := h1.le; omega, h1.same, fun t h2 h3 => ?_⟩
                rcases Nat.eq_or_lt_of_le (show t ≤ i by omega) with h4 | h4
                · rw [h4, hly]; exact hyM
                · exact h1.no t h2 (by omega)
            have HL := Lib.hid hd2
            have hbe : (eY.e.len == M) = false := by simp [hyM]
            clear hkw hd HeeY Heex hMx hly hd2 hi0
            go_wp2_with fail
            refine region_ext _ (by first | exact Later.ext _ _ | exact Later.refl _) mixed (by kernel_rfl) ?_
            repeat (go_big_quiet_step (fail))
            refine wpQuiet_nil ?_
            rintro _ ⟨q, rfl⟩
            go_wp2_with fail
            go_roundw
            case rel => exact ⟨i + 1, d, by omega, by omega, by go_num, rfl, HY.out.ext _, .inr HL.out⟩
            case measure => simp [intOf]; try omega
end Go.Proofs.Ytdlikcdmhgbolaa
