/- Slots in the order of lengths: plo.empty, last, shift; the reference's below, above. -/
import Derived.Test.YtdlikcdmhgbolaaMathI
namespace Pg
open Go Go.RowKit
def optI : Option Nat → Int
  | some u => (u : Int)
  | none => -1
theorem own_pushW {W0 w : World} {t : TypeId} {v : Value} {n : Nat} (L : List Wr) (e : Wr) (hn : L.length = n) (h : Own W0 w t 8 v (n + 1) (L.flatMap Wr.cells ++ Wr.cells e)) : Own W0 w t 8 v (L ++ [e]).length ((L ++ [e]).flatMap Wr.cells) := by
  subst hn
  rw [List.flatMap_append, List.length_append]
  simpa using h
end Pg
namespace Go.Proofs.Ytdlikcdmhgbolaa
open Go.RowKit Pg

set_option maxHeartbeats 1000000 in
set_option maxRecDepth 100000 in
theorem ploempty_any (s : Slot) (w : World) : Calls Try.prog 29 #[slv s] w (Ret (.bool (!s.v)) w) := by
  go_enter Try.func29, Try.ntmps29
  go_wp2_with fail
  go_ret
  exact Ret.of (rfl) (by simp (maxDischargeDepth := 99))
theorem ploempty_as {s : Slot} {b : Bool} (h : (!s.v) = b) (w : World) : Calls Try.prog 29 #[slv s] w (Ret (.bool b) w) := by rw [← h]; exact ploempty_any s w
theorem ploempty_gives (w : World) : GivesSlot 29 #[] emptyB w := fun W e _ => ploempty_any e W
set_option maxHeartbeats 1000000 in
set_option maxRecDepth 100000 in
theorem plolast_any {l : List Slot} {v : Value} (F : Nat) (w : World) (hl : Els w v 7 Slot.cells l) (hF : F ≤ l.length) (hn : l.length ≤ 1000) : Calls Try.prog 31 #[v, .int .i64 (F : Int)] w (Ret (.int .i64 (optI (lastE l F))) w) := by
  obtain ⟨a, c, rfl, hc, he⟩ := hl.form
  have HE := Lib.hid he
  clear hl he
  go_enter Try.func31, Try.ntmps31
  go_wp2_with fail
  go_loopw [5] (fun vi wr => ∃ i : Nat, i ≤ F ∧ vi = .int .i64 ((i : Int) - 1) ∧ Kept w wr ∧ lastE l F = lastE l i) (fun vi _ => (intOf vi + 1).toNat)
  case atStart => exact ⟨F, Nat.le_refl _, rfl, Kept.refl _, rfl⟩
  case round =>
    obtain ⟨i, hi9, rfl, hkw, hs⟩ := hrel
    have HX := Lib.hid hkw
    cases i with
    | zero =>
      have HV := Lib.hid (show (optI (lastE l F)) = -1 by rw [hs]; rfl)
      clear hkw hs
      go_wp2_with fail
      go_ret
      exact Ret.of (by rw [HV.out]; rfl) (by simp (maxDischargeDepth := 99) [HX.out])
    | succ j =>
      have hj : j < l.length := by omega
      have hj2 : (j : Int) < (l.length : Int) := by omega
      have j0 : (0 : Int) ≤ j := by omega
      have hij : ((j + 1 : Nat) : Int) - 1 = (j : Int) := by omega
      rw [hij]
      clear hij
      obtain ⟨b, o, rfl, hb, hcell⟩ := (HE.out.kept hkw).at_ (j) hj
      obtain ⟨e, hee⟩ : ∃ e, (l)[j]'hj = e := ⟨_, rfl⟩
      rw [hee] at hcell
      have c0 : wr.cell? ⟨b, o + j * 7, none⟩ = some (.bool e.v) := hcell 0 (by omega)
      have c1 : wr.cell? ⟨b, o + j * 7 + 1, none⟩ = some (.int .u64 (hi e.e.x)) := hcell 1 (by omega)
      have c2 : wr.cell? ⟨b, o + j * 7 + 2, none⟩ = some (.int .u64 (lo e.e.x)) := hcell 2 (by omega)
      have c3 : wr.cell? ⟨b, o + j * 7 + 3, none⟩ = some (.int .u64 (hi e.e.m)) := hcell 3 (by omega)
      have c4 : wr.cell? ⟨b, o + j * 7 + 4, none⟩ = some (.int .u64 (lo e.e.m)) := hcell 4 (by omega)
      have c5 : wr.cell? ⟨b, o + j * 7 + 5, none⟩ = some (.int .i64 e.e.len) := hcell 5 (by omega)
      have c6 : wr.cell? ⟨b, o + j * 7 + 6, none⟩ = some (.int .i64 e.e.act) := hcell 6 (by omega)
      have Hee := Lib.hid hee
      clear hcell hee
      have hea := emptyAt_get hj
      rw [Hee.out] at hea
      cases hev : !e.v
      · have HC := Lib.hid (ploempty_as hev)
        have HS := Lib.hid (show lastE l F = lastE l j by rw [hs]; conv => lhs; unfold lastE
                                                          rw [hea, hev]; rfl)
        clear hkw hs Hee hea hev
        go_wp2_with (first | (go_at_call 29; first | ((refine (calls_in (HC.out _)).mono ?_); rintro e w1 ⟨rfl, q1, rfl⟩) | ((refine (HC.out _).mono ?_); rintro e w1 ⟨rfl, q1, rfl⟩)))
        go_roundw
        case rel => exact ⟨j, by omega, by go_num, HX.out.ext _, HS.out⟩
        case measure => simp [intOf]
      · have HC := Lib.hid (ploempty_as hev)
        have HV := Lib.hid (show (optI (lastE l F)) = (j : Int) by
          rw [hs, show lastE l (j + 1) = some j by unfold lastE; rw [hea, hev]; rfl]; rfl)
        clear hkw hs Hee hea hev
        go_wp2_with (first | (go_at_call 29; first | ((refine (calls_in (HC.out _)).mono ?_); rintro e w1 ⟨rfl, q1, rfl⟩) | ((refine (HC.out _).mono ?_); rintro e w1 ⟨rfl, q1, rfl⟩)))
        go_ret
        exact Ret.of (by rw [HV.out]; rfl) (by simp (maxDischargeDepth := 99) [HX.out])
set_option maxHeartbeats 2000000 in
set_option maxRecDepth 100000 in
theorem ploshiftD_any {l : List Slot} {v : Value} (p0 e0 : Nat) (x : Ent) (w : World) (hl : Els w v 7 Slot.cells l) (hp : p0 < l.length) (he0 : e0 ≤ p0) (hn : l.length ≤ 1000) : Calls Try.prog 30 #[v, .int .i64 (p0 : Int), .int .i64 (e0 : Int), .int .i64 (-1), ev x] w (RetEls 60 8 Wr.cells (shiftD l e0 x p0 p0) w) := by
  obtain ⟨a, c, rfl, hc, he⟩ := hl.form
  have HE := Lib.hid he
  have hsl := shiftD_len l e0 x p0 p0
  clear hl he
  go_enter Try.func30, Try.ntmps30
  go_wp2_with fail
  obtain ⟨w1, hw1⟩ : ∃ w1, w1 = w.alloc (.cells #[.int .u64 (hi x.x), .int .u64 (lo x.x), .int .u64 (hi x.m), .int .u64 (lo x.m), .int .i64 x.len, .int .i64 x.act] 29) := ⟨_, rfl⟩
  have HK1 := Lib.hid (show Kept w w1 by rw [hw1]; exact Kept.alloc (Kept.refl w) _)
  have HB := Lib.hid (show Blk w1 w.heap.size 29 #[.int .u64 (hi x.x), .int .u64 (lo x.x), .int .u64 (hi x.m), .int .u64 (lo x.m), .int .i64 x.len, .int .i64 x.act] by rw [hw1]; exact Blk.new' w _ _ rfl)
  rw [← hw1]
  clear hw1
  go_loopw [1, 11, 12] (fun vp vo _ wr => ∃ (p f : Nat) (A : List Wr), e0 ≤ p ∧ p ≤ p0 ∧ p - e0 ≤ f ∧ vp = .int .i64 (p : Int) ∧ Own w1 wr 60 8 vo A.length (A.flatMap Wr.cells) ∧ A ++ shiftD l e0 x f p = shiftD l e0 x p0 p0) (fun vp _ _ _ => (intOf vp).toNat)
  case atStart => exact ⟨p0, p0, [], he0, Nat.le_refl _, by omega, rfl, Own.nil _ _ (Kept.refl _) _ _, rfl⟩
  case round =>
    obtain ⟨p, f, A, hep, hpp, hf, rfl, hown, heq⟩ := hrel
    have HO := Lib.hid hown
    have hAl : A.length ≤ p0 := by
      have h1 := congrArg List.length heq
      rw [List.length_append] at h1
      have h2 := shiftD_ne l e0 x f p
      omega
    by_cases hpe : p = e0
    · subst hpe
      have hs : shiftD l p x f p = [⟨p, ⟨true, x⟩⟩] := by
        cases f with
        | zero => rfl
        | succ f => unfold shiftD; rw [if_pos (by omega)]
      rw [hs] at heq
      have HQ := Lib.hid heq
      have x0 := fun j => (HB.out.kept hown.1).cell j
      have xl := (HB.out.kept hown.1).lt
      clear hown heq hs hsl
      go_wp2_with (first | (at_builtin; refine wpList_push rfl _ _ 33 rfl 60 (.agg #[.int .i64 0, .bool false, .int .u64 0, .int .u64 0, .int .u64 0, .int .u64 0, .int .i64 0, .int .i64 0]) 8 64 Try.underlying33 info_wr rfl (by omega) u11 A.length (A.flatMap Wr.cells) rfl (HO.out.alloc _) _ 1 1 (Wr.cells ⟨p, ⟨true, x⟩⟩) rfl rfl (heap_alloc_new _ _) (by simp [Wr.cells, Value.oneCell']) (by unfold maxLen; omega) (by omega) ?_; intro v' w1 hown1))
      go_ret
      exact RetEls.mk HK1.out (by rw [← HQ.out]; exact own_pushW A ⟨p, ⟨true, x⟩⟩ rfl hown1)
    · have hlt : e0 < p := by omega
      obtain ⟨f', rfl⟩ : ∃ f', f = f' + 1 := ⟨f - 1, by omega⟩
      obtain ⟨q, hq⟩ : ∃ q, p = q + 1 := ⟨p - 1, by omega⟩
      have hql : q < l.length := by omega
      obtain ⟨M, hM⟩ : ∃ M, lenAt l q = M := ⟨_, rfl⟩
      have hs : shiftD l e0 x (f' + 1) p = ⟨(p : Int), slotAt l (downK l M e0 q)⟩ :: shiftD l e0 x f' (downK l M e0 q) := by
        conv => lhs; unfold shiftD
        rw [if_neg (by omega), show p - 1 = q by omega, hM]
      rw [hs] at heq
      have HQ := Lib.hid heq
      have HM := Lib.hid hM
      have hb : ((p : Int) == (e0 : Int)) = false := by rw [beq_eq_false_iff_ne]; omega
      have hq1 : (p : Int) + -1 = (q : Int) := by omega
      have hle := downK_le l M e0 q
      have hge := downK_ge l M e0 q (by omega)
      have hqi : (q : Int) < (l.length : Int) := by omega
      have q0 : (0 : Int) ≤ q := by omega
      have hpq : p ≤ q + 1 := by omega
      have heq0 : e0 ≤ q := by omega
      clear hown heq hs hsl hM hq
      go_wp2_with fail
      go_loopw [12] (fun vk w5 => ∃ k : Nat, e0 ≤ k ∧ k ≤ q ∧ vk = .int .i64 (k : Int) ∧ Kept wr w5 ∧ downK l M e0 k = downK l M e0 q ∧ lenAt l k = M) (fun vk _ => (intOf vk).toNat)
      case atStart => exact ⟨q, heq0, Nat.le_refl _, by first | rfl | rw [hq1] | go_num, Kept.refl _, rfl, HM.out⟩
      case round =>
        obtain ⟨k, hke, hkq, rfl, hkw, hdk, hlk⟩ := hrel
        have HY := Lib.hid hkw
        have hkl : k < l.length := by omega
        have hki : (k : Int) < (l.length : Int) := by omega
        have k0 : (0 : Int) ≤ k := by omega
        by_cases hk0 : k = e0
        · subst hk0
          have hbk : ((k : Int) == (k : Int)) = true := by simp
          have hfin : downK l M k q = k := by rw [← hdk]; cases k with
            | zero => rfl
            | succ k => unfold downK; rw [if_pos rfl]
          obtain ⟨bz, oz, rfl, hbz, hcellz⟩ := (HE.out.kept (HK1.out.trans (HO.out.1.trans hkw))).at_ (k) hkl
          obtain ⟨ez, heez⟩ : ∃ e, (l)[k]'hkl = e := ⟨_, rfl⟩
          rw [heez] at hcellz
          have cz0 : wr.cell? ⟨bz, oz + k * 7, none⟩ = some (.bool ez.v) := hcellz 0 (by omega)
          have cz1 : wr.cell? ⟨bz, oz + k * 7 + 1, none⟩ = some (.int .u64 (hi ez.e.x)) := hcellz 1 (by omega)
          have cz2 : wr.cell? ⟨bz, oz + k * 7 + 2, none⟩ = some (.int .u64 (lo ez.e.x)) := hcellz 2 (by omega)
          have cz3 : wr.cell? ⟨bz, oz + k * 7 + 3, none⟩ = some (.int .u64 (hi ez.e.m)) := hcellz 3 (by omega)
          have cz4 : wr.cell? ⟨bz, oz + k * 7 + 4, none⟩ = some (.int .u64 (lo ez.e.m)) := hcellz 4 (by omega)
          have cz5 : wr.cell? ⟨bz, oz + k * 7 + 5, none⟩ = some (.int .i64 ez.e.len) := hcellz 5 (by omega)
          have cz6 : wr.cell? ⟨bz, oz + k * 7 + 6, none⟩ = some (.int .i64 ez.e.act) := hcellz 6 (by omega)
          have Heez := Lib.hid heez
          clear hcellz heez
          have hQ := HQ.out
          rw [hfin, slotAt_get hkl, Heez.out] at hQ
          have HQ2 := Lib.hid hQ
          have HOO := Lib.hid (HO.out.step hkw)
          clear hkw hdk hlk Heez hQ hfin
          go_wp2_with fail
          refine region_ext _ (by first | exact Later.ext _ _ | exact Later.refl _) mixed (by kernel_rfl) ?_
          repeat (go_big_quiet_step (fail))
          refine wpQuiet_nil ?_
          rintro _ ⟨q, rfl⟩
          go_wp2_with (first | (at_builtin; refine wpList_push rfl _ _ 33 rfl 60 (.agg #[.int .i64 0, .bool false, .int .u64 0, .int .u64 0, .int .u64 0, .int .u64 0, .int .i64 0, .int .i64 0]) 8 64 Try.underlying33 info_wr rfl (by omega) u11 A.length _ rfl (((HOO.out.ext _).alloc _)) _ 1 1 (Wr.cells ⟨p, ez⟩) rfl rfl (heap_alloc_new _ _) (by simp [Wr.cells, Value.oneCell']) (by unfold maxLen; omega) (by omega) ?_; intro v' w1 hown1))
          go_roundw
          case rel => exact ⟨k, f', A ++ [⟨p, ez⟩], Nat.le_refl _, by omega, by omega, rfl, own_pushW A ⟨p, ez⟩ rfl hown1, by rw [List.append_assoc]; exact HQ2.out⟩
          case measure => simp [intOf]; omega
        · obtain ⟨j, hj⟩ : ∃ j, k = j + 1 := ⟨k - 1, by omega⟩
          have hbk : ((k : Int) == (e0 : Int)) = false := by rw [beq_eq_false_iff_ne]; omega
          have hbn : ((k : Int) != (e0 : Int)) = true := by rw [bne_iff_ne]; omega
          have hk1 : (k : Int) + -1 = (j : Int) := by omega
          have hjl : j < l.length := by omega
          have hji : (j : Int) < (l.length : Int) := by omega
          have j0 : (0 : Int) ≤ j := by omega
          obtain ⟨bz, oz, rfl, hbz, hcellz⟩ := (HE.out.kept (HK1.out.trans (HO.out.1.trans hkw))).at_ (k) hkl
          obtain ⟨ez, heez⟩ : ∃ e, (l)[k]'hkl = e := ⟨_, rfl⟩
          rw [heez] at hcellz
          have cz0 : wr.cell? ⟨bz, oz + k * 7, none⟩ = some (.bool ez.v) := hcellz 0 (by omega)
          have cz1 : wr.cell? ⟨bz, oz + k * 7 + 1, none⟩ = some (.int .u64 (hi ez.e.x)) := hcellz 1 (by omega)
          have cz2 : wr.cell? ⟨bz, oz + k * 7 + 2, none⟩ = some (.int .u64 (lo ez.e.x)) := hcellz 2 (by omega)
          have cz3 : wr.cell? ⟨bz, oz + k * 7 + 3, none⟩ = some (.int .u64 (hi ez.e.m)) := hcellz 3 (by omega)
          have cz4 : wr.cell? ⟨bz, oz + k * 7 + 4, none⟩ = some (.int .u64 (lo ez.e.m)) := hcellz 4 (by omega)
          have cz5 : wr.cell? ⟨bz, oz + k * 7 + 5, none⟩ = some (.int .i64 ez.e.len) := hcellz 5 (by omega)
          have cz6 : wr.cell? ⟨bz, oz + k * 7 + 6, none⟩ = some (.int .i64 ez.e.act) := hcellz 6 (by omega)
          have Heez := Lib.hid heez
          clear hcellz heez
          obtain ⟨hby, hcelly⟩ := (HE.out.kept (HK1.out.trans (HO.out.1.trans hkw))).at2 (j) hjl
          obtain ⟨ey, heey⟩ : ∃ e, (l)[j]'hjl = e := ⟨_, rfl⟩
          rw [heey] at hcelly
          have cy0 : wr.cell? ⟨bz, oz + j * 7, none⟩ = some (.bool ey.v) := hcelly 0 (by omega)
          have cy1 : wr.cell? ⟨bz, oz + j * 7 + 1, none⟩ = some (.int .u64 (hi ey.e.x)) := hcelly 1 (by omega)
          have cy2 : wr.cell? ⟨bz, oz + j * 7 + 2, none⟩ = some (.int .u64 (lo ey.e.x)) := hcelly 2 (by omega)
          have cy3 : wr.cell? ⟨bz, oz + j * 7 + 3, none⟩ = some (.int .u64 (hi ey.e.m)) := hcelly 3 (by omega)
          have cy4 : wr.cell? ⟨bz, oz + j * 7 + 4, none⟩ = some (.int .u64 (lo ey.e.m)) := hcelly 4 (by omega)
          have cy5 : wr.cell? ⟨bz, oz + j * 7 + 5, none⟩ = some (.int .i64 ey.e.len) := hcelly 5 (by omega)
          have cy6 : wr.cell? ⟨bz, oz + j * 7 + 6, none⟩ = some (.int .i64 ey.e.act) := hcelly 6 (by omega)
          have Heey := Lib.hid heey
          clear hcelly heey
          obtain ⟨hbx, hcellx⟩ := (HE.out.kept (HK1.out.trans (HO.out.1.trans hkw))).at2 (q) hql
          obtain ⟨ex, heex⟩ : ∃ e, (l)[q]'hql = e := ⟨_, rfl⟩
          rw [heex] at hcellx
          have cx0 : wr.cell? ⟨bz, oz + q * 7, none⟩ = some (.bool ex.v) := hcellx 0 (by omega)
          have cx1 : wr.cell? ⟨bz, oz + q * 7 + 1, none⟩ = some (.int .u64 (hi ex.e.x)) := hcellx 1 (by omega)
          have cx2 : wr.cell? ⟨bz, oz + q * 7 + 2, none⟩ = some (.int .u64 (lo ex.e.x)) := hcellx 2 (by omega)
          have cx3 : wr.cell? ⟨bz, oz + q * 7 + 3, none⟩ = some (.int .u64 (hi ex.e.m)) := hcellx 3 (by omega)
          have cx4 : wr.cell? ⟨bz, oz + q * 7 + 4, none⟩ = some (.int .u64 (lo ex.e.m)) := hcellx 4 (by omega)
          have cx5 : wr.cell? ⟨bz, oz + q * 7 + 5, none⟩ = some (.int .i64 ex.e.len) := hcellx 5 (by omega)
          have cx6 : wr.cell? ⟨bz, oz + q * 7 + 6, none⟩ = some (.int .i64 ex.e.act) := hcellx 6 (by omega)
          have Heex := Lib.hid heex
          clear hcellx heex
          have hMx : ex.e.len = M := by rw [← HM.out, lenAt_get hql, Heex.out]
          rw [hMx] at cx5
          have hly := lenAt_get hjl
          rw [Heey.out] at hly
          have hun : downK l M e0 k = if k = e0 then k else if lenAt l j = M then downK l M e0 j else k := by rw [hj]; conv => lhs; unfold downK
          rw [if_neg hk0, hly] at hun
          have HJ := Lib.hid hj
          by_cases hyM : ey.e.len = M
          · rw [if_pos hyM] at hun
            have HD := Lib.hid (show downK l M e0 j = downK l M e0 q by rw [← hun]; exact hdk)
            have HLJ := Lib.hid (show lenAt l j = M by rw [hly]; exact hyM)
            have hbe : (ey.e.len == M) = true := by simp [hyM]
            rw [hyM] at cy5
            have hje : e0 ≤ j := by omega
            have hjq : j ≤ q := by omega
            have hjk : j < k := by omega
            clear hkw hdk hlk Heez Heey Heex hMx hly hun hyM hbe hj
            go_wp2_with fail
            refine region_ext _ (by first | exact Later.ext _ _ | exact Later.refl _) mixed (by kernel_rfl) ?_
            repeat (go_big_quiet_step (fail))
            refine wpQuiet_nil ?_
            rintro _ ⟨q, rfl⟩
            go_wp2_with fail
            go_roundw
            case rel => exact ⟨j, hje, hjq, by go_num, HY.out.ext _, HD.out, HLJ.out⟩
            case measure => simp [intOf]; omega
          · rw [if_neg hyM] at hun
            have hfin : downK l M e0 q = k := by rw [← hdk, hun]
            have hbe : (ey.e.len == M) = false := by simp [hyM]
            have hQ := HQ.out
            rw [hfin, slotAt_get hkl, Heez.out] at hQ
            have HQ2 := Lib.hid hQ
            have HOO := Lib.hid (HO.out.step hkw)
            have hkp : k < p := by omega
            clear hkw hdk hlk Heez Heey Heex hMx hly hun hfin hQ hj
            go_wp2_with fail
            refine region_ext _ (by first | exact Later.ext _ _ | exact Later.refl _) mixed (by kernel_rfl) ?_
            repeat (go_big_quiet_step (fail))
            refine wpQuiet_nil ?_
            rintro _ ⟨q, rfl⟩
            go_wp2_with (first | (at_builtin; refine wpList_push rfl _ _ 33 rfl 60 (.agg #[.int .i64 0, .bool false, .int .u64 0, .int .u64 0, .int .u64 0, .int .u64 0, .int .i64 0, .int .i64 0]) 8 64 Try.underlying33 info_wr rfl (by omega) u11 A.length _ rfl (((HOO.out.ext _).alloc _)) _ 1 1 (Wr.cells ⟨p, ez⟩) rfl rfl (heap_alloc_new _ _) (by simp [Wr.cells, Value.oneCell']) (by unfold maxLen; omega) (by omega) ?_; intro v' w1 hown1))
            go_roundw
            case rel => exact ⟨k, f', A ++ [⟨p, ez⟩], hke, by omega, by omega, rfl, own_pushW A ⟨p, ez⟩ rfl hown1, by rw [List.append_assoc]; exact HQ2.out⟩
            case measure => simp [intOf]; omega
end Go.Proofs.Ytdlikcdmhgbolaa
