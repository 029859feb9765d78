/- Slots in the order of lengths: plo.Kept, Gap, Lengths; the reference's. -/
import Derived.Test.YtdlikcdmhgbolaaMathL
import Derived.Test.YtdlikcdmhgbolaaSlSlot
import Derived.Test.YtdlikcdmhgbolaaBank4
import Derived.Maps.OwnSet
namespace Go.Proofs.Ytdlikcdmhgbolaa
open Go.RowKit Pg

theorem kept_extP (w : World) (p : Regrown) : Kept w (ext w p) := below_ext w p
set_option maxHeartbeats 1000000 in
set_option maxRecDepth 100000 in
theorem kept1_any (e f : Ent) (w : World) : Calls Try.prog 37 #[ev e, ev f] w (Ret (.int .i64 (cmpI f.len e.len)) w) := by
  go_enter Try.func37, Try.ntmps37
  go_wp2_with (first | (go_at_call 38; first | ((refine (calls_in (cmpint_any _ _ _)).mono ?_); rintro e w1 ⟨rfl, q1, rfl⟩) | ((refine (cmpint_any _ _ _).mono ?_); rintro e w1 ⟨rfl, q1, rfl⟩)))
  go_ret
  exact Ret.of (rfl) (by simp (maxDischargeDepth := 99))
set_option maxHeartbeats 1000000 in
set_option maxRecDepth 100000 in
theorem issorted_any {l : List Ent} {v : Value} (w : World) (hl : Els w v 6 Ent.cells l) (hn : l.length ≤ 1000) : Calls Try.prog 39 #[v, .func (.func 37) #[] #[]] w (Ret (.bool (keptE l)) w) := by
  obtain ⟨ad, c, rfl, hc, he⟩ := hl.form
  have HE := Lib.hid he
  clear hl he
  go_enter Try.func39, Try.ntmps39
  go_wp2_with fail
  go_loopw [5] (fun vi wr => ∃ i : Nat, i ≤ l.length ∧ vi = .int .i64 ((i : Int) - 1) ∧ Kept w wr ∧ keptE (l.drop (i - 1)) = true) (fun vi _ => (intOf vi).toNat)
  case atStart => exact ⟨l.length, by omega, rfl, Kept.refl _, by
    rcases Nat.eq_zero_or_pos l.length with h | h
    · rw [List.eq_nil_of_length_eq_zero h]; rfl
    · rw [List.drop_eq_getElem_cons (show l.length - 1 < l.length by omega), show l.length - 1 + 1 = l.length by omega, List.drop_length]; rfl⟩
  case round =>
    obtain ⟨i, hi9, rfl, hkw, hs⟩ := hrel
    have HX := Lib.hid hkw
    by_cases hlt : 2 ≤ i
    · obtain ⟨j, rfl⟩ : ∃ j, i = j + 2 := ⟨i - 2, by omega⟩
      have hj1 : j + 1 < l.length := by omega
      have hj0 : j < l.length := by omega
      have hst := keptE_step l j hj1
      rw [show j + 2 - 1 = j + 1 by omega] at hs
      rw [hs, Bool.and_true] at hst
      have hii : ((j + 2 : Nat) : Int) - 1 = ((j + 1 : Nat) : Int) := by omega
      have hpos : decide (0 < ((j + 1 : Nat) : Int)) = true := decide_eq_true (by omega)
      have hsub : ((j + 1 : Nat) : Int) - 1 = (j : Int) := by omega
      have j0 : (0 : Int) ≤ (j : Int) := by omega
      have j1 : (j : Int) < (l.length : Int) := by omega
      have k0 : (0 : Int) ≤ ((j + 1 : Nat) : Int) := by omega
      have k1 : ((j + 1 : Nat) : Int) < (l.length : Int) := by omega
      rw [hii]
      obtain ⟨J, hJ⟩ : ∃ J, J = j + 1 := ⟨_, rfl⟩
      rw [← hJ] at hii hpos hsub k0 k1 ⊢
      have HJ := Lib.hid hJ
      have hJl : J < l.length := by omega
      clear hJ hii
      obtain ⟨bx, ox, rfl, hbx, hcellx⟩ := (HE.out.kept hkw).at_ (J) hJl
      obtain ⟨ex, heex⟩ : ∃ e, (l)[J]'hJl = e := ⟨_, rfl⟩
      rw [heex] at hcellx
      have cx0 : wr.cell? ⟨bx, ox + J * 6, none⟩ = some (.int .u64 (hi ex.x)) := hcellx 0 (by omega)
      have cx1 : wr.cell? ⟨bx, ox + J * 6 + 1, none⟩ = some (.int .u64 (lo ex.x)) := hcellx 1 (by omega)
      have cx2 : wr.cell? ⟨bx, ox + J * 6 + 2, none⟩ = some (.int .u64 (hi ex.m)) := hcellx 2 (by omega)
      have cx3 : wr.cell? ⟨bx, ox + J * 6 + 3, none⟩ = some (.int .u64 (lo ex.m)) := hcellx 3 (by omega)
      have cx4 : wr.cell? ⟨bx, ox + J * 6 + 4, none⟩ = some (.int .i64 ex.len) := hcellx 4 (by omega)
      have cx5 : wr.cell? ⟨bx, ox + J * 6 + 5, none⟩ = some (.int .i64 ex.act) := hcellx 5 (by omega)
      have Heex := Lib.hid heex
      clear hcellx heex
      obtain ⟨hby, hcelly⟩ := (HE.out.kept hkw).at2 (j) hj0
      obtain ⟨ey, heey⟩ : ∃ e, (l)[j]'hj0 = e := ⟨_, rfl⟩
      rw [heey] at hcelly
      have cy0 : wr.cell? ⟨bx, ox + j * 6, none⟩ = some (.int .u64 (hi ey.x)) := hcelly 0 (by omega)
      have cy1 : wr.cell? ⟨bx, ox + j * 6 + 1, none⟩ = some (.int .u64 (lo ey.x)) := hcelly 1 (by omega)
      have cy2 : wr.cell? ⟨bx, ox + j * 6 + 2, none⟩ = some (.int .u64 (hi ey.m)) := hcelly 2 (by omega)
      have cy3 : wr.cell? ⟨bx, ox + j * 6 + 3, none⟩ = some (.int .u64 (lo ey.m)) := hcelly 3 (by omega)
      have cy4 : wr.cell? ⟨bx, ox + j * 6 + 4, none⟩ = some (.int .i64 ey.len) := hcelly 4 (by omega)
      have cy5 : wr.cell? ⟨bx, ox + j * 6 + 5, none⟩ = some (.int .i64 ey.act) := hcelly 5 (by omega)
      have Heey := Lib.hid heey
      clear hcelly heey
      have hst2 : keptE (l.drop j) = decide (ex.len ≤ ey.len) := by
        have e1 : l[j + 1] = ex := by rw [← Heex.out]; congr 1; exact HJ.out.symm
        rw [hst, e1, Heey.out]
      have HC := Lib.hid (fun W => show Calls Try.prog 37 #[ev ex, ev ey] W (Ret (.int .i64 (cmpI ey.len ex.len)) W) from kept1_any ex ey W)
      by_cases hlt2 : ey.len < ex.len
      · have HV := Lib.hid (show keptE l = false by
          cases hk : keptE l
          · rfl
          · have := keptE_drop l j hk
            rw [hst2, decide_eq_true_eq] at this
            omega)
        have hcv : cmpI ey.len ex.len = -1 := by unfold cmpI; rw [if_pos hlt2]
        rw [hcv] at HC
        clear hkw hs hst hst2 Heex Heey hcv hlt2
        go_wp2_with fail
        refine region_ext _ (by first | exact Later.ext _ _ | exact Later.refl _) mixed (by kernel_rfl) ?_
        repeat (go_big_quiet_step ((first | (exact calls_in (HC.out _)))))
        refine wpQuiet_nil ?_
        rintro _ ⟨q, rfl⟩
        go_wp2_with fail
        go_ret
        exact Ret.of (by rw [HV.out]; rfl) (by simp (maxDischargeDepth := 99) [HX.out])
      · have hT := Lib.hid (show keptE (l.drop j) = true by rw [hst2]; simp; omega)
        obtain ⟨cc, hcc⟩ : ∃ cc, cmpI ey.len ex.len = cc := ⟨_, rfl⟩
        have hc0 : decide (cc < 0) = false := by
          rw [← hcc]; unfold cmpI; rw [if_neg hlt2]; split <;> decide
        have hc1 : ¬ cc < 0 := by simpa using hc0
        rw [hcc] at HC
        clear hkw hs hst hst2 Heex Heey hcc hlt2
        go_wp2_with fail
        refine region_ext _ (by first | exact Later.ext _ _ | exact Later.refl _) mixed (by kernel_rfl) ?_
        repeat (go_big_quiet_step ((first | (exact calls_in (HC.out _)))))
        refine wpQuiet_nil ?_
        rintro _ ⟨q, rfl⟩
        go_wp2_with fail
        go_roundw
        case rel => exact ⟨J, by have := HJ.out; omega, by rw [hsub], HX.out.ext _, by rw [HJ.out, Nat.add_sub_cancel]; exact hT.out⟩
        case measure => simp [intOf]; omega
    · have hpos : decide (0 < (i : Int) - 1) = false := by simp; omega
      have hneg : ¬ 0 < (i : Int) - 1 := by omega
      have HV := Lib.hid (show keptE l = true by
        rw [show i - 1 = 0 by omega, List.drop_zero] at hs
        exact hs)
      clear hkw hs
      go_wp2_with fail
      go_ret
      exact Ret.of (by rw [HV.out]; rfl) (by simp (maxDischargeDepth := 99) [HX.out])
set_option maxHeartbeats 1000000 in
set_option maxRecDepth 100000 in
theorem plokept_any {l : List Slot} {v : Value} (w : World) (hl : Els w v 7 Slot.cells l) (hn : l.length ≤ 1000) : Calls Try.prog 17 #[v] w (Ret (.bool (keptS l)) w) := by
  have hle := entsS_len l
  have hen := Lib.hid (bentries_any w hl hn)
  obtain ⟨E, hE⟩ : ∃ E, entsS l = E := ⟨_, rfl⟩
  have hV : keptS l = keptE E := by unfold keptS; rw [hE]
  rw [hE] at hen hle
  rw [hV]
  have hso := Lib.hid (fun W (u : Value) (h : Els W u 6 Ent.cells E) => issorted_any W h (by omega))
  obtain ⟨a, c, rfl, hc, he⟩ := hl.form
  clear hl he hE hV
  go_enter Try.func17, Try.ntmps17
  go_wp2_with fail
  refine (hen.out).mono ?_
  rintro e w1 hR
  obtain ⟨a1, c1, rfl, hlc1, hown1, hels1⟩ := RetEls.out2 Ent.cells_len hR
  have HE1 := Lib.hid hels1
  have HK1 := Lib.hid hown1.1
  clear hown1 hels1 hR
  go_wp2_with fail
  refine (hso.out _ _ HE1.out).mono ?_
  rintro e w1 ⟨rfl, q2, rfl⟩
  go_wp2_with fail
  go_ret
  exact Ret.of (rfl) (by simp (maxDischargeDepth := 99) [HK1.out])
theorem plokept_as {l : List Slot} {v : Value} {b : Bool} (h : keptS l = b) (w : World) (hl : Els w v 7 Slot.cells l) (hn : l.length ≤ 1000) : Calls Try.prog 17 #[v] w (Ret (.bool b) w) := by rw [← h]; exact plokept_any w hl hn
set_option maxHeartbeats 1000000 in
set_option maxRecDepth 100000 in
theorem plogap_any {l : List Slot} {v : Value} (n : Int) (w : World) (hl : Els w v 7 Slot.cells l) (hn : l.length ≤ 1000) : Calls Try.prog 15 #[v, .int .i64 n] w (Ret (if keptS l then .tuple #[.int .i64 (fromS n l : Int), .int .i64 (toS n l : Int)] else .tuple #[.int .i64 0, .int .i64 0]) w) := by
  have HE := Lib.hid hl
  obtain ⟨a, c, rfl, hc, he⟩ := hl.form
  cases hk : keptS l
  · have hkp := Lib.hid (fun W (h : Els W (.slice a l.length c) 7 Slot.cells l) => plokept_as hk W h hn)
    clear hl he hk
    go_enter Try.func15, Try.ntmps15
    go_wp2_with fail
    refine (hkp.out _ HE.out).mono ?_
    rintro e w1 ⟨rfl, q1, rfl⟩
    go_wp2_with fail
    exact bodyPost_ret (v := .tuple #[.int .i64 0, .int .i64 0]) (by simp [results, Try.results15, go_sem]) rfl (Ret.mk (by simp (maxDischargeDepth := 99)))
  · have hkp := Lib.hid (fun W (h : Els W (.slice a l.length c) 7 Slot.cells l) => plokept_as hk W h hn)
    have HF := Lib.hid (fromK_le n l)
    simp only [if_true]
    clear hl he hk
    go_enter Try.func15, Try.ntmps15
    go_wp2_with fail
    refine (hkp.out _ HE.out).mono ?_
    rintro e w1 ⟨rfl, q1, rfl⟩
    obtain ⟨w1, hw1⟩ : ∃ w1, w1 = ext w q1 := ⟨_, rfl⟩
    have HK1 := Lib.hid (show Kept w w1 by rw [hw1]; exact kept_extP _ _)
    rw [← hw1]
    clear hw1
    go_wp2_with fail
    go_loopw [6, 7, 8, 9, 17] (fun vf vt _ _ vk wr => ∃ k : Nat, k ≤ l.length ∧ vk = .int .i64 k ∧ vf = .int .i64 (fromK n l k : Int) ∧ vt = .int .i64 (toU n l k : Int) ∧ Kept w1 wr) (fun _ _ _ _ vk _ => l.length - (intOf vk).toNat)
    case atStart => exact ⟨0, by omega, rfl, rfl, by unfold toU; rw [if_neg (by omega)], Kept.refl _⟩
    case round =>
      obtain ⟨k, hkl, rfl, rfl, rfl, hkw⟩ := hrel
      have HX := Lib.hid hkw
      by_cases hlt : k < l.length
      · have hkl2 : (k : Int) < (l.length : Int) := by omega
        have k0 : (0 : Int) ≤ k := by omega
        obtain ⟨b, o, rfl, hb, hcell⟩ := (HE.out.kept (HK1.out.trans hkw)).at_ (k) hlt
        obtain ⟨e, hee⟩ : ∃ e, (l)[k]'hlt = e := ⟨_, rfl⟩
        rw [hee] at hcell
        have c0 : wr.cell? ⟨b, o + k * 7, none⟩ = some (.bool e.v) := hcell 0 (by omega)
        have c1 : wr.cell? ⟨b, o + k * 7 + 1, none⟩ = some (.int .u64 (hi e.e.x)) := hcell 1 (by omega)
        have c2 : wr.cell? ⟨b, o + k * 7 + 2, none⟩ = some (.int .u64 (lo e.e.x)) := hcell 2 (by omega)
        have c3 : wr.cell? ⟨b, o + k * 7 + 3, none⟩ = some (.int .u64 (hi e.e.m)) := hcell 3 (by omega)
        have c4 : wr.cell? ⟨b, o + k * 7 + 4, none⟩ = some (.int .u64 (lo e.e.m)) := hcell 4 (by omega)
        have c5 : wr.cell? ⟨b, o + k * 7 + 5, none⟩ = some (.int .i64 e.e.len) := hcell 5 (by omega)
        have c6 : wr.cell? ⟨b, o + k * 7 + 6, none⟩ = some (.int .i64 e.e.act) := hcell 6 (by omega)
        have Hee := Lib.hid hee
        clear hcell hee
        obtain ⟨gx, hgx⟩ : ∃ gx, gx = wr.heap.size := ⟨_, rfl⟩
        have hfl := HF.out k
        cases hv : e.v
        · have ha : abv n l[k] = false := by rw [Hee.out]; unfold abv; rw [hv]; rfl
          have hb : blw n l[k] = false := by rw [Hee.out]; unfold blw; rw [hv]; rfl
          have H1 := Lib.hid (fromK_not hlt ha)
          have H2 := Lib.hid (toU_not hlt hb)
          rw [hv] at c0
          clear hkw Hee ha hb hv hgx
          go_wp2_with fail
          go_roundw
          case rel => exact ⟨k + 1, by omega, by go_num, by rw [H1.out], by rw [H2.out], HX.out.trans (by simp (maxDischargeDepth := 99))⟩
          case measure => simp [intOf]; omega
        · rw [hv] at c0
          by_cases hgt : n < e.e.len
          · have ha : abv n l[k] = true := by rw [Hee.out]; unfold abv; rw [hv, decide_eq_true hgt]; rfl
            have hb : blw n l[k] = false := by rw [Hee.out]; unfold blw; rw [hv, decide_eq_false (by omega)]; rfl
            have H1 := Lib.hid (fromK_yes hlt ha)
            have H2 := Lib.hid (toU_not hlt hb)
            have hle2 : ¬ e.e.len < n := by omega
            clear hkw Hee ha hb hv hgx
            go_wp2_with fail
            go_roundw
            case rel => exact ⟨k + 1, by omega, by go_num, by rw [H1.out]; go_num, by rw [H2.out], HX.out.trans (by simp (maxDischargeDepth := 99))⟩
            case measure => simp [intOf]; omega
          · have ha : abv n l[k] = false := by rw [Hee.out]; unfold abv; rw [hv, decide_eq_false hgt]; rfl
            have H1 := Lib.hid (fromK_not hlt ha)
            by_cases hlt2 : e.e.len < n
            · have hb : blw n l[k] = true := by rw [Hee.out]; unfold blw; rw [hv, decide_eq_true hlt2]; rfl
              have H2 := Lib.hid (toU_yes hlt hb)
              have hmin : min (toU n l k : Int) (k : Int) = ((min (toU n l k) k : Nat) : Int) := by omega
              clear hkw Hee ha hb hv hgx
              go_wp2_with fail
              go_roundw
              case rel => exact ⟨k + 1, by omega, by go_num, by rw [H1.out], by rw [H2.out, ← hmin], HX.out.trans (by simp (maxDischargeDepth := 99))⟩
              case measure => simp [intOf]; omega
            · have hb : blw n l[k] = false := by rw [Hee.out]; unfold blw; rw [hv, decide_eq_false hlt2]; rfl
              have H2 := Lib.hid (toU_not hlt hb)
              clear hkw Hee ha hb hv hgx
              go_wp2_with fail
              go_roundw
              case rel => exact ⟨k + 1, by omega, by go_num, by rw [H1.out], by rw [H2.out], HX.out.trans (by simp (maxDischargeDepth := 99))⟩
              case measure => simp [intOf]; omega
      · have hkk : k = l.length := by omega
        subst hkk
        have hlast := toU_last n l
        have HL := Lib.hid hlast
        have HKW := Lib.hid (HK1.out.trans hkw)
        clear hkw hlt hlast
        go_wp2_with fail
        rw [show fromS n l = fromK n l l.length from rfl, ← HL.out]
        exact bodyPost_ret (v := .tuple #[.int .i64 (fromK n l l.length : Int), .int .i64 (toU n l l.length : Int)]) (by simp [results, Try.results15, go_sem]) rfl (Ret.mk (by simp (maxDischargeDepth := 99) [HKW.out]))
end Go.Proofs.Ytdlikcdmhgbolaa
