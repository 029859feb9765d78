/- Routes: the reference's Table. -/
import Derived.Test.YtjkhdjonlppdoaaRib
namespace Go.Proofs.Ytjkhdjonlppdoaa
open Go.RowKit Pg

set_option maxHeartbeats 1000000 in
set_option maxRecDepth 100000 in
theorem reftable_any {l : List Rt} {v : Value} (fw : Int) (w : World) (hl : Els w v 4 Rt.cells l) (hn : l.length ≤ 1000) : Calls Try.prog 16 #[.int .i64 fw, v] w (Ret (.bool (tblB fw l)) w) := by
  obtain ⟨a, c, rfl, hc, he⟩ := hl.form
  have HE := Lib.hid he
  clear hl he
  go_enter Try.func16, Try.ntmps16
  go_wp2_with fail
  go_loopw [5] (fun vk wr => ∃ k : Nat, k ≤ l.length ∧ vk = .int .i64 k ∧ Kept w wr ∧ tabGo fw none l = tabGo fw (prevR l k) (l.drop k)) (fun k _ => l.length - (intOf k).toNat)
  case atStart => exact ⟨0, by omega, rfl, Kept.refl _, rfl⟩
  case round =>
    obtain ⟨k, hk, rfl, hkw, ht⟩ := hrel
    have HX := Lib.hid hkw
    by_cases hlt : k < l.length
    · have hst := tabGo_step fw l k hlt
      rw [← ht] at hst
      obtain ⟨b, o, rfl, hb, hcell⟩ := (HE.out.kept hkw).at_ (k) hlt
      obtain ⟨e, hee⟩ : ∃ e, (l)[k]'hlt = e := ⟨_, rfl⟩
      rw [hee] at hcell
      have c0 : wr.cell? ⟨b, o + k * 4, none⟩ = some (.int .u64 (hi e.x)) := hcell 0 (by omega)
      have c1 : wr.cell? ⟨b, o + k * 4 + 1, none⟩ = some (.int .u64 (lo e.x)) := hcell 1 (by omega)
      have c2 : wr.cell? ⟨b, o + k * 4 + 2, none⟩ = some (.int .i64 e.n) := hcell 2 (by omega)
      have c3 : wr.cell? ⟨b, o + k * 4 + 3, none⟩ = some (.int .i64 e.act) := hcell 3 (by omega)
      have Hee := Lib.hid hee
      clear hcell hee
      rw [Hee.out] at hst
      have hkl : (k : Int) < (l.length : Int) := by omega
      have k0 : (0 : Int) ≤ k := by omega
      cases hr : rightR fw e
      · have HR := Lib.hid (refrightR_as hr)
        have HV := Lib.hid (show tblB fw l = false by unfold tblB; rw [hst]; unfold adjOk; rw [hr]; rfl)
        clear hkw ht hst hr Hee
        go_wp2_with fail
        refine region_ext _ (by first | exact Later.ext _ _ | exact Later.refl _) mixed (by kernel_rfl) ?_
        repeat (go_big_quiet_step ((first | (go_at_call 13; exact calls_in (HR.out _)))))
        refine wpQuiet_nil ?_
        rintro _ ⟨q, rfl⟩
        go_wp2_with fail
        go_ret
        exact Ret.of (by rw [HV.out]; rfl) (by simp (maxDischargeDepth := 99) [HX.out])
      · have HR := Lib.hid (refrightR_as hr)
        cases k with
        | zero =>
          have HT := Lib.hid (show tabGo fw none l = tabGo fw (prevR l 1) (l.drop 1) by rw [hst]; unfold adjOk; rw [hr]; rfl)
          clear hkw ht hst hr Hee
          simp only [Nat.zero_mul, Nat.add_zero] at c0 c1 c2 c3
          go_wp2_with fail
          refine region_ext _ (by first | exact Later.ext _ _ | exact Later.refl _) mixed (by kernel_rfl) ?_
          repeat (go_big_quiet_step ((first | (go_at_call 13; exact calls_in (HR.out _)))))
          refine wpQuiet_nil ?_
          rintro _ ⟨q, rfl⟩
          go_wp2_with fail
          go_roundw
          case rel => exact ⟨1, by omega, by go_num, HX.out.ext _, HT.out⟩
          case measure => simp [intOf]; omega
        | succ j =>
          have hjl : j < l.length := by omega
          have j0 : (0 : Int) ≤ j := by omega
          have j1 : (j : Int) < (l.length : Int) := by omega
          obtain ⟨hbp, hcellp⟩ := (HE.out.kept hkw).at2 (j) hjl
          obtain ⟨ep, heep⟩ : ∃ e, (l)[j]'hjl = e := ⟨_, rfl⟩
          rw [heep] at hcellp
          have cp0 : wr.cell? ⟨b, o + j * 4, none⟩ = some (.int .u64 (hi ep.x)) := hcellp 0 (by omega)
          have cp1 : wr.cell? ⟨b, o + j * 4 + 1, none⟩ = some (.int .u64 (lo ep.x)) := hcellp 1 (by omega)
          have cp2 : wr.cell? ⟨b, o + j * 4 + 2, none⟩ = some (.int .i64 ep.n) := hcellp 2 (by omega)
          have cp3 : wr.cell? ⟨b, o + j * 4 + 3, none⟩ = some (.int .i64 ep.act) := hcellp 3 (by omega)
          have Heep := Lib.hid heep
          clear hcellp heep
          have hpv : prevR l (j + 1) = some ep := by unfold prevR; rw [if_neg (by omega), Nat.add_sub_cancel, List.getElem?_eq_getElem hjl, Heep.out]
          obtain ⟨i, hi⟩ : ∃ i, cmpP ep.x ep.n e.x e.n = i := ⟨_, rfl⟩
          have HC := Lib.hid (refcmpp_as hi)
          have hst2 : tabGo fw none l = (decide (i < 0) && tabGo fw (prevR l (j + 2)) (l.drop (j + 2))) := by
            rw [hst, hpv]
            unfold adjOk
            rw [hr, Bool.true_and]
            show (decide (cmpP ep.x ep.n e.x e.n < 0) && _) = _
            rw [hi]
          by_cases hlt0 : i < 0
          · have HT := Lib.hid (show tabGo fw none l = tabGo fw (prevR l (j + 2)) (l.drop (j + 2)) by rw [hst2, decide_eq_true hlt0]; rfl)
            have hd : decide (0 ≤ i) = false := by simp; omega
            clear hkw ht hst hst2 hr Hee Heep hpv hi
            go_wp2_with fail
            refine region_ext _ (by first | exact Later.ext _ _ | exact Later.refl _) mixed (by kernel_rfl) ?_
            repeat (go_big_quiet_step ((first | (go_at_call 13; exact calls_in (HR.out _)) | (go_at_call 43; exact calls_in (HC.out _)))))
            refine wpQuiet_nil ?_
            rintro _ ⟨q, rfl⟩
            go_wp2_with fail
            go_roundw
            case rel => exact ⟨j + 2, by omega, by go_num, HX.out.ext _, HT.out⟩
            case measure => simp [intOf]; omega
          · have HV := Lib.hid (show tblB fw l = false by unfold tblB; rw [hst2, decide_eq_false hlt0]; rfl)
            have hd : decide (0 ≤ i) = true := by simp; omega
            have hd2 : 0 ≤ i := by omega
            clear hkw ht hst hst2 hr Hee Heep hpv hi
            go_wp2_with fail
            refine region_ext _ (by first | exact Later.ext _ _ | exact Later.refl _) mixed (by kernel_rfl) ?_
            repeat (go_big_quiet_step ((first | (go_at_call 13; exact calls_in (HR.out _)) | (go_at_call 43; exact calls_in (HC.out _)))))
            refine wpQuiet_nil ?_
            rintro _ ⟨q, rfl⟩
            go_wp2_with fail
            go_ret
            exact Ret.of (by rw [HV.out]; rfl) (by simp (maxDischargeDepth := 99) [HX.out])
    · have hkl : k = l.length := by omega
      subst hkl
      have hv : tblB fw l = (famB fw && decide (l.length ≤ 256)) := by unfold tblB; rw [ht, List.drop_length]; rfl
      have HV := Lib.hid hv
      clear hkw ht hlt hv
      by_cases h1 : fw = 32
      · subst h1
        have HV2 := Lib.hid (show tblB 32 l = decide (l.length ≤ 256) by rw [HV.out]; rfl)
        go_wp2_with fail
        go_ret
        exact Ret.of (by rw [HV2.out]; go_num) (by simp (maxDischargeDepth := 99) [HX.out])
      · have hf1 : (fw == 32) = false := by simp [h1]
        by_cases h2 : fw = 128
        · subst h2
          have HV2 := Lib.hid (show tblB 128 l = decide (l.length ≤ 256) by rw [HV.out]; rfl)
          go_wp2_with fail
          go_ret
          exact Ret.of (by rw [HV2.out]; go_num) (by simp (maxDischargeDepth := 99) [HX.out])
        · have hf2 : (fw == 128) = false := by simp [h2]
          have HV2 := Lib.hid (show tblB fw l = false by rw [HV.out]; unfold famB; rw [decide_eq_false h1, decide_eq_false h2]; rfl)
          go_wp2_with fail
          go_ret
          exact Ret.of (by rw [HV2.out]; rfl) (by simp (maxDischargeDepth := 99) [HX.out])
theorem reftable_as {l : List Rt} {v : Value} {b : Bool} {fw : Int} (h : tblB fw l = b) (w : World) (hl : Els w v 4 Rt.cells l) (hn : l.length ≤ 1000) : Calls Try.prog 16 #[.int .i64 fw, v] w (Ret (.bool b) w) := by rw [← h]; exact reftable_any fw w hl hn
end Go.Proofs.Ytjkhdjonlppdoaa
