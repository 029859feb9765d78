/- Routes: rib.Right, Table, Cover. -/
import Derived.Test.YtjkhdjonlppdoaaLongest2
namespace Go.Proofs.Ytjkhdjonlppdoaa
open Go.RowKit Pg

theorem cmpp_as {i : Int} {x : B} {n : Int} {y : B} {m : Int} (h : cmpP x n y m = i) (w : World) : Calls Try.prog 41 #[pv x n, pv y m] w (Ret (.int .i64 i) w) := by rw [← h]; exact cmpp_any x n y m w
set_option maxHeartbeats 1000000 in
set_option maxRecDepth 100000 in
theorem ribright_any (k : Int) (r : Rt) (w : World) : Calls Try.prog 12 #[.int .i64 k, rv r] w (Ret (.bool (rightR k r)) w) := by
  cases h1 : rightB k r.x r.n
  · have HV := Lib.hid (show rightR k r = false by unfold rightR; rw [h1]; rfl)
    go_enter Try.func12, Try.ntmps12
    go_wp2_with (first | (go_at_call 35; first | ((refine (calls_in (right_as h1 _)).mono ?_); rintro e w1 ⟨rfl, q1, rfl⟩) | ((refine (right_as h1 _).mono ?_); rintro e w1 ⟨rfl, q1, rfl⟩)))
    go_ret
    exact Ret.of (by rw [HV.out]; rfl) (by simp (maxDischargeDepth := 99))
  cases h2 : decide (1 ≤ r.act)
  · have HV := Lib.hid (show rightR k r = false by unfold rightR; rw [h1, h2]; rfl)
    go_enter Try.func12, Try.ntmps12
    go_wp2_with (first | (go_at_call 35; first | ((refine (calls_in (right_as h1 _)).mono ?_); rintro e w1 ⟨rfl, q1, rfl⟩) | ((refine (right_as h1 _).mono ?_); rintro e w1 ⟨rfl, q1, rfl⟩)))
    go_ret
    exact Ret.of (by rw [HV.out]; rfl) (by simp (maxDischargeDepth := 99))
  have HV := Lib.hid (show rightR k r = decide (r.act ≤ 255) by unfold rightR; rw [h1, h2]; rfl)
  go_enter Try.func12, Try.ntmps12
  go_wp2_with (first | (go_at_call 35; first | ((refine (calls_in (right_as h1 _)).mono ?_); rintro e w1 ⟨rfl, q1, rfl⟩) | ((refine (right_as h1 _).mono ?_); rintro e w1 ⟨rfl, q1, rfl⟩)))
  go_ret
  exact Ret.of (by rw [HV.out]; rfl) (by simp (maxDischargeDepth := 99))
theorem ribright_as {b : Bool} {k : Int} {r : Rt} (h : rightR k r = b) (w : World) : Calls Try.prog 12 #[.int .i64 k, rv r] w (Ret (.bool b) w) := by rw [← h]; exact ribright_any k r w
set_option maxHeartbeats 1000000 in
set_option maxRecDepth 100000 in
theorem ribtable_any {l : List Rt} {v : Value} (fw : Int) (w : World) (hl : Els w v 4 Rt.cells l) (hn : l.length ≤ 1000) : Calls Try.prog 15 #[.int .i64 fw, v] w (Ret (.bool (tblB fw l)) w) := by
  obtain ⟨a, c, rfl, hc, he⟩ := hl.form
  have HE := Lib.hid he
  clear hl he
  go_enter Try.func15, Try.ntmps15
  go_wp2_with fail
  go_loopw [5, 6, 9] (fun _ _ vk wr => ∃ k : Nat, k ≤ l.length ∧ vk = .int .i64 k ∧ Kept w wr ∧ tabGo fw none l = tabGo fw (prevR l k) (l.drop k)) (fun _ _ k _ => l.length - (intOf k).toNat)
  case atStart => exact ⟨0, by omega, rfl, Kept.refl _, rfl⟩
  case round =>
    obtain ⟨k, hk, rfl, hkw, ht⟩ := hrel
    have HX := Lib.hid hkw
    by_cases hlt : k < l.length
    · have hst := tabGo_step fw l k hlt
      rw [← ht] at hst
      obtain ⟨b, o, rfl, hb, hcell⟩ := (HE.out.kept hkw).at_ (k) hlt
      obtain ⟨e, hee⟩ : ∃ e, (l)[k]'hlt = e := ⟨_, rfl⟩
      rw [hee] at hcell
      have c0 : wr.cell? ⟨b, o + k * 4, none⟩ = some (.int .u64 (hi e.x)) := hcell 0 (by omega)
      have c1 : wr.cell? ⟨b, o + k * 4 + 1, none⟩ = some (.int .u64 (lo e.x)) := hcell 1 (by omega)
      have c2 : wr.cell? ⟨b, o + k * 4 + 2, none⟩ = some (.int .i64 e.n) := hcell 2 (by omega)
      have c3 : wr.cell? ⟨b, o + k * 4 + 3, none⟩ = some (.int .i64 e.act) := hcell 3 (by omega)
      have Hee := Lib.hid hee
      clear hcell hee
      rw [Hee.out] at hst
      have hkl : (k : Int) < (l.length : Int) := by omega
      have k0 : (0 : Int) ≤ k := by omega
      cases hr : rightR fw e
      · have HR := Lib.hid (ribright_as hr)
        have HV := Lib.hid (show tblB fw l = false by unfold tblB; rw [hst]; unfold adjOk; rw [hr]; rfl)
        clear hkw ht hst hr Hee
        go_wp2_with fail
        refine region_ext _ (by first | exact Later.ext _ _ | exact Later.refl _) mixed (by kernel_rfl) ?_
        repeat (go_big_quiet_step ((first | (go_at_call 12; exact calls_in (HR.out _)))))
        refine wpQuiet_nil ?_
        rintro _ ⟨q, rfl⟩
        go_wp2_with fail
        go_ret
        exact Ret.of (by rw [HV.out]; rfl) (by simp (maxDischargeDepth := 99) [HX.out])
      · have HR := Lib.hid (ribright_as hr)
        cases k with
        | zero =>
          have HT := Lib.hid (show tabGo fw none l = tabGo fw (prevR l 1) (l.drop 1) by rw [hst]; unfold adjOk; rw [hr]; rfl)
          clear hkw ht hst hr Hee
          simp only [Nat.zero_mul, Nat.add_zero] at c0 c1 c2 c3
          go_wp2_with fail
          refine region_ext _ (by first | exact Later.ext _ _ | exact Later.refl _) mixed (by kernel_rfl) ?_
          repeat (go_big_quiet_step ((first | (go_at_call 12; exact calls_in (HR.out _)))))
          refine wpQuiet_nil ?_
          rintro _ ⟨q, rfl⟩
          go_wp2_with fail
          go_roundw
          case rel => exact ⟨1, by omega, by go_num, (HX.out.alloc _).ext _, HT.out⟩
          case measure => simp [intOf]; omega
        | succ j =>
          have hjl : j < l.length := by omega
          have j0 : (0 : Int) ≤ j := by omega
          have j1 : (j : Int) < (l.length : Int) := by omega
          obtain ⟨hbp, hcellp⟩ := (HE.out.kept hkw).at2 (j) hjl
          obtain ⟨ep, heep⟩ : ∃ e, (l)[j]'hjl = e := ⟨_, rfl⟩
          rw [heep] at hcellp
          have cp0 : wr.cell? ⟨b, o + j * 4, none⟩ = some (.int .u64 (hi ep.x)) := hcellp 0 (by omega)
          have cp1 : wr.cell? ⟨b, o + j * 4 + 1, none⟩ = some (.int .u64 (lo ep.x)) := hcellp 1 (by omega)
          have cp2 : wr.cell? ⟨b, o + j * 4 + 2, none⟩ = some (.int .i64 ep.n) := hcellp 2 (by omega)
          have cp3 : wr.cell? ⟨b, o + j * 4 + 3, none⟩ = some (.int .i64 ep.act) := hcellp 3 (by omega)
          have Heep := Lib.hid heep
          clear hcellp heep
          have hpv : prevR l (j + 1) = some ep := by unfold prevR; rw [if_neg (by omega), Nat.add_sub_cancel, List.getElem?_eq_getElem hjl, Heep.out]
          obtain ⟨i, hi⟩ : ∃ i, cmpP ep.x ep.n e.x e.n = i := ⟨_, rfl⟩
          have HC := Lib.hid (cmpp_as hi)
          have hst2 : tabGo fw none l = (decide (i < 0) && tabGo fw (prevR l (j + 2)) (l.drop (j + 2))) := by
            rw [hst, hpv]
            unfold adjOk
            rw [hr, Bool.true_and]
            show (decide (cmpP ep.x ep.n e.x e.n < 0) && _) = _
            rw [hi]
          by_cases hlt0 : i < 0
          · have HT := Lib.hid (show tabGo fw none l = tabGo fw (prevR l (j + 2)) (l.drop (j + 2)) by rw [hst2, decide_eq_true hlt0]; rfl)
            have hd : decide (0 ≤ i) = false := by simp; omega
            clear hkw ht hst hst2 hr Hee Heep hpv hi
            go_wp2_with fail
            refine region_ext _ (by first | exact Later.ext _ _ | exact Later.refl _) mixed (by kernel_rfl) ?_
            repeat (go_big_quiet_step ((first | (go_at_call 12; exact calls_in (HR.out _)) | (go_at_call 41; exact calls_in (HC.out _)))))
            refine wpQuiet_nil ?_
            rintro _ ⟨q, rfl⟩
            go_wp2_with fail
            go_roundw
            case rel => exact ⟨j + 2, by omega, by go_num, (HX.out.alloc _).ext _, HT.out⟩
            case measure => simp [intOf]; omega
          · have HV := Lib.hid (show tblB fw l = false by unfold tblB; rw [hst2, decide_eq_false hlt0]; rfl)
            have hd : decide (0 ≤ i) = true := by simp; omega
            have hd2 : 0 ≤ i := by omega
            clear hkw ht hst hst2 hr Hee Heep hpv hi
            go_wp2_with fail
            refine region_ext _ (by first | exact Later.ext _ _ | exact Later.refl _) mixed (by kernel_rfl) ?_
            repeat (go_big_quiet_step ((first | (go_at_call 12; exact calls_in (HR.out _)) | (go_at_call 41; exact calls_in (HC.out _)))))
            refine wpQuiet_nil ?_
            rintro _ ⟨q, rfl⟩
            go_wp2_with fail
            go_ret
            exact Ret.of (by rw [HV.out]; rfl) (by simp (maxDischargeDepth := 99) [HX.out])
    · have hkl : k = l.length := by omega
      subst hkl
      have hv : tblB fw l = (famB fw && decide (l.length ≤ 256)) := by unfold tblB; rw [ht, List.drop_length]; rfl
      have HV := Lib.hid hv
      clear hkw ht hlt hv
      cases hf : famB fw
      · have HV2 := Lib.hid (show tblB fw l = false by rw [HV.out, hf]; rfl)
        have HF := Lib.hid (fun w => family_as hf w)
        clear hf
        go_wp2_with (first | (go_at_call 42; first | ((refine (calls_in (HF.out _)).mono ?_); rintro e w1 ⟨rfl, q1, rfl⟩) | ((refine (HF.out _).mono ?_); rintro e w1 ⟨rfl, q1, rfl⟩)))
        go_ret
        exact Ret.of (by rw [HV2.out]; rfl) (by simp (maxDischargeDepth := 99) [HX.out])
      · have HV2 := Lib.hid (show tblB fw l = decide (l.length ≤ 256) by rw [HV.out, hf]; rfl)
        have HF := Lib.hid (fun w => family_as hf w)
        clear hf
        go_wp2_with (first | (go_at_call 42; first | ((refine (calls_in (HF.out _)).mono ?_); rintro e w1 ⟨rfl, q1, rfl⟩) | ((refine (HF.out _).mono ?_); rintro e w1 ⟨rfl, q1, rfl⟩)))
        go_ret
        exact Ret.of (by rw [HV2.out]; go_num) (by simp (maxDischargeDepth := 99) [HX.out])
theorem ribtable_as {l : List Rt} {v : Value} {b : Bool} {fw : Int} (h : tblB fw l = b) (w : World) (hl : Els w v 4 Rt.cells l) (hn : l.length ≤ 1000) : Calls Try.prog 15 #[.int .i64 fw, v] w (Ret (.bool b) w) := by rw [← h]; exact ribtable_any fw w hl hn
set_option maxHeartbeats 1000000 in
set_option maxRecDepth 100000 in
theorem cover1_gives (x : B) (n : Int) (g : Nat) (w : World) (h : Blk w g 27 #[.int .u64 (hi x), .int .u64 (lo x), .int .i64 n]) : GivesRt 52 #[.pointer (some ⟨g, 0, none⟩)] (covP x n) w := by
  intro W e hkw
  obtain ⟨c0, c1, c2, hlt⟩ := Blk.three (h.kept hkw)
  show Calls Try.prog 52 #[rv e, .pointer (some ⟨g, 0, none⟩)] W (Ret (.bool (covP x n e)) W)
  clear h hkw
  obtain ⟨ex, en, ea⟩ := e
  by_cases hx : ex = x
  · subst hx
    by_cases hn : en = n
    · subst hn
      have HV := Lib.hid (show covP ex en ⟨ex, en, ea⟩ = false by simp [covP, eqR])
      go_enter Try.func52, Try.ntmps52
      go_wp2_with fail
      go_ret
      exact Ret.of (by rw [HV.out]; rfl) (by simp (maxDischargeDepth := 99))
    · have HV := Lib.hid (show covP ex n ⟨ex, en, ea⟩ = coversB ex en ex n by simp [covP, eqR, hn])
      go_enter Try.func52, Try.ntmps52
      go_wp2_with (first | (go_at_call 44; first | ((refine (calls_in (covers_any _ _ _ _ _)).mono ?_); rintro e w1 ⟨rfl, q1, rfl⟩) | ((refine (covers_any _ _ _ _ _).mono ?_); rintro e w1 ⟨rfl, q1, rfl⟩)))
      go_ret
      exact Ret.of (by rw [HV.out]; rfl) (by simp (maxDischargeDepth := 99))
  · have HV := Lib.hid (show covP x n ⟨ex, en, ea⟩ = coversB ex en x n by simp [covP, eqR, hx])
    go_enter Try.func52, Try.ntmps52
    go_wp2_with (first | (go_at_call 44; first | ((refine (calls_in (covers_any _ _ _ _ _)).mono ?_); rintro e w1 ⟨rfl, q1, rfl⟩) | ((refine (covers_any _ _ _ _ _).mono ?_); rintro e w1 ⟨rfl, q1, rfl⟩)))
    go_ret
    exact Ret.of (by rw [HV.out]; rfl) (by simp (maxDischargeDepth := 99))
set_option maxHeartbeats 1000000 in
set_option maxRecDepth 100000 in
theorem ribcover_any {l : List Rt} {v : Value} (x : B) (n : Int) (w : World) (hl : Els w v 4 Rt.cells l) (hn : l.length ≤ 1000) : Calls Try.prog 33 #[v, pv x n] w (Ret (retR (bestO (covP x n) l)) w) := by
  obtain ⟨o, ho⟩ : ∃ o, bestO (covP x n) l = o := ⟨_, rfl⟩
  obtain ⟨b, hb⟩ : ∃ b, o.getD z0r = b := ⟨_, rfl⟩
  obtain ⟨i, hi9⟩ : ∃ i, o.isSome = i := ⟨_, rfl⟩
  have hlg := Lib.hid (fun W (h : Els W v 4 Rt.cells l) (g : Nat) (hB : Blk W g 27 #[.int .u64 (hi x), .int .u64 (lo x), .int .i64 n]) => show Calls Try.prog 48 #[v, .func (.func 52) #[] #[.pointer (some ⟨g, 0, none⟩)]] W (Ret (.tuple #[rv b, .bool i]) W) by
    have := longest_any (covP x n) 52 _ W h hn (cover1_gives x n g W hB) (enters_of Try.func52 (by kernel_rfl) rfl)
    rwa [ho, show retR o = .tuple #[rv b, .bool i] by unfold retR; rw [hb, hi9]] at this)
  rw [ho, show retR o = .tuple #[rv b, .bool i] by unfold retR; rw [hb, hi9]]
  have HE := Lib.hid hl
  obtain ⟨ad, c, rfl, hc, he⟩ := hl.form
  clear hl he ho hb hi9
  go_enter Try.func33, Try.ntmps33
  go_wp2_with fail
  refine (hlg.out _ ((HE.out.alloc _).alloc _) _ ((Blk.new' w _ _ rfl).alloc _)).mono ?_
  rintro e w1 ⟨rfl, q1, rfl⟩
  go_wp2_with fail
  exact bodyPost_ret (v := .tuple #[rv b, .bool i]) (by simp [results, Try.results33, go_sem, rv]) rfl (Ret.mk (by simp (maxDischargeDepth := 99)))
end Go.Proofs.Ytjkhdjonlppdoaa
