/- BankOne: one write changes one slot: what is told of an address that neither the old nor the new entry matches is as it was. -/
import Derived.Test.YtpocbcohoefojaaRows
import Derived.Test.YtpocbcohoefojaaBank14
import Derived.Test.YtpocbcohoefojaaOpenSlots
namespace Pg
open Go
theorem kept_to (w : World) (p : Regrown) : Kept w (ext w p) := below_ext w p
end Pg
namespace Go.Proofs.Ytpocbcohoefojaa
open Go.RowKit Pg Go.ChangeShapes Go.WideShapes Go.ChangeAt

set_option maxHeartbeats 1000000 in
set_option maxRecDepth 100000 in
theorem bankOne_go {l : List Slot} {v : Value} (j : Nat) (s : Slot) (a : B) (w : World) (hl : Els w v 7 Slot.cells l) (hn : l.length ≤ 40) (hj : j < l.length) (hm : mayW ⟨j, s⟩ l.length = true)
    (mo mn : Bool) (hmo : matchS a l[j] = mo) (hmn : matchS a s = mn) : Calls Try.prog 9 #[v, wrv ⟨j, s⟩, av a] w (Ret (.bool true) w) := by
  have HE := Lib.hid hl
  obtain ⟨ad, c, rfl, hc, he⟩ := hl.form
  obtain ⟨L, hL⟩ : ∃ L, L = l.set j s := ⟨_, rfl⟩
  have hLl : L.length = l.length := by rw [hL]; exact List.length_set ..
  have hap := Lib.hid (fun w (v u : Value) (h : Els w v 7 Slot.cells l) (hw : Els w u 8 Wr.cells [⟨j, s⟩]) => show Calls Try.prog 25 #[v, u] w (RetEls 37 7 Slot.cells L w) by
    have := bapply_any w h (by omega) hw (by simp)
    rwa [show applyS l [⟨j, s⟩] = L by show putW l _ = L; unfold putW; rw [hm, hL]; rfl] at this)
  have hmay := Lib.hid (bmay_as hm)
  obtain ⟨eo, heo⟩ : ∃ eo, l[j] = eo := ⟨_, rfl⟩
  rw [heo] at hmo
  have hfo := Lib.hid (fun w (v : Value) (h : Els w v 7 Slot.cells [eo]) => show Calls Try.prog 22 #[v, av a] w (Ret (.int .i64 (if mo then 0 else -1)) w) by have := reffind_any a w h (by simp); rwa [idx_one, hmo] at this)
  have hfn := Lib.hid (fun w (v : Value) (h : Els w v 7 Slot.cells [s]) => show Calls Try.prog 22 #[v, av a] w (Ret (.int .i64 (if mn then 0 else -1)) w) by have := reffind_any a w h (by simp); rwa [idx_one, hmn] at this)
  obtain ⟨T, hT⟩ : ∃ T, tellS l a = T := ⟨_, rfl⟩
  have ht1 := Lib.hid (fun w (v : Value) (h : Els w v 7 Slot.cells l) => show Calls Try.prog 24 #[v, av a] w (Ret (.int .i64 T) w) by rw [← hT]; exact btell_any a w h (by omega))
  have ht2 := Lib.hid (fun w (v : Value) (h : Els w v 7 Slot.cells L) (h1 : mo = false) (h2 : mn = false) => show Calls Try.prog 24 #[v, av a] w (Ret (.int .i64 T) w) by
    have := btell_any a w h (by omega)
    rwa [show tellS L a = T by rw [hL, tellS_set l j hj s a (by rw [heo, hmo, h1]) (by rw [hmn, h2]), hT]] at this)
  have HEO := Lib.hid heo
  have HLj := Lib.hid (show ∃ h : j < L.length, L[j] = s from ⟨by omega, by simp [hL]⟩)
  have HLk := Lib.hid (fun k (hk : k < l.length) (hne : k ≠ j) => show ∃ h : k < L.length, L[k] = l[k] from ⟨by omega, by simp [hL, hne.symm]⟩)
  have HLl := Lib.hid hLl
  have g1 : ¬ (40 : Int) < (l.length : Int) := by omega
  have g2 : ((L.length : Int) != (l.length : Int)) = false := by simp [hLl]
  have g3 : (L.length = l.length) = True := eq_true hLl
  have g4 : decide ((j : Int) < 0) = false := by simp
  have g5 : decide ((l.length : Int) ≤ (j : Int)) = false := by simp; omega
  have g6 : decide (l.length ≤ j) = false := by simp; omega
  have j0 : (0 : Int) ≤ j := by omega
  have jl : (j : Int) < (l.length : Int) := by omega
  have jL : (j : Int) < (L.length : Int) := by omega
  clear hl he hL hLl hm hmo hmn heo hT
  go_enter Try.func9, Try.ntmps9
  go_wp2_with (first | (go_at_call 33; first | ((refine (calls_in (hmay.out _)).mono ?_); rintro e w1 ⟨rfl, q1, rfl⟩) | ((refine (hmay.out _).mono ?_); rintro e w1 ⟨rfl, q1, rfl⟩)))
  obtain ⟨wa, hwa⟩ : ∃ wa, wa = (w.alloc (.cells #[.int .i64 (j : Int), .bool s.v, .int .u64 (hi s.e.x), .int .u64 (lo s.e.x), .int .u64 (hi s.e.m), .int .u64 (lo s.e.m), .int .i64 s.e.len, .int .i64 s.e.act] 39)).alloc (.cells #[.int .u64 (hi a), .int .u64 (lo a)] 31) := ⟨_, rfl⟩
  have hka : Kept w wa := by rw [hwa]; exact Kept.alloc (Kept.alloc (Kept.refl w) _) _
  have bW : Blk wa w.heap.size 39 #[.int .i64 (j : Int), .bool s.v, .int .u64 (hi s.e.x), .int .u64 (lo s.e.x), .int .u64 (hi s.e.m), .int .u64 (lo s.e.m), .int .i64 s.e.len, .int .i64 s.e.act] := by rw [hwa]; exact (Blk.new' w _ _ rfl).alloc _
  have bA : Blk wa (w.heap.size + 1) 31 #[.int .u64 (hi a), .int .u64 (lo a)] := by rw [hwa]; exact Blk.new' _ _ _ (by simp)
  rw [← hwa]
  refine (hap.out _ _ _ (HE.out.kept (Kept.alloc (Kept.trans hka (below_ext _ _)) _)) (els_one _ (Blk.new' _ _ _ rfl))).mono ?_
  rintro e1 w1 hR
  obtain ⟨a1, c1, rfl, hlc1, hown1, hels1⟩ := RetEls.out2 Slot.cells_len hR
  have HE1 := Lib.hid hels1
  have hk1 := Kept.trans (Kept.alloc (below_ext wa q1) _) hown1.1
  have HK1 := Lib.hid (hka.trans hk1)
  have HW1 := Lib.hid (bW.kept hk1)
  have HA1 := Lib.hid (bA.kept hk1)
  have x0 := fun i => HW1.out.cell i
  have xl := HW1.out.lt
  obtain ⟨y0, y1, yl⟩ := Blk.two HA1.out
  clear hwa hka bW bA hown1 hels1 hR hk1
  obtain ⟨hjL, hjE⟩ := HLj.out
  obtain ⟨bn, on, rfl, hbn, hcelln⟩ := (HE1.out).at_ (j) hjL
  obtain ⟨en, heen⟩ : ∃ e, (L)[j]'hjL = e := ⟨_, rfl⟩
  rw [heen] at hcelln
  have cn0 : w1.cell? ⟨bn, on + j * 7, none⟩ = some (.bool en.v) := hcelln 0 (by omega)
  have cn1 : w1.cell? ⟨bn, on + j * 7 + 1, none⟩ = some (.int .u64 (hi en.e.x)) := hcelln 1 (by omega)
  have cn2 : w1.cell? ⟨bn, on + j * 7 + 2, none⟩ = some (.int .u64 (lo en.e.x)) := hcelln 2 (by omega)
  have cn3 : w1.cell? ⟨bn, on + j * 7 + 3, none⟩ = some (.int .u64 (hi en.e.m)) := hcelln 3 (by omega)
  have cn4 : w1.cell? ⟨bn, on + j * 7 + 4, none⟩ = some (.int .u64 (lo en.e.m)) := hcelln 4 (by omega)
  have cn5 : w1.cell? ⟨bn, on + j * 7 + 5, none⟩ = some (.int .i64 en.e.len) := hcelln 5 (by omega)
  have cn6 : w1.cell? ⟨bn, on + j * 7 + 6, none⟩ = some (.int .i64 en.e.act) := hcelln 6 (by omega)
  have Heen := Lib.hid heen
  clear hcelln heen
  obtain rfl : s = en := by rw [← hjE, Heen.out]
  clear Heen hjE
  go_wp2_with fail
  refine region_ext _ (by first | exact Later.ext _ _ | exact Later.refl _) mixed (by kernel_rfl) ?_
  repeat (go_big_quiet_step (fail))
  refine wpQuiet_nil ?_
  rintro _ ⟨q, rfl⟩
  clear cn0 cn1 cn2 cn3 cn4 cn5 cn6
  go_wp2_with fail
  go_loopw [8, 55] (fun _ vk wr => ∃ k : Nat, k ≤ l.length ∧ vk = .int .i64 k ∧ Kept w1 wr) (fun _ k _ => l.length - (intOf k).toNat)
  case atStart => exact ⟨0, by omega, rfl, (Kept.refl _).ext _⟩
  case round =>
    obtain ⟨k, hk, rfl, hkw⟩ := hrel
    have HX := Lib.hid hkw
    have z0 := fun i => (HW1.out.kept hkw).cell i
    have zl := (HW1.out.kept hkw).lt
    clear x0 xl y0 y1 yl
    by_cases hlt : k < l.length
    · have k0 : (0 : Int) ≤ k := by omega
      have k1 : (k : Int) < (l.length : Int) := by omega
      have k2 : (k : Int) < (L.length : Int) := by have := HLl.out; omega
      by_cases hkj : k = j
      · have h9 : ((k : Int) != (j : Int)) = false := by simp [hkj]
        subst hkj
        clear hkw
        go_wp2_with fail
        refine region_ext _ (by first | exact Later.ext _ _ | exact Later.refl _) mixed (by kernel_rfl) ?_
        repeat (go_big_quiet_step (fail))
        refine wpQuiet_nil ?_
        rintro _ ⟨q, rfl⟩
        go_wp2_with fail
        go_roundw
        case rel => exact ⟨k + 1, by omega, by go_num, HX.out.ext _⟩
        case measure => simp [intOf]; omega
      · have h9 : ((k : Int) != (j : Int)) = true := by simp; omega
        have h8 : (k = j) = False := eq_false hkj
        obtain ⟨hkL, hkE⟩ := HLk.out k hlt hkj
        obtain ⟨hbm, hcellm⟩ := (HE1.out.kept hkw).at2 (k) hkL
        obtain ⟨em, heem⟩ : ∃ e, (L)[k]'hkL = e := ⟨_, rfl⟩
        rw [heem] at hcellm
        have cm0 : wr.cell? ⟨bn, on + k * 7, none⟩ = some (.bool em.v) := hcellm 0 (by omega)
        have cm1 : wr.cell? ⟨bn, on + k * 7 + 1, none⟩ = some (.int .u64 (hi em.e.x)) := hcellm 1 (by omega)
        have cm2 : wr.cell? ⟨bn, on + k * 7 + 2, none⟩ = some (.int .u64 (lo em.e.x)) := hcellm 2 (by omega)
        have cm3 : wr.cell? ⟨bn, on + k * 7 + 3, none⟩ = some (.int .u64 (hi em.e.m)) := hcellm 3 (by omega)
        have cm4 : wr.cell? ⟨bn, on + k * 7 + 4, none⟩ = some (.int .u64 (lo em.e.m)) := hcellm 4 (by omega)
        have cm5 : wr.cell? ⟨bn, on + k * 7 + 5, none⟩ = some (.int .i64 em.e.len) := hcellm 5 (by omega)
        have cm6 : wr.cell? ⟨bn, on + k * 7 + 6, none⟩ = some (.int .i64 em.e.act) := hcellm 6 (by omega)
        have Heem := Lib.hid heem
        clear hcellm heem
        obtain ⟨bo_, oo_, rfl, hbo_, hcello_⟩ := (HE.out.kept (HK1.out.trans hkw)).at_ (k) hlt
        obtain ⟨eo_, heeo_⟩ : ∃ e, (l)[k]'hlt = e := ⟨_, rfl⟩
        rw [heeo_] at hcello_
        have co_0 : wr.cell? ⟨bo_, oo_ + k * 7, none⟩ = some (.bool eo_.v) := hcello_ 0 (by omega)
        have co_1 : wr.cell? ⟨bo_, oo_ + k * 7 + 1, none⟩ = some (.int .u64 (hi eo_.e.x)) := hcello_ 1 (by omega)
        have co_2 : wr.cell? ⟨bo_, oo_ + k * 7 + 2, none⟩ = some (.int .u64 (lo eo_.e.x)) := hcello_ 2 (by omega)
        have co_3 : wr.cell? ⟨bo_, oo_ + k * 7 + 3, none⟩ = some (.int .u64 (hi eo_.e.m)) := hcello_ 3 (by omega)
        have co_4 : wr.cell? ⟨bo_, oo_ + k * 7 + 4, none⟩ = some (.int .u64 (lo eo_.e.m)) := hcello_ 4 (by omega)
        have co_5 : wr.cell? ⟨bo_, oo_ + k * 7 + 5, none⟩ = some (.int .i64 eo_.e.len) := hcello_ 5 (by omega)
        have co_6 : wr.cell? ⟨bo_, oo_ + k * 7 + 6, none⟩ = some (.int .i64 eo_.e.act) := hcello_ 6 (by omega)
        have Heeo_ := Lib.hid heeo_
        clear hcello_ heeo_
        obtain rfl : em = eo_ := by rw [← Heem.out, ← Heeo_.out, hkE]
        clear hkw Heem Heeo_ hkE
        go_wp2_with fail
        refine region_ext _ (by first | exact Later.ext _ _ | exact Later.refl _) mixed (by kernel_rfl) ?_
        repeat (go_big_quiet_step (fail))
        refine wpQuiet_nil ?_
        rintro _ ⟨q, rfl⟩
        go_wp2_with fail
        go_roundw
        case rel => exact ⟨k + 1, by omega, by go_num, HX.out.ext _⟩
        case measure => simp [intOf]; omega
    · have hkl : k = l.length := by omega
      subst hkl
      have HW2 := Lib.hid (HW1.out.kept hkw)
      have HA2 := Lib.hid (HA1.out.kept hkw)
      have HE2 := Lib.hid (HE1.out.kept hkw)
      have HK2 := Lib.hid (HK1.out.trans hkw)
      obtain ⟨bp, op, rfl, hbp, hcellp⟩ := (HE.out.kept HK2.out).at_ (j) hj
      obtain ⟨ep, heep⟩ : ∃ e, (l)[j]'hj = e := ⟨_, rfl⟩
      rw [heep] at hcellp
      have cp0 : wr.cell? ⟨bp, op + j * 7, none⟩ = some (.bool ep.v) := hcellp 0 (by omega)
      have cp1 : wr.cell? ⟨bp, op + j * 7 + 1, none⟩ = some (.int .u64 (hi ep.e.x)) := hcellp 1 (by omega)
      have cp2 : wr.cell? ⟨bp, op + j * 7 + 2, none⟩ = some (.int .u64 (lo ep.e.x)) := hcellp 2 (by omega)
      have cp3 : wr.cell? ⟨bp, op + j * 7 + 3, none⟩ = some (.int .u64 (hi ep.e.m)) := hcellp 3 (by omega)
      have cp4 : wr.cell? ⟨bp, op + j * 7 + 4, none⟩ = some (.int .u64 (lo ep.e.m)) := hcellp 4 (by omega)
      have cp5 : wr.cell? ⟨bp, op + j * 7 + 5, none⟩ = some (.int .i64 ep.e.len) := hcellp 5 (by omega)
      have cp6 : wr.cell? ⟨bp, op + j * 7 + 6, none⟩ = some (.int .i64 ep.e.act) := hcellp 6 (by omega)
      have Heep := Lib.hid heep
      clear hcellp heep
      rw [HEO.out] at Heep
      obtain rfl : eo = ep := Heep.out
      clear hkw hlt Heep
      go_wp2_with fail
      refine region_var2 _ (by first | exact Later.ext _ _ | exact Later.refl _) 9 9 79 10 82 50 #[.bool false, .int .u64 0, .int .u64 0, .int .u64 0, .int .u64 0, .int .i64 0, .int .i64 0] 50 #[.bool false, .int .u64 0, .int .u64 0, .int .u64 0, .int .u64 0, .int .i64 0, .int .i64 0] _ mixed rfl (by kernel_rfl) (by kernel_rfl) (by decide) (by decide) (fun _ _ => by kernel_rfl) (fun _ _ => by kernel_rfl) ?_
      apply Exists.intro
      refine And.intro (fun I hI hne => ?_) ?_
      · simp only [Nat.reduceAdd, List.take_succ_cons, List.take_zero, List.drop_succ_cons, List.drop_zero, List.cons_append, List.nil_append]
        repeat (go_big_quiet_step ((first | (go_at_call 35; exact calls_reg hI (law08one_any _ _)))))
        exact wpQuiet_nil rfl
      apply Exists.intro
      refine And.intro ⟨rfl, rfl, by simp [Value.oneCell'], by kernel_rfl⟩ ?_
      apply Exists.intro
      refine And.intro ⟨rfl, rfl, by simp [Value.oneCell'], by kernel_rfl⟩ ?_
      simp only [Act.put, List.setIfInBounds_toArray, List.set_cons_succ, List.set_cons_zero]
      intro g g2 w2 hk2 hg hg2 hne bu bv
      have HU := Lib.hid bu
      have HV := Lib.hid bv
      have HK3 := Lib.hid (HK2.out.trans hk2)
      have HK23 := Lib.hid hk2
      have HE3 := Lib.hid (HE2.out.kept hk2)
      obtain ⟨y0, y1, yl⟩ := Blk.two (HA2.out.kept hk2)
      have u0 := fun i => HU.out.cell i
      have ul := HU.out.lt
      have v0 := fun i => HV.out.cell i
      have vl := HV.out.lt
      clear hk2 hg hg2 hne bu bv z0 zl
      go_wp2_with fail
      refine (hfo.out _ _ (els_oneS eo (Blk.new' _ _ _ rfl))).mono ?_
      rintro e9 w9 ⟨rfl, q9, rfl⟩
      have hky : Kept w2 (ext (w2.alloc (.cells (Slot.cells eo).toArray 50)) q9) := (Kept.alloc (Kept.refl _) _).ext _
      obtain ⟨wy, hwy⟩ : ∃ wy, wy = ext (w2.alloc (.cells (Slot.cells eo).toArray 50)) q9 := ⟨_, rfl⟩
      rw [← hwy] at hky ⊢
      have HKY := Lib.hid hky
      clear y0 y1 yl u0 ul v0 vl hwy
      obtain ⟨y0, y1, yl⟩ := Blk.two (HA2.out.kept (HK23.out.trans hky))
      have v0 := fun i => (HV.out.kept hky).cell i
      have vl := (HV.out.kept hky).lt
      have hkw3 := Lib.hid (HK3.out.trans hky)
      clear hky
      cases mo
      · simp only [Bool.false_eq_true, if_false]
        go_wp2_with fail
        refine (hfn.out _ _ (els_oneS s (Blk.new' _ _ _ rfl))).mono ?_
        rintro e8 w8 ⟨rfl, q8, rfl⟩
        cases mn
        · simp only [Bool.false_eq_true, if_false]
          have ht3 := Lib.hid (fun w (v : Value) (h : Els w v 7 Slot.cells L) => ht2.out w v h (by simp) (by simp))
          clear ht2
          go_wp2_with fail
          refine named fun wz hwz => ?_
          have hkz := Lib.hid (HKY.out.trans (show Kept wy wz by rw [hwz]; simp (maxDischargeDepth := 99)))
          obtain ⟨y0, y1, yl⟩ := Blk.two (HA2.out.kept (HK23.out.trans hkz.out))
          clear hwz
          refine region_ext _ (Later.refl _) mixed (by kernel_rfl) ?_
          repeat (go_big_quiet_step ((first | (go_at_call 24; first | with_reducible exact calls_in (ht3.out _ _ (HE3.out.kept (hkz.out.trans (kept_to _ _)))) | with_reducible exact calls_in (ht1.out _ _ (HE.out.kept (HK3.out.trans (hkz.out.trans (kept_to _ _)))))) | (go_at_call 11; exact calls_in (awake8_ok _)))))
          refine wpQuiet_nil ?_
          rintro _ ⟨q, rfl⟩
          go_wp2_with fail
          have hkf := Lib.hid (HK3.out.trans hkz.out)
          go_ret
          exact Ret.of (rfl) (by simp (maxDischargeDepth := 99) [hkf.out])
        · simp only [if_true]
          go_wp2_with (first | (go_at_call 11; first | ((refine (calls_in (awake8_ok _)).mono ?_); rintro e w1 ⟨rfl, q1, rfl⟩) | ((refine (awake8_ok _).mono ?_); rintro e w1 ⟨rfl, q1, rfl⟩)))
          go_ret
          exact Ret.of (rfl) (by simp (maxDischargeDepth := 99) [hkw3.out])
      · simp only [if_true]
        go_wp2_with (first | (go_at_call 11; first | ((refine (calls_in (awake8_ok _)).mono ?_); rintro e w1 ⟨rfl, q1, rfl⟩) | ((refine (awake8_ok _).mono ?_); rintro e w1 ⟨rfl, q1, rfl⟩)))
        go_ret
        exact Ret.of (rfl) (by simp (maxDischargeDepth := 99) [hkw3.out])
theorem bankOne_walk (l : List Slot) (v : Value) (x : Wr) (a : B) (w : World) (hl : Els w v 7 Slot.cells l) : Calls Try.prog 9 #[v, wrv x, av a] w (Ret (.bool true) w) := by
  by_cases hn : l.length ≤ 40
  · cases hm : mayW x l.length
    · have hmay := Lib.hid (bmay_as hm)
      obtain ⟨ad, c, rfl, hc, he⟩ := hl.form
      have g1 : ¬ (40 : Int) < (l.length : Int) := by omega
      clear hl he hn hm
      go_enter Try.func9, Try.ntmps9
      go_wp2_with (first | (go_at_call 33; first | ((refine (calls_in (hmay.out _)).mono ?_); rintro e w1 ⟨rfl, q1, rfl⟩) | ((refine (hmay.out _).mono ?_); rintro e w1 ⟨rfl, q1, rfl⟩)) | (go_at_call 11; first | ((refine (calls_in (awake8_ok _)).mono ?_); rintro e w1 ⟨rfl, q1, rfl⟩) | ((refine (awake8_ok _).mono ?_); rintro e w1 ⟨rfl, q1, rfl⟩)))
      go_ret
      exact Ret.of (rfl) (by simp (maxDischargeDepth := 99))
    · obtain ⟨h0, h1⟩ := mayW_at hm
      obtain ⟨at_, s⟩ := x
      dsimp only at h0 h1
      obtain ⟨j, rfl⟩ := Int.eq_ofNat_of_zero_le h0
      exact bankOne_go j s a w hl hn (by omega) hm _ _ rfl rfl
  · obtain ⟨ad, c, rfl, hc, he⟩ := hl.form
    have g1 : (40 : Int) < (l.length : Int) := by omega
    clear hl he hn
    go_enter Try.func9, Try.ntmps9
    go_wp2_with (first | (go_at_call 11; first | ((refine (calls_in (awake8_ok _)).mono ?_); rintro e w1 ⟨rfl, q1, rfl⟩) | ((refine (awake8_ok _).mono ?_); rintro e w1 ⟨rfl, q1, rfl⟩)))
    go_ret
    exact Ret.of (rfl) (by simp (maxDischargeDepth := 99))
set_option maxRecDepth 100000 in
theorem bankOne_lifted (os : Os) (started : os.Started) (H : Type) (enc : TypeId × Value → H) :
    ReturnsInHanded {} Try.checked os 9 .any (Rows.bankOneSpec.pre6 enc Try.prog Try.f9 Rows.bankOneRow.domain false) (Rows.bankOneSpec.post enc Try.prog Try.f9 false true false false) := by
  refine returnsInHanded_of_change (C := Try.checked) own started (by kernel_rfl) Try.func9
    (ChangeSpec.witness6 (enc := enc) (C := Try.checked) false ⟨#[], #[.slice none 0 0, .agg #[.int .i64 0, .bool false, .int .u64 0, .int .u64 0, .int .u64 0, .int .u64 0, .int .i64 0, .int .i64 0], .agg #[.int .u64 0, .int .u64 0]], []⟩ 8 (by kernel_rfl) (by kernel_rfl) (by kernel_rfl) (by kernel_rfl)) ?_
  intro W base args ds gs before hval0 hW hcnd _
  have hval : ∀ (j : Nat) t v, Try.f9.params[j]? = some t → args[j]? = some v → Value.okWide Try.prog W .any base t v := hval0
  have hW' := hW
  obtain ⟨p, q, hA0, hV, rfl, hfz, hnd⟩ := hW
  obtain ⟨rfl, rfl⟩ := trodVars_none hV
  rw [List.append_nil] at hW'
  have hA : DataW.TrodAll enc Try.prog W 0 (fun _ => true) true Try.f9.params.toList args.toList ds p := hA0
  have hA1 := hA
  rw [Try.params9] at hA1 hval
  obtain ⟨v0, vs0, d0, ds0, p0, q0, hargs, rfl, rfl, h0, r0⟩ := trodAll_cons hA1
  obtain ⟨v1, vs1, d1, ds1, p1, q1, rfl, rfl, rfl, h1, r1⟩ := trodAll_cons r0
  obtain ⟨v2, vs2, d2, ds2, p2, q2, rfl, rfl, rfl, h2, r2⟩ := trodAll_cons r1
  obtain ⟨rfl, rfl, rfl⟩ := trodAll_nil r2
  obtain rfl : args = #[v0, v1, v2] := by cases args; simp_all
  obtain ⟨L0, E0, _⟩ := open_slots (hval 0 _ v0 rfl rfl) h0
  obtain ⟨X1, rfl, _⟩ := open_wr (hval 1 _ v1 rfl rfl) h1
  obtain ⟨X2, rfl⟩ := open_addr (hval 2 _ v2 rfl rfl) h2
  refine (bankOne_walk L0 v0 X1 X2 W E0).mono fun e W' ⟨he, hg⟩ => ?_
  subst he
  exact ⟨_, rfl, post_true laidOut (by rw [Try.params9]; intro t ht; simp at ht; first | (subst ht; exact ⟨by kernel_rfl, of_decide_eq_true (by kernel_rfl)⟩) | (rcases ht with rfl | rfl <;> exact ⟨by kernel_rfl, of_decide_eq_true (by kernel_rfl)⟩) | (rcases ht with rfl | rfl | rfl <;> exact ⟨by kernel_rfl, of_decide_eq_true (by kernel_rfl)⟩) | (rcases ht with rfl | rfl | rfl | rfl <;> exact ⟨by kernel_rfl, of_decide_eq_true (by kernel_rfl)⟩)) rfl hW' hA rfl (trodAll_cons_mk (shut_bool Try.underlying4 _) trodAll_mk0) (Later.kept hg)⟩

theorem bankOne_holds : Rows.BankOneSaid :=
  OpenClaim.holds_of_wide 9 Try.f9 rfl rfl rfl rfl rfl rfl rfl ⟨rfl, rfl, rfl, rfl, rfl⟩ rfl rfl rfl rfl rfl (by kernel_rfl) Try.func9 (by kernel_rfl)
    (of_decide_eq_true (by kernel_rfl)) (by unfold Func.isWrapper; first | (rw [if_pos (by decide +kernel)]; kernel_rfl) | (rw [if_neg (by decide +kernel)]; exact ⟨rfl, rfl⟩))
    (fun os started H enc _ => bankOne_lifted os started H enc)
#print axioms bankOne_holds
end Go.Proofs.Ytpocbcohoefojaa
