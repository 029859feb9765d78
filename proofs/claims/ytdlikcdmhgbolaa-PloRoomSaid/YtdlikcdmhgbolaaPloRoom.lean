/- PloRoom: there is no way just if all slots are valid; into empty slots it goes with one write. -/
import Derived.Test.YtdlikcdmhgbolaaRows
import Derived.Test.YtdlikcdmhgbolaaAwake12
import Derived.Test.YtdlikcdmhgbolaaOpenEnt
namespace Go.Proofs.Ytdlikcdmhgbolaa
open Go.RowKit Pg Go.ChangeShapes Go.WideShapes Go.ChangeAt

set_option maxHeartbeats 2000000 in
set_option maxRecDepth 100000 in
theorem ploRoom_no (l : List Slot) (v : Value) (x : Ent) (w : World) (hl : Els w v 7 Slot.cells l) (hn : l.length ≤ 24) (h : keptS l = false ∨ rightE x = false) : Calls Try.prog 5 #[v, ev x] w (Ret (.bool true) w) := by
  have HE := Lib.hid hl
  have g1 : ¬ (24 : Int) < (l.length : Int) := by omega
  have g2 : decide ((24 : Int) < (l.length : Int)) = false := by simp; omega
  obtain ⟨kp, hkp0⟩ : ∃ kp, keptS l = kp := ⟨_, rfl⟩
  obtain ⟨rt, hrt0⟩ : ∃ rt, rightE x = rt := ⟨_, rfl⟩
  have hkp := Lib.hid (fun W (h : Els W v 7 Slot.cells l) => plokept_as hkp0 W h (by omega))
  have hri := Lib.hid (fun W => eright_as hrt0 W)
  rw [hkp0, hrt0] at h
  obtain ⟨a, c, rfl, hc, he⟩ := hl.form
  clear hl he hkp0 hrt0
  cases rt
  · clear h
    go_enter Try.func5, Try.ntmps5
    go_wp2_with (first | (go_at_call 21; first | ((refine (calls_in (hri.out _)).mono ?_); rintro e w1 ⟨rfl, q1, rfl⟩) | ((refine (hri.out _).mono ?_); rintro e w1 ⟨rfl, q1, rfl⟩)) | (go_at_call 8; first | ((refine (calls_in (awake12_ok _)).mono ?_); rintro e w1 ⟨rfl, q1, rfl⟩) | ((refine (awake12_ok _).mono ?_); rintro e w1 ⟨rfl, q1, rfl⟩)))
    go_ret
    exact Ret.of (rfl) (by simp (maxDischargeDepth := 99))
  · cases kp
    · clear h
      go_enter Try.func5, Try.ntmps5
      go_wp2_with (first | (go_at_call 17; first | ((refine (calls_in (hkp.out _ ((HE.out.alloc _).kept (kept_extP _ _)))).mono ?_); rintro e w1 ⟨rfl, q1, rfl⟩) | ((refine (hkp.out _ ((HE.out.alloc _).kept (kept_extP _ _))).mono ?_); rintro e w1 ⟨rfl, q1, rfl⟩)) | (go_at_call 21; first | ((refine (calls_in (hri.out _)).mono ?_); rintro e w1 ⟨rfl, q1, rfl⟩) | ((refine (hri.out _).mono ?_); rintro e w1 ⟨rfl, q1, rfl⟩)) | (go_at_call 8; first | ((refine (calls_in (awake12_ok _)).mono ?_); rintro e w1 ⟨rfl, q1, rfl⟩) | ((refine (awake12_ok _).mono ?_); rintro e w1 ⟨rfl, q1, rfl⟩)))
      go_ret
      exact Ret.of (rfl) (by simp (maxDischargeDepth := 99))
    · simp at h
set_option maxHeartbeats 4000000 in
set_option maxRecDepth 100000 in
theorem ploRoom_yes (l : List Slot) (v : Value) (x : Ent) (w : World) (hl : Els w v 7 Slot.cells l) (hn : l.length ≤ 24) (hk : keptS l = true) (hr : rightE x = true) : Calls Try.prog 5 #[v, ev x] w (Ret (.bool true) w) := by
  have HE := Lib.hid hl
  have g1 : ¬ (24 : Int) < (l.length : Int) := by omega
  have g2 : decide ((24 : Int) < (l.length : Int)) = false := by simp; omega
  have hkp := Lib.hid (fun W (h : Els W v 7 Slot.cells l) => plokept_as hk W h (by omega))
  have hri := Lib.hid (fun W => eright_as hr W)
  have hle := entsS_len l
  obtain ⟨R, hR⟩ : ∃ R : Int, (l.length : Int) - ((entsS l).length : Int) = R := ⟨_, rfl⟩
  have hfr := Lib.hid (fun W (h : Els W v 7 Slot.cells l) => show Calls Try.prog 22 #[v] W (Ret (.int .i64 R) W) by rw [← hR]; exact bfree_any W h (by omega))
  have hin0 := fun W (h : Els W v 7 Slot.cells l) => ploinsert_any x W h (by omega)
  have hWl := insW_len l x
  by_cases hR0 : R = 0
  · have hi := insW_full hr hk (by omega)
    rw [hi] at hin0
    have hin := Lib.hid hin0
    subst hR0
    obtain ⟨a, c, rfl, hc, he⟩ := hl.form
    clear hl he hk hr hin0 hi hR hle hWl
    go_enter Try.func5, Try.ntmps5
    go_wp2_with (first | (go_at_call 17; first | ((refine (calls_in (hkp.out _ ((HE.out.alloc _).kept (kept_extP _ _)))).mono ?_); rintro e w1 ⟨rfl, q1, rfl⟩) | ((refine (hkp.out _ ((HE.out.alloc _).kept (kept_extP _ _))).mono ?_); rintro e w1 ⟨rfl, q1, rfl⟩)) | (go_at_call 21; first | ((refine (calls_in (hri.out _)).mono ?_); rintro e w1 ⟨rfl, q1, rfl⟩) | ((refine (hri.out _).mono ?_); rintro e w1 ⟨rfl, q1, rfl⟩)))
    obtain ⟨wb, hwb⟩ : ∃ wb, wb = ext (w.alloc (.cells #[.int .u64 (hi x.x), .int .u64 (lo x.x), .int .u64 (hi x.m), .int .u64 (lo x.m), .int .i64 x.len, .int .i64 x.act] 29)) q1 := ⟨_, rfl⟩
    have HKb := Lib.hid (show Kept w wb by rw [hwb]; exact (Kept.alloc (Kept.refl w) _).trans (kept_extP _ _))
    have HBb := Lib.hid (show Blk wb w.heap.size 29 #[.int .u64 (hi x.x), .int .u64 (lo x.x), .int .u64 (hi x.m), .int .u64 (lo x.m), .int .i64 x.len, .int .i64 x.act] by rw [hwb]; exact (Blk.new' w _ _ rfl).kept (kept_extP _ _))
    rw [← hwb]
    clear hwb
    refine (hin.out _ (HE.out.kept HKb.out)).mono ?_
    rintro e w2 hR
    obtain ⟨a2, c2, rfl, hlc2, hown2, hels2⟩ := RetWE.out2 hR
    have HK2 := Lib.hid (HKb.out.trans hown2.1)
    clear hown2 hels2 hR
    go_wp2_with (first | (go_at_call 22; first | ((refine (calls_in (hfr.out _ (HE.out.kept HK2.out))).mono ?_); rintro e w1 ⟨rfl, q1, rfl⟩) | ((refine (hfr.out _ (HE.out.kept HK2.out)).mono ?_); rintro e w1 ⟨rfl, q1, rfl⟩)) | (go_at_call 8; first | ((refine (calls_in (awake12_ok _)).mono ?_); rintro e w1 ⟨rfl, q1, rfl⟩) | ((refine (awake12_ok _).mono ?_); rintro e w1 ⟨rfl, q1, rfl⟩)))
    go_ret
    exact Ret.of (rfl) (by simp (maxDischargeDepth := 99) [HK2.out])
  · obtain ⟨A, i, hA⟩ := insW_room hr hk (by omega)
    have hone : R = (l.length : Int) → A = [] ∧ i = 0 := fun h => by
      have h2 := insW_none hr hk (by omega) (by omega)
      rw [hA] at h2
      have h3 := congrArg Prod.fst h2
      simp only at h3
      have h4 := congrArg List.length h3
      have hA0 : A = [] := by
        rw [List.length_append] at h4
        exact List.eq_nil_of_length_eq_zero (by simpa using h4)
      subst hA0
      simp at h3
      exact ⟨rfl, h3⟩
    obtain ⟨m, hm⟩ : ∃ m, A.length = m := ⟨_, rfl⟩
    rw [hA] at hin0 hWl
    obtain ⟨Ws, hWs⟩ : ∃ Ws, A ++ [(⟨i, ⟨true, x⟩⟩ : Wr)] = Ws := ⟨_, rfl⟩
    have hlast : ∃ h : m < Ws.length, Ws[m] = ⟨i, ⟨true, x⟩⟩ := by
      subst hm
      exact ⟨by rw [← hWs]; simp, by simp [← hWs]⟩
    have hWm : Ws.length = m + 1 := by rw [← hWs, ← hm]; simp
    rw [hWs] at hin0 hWl
    simp only at hin0 hWl
    have hin := Lib.hid hin0
    have hone2 : R = (l.length : Int) → Ws.length = 1 ∧ m = 0 ∧ i = 0 := fun h => by
      obtain ⟨h1, h2⟩ := hone h
      subst h1
      exact ⟨by rw [hWm, ← hm]; rfl, by rw [← hm]; rfl, h2⟩
    have HO := Lib.hid hone2
    have HLst := Lib.hid hlast
    have hRb : (R == 0) = false := by simp [hR0]
    have m0 : (0 : Int) ≤ m := by omega
    have hWi : (Ws.length : Int) - 1 = (m : Int) := by omega
    have hWp : (0 : Int) < (Ws.length : Int) := by omega
    have hWd : decide ((0 : Int) < (Ws.length : Int)) = true := by simp; omega
    have hWmi : (m : Int) < (Ws.length : Int) := by omega
    have hWn : 0 < Ws.length := by omega
    have hWn2 : decide (0 < Ws.length) = true := decide_eq_true (by omega)
    have hWe : Ws ≠ [] := fun e => by rw [e] at hWm; simp at hWm
    have hWe2 : decide (Ws = []) = false := decide_eq_false hWe
    have hWl2 : Ws.length ≤ 25 := by omega
    have HWM := Lib.hid hWm
    obtain ⟨a, c, rfl, hc, he⟩ := hl.form
    clear hl he hk hr hin0 hR hle hWl hlast hWm hone hone2 hA hm hWs
    go_enter Try.func5, Try.ntmps5
    go_wp2_with (first | (go_at_call 17; first | ((refine (calls_in (hkp.out _ ((HE.out.alloc _).kept (kept_extP _ _)))).mono ?_); rintro e w1 ⟨rfl, q1, rfl⟩) | ((refine (hkp.out _ ((HE.out.alloc _).kept (kept_extP _ _))).mono ?_); rintro e w1 ⟨rfl, q1, rfl⟩)) | (go_at_call 21; first | ((refine (calls_in (hri.out _)).mono ?_); rintro e w1 ⟨rfl, q1, rfl⟩) | ((refine (hri.out _).mono ?_); rintro e w1 ⟨rfl, q1, rfl⟩)))
    obtain ⟨wb, hwb⟩ : ∃ wb, wb = ext (w.alloc (.cells #[.int .u64 (hi x.x), .int .u64 (lo x.x), .int .u64 (hi x.m), .int .u64 (lo x.m), .int .i64 x.len, .int .i64 x.act] 29)) q1 := ⟨_, rfl⟩
    have HKb := Lib.hid (show Kept w wb by rw [hwb]; exact (Kept.alloc (Kept.refl w) _).trans (kept_extP _ _))
    have HBb := Lib.hid (show Blk wb w.heap.size 29 #[.int .u64 (hi x.x), .int .u64 (lo x.x), .int .u64 (hi x.m), .int .u64 (lo x.m), .int .i64 x.len, .int .i64 x.act] by rw [hwb]; exact (Blk.new' w _ _ rfl).kept (kept_extP _ _))
    rw [← hwb]
    clear hwb
    refine (hin.out _ (HE.out.kept HKb.out)).mono ?_
    rintro e w2 hR
    obtain ⟨a2, c2, rfl, hlc2, hown2, hels2⟩ := RetWE.out2 hR
    have HK2 := Lib.hid (HKb.out.trans hown2.1)
    have HE2 := Lib.hid hels2
    have HB2 := Lib.hid (HBb.out.kept hown2.1)
    clear hown2 hels2 hR
    have x0 := fun j => HB2.out.cell j
    have xl := HB2.out.lt
    obtain ⟨hmW, hmE⟩ := HLst.out
    obtain ⟨bz, oz, rfl, hbz, hcellz⟩ := (HE2.out).at_ (m) hmW
    obtain ⟨ez, heez⟩ : ∃ e, (Ws)[m]'hmW = e := ⟨_, rfl⟩
    rw [heez] at hcellz
    have cz0 : w2.cell? ⟨bz, oz + m * 8, none⟩ = some (.int .i64 ez.at_) := hcellz 0 (by omega)
    have cz1 : w2.cell? ⟨bz, oz + m * 8 + 1, none⟩ = some (.bool ez.s.v) := hcellz 1 (by omega)
    have cz2 : w2.cell? ⟨bz, oz + m * 8 + 2, none⟩ = some (.int .u64 (hi ez.s.e.x)) := hcellz 2 (by omega)
    have cz3 : w2.cell? ⟨bz, oz + m * 8 + 3, none⟩ = some (.int .u64 (lo ez.s.e.x)) := hcellz 3 (by omega)
    have cz4 : w2.cell? ⟨bz, oz + m * 8 + 4, none⟩ = some (.int .u64 (hi ez.s.e.m)) := hcellz 4 (by omega)
    have cz5 : w2.cell? ⟨bz, oz + m * 8 + 5, none⟩ = some (.int .u64 (lo ez.s.e.m)) := hcellz 5 (by omega)
    have cz6 : w2.cell? ⟨bz, oz + m * 8 + 6, none⟩ = some (.int .i64 ez.s.e.len) := hcellz 6 (by omega)
    have cz7 : w2.cell? ⟨bz, oz + m * 8 + 7, none⟩ = some (.int .i64 ez.s.e.act) := hcellz 7 (by omega)
    have Heez := Lib.hid heez
    clear hcellz heez
    rw [hmE] at Heez
    obtain rfl : (⟨i, ⟨true, x⟩⟩ : Wr) = ez := Heez.out
    dsimp only at cz0 cz1 cz2 cz3 cz4 cz5 cz6 cz7
    clear Heez hmE hmW HLst HWM
    by_cases hRl : R = (l.length : Int)
    · obtain ⟨h1, h2, h3⟩ := HO.out hRl
      subst h3
      have f0 : w2.cell? ⟨bz, oz, none⟩ = some (.int .i64 0) := by rw [h2, Nat.zero_mul, Nat.add_zero] at cz0; exact cz0
      have hW1 : ((Ws.length : Int) != 1) = false := by rw [h1]; rfl
      have hRl2 : (R == (l.length : Int)) = true := by simp [hRl]
      have HRL := Lib.hid hRl
      clear HO h1 h2 hRl
      go_wp2_with (first | (go_at_call 22; first | ((with_reducible refine (calls_in (hfr.out _ (HE.out.kept HK2.out))).mono ?_); rintro e w1 ⟨rfl, q1, rfl⟩) | ((with_reducible refine (hfr.out _ (HE.out.kept HK2.out)).mono ?_); rintro e w1 ⟨rfl, q1, rfl⟩) | ((with_reducible refine (calls_in (hfr.out _ (HE.out.kept (HK2.out.trans (kept_extP _ _))))).mono ?_); rintro e w1 ⟨rfl, q1, rfl⟩) | ((with_reducible refine (hfr.out _ (HE.out.kept (HK2.out.trans (kept_extP _ _)))).mono ?_); rintro e w1 ⟨rfl, q1, rfl⟩)))
      refine region_ext _ (by first | exact Later.ext _ _ | exact Later.refl _) mixed (by kernel_rfl) ?_
      repeat (go_big_quiet_step ((first | (go_at_call 8; exact calls_in (awake12_ok _)))))
      refine wpQuiet_nil ?_
      rintro _ ⟨q, rfl⟩
      go_wp2_with fail
      go_ret
      exact Ret.of (rfl) (by simp (maxDischargeDepth := 99) [HK2.out])
    · have hRl2 : (R == (l.length : Int)) = false := by simp [hRl]
      clear HO
      go_wp2_with (first | (go_at_call 22; first | ((with_reducible refine (calls_in (hfr.out _ (HE.out.kept HK2.out))).mono ?_); rintro e w1 ⟨rfl, q1, rfl⟩) | ((with_reducible refine (hfr.out _ (HE.out.kept HK2.out)).mono ?_); rintro e w1 ⟨rfl, q1, rfl⟩) | ((with_reducible refine (calls_in (hfr.out _ (HE.out.kept (HK2.out.trans (kept_extP _ _))))).mono ?_); rintro e w1 ⟨rfl, q1, rfl⟩) | ((with_reducible refine (hfr.out _ (HE.out.kept (HK2.out.trans (kept_extP _ _)))).mono ?_); rintro e w1 ⟨rfl, q1, rfl⟩)))
      refine region_ext _ (by first | exact Later.ext _ _ | exact Later.refl _) mixed (by kernel_rfl) ?_
      repeat (go_big_quiet_step ((first | (go_at_call 8; exact calls_in (awake12_ok _)))))
      refine wpQuiet_nil ?_
      rintro _ ⟨q, rfl⟩
      go_wp2_with fail
      go_ret
      exact Ret.of (rfl) (by simp (maxDischargeDepth := 99) [HK2.out])
theorem ploRoom_walk (l : List Slot) (v : Value) (x : Ent) (w : World) (hl : Els w v 7 Slot.cells l) : Calls Try.prog 5 #[v, ev x] w (Ret (.bool true) w) := by
  by_cases hn : l.length ≤ 24
  · cases hk : keptS l
    · exact ploRoom_no l v x w hl hn (.inl hk)
    · cases hr : rightE x
      · exact ploRoom_no l v x w hl hn (.inr hr)
      · exact ploRoom_yes l v x w hl hn hk hr
  · have g1 : (24 : Int) < (l.length : Int) := by omega
    have g2 : decide ((24 : Int) < (l.length : Int)) = true := by simp; omega
    obtain ⟨a, c, rfl, hc, he⟩ := hl.form
    clear hl he hn
    go_enter Try.func5, Try.ntmps5
    go_wp2_with (first | (go_at_call 8; first | ((refine (calls_in (awake12_ok _)).mono ?_); rintro e w1 ⟨rfl, q1, rfl⟩) | ((refine (awake12_ok _).mono ?_); rintro e w1 ⟨rfl, q1, rfl⟩)))
    go_ret
    exact Ret.of (rfl) (by simp (maxDischargeDepth := 99))
set_option maxRecDepth 100000 in
theorem ploRoom_lifted (os : Os) (started : os.Started) (H : Type) (enc : TypeId × Value → H) :
    ReturnsInHanded {} Try.checked os 5 .any (Rows.ploRoomSpec.pre6 enc Try.prog Try.f5 Rows.ploRoomRow.domain false) (Rows.ploRoomSpec.post enc Try.prog Try.f5 false true false false) := by
  refine returnsInHanded_of_change (C := Try.checked) own started (by kernel_rfl) Try.func5
    (ChangeSpec.witness6 (enc := enc) (C := Try.checked) false ⟨#[], #[.slice none 0 0, .agg #[.int .u64 0, .int .u64 0, .int .u64 0, .int .u64 0, .int .i64 0, .int .i64 0]], []⟩ 8 (by kernel_rfl) (by kernel_rfl) (by kernel_rfl) (by kernel_rfl)) ?_
  intro W base args ds gs before hval0 hW hcnd _
  have hval : ∀ (j : Nat) t v, Try.f5.params[j]? = some t → args[j]? = some v → Value.okWide Try.prog W .any base t v := hval0
  have hW' := hW
  obtain ⟨p, q, hA0, hV, rfl, hfz, hnd⟩ := hW
  obtain ⟨rfl, rfl⟩ := trodVars_none hV
  rw [List.append_nil] at hW'
  have hA : DataW.TrodAll enc Try.prog W 0 (fun _ => true) true Try.f5.params.toList args.toList ds p := hA0
  have hA1 := hA
  rw [Try.params5] at hA1 hval
  obtain ⟨v0, vs0, d0, ds0, p0, q0, hargs, rfl, rfl, h0, r0⟩ := trodAll_cons hA1
  obtain ⟨v1, vs1, d1, ds1, p1, q1, rfl, rfl, rfl, h1, r1⟩ := trodAll_cons r0
  obtain ⟨rfl, rfl, rfl⟩ := trodAll_nil r1
  obtain rfl : args = #[v0, v1] := by cases args; simp_all
  obtain ⟨L0, E0, _⟩ := open_slots (hval 0 _ v0 rfl rfl) h0
  obtain ⟨X1, rfl, _⟩ := open_ent (hval 1 _ v1 rfl rfl) h1
  refine (ploRoom_walk L0 v0 X1 W E0).mono fun e W' ⟨he, hg⟩ => ?_
  subst he
  exact ⟨_, rfl, post_true laidOut (by rw [Try.params5]; intro t ht; simp at ht; first | (subst ht; exact ⟨by kernel_rfl, of_decide_eq_true (by kernel_rfl)⟩) | (rcases ht with rfl | rfl <;> exact ⟨by kernel_rfl, of_decide_eq_true (by kernel_rfl)⟩) | (rcases ht with rfl | rfl | rfl <;> exact ⟨by kernel_rfl, of_decide_eq_true (by kernel_rfl)⟩) | (rcases ht with rfl | rfl | rfl | rfl <;> exact ⟨by kernel_rfl, of_decide_eq_true (by kernel_rfl)⟩)) rfl hW' hA rfl (trodAll_cons_mk (shut_bool Try.underlying4 _) trodAll_mk0) (Later.kept hg)⟩

theorem ploRoom_holds : Rows.PloRoomSaid :=
  OpenClaim.holds_of_wide 5 Try.f5 rfl rfl rfl rfl rfl rfl rfl ⟨rfl, rfl, rfl, rfl, rfl⟩ rfl rfl rfl rfl rfl (by kernel_rfl) Try.func5 (by kernel_rfl)
    (of_decide_eq_true (by kernel_rfl)) (by unfold Func.isWrapper; first | (rw [if_pos (by decide +kernel)]; kernel_rfl) | (rw [if_neg (by decide +kernel)]; exact ⟨rfl, rfl⟩))
    (fun os started H enc _ => ploRoom_lifted os started H enc)
#print axioms ploRoom_holds
end Go.Proofs.Ytdlikcdmhgbolaa
