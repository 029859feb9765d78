/- PloGapTells: an entry may stand in each empty slot of its gap, and in no other one. -/
import Derived.Test.YtdlikcdmhgbolaaRows
import Derived.Test.YtdlikcdmhgbolaaAwake12
import Derived.Test.YtdlikcdmhgbolaaOpenEnt
namespace Pg
open Go Go.RowKit
theorem els_oneW {w : World} {g : Nat} {t : TypeId} (e : Wr) (h : Blk w g t (Wr.cells e).toArray) : Els w (.slice (some ⟨g, 0, none⟩) 1 1) 8 Wr.cells [e] :=
  ⟨_, 1, rfl, Nat.le_refl _, fun _ => ⟨g, 0, rfl, h.lt, fun i hi j hj => by
    have : i = 0 := by simp at hi; omega
    subst this
    rw [Nat.zero_mul, Nat.zero_add, h.cell]
    simp⟩⟩
end Pg
namespace Go.Proofs.Ytdlikcdmhgbolaa
open Go.RowKit Pg Go.ChangeShapes Go.WideShapes Go.ChangeAt

set_option maxHeartbeats 2000000 in
set_option maxRecDepth 100000 in
theorem ploGapTells_no (l : List Slot) (v : Value) (x : Ent) (k : Int) (w : World) (hl : Els w v 7 Slot.cells l) (hn : l.length ≤ 24) (h : keptS l = false ∨ rightE x = false ∨ k < 0 ∨ (l.length : Int) ≤ k) : Calls Try.prog 7 #[v, ev x, .int .i64 k] w (Ret (.bool true) w) := by
  have HE := Lib.hid hl
  have g1 : ¬ (24 : Int) < (l.length : Int) := by omega
  have g2 : decide ((24 : Int) < (l.length : Int)) = false := by simp; omega
  obtain ⟨kp, hkp0⟩ : ∃ kp, keptS l = kp := ⟨_, rfl⟩
  obtain ⟨rt, hrt0⟩ : ∃ rt, rightE x = rt := ⟨_, rfl⟩
  have hkp := Lib.hid (fun W (h : Els W v 7 Slot.cells l) => plokept_as hkp0 W h (by omega))
  have hri := Lib.hid (fun W => eright_as hrt0 W)
  rw [hkp0, hrt0] at h
  obtain ⟨a, c, rfl, hc, he⟩ := hl.form
  clear hl he hkp0 hrt0
  cases kp
  · clear h
    go_enter Try.func7, Try.ntmps7
    go_wp2_with (first | (go_at_call 17; first | ((refine (calls_in (hkp.out _ (HE.out.alloc _))).mono ?_); rintro e w1 ⟨rfl, q1, rfl⟩) | ((refine (hkp.out _ (HE.out.alloc _)).mono ?_); rintro e w1 ⟨rfl, q1, rfl⟩)) | (go_at_call 8; first | ((refine (calls_in (awake12_ok _)).mono ?_); rintro e w1 ⟨rfl, q1, rfl⟩) | ((refine (awake12_ok _).mono ?_); rintro e w1 ⟨rfl, q1, rfl⟩)))
    go_ret
    exact Ret.of (rfl) (by simp (maxDischargeDepth := 99))
  · cases rt
    · clear h
      go_enter Try.func7, Try.ntmps7
      go_wp2_with (first | (go_at_call 17; first | ((refine (calls_in (hkp.out _ (HE.out.alloc _))).mono ?_); rintro e w1 ⟨rfl, q1, rfl⟩) | ((refine (hkp.out _ (HE.out.alloc _)).mono ?_); rintro e w1 ⟨rfl, q1, rfl⟩)) | (go_at_call 21; first | ((refine (calls_in (hri.out _)).mono ?_); rintro e w1 ⟨rfl, q1, rfl⟩) | ((refine (hri.out _).mono ?_); rintro e w1 ⟨rfl, q1, rfl⟩)) | (go_at_call 8; first | ((refine (calls_in (awake12_ok _)).mono ?_); rintro e w1 ⟨rfl, q1, rfl⟩) | ((refine (awake12_ok _).mono ?_); rintro e w1 ⟨rfl, q1, rfl⟩)))
      go_ret
      exact Ret.of (rfl) (by simp (maxDischargeDepth := 99))
    · by_cases h0 : k < 0
      · clear h
        go_enter Try.func7, Try.ntmps7
        go_wp2_with (first | (go_at_call 17; first | ((refine (calls_in (hkp.out _ (HE.out.alloc _))).mono ?_); rintro e w1 ⟨rfl, q1, rfl⟩) | ((refine (hkp.out _ (HE.out.alloc _)).mono ?_); rintro e w1 ⟨rfl, q1, rfl⟩)) | (go_at_call 21; first | ((refine (calls_in (hri.out _)).mono ?_); rintro e w1 ⟨rfl, q1, rfl⟩) | ((refine (hri.out _).mono ?_); rintro e w1 ⟨rfl, q1, rfl⟩)) | (go_at_call 8; first | ((refine (calls_in (awake12_ok _)).mono ?_); rintro e w1 ⟨rfl, q1, rfl⟩) | ((refine (awake12_ok _).mono ?_); rintro e w1 ⟨rfl, q1, rfl⟩)))
        go_ret
        exact Ret.of (rfl) (by simp (maxDischargeDepth := 99))
      · have h1 : (l.length : Int) ≤ k := by simp at h; omega
        clear h
        go_enter Try.func7, Try.ntmps7
        go_wp2_with (first | (go_at_call 17; first | ((refine (calls_in (hkp.out _ (HE.out.alloc _))).mono ?_); rintro e w1 ⟨rfl, q1, rfl⟩) | ((refine (hkp.out _ (HE.out.alloc _)).mono ?_); rintro e w1 ⟨rfl, q1, rfl⟩)) | (go_at_call 21; first | ((refine (calls_in (hri.out _)).mono ?_); rintro e w1 ⟨rfl, q1, rfl⟩) | ((refine (hri.out _).mono ?_); rintro e w1 ⟨rfl, q1, rfl⟩)) | (go_at_call 8; first | ((refine (calls_in (awake12_ok _)).mono ?_); rintro e w1 ⟨rfl, q1, rfl⟩) | ((refine (awake12_ok _).mono ?_); rintro e w1 ⟨rfl, q1, rfl⟩)))
        go_ret
        exact Ret.of (rfl) (by simp (maxDischargeDepth := 99))
set_option maxHeartbeats 2000000 in
set_option maxRecDepth 100000 in
theorem ploGapTells_yes (l : List Slot) (v : Value) (x : Ent) (k : Nat) (w : World) (hl : Els w v 7 Slot.cells l) (hn : l.length ≤ 24) (hk : keptS l = true) (hr : rightE x = true) (hkl : k < l.length) : Calls Try.prog 7 #[v, ev x, .int .i64 (k : Int)] w (Ret (.bool true) w) := by
  have HE := Lib.hid hl
  have g1 : ¬ (24 : Int) < (l.length : Int) := by omega
  have g2 : decide ((24 : Int) < (l.length : Int)) = false := by simp; omega
  have k0 : (0 : Int) ≤ k := by omega
  have k1 : (k : Int) < (l.length : Int) := by omega
  have k2 : ¬ (l.length : Int) ≤ (k : Int) := by omega
  have k3 : decide ((l.length : Int) ≤ (k : Int)) = false := by simp; omega
  have k4 : decide (l.length ≤ k) = false := by simp; omega
  have hkp := Lib.hid (fun W (h : Els W v 7 Slot.cells l) => plokept_as hk W h (by omega))
  have hri := Lib.hid (fun W => eright_as hr W)
  obtain ⟨F, hF⟩ : ∃ F, fromS x.len l = F := ⟨_, rfl⟩
  obtain ⟨T, hT⟩ : ∃ T, toS x.len l = T := ⟨_, rfl⟩
  have hga := Lib.hid (fun W (h : Els W v 7 Slot.cells l) => gap_as hk hF hT W h (by omega))
  have hgt := fun hv => gap_tells (x := x) hk hkl hv
  rw [hF, hT] at hgt
  have hap := Lib.hid (fun w (u : Value) (h : Els w v 7 Slot.cells l) (hw : Els w u 8 Wr.cells [⟨k, ⟨true, x⟩⟩]) => show Calls Try.prog 25 #[v, u] w (RetEls 58 7 Slot.cells (l.set k ⟨true, x⟩) w) by
    have := bapply_any w h (by omega) hw (by simp)
    rwa [show applyS l [⟨k, ⟨true, x⟩⟩] = l.set k ⟨true, x⟩ by
      show putW l _ = _
      unfold putW
      rw [show mayW ⟨(k : Int), ⟨true, x⟩⟩ l.length = true by unfold mayW; simp [hr]; omega]
      rfl] at this)
  obtain ⟨L, hL⟩ : ∃ L, l.set k ⟨true, x⟩ = L := ⟨_, rfl⟩
  have hLl : L.length ≤ 24 := by rw [← hL, List.length_set]; exact hn
  rw [hL] at hap hgt
  obtain ⟨a, c, rfl, hc, he⟩ := hl.form
  obtain ⟨b, o, rfl⟩ := els_some hl (by omega)
  obtain ⟨hb, hcell⟩ := (HE.out).at2 (k) hkl
  obtain ⟨e, hee⟩ : ∃ e, (l)[k]'hkl = e := ⟨_, rfl⟩
  rw [hee] at hcell
  have c0 : w.cell? ⟨b, o + k * 7, none⟩ = some (.bool e.v) := hcell 0 (by omega)
  have c1 : w.cell? ⟨b, o + k * 7 + 1, none⟩ = some (.int .u64 (hi e.e.x)) := hcell 1 (by omega)
  have c2 : w.cell? ⟨b, o + k * 7 + 2, none⟩ = some (.int .u64 (lo e.e.x)) := hcell 2 (by omega)
  have c3 : w.cell? ⟨b, o + k * 7 + 3, none⟩ = some (.int .u64 (hi e.e.m)) := hcell 3 (by omega)
  have c4 : w.cell? ⟨b, o + k * 7 + 4, none⟩ = some (.int .u64 (lo e.e.m)) := hcell 4 (by omega)
  have c5 : w.cell? ⟨b, o + k * 7 + 5, none⟩ = some (.int .i64 e.e.len) := hcell 5 (by omega)
  have c6 : w.cell? ⟨b, o + k * 7 + 6, none⟩ = some (.int .i64 e.e.act) := hcell 6 (by omega)
  have Hee := Lib.hid hee
  clear hcell hee
  have hgt2 : e.v = false → keptS L = (decide (F ≤ k) && decide (k < T)) := fun h => hgt (by rw [Hee.out]; exact h)
  have HG := Lib.hid hgt2
  clear hl he hk hr hF hT hgt hL Hee hgt2
  cases hev : e.v
  · rw [hev] at c0
    have hgt := HG.out hev
    obtain ⟨B, hB⟩ : ∃ B, (decide (F ≤ k) && decide (k < T)) = B := ⟨_, rfl⟩
    rw [hB] at hgt
    have hkq := Lib.hid (fun W u (h : Els W u 7 Slot.cells L) => plokept_as hgt W h (by omega))
    have HBB := Lib.hid hB
    clear hev HG hgt hB
    go_enter Try.func7, Try.ntmps7
    go_wp2_with (first | (go_at_call 17; first | ((refine (calls_in (hkp.out _ (HE.out.alloc _))).mono ?_); rintro e w1 ⟨rfl, q1, rfl⟩) | ((refine (hkp.out _ (HE.out.alloc _)).mono ?_); rintro e w1 ⟨rfl, q1, rfl⟩)) | (go_at_call 21; first | ((refine (calls_in (hri.out _)).mono ?_); rintro e w1 ⟨rfl, q1, rfl⟩) | ((refine (hri.out _).mono ?_); rintro e w1 ⟨rfl, q1, rfl⟩)))
    obtain ⟨wb, hwb⟩ : ∃ wb, wb = ext (w.alloc (.cells #[.int .u64 (hi x.x), .int .u64 (lo x.x), .int .u64 (hi x.m), .int .u64 (lo x.m), .int .i64 x.len, .int .i64 x.act] 29)) q1 := ⟨_, rfl⟩
    have HKb := Lib.hid (show Kept w wb by rw [hwb]; exact (Kept.alloc (Kept.refl w) _).trans (kept_extP _ _))
    have HBb := Lib.hid (show Blk wb w.heap.size 29 #[.int .u64 (hi x.x), .int .u64 (lo x.x), .int .u64 (hi x.m), .int .u64 (lo x.m), .int .i64 x.len, .int .i64 x.act] by rw [hwb]; exact (Blk.new' w _ _ rfl).kept (kept_extP _ _))
    rw [← hwb]
    clear hwb
    refine (hga.out _ (HE.out.kept HKb.out)).mono ?_
    rintro e w1 ⟨rfl, q2, rfl⟩
    obtain ⟨wc, hwc⟩ : ∃ wc, wc = ext wb q2 := ⟨_, rfl⟩
    have HKc := Lib.hid (HKb.out.trans (show Kept wb wc by rw [hwc]; exact kept_extP _ _))
    have HBc := Lib.hid (HBb.out.kept (show Kept wb wc by rw [hwc]; exact kept_extP _ _))
    rw [← hwc]
    clear hwc
    have x0 := fun j => HBc.out.cell j
    have xl := HBc.out.lt
    go_wp2_with fail
    refine (hap.out _ _ (HE.out.kept (HKc.out.trans (Kept.alloc (Kept.refl _) _))) (els_oneW ⟨k, ⟨true, x⟩⟩ (Blk.new' _ _ _ rfl))).mono ?_
    rintro e9 w5 hR
    obtain ⟨a8, cc8, rfl, hlc8, hown8, hels8⟩ := RetEls.out2 Slot.cells_len hR
    have HE8 := Lib.hid hels8
    have HK8 := Lib.hid (HKc.out.trans ((Kept.alloc (Kept.refl _) _).trans hown8.1))
    clear hown8 hels8 hR x0 xl
    by_cases h1 : F ≤ k
    · have i1 : (F : Int) ≤ (k : Int) := by omega
      have j1 : decide ((F : Int) ≤ (k : Int)) = true := decide_eq_true i1
      have j2 : decide (F ≤ k) = true := decide_eq_true h1
      by_cases h2 : k < T
      · obtain rfl : true = B := by rw [← HBB.out, decide_eq_true h1, decide_eq_true h2]; rfl
        have i2 : (k : Int) < (T : Int) := by omega
        have j3 : decide ((k : Int) < (T : Int)) = true := decide_eq_true i2
        have j4 : decide (k < T) = true := decide_eq_true h2
        clear HBB
        go_wp2_with (first | (go_at_call 17; first | ((refine (calls_in (hkq.out _ _ HE8.out)).mono ?_); rintro e w1 ⟨rfl, q1, rfl⟩) | ((refine (hkq.out _ _ HE8.out).mono ?_); rintro e w1 ⟨rfl, q1, rfl⟩)) | (go_at_call 8; first | ((refine (calls_in (awake12_ok _)).mono ?_); rintro e w1 ⟨rfl, q1, rfl⟩) | ((refine (awake12_ok _).mono ?_); rintro e w1 ⟨rfl, q1, rfl⟩)))
        go_ret
        exact Ret.of (rfl) (by simp (maxDischargeDepth := 99) [HK8.out])
      · obtain rfl : false = B := by rw [← HBB.out, decide_eq_true h1, decide_eq_false h2]; rfl
        have i2 : ¬ (k : Int) < (T : Int) := by omega
        have j3 : decide ((k : Int) < (T : Int)) = false := decide_eq_false i2
        have j4 : decide (k < T) = false := decide_eq_false h2
        clear HBB
        go_wp2_with (first | (go_at_call 17; first | ((refine (calls_in (hkq.out _ _ HE8.out)).mono ?_); rintro e w1 ⟨rfl, q1, rfl⟩) | ((refine (hkq.out _ _ HE8.out).mono ?_); rintro e w1 ⟨rfl, q1, rfl⟩)) | (go_at_call 8; first | ((refine (calls_in (awake12_ok _)).mono ?_); rintro e w1 ⟨rfl, q1, rfl⟩) | ((refine (awake12_ok _).mono ?_); rintro e w1 ⟨rfl, q1, rfl⟩)))
        go_ret
        exact Ret.of (rfl) (by simp (maxDischargeDepth := 99) [HK8.out])
    · obtain rfl : false = B := by rw [← HBB.out, decide_eq_false h1]; rfl
      have i1 : ¬ (F : Int) ≤ (k : Int) := by omega
      have j1 : decide ((F : Int) ≤ (k : Int)) = false := decide_eq_false i1
      have j2 : decide (F ≤ k) = false := decide_eq_false h1
      clear HBB
      go_wp2_with (first | (go_at_call 17; first | ((refine (calls_in (hkq.out _ _ HE8.out)).mono ?_); rintro e w1 ⟨rfl, q1, rfl⟩) | ((refine (hkq.out _ _ HE8.out).mono ?_); rintro e w1 ⟨rfl, q1, rfl⟩)) | (go_at_call 8; first | ((refine (calls_in (awake12_ok _)).mono ?_); rintro e w1 ⟨rfl, q1, rfl⟩) | ((refine (awake12_ok _).mono ?_); rintro e w1 ⟨rfl, q1, rfl⟩)))
      go_ret
      exact Ret.of (rfl) (by simp (maxDischargeDepth := 99) [HK8.out])
  · rw [hev] at c0
    clear hev HG
    go_enter Try.func7, Try.ntmps7
    go_wp2_with (first | (go_at_call 17; first | ((refine (calls_in (hkp.out _ (HE.out.alloc _))).mono ?_); rintro e w1 ⟨rfl, q1, rfl⟩) | ((refine (hkp.out _ (HE.out.alloc _)).mono ?_); rintro e w1 ⟨rfl, q1, rfl⟩)) | (go_at_call 21; first | ((refine (calls_in (hri.out _)).mono ?_); rintro e w1 ⟨rfl, q1, rfl⟩) | ((refine (hri.out _).mono ?_); rintro e w1 ⟨rfl, q1, rfl⟩)) | (go_at_call 8; first | ((refine (calls_in (awake12_ok _)).mono ?_); rintro e w1 ⟨rfl, q1, rfl⟩) | ((refine (awake12_ok _).mono ?_); rintro e w1 ⟨rfl, q1, rfl⟩)))
    go_ret
    exact Ret.of (rfl) (by simp (maxDischargeDepth := 99))
theorem ploGapTells_walk (l : List Slot) (v : Value) (x : Ent) (k : Int) (_ : -9223372036854775808 ≤ k) (_ : k ≤ 9223372036854775807) (w : World) (hl : Els w v 7 Slot.cells l) : Calls Try.prog 7 #[v, ev x, .int .i64 k] w (Ret (.bool true) w) := by
  by_cases hn : l.length ≤ 24
  · cases hk : keptS l
    · exact ploGapTells_no l v x k w hl hn (.inl hk)
    · cases hr : rightE x
      · exact ploGapTells_no l v x k w hl hn (.inr (.inl hr))
      · by_cases h0 : k < 0
        · exact ploGapTells_no l v x k w hl hn (.inr (.inr (.inl h0)))
        · obtain ⟨m, rfl⟩ := Int.eq_ofNat_of_zero_le (show 0 ≤ k by omega)
          by_cases h1 : m < l.length
          · exact ploGapTells_yes l v x m w hl hn hk hr h1
          · exact ploGapTells_no l v x m w hl hn (.inr (.inr (.inr (by omega))))
  · have g1 : (24 : Int) < (l.length : Int) := by omega
    have g2 : decide ((24 : Int) < (l.length : Int)) = true := by simp; omega
    obtain ⟨a, c, rfl, hc, he⟩ := hl.form
    clear hl he hn
    go_enter Try.func7, Try.ntmps7
    go_wp2_with (first | (go_at_call 8; first | ((refine (calls_in (awake12_ok _)).mono ?_); rintro e w1 ⟨rfl, q1, rfl⟩) | ((refine (awake12_ok _).mono ?_); rintro e w1 ⟨rfl, q1, rfl⟩)))
    go_ret
    exact Ret.of (rfl) (by simp (maxDischargeDepth := 99))
set_option maxRecDepth 100000 in
theorem ploGapTells_lifted (os : Os) (started : os.Started) (H : Type) (enc : TypeId × Value → H) :
    ReturnsInHanded {} Try.checked os 7 .any (Rows.ploGapTellsSpec.pre6 enc Try.prog Try.f7 Rows.ploGapTellsRow.domain false) (Rows.ploGapTellsSpec.post enc Try.prog Try.f7 false true false false) := by
  refine returnsInHanded_of_change (C := Try.checked) own started (by kernel_rfl) Try.func7
    (ChangeSpec.witness6 (enc := enc) (C := Try.checked) false ⟨#[], #[.slice none 0 0, .agg #[.int .u64 0, .int .u64 0, .int .u64 0, .int .u64 0, .int .i64 0, .int .i64 0], .int .i64 0], []⟩ 8 (by kernel_rfl) (by kernel_rfl) (by kernel_rfl) (by kernel_rfl)) ?_
  intro W base args ds gs before hval0 hW hcnd _
  have hval : ∀ (j : Nat) t v, Try.f7.params[j]? = some t → args[j]? = some v → Value.okWide Try.prog W .any base t v := hval0
  have hW' := hW
  obtain ⟨p, q, hA0, hV, rfl, hfz, hnd⟩ := hW
  obtain ⟨rfl, rfl⟩ := trodVars_none hV
  rw [List.append_nil] at hW'
  have hA : DataW.TrodAll enc Try.prog W 0 (fun _ => true) true Try.f7.params.toList args.toList ds p := hA0
  have hA1 := hA
  rw [Try.params7] at hA1 hval
  obtain ⟨v0, vs0, d0, ds0, p0, q0, hargs, rfl, rfl, h0, r0⟩ := trodAll_cons hA1
  obtain ⟨v1, vs1, d1, ds1, p1, q1, rfl, rfl, rfl, h1, r1⟩ := trodAll_cons r0
  obtain ⟨v2, vs2, d2, ds2, p2, q2, rfl, rfl, rfl, h2, r2⟩ := trodAll_cons r1
  obtain ⟨rfl, rfl, rfl⟩ := trodAll_nil r2
  obtain rfl : args = #[v0, v1, v2] := by cases args; simp_all
  obtain ⟨L0, E0, _⟩ := open_slots (hval 0 _ v0 rfl rfl) h0
  obtain ⟨X1, rfl, _⟩ := open_ent (hval 1 _ v1 rfl rfl) h1
  obtain ⟨X2, rfl, rfl, rfl, w2⟩ := open_int Try.underlying3 (hval 2 _ v2 rfl rfl) h2
  refine (ploGapTells_walk L0 v0 X1 X2 (wf_i64' w2).1 (wf_i64' w2).2 W E0).mono fun e W' ⟨he, hg⟩ => ?_
  subst he
  exact ⟨_, rfl, post_true laidOut (by rw [Try.params7]; intro t ht; simp at ht; first | (subst ht; exact ⟨by kernel_rfl, of_decide_eq_true (by kernel_rfl)⟩) | (rcases ht with rfl | rfl <;> exact ⟨by kernel_rfl, of_decide_eq_true (by kernel_rfl)⟩) | (rcases ht with rfl | rfl | rfl <;> exact ⟨by kernel_rfl, of_decide_eq_true (by kernel_rfl)⟩) | (rcases ht with rfl | rfl | rfl | rfl <;> exact ⟨by kernel_rfl, of_decide_eq_true (by kernel_rfl)⟩)) rfl hW' hA rfl (trodAll_cons_mk (shut_bool Try.underlying4 _) trodAll_mk0) (Later.kept hg)⟩

theorem ploGapTells_holds : Rows.PloGapTellsSaid :=
  OpenClaim.holds_of_wide 7 Try.f7 rfl rfl rfl rfl rfl rfl rfl ⟨rfl, rfl, rfl, rfl, rfl⟩ rfl rfl rfl rfl rfl (by kernel_rfl) Try.func7 (by kernel_rfl)
    (of_decide_eq_true (by kernel_rfl)) (by unfold Func.isWrapper; first | (rw [if_pos (by decide +kernel)]; kernel_rfl) | (rw [if_neg (by decide +kernel)]; exact ⟨rfl, rfl⟩))
    (fun os started H enc _ => ploGapTells_lifted os started H enc)
#print axioms ploGapTells_holds
end Go.Proofs.Ytdlikcdmhgbolaa
