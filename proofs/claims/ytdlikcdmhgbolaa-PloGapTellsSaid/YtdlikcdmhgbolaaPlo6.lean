/- Slots in the order of lengths: the reference's Insert. -/
import Derived.Test.YtdlikcdmhgbolaaPlo5
namespace Pg
open Go Go.RowKit
theorem firstE_snoc (l : List Slot) : ∀ f a, firstE l (f + 1) a = match firstE l f a with | some g => some g | none => if emptyAt l (a + f) then some (a + f) else none
  | 0, a => by
    show (if emptyAt l a then some a else firstE l 0 (a + 1)) = _
    simp [firstE]
  | f + 1, a => by
    have ih := firstE_snoc l f (a + 1)
    have e1 : firstE l (f + 1 + 1) a = if emptyAt l a then some a else firstE l (f + 1) (a + 1) := rfl
    have e2 : firstE l (f + 1) a = if emptyAt l a then some a else firstE l f (a + 1) := rfl
    rw [e1, e2]
    cases he : emptyAt l a
    · simp only [Bool.false_eq_true, if_false]
      rw [ih, show a + 1 + f = a + (f + 1) by omega]
    · simp
theorem lastE_succ (l : List Slot) (k : Nat) : lastE l (k + 1) = if emptyAt l k then some k else lastE l k := rfl
theorem first_same {l : List Slot} {T i : Nat} (h : emptyAt l i = false ∨ i < T) : firstE l (i + 1 - T) T = firstE l (i - T) T := by
  rcases Nat.lt_or_ge i T with h1 | h1
  · rw [show i + 1 - T = 0 by omega, show i - T = 0 by omega]
  · rw [show i + 1 - T = (i - T) + 1 by omega, firstE_snoc, show T + (i - T) = i by omega]
    rcases h with h | h
    · rw [h]; cases firstE l (i - T) T <;> rfl
    · omega
theorem first_old {l : List Slot} {T i g : Nat} (h : firstE l (i - T) T = some g) : firstE l (i + 1 - T) T = some g := by
  rcases Nat.lt_or_ge i T with h1 | h1
  · rw [show i + 1 - T = 0 by omega, ← show i - T = 0 by omega]; exact h
  · rw [show i + 1 - T = (i - T) + 1 by omega, firstE_snoc, h]
theorem first_new {l : List Slot} {T i : Nat} (h : firstE l (i - T) T = none) (hT : T ≤ i) (he : emptyAt l i = true) : firstE l (i + 1 - T) T = some i := by
  rw [show i + 1 - T = (i - T) + 1 by omega, firstE_snoc, h, show T + (i - T) = i by omega, he]; rfl
theorem last_same {l : List Slot} {F i : Nat} (h : emptyAt l i = false ∨ F ≤ i) : lastE l (min F (i + 1)) = lastE l (min F i) := by
  rcases Nat.lt_or_ge i F with h1 | h1
  · rw [show min F (i + 1) = i + 1 by omega, show min F i = i by omega, lastE_succ]
    rcases h with h | h
    · rw [h]; rfl
    · omega
  · rw [show min F (i + 1) = F by omega, show min F i = F by omega]
theorem last_new {l : List Slot} {F i : Nat} (h : i < F) (he : emptyAt l i = true) : lastE l (min F (i + 1)) = some i := by
  rw [show min F (i + 1) = i + 1 by omega, lastE_succ, he]; rfl
theorem first_is {l : List Slot} {F T i : Nat} (h1 : F ≤ i) (h2 : i < T) (he : emptyAt l i = true) (hn : ∀ j, F ≤ j → j < T → j < i → emptyAt l j = false) : firstE l (T - F) F = some i := by
  cases hf : firstE l (T - F) F with
  | none => have := firstE_none l _ _ hf i h1 (by omega); rw [he] at this; cases this
  | some g =>
    obtain ⟨a, b, c, d⟩ := firstE_some l _ _ g hf
    rcases Nat.lt_trichotomy g i with h | h | h
    · rw [hn g a (by omega) h] at c; cases c
    · rw [h]
    · rw [d i h1 h] at he; cases he
theorem first_no {l : List Slot} {F T : Nat} (hn : ∀ j, F ≤ j → j < T → emptyAt l j = false) : firstE l (T - F) F = none := by
  cases hf : firstE l (T - F) F with
  | none => rfl
  | some g =>
    obtain ⟨a, b, c, d⟩ := firstE_some l _ _ g hf
    rw [hn g a (by omega)] at c; cases c
theorem optI_none {o : Option Nat} (h : o = none) : optI o = -1 := by rw [h]; rfl
theorem optI_some {o : Option Nat} {g : Nat} (h : o = some g) : optI o = (g : Int) := by rw [h]; rfl
end Pg
namespace Go.Proofs.Ytdlikcdmhgbolaa
open Go.RowKit Pg

theorem refgap_as {l : List Slot} {v : Value} {n : Int} {F T : Nat} (hF : fromS n l = F) (hT : toS n l = T) (w : World) (hl : Els w v 7 Slot.cells l) (hn : l.length ≤ 1000) : Calls Try.prog 20 #[v, .int .i64 n] w (Ret (.tuple #[.int .i64 (F : Int), .int .i64 (T : Int)]) w) := by
  have := refgap_any n w hl hn
  rwa [hF, hT] at this
theorem refkept_as {l : List Slot} {v : Value} {b : Bool} (h : keptS l = b) (w : World) (hl : Els w v 7 Slot.cells l) (hn : l.length ≤ 1000) : Calls Try.prog 16 #[v] w (Ret (.bool b) w) := by rw [← h]; exact refkept_any w hl hn
set_option maxHeartbeats 20000000 in
set_option maxRecDepth 100000 in
theorem refinsert_any {l : List Slot} {v : Value} (x : Ent) (w : World) (hl : Els w v 7 Slot.cells l) (hn : l.length ≤ 900) : Calls Try.prog 11 #[v, ev x] w (RetWE 76 (insW l x).1 (insW l x).2 w) := by
  have HE := Lib.hid hl
  obtain ⟨a, c, rfl, hc, he⟩ := hl.form
  cases hr : rightE x
  · have hv : insW l x = ([], 1) := by unfold insW; rw [if_pos hr]
    rw [hv]
    have hri := Lib.hid (fun W => refright8_as hr W)
    clear hl he hr hv
    go_enter Try.func11, Try.ntmps11
    go_wp2_with fail
    obtain ⟨wa, hwa⟩ : ∃ wa, wa = w.alloc (.cells #[.int .u64 (hi x.x), .int .u64 (lo x.x), .int .u64 (hi x.m), .int .u64 (lo x.m), .int .i64 x.len, .int .i64 x.act] 43) := ⟨_, rfl⟩
    have HKa := Lib.hid (show Kept w wa by rw [hwa]; exact Kept.alloc (Kept.refl w) _)
    have HBa := Lib.hid (show Blk wa w.heap.size 43 #[.int .u64 (hi x.x), .int .u64 (lo x.x), .int .u64 (hi x.m), .int .u64 (lo x.m), .int .i64 x.len, .int .i64 x.act] by rw [hwa]; exact Blk.new' w _ _ rfl)
    rw [← hwa]
    clear hwa
    have x0 := fun j => (HBa.out).cell j
    have xl := (HBa.out).lt
    refine (hri.out _).mono ?_
    rintro e w1 ⟨rfl, q1, rfl⟩
    obtain ⟨w1, hw1⟩ : ∃ w1, w1 = ext wa q1 := ⟨_, rfl⟩
    have HS1 := Lib.hid (show Kept wa w1 by rw [hw1]; exact kept_extP _ _)
    have HK1 := Lib.hid (HKa.out.trans HS1.out)
    have HB1 := Lib.hid (HBa.out.kept HS1.out)
    rw [← hw1]
    clear hw1 x0 xl
    have x0 := fun j => (HB1.out).cell j
    have xl := (HB1.out).lt
    go_wp2_with fail
    exact bodyPost_ret (v := .tuple #[.slice none 0 0, .int .i64 1]) (by simp [results, Try.results11, go_sem]) rfl (RetWE.mk (Kept.refl w) (Own.nil _ _ HK1.out _ _))
  have hri := Lib.hid (fun W => refright8_as hr W)
  have hv0 : insW l x = if keptS l = false then ([], 7) else insR2 l x (fromS x.len l) (toS x.len l) := by unfold insW; rw [if_neg (by rw [hr]; decide)]
  cases hk : keptS l
  · rw [hk, if_pos rfl] at hv0
    rw [hv0]
    have hkp := Lib.hid (fun W (h : Els W (.slice a l.length c) 7 Slot.cells l) => refkept_as hk W h (by omega))
    clear hl he hr hv0 hk
    go_enter Try.func11, Try.ntmps11
    go_wp2_with fail
    obtain ⟨wa, hwa⟩ : ∃ wa, wa = w.alloc (.cells #[.int .u64 (hi x.x), .int .u64 (lo x.x), .int .u64 (hi x.m), .int .u64 (lo x.m), .int .i64 x.len, .int .i64 x.act] 43) := ⟨_, rfl⟩
    have HKa := Lib.hid (show Kept w wa by rw [hwa]; exact Kept.alloc (Kept.refl w) _)
    have HBa := Lib.hid (show Blk wa w.heap.size 43 #[.int .u64 (hi x.x), .int .u64 (lo x.x), .int .u64 (hi x.m), .int .u64 (lo x.m), .int .i64 x.len, .int .i64 x.act] by rw [hwa]; exact Blk.new' w _ _ rfl)
    rw [← hwa]
    clear hwa
    have x0 := fun j => (HBa.out).cell j
    have xl := (HBa.out).lt
    refine (hri.out _).mono ?_
    rintro e w1 ⟨rfl, q1, rfl⟩
    obtain ⟨w1, hw1⟩ : ∃ w1, w1 = ext wa q1 := ⟨_, rfl⟩
    have HS1 := Lib.hid (show Kept wa w1 by rw [hw1]; exact kept_extP _ _)
    have HK1 := Lib.hid (HKa.out.trans HS1.out)
    have HB1 := Lib.hid (HBa.out.kept HS1.out)
    rw [← hw1]
    clear hw1 x0 xl
    have x0 := fun j => (HB1.out).cell j
    have xl := (HB1.out).lt
    go_wp2_with fail
    refine (hkp.out _ (HE.out.kept HK1.out)).mono ?_
    rintro e w1 ⟨rfl, q2, rfl⟩
    obtain ⟨w2, hw2⟩ : ∃ w2, w2 = ext w1 q2 := ⟨_, rfl⟩
    have HS2 := Lib.hid (show Kept w1 w2 by rw [hw2]; exact kept_extP _ _)
    have HK2 := Lib.hid (HK1.out.trans HS2.out)
    have HB2 := Lib.hid (HB1.out.kept HS2.out)
    rw [← hw2]
    clear hw2 x0 xl
    have x0 := fun j => (HB2.out).cell j
    have xl := (HB2.out).lt
    go_wp2_with fail
    exact bodyPost_ret (v := .tuple #[.slice none 0 0, .int .i64 7]) (by simp [results, Try.results11, go_sem]) rfl (RetWE.mk (Kept.refl w) (Own.nil _ _ HK2.out _ _))
  rw [hk, if_neg (by decide)] at hv0
  have hkp := Lib.hid (fun W (h : Els W (.slice a l.length c) 7 Slot.cells l) => refkept_as hk W h (by omega))
  obtain ⟨F, hF⟩ : ∃ F, fromS x.len l = F := ⟨_, rfl⟩
  obtain ⟨T, hT⟩ : ∃ T, toS x.len l = T := ⟨_, rfl⟩
  have hFT : F ≤ T := by rw [← hF, ← hT]; exact gap_le hk
  have hTl : T ≤ l.length := by rw [← hT]; exact toS_le _ _
  rw [hF, hT] at hv0
  have hga := Lib.hid (fun W (h : Els W (.slice a l.length c) 7 Slot.cells l) => refgap_as hF hT W h (by omega))
  have HV := Lib.hid hv0
  have HKP := Lib.hid hk
  have F0 : (0 : Int) ≤ F := by omega
  have T0 : (0 : Int) ≤ T := by omega
  have hFTi : (F : Int) ≤ T := by omega
  have hTli : (T : Int) ≤ (l.length : Int) := by omega
  clear hl he hr hk hF hT hv0
  go_enter Try.func11, Try.ntmps11
  go_wp2_with fail
  obtain ⟨wa, hwa⟩ : ∃ wa, wa = w.alloc (.cells #[.int .u64 (hi x.x), .int .u64 (lo x.x), .int .u64 (hi x.m), .int .u64 (lo x.m), .int .i64 x.len, .int .i64 x.act] 43) := ⟨_, rfl⟩
  have HKa := Lib.hid (show Kept w wa by rw [hwa]; exact Kept.alloc (Kept.refl w) _)
  have HBa := Lib.hid (show Blk wa w.heap.size 43 #[.int .u64 (hi x.x), .int .u64 (lo x.x), .int .u64 (hi x.m), .int .u64 (lo x.m), .int .i64 x.len, .int .i64 x.act] by rw [hwa]; exact Blk.new' w _ _ rfl)
  rw [← hwa]
  clear hwa
  have x0 := fun j => (HBa.out).cell j
  have xl := (HBa.out).lt
  refine (hri.out _).mono ?_
  rintro e w1 ⟨rfl, q1, rfl⟩
  obtain ⟨w1, hw1⟩ : ∃ w1, w1 = ext wa q1 := ⟨_, rfl⟩
  have HS1 := Lib.hid (show Kept wa w1 by rw [hw1]; exact kept_extP _ _)
  have HK1 := Lib.hid (HKa.out.trans HS1.out)
  have HB1 := Lib.hid (HBa.out.kept HS1.out)
  rw [← hw1]
  clear hw1 x0 xl
  have x0 := fun j => (HB1.out).cell j
  have xl := (HB1.out).lt
  go_wp2_with fail
  refine (hkp.out _ (HE.out.kept HK1.out)).mono ?_
  rintro e w1 ⟨rfl, q2, rfl⟩
  obtain ⟨w2, hw2⟩ : ∃ w2, w2 = ext w1 q2 := ⟨_, rfl⟩
  have HS2 := Lib.hid (show Kept w1 w2 by rw [hw2]; exact kept_extP _ _)
  have HK2 := Lib.hid (HK1.out.trans HS2.out)
  have HB2 := Lib.hid (HB1.out.kept HS2.out)
  rw [← hw2]
  clear hw2 x0 xl
  have x0 := fun j => (HB2.out).cell j
  have xl := (HB2.out).lt
  go_wp2_with fail
  refine (hga.out _ (HE.out.kept HK2.out)).mono ?_
  rintro e w1 ⟨rfl, q3, rfl⟩
  obtain ⟨w3, hw3⟩ : ∃ w3, w3 = ext w2 q3 := ⟨_, rfl⟩
  have HS3 := Lib.hid (show Kept w2 w3 by rw [hw3]; exact kept_extP _ _)
  have HK3 := Lib.hid (HK2.out.trans HS3.out)
  have HB3 := Lib.hid (HB2.out.kept HS3.out)
  rw [← hw3]
  clear hw3 x0 xl
  have x0 := fun j => (HB3.out).cell j
  have xl := (HB3.out).lt
  go_wp2_with fail
  clear x0 xl
  go_loopw [8, 9, 10] (fun vd vu vi wr => ∃ i : Nat, i ≤ l.length ∧ vi = .int .i64 (i : Int) ∧ vd = .int .i64 (optI (firstE l (i - T) T)) ∧ vu = .int .i64 (optI (lastE l (min F i))) ∧ Kept w3 wr ∧ ∀ j, F ≤ j → j < T → j < i → emptyAt l j = false) (fun _ _ vi _ => l.length - (intOf vi).toNat)
  case atStart => exact ⟨0, by omega, rfl, by rw [show 0 - T = 0 by omega]; rfl, by rw [show min F 0 = 0 by omega]; rfl, Kept.refl _, fun j _ _ h => by omega⟩
  case round =>
    obtain ⟨i, hi9, rfl, rfl, rfl, hkw, hno⟩ := hrel
    have HX := Lib.hid hkw
    have HN := Lib.hid hno
    have HKw := Lib.hid (HK3.out.trans hkw)
    have HBw := Lib.hid (HB3.out.kept hkw)
    have x0 := fun j => HBw.out.cell j
    have xl := HBw.out.lt
    by_cases hlt : i < l.length
    · have hil : (i : Int) < (l.length : Int) := by omega
      have i0 : (0 : Int) ≤ i := by omega
      obtain ⟨b, o, rfl, hb, hcell⟩ := (HE.out.kept HKw.out).at_ (i) hlt
      obtain ⟨e, hee⟩ : ∃ e, (l)[i]'hlt = e := ⟨_, rfl⟩
      rw [hee] at hcell
      have c0 : wr.cell? ⟨b, o + i * 7, none⟩ = some (.bool e.v) := hcell 0 (by omega)
      have c1 : wr.cell? ⟨b, o + i * 7 + 1, none⟩ = some (.int .u64 (hi e.e.x)) := hcell 1 (by omega)
      have c2 : wr.cell? ⟨b, o + i * 7 + 2, none⟩ = some (.int .u64 (lo e.e.x)) := hcell 2 (by omega)
      have c3 : wr.cell? ⟨b, o + i * 7 + 3, none⟩ = some (.int .u64 (hi e.e.m)) := hcell 3 (by omega)
      have c4 : wr.cell? ⟨b, o + i * 7 + 4, none⟩ = some (.int .u64 (lo e.e.m)) := hcell 4 (by omega)
      have c5 : wr.cell? ⟨b, o + i * 7 + 5, none⟩ = some (.int .i64 e.e.len) := hcell 5 (by omega)
      have c6 : wr.cell? ⟨b, o + i * 7 + 6, none⟩ = some (.int .i64 e.e.act) := hcell 6 (by omega)
      have Hee := Lib.hid hee
      clear hcell hee
      have hea := emptyAt_get hlt
      rw [Hee.out] at hea
      cases hev : e.v
      · rw [hev] at hea c0
        have hea : emptyAt l i = true := hea
        by_cases hiF : i < F
        · have h1 := first_same (l := l) (T := T) (i := i) (.inr (by omega))
          have h2 := last_new hiF hea
          have H1 := Lib.hid h1
          have H2 := Lib.hid (optI_some h2)
          have n1 : ¬ (F : Int) ≤ (i : Int) := by omega
          have n2 : ¬ (T : Int) ≤ (i : Int) := by omega
          have n3 : (i : Int) < (F : Int) := by omega
          have d1 : decide ((F : Int) ≤ (i : Int)) = false := by simp; omega
          have d2 : decide ((T : Int) ≤ (i : Int)) = false := by simp; omega
          clear hkw hno Hee hea hev h1 h2
          go_wp2_with fail
          go_roundw
          case rel => exact ⟨i + 1, by omega, by go_num, by rw [H1.out], by rw [H2.out], HX.out, fun j h1 h2 h3 => by
            rcases Nat.lt_or_ge j i with h4 | h4
            · exact HN.out j h1 h2 h4
            · omega⟩
          case measure => simp [intOf]; try omega
        · by_cases hiT : i < T
          · have hg := first_is (by omega) hiT hea hno
            have hv : insW l x = ([⟨i, ⟨true, x⟩⟩], 0) := by rw [HV.out]; unfold insR2; rw [hg]
            have HV2 := Lib.hid hv
            have n1 : (F : Int) ≤ (i : Int) := by omega
            have n2 : (i : Int) < (T : Int) := by omega
            have d1 : decide ((F : Int) ≤ (i : Int)) = true := by simp; omega
            have d2 : decide ((i : Int) < (T : Int)) = true := by simp; omega
            clear hkw hno Hee hea hev hg hv
            go_wp2_with fail
            rw [HV2.out]
            exact bodyPost_ret (v := .tuple #[.slice (some ⟨wr.heap.size, 0, none⟩) 1 1, .int .i64 0]) (by simp [results, Try.results11, go_sem]) rfl (RetWE.mk HKw.out (own_one _ _ ⟨i, ⟨true, x⟩⟩ (Kept.alloc (Kept.refl _) _) (Nat.le_refl _) (Blk.new' _ _ _ rfl)))
          · have h2 := last_same (l := l) (F := F) (i := i) (.inr (by omega))
            have H2 := Lib.hid h2
            have n1 : (F : Int) ≤ (i : Int) := by omega
            have n2 : ¬ (i : Int) < (T : Int) := by omega
            have n3 : (T : Int) ≤ (i : Int) := by omega
            have n4 : ¬ (i : Int) < (F : Int) := by omega
            have d1 : decide ((F : Int) ≤ (i : Int)) = true := by simp; omega
            have d2 : decide ((i : Int) < (T : Int)) = false := by simp; omega
            have d3 : decide ((T : Int) ≤ (i : Int)) = true := by simp; omega
            cases hdn : firstE l (i - T) T with
            | none =>
              have H1 := Lib.hid (optI_some (first_new hdn (by omega) hea))
              rw [show optI (none : Option Nat) = -1 from rfl]
              clear hkw hno Hee hea hev h2 hdn
              go_wp2_with fail
              go_roundw
              case rel => exact ⟨i + 1, by omega, by go_num, by rw [H1.out], by rw [H2.out], HX.out, fun j h1 h2 h3 => HN.out j h1 h2 (by omega)⟩
              case measure => simp [intOf]; try omega
            | some g =>
              have H1 := Lib.hid (optI_some (first_old hdn))
              rw [show optI (some g) = (g : Int) from rfl]
              have ng : ¬ (g : Int) < 0 := by omega
              have dg : decide ((g : Int) < 0) = false := decide_eq_false (by omega)
              clear hkw hno Hee hea hev h2 hdn
              go_wp2_with fail
              go_roundw
              case rel => exact ⟨i + 1, by omega, by go_num, by rw [H1.out], by rw [H2.out], HX.out, fun j h1 h2 h3 => HN.out j h1 h2 (by omega)⟩
              case measure => simp [intOf]; try omega
      · rw [hev] at hea c0
        have hea : emptyAt l i = false := hea
        have H1 := Lib.hid (first_same (l := l) (T := T) (i := i) (.inl hea))
        have H2 := Lib.hid (last_same (l := l) (F := F) (i := i) (.inl hea))
        have HEA := Lib.hid hea
        clear hkw hno Hee hea hev
        go_wp2_with fail
        go_roundw
        case rel => exact ⟨i + 1, by omega, by go_num, by rw [H1.out], by rw [H2.out], HX.out, fun j h1 h2 h3 => by
          rcases Nat.lt_or_ge j i with h4 | h4
          · exact HN.out j h1 h2 h4
          · have : j = i := by omega
            rw [this]; exact HEA.out⟩
        case measure => simp [intOf]; try omega
    · have hil : i = l.length := by omega
      subst hil
      have hg := first_no (l := l) (F := F) (T := T) fun j h1 h2 => hno j h1 h2 (by omega)
      rw [show min F l.length = F by omega]
      cases hd : firstE l (l.length - T) T with
      | none =>
        cases hu : lastE l F with
        | none =>
          have hv : insW l x = ([], 3) := by rw [HV.out]; unfold insR2; rw [hg, hd, hu]
          have HV2 := Lib.hid hv
          rw [show optI (none : Option Nat) = -1 from rfl]
          clear hkw hno hg hv hd hu hlt
          go_wp2_with fail
          rw [HV2.out]
          exact bodyPost_ret (v := .tuple #[.slice none 0 0, .int .i64 3]) (by simp [results, Try.results11, go_sem]) rfl (RetWE.mk (Kept.refl w) (Own.nil _ _ HKw.out _ _))
        | some u =>
          obtain ⟨u1, u2, u3⟩ := lastE_some l F u hu
          have hv : insW l x = (shiftU l (F - 1) x F u, 0) := by rw [HV.out]; unfold insR2; rw [hg, hd, hu]
          have HV2 := Lib.hid hv
          obtain ⟨P, hP⟩ : ∃ P : Nat, P = F - 1 := ⟨_, rfl⟩
          have hPi : (F : Int) - 1 = (P : Int) := by omega
          have hfa : Falls l (u + 1) (P + 1) := falls_of HKP.out (by omega) (fun j h1 h2 => u3 j (by omega) (by omega))
          have hsu := Lib.hid (fun W (h : Els W (.slice a l.length c) 7 Slot.cells l) => refabovew_any F u P x W h (by omega) (by omega) (by omega) (by omega) hfa (by omega))
          rw [← hP] at HV2
          rw [show optI (none : Option Nat) = -1 from rfl, show optI (some u) = (u : Int) from rfl]
          have nu : ¬ (u : Int) < 0 := by omega
          have du : decide ((u : Int) < 0) = false := decide_eq_false (by omega)
          clear hkw hno hg hv hd hu hlt hP hfa
          obtain ⟨wb, hwb⟩ : ∃ wb, wb = wr := ⟨_, rfl⟩
          go_wp2_with fail
          refine (hsu.out _ (HE.out.kept HKw.out)).mono ?_
          rintro e w8 hR
          obtain ⟨a8, c8, rfl, hlc8, hown8, hels8⟩ := RetEls.out2 Wr.cells_len hR
          have HO8 := Lib.hid hown8
          have HS8 := Lib.hid hown8.1
          have HK8 := Lib.hid (HKw.out.trans HS8.out)
          have HB8 := Lib.hid (HBw.out.kept HS8.out)
          clear hown8 hels8 hR x0 xl
          have x0 := fun j => (HB8.out).cell j
          have xl := (HB8.out).lt
          go_wp2_with fail
          rw [HV2.out]
          exact bodyPost_ret (v := .tuple #[.slice a8 (shiftU l P x F u).length c8, .int .i64 0]) (by simp [results, Try.results11, go_sem]) rfl (RetWE.mk HKw.out HO8.out)
      | some d =>
        obtain ⟨d1, d2, _, d4⟩ := firstE_some l _ _ d hd
        have hfd : Falls l T d := falls_of HKP.out (by omega) (fun j h1 h2 => d4 j h1 h2)
        have hsd := Lib.hid (fun W (h : Els W (.slice a l.length c) 7 Slot.cells l) => refbelow_any d T x W h (by omega) d1 hfd (by omega))
        have hsDl := shiftD_len l T x d d
        obtain ⟨D, hD⟩ : ∃ D, shiftD l T x d d = D := ⟨_, rfl⟩
        rw [hD] at hsd hsDl
        have nd : ¬ (d : Int) < 0 := by omega
        have dd : decide ((d : Int) < 0) = false := decide_eq_false (by omega)
        cases hu : lastE l F with
        | none =>
          have hv : insW l x = (D, 0) := by rw [HV.out]; unfold insR2; rw [hg, hd, hu]; show (shiftD l T x d d, (0 : Int)) = _; rw [hD]
          have HV2 := Lib.hid hv
          rw [show optI (none : Option Nat) = -1 from rfl, show optI (some d) = (d : Int) from rfl]
          clear hkw hno hg hv hd hu hlt hfd hD
          go_wp2_with fail
          refine (hsd.out _ (HE.out.kept HKw.out)).mono ?_
          rintro e w8 hR
          obtain ⟨a8, c8, rfl, hlc8, hown8, hels8⟩ := RetEls.out2 Wr.cells_len hR
          have HO8 := Lib.hid hown8
          have HS8 := Lib.hid hown8.1
          have HK8 := Lib.hid (HKw.out.trans HS8.out)
          have HB8 := Lib.hid (HBw.out.kept HS8.out)
          clear hown8 hels8 hR x0 xl
          have x0 := fun j => (HB8.out).cell j
          have xl := (HB8.out).lt
          go_wp2_with fail
          rw [HV2.out]
          exact bodyPost_ret (v := .tuple #[.slice a8 D.length c8, .int .i64 0]) (by simp [results, Try.results11, go_sem]) rfl (RetWE.mk HKw.out HO8.out)
        | some u =>
          obtain ⟨u1, u2, u3⟩ := lastE_some l F u hu
          obtain ⟨P, hP⟩ : ∃ P : Nat, P = F - 1 := ⟨_, rfl⟩
          have hPi : (F : Int) - 1 = (P : Int) := by omega
          have hfa : Falls l (u + 1) (P + 1) := falls_of HKP.out (by omega) (fun j h1 h2 => u3 j (by omega) (by omega))
          have hsu := Lib.hid (fun W (h : Els W (.slice a l.length c) 7 Slot.cells l) => refabovew_any F u P x W h (by omega) (by omega) (by omega) (by omega) hfa (by omega))
          have hsUl := shiftU_len l P x F u
          obtain ⟨U, hU⟩ : ∃ U, shiftU l P x F u = U := ⟨_, rfl⟩
          rw [hU] at hsu hsUl
          rw [show optI (some u) = (u : Int) from rfl, show optI (some d) = (d : Int) from rfl]
          have u0 : (0 : Int) ≤ u := by omega
          have u0d : decide ((0 : Int) ≤ (u : Int)) = true := by simp
          by_cases hll : U.length < D.length
          · have hv : insW l x = (U, 0) := by rw [HV.out]; unfold insR2; rw [hg, hd, hu]; show (if (shiftU l (F - 1) x F u).length < (shiftD l T x d d).length then (shiftU l (F - 1) x F u, (0 : Int)) else (shiftD l T x d d, 0)) = _; rw [← hP, hU, hD, if_pos hll]
            have HV2 := Lib.hid hv
            have hltd : decide ((U.length : Int) < (D.length : Int)) = true := by simp; omega
            have hlti : (U.length : Int) < (D.length : Int) := by omega
            clear hkw hno hg hv hd hu hlt hfd hD hP hfa hU
            go_wp2_with fail
            refine (hsd.out _ (HE.out.kept HKw.out)).mono ?_
            rintro e w8 hR
            obtain ⟨a8, c8, rfl, hlc8, hown8, hels8⟩ := RetEls.out2 Wr.cells_len hR
            have HO8 := Lib.hid hown8
            have HS8 := Lib.hid hown8.1
            have HK8 := Lib.hid (HKw.out.trans HS8.out)
            have HB8 := Lib.hid (HBw.out.kept HS8.out)
            clear hown8 hels8 hR x0 xl
            have x0 := fun j => (HB8.out).cell j
            have xl := (HB8.out).lt
            go_wp2_with fail
            refine (hsu.out _ (HE.out.kept HK8.out)).mono ?_
            rintro e w9 hR
            obtain ⟨a9, c9, rfl, hlc9, hown9, hels9⟩ := RetEls.out2 Wr.cells_len hR
            have HO9 := Lib.hid hown9
            have HS9 := Lib.hid hown9.1
            have HK9 := Lib.hid (HK8.out.trans HS9.out)
            have HB9 := Lib.hid (HB8.out.kept HS9.out)
            clear hown9 hels9 hR x0 xl
            have x0 := fun j => (HB9.out).cell j
            have xl := (HB9.out).lt
            go_wp2_with fail
            refine (hsu.out _ (HE.out.kept HK9.out)).mono ?_
            rintro e w10 hR
            obtain ⟨a10, c10, rfl, hlc10, hown10, hels10⟩ := RetEls.out2 Wr.cells_len hR
            have HO10 := Lib.hid hown10
            have HS10 := Lib.hid hown10.1
            have HK10 := Lib.hid (HK9.out.trans HS10.out)
            have HB10 := Lib.hid (HB9.out.kept HS10.out)
            clear hown10 hels10 hR x0 xl
            have x0 := fun j => (HB10.out).cell j
            have xl := (HB10.out).lt
            go_wp2_with fail
            rw [HV2.out]
            exact bodyPost_ret (v := .tuple #[.slice a10 U.length c10, .int .i64 0]) (by simp [results, Try.results11, go_sem]) rfl (RetWE.mk HK9.out HO10.out)
          · have hv : insW l x = (D, 0) := by rw [HV.out]; unfold insR2; rw [hg, hd, hu]; show (if (shiftU l (F - 1) x F u).length < (shiftD l T x d d).length then (shiftU l (F - 1) x F u, (0 : Int)) else (shiftD l T x d d, 0)) = _; rw [← hP, hU, hD, if_neg hll]
            have HV2 := Lib.hid hv
            have hltd : decide ((U.length : Int) < (D.length : Int)) = false := by simp; omega
            have hlti : ¬ (U.length : Int) < (D.length : Int) := by omega
            clear hkw hno hg hv hd hu hlt hfd hD hP hfa hU
            go_wp2_with fail
            refine (hsd.out _ (HE.out.kept HKw.out)).mono ?_
            rintro e w8 hR
            obtain ⟨a8, c8, rfl, hlc8, hown8, hels8⟩ := RetEls.out2 Wr.cells_len hR
            have HO8 := Lib.hid hown8
            have HS8 := Lib.hid hown8.1
            have HK8 := Lib.hid (HKw.out.trans HS8.out)
            have HB8 := Lib.hid (HBw.out.kept HS8.out)
            clear hown8 hels8 hR x0 xl
            have x0 := fun j => (HB8.out).cell j
            have xl := (HB8.out).lt
            go_wp2_with fail
            refine (hsu.out _ (HE.out.kept HK8.out)).mono ?_
            rintro e w9 hR
            obtain ⟨a9, c9, rfl, hlc9, hown9, hels9⟩ := RetEls.out2 Wr.cells_len hR
            have HO9 := Lib.hid hown9
            have HS9 := Lib.hid hown9.1
            have HK9 := Lib.hid (HK8.out.trans HS9.out)
            have HB9 := Lib.hid (HB8.out.kept HS9.out)
            clear hown9 hels9 hR x0 xl
            have x0 := fun j => (HB9.out).cell j
            have xl := (HB9.out).lt
            go_wp2_with fail
            rw [HV2.out]
            exact bodyPost_ret (v := .tuple #[.slice a8 D.length c8, .int .i64 0]) (by simp [results, Try.results11, go_sem]) rfl (RetWE.mk HKw.out (HO8.out.step HS9.out))
end Go.Proofs.Ytdlikcdmhgbolaa
