/- SplitTells: what is told of any address by its bank's part of a row is what the row tells; a word matches an address of a bank just if it has to do with it. -/
import Derived.Test.YtlmadimnoknheaaRows
import Derived.Test.YtlmadimnoknheaaSplit4
import Derived.Test.YtlmadimnoknheaaBest2
import Derived.Test.YtlmadimnoknheaaOpenEls
import Derived.Test.YtlmadimnoknheaaKit4
namespace Pg
open Go
def bestStep (a : B) (o : Option Ent) (e : Ent) : Option Ent := if matchW e.x e.m a then (match o with
  | none => some e
  | some b => if b.len < e.len then some e else some b) else o
theorem bestF_val (l : List Ent) (a : B) : ∀ k, k ≤ l.length → (bestF l a k).bind (fun b => l[b]?) = (l.take k).foldl (bestStep a) none
  | 0, _ => by simp [bestF]
  | k + 1, hk => by
    have ih := bestF_val l a k (by omega)
    have hkl : k < l.length := by omega
    rw [List.take_succ_eq_append_getElem hkl, List.foldl_append, ← ih, bestF_succ l a k _ (List.getElem?_eq_getElem hkl)]
    simp only [List.foldl_cons, List.foldl_nil]
    unfold bestStep
    cases hm : matchW l[k].x l[k].m a
    · simp
    · simp only [if_true]
      cases hb : bestF l a k with
      | none => simp [hkl]
      | some b =>
        have hbl : b < l.length := by have := bestF_lt (by omega) hb; omega
        simp only [List.getElem?_eq_getElem hbl, Option.map_some, Option.getD_some, Option.bind_some]
        split <;> simp [hkl, hbl]
theorem tellE_val (l : List Ent) (a : B) : tellE l a = ((l.foldl (bestStep a) none).map Ent.act).getD 0 := by
  have h := bestF_val l a l.length (Nat.le_refl _)
  rw [List.take_length] at h
  rw [← h]
  unfold tellE bestE
  cases bestF l a l.length <;> rfl
theorem foldl_filter_step (a : B) (p : Ent → Bool) : ∀ (l : List Ent) (o : Option Ent), (∀ e ∈ l, matchW e.x e.m a = true → p e = true) → (l.filter p).foldl (bestStep a) o = l.foldl (bestStep a) o
  | [], o, _ => rfl
  | e :: l, o, h => by
    have ih := fun o => foldl_filter_step a p l o (fun e he => h e (List.mem_cons_of_mem _ he))
    rw [List.foldl_cons]
    cases hp : p e
    · rw [List.filter_cons_of_neg (by simp [hp]), ih]
      have hm : matchW e.x e.m a = false := by
        cases hm : matchW e.x e.m a
        · rfl
        · rw [h e (List.mem_cons_self ..) hm] at hp; cases hp
      congr 1
      unfold bestStep
      rw [hm]; rfl
    · rw [List.filter_cons_of_pos hp, List.foldl_cons, ih]
theorem tellE_part (k : Nat) (h : k ≤ 3) (l : List Ent) (a : B) : tellE (partL k (topN a k) l) a = tellE l a := by
  rw [tellE_val, tellE_val]
  unfold partL
  rw [foldl_filter_step a _ l none (fun e _ hm => match_meet (by omega) hm)]
def inL (L : List Nat) (j t : Nat) : Bool := (L.take t).contains j
theorem inL_zero (L : List Nat) (j : Nat) : inL L j 0 = false := rfl
theorem inL_succ (L : List Nat) (j t : Nat) (h : t < L.length) : inL L j (t + 1) = (inL L j t || (L[t] == j)) := by
  unfold inL
  rw [List.take_succ_eq_append_getElem h]
  rw [Bool.eq_iff_iff]
  simp only [List.contains_iff_mem, Bool.or_eq_true, List.mem_append, List.mem_singleton, beq_iff_eq]
  exact or_congr Iff.rfl eq_comm
end Pg
namespace Go.Proofs.Ytlmadimnoknheaa
open Go.RowKit Pg Go.ChangeShapes Go.WideShapes Go.ChangeAt

set_option maxHeartbeats 1000000 in
set_option maxRecDepth 100000 in
theorem splitTells_go {l : List Ent} {v : Value} (k : Nat) (h : k ≤ 3) (a : B) (w : World) (hl : Els w v 6 Ent.cells l) (hn : l.length ≤ 30) : Calls Try.prog 7 #[.int .i64 (k : Int), v, av a] w (Ret (.bool true) w) := by
  obtain ⟨ad, c, rfl, hc, he⟩ := hl.form
  have HE := Lib.hid he
  clear hl he
  have hn' : ¬ (30 : Int) < (l.length : Int) := by omega
  have hj := topN_lt a k (by omega)
  have hin0 := Lib.hid (fun (e : Ent) (hm : matchW e.x e.m a = true) => show inL (bankZ k e.x e.m) (topN a k) (bankZ k e.x e.m).length = true by
    unfold inL
    rw [List.take_length, List.contains_iff_mem, bankZ_nat k h]
    exact mem_banksL.2 ⟨hj, match_meet (by omega) hm⟩)
  have htp := tellE_part k h l a
  obtain ⟨P, hP⟩ : ∃ P, partL k (topN a k) l = P := ⟨_, rfl⟩
  have hplen : P.length ≤ 1000 := by rw [← hP]; exact Nat.le_trans (List.length_filter_le _ _) (by omega)
  have hpart := Lib.hid (fun w (hk : Els w (.slice ad l.length c) 6 Ent.cells l) => (by have := part_yes k h (topN a k) hj w hk (by omega); rwa [hP] at this : Calls Try.prog 18 #[.int .i64 (k : Int), .int .i64 ((topN a k : Nat) : Int), .slice ad l.length c] w (RetEls 48 6 Ent.cells P w)))
  rw [hP] at htp
  have hof := Lib.hid (fun w => sof_yes k h a w)
  have h8 := pow_small h
  obtain ⟨M, hM⟩ : ∃ M, 2 ^ k = M := ⟨_, rfl⟩
  have hmany := Lib.hid (fun w => (by have := smany_yes k h w; rwa [hM] at this : Calls Try.prog 12 #[.int .i64 (k : Int)] w (Ret (.int .i64 (M : Int)) w)))
  have hsr := Lib.hid (sright_yes k h)
  rw [hM] at h8 hj
  clear hM hP
  generalize topN a k = J at *
  have hj0 : (0 : Int) ≤ (J : Int) := by omega
  have hd0 : decide ((J : Int) < 0) = false := by simp
  have hdM : decide ((M : Int) ≤ (J : Int)) = false := by simp; omega
  have hdN : decide (M ≤ J) = false := by simp; omega
  obtain ⟨T, hT⟩ : ∃ T, tellE l a = T := ⟨_, rfl⟩
  have htl := Lib.hid (fun w v (hk : Els w v 6 Ent.cells P) => (by have := etell_any a w hk hplen; rwa [htp, hT] at this : Calls Try.prog 23 #[v, av a] w (Ret (.int .i64 T) w)))
  have htr := Lib.hid (fun w v (hk : Els w v 6 Ent.cells l) => (by have := refetell_any a w hk (by omega); rwa [hT] at this : Calls Try.prog 24 #[v, av a] w (Ret (.int .i64 T) w)))
  clear htp hT
  go_enter Try.func7, Try.ntmps7
  go_wp2_with (first | (go_at_call 13; first | ((refine (calls_in (hsr.out _)).mono ?_); rintro e w1 ⟨rfl, q1, rfl⟩) | ((refine (hsr.out _).mono ?_); rintro e w1 ⟨rfl, q1, rfl⟩)) | (go_at_call 14; first | ((refine (calls_in (hof.out _)).mono ?_); rintro e w1 ⟨rfl, q1, rfl⟩) | ((refine (hof.out _).mono ?_); rintro e w1 ⟨rfl, q1, rfl⟩)) | (go_at_call 18; refine (hpart.out _ ((HE.out.alloc _).ext _)).mono ?_; rintro e w1 hR; obtain ⟨a1, c1, rfl, hlc1, hown1, hels1⟩ := RetEls.out2 Ent.cells_len hR; have HP := Lib.hid hels1; have hk1 := Lib.hid hown1.1; clear hown1 hels1 hR))
  have HB := Lib.hid (Blk.kept (Blk.kept (Blk.new' w 24 #[.int .u64 (hi a), .int .u64 (lo a)] (g := w.heap.size) rfl) ((Kept.refl _).ext _)) hk1.out)
  have HK := Lib.hid (show Kept w w1 from Kept.trans ((Kept.alloc (Kept.refl w) _).ext _) hk1.out)
  clear hk1
  obtain ⟨x0, x1, xl⟩ := Blk.two HB.out
  refine region_seq _ (by first | exact Later.ext _ _ | exact Later.refl _) mixed (by kernel_rfl) (by kernel_rfl) ?_
  intro q9
  refine seq_named fun W1 hW1 => ?_
  have hC := Lib.hid (show ∃ p, W1 = ext _ p from ⟨q9, hW1⟩)
  clear hW1 q9
  repeat (first | (refine seq_plain (by rfl) ?_; go_big_quiet_step (fail); refine wpQuiet_nil ?_))
  have hk9 := Lib.hid (show Kept w1 W1 by obtain ⟨p, rfl⟩ := hC.out; exact (Kept.refl _).ext _)
  replace HP := Lib.hid (HP.out.kept hk9.out)
  have HK1 := HK
  replace HK := Lib.hid (HK.out.trans hk9.out)
  clear hk9
  repeat (first | (refine seq_plain (by rfl) ?_; go_big_quiet_step (fail); refine wpQuiet_nil ?_) | (refine seq_move (by rfl) (by rfl) ?_; go_wp2_with (first | (go_at_call 23; first | ((with_reducible refine (calls_in (htl.out _ _ (HP.out.kept (by simp (maxDischargeDepth := 99))))).mono ?_); rintro e w1 ⟨rfl, q1, rfl⟩) | ((with_reducible refine (htl.out _ _ (HP.out.kept (by simp (maxDischargeDepth := 99)))).mono ?_); rintro e w1 ⟨rfl, q1, rfl⟩) | ((with_reducible refine (calls_in (htl.out _ _ HP.out)).mono ?_); rintro e w1 ⟨rfl, q1, rfl⟩) | ((with_reducible refine (htl.out _ _ HP.out).mono ?_); rintro e w1 ⟨rfl, q1, rfl⟩))); refine ⟨_, rfl, (class_kept hC (by first | exact below_ext _ _ | exact Kept.refl _)).out, ?_⟩))
  refine seq_move (by rfl) (by rfl) ?_
  go_wp2_with fail
  refine (law05of_any _ (HE.out.kept (HK.out.ext _)) (by omega)).mono ?_
  rintro e w2 hR
  obtain ⟨a2, c2, rfl, hlc2, hown2, hels2⟩ := RetEls.out2 Ent.cells_len hR
  have hkk := kept_on hC (by first | exact .inl rfl | exact .inr ⟨_, rfl⟩) hown2.1
  replace hC := class_kept hC hkk
  have HE2 := Lib.hid hels2
  clear hown2 hels2 hR hkk
  go_wp2_with fail
  refine ⟨_, rfl, hC.out, ?_⟩
  repeat (first | (refine seq_plain (by rfl) ?_; go_big_quiet_step (fail); refine wpQuiet_nil ?_) | (refine seq_move (by rfl) (by rfl) ?_; go_wp2_with (first | (go_at_call 24; first | ((with_reducible refine (calls_in (htr.out _ _ HE2.out)).mono ?_); rintro e w1 ⟨rfl, q1, rfl⟩) | ((with_reducible refine (htr.out _ _ HE2.out).mono ?_); rintro e w1 ⟨rfl, q1, rfl⟩) | ((with_reducible refine (calls_in (htr.out _ _ HE2.out)).mono ?_); rintro e w1 ⟨rfl, q1, rfl⟩) | ((with_reducible refine (htr.out _ _ HE2.out).mono ?_); rintro e w1 ⟨rfl, q1, rfl⟩)) | (go_at_call 12; first | ((with_reducible refine (calls_in (hmany.out _)).mono ?_); rintro e w1 ⟨rfl, q1, rfl⟩) | ((with_reducible refine (hmany.out _).mono ?_); rintro e w1 ⟨rfl, q1, rfl⟩) | ((with_reducible refine (calls_in (hmany.out _)).mono ?_); rintro e w1 ⟨rfl, q1, rfl⟩) | ((with_reducible refine (hmany.out _).mono ?_); rintro e w1 ⟨rfl, q1, rfl⟩))); refine ⟨_, rfl, (class_kept hC (by first | exact below_ext _ _ | exact Kept.refl _)).out, ?_⟩))
  refine seq_nil ?_
  have hkC := Later.kept hC.out
  clear hC
  have HB2 := Lib.hid (HB.out.kept hkC)
  have HK2 := Lib.hid (HK1.out.trans hkC)
  clear HB x0 x1 xl hkC hlc1 HP HE2 htl htr hmany hof hsr hpart hd0 hdM hdN HK HK1
  go_wp2_with fail
  go_loopw [10, 11, 13, 50] (fun _ _ _ vk wr => ∃ i : Nat, i ≤ l.length ∧ vk = .int .i64 i ∧ Kept w2 wr) (fun _ _ _ k _ => l.length - (intOf k).toNat)
  case atStart => exact ⟨0, by omega, rfl, by simp (maxDischargeDepth := 99)⟩
  case round =>
    obtain ⟨i, hi', rfl, hkw⟩ := hrel
    have HX := Lib.hid hkw
    by_cases hlt : i < l.length
    · obtain ⟨b, o, rfl, hb, hcell⟩ := (HE.out.kept (HK2.out.trans hkw)).at_ (i) hlt
      obtain ⟨e, hee⟩ : ∃ e, (l)[i]'hlt = e := ⟨_, rfl⟩
      rw [hee] at hcell
      have c0 : wr.cell? ⟨b, o + i * 6, none⟩ = some (.int .u64 (hi e.x)) := hcell 0 (by omega)
      have c1 : wr.cell? ⟨b, o + i * 6 + 1, none⟩ = some (.int .u64 (lo e.x)) := hcell 1 (by omega)
      have c2 : wr.cell? ⟨b, o + i * 6 + 2, none⟩ = some (.int .u64 (hi e.m)) := hcell 2 (by omega)
      have c3 : wr.cell? ⟨b, o + i * 6 + 3, none⟩ = some (.int .u64 (lo e.m)) := hcell 3 (by omega)
      have c4 : wr.cell? ⟨b, o + i * 6 + 4, none⟩ = some (.int .i64 e.len) := hcell 4 (by omega)
      have c5 : wr.cell? ⟨b, o + i * 6 + 5, none⟩ = some (.int .i64 e.act) := hcell 5 (by omega)
      have Hee := Lib.hid hee
      clear hcell hee
      have hil : (i : Int) < (l.length : Int) := by omega
      have i0 : (0 : Int) ≤ i := by omega
      have HM := Lib.hid (hin0.out e)
      have hb := Lib.hid (fun w => sbanks_any k e.x e.m w)
      have hbl := bankZ_len k e.x e.m
      generalize bankZ k e.x e.m = L at *
      clear hkw Hee
      go_wp2_with (first | (go_at_call 9; refine (hb.out _).mono ?_; rintro e9 w3 hR; obtain ⟨a3, c3, rfl, hlc3, hown3, hels3⟩ := RetEls.out2 encN_len hR; have HE3 := Lib.hid hels3; have hk3 := Lib.hid hown3.1; clear hown3 hels3 hR))
      have HB3 := Lib.hid (Blk.kept (Blk.new' _ _ _ (g := wr.heap.size) rfl) hk3.out)
      have HA3 := Lib.hid (HB2.out.kept (HX.out.trans (Kept.trans (Kept.alloc (Kept.refl wr) _) hk3.out)))
      have HK3 := Lib.hid (HX.out.trans (Kept.trans (Kept.alloc (Kept.refl wr) _) hk3.out))
      clear hk3 hb
      go_wp2_with fail
      go_loopw [11, 13, 59] (fun vn _ vk w4 => ∃ t : Nat, t ≤ L.length ∧ vk = .int .i64 t ∧ vn = .bool (inL L J t) ∧ Kept w3 w4) (fun _ _ k _ => L.length - (intOf k).toNat)
      case atStart => exact ⟨0, by omega, rfl, by rw [inL_zero], by simp (maxDischargeDepth := 99)⟩
      case round =>
        obtain ⟨t, ht, rfl, rfl, hkw⟩ := hrel
        have HY := Lib.hid hkw
        by_cases hlt : t < L.length
        · obtain ⟨bT, oT, rfl, hbT, hcellT⟩ := (HE3.out.kept hkw).at_ (t) hlt
          obtain ⟨eT, heeT⟩ : ∃ e, (L)[t]'hlt = e := ⟨_, rfl⟩
          rw [heeT] at hcellT
          have cT0 : wr.cell? ⟨bT, oT + t, none⟩ = some (.int .i64 (eT : Int)) := by have := hcellT 0 (by omega); simpa [encN, encI] using this
          have HeeT := Lib.hid heeT
          clear hcellT heeT
          have htl : (t : Int) < (L.length : Int) := by omega
          have t0 : (0 : Int) ≤ t := by omega
          have hs := inL_succ L J t hlt
          rw [HeeT.out] at hs
          clear hkw HeeT HM
          cases hA : inL L J t
          · rw [hA] at hs
            by_cases hEq : eT = J
            · subst hEq
              have HS := Lib.hid (show inL L eT (t + 1) = true by rw [hs]; simp)
              clear hs hA
              go_wp2_with fail
              go_roundw
              case rel => exact ⟨t + 1, by omega, by go_num, by rw [HS.out], HY.out⟩
              case measure => simp [intOf]; omega
            · have HS := Lib.hid (show inL L J (t + 1) = false by rw [hs]; simp [hEq])
              have hne : ((eT : Int) == (J : Int)) = false := by simp; omega
              clear hs hA
              go_wp2_with fail
              go_roundw
              case rel => exact ⟨t + 1, by omega, by go_num, by rw [HS.out], HY.out⟩
              case measure => simp [intOf]; omega
          · rw [hA] at hs
            have HS := Lib.hid (show inL L J (t + 1) = true by rw [hs]; simp)
            clear hs hA
            go_wp2_with fail
            go_roundw
            case rel => exact ⟨t + 1, by omega, by go_num, by rw [HS.out], HY.out⟩
            case measure => simp [intOf]; omega
        · have htl : t = L.length := by omega
          subst htl
          have hB := HB3.out.kept hkw
          have hA := HA3.out.kept hkw
          obtain ⟨a0, a1, al⟩ := Blk.two hA
          have y0 := hB.cell 0
          have y1 := hB.cell 1
          have y2 := hB.cell 2
          have y3 := hB.cell 3
          have yl := hB.lt
          have HZ := Lib.hid (HK3.out.trans hkw)
          clear hA hB hkw hlt
          cases hm : matchW e.x e.m a
          · have HW := Lib.hid (fun w => wmatch_as hm w)
            clear hm HM
            go_wp2_with (first | (go_at_call 25; first | ((refine (calls_in (HW.out _)).mono ?_); rintro e w1 ⟨rfl, q1, rfl⟩) | ((refine (HW.out _).mono ?_); rintro e w1 ⟨rfl, q1, rfl⟩)))
            go_roundw
            case rel => exact ⟨i + 1, by omega, by go_num, HZ.out.ext _⟩
            case measure => simp [intOf]; omega
          · have HW := Lib.hid (fun w => wmatch_as hm w)
            rw [HM.out hm]
            clear hm HM
            go_wp2_with (first | (go_at_call 25; first | ((refine (calls_in (HW.out _)).mono ?_); rintro e w1 ⟨rfl, q1, rfl⟩) | ((refine (HW.out _).mono ?_); rintro e w1 ⟨rfl, q1, rfl⟩)))
            go_roundw
            case rel => exact ⟨i + 1, by omega, by go_num, HZ.out.ext _⟩
            case measure => simp [intOf]; omega
    · have hil : i = l.length := by omega
      subst hil
      have HZ := Lib.hid (HK2.out.trans hkw)
      clear hkw hlt
      go_wp2_with (first | (go_at_call 16; first | ((refine (calls_in (awake16_any _)).mono ?_); rintro e w1 ⟨rfl, q1, rfl⟩) | ((refine (awake16_any _).mono ?_); rintro e w1 ⟨rfl, q1, rfl⟩)))
      go_ret
      exact Ret.of (rfl) (by simp (maxDischargeDepth := 99) [HZ.out])
theorem splitTells_walk (k : Int) (_ : -9223372036854775808 ≤ k) (_ : k ≤ 9223372036854775807) (l : List Ent) (v : Value) (a : B) (w : World) (hl : Els w v 6 Ent.cells l) : Calls Try.prog 7 #[.int .i64 k, v, av a] w (Ret (.bool true) w) := by
  by_cases hn : l.length ≤ 30
  · by_cases h : k < 0 ∨ 3 < k
    · obtain ⟨ad, c, rfl, hc, he⟩ := hl.form
      have hn' : ¬ (30 : Int) < (l.length : Int) := by omega
      have hsr := Lib.hid (sright_no k h)
      clear hl he h
      go_enter Try.func7, Try.ntmps7
      go_wp2_with (first | (go_at_call 13; first | ((refine (calls_in (hsr.out _)).mono ?_); rintro e w1 ⟨rfl, q1, rfl⟩) | ((refine (hsr.out _).mono ?_); rintro e w1 ⟨rfl, q1, rfl⟩)) | (go_at_call 16; first | ((refine (calls_in (awake16_any _)).mono ?_); rintro e w1 ⟨rfl, q1, rfl⟩) | ((refine (awake16_any _).mono ?_); rintro e w1 ⟨rfl, q1, rfl⟩)))
      go_ret
      exact Ret.of (rfl) (by simp (maxDischargeDepth := 99))
    · obtain ⟨n, rfl⟩ := Int.eq_ofNat_of_zero_le (show 0 ≤ k by omega)
      exact splitTells_go n (by omega) a w hl hn
  · obtain ⟨ad, c, rfl, hc, he⟩ := hl.form
    have hn' : (30 : Int) < (l.length : Int) := by omega
    clear hl he hn
    go_enter Try.func7, Try.ntmps7
    go_wp2_with (first | (go_at_call 16; first | ((refine (calls_in (awake16_any _)).mono ?_); rintro e w1 ⟨rfl, q1, rfl⟩) | ((refine (awake16_any _).mono ?_); rintro e w1 ⟨rfl, q1, rfl⟩)))
    go_ret
    exact Ret.of (rfl) (by simp (maxDischargeDepth := 99))
set_option maxRecDepth 100000 in
theorem splitTells_lifted (os : Os) (started : os.Started) (H : Type) (enc : TypeId × Value → H) :
    ReturnsInHanded {} Try.checked os 7 .any (Rows.splitTellsSpec.pre6 enc Try.prog Try.f7 Rows.splitTellsRow.domain false) (Rows.splitTellsSpec.post enc Try.prog Try.f7 false true false false) := by
  refine returnsInHanded_of_change (C := Try.checked) own started (by kernel_rfl) Try.func7
    (ChangeSpec.witness6 (enc := enc) (C := Try.checked) false ⟨#[], #[.int .i64 0, .slice none 0 0, .agg #[.int .u64 0, .int .u64 0]], []⟩ 8 (by kernel_rfl) (by kernel_rfl) (by kernel_rfl) (by kernel_rfl)) ?_
  intro W base args ds gs before hval0 hW hcnd _
  have hval : ∀ (j : Nat) t v, Try.f7.params[j]? = some t → args[j]? = some v → Value.okWide Try.prog W .any base t v := hval0
  have hW' := hW
  obtain ⟨p, q, hA0, hV, rfl, hfz, hnd⟩ := hW
  obtain ⟨rfl, rfl⟩ := trodVars_none hV
  rw [List.append_nil] at hW'
  have hA : DataW.TrodAll enc Try.prog W 0 (fun _ => true) true Try.f7.params.toList args.toList ds p := hA0
  have hA1 := hA
  rw [Try.params7] at hA1 hval
  obtain ⟨v0, vs0, d0, ds0, p0, q0, hargs, rfl, rfl, h0, r0⟩ := trodAll_cons hA1
  obtain ⟨v1, vs1, d1, ds1, p1, q1, rfl, rfl, rfl, h1, r1⟩ := trodAll_cons r0
  obtain ⟨v2, vs2, d2, ds2, p2, q2, rfl, rfl, rfl, h2, r2⟩ := trodAll_cons r1
  obtain ⟨rfl, rfl, rfl⟩ := trodAll_nil r2
  obtain rfl : args = #[v0, v1, v2] := by cases args; simp_all
  obtain ⟨X0, rfl, rfl, rfl, w0⟩ := open_int Try.underlying3 (hval 0 _ v0 rfl rfl) h0
  obtain ⟨L1, E1, _⟩ := open_ents (hval 1 _ v1 rfl rfl) h1
  obtain ⟨X2, rfl⟩ := open_addr (hval 2 _ v2 rfl rfl) h2
  refine (splitTells_walk X0 (wf_i64' w0).1 (wf_i64' w0).2 L1 v1 X2 W E1).mono fun e W' ⟨he, hg⟩ => ?_
  subst he
  exact ⟨_, rfl, post_true laidOut (by rw [Try.params7]; intro t ht; simp at ht; first | (subst ht; exact ⟨by kernel_rfl, of_decide_eq_true (by kernel_rfl)⟩) | (rcases ht with rfl | rfl <;> exact ⟨by kernel_rfl, of_decide_eq_true (by kernel_rfl)⟩) | (rcases ht with rfl | rfl | rfl <;> exact ⟨by kernel_rfl, of_decide_eq_true (by kernel_rfl)⟩) | (rcases ht with rfl | rfl | rfl | rfl <;> exact ⟨by kernel_rfl, of_decide_eq_true (by kernel_rfl)⟩)) rfl hW' hA rfl (trodAll_cons_mk (shut_bool Try.underlying4 _) trodAll_mk0) (Later.kept hg)⟩

theorem splitTells_holds : Rows.SplitTellsSaid :=
  OpenClaim.holds_of_wide 7 Try.f7 rfl rfl rfl rfl rfl rfl rfl ⟨rfl, rfl, rfl, rfl, rfl⟩ rfl rfl rfl rfl rfl (by kernel_rfl) Try.func7 (by kernel_rfl)
    (of_decide_eq_true (by kernel_rfl)) (by unfold Func.isWrapper; first | (rw [if_pos (by decide +kernel)]; kernel_rfl) | (rw [if_neg (by decide +kernel)]; exact ⟨rfl, rfl⟩))
    (fun os started H enc _ => splitTells_lifted os started H enc)
#print axioms splitTells_holds
end Go.Proofs.Ytlmadimnoknheaa
