/- Routes: rib.Under; the reference's Under, Chain. -/
import Derived.Test.YtjkhdjonlppdoaaMathR2
import Derived.Test.YtjkhdjonlppdoaaRib6
namespace Go.Proofs.Ytjkhdjonlppdoaa
open Go.RowKit Pg

def keepU (x : B) (n : Int) (s : Rt) : Bool := eqR x n s || !coversB x n s.x s.n
theorem keepU_not (x : B) (n : Int) : (fun s => !keepU x n s) = fun s => !eqR x n s && coversB x n s.x s.n := by
  funext s; unfold keepU; cases eqR x n s <;> cases coversB x n s.x s.n <;> rfl
set_option maxHeartbeats 1000000 in
set_option maxRecDepth 100000 in
theorem under1_gives (x : B) (n : Int) (g : Nat) (w : World) (h : Blk w g 27 #[.int .u64 (hi x), .int .u64 (lo x), .int .i64 n]) : GivesRt 55 #[.pointer (some ⟨g, 0, none⟩)] (keepU x n) w := by
  intro W e hkw
  obtain ⟨c0, c1, c2, hlt⟩ := Blk.three (h.kept hkw)
  show Calls Try.prog 55 #[rv e, .pointer (some ⟨g, 0, none⟩)] W (Ret (.bool (keepU x n e)) W)
  clear h hkw
  obtain ⟨ex, en, ea⟩ := e
  by_cases hx : ex = x
  · subst hx
    by_cases hn : en = n
    · subst hn
      have HV := Lib.hid (show keepU ex en ⟨ex, en, ea⟩ = true by simp [keepU, eqR])
      go_enter Try.func55, Try.ntmps55
      go_wp2_with fail
      go_ret
      exact Ret.of (by rw [HV.out]; rfl) (by simp (maxDischargeDepth := 99))
    · have HV := Lib.hid (show keepU ex n ⟨ex, en, ea⟩ = !coversB ex n ex en by simp [keepU, eqR, hn])
      go_enter Try.func55, Try.ntmps55
      go_wp2_with (first | (go_at_call 44; first | ((refine (calls_in (covers_any _ _ _ _ _)).mono ?_); rintro e w1 ⟨rfl, q1, rfl⟩) | ((refine (covers_any _ _ _ _ _).mono ?_); rintro e w1 ⟨rfl, q1, rfl⟩)))
      go_ret
      exact Ret.of (by rw [HV.out]; rfl) (by simp (maxDischargeDepth := 99))
  · have HV := Lib.hid (show keepU x n ⟨ex, en, ea⟩ = !coversB x n ex en by simp [keepU, eqR, hx])
    go_enter Try.func55, Try.ntmps55
    go_wp2_with (first | (go_at_call 44; first | ((refine (calls_in (covers_any _ _ _ _ _)).mono ?_); rintro e w1 ⟨rfl, q1, rfl⟩) | ((refine (covers_any _ _ _ _ _).mono ?_); rintro e w1 ⟨rfl, q1, rfl⟩)))
    go_ret
    exact Ret.of (by rw [HV.out]; rfl) (by simp (maxDischargeDepth := 99))
set_option maxHeartbeats 1000000 in
set_option maxRecDepth 100000 in
theorem ribunder_any {l : List Rt} {v : Value} (x : B) (n : Int) (w : World) (hl : Els w v 4 Rt.cells l) (hn : l.length ≤ 1000) : Calls Try.prog 37 #[v, pv x n] w (RetEls 29 4 Rt.cells (underL l x n) w) := by
  have hcl := Lib.hid (fun W (h' : Els W v 4 Rt.cells l) => cloneRt_any W h' (by omega))
  have HD := Lib.hid (fun W0 W u (h : Own W0 W 29 4 u l.length (l.flatMap Rt.cells)) (g : Nat) (hB : Blk W0 g 27 #[.int .u64 (hi x), .int .u64 (lo x), .int .i64 n]) => deleteFuncRt_any (keepU x n) 55 #[.pointer (some ⟨g, 0, none⟩)] W0 W h (by omega) (enters_of Try.func55 (by kernel_rfl) rfl) (under1_gives x n g W0 hB))
  have HE := Lib.hid hl
  obtain ⟨ad, cap, rfl, hcap, he⟩ := hl.form
  clear hl he
  go_enter Try.func37, Try.ntmps37
  go_wp2_with fail
  have HB := Lib.hid (Blk.new' w 27 #[.int .u64 (hi x), .int .u64 (lo x), .int .i64 n] rfl)
  refine (hcl.out _ (HE.out.alloc _)).mono ?_
  rintro e w2 ⟨v2, rfl, ho2⟩
  have HO2 := Lib.hid ho2
  clear ho2
  go_wp2_with fail
  refine (HD.out _ _ _ HO2.out _ HB.out).mono ?_
  rintro e w3 ⟨v3, rfl, ho3⟩
  rw [keepU_not] at ho3
  have HO3 := Lib.hid ho3
  clear ho3
  go_wp2_with fail
  go_ret
  exact RetEls.mk ((Kept.refl w).alloc _) HO3.out
set_option maxHeartbeats 1000000 in
set_option maxRecDepth 100000 in
theorem refunderR_any {l : List Rt} {v : Value} (x : B) (n : Int) (w : World) (hl : Els w v 4 Rt.cells l) (hn : l.length ≤ 1000) : Calls Try.prog 38 #[v, pv x n] w (RetEls 36 4 Rt.cells (underL l x n) w) := by
  unfold underL
  have hfl := List.length_filter_le (fun s : Rt => !eqR x n s && coversB x n s.x s.n) l
  obtain ⟨ad, c, rfl, hc, he⟩ := hl.form
  have HE := Lib.hid he
  clear hl he
  go_enter Try.func38, Try.ntmps38
  go_wp2_with fail
  obtain ⟨w1, hw1⟩ : ∃ w1, w1 = w.alloc (.cells #[.int .u64 (hi x), .int .u64 (lo x), .int .i64 n] 34) := ⟨_, rfl⟩
  have HK1 := Lib.hid (show Kept w w1 by rw [hw1]; exact Kept.alloc (Kept.refl w) _)
  have HP := Lib.hid (show Blk w1 w.heap.size 34 #[.int .u64 (hi x), .int .u64 (lo x), .int .i64 n] by rw [hw1]; exact (Blk.new' w _ _ rfl))
  rw [← hw1]
  clear hw1
  go_loopw [5, 6] (fun vo vk wr => ∃ k : Nat, k ≤ l.length ∧ vk = .int .i64 k ∧ Own w1 wr 36 4 vo ((l.take k).filter fun s => !eqR x n s && coversB x n s.x s.n).length (((l.take k).filter fun s => !eqR x n s && coversB x n s.x s.n).flatMap Rt.cells)) (fun _ vk _ => l.length - (intOf vk).toNat)
  case atStart => exact ⟨0, by omega, rfl, Own.nil _ _ (Kept.refl _) _ _⟩
  case round =>
    obtain ⟨k, hk, rfl, hown⟩ := hrel
    by_cases hlt : k < l.length
    · obtain ⟨A, hA⟩ : ∃ A, A = (l.take k).filter fun s => !eqR x n s && coversB x n s.x s.n := ⟨_, rfl⟩
      rw [← hA] at hown
      have hAl : A.length ≤ l.length := by rw [hA]; exact Nat.le_trans (List.length_filter_le _ _) (by rw [List.length_take]; omega)
      have HO := Lib.hid hown
      have hkl : (k : Int) < (l.length : Int) := by omega
      have k0 : (0 : Int) ≤ k := by omega
      have hT := show l.take (k + 1) = l.take k ++ [l[k]] from List.take_succ_eq_append_getElem hlt
      obtain ⟨b, o, rfl, hb, hcell⟩ := (HE.out.kept (HK1.out.trans hown.1)).at_ (k) hlt
      obtain ⟨e, hee⟩ : ∃ e, (l)[k]'hlt = e := ⟨_, rfl⟩
      rw [hee] at hcell
      have c0 : wr.cell? ⟨b, o + k * 4, none⟩ = some (.int .u64 (hi e.x)) := hcell 0 (by omega)
      have c1 : wr.cell? ⟨b, o + k * 4 + 1, none⟩ = some (.int .u64 (lo e.x)) := hcell 1 (by omega)
      have c2 : wr.cell? ⟨b, o + k * 4 + 2, none⟩ = some (.int .i64 e.n) := hcell 2 (by omega)
      have c3 : wr.cell? ⟨b, o + k * 4 + 3, none⟩ = some (.int .i64 e.act) := hcell 3 (by omega)
      have Hee := Lib.hid hee
      clear hcell hee
      rw [Hee.out] at hT
      have hT2 : (l.take (k + 1)).filter (fun s => !eqR x n s && coversB x n s.x s.n) = A ++ [e].filter (fun s => !eqR x n s && coversB x n s.x s.n) := by rw [hT, hA, List.filter_append]
      obtain ⟨p0, p1, p2, pl⟩ := Blk.three (HP.out.kept hown.1)
      obtain ⟨cv, hcv⟩ : ∃ cv, coversB x n e.x e.n = cv := ⟨_, rfl⟩
      have HC := Lib.hid (refcovers_as hcv)
      obtain ⟨ex, en, ea⟩ := e
      dsimp only at c0 c1 c2 c3
      by_cases hx : ex = x ∧ en = n
      · have HT := Lib.hid (show (l.take (k + 1)).filter (fun s => !eqR x n s && coversB x n s.x s.n) = A by rw [hT2, List.filter_cons_of_neg (by simp [eqR, hx.1, hx.2])]; simp)
        obtain ⟨h1, h2⟩ := hx
        subst h1 h2
        clear hown hT hT2 hA Hee hcv
        go_wp2_with fail
        refine region_ext _ (by first | exact Later.ext _ _ | exact Later.refl _) mixed (by kernel_rfl) ?_
        repeat (go_big_quiet_step ((first | (go_at_call 56; exact calls_in (HC.out _)))))
        refine wpQuiet_nil ?_
        rintro _ ⟨q, rfl⟩
        go_wp2_with fail
        go_roundw
        case rel => exact ⟨k + 1, by omega, by go_num, by rw [HT.out]; exact HO.out.ext _⟩
        case measure => simp [intOf]; omega
      · have hne : (!eqR x n ⟨ex, en, ea⟩) = true := notEq_iff.2 hx
        cases cv
        · have HT := Lib.hid (show (l.take (k + 1)).filter (fun s => !eqR x n s && coversB x n s.x s.n) = A by rw [hT2, List.filter_cons_of_neg (by rw [hne, Bool.true_and]; simpa using hcv)]; simp)
          by_cases hx1 : ex = x
          · subst hx1
            have hn9 : ¬ en = n := fun h => hx ⟨rfl, h⟩
            clear hown hT hT2 hA Hee hcv hx hne
            go_wp2_with fail
            refine region_ext _ (by first | exact Later.ext _ _ | exact Later.refl _) mixed (by kernel_rfl) ?_
            repeat (go_big_quiet_step ((first | (go_at_call 56; exact calls_in (HC.out _)))))
            refine wpQuiet_nil ?_
            rintro _ ⟨q, rfl⟩
            go_wp2_with fail
            go_roundw
            case rel => exact ⟨k + 1, by omega, by go_num, by rw [HT.out]; exact HO.out.ext _⟩
            case measure => simp [intOf]; omega
          · clear hown hT hT2 hA Hee hcv hx hne
            go_wp2_with fail
            refine region_ext _ (by first | exact Later.ext _ _ | exact Later.refl _) mixed (by kernel_rfl) ?_
            repeat (go_big_quiet_step ((first | (go_at_call 56; exact calls_in (HC.out _)))))
            refine wpQuiet_nil ?_
            rintro _ ⟨q, rfl⟩
            go_wp2_with fail
            go_roundw
            case rel => exact ⟨k + 1, by omega, by go_num, by rw [HT.out]; exact HO.out.ext _⟩
            case measure => simp [intOf]; omega
        · have HT := Lib.hid (show (l.take (k + 1)).filter (fun s => !eqR x n s && coversB x n s.x s.n) = A ++ [⟨ex, en, ea⟩] by rw [hT2, List.filter_cons_of_pos (by rw [hne, Bool.true_and]; simpa using hcv)]; simp)
          by_cases hx1 : ex = x
          · subst hx1
            have hn9 : ¬ en = n := fun h => hx ⟨rfl, h⟩
            clear hown hT hT2 hA Hee hcv hx hne
            go_wp2_with fail
            refine region_ext _ (by first | exact Later.ext _ _ | exact Later.refl _) mixed (by kernel_rfl) ?_
            repeat (go_big_quiet_step ((first | (go_at_call 56; exact calls_in (HC.out _)))))
            refine wpQuiet_nil ?_
            rintro _ ⟨q, rfl⟩
            go_wp2_with (first | (at_builtin; refine wpList_push rfl _ _ 40 rfl 36 (.agg #[.int .u64 0, .int .u64 0, .int .i64 0, .int .i64 0]) 4 32 Try.underlying40 info_refroute rfl (by omega) u5 A.length _ rfl ((HO.out.ext _).alloc _) _ 1 1 (Rt.cells ⟨ex, en, ea⟩) rfl rfl (heap_alloc_new _ _) (by simp [Rt.cells, Value.oneCell']) (by unfold maxLen; omega) (by omega) ?_; intro v' w1 hown1))
            go_roundw
            case rel => exact ⟨k + 1, by omega, by go_num, by rw [HT.out, List.flatMap_append]; simpa using hown1⟩
            case measure => simp [intOf]; omega
          · clear hown hT hT2 hA Hee hcv hx hne
            go_wp2_with fail
            refine region_ext _ (by first | exact Later.ext _ _ | exact Later.refl _) mixed (by kernel_rfl) ?_
            repeat (go_big_quiet_step ((first | (go_at_call 56; exact calls_in (HC.out _)))))
            refine wpQuiet_nil ?_
            rintro _ ⟨q, rfl⟩
            go_wp2_with (first | (at_builtin; refine wpList_push rfl _ _ 40 rfl 36 (.agg #[.int .u64 0, .int .u64 0, .int .i64 0, .int .i64 0]) 4 32 Try.underlying40 info_refroute rfl (by omega) u5 A.length _ rfl ((HO.out.ext _).alloc _) _ 1 1 (Rt.cells ⟨ex, en, ea⟩) rfl rfl (heap_alloc_new _ _) (by simp [Rt.cells, Value.oneCell']) (by unfold maxLen; omega) (by omega) ?_; intro v' w1 hown1))
            go_roundw
            case rel => exact ⟨k + 1, by omega, by go_num, by rw [HT.out, List.flatMap_append]; simpa using hown1⟩
            case measure => simp [intOf]; omega
    · have hkl : k = l.length := by omega
      subst hkl
      rw [List.take_length] at hown
      have HO := Lib.hid hown
      clear hown hlt hk
      go_wp2_with fail
      go_ret
      exact RetEls.mk HK1.out HO.out
set_option maxHeartbeats 1000000 in
set_option maxRecDepth 100000 in
theorem refchainR_upto (f : Nat) : ∀ {l : List Rt} {v : Value} (w : World) (_ : Els w v 4 Rt.cells l) (_ : Tab l) (_ : l.length ≤ f) (_ : f ≤ 1000), Calls Try.prog 21 #[v] w (Ret (.int .i64 (chainN l : Int)) w) := by
  induction f with
  | zero =>
    intro l v w hl hT hn _
    obtain rfl := List.eq_nil_of_length_eq_zero (Nat.le_zero.1 hn)
    obtain ⟨a, c, rfl, hc, he⟩ := hl.form
    have HV := Lib.hid (show chainN [] = 0 from rfl)
    clear hl he hT
    go_enter Try.func21, Try.ntmps21
    go_wp2_with fail
    go_loopw [3, 4, 5] (fun vn vi _ wr => vn = .int .i64 0 ∧ vi = .int .i64 0 ∧ wr = w) (fun _ _ _ _ => 0)
    case atStart => exact ⟨rfl, rfl, rfl⟩
    case round =>
      obtain ⟨rfl, rfl, rfl⟩ := hrel
      go_wp2_with fail
      go_ret
      exact Ret.of (by rw [HV.out]; rfl) (by simp (maxDischargeDepth := 99))
  | succ f ih =>
    intro l v w hl hT hn hf
    have hun := Lib.hid (fun (r : Rt) W (u : Value) (h : Els W u 4 Rt.cells l) => refunderR_any r.x r.n W h (by omega))
    have hch := Lib.hid (fun (r : Rt) (hr : r ∈ l) W (u : Value) (h : Els W u 4 Rt.cells (underL l r.x r.n)) => ih W h (hT.filter _) (by have := under_len hr; omega) (by omega))
    have hcn := Lib.hid (fun (r : Rt) => show chainN (underL l r.x r.n) ≤ 1000 from Nat.le_trans (chainN_len _ (hT.filter _)) (Nat.le_trans (List.length_filter_le _ _) (by omega)))
    have HCF := Lib.hid (chain_fold hT)
    clear ih hT
    obtain ⟨a, c, rfl, hc, he⟩ := hl.form
    have HE := Lib.hid he
    clear hl he
    go_enter Try.func21, Try.ntmps21
    go_wp2_with fail
    go_loopw [3, 4, 5] (fun vn vi _ wr => ∃ (i N : Nat), i ≤ l.length ∧ vi = .int .i64 i ∧ vn = .int .i64 N ∧ N ≤ 1001 ∧ Kept w wr ∧ (l.take i).foldl (fun n r => max n (1 + chainN (underL l r.x r.n))) 0 = N) (fun _ vi _ _ => l.length - (intOf vi).toNat)
    case atStart => exact ⟨0, 0, by omega, rfl, rfl, by omega, Kept.refl _, rfl⟩
    case round =>
      obtain ⟨i, N, hi9, rfl, rfl, hN, hkw, hfo⟩ := hrel
      have HX := Lib.hid hkw
      by_cases hlt : i < l.length
      · have hil : (i : Int) < (l.length : Int) := by omega
        have i0 : (0 : Int) ≤ i := by omega
        have hT := show l.take (i + 1) = l.take i ++ [l[i]] from List.take_succ_eq_append_getElem hlt
        obtain ⟨b, o, rfl, hb, hcell⟩ := (HE.out.kept hkw).at_ (i) hlt
        obtain ⟨e, hee⟩ : ∃ e, (l)[i]'hlt = e := ⟨_, rfl⟩
        rw [hee] at hcell
        have c0 : wr.cell? ⟨b, o + i * 4, none⟩ = some (.int .u64 (hi e.x)) := hcell 0 (by omega)
        have c1 : wr.cell? ⟨b, o + i * 4 + 1, none⟩ = some (.int .u64 (lo e.x)) := hcell 1 (by omega)
        have c2 : wr.cell? ⟨b, o + i * 4 + 2, none⟩ = some (.int .i64 e.n) := hcell 2 (by omega)
        have c3 : wr.cell? ⟨b, o + i * 4 + 3, none⟩ = some (.int .i64 e.act) := hcell 3 (by omega)
        have Hee := Lib.hid hee
        clear hcell hee
        have hmem : e ∈ l := by rw [← Hee.out]; exact List.getElem_mem hlt
        rw [Hee.out] at hT
        obtain ⟨M, hM⟩ : ∃ M, chainN (underL l e.x e.n) = M := ⟨_, rfl⟩
        have hMl : M ≤ 1000 := by rw [← hM]; exact hcn.out e
        have hfo2 : (l.take (i + 1)).foldl (fun n r => max n (1 + chainN (underL l r.x r.n))) 0 = max N (1 + M) := by rw [hT, List.foldl_append, hfo]; show max N (1 + chainN (underL l e.x e.n)) = _; rw [hM]
        have HF := Lib.hid hfo2
        have HU := Lib.hid (hun.out e)
        have HC := Lib.hid (fun W (u : Value) (h : Els W u 4 Rt.cells (underL l e.x e.n)) => show Calls Try.prog 21 #[u] W (Ret (.int .i64 (M : Int)) W) by rw [← hM]; exact hch.out e hmem W u h)
        clear hkw hfo hfo2 hT Hee hmem hM
        go_wp2_with fail
        refine (HU.out _ _ (HE.out.kept HX.out)).mono ?_
        rintro e w1 hR
        obtain ⟨a1, c1, rfl, hlc1, hown1, hels1⟩ := RetEls.out2 Rt.cells_len hR
        have HE1 := Lib.hid hels1
        have HK1 := Lib.hid hown1.1
        clear hown1 hels1 hR
        go_wp2_with fail
        by_cases hgt : N < 1 + M
        · have hd : decide ((N : Int) < 1 + (M : Int)) = true := by simp; omega
          have hd2 : (N : Int) < 1 + (M : Int) := by omega
          refine (HC.out _ _ HE1.out).mono ?_
          rintro e w1 ⟨rfl, q1, rfl⟩
          go_wp2_with fail
          go_roundw
          case rel => exact ⟨i + 1, 1 + M, by omega, by go_num, by go_num, by omega, (HX.out.trans HK1.out).ext _, by rw [HF.out]; omega⟩
          case measure => simp [intOf]; omega
        · have hd : decide ((N : Int) < 1 + (M : Int)) = false := by simp; omega
          have hd2 : ¬ (N : Int) < 1 + (M : Int) := by omega
          refine (HC.out _ _ HE1.out).mono ?_
          rintro e w1 ⟨rfl, q1, rfl⟩
          go_wp2_with fail
          go_roundw
          case rel => exact ⟨i + 1, N, by omega, by go_num, rfl, by omega, (HX.out.trans HK1.out).ext _, by rw [HF.out]; omega⟩
          case measure => simp [intOf]; omega
      · have hil : i = l.length := by omega
        subst hil
        rw [List.take_length, HCF.out] at hfo
        have HV := Lib.hid hfo
        clear hkw hfo hlt
        go_wp2_with fail
        go_ret
        exact Ret.of (by rw [HV.out]; rfl) (by simp (maxDischargeDepth := 99) [HX.out])
theorem refchainR_any {l : List Rt} {v : Value} (w : World) (hl : Els w v 4 Rt.cells l) (hT : Tab l) (hn : l.length ≤ 1000) : Calls Try.prog 21 #[v] w (Ret (.int .i64 (chainN l : Int)) w) := refchainR_upto l.length w hl hT (Nat.le_refl _) hn
end Go.Proofs.Ytjkhdjonlppdoaa
