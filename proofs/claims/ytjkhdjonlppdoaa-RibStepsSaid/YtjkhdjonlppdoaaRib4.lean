/- Routes: the reference's Cover, Drop, Put. -/
import Derived.Test.YtjkhdjonlppdoaaRib3
namespace Pg
open Go
theorem bestO_filter (p q : Rt → Bool) (l : List Rt) : bestO p (l.filter q) = bestO (fun s => q s && p s) l := by
  induction l using rev_ind with
  | h0 => rfl
  | hs l r ih =>
    rw [List.filter_append, bestO_snoc]
    cases hq : q r
    · rw [List.filter_cons_of_neg (by simp [hq]), List.filter_nil, List.append_nil, ih]
      simp
    · rw [List.filter_cons_of_pos hq, List.filter_nil, bestO_snoc, ih]
      simp
def insR (r : Rt) : List Rt → List Rt
  | [] => [r]
  | s :: l => if 0 < cmpP s.x s.n r.x r.n then r :: s :: l else s :: insR r l
def insT (r : Rt) (done : Bool) (d : List Rt) : List Rt := if done then d else insR r d
theorem insR_len (r : Rt) : ∀ l : List Rt, (insR r l).length = l.length + 1
  | [] => rfl
  | s :: l => by unfold insR; split <;> simp [insR_len r l]
end Pg
namespace Go.Proofs.Ytjkhdjonlppdoaa
open Go.RowKit Pg

set_option maxHeartbeats 1000000 in
set_option maxRecDepth 100000 in
theorem refcoverR_any {l : List Rt} {v : Value} (x : B) (n : Int) (w : World) (hl : Els w v 4 Rt.cells l) (hT : Tab l) (hn : l.length ≤ 1000) : Calls Try.prog 36 #[v, pv x n] w (Ret (retR (bestO (fun s => decide (s.n < n) && matchR x s) l)) w) := by
  rw [← bestO_filter (matchR x) (fun s => decide (s.n < n)) l]
  have hfl := List.length_filter_le (fun s : Rt => decide (s.n < n)) l
  obtain ⟨o9, ho9⟩ : ∃ o, bestO (matchR x) (l.filter fun s => decide (s.n < n)) = o := ⟨_, rfl⟩
  rw [ho9]
  have hbest := Lib.hid (fun W (u : Value) (h : Els W u 4 Rt.cells (l.filter fun s => decide (s.n < n))) => show Calls Try.prog 26 #[u, av x] W (Ret (retR o9) W) by rw [← ho9]; exact refbestR_any x W h (hT.filter _) (by omega))
  obtain ⟨ad, c, rfl, hc, he⟩ := hl.form
  have HE := Lib.hid he
  clear hl he hT ho9
  go_enter Try.func36, Try.ntmps36
  go_wp2_with fail
  obtain ⟨w1, hw1⟩ : ∃ w1, w1 = (w.alloc (.cells #[.int .u64 (hi x), .int .u64 (lo x), .int .i64 n] 34)).alloc (.cells #[.int .u64 0, .int .u64 0, .int .i64 0, .int .i64 0] 36) := ⟨_, rfl⟩
  have HK1 := Lib.hid (show Kept w w1 by rw [hw1]; exact Kept.alloc (Kept.alloc (Kept.refl w) _) _)
  have HP := Lib.hid (show Blk w1 w.heap.size 34 #[.int .u64 (hi x), .int .u64 (lo x), .int .i64 n] by rw [hw1]; exact (Blk.new' w _ _ rfl).alloc _)
  have HR := Lib.hid (show Blk w1 (w.heap.size + 1) 36 #[.int .u64 0, .int .u64 0, .int .i64 0, .int .i64 0] by rw [hw1]; exact Blk.new' _ _ _ (by simp))
  rw [← hw1]
  clear hw1
  go_loopw [6, 7] (fun vo vk wr => ∃ k : Nat, k ≤ l.length ∧ vk = .int .i64 k ∧ Own w1 wr 36 4 vo ((l.take k).filter fun s => decide (s.n < n)).length (((l.take k).filter fun s => decide (s.n < n)).flatMap Rt.cells)) (fun _ vk _ => l.length - (intOf vk).toNat)
  case atStart => exact ⟨0, by omega, rfl, Own.nil _ _ (Kept.refl _) _ _⟩
  case round =>
    obtain ⟨k, hk, rfl, hown⟩ := hrel
    by_cases hlt : k < l.length
    · obtain ⟨A, hA⟩ : ∃ A, A = (l.take k).filter fun s => decide (s.n < n) := ⟨_, rfl⟩
      rw [← hA] at hown
      have hAl : A.length ≤ 1000 := by rw [hA]; exact Nat.le_trans (List.length_filter_le _ _) (by rw [List.length_take]; omega)
      have HO := Lib.hid hown
      obtain ⟨p0, p1, p2, pl⟩ := Blk.three (HP.out.kept hown.1)
      have hkl : (k : Int) < (l.length : Int) := by omega
      have k0 : (0 : Int) ≤ k := by omega
      have hT := show l.take (k + 1) = l.take k ++ [l[k]] from List.take_succ_eq_append_getElem hlt
      obtain ⟨b, o, rfl, hb, hcell⟩ := (HE.out.kept (HK1.out.trans hown.1)).at_ (k) hlt
      obtain ⟨e, hee⟩ : ∃ e, (l)[k]'hlt = e := ⟨_, rfl⟩
      rw [hee] at hcell
      have c0 : wr.cell? ⟨b, o + k * 4, none⟩ = some (.int .u64 (hi e.x)) := hcell 0 (by omega)
      have c1 : wr.cell? ⟨b, o + k * 4 + 1, none⟩ = some (.int .u64 (lo e.x)) := hcell 1 (by omega)
      have c2 : wr.cell? ⟨b, o + k * 4 + 2, none⟩ = some (.int .i64 e.n) := hcell 2 (by omega)
      have c3 : wr.cell? ⟨b, o + k * 4 + 3, none⟩ = some (.int .i64 e.act) := hcell 3 (by omega)
      have Hee := Lib.hid hee
      clear hcell hee
      rw [Hee.out] at hT
      by_cases hen : e.n < n
      · have HT := Lib.hid (show (l.take (k + 1)).filter (fun s => decide (s.n < n)) = A ++ [e] by rw [hT, hA, List.filter_append, List.filter_cons_of_pos (by simpa using hen)]; rfl)
        have hd : decide (e.n < n) = true := by simp [hen]
        clear hown Hee hT hA
        go_wp2_with fail
        refine region_ext _ (by first | exact Later.ext _ _ | exact Later.refl _) mixed (by kernel_rfl) ?_
        repeat (go_big_quiet_step (fail))
        refine wpQuiet_nil ?_
        rintro _ ⟨q, rfl⟩
        go_wp2_with (first | (at_builtin; refine wpList_push rfl _ _ 40 rfl 36 (.agg #[.int .u64 0, .int .u64 0, .int .i64 0, .int .i64 0]) 4 32 Try.underlying40 info_refroute rfl (by omega) u6 A.length _ rfl ((HO.out.ext _).alloc _) _ 1 1 (Rt.cells e) rfl rfl (heap_alloc_new _ _) (by simp [Rt.cells, Value.oneCell']) (by unfold maxLen; omega) (by omega) ?_; intro v' w1 hown1))
        go_roundw
        case rel => exact ⟨k + 1, by omega, by go_num, by rw [HT.out, List.flatMap_append]; simpa using hown1⟩
        case measure => simp [intOf]; omega
      · have HT := Lib.hid (show (l.take (k + 1)).filter (fun s => decide (s.n < n)) = A by rw [hT, hA, List.filter_append, List.filter_cons_of_neg (by simpa using hen)]; simp)
        have hd : decide (e.n < n) = false := by simp; omega
        clear hown Hee hT hA
        go_wp2_with fail
        refine region_ext _ (by first | exact Later.ext _ _ | exact Later.refl _) mixed (by kernel_rfl) ?_
        repeat (go_big_quiet_step (fail))
        refine wpQuiet_nil ?_
        rintro _ ⟨q, rfl⟩
        go_wp2_with fail
        go_roundw
        case rel => exact ⟨k + 1, by omega, by go_num, by rw [HT.out]; exact HO.out.ext _⟩
        case measure => simp [intOf]; omega
    · have hkl : k = l.length := by omega
      subst hkl
      rw [List.take_length] at hown
      have hels := Own.els Rt.cells_len hown
      obtain ⟨p0, p1, p2, pl⟩ := Blk.three (HP.out.kept hown.1)
      have br := HR.out.kept hown.1
      obtain ⟨r0, r1, r2, r3, rl⟩ := Blk.four br
      have rf := fun i => br.frozen i
      have HK := Lib.hid (HK1.out.trans hown.1)
      have HEL := Lib.hid hels
      clear hown hels hlt hk br
      go_wp2_with fail
      refine (hbest.out _ _ HEL.out).mono ?_
      rintro e9 w9 ⟨rfl, q9, rfl⟩
      go_wp2_with fail
      exact bodyPost_ret (v := retR o9) (by simp [results, Try.results36, go_sem, rv, r0, r1, r2, r3, rl]) rfl (Ret.mk (by simp (maxDischargeDepth := 99) [HK.out]))
set_option maxHeartbeats 1000000 in
set_option maxRecDepth 100000 in
theorem refdropR_any {l : List Rt} {v : Value} (x : B) (n : Int) (w : World) (hl : Els w v 4 Rt.cells l) (hn : l.length ≤ 1000) : Calls Try.prog 32 #[v, pv x n] w (RetEls 36 4 Rt.cells (l.filter fun s => !eqR x n s) w) := by
  obtain ⟨ad, c, rfl, hc, he⟩ := hl.form
  have HE := Lib.hid he
  clear hl he
  go_enter Try.func32, Try.ntmps32
  go_wp2_with fail
  obtain ⟨w1, hw1⟩ : ∃ w1, w1 = w.alloc (.cells #[.int .u64 (hi x), .int .u64 (lo x), .int .i64 n] 34) := ⟨_, rfl⟩
  have HK1 := Lib.hid (show Kept w w1 by rw [hw1]; exact Kept.alloc (Kept.refl w) _)
  have HP := Lib.hid (show Blk w1 w.heap.size 34 #[.int .u64 (hi x), .int .u64 (lo x), .int .i64 n] by rw [hw1]; exact Blk.new' w _ _ rfl)
  rw [← hw1]
  clear hw1
  go_loopw [5, 6] (fun vo vk wr => ∃ k : Nat, k ≤ l.length ∧ vk = .int .i64 k ∧ Own w1 wr 36 4 vo ((l.take k).filter fun s => !eqR x n s).length (((l.take k).filter fun s => !eqR x n s).flatMap Rt.cells)) (fun _ vk _ => l.length - (intOf vk).toNat)
  case atStart => exact ⟨0, by omega, rfl, Own.nil _ _ (Kept.refl _) _ _⟩
  case round =>
    obtain ⟨k, hk, rfl, hown⟩ := hrel
    by_cases hlt : k < l.length
    · obtain ⟨A, hA⟩ : ∃ A, A = (l.take k).filter fun s => !eqR x n s := ⟨_, rfl⟩
      rw [← hA] at hown
      have hAl : A.length ≤ 1000 := by rw [hA]; exact Nat.le_trans (List.length_filter_le _ _) (by rw [List.length_take]; omega)
      have HO := Lib.hid hown
      obtain ⟨p0, p1, p2, pl⟩ := Blk.three (HP.out.kept hown.1)
      have hkl : (k : Int) < (l.length : Int) := by omega
      have k0 : (0 : Int) ≤ k := by omega
      have hT := show l.take (k + 1) = l.take k ++ [l[k]] from List.take_succ_eq_append_getElem hlt
      obtain ⟨b, o, rfl, hb, hcell⟩ := (HE.out.kept (HK1.out.trans hown.1)).at_ (k) hlt
      obtain ⟨e, hee⟩ : ∃ e, (l)[k]'hlt = e := ⟨_, rfl⟩
      rw [hee] at hcell
      have c0 : wr.cell? ⟨b, o + k * 4, none⟩ = some (.int .u64 (hi e.x)) := hcell 0 (by omega)
      have c1 : wr.cell? ⟨b, o + k * 4 + 1, none⟩ = some (.int .u64 (lo e.x)) := hcell 1 (by omega)
      have c2 : wr.cell? ⟨b, o + k * 4 + 2, none⟩ = some (.int .i64 e.n) := hcell 2 (by omega)
      have c3 : wr.cell? ⟨b, o + k * 4 + 3, none⟩ = some (.int .i64 e.act) := hcell 3 (by omega)
      have Hee := Lib.hid hee
      clear hcell hee
      rw [Hee.out] at hT
      clear Hee
      obtain ⟨ex, en, ea⟩ := e
      dsimp only at c0 c1 c2 c3
      by_cases hx : ex = x ∧ en = n
      · have HT := Lib.hid (show (l.take (k + 1)).filter (fun s => !eqR x n s) = A by rw [hT, hA, List.filter_append, List.filter_cons_of_neg (by simp [eqR, hx.1, hx.2])]; simp)
        obtain ⟨h1, h2⟩ := hx
        subst h1 h2
        clear hown hT hA
        go_wp2_with fail
        refine region_ext _ (by first | exact Later.ext _ _ | exact Later.refl _) mixed (by kernel_rfl) ?_
        repeat (go_big_quiet_step (fail))
        refine wpQuiet_nil ?_
        rintro _ ⟨q, rfl⟩
        go_wp2_with fail
        go_roundw
        case rel => exact ⟨k + 1, by omega, by go_num, by rw [HT.out]; exact HO.out.ext _⟩
        case measure => simp [intOf]; omega
      · have HT := Lib.hid (show (l.take (k + 1)).filter (fun s => !eqR x n s) = A ++ [⟨ex, en, ea⟩] by rw [hT, hA, List.filter_append, List.filter_cons_of_pos (by simp only [eqR]; rw [Bool.not_eq_true', Bool.and_eq_false_iff]; rcases Classical.not_and_iff_not_or_not.1 hx with h | h <;> simp [h])]; rfl)
        by_cases hx1 : ex = x
        · subst hx1
          have hn9 : ¬ en = n := fun h => hx ⟨rfl, h⟩
          clear hown hT hA hx
          go_wp2_with fail
          refine region_ext _ (by first | exact Later.ext _ _ | exact Later.refl _) mixed (by kernel_rfl) ?_
          repeat (go_big_quiet_step (fail))
          refine wpQuiet_nil ?_
          rintro _ ⟨q, rfl⟩
          go_wp2_with (first | (at_builtin; refine wpList_push rfl _ _ 40 rfl 36 (.agg #[.int .u64 0, .int .u64 0, .int .i64 0, .int .i64 0]) 4 32 Try.underlying40 info_refroute rfl (by omega) u5 A.length _ rfl ((HO.out.ext _).alloc _) _ 1 1 (Rt.cells ⟨ex, en, ea⟩) rfl rfl (heap_alloc_new _ _) (by simp [Rt.cells, Value.oneCell']) (by unfold maxLen; omega) (by omega) ?_; intro v' w1 hown1))
          go_roundw
          case rel => exact ⟨k + 1, by omega, by go_num, by rw [HT.out, List.flatMap_append]; simpa using hown1⟩
          case measure => simp [intOf]; omega
        · clear hown hT hA hx
          go_wp2_with fail
          refine region_ext _ (by first | exact Later.ext _ _ | exact Later.refl _) mixed (by kernel_rfl) ?_
          repeat (go_big_quiet_step (fail))
          refine wpQuiet_nil ?_
          rintro _ ⟨q, rfl⟩
          go_wp2_with (first | (at_builtin; refine wpList_push rfl _ _ 40 rfl 36 (.agg #[.int .u64 0, .int .u64 0, .int .i64 0, .int .i64 0]) 4 32 Try.underlying40 info_refroute rfl (by omega) u5 A.length _ rfl ((HO.out.ext _).alloc _) _ 1 1 (Rt.cells ⟨ex, en, ea⟩) rfl rfl (heap_alloc_new _ _) (by simp [Rt.cells, Value.oneCell']) (by unfold maxLen; omega) (by omega) ?_; intro v' w1 hown1))
          go_roundw
          case rel => exact ⟨k + 1, by omega, by go_num, by rw [HT.out, List.flatMap_append]; simpa using hown1⟩
          case measure => simp [intOf]; omega
    · have hkl : k = l.length := by omega
      subst hkl
      rw [List.take_length] at hown
      have HO := Lib.hid hown
      clear hown hlt hk
      go_wp2_with fail
      go_ret
      exact RetEls.mk HK1.out HO.out
end Go.Proofs.Ytjkhdjonlppdoaa
