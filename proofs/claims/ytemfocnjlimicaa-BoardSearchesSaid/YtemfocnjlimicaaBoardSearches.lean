/- BoardSearches: the slot that is found for any address is the lowest one of its bank that matches, and what it says is told. -/
import Derived.Test.YtemfocnjlimicaaRows
import Derived.Test.YtemfocnjlimicaaRun2
import Derived.Test.YtemfocnjlimicaaSplit2
import Derived.Test.YtemfocnjlimicaaOpenMoves
namespace Go.Proofs.Ytemfocnjlimicaa
open Go.RowKit Pg Go.ChangeShapes Go.WideShapes Go.ChangeAt

theorem may17_no {k n : Int} (h : ¬ (0 ≤ k ∧ k ≤ 3 ∧ 1 ≤ n ∧ n ≤ 20)) : (decide (0 ≤ k) && (decide (k ≤ 3) && (decide (1 ≤ n) && decide (n ≤ 20)))) = false := by
  rw [Bool.eq_false_iff]
  intro h2
  simp only [Bool.and_eq_true, decide_eq_true_eq] at h2
  exact h ⟨h2.1, h2.2.1, h2.2.2.1, h2.2.2.2⟩
set_option maxHeartbeats 2000000 in
set_option maxRecDepth 100000 in
theorem boardSearches_go {l : List Mv} {v : Value} (k n : Nat) (hk : k ≤ 3) (h1 : 1 ≤ n) (h2 : n ≤ 20) (a : B) (w : World) (hl : Els w v 9 Mv.cells l) (hn : l.length ≤ 30) : Calls Try.prog 3 #[.int .i64 (k : Int), .int .i64 (n : Int), v, av a] w (Ret (.bool true) w) := by
  have HE := Lib.hid hl
  obtain ⟨ad, c, rfl, hc, he⟩ := hl.form
  have g1 : ¬ (30 : Int) < (l.length : Int) := by omega
  have hmay := Lib.hid (fun W => law17may_any k n true (by simp; omega) W)
  obtain ⟨M, hM⟩ : ∃ M, 2 ^ k = M := ⟨_, rfl⟩
  have hrun := Lib.hid (fun W (h : Els W (.slice ad l.length c) 9 Mv.cells l) => run_any k n M hk hM h1 h2 W h hn)
  obtain ⟨i, hi9⟩ : ∃ i, topN a k = i := ⟨_, rfl⟩
  have hiM : i < M := by rw [← hi9, ← hM]; exact topN_lt a k (by omega)
  have hof := Lib.hid (fun W => show Calls Try.prog 10 #[.int .i64 (k : Int), av a] W (Ret (.int .i64 (i : Int)) W) by rw [← hi9]; exact refsof_yes k hk a W)
  have HI := Lib.hid hi9
  obtain ⟨wa, hwa⟩ : ∃ wa, wa = w.alloc (.cells #[.int .u64 (hi a), .int .u64 (lo a)] 25) := ⟨_, rfl⟩
  obtain ⟨ga, hga⟩ : ∃ ga, ga = w.heap.size := ⟨_, rfl⟩
  have HKa := Lib.hid (show Kept w wa by rw [hwa]; exact Kept.alloc (Kept.refl w) _)
  have HBa := Lib.hid (show Blk wa ga 25 #[.int .u64 (hi a), .int .u64 (lo a)] by rw [hwa]; exact Blk.new' w _ _ hga)
  have hM8 : M ≤ 8 := by rw [← hM]; have : k = 0 ∨ k = 1 ∨ k = 2 ∨ k = 3 := by omega
                         rcases this with rfl | rfl | rfl | rfl <;> decide
  clear hl he hn hi9 hM
  go_enter Try.func3, Try.ntmps3
  go_wp2_with fail
  rw [← hwa, ← hga]
  clear hwa hga
  go_wp2_with (first | (go_at_call 7; first | ((refine (calls_in (hmay.out _)).mono ?_); rintro e w1 ⟨rfl, q1, rfl⟩) | ((refine (hmay.out _).mono ?_); rintro e w1 ⟨rfl, q1, rfl⟩)))
  refine (hrun.out _ (HE.out.kept (HKa.out.trans (by simp (maxDischargeDepth := 99))))).mono ?_
  rintro e w1 ⟨s, gb, gp, cap, gw, capw, bs, rs, rfl, hR⟩
  obtain ⟨S, hS⟩ : ∃ S, sumB Bk.c bs = S := ⟨_, rfl⟩
  rw [hS]
  have HR := Lib.hid hR
  have HK1 := Lib.hid ((Kept.trans (by simp (maxDischargeDepth := 99)) hR.board.banks.kept : Kept wa w1))
  have hil : i < bs.length := by rw [hR.len]; exact hiM
  have hrb : i < rs.length := by rw [hR.rlen]; exact hiM
  have hil2 : i < (bs.map Bk.l).length := by rw [List.length_map]; exact hil
  have hb8 : bs.length ≤ 100 := by rw [hR.len]; omega
  obtain ⟨L, hL⟩ : ∃ L, bs[i].l = L := ⟨_, rfl⟩
  have hLk : L.length ≤ 1000 := by rw [← hL, hR.board.size _ (List.getElem_mem hil)]; omega
  have HEL := Lib.hid (show Els w1 rs[i] 7 Slot.cells L by
    have := hR.rows.els i hrb hil2
    rwa [List.getElem_map, hL] at this)
  obtain ⟨ar, cr, hri, hlr, _⟩ := HEL.out.form
  rw [hri] at HEL
  have HCW := Lib.hid (show w1.cell? ⟨gw, i, none⟩ = some (.slice ar L.length cr) by rw [← hri]; exact hR.rows.cell i hrb)
  obtain ⟨f, hf⟩ : ∃ f, idxI (matchS a) L = f := ⟨_, rfl⟩
  obtain ⟨T, hT⟩ : ∃ T, tellS L a = T := ⟨_, rfl⟩
  have hse := Lib.hid (fun W (h : Kept w1 W) => bosearch_any (hR.board.kept h) hk hb8 a i HI.out hil f (by rw [hL]; exact hf))
  have htl := Lib.hid (fun W (h : Kept w1 W) => show Calls Try.prog 13 #[.pointer (some ⟨gb, 0, none⟩), av a] W (Ret (.int .i64 T) W) by
    have := botell_any (hR.board.kept h) hk hb8 a i HI.out hil
    rwa [hL, hT] at this)
  have hfd := Lib.hid (fun W (h : Kept w1 W) => show Calls Try.prog 12 #[.slice ar L.length cr, av a] W (Ret (.int .i64 f) W) by
    have := reffind_any a W (HEL.out.kept h) hLk
    rwa [hf] at this)
  have hrt := Lib.hid (fun W (h : Kept w1 W) => show Calls Try.prog 14 #[.slice ar L.length cr, av a] W (Ret (.int .i64 T) W) by
    have := reftells_any a W (HEL.out.kept h) hLk
    rwa [hT] at this)
  have i0 : (0 : Int) ≤ (i : Int) := by omega
  have i1 : (i : Int) < (M : Int) := by omega
  have HKf := Lib.hid (show Kept w w1 from HKa.out.trans HK1.out)
  obtain ⟨y0, y1, yl⟩ := Blk.two (HBa.out.kept HK1.out)
  have z0' := HCW.out
  have zl := hR.sle.2.1
  clear hR hS hL hri hf hT hil hrb hil2 HEL hrun hmay
  go_wp2_with (first | (go_at_call 10; first | ((refine (calls_in (hof.out _)).mono ?_); rintro e w1 ⟨rfl, q1, rfl⟩) | ((refine (hof.out _).mono ?_); rintro e w1 ⟨rfl, q1, rfl⟩)) | (go_at_call 11; first | ((refine (calls_in (hse.out _ (kept_17 _ _))).mono ?_); rintro e w1 ⟨rfl, q1, rfl⟩) | ((refine (hse.out _ (kept_17 _ _)).mono ?_); rintro e w1 ⟨rfl, q1, rfl⟩)))
  refine region_ext _ (by first | exact Later.ext _ _ | exact Later.refl _) mixed (by kernel_rfl) ?_
  repeat (go_big_quiet_step ((first | (go_at_call 12; exact calls_in (hfd.out _ (kept_17 _ _))))))
  refine wpQuiet_nil ?_
  rintro _ ⟨q, rfl⟩
  go_wp2_with fail
  refine region_ext _ (by first | exact Later.ext _ _ | exact Later.refl _) mixed (by kernel_rfl) ?_
  repeat (go_big_quiet_step ((first | (go_at_call 13; exact calls_in (htl.out _ (kept_17 _ _))) | (go_at_call 14; exact calls_in (hrt.out _ (kept_17 _ _))) | (go_at_call 8; exact calls_in (awake17_ok _)))))
  refine wpQuiet_nil ?_
  rintro _ ⟨q, rfl⟩
  go_wp2_with fail
  go_ret
  exact Ret.of (rfl) (by simp (maxDischargeDepth := 99) [HKf.out])
set_option maxHeartbeats 2000000 in
set_option maxRecDepth 100000 in
theorem boardSearches_walk (k : Int) (_ : -9223372036854775808 ≤ k) (_ : k ≤ 9223372036854775807) (n : Int) (_ : -9223372036854775808 ≤ n) (_ : n ≤ 9223372036854775807) (l : List Mv) (v : Value) (a : B) (w : World) (hl : Els w v 9 Mv.cells l) : Calls Try.prog 3 #[.int .i64 k, .int .i64 n, v, av a] w (Ret (.bool true) w) := by
  by_cases hn : l.length ≤ 30
  · by_cases hm : 0 ≤ k ∧ k ≤ 3 ∧ 1 ≤ n ∧ n ≤ 20
    · obtain ⟨K, rfl⟩ := Int.eq_ofNat_of_zero_le hm.1
      obtain ⟨N, rfl⟩ := Int.eq_ofNat_of_zero_le (show 0 ≤ n by omega)
      exact boardSearches_go K N (by omega) (by omega) (by omega) a w hl hn
    · obtain ⟨ad, c, rfl, hc, he⟩ := hl.form
      have hmay := Lib.hid (fun W => law17may_any k n false (may17_no hm) W)
      have g1 : ¬ (30 : Int) < (l.length : Int) := by omega
      clear hl he hn hm
      go_enter Try.func3, Try.ntmps3
      go_wp2_with (first | (go_at_call 7; first | ((refine (calls_in (hmay.out _)).mono ?_); rintro e w1 ⟨rfl, q1, rfl⟩) | ((refine (hmay.out _).mono ?_); rintro e w1 ⟨rfl, q1, rfl⟩)) | (go_at_call 8; first | ((refine (calls_in (awake17_ok _)).mono ?_); rintro e w1 ⟨rfl, q1, rfl⟩) | ((refine (awake17_ok _).mono ?_); rintro e w1 ⟨rfl, q1, rfl⟩)))
      go_ret
      exact Ret.of (rfl) (by simp (maxDischargeDepth := 99))
  · obtain ⟨ad, c, rfl, hc, he⟩ := hl.form
    have g1 : (30 : Int) < (l.length : Int) := by omega
    clear hl he hn
    go_enter Try.func3, Try.ntmps3
    go_wp2_with (first | (go_at_call 8; first | ((refine (calls_in (awake17_ok _)).mono ?_); rintro e w1 ⟨rfl, q1, rfl⟩) | ((refine (awake17_ok _).mono ?_); rintro e w1 ⟨rfl, q1, rfl⟩)))
    go_ret
    exact Ret.of (rfl) (by simp (maxDischargeDepth := 99))
set_option maxRecDepth 100000 in
theorem boardSearches_lifted (os : Os) (started : os.Started) (H : Type) (enc : TypeId × Value → H) :
    ReturnsInHanded {} Try.checked os 3 .any (Rows.boardSearchesSpec.pre6 enc Try.prog Try.f3 Rows.boardSearchesRow.domain false) (Rows.boardSearchesSpec.post enc Try.prog Try.f3 false true false false) := by
  refine returnsInHanded_of_change (C := Try.checked) own started (by kernel_rfl) Try.func3
    (ChangeSpec.witness6 (enc := enc) (C := Try.checked) false ⟨#[], #[.int .i64 0, .int .i64 0, .slice none 0 0, .agg #[.int .u64 0, .int .u64 0]], []⟩ 8 (by kernel_rfl) (by kernel_rfl) (by kernel_rfl) (by kernel_rfl)) ?_
  intro W base args ds gs before hval0 hW hcnd _
  have hval : ∀ (j : Nat) t v, Try.f3.params[j]? = some t → args[j]? = some v → Value.okWide Try.prog W .any base t v := hval0
  have hW' := hW
  obtain ⟨p, q, hA0, hV, rfl, hfz, hnd⟩ := hW
  obtain ⟨rfl, rfl⟩ := trodVars_none hV
  rw [List.append_nil] at hW'
  have hA : DataW.TrodAll enc Try.prog W 0 (fun _ => true) true Try.f3.params.toList args.toList ds p := hA0
  have hA1 := hA
  rw [Try.params3] at hA1 hval
  obtain ⟨v0, vs0, d0, ds0, p0, q0, hargs, rfl, rfl, h0, r0⟩ := trodAll_cons hA1
  obtain ⟨v1, vs1, d1, ds1, p1, q1, rfl, rfl, rfl, h1, r1⟩ := trodAll_cons r0
  obtain ⟨v2, vs2, d2, ds2, p2, q2, rfl, rfl, rfl, h2, r2⟩ := trodAll_cons r1
  obtain ⟨v3, vs3, d3, ds3, p3, q3, rfl, rfl, rfl, h3, r3⟩ := trodAll_cons r2
  obtain ⟨rfl, rfl, rfl⟩ := trodAll_nil r3
  obtain rfl : args = #[v0, v1, v2, v3] := by cases args; simp_all
  obtain ⟨X0, rfl, rfl, rfl, w0⟩ := open_int Try.underlying3 (hval 0 _ v0 rfl rfl) h0
  obtain ⟨X1, rfl, rfl, rfl, w1⟩ := open_int Try.underlying3 (hval 1 _ v1 rfl rfl) h1
  obtain ⟨L2, E2, _⟩ := open_moves (hval 2 _ v2 rfl rfl) h2
  obtain ⟨X3, rfl⟩ := open_addr (hval 3 _ v3 rfl rfl) h3
  refine (boardSearches_walk X0 (wf_i64' w0).1 (wf_i64' w0).2 X1 (wf_i64' w1).1 (wf_i64' w1).2 L2 v2 X3 W E2).mono fun e W' ⟨he, hg⟩ => ?_
  subst he
  exact ⟨_, rfl, post_true laidOut (by rw [Try.params3]; intro t ht; simp at ht; first | (subst ht; exact ⟨by kernel_rfl, of_decide_eq_true (by kernel_rfl)⟩) | (rcases ht with rfl | rfl <;> exact ⟨by kernel_rfl, of_decide_eq_true (by kernel_rfl)⟩) | (rcases ht with rfl | rfl | rfl <;> exact ⟨by kernel_rfl, of_decide_eq_true (by kernel_rfl)⟩) | (rcases ht with rfl | rfl | rfl | rfl <;> exact ⟨by kernel_rfl, of_decide_eq_true (by kernel_rfl)⟩)) rfl hW' hA rfl (trodAll_cons_mk (shut_bool Try.underlying4 _) trodAll_mk0) (Later.kept hg)⟩

theorem boardSearches_holds : Rows.BoardSearchesSaid :=
  OpenClaim.holds_of_wide 3 Try.f3 rfl rfl rfl rfl rfl rfl rfl ⟨rfl, rfl, rfl, rfl, rfl⟩ rfl rfl rfl rfl rfl (by kernel_rfl) Try.func3 (by kernel_rfl)
    (of_decide_eq_true (by kernel_rfl)) (by unfold Func.isWrapper; first | (rw [if_pos (by decide +kernel)]; kernel_rfl) | (rw [if_neg (by decide +kernel)]; exact ⟨rfl, rfl⟩))
    (fun os started H enc _ => boardSearches_lifted os started H enc)
#print axioms boardSearches_holds
end Go.Proofs.Ytemfocnjlimicaa
