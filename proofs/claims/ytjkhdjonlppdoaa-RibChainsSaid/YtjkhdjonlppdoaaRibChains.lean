/- RibChains: how many routes cover one another is the document's; with a route more it is as many, or one more. -/
import Derived.Test.YtjkhdjonlppdoaaRows
import Derived.Test.YtjkhdjonlppdoaaLaw6
import Derived.Test.YtjkhdjonlppdoaaUnder
namespace Go.Proofs.Ytjkhdjonlppdoaa
open Go.RowKit Pg Go.ChangeShapes Go.WideShapes Go.ChangeAt

set_option maxHeartbeats 1000000 in
set_option maxRecDepth 100000 in
theorem ribChains_walk (l : List Rt) (v : Value) (r : Rt) (w : World) (hl : Els w v 4 Rt.cells l) : Calls Try.prog 4 #[v, rv r] w (Ret (.bool true) w) := by
  have HE := Lib.hid hl
  obtain ⟨ad, c, rfl, hc, he⟩ := hl.form
  cases htb : tab9B l
  · have HT := Lib.hid (fun W (h : Els W (.slice ad l.length c) 4 Rt.cells l) => law06table_as htb W h)
    clear hl he htb
    go_enter Try.func4, Try.ntmps4
    go_wp2_with fail
    refine (HT.out _ (HE.out.alloc _)).mono ?_
    rintro e w1 ⟨rfl, q1, rfl⟩
    go_wp2_with fail
    refine (awake6_ok _).mono ?_
    rintro e w1 ⟨rfl, q2, rfl⟩
    go_wp2_with fail
    go_ret
    exact Ret.of (rfl) (by simp (maxDischargeDepth := 99))
  · obtain ⟨htab, hn⟩ := tab9B_parts htb
    have hTab := (tab_of htab).1
    have HT := Lib.hid (fun W (h : Els W (.slice ad l.length c) 4 Rt.cells l) => law06table_as htb W h)
    by_cases h12 : l.length ≤ 12
    · have g1 : ¬ (12 : Int) < (l.length : Int) := by omega
      have g2 : decide ((12 : Int) < (l.length : Int)) = false := by simp; omega
      cases hr : rightR 128 r
      · have hrr := Lib.hid (fun W => refrightR_as hr W)
        clear hl he htb htab hTab hr
        go_enter Try.func4, Try.ntmps4
        go_wp2_with fail
        refine (HT.out _ (HE.out.alloc _)).mono ?_
        rintro e w1 ⟨rfl, q1, rfl⟩
        obtain ⟨wz, hwz⟩ : ∃ wz, wz = ext (w.alloc (.cells #[.int .u64 (hi r.x), .int .u64 (lo r.x), .int .i64 r.n, .int .i64 r.act] 29)) q1 := ⟨_, rfl⟩
        have HKZ := Lib.hid (show Kept w wz by rw [hwz]; exact (Kept.alloc (Kept.refl w) _).ext _)
        have HBr := Lib.hid (show Blk wz w.heap.size 29 #[.int .u64 (hi r.x), .int .u64 (lo r.x), .int .i64 r.n, .int .i64 r.act] by rw [hwz]; exact (Blk.new' w _ _ rfl).ext _)
        obtain ⟨r0, r1, r2, r3, rl⟩ := Blk.four HBr.out
        rw [← hwz]
        clear hwz
        go_wp2_with fail
        refine (law06one_any _ _).mono ?_
        rintro e w1 ⟨rfl, q2, rfl⟩
        go_wp2_with fail
        refine (hrr.out _).mono ?_
        rintro e w1 ⟨rfl, q3, rfl⟩
        go_wp2_with fail
        refine (awake6_ok _).mono ?_
        rintro e w1 ⟨rfl, q4, rfl⟩
        go_wp2_with fail
        go_ret
        exact Ret.of (rfl) (by simp (maxDischargeDepth := 99) [HKZ.out])
      · have hrr := Lib.hid (fun W => refrightR_as hr W)
        have hpt := right_px hr
        have hcl := chain_put hTab hpt
        have hTp := putR_tab hTab hpt
        obtain ⟨P, hP⟩ : ∃ P, putR r l = P := ⟨_, rfl⟩
        have hPl : P.length ≤ 25 := by rw [← hP]; have := putR_len r l; omega
        rw [hP] at hcl hTp
        obtain ⟨n1, hn1⟩ : ∃ n, chainN l = n := ⟨_, rfl⟩
        obtain ⟨n2, hn2⟩ : ∃ n, chainN P = n := ⟨_, rfl⟩
        have hn1l : n1 ≤ 24 := by rw [← hn1]; exact Nat.le_trans (chainN_len l hTab) hn
        rw [hn1, hn2] at hcl
        have hch := Lib.hid (fun W (u : Value) (h : Els W u 4 Rt.cells l) => show Calls Try.prog 19 #[u] W (Ret (.int .i64 (n1 : Int)) W) by rw [← hn1]; exact ribchain_any W h hTab (by omega))
        have hch2 := Lib.hid (fun W (u : Value) (h : Els W u 4 Rt.cells P) => show Calls Try.prog 19 #[u] W (Ret (.int .i64 (n2 : Int)) W) by rw [← hn2]; exact ribchain_any W h hTp (by omega))
        have hrc := Lib.hid (fun W (u : Value) (h : Els W u 4 Rt.cells l) => show Calls Try.prog 21 #[u] W (Ret (.int .i64 (n1 : Int)) W) by rw [← hn1]; exact refchainR_any W h hTab (by omega))
        have hput := Lib.hid (fun W (u : Value) (h : Els W u 4 Rt.cells l) => show Calls Try.prog 20 #[u, rv r] W (RetEls 29 4 Rt.cells P W) by rw [← hP]; exact ribput_any r W h hTab (by omega))
        have hof := Lib.hid (fun W (u : Value) (h : Els W u 4 Rt.cells l) => law06of_any W h (by omega))
        clear hl he htb htab hTab hr hpt hTp hP hn1 hn2
        go_enter Try.func4, Try.ntmps4
        go_wp2_with fail
        refine (HT.out _ (HE.out.alloc _)).mono ?_
        rintro e w1 ⟨rfl, q1, rfl⟩
        obtain ⟨wz, hwz⟩ : ∃ wz, wz = ext (w.alloc (.cells #[.int .u64 (hi r.x), .int .u64 (lo r.x), .int .i64 r.n, .int .i64 r.act] 29)) q1 := ⟨_, rfl⟩
        have HKZ := Lib.hid (show Kept w wz by rw [hwz]; exact (Kept.alloc (Kept.refl w) _).ext _)
        have HBr := Lib.hid (show Blk wz w.heap.size 29 #[.int .u64 (hi r.x), .int .u64 (lo r.x), .int .i64 r.n, .int .i64 r.act] by rw [hwz]; exact (Blk.new' w _ _ rfl).ext _)
        obtain ⟨r0, r1, r2, r3, rl⟩ := Blk.four HBr.out
        rw [← hwz]
        clear hwz
        go_wp2_with fail
        refine (law06one_any _ _).mono ?_
        rintro e w1 ⟨rfl, q2, rfl⟩
        go_wp2_with fail
        refine (hrr.out _).mono ?_
        rintro e w1 ⟨rfl, q3, rfl⟩
        go_wp2_with fail
        refine (hch.out _ _ (HE.out.kept (HKZ.out.trans (by simp (maxDischargeDepth := 99))))).mono ?_
        rintro e w1 ⟨rfl, q4, rfl⟩
        obtain ⟨wy, hwy⟩ : ∃ wy, wy = ext (ext (ext wz q2) q3) q4 := ⟨_, rfl⟩
        have hky := show Kept wz wy by rw [hwy]; simp (maxDischargeDepth := 99)
        rw [← hwy]
        clear hwy r0 r1 r2 r3 rl
        have HKY := Lib.hid (HKZ.out.trans hky)
        obtain ⟨r0, r1, r2, r3, rl⟩ := Blk.four (HBr.out.kept hky)
        clear hky
        go_wp2_with fail
        refine (hput.out _ _ (HE.out.kept HKY.out)).mono ?_
        rintro e w5 hR
        obtain ⟨a5, c5, rfl, hlc5, hown5, hels5⟩ := RetEls.out2 Rt.cells_len hR
        have HE5 := Lib.hid hels5
        have HK5 := Lib.hid hown5.1
        clear hown5 hels5 hR
        go_wp2_with fail
        refine (hch2.out _ _ HE5.out).mono ?_
        rintro e w1 ⟨rfl, q6, rfl⟩
        go_wp2_with fail
        refine (hof.out _ _ (HE.out.kept (HKY.out.trans (HK5.out.trans (kept_extR _ _))))).mono ?_
        rintro e w7 hR
        obtain ⟨a7, c7, rfl, hlc7, hown7, hels7⟩ := RetEls.out2 Rt.cells_len hR
        have HE7 := Lib.hid hels7
        have HK7 := Lib.hid hown7.1
        clear hown7 hels7 hR
        go_wp2_with fail
        have HKW := Lib.hid (HKY.out.trans (HK5.out.trans ((kept_extR _ _).trans HK7.out)))
        rcases hcl with hcl | hcl
        · subst hcl
          refine (hrc.out _ _ HE7.out).mono ?_
          rintro e w1 ⟨rfl, q8, rfl⟩
          go_wp2_with fail
          refine (awake6_ok _).mono ?_
          rintro e w1 ⟨rfl, q9, rfl⟩
          go_wp2_with fail
          go_ret
          exact Ret.of (rfl) (by simp (maxDischargeDepth := 99) [HKW.out])
        · subst hcl
          have hne : ((((n1 + 1 : Nat) : Int)) == (n1 : Int)) = false := by rw [beq_eq_false_iff_ne]; omega
          have hne2 : (((n1 : Int) + 1) == (n1 : Int)) = false := by rw [beq_eq_false_iff_ne]; omega
          refine (hrc.out _ _ HE7.out).mono ?_
          rintro e w1 ⟨rfl, q8, rfl⟩
          go_wp2_with fail
          refine (awake6_ok _).mono ?_
          rintro e w1 ⟨rfl, q9, rfl⟩
          go_wp2_with fail
          go_ret
          exact Ret.of (rfl) (by simp (maxDischargeDepth := 99) [HKW.out])
    · have g1 : (12 : Int) < (l.length : Int) := by omega
      have g2 : decide ((12 : Int) < (l.length : Int)) = true := by simp; omega
      clear hl he htb htab hTab
      go_enter Try.func4, Try.ntmps4
      go_wp2_with fail
      refine (HT.out _ (HE.out.alloc _)).mono ?_
      rintro e w1 ⟨rfl, q1, rfl⟩
      go_wp2_with fail
      refine (awake6_ok _).mono ?_
      rintro e w1 ⟨rfl, q2, rfl⟩
      go_wp2_with fail
      go_ret
      exact Ret.of (rfl) (by simp (maxDischargeDepth := 99))
set_option maxRecDepth 100000 in
theorem ribChains_lifted (os : Os) (started : os.Started) (H : Type) (enc : TypeId × Value → H) :
    ReturnsInHanded {} Try.checked os 4 .any (Rows.ribChainsSpec.pre6 enc Try.prog Try.f4 Rows.ribChainsRow.domain false) (Rows.ribChainsSpec.post enc Try.prog Try.f4 false true false false) := by
  refine returnsInHanded_of_change (C := Try.checked) own started (by kernel_rfl) Try.func4
    (ChangeSpec.witness6 (enc := enc) (C := Try.checked) false ⟨#[], #[.slice none 0 0, .agg #[.int .u64 0, .int .u64 0, .int .i64 0, .int .i64 0]], []⟩ 8 (by kernel_rfl) (by kernel_rfl) (by kernel_rfl) (by kernel_rfl)) ?_
  intro W base args ds gs before hval0 hW hcnd _
  have hval : ∀ (j : Nat) t v, Try.f4.params[j]? = some t → args[j]? = some v → Value.okWide Try.prog W .any base t v := hval0
  have hW' := hW
  obtain ⟨p, q, hA0, hV, rfl, hfz, hnd⟩ := hW
  obtain ⟨rfl, rfl⟩ := trodVars_none hV
  rw [List.append_nil] at hW'
  have hA : DataW.TrodAll enc Try.prog W 0 (fun _ => true) true Try.f4.params.toList args.toList ds p := hA0
  have hA1 := hA
  rw [Try.params4] at hA1 hval
  obtain ⟨v0, vs0, d0, ds0, p0, q0, hargs, rfl, rfl, h0, r0⟩ := trodAll_cons hA1
  obtain ⟨v1, vs1, d1, ds1, p1, q1, rfl, rfl, rfl, h1, r1⟩ := trodAll_cons r0
  obtain ⟨rfl, rfl, rfl⟩ := trodAll_nil r1
  obtain rfl : args = #[v0, v1] := by cases args; simp_all
  obtain ⟨L0, E0, _⟩ := open_routes (hval 0 _ v0 rfl rfl) h0
  obtain ⟨X1, rfl, _⟩ := open_route (hval 1 _ v1 rfl rfl) h1
  refine (ribChains_walk L0 v0 X1 W E0).mono fun e W' ⟨he, hg⟩ => ?_
  subst he
  exact ⟨_, rfl, post_true laidOut (by rw [Try.params4]; intro t ht; simp at ht; first | (subst ht; exact ⟨by kernel_rfl, of_decide_eq_true (by kernel_rfl)⟩) | (rcases ht with rfl | rfl <;> exact ⟨by kernel_rfl, of_decide_eq_true (by kernel_rfl)⟩) | (rcases ht with rfl | rfl | rfl <;> exact ⟨by kernel_rfl, of_decide_eq_true (by kernel_rfl)⟩) | (rcases ht with rfl | rfl | rfl | rfl <;> exact ⟨by kernel_rfl, of_decide_eq_true (by kernel_rfl)⟩)) rfl hW' hA rfl (trodAll_cons_mk (shut_bool Try.underlying4 _) trodAll_mk0) (Later.kept hg)⟩

theorem ribChains_holds : Rows.RibChainsSaid :=
  OpenClaim.holds_of_wide 4 Try.f4 rfl rfl rfl rfl rfl rfl rfl ⟨rfl, rfl, rfl, rfl, rfl⟩ rfl rfl rfl rfl rfl (by kernel_rfl) Try.func4 (by kernel_rfl)
    (of_decide_eq_true (by kernel_rfl)) (by unfold Func.isWrapper; first | (rw [if_pos (by decide +kernel)]; kernel_rfl) | (rw [if_neg (by decide +kernel)]; exact ⟨rfl, rfl⟩))
    (fun os started H enc _ => ribChains_lifted os started H enc)
#print axioms ribChains_holds
end Go.Proofs.Ytjkhdjonlppdoaa
