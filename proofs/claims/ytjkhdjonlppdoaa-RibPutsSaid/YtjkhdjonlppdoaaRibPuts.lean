/- RibPuts: a table with a route more, or less, is the document's, and a table; the one that was handed in is not changed. -/
import Derived.Test.YtjkhdjonlppdoaaRows
import Derived.Test.YtjkhdjonlppdoaaLaw6
import Derived.Test.YtjkhdjonlppdoaaKit4
namespace Go.Proofs.Ytjkhdjonlppdoaa
open Go.RowKit Pg Go.ChangeShapes Go.WideShapes Go.ChangeAt

set_option maxHeartbeats 1000000 in
set_option maxRecDepth 100000 in
theorem ribPuts_walk (l : List Rt) (v : Value) (r : Rt) (x : B) (n : Int) (_ : -9223372036854775808 ≤ n) (_ : n ≤ 9223372036854775807) (w : World) (hl : Els w v 4 Rt.cells l) : Calls Try.prog 6 #[v, rv r, pv x n] w (Ret (.bool true) w) := by
  have HE := Lib.hid hl
  obtain ⟨ad, c, rfl, hc, he⟩ := hl.form
  cases htb : tab9B l
  · have HT := Lib.hid (fun W (h : Els W (.slice ad l.length c) 4 Rt.cells l) => law06table_as htb W h)
    clear hl he htb
    go_enter Try.func6, Try.ntmps6
    go_wp2_with fail
    refine (HT.out _ ((HE.out.alloc _).alloc _)).mono ?_
    rintro e w1 ⟨rfl, q1, rfl⟩
    go_wp2_with fail
    refine (awake6_ok _).mono ?_
    rintro e w1 ⟨rfl, q2, rfl⟩
    go_wp2_with fail
    go_ret
    exact Ret.of (rfl) (by simp (maxDischargeDepth := 99))
  · obtain ⟨htab, hn⟩ := tab9B_parts htb
    have hTab := (tab_of htab).1
    have HT := Lib.hid (fun W (h : Els W (.slice ad l.length c) 4 Rt.cells l) => law06table_as htb W h)
    cases hr : rightR 128 r
    · have hrr := Lib.hid (fun W => refrightR_as hr W)
      clear hl he htb htab hTab hr
      go_enter Try.func6, Try.ntmps6
      go_wp2_with fail
      refine (HT.out _ ((HE.out.alloc _).alloc _)).mono ?_
      rintro e w1 ⟨rfl, q1, rfl⟩
      obtain ⟨wz, hwz⟩ : ∃ wz, wz = ext ((w.alloc (.cells #[.int .u64 (hi r.x), .int .u64 (lo r.x), .int .i64 r.n, .int .i64 r.act] 29)).alloc (.cells #[.int .u64 (hi x), .int .u64 (lo x), .int .i64 n] 27)) q1 := ⟨_, rfl⟩
      have HKZ := Lib.hid (show Kept w wz by rw [hwz]; exact (Kept.alloc (Kept.alloc (Kept.refl w) _) _).ext _)
      have HBr := Lib.hid (show Blk wz w.heap.size 29 #[.int .u64 (hi r.x), .int .u64 (lo r.x), .int .i64 r.n, .int .i64 r.act] by rw [hwz]; exact ((Blk.new' w _ _ rfl).alloc _).ext _)
      obtain ⟨r0, r1, r2, r3, rl⟩ := Blk.four HBr.out
      rw [← hwz]
      clear hwz
      go_wp2_with fail
      refine (law06one_any _ _).mono ?_
      rintro e w1 ⟨rfl, q2, rfl⟩
      go_wp2_with fail
      refine (hrr.out _).mono ?_
      rintro e w1 ⟨rfl, q3, rfl⟩
      go_wp2_with fail
      refine (awake6_ok _).mono ?_
      rintro e w1 ⟨rfl, q4, rfl⟩
      go_wp2_with fail
      go_ret
      exact Ret.of (rfl) (by simp (maxDischargeDepth := 99) [HKZ.out])
    · have hrr := Lib.hid (fun W => refrightR_as hr W)
      have hof := Lib.hid (fun W (u : Value) (h : Els W u 4 Rt.cells l) => law06of_any W h (by omega))
      have htP := put_table htab hn hr
      have htD := drop_table htab (fun s => !eqR x n s)
      obtain ⟨P, hP⟩ : ∃ P, putR r l = P := ⟨_, rfl⟩
      have hPl : P.length ≤ 25 := by rw [← hP]; have := putR_len r l; omega
      obtain ⟨D, hD⟩ : ∃ D, (l.filter fun s => !eqR x n s) = D := ⟨_, rfl⟩
      have hDl : D.length ≤ 24 := by rw [← hD]; exact Nat.le_trans (List.length_filter_le _ _) hn
      rw [hP] at htP
      rw [hD] at htD
      have hput := Lib.hid (fun W (u : Value) (h : Els W u 4 Rt.cells l) => show Calls Try.prog 20 #[u, rv r] W (RetEls 29 4 Rt.cells P W) by rw [← hP]; exact ribput_any r W h hTab (by omega))
      have hdrop := Lib.hid (fun W (u : Value) (h : Els W u 4 Rt.cells l) => show Calls Try.prog 29 #[u, pv x n] W (RetEls 29 4 Rt.cells D W) by rw [← hD]; exact ribdrop_any x n W h hTab (by omega))
      have hrput := Lib.hid (fun W (u : Value) (h : Els W u 4 Rt.cells l) => show Calls Try.prog 31 #[u, rv r] W (RetEls 36 4 Rt.cells P W) by rw [← hP]; exact refputR6_any r W h (by omega))
      have hrdrop := Lib.hid (fun W (u : Value) (h : Els W u 4 Rt.cells l) => show Calls Try.prog 32 #[u, pv x n] W (RetEls 36 4 Rt.cells D W) by rw [← hD]; exact refdropR_any x n W h (by omega))
      have hsmP := Lib.hid (fun W (u u' : Value) (h : Els W u 4 Rt.cells P) (h' : Els W u' 4 Rt.cells P) => law06same_any W h h' (by omega))
      have hsmD := Lib.hid (fun W (u u' : Value) (h : Els W u 4 Rt.cells D) (h' : Els W u' 4 Rt.cells D) => law06same_any W h h' (by omega))
      have hsmL := Lib.hid (fun W (u u' : Value) (h : Els W u 4 Rt.cells l) (h' : Els W u' 4 Rt.cells l) => law06same_any W h h' (by omega))
      have htbP := Lib.hid (fun W (u : Value) (h : Els W u 4 Rt.cells P) => ribtable_as htP W h (by omega))
      have htbD := Lib.hid (fun W (u : Value) (h : Els W u 4 Rt.cells D) => ribtable_as htD W h (by omega))
      clear hl he htb htab hTab hr htP htD hP hD
      go_enter Try.func6, Try.ntmps6
      go_wp2_with fail
      refine (HT.out _ ((HE.out.alloc _).alloc _)).mono ?_
      rintro e w1 ⟨rfl, q1, rfl⟩
      obtain ⟨wz, hwz⟩ : ∃ wz, wz = ext ((w.alloc (.cells #[.int .u64 (hi r.x), .int .u64 (lo r.x), .int .i64 r.n, .int .i64 r.act] 29)).alloc (.cells #[.int .u64 (hi x), .int .u64 (lo x), .int .i64 n] 27)) q1 := ⟨_, rfl⟩
      have HKZ := Lib.hid (show Kept w wz by rw [hwz]; exact (Kept.alloc (Kept.alloc (Kept.refl w) _) _).ext _)
      have HBr := Lib.hid (show Blk wz w.heap.size 29 #[.int .u64 (hi r.x), .int .u64 (lo r.x), .int .i64 r.n, .int .i64 r.act] by rw [hwz]; exact ((Blk.new' w _ _ rfl).alloc _).ext _)
      have HBp := Lib.hid (show Blk wz (w.heap.size + 1) 27 #[.int .u64 (hi x), .int .u64 (lo x), .int .i64 n] by rw [hwz]; exact (Blk.new' _ _ _ (by simp)).ext _)
      obtain ⟨r0, r1, r2, r3, rl⟩ := Blk.four HBr.out
      rw [← hwz]
      clear hwz
      go_wp2_with fail
      refine (law06one_any _ _).mono ?_
      rintro e w1 ⟨rfl, q2, rfl⟩
      go_wp2_with fail
      refine (hrr.out _).mono ?_
      rintro e w1 ⟨rfl, q3, rfl⟩
      go_wp2_with fail
      refine (hof.out _ _ (HE.out.kept (HKZ.out.trans (by simp (maxDischargeDepth := 99))))).mono ?_
      rintro e w1 hR
      obtain ⟨a1, c1, rfl, hlc1, hown1, hels1⟩ := RetEls.out2 Rt.cells_len hR
      have HE1 := Lib.hid hels1
      have HK1 := Lib.hid hown1.1
      clear hown1 hels1 hR
      have hz1 : Kept wz w1 := Kept.trans (by simp (maxDischargeDepth := 99)) HK1.out
      have HZ1 := Lib.hid hz1
      have HW1 := Lib.hid (HKZ.out.trans hz1)
      clear r0 r1 r2 r3 rl hz1
      obtain ⟨r0, r1, r2, r3, rl⟩ := Blk.four (HBr.out.kept HZ1.out)
      obtain ⟨p0, p1, p2, pl⟩ := Blk.three (HBp.out.kept HZ1.out)
      go_wp2_with fail
      refine region_seq _ (Later.refl _) mixed (by kernel_rfl) (by kernel_rfl) ?_
      intro q9
      refine seq_named fun W1 hW1 => ?_
      have hC := Lib.hid (show ∃ p, W1 = ext _ p from ⟨q9, hW1⟩)
      clear hW1 q9
      repeat (first | (refine seq_plain (by rfl) ?_; go_big_quiet_step (fail); refine wpQuiet_nil ?_))
      refine seq_move (by rfl) (by rfl) ?_
      go_wp2_with fail
      refine (hput.out _ _ (HE.out.kept (HW1.out.trans (Later.kept hC.out)))).mono ?_
      rintro e w7 hR
      obtain ⟨a7, c7, rfl, hlc7, hown7, hels7⟩ := RetEls.out2 Rt.cells_len hR
      have hkk := kept_on hC (by first | exact .inl rfl | exact .inr ⟨_, rfl⟩) hown7.1
      replace hC := class_kept hC hkk
      have HE7 := Lib.hid hels7
      clear hown7 hels7 hR hkk
      go_wp2_with fail
      refine ⟨_, rfl, hC.out, ?_⟩
      repeat (first | (refine seq_plain (by rfl) ?_; go_big_quiet_step (fail); refine wpQuiet_nil ?_))
      refine seq_move (by rfl) (by rfl) ?_
      go_wp2_with fail
      refine (hdrop.out _ _ (HE.out.kept (HW1.out.trans (Later.kept hC.out)))).mono ?_
      rintro e w8 hR
      obtain ⟨a8, c8, rfl, hlc8, hown8, hels8⟩ := RetEls.out2 Rt.cells_len hR
      have hkk := kept_on hC (by first | exact .inl rfl | exact .inr ⟨_, rfl⟩) hown8.1
      replace hC := class_kept hC hkk
      have HE8 := Lib.hid hels8
      replace HE7 := Lib.hid (HE7.out.kept hkk)
      clear hown8 hels8 hR hkk
      go_wp2_with fail
      refine ⟨_, rfl, hC.out, ?_⟩
      repeat (first | (refine seq_plain (by rfl) ?_; go_big_quiet_step (fail); refine wpQuiet_nil ?_))
      refine seq_nil ?_
      have hkC := Later.kept hC.out
      clear hC
      have HC8 := Lib.hid hkC
      clear r0 r1 r2 r3 rl p0 p1 p2 pl hkC
      obtain ⟨r0, r1, r2, r3, rl⟩ := Blk.four (HBr.out.kept (HZ1.out.trans HC8.out))
      go_wp2_with fail
      refine (law06one_any _ _).mono ?_
      rintro e w1 ⟨rfl, q9, rfl⟩
      go_wp2_with fail
      refine (hrput.out _ _ (HE1.out.kept (HC8.out.trans (kept_extR _ _)))).mono ?_
      rintro e w9 hR
      obtain ⟨a9, c9, rfl, hlc9, hown9, hels9⟩ := RetEls.out2 Rt.cells_len hR
      have HE9 := Lib.hid hels9
      have HK9 := Lib.hid hown9.1
      clear hown9 hels9 hR
      go_wp2_with fail
      refine (hsmP.out _ _ _ (HE7.out.kept ((kept_extR _ _).trans HK9.out)) HE9.out).mono ?_
      rintro e w1 ⟨rfl, q10, rfl⟩
      obtain ⟨wy, hwy⟩ : ∃ wy, wy = ext w9 q10 := ⟨_, rfl⟩
      have hky := show Kept w8 wy by rw [hwy]; exact ((kept_extR _ _).trans HK9.out).ext _
      rw [← hwy]
      clear hwy r0 r1 r2 r3 rl
      have HKY := Lib.hid hky
      obtain ⟨p0, p1, p2, pl⟩ := Blk.three (HBp.out.kept (HZ1.out.trans (HC8.out.trans hky)))
      clear hky
      go_wp2_with fail
      refine (law02of_any _ _ _).mono ?_
      rintro e w1 ⟨rfl, q11, rfl⟩
      go_wp2_with fail
      refine (hrdrop.out _ _ (HE1.out.kept (HC8.out.trans (HKY.out.trans (kept_extR _ _))))).mono ?_
      rintro e w12 hR
      obtain ⟨a12, c12, rfl, hlc12, hown12, hels12⟩ := RetEls.out2 Rt.cells_len hR
      have HE12 := Lib.hid hels12
      have HK12 := Lib.hid hown12.1
      clear hown12 hels12 hR
      go_wp2_with fail
      have HK8 := Lib.hid (HKY.out.trans ((kept_extR _ _).trans HK12.out))
      have HKW := Lib.hid (HW1.out.trans (HC8.out.trans HK8.out))
      clear p0 p1 p2 pl
      refine (hsmD.out _ _ _ (HE8.out.kept HK8.out) HE12.out).mono ?_
      rintro e w1 ⟨rfl, q13, rfl⟩
      go_wp2_with fail
      refine (hsmL.out _ _ _ (HE.out.kept (HKW.out.trans (by simp (maxDischargeDepth := 99)))) (HE1.out.kept (HC8.out.trans (HK8.out.trans (by simp (maxDischargeDepth := 99)))))).mono ?_
      rintro e w1 ⟨rfl, q14, rfl⟩
      go_wp2_with fail
      refine (htbP.out _ _ (HE7.out.kept (HK8.out.trans (by simp (maxDischargeDepth := 99))))).mono ?_
      rintro e w1 ⟨rfl, q15, rfl⟩
      go_wp2_with fail
      refine (htbD.out _ _ (HE8.out.kept (HK8.out.trans (by simp (maxDischargeDepth := 99))))).mono ?_
      rintro e w1 ⟨rfl, q16, rfl⟩
      go_wp2_with fail
      refine (awake6_ok _).mono ?_
      rintro e w1 ⟨rfl, q17, rfl⟩
      go_wp2_with fail
      go_ret
      exact Ret.of (rfl) (by simp (maxDischargeDepth := 99) [HKW.out])
set_option maxRecDepth 100000 in
theorem ribPuts_lifted (os : Os) (started : os.Started) (H : Type) (enc : TypeId × Value → H) :
    ReturnsInHanded {} Try.checked os 6 .any (Rows.ribPutsSpec.pre6 enc Try.prog Try.f6 Rows.ribPutsRow.domain false) (Rows.ribPutsSpec.post enc Try.prog Try.f6 false true false false) := by
  refine returnsInHanded_of_change (C := Try.checked) own started (by kernel_rfl) Try.func6
    (ChangeSpec.witness6 (enc := enc) (C := Try.checked) false ⟨#[], #[.slice none 0 0, .agg #[.int .u64 0, .int .u64 0, .int .i64 0, .int .i64 0], .agg #[.int .u64 0, .int .u64 0, .int .i64 0]], []⟩ 8 (by kernel_rfl) (by kernel_rfl) (by kernel_rfl) (by kernel_rfl)) ?_
  intro W base args ds gs before hval0 hW hcnd _
  have hval : ∀ (j : Nat) t v, Try.f6.params[j]? = some t → args[j]? = some v → Value.okWide Try.prog W .any base t v := hval0
  have hW' := hW
  obtain ⟨p, q, hA0, hV, rfl, hfz, hnd⟩ := hW
  obtain ⟨rfl, rfl⟩ := trodVars_none hV
  rw [List.append_nil] at hW'
  have hA : DataW.TrodAll enc Try.prog W 0 (fun _ => true) true Try.f6.params.toList args.toList ds p := hA0
  have hA1 := hA
  rw [Try.params6] at hA1 hval
  obtain ⟨v0, vs0, d0, ds0, p0, q0, hargs, rfl, rfl, h0, r0⟩ := trodAll_cons hA1
  obtain ⟨v1, vs1, d1, ds1, p1, q1, rfl, rfl, rfl, h1, r1⟩ := trodAll_cons r0
  obtain ⟨v2, vs2, d2, ds2, p2, q2, rfl, rfl, rfl, h2, r2⟩ := trodAll_cons r1
  obtain ⟨rfl, rfl, rfl⟩ := trodAll_nil r2
  obtain rfl : args = #[v0, v1, v2] := by cases args; simp_all
  obtain ⟨L0, E0, _⟩ := open_routes (hval 0 _ v0 rfl rfl) h0
  obtain ⟨X1, rfl, _⟩ := open_route (hval 1 _ v1 rfl rfl) h1
  obtain ⟨X2, N2, rfl, a2, b2⟩ := open_prefix (hval 2 _ v2 rfl rfl) h2
  refine (ribPuts_walk L0 v0 X1 X2 N2 a2 b2 W E0).mono fun e W' ⟨he, hg⟩ => ?_
  subst he
  exact ⟨_, rfl, post_true laidOut (by rw [Try.params6]; intro t ht; simp at ht; first | (subst ht; exact ⟨by kernel_rfl, of_decide_eq_true (by kernel_rfl)⟩) | (rcases ht with rfl | rfl <;> exact ⟨by kernel_rfl, of_decide_eq_true (by kernel_rfl)⟩) | (rcases ht with rfl | rfl | rfl <;> exact ⟨by kernel_rfl, of_decide_eq_true (by kernel_rfl)⟩) | (rcases ht with rfl | rfl | rfl | rfl <;> exact ⟨by kernel_rfl, of_decide_eq_true (by kernel_rfl)⟩)) rfl hW' hA rfl (trodAll_cons_mk (shut_bool Try.underlying4 _) trodAll_mk0) (Later.kept hg)⟩

theorem ribPuts_holds : Rows.RibPutsSaid :=
  OpenClaim.holds_of_wide 6 Try.f6 rfl rfl rfl rfl rfl rfl rfl ⟨rfl, rfl, rfl, rfl, rfl⟩ rfl rfl rfl rfl rfl (by kernel_rfl) Try.func6 (by kernel_rfl)
    (of_decide_eq_true (by kernel_rfl)) (by unfold Func.isWrapper; first | (rw [if_pos (by decide +kernel)]; kernel_rfl) | (rw [if_neg (by decide +kernel)]; exact ⟨rfl, rfl⟩))
    (fun os started H enc _ => ribPuts_lifted os started H enc)
#print axioms ribPuts_holds
end Go.Proofs.Ytjkhdjonlppdoaa
