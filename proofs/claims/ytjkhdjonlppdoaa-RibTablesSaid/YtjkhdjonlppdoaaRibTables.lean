/- RibTables: which routes may be, and which rows are tables, is the document's. -/
import Derived.Test.YtjkhdjonlppdoaaRows
import Derived.Test.YtjkhdjonlppdoaaLaw6
import Derived.Test.YtjkhdjonlppdoaaKit4
namespace Go.Proofs.Ytjkhdjonlppdoaa
open Go.RowKit Pg Go.ChangeShapes Go.WideShapes Go.ChangeAt

set_option maxHeartbeats 1000000 in
set_option maxRecDepth 100000 in
theorem ribTables_walk (k : Int) (_ : -9223372036854775808 ≤ k) (_ : k ≤ 9223372036854775807) (l : List Rt) (v : Value) (r : Rt) (w : World) (hl : Els w v 4 Rt.cells l) : Calls Try.prog 3 #[.int .i64 k, v, rv r] w (Ret (.bool true) w) := by
  have HE := Lib.hid hl
  obtain ⟨ad, c, rfl, hc, he⟩ := hl.form
  by_cases hn : l.length ≤ 300
  · obtain ⟨b1, hb1⟩ : ∃ b, rightR k r = b := ⟨_, rfl⟩
    obtain ⟨b2, hb2⟩ : ∃ b, tblB k l = b := ⟨_, rfl⟩
    have h1 := Lib.hid (fun W => ribright_as hb1 W)
    have h2 := Lib.hid (fun W => refrightR_as hb1 W)
    have h3 := Lib.hid (fun W (u : Value) (h : Els W u 4 Rt.cells l) => ribtable_as hb2 W h (by omega))
    have h4 := Lib.hid (fun W (u : Value) (h : Els W u 4 Rt.cells l) => reftable_as hb2 W h (by omega))
    have h5 := Lib.hid (fun W (u : Value) (h : Els W u 4 Rt.cells l) => law06of_any W h (by omega))
    have g1 : ¬ (300 : Int) < (l.length : Int) := by omega
    clear hl he hb1 hb2
    go_enter Try.func3, Try.ntmps3
    go_wp2_with fail
    refine region_seq _ (Later.refl _) mixed (by kernel_rfl) (by kernel_rfl) ?_
    intro q9
    refine seq_named fun W1 hW1 => ?_
    have hC := Lib.hid (show ∃ p, W1 = ext _ p from ⟨q9, hW1⟩)
    clear hW1 q9
    repeat (first | (refine seq_plain (by rfl) ?_; go_big_quiet_step (fail); refine wpQuiet_nil ?_) | (refine seq_move (by rfl) (by rfl) ?_; go_wp2_with (first | (go_at_call 12; first | ((refine (calls_in (h1.out _)).mono ?_); rintro e w1 ⟨rfl, q1, rfl⟩) | ((refine (h1.out _).mono ?_); rintro e w1 ⟨rfl, q1, rfl⟩)) | (go_at_call 14; first | ((refine (calls_in (law06one_any _ _)).mono ?_); rintro e w1 ⟨rfl, q1, rfl⟩) | ((refine (law06one_any _ _).mono ?_); rintro e w1 ⟨rfl, q1, rfl⟩)) | (go_at_call 13; first | ((refine (calls_in (h2.out _)).mono ?_); rintro e w1 ⟨rfl, q1, rfl⟩) | ((refine (h2.out _).mono ?_); rintro e w1 ⟨rfl, q1, rfl⟩)) | (go_at_call 15; first | ((refine (calls_in (h3.out _ _ (HE.out.kept (Kept.trans (Kept.alloc (Kept.refl w) _) (Kept.trans (Later.kept hC.out) (by simp (maxDischargeDepth := 99))))))).mono ?_); rintro e w1 ⟨rfl, q1, rfl⟩) | ((refine (h3.out _ _ (HE.out.kept (Kept.trans (Kept.alloc (Kept.refl w) _) (Kept.trans (Later.kept hC.out) (by simp (maxDischargeDepth := 99)))))).mono ?_); rintro e w1 ⟨rfl, q1, rfl⟩))); refine ⟨_, rfl, (class_kept hC (by first | exact below_ext _ _ | exact Kept.refl _)).out, ?_⟩))
    refine seq_move (by rfl) (by rfl) ?_
    go_wp2_with fail
    refine (h5.out _ _ (HE.out.kept (Kept.trans (Kept.alloc (Kept.refl w) _) (Kept.trans (Later.kept hC.out) (by simp (maxDischargeDepth := 99)))))).mono ?_
    rintro e w4 hR
    obtain ⟨a4, c4, rfl, hlc4, hown4, hels4⟩ := RetEls.out2 Rt.cells_len hR
    have hkk := kept_on hC (by first | exact .inl rfl | exact .inr ⟨_, rfl⟩) hown4.1
    replace hC := class_kept hC hkk
    have HE4 := Lib.hid hels4
    clear hown4 hels4 hR hkk
    go_wp2_with fail
    refine ⟨_, rfl, hC.out, ?_⟩
    repeat (first | (refine seq_plain (by rfl) ?_; go_big_quiet_step (fail); refine wpQuiet_nil ?_) | (refine seq_move (by rfl) (by rfl) ?_; go_wp2_with (first | (go_at_call 16; first | ((refine (calls_in (h4.out _ _ HE4.out)).mono ?_); rintro e w1 ⟨rfl, q1, rfl⟩) | ((refine (h4.out _ _ HE4.out).mono ?_); rintro e w1 ⟨rfl, q1, rfl⟩)) | (go_at_call 11; first | ((refine (calls_in (awake6_ok _)).mono ?_); rintro e w1 ⟨rfl, q1, rfl⟩) | ((refine (awake6_ok _).mono ?_); rintro e w1 ⟨rfl, q1, rfl⟩))); refine ⟨_, rfl, (class_kept hC (by first | exact below_ext _ _ | exact Kept.refl _)).out, ?_⟩))
    refine seq_nil ?_
    have hkC := Later.kept hC.out
    clear hC
    have hkf := Lib.hid (Kept.trans (Kept.alloc (Kept.refl w) (.cells #[.int .u64 (hi r.x), .int .u64 (lo r.x), .int .i64 r.n, .int .i64 r.act] 29)) hkC)
    clear hkC
    go_wp2_with fail
    go_ret
    exact Ret.of (rfl) (by simp (maxDischargeDepth := 99) [hkf.out])
  · have g1 : (300 : Int) < (l.length : Int) := by omega
    clear hl he hn
    go_enter Try.func3, Try.ntmps3
    go_wp2_with fail
    refine (awake6_ok _).mono ?_
    rintro e w1 ⟨rfl, q2, rfl⟩
    go_wp2_with fail
    go_ret
    exact Ret.of (rfl) (by simp (maxDischargeDepth := 99))
set_option maxRecDepth 100000 in
theorem ribTables_lifted (os : Os) (started : os.Started) (H : Type) (enc : TypeId × Value → H) :
    ReturnsInHanded {} Try.checked os 3 .any (Rows.ribTablesSpec.pre6 enc Try.prog Try.f3 Rows.ribTablesRow.domain false) (Rows.ribTablesSpec.post enc Try.prog Try.f3 false true false false) := by
  refine returnsInHanded_of_change (C := Try.checked) own started (by kernel_rfl) Try.func3
    (ChangeSpec.witness6 (enc := enc) (C := Try.checked) false ⟨#[], #[.int .i64 0, .slice none 0 0, .agg #[.int .u64 0, .int .u64 0, .int .i64 0, .int .i64 0]], []⟩ 8 (by kernel_rfl) (by kernel_rfl) (by kernel_rfl) (by kernel_rfl)) ?_
  intro W base args ds gs before hval0 hW hcnd _
  have hval : ∀ (j : Nat) t v, Try.f3.params[j]? = some t → args[j]? = some v → Value.okWide Try.prog W .any base t v := hval0
  have hW' := hW
  obtain ⟨p, q, hA0, hV, rfl, hfz, hnd⟩ := hW
  obtain ⟨rfl, rfl⟩ := trodVars_none hV
  rw [List.append_nil] at hW'
  have hA : DataW.TrodAll enc Try.prog W 0 (fun _ => true) true Try.f3.params.toList args.toList ds p := hA0
  have hA1 := hA
  rw [Try.params3] at hA1 hval
  obtain ⟨v0, vs0, d0, ds0, p0, q0, hargs, rfl, rfl, h0, r0⟩ := trodAll_cons hA1
  obtain ⟨v1, vs1, d1, ds1, p1, q1, rfl, rfl, rfl, h1, r1⟩ := trodAll_cons r0
  obtain ⟨v2, vs2, d2, ds2, p2, q2, rfl, rfl, rfl, h2, r2⟩ := trodAll_cons r1
  obtain ⟨rfl, rfl, rfl⟩ := trodAll_nil r2
  obtain rfl : args = #[v0, v1, v2] := by cases args; simp_all
  obtain ⟨X0, rfl, rfl, rfl, w0⟩ := open_int Try.underlying3 (hval 0 _ v0 rfl rfl) h0
  obtain ⟨L1, E1, _⟩ := open_routes (hval 1 _ v1 rfl rfl) h1
  obtain ⟨X2, rfl, _⟩ := open_route (hval 2 _ v2 rfl rfl) h2
  refine (ribTables_walk X0 (wf_i64' w0).1 (wf_i64' w0).2 L1 v1 X2 W E1).mono fun e W' ⟨he, hg⟩ => ?_
  subst he
  exact ⟨_, rfl, post_true laidOut (by rw [Try.params3]; intro t ht; simp at ht; first | (subst ht; exact ⟨by kernel_rfl, of_decide_eq_true (by kernel_rfl)⟩) | (rcases ht with rfl | rfl <;> exact ⟨by kernel_rfl, of_decide_eq_true (by kernel_rfl)⟩) | (rcases ht with rfl | rfl | rfl <;> exact ⟨by kernel_rfl, of_decide_eq_true (by kernel_rfl)⟩) | (rcases ht with rfl | rfl | rfl | rfl <;> exact ⟨by kernel_rfl, of_decide_eq_true (by kernel_rfl)⟩)) rfl hW' hA rfl (trodAll_cons_mk (shut_bool Try.underlying4 _) trodAll_mk0) (Later.kept hg)⟩

theorem ribTables_holds : Rows.RibTablesSaid :=
  OpenClaim.holds_of_wide 3 Try.f3 rfl rfl rfl rfl rfl rfl rfl ⟨rfl, rfl, rfl, rfl, rfl⟩ rfl rfl rfl rfl rfl (by kernel_rfl) Try.func3 (by kernel_rfl)
    (of_decide_eq_true (by kernel_rfl)) (by unfold Func.isWrapper; first | (rw [if_pos (by decide +kernel)]; kernel_rfl) | (rw [if_neg (by decide +kernel)]; exact ⟨rfl, rfl⟩))
    (fun os started H enc _ => ribTables_lifted os started H enc)
#print axioms ribTables_holds
end Go.Proofs.Ytjkhdjonlppdoaa
