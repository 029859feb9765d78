/- RibUnder: what a prefix covers, and its own route, are all routes that match its address: those under the prefix of no bits, and its own, are all. -/
import Derived.Test.YtjkhdjonlppdoaaRows
import Derived.Test.YtjkhdjonlppdoaaLaw6
import Derived.Test.YtjkhdjonlppdoaaUnder
import Derived.Test.YtjkhdjonlppdoaaDrop
namespace Pg
open Go
theorem under_all {l : List Rt} (h : Tab l) : underL l 0#128 0 = l.filter fun s => !eqR 0#128 0 s := by
  unfold underL
  apply List.filter_congr
  intro s hs
  have h1 := (right_len (h.right s hs)).1
  have h2 : coversB 0#128 0 s.x s.n = true := by
    unfold coversB
    rw [decide_eq_true h1, Bool.true_and, matchB_iff]
    intro k hk
    have : near 0 = 0 := by decide
    omega
  rw [h2, Bool.and_true]
theorem count_dropped {l : List Rt} (h : Tab l) {e : Rt} (hf : l.find? (eqR 0#128 0) = some e) : ((l.filter fun s => !eqR 0#128 0 s).length : Int) = (l.length : Int) - 1 := by
  have h1 := List.find?_some hf
  have hm := List.mem_of_find?_eq_some hf
  unfold eqR at h1
  simp only [Bool.and_eq_true, decide_eq_true_eq] at h1
  have hl : insR e (l.filter fun s => !eqR 0#128 0 s) = l := by
    have := putR_self h hm
    unfold putR at this
    rwa [h1.1, h1.2] at this
  have h3 := insR_len e (l.filter fun s => !eqR 0#128 0 s)
  rw [hl] at h3
  omega
theorem kept_all {l : List Rt} (hf : l.find? (eqR 0#128 0) = none) : (l.filter fun s => !eqR 0#128 0 s) = l := by
  rw [List.filter_eq_self]
  intro s hs
  rw [List.find?_eq_none] at hf
  have := hf s hs
  simpa using this
end Pg
namespace Go.Proofs.Ytjkhdjonlppdoaa
open Go.RowKit Pg Go.ChangeShapes Go.WideShapes Go.ChangeAt

set_option maxHeartbeats 1000000 in
set_option maxRecDepth 100000 in
theorem ribUnder_walk (l : List Rt) (v : Value) (w : World) (hl : Els w v 4 Rt.cells l) : Calls Try.prog 10 #[v] w (Ret (.bool true) w) := by
  have HE := Lib.hid hl
  obtain ⟨ad, c, rfl, hc, he⟩ := hl.form
  cases htb : tab9B l
  · have HT := Lib.hid (fun W (h : Els W (.slice ad l.length c) 4 Rt.cells l) => law06table_as htb W h)
    clear hl he htb
    go_enter Try.func10, Try.ntmps10
    go_wp2_with fail
    refine (HT.out _ HE.out).mono ?_
    rintro e w1 ⟨rfl, q1, rfl⟩
    go_wp2_with fail
    refine (awake6_ok _).mono ?_
    rintro e w1 ⟨rfl, q2, rfl⟩
    go_wp2_with fail
    go_ret
    exact Ret.of (rfl) (by simp (maxDischargeDepth := 99))
  · obtain ⟨hTab, hn⟩ := tab9B_of htb
    have e0 : hi 0#128 = 0 := by kernel_rfl
    have e1 : lo 0#128 = 0 := by kernel_rfl
    have HT := Lib.hid (fun W (h : Els W (.slice ad l.length c) 4 Rt.cells l) => law06table_as htb W h)
    have hof := Lib.hid (fun W (u : Value) (h : Els W u 4 Rt.cells l) => law06of_any W h (by omega))
    have hsm := Lib.hid (fun W (u u' : Value) (h : Els W u 4 Rt.cells l) (h' : Els W u' 4 Rt.cells l) => law06same_any W h h' (by omega))
    obtain ⟨U, hU⟩ : ∃ U, underL l 0#128 0 = U := ⟨_, rfl⟩
    have hun := Lib.hid (fun W (u : Value) (h : Els W u 4 Rt.cells l) => show Calls Try.prog 37 #[u, .agg #[.int .u64 0, .int .u64 0, .int .i64 0]] W (RetEls 29 4 Rt.cells U W) by have := ribunder_any 0#128 0 W h (by omega); unfold pv at this; rwa [e0, e1, hU] at this)
    have hul := under_all hTab
    rw [hU] at hul
    cases hf : l.find? (eqR 0#128 0) with
    | none =>
      have hfd := Lib.hid (fun W (u : Value) (h : Els W u 4 Rt.cells l) => show Calls Try.prog 22 #[u, .agg #[.int .u64 0, .int .u64 0, .int .i64 0]] W (Ret (.tuple #[rv z0r, .bool false]) W) by have := ribfind_any 0#128 0 W h hTab (by omega); unfold pv at this; rwa [e0, e1, hf] at this)
      rw [kept_all hf] at hul
      subst hul
      clear hl he htb hTab hU hf e0 e1
      go_enter Try.func10, Try.ntmps10
      go_wp2_with fail
      refine (HT.out _ HE.out).mono ?_
      rintro e w1 ⟨rfl, q1, rfl⟩
      go_wp2_with fail
      refine (hun.out _ _ (HE.out.ext _)).mono ?_
      rintro e w2 hR
      obtain ⟨a2, c2, rfl, hlc2, hown2, hels2⟩ := RetEls.out2 Rt.cells_len hR
      have HE2 := Lib.hid hels2
      have HK2 := Lib.hid hown2.1
      clear hown2 hels2 hR
      go_wp2_with fail
      refine (hfd.out _ _ (HE.out.kept ((kept_extR _ _).trans HK2.out))).mono ?_
      rintro e w1 ⟨rfl, q3, rfl⟩
      go_wp2_with fail
      refine (hof.out _ _ (HE.out.kept ((kept_extR _ _).trans (HK2.out.trans (by simp (maxDischargeDepth := 99)))))).mono ?_
      rintro e w4 hR
      obtain ⟨a4, c4, rfl, hlc4, hown4, hels4⟩ := RetEls.out2 Rt.cells_len hR
      have HE4 := Lib.hid hels4
      have HK4 := Lib.hid hown4.1
      clear hown4 hels4 hR
      go_wp2_with fail
      have h24 : Kept w2 w4 := Kept.trans (by simp (maxDischargeDepth := 99)) HK4.out
      have H24 := Lib.hid h24
      clear h24
      refine (hsm.out _ _ _ (HE2.out.kept H24.out) HE4.out).mono ?_
      rintro e w1 ⟨rfl, q5, rfl⟩
      go_wp2_with fail
      refine (awake6_ok _).mono ?_
      rintro e w1 ⟨rfl, q6, rfl⟩
      go_wp2_with fail
      have hkf := Lib.hid ((kept_extR w q1).trans (HK2.out.trans H24.out))
      go_ret
      exact Ret.of (rfl) (by simp (maxDischargeDepth := 99) [hkf.out])
    | some e =>
      have hfd := Lib.hid (fun W (u : Value) (h : Els W u 4 Rt.cells l) => show Calls Try.prog 22 #[u, .agg #[.int .u64 0, .int .u64 0, .int .i64 0]] W (Ret (.tuple #[rv e, .bool true]) W) by have := ribfind_any 0#128 0 W h hTab (by omega); unfold pv at this; rwa [e0, e1, hf] at this)
      have hcn := count_dropped hTab hf
      rw [← hul] at hcn
      have hq : ((U.length : Int) == (l.length : Int) - 1) = true := by rw [hcn]; simp
      have HQ := Lib.hid hcn
      clear hl he htb hTab hU hf hul hcn e0 e1
      go_enter Try.func10, Try.ntmps10
      go_wp2_with fail
      refine (HT.out _ HE.out).mono ?_
      rintro e w1 ⟨rfl, q1, rfl⟩
      go_wp2_with fail
      refine (hun.out _ _ (HE.out.ext _)).mono ?_
      rintro e w2 hR
      obtain ⟨a2, c2, rfl, hlc2, hown2, hels2⟩ := RetEls.out2 Rt.cells_len hR
      have HE2 := Lib.hid hels2
      have HK2 := Lib.hid hown2.1
      clear hown2 hels2 hR
      go_wp2_with fail
      refine (hfd.out _ _ (HE.out.kept ((kept_extR _ _).trans HK2.out))).mono ?_
      rintro e w1 ⟨rfl, q3, rfl⟩
      go_wp2_with fail
      refine (awake6_ok _).mono ?_
      rintro e w1 ⟨rfl, q6, rfl⟩
      go_wp2_with fail
      have hkf := Lib.hid ((kept_extR w q1).trans HK2.out)
      go_ret
      exact Ret.of (rfl) (by simp (maxDischargeDepth := 99) [hkf.out])
set_option maxRecDepth 100000 in
theorem ribUnder_lifted (os : Os) (started : os.Started) (H : Type) (enc : TypeId × Value → H) :
    ReturnsInHanded {} Try.checked os 10 .any (Rows.ribUnderSpec.pre6 enc Try.prog Try.f10 Rows.ribUnderRow.domain false) (Rows.ribUnderSpec.post enc Try.prog Try.f10 false true false false) := by
  refine returnsInHanded_of_change (C := Try.checked) own started (by kernel_rfl) Try.func10
    (ChangeSpec.witness6 (enc := enc) (C := Try.checked) false ⟨#[], #[.slice none 0 0], []⟩ 8 (by kernel_rfl) (by kernel_rfl) (by kernel_rfl) (by kernel_rfl)) ?_
  intro W base args ds gs before hval0 hW hcnd _
  have hval : ∀ (j : Nat) t v, Try.f10.params[j]? = some t → args[j]? = some v → Value.okWide Try.prog W .any base t v := hval0
  have hW' := hW
  obtain ⟨p, q, hA0, hV, rfl, hfz, hnd⟩ := hW
  obtain ⟨rfl, rfl⟩ := trodVars_none hV
  rw [List.append_nil] at hW'
  have hA : DataW.TrodAll enc Try.prog W 0 (fun _ => true) true Try.f10.params.toList args.toList ds p := hA0
  have hA1 := hA
  rw [Try.params10] at hA1 hval
  obtain ⟨v0, vs0, d0, ds0, p0, q0, hargs, rfl, rfl, h0, r0⟩ := trodAll_cons hA1
  obtain ⟨rfl, rfl, rfl⟩ := trodAll_nil r0
  obtain rfl : args = #[v0] := by cases args; simp_all
  obtain ⟨L0, E0, _⟩ := open_routes (hval 0 _ v0 rfl rfl) h0
  refine (ribUnder_walk L0 v0 W E0).mono fun e W' ⟨he, hg⟩ => ?_
  subst he
  exact ⟨_, rfl, post_true laidOut (by rw [Try.params10]; intro t ht; simp at ht; first | (subst ht; exact ⟨by kernel_rfl, of_decide_eq_true (by kernel_rfl)⟩) | (rcases ht with rfl | rfl <;> exact ⟨by kernel_rfl, of_decide_eq_true (by kernel_rfl)⟩) | (rcases ht with rfl | rfl | rfl <;> exact ⟨by kernel_rfl, of_decide_eq_true (by kernel_rfl)⟩) | (rcases ht with rfl | rfl | rfl | rfl <;> exact ⟨by kernel_rfl, of_decide_eq_true (by kernel_rfl)⟩)) rfl hW' hA rfl (trodAll_cons_mk (shut_bool Try.underlying4 _) trodAll_mk0) (Later.kept hg)⟩

theorem ribUnder_holds : Rows.RibUnderSaid :=
  OpenClaim.holds_of_wide 10 Try.f10 rfl rfl rfl rfl rfl rfl rfl ⟨rfl, rfl, rfl, rfl, rfl⟩ rfl rfl rfl rfl rfl (by kernel_rfl) Try.func10 (by kernel_rfl)
    (of_decide_eq_true (by kernel_rfl)) (by unfold Func.isWrapper; first | (rw [if_pos (by decide +kernel)]; kernel_rfl) | (rw [if_neg (by decide +kernel)]; exact ⟨rfl, rfl⟩))
    (fun os started H enc _ => ribUnder_lifted os started H enc)
#print axioms ribUnder_holds
end Go.Proofs.Ytjkhdjonlppdoaa
