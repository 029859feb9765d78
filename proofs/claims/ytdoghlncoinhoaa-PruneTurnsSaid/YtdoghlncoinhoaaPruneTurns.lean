/- PruneTurns: of those that are kept none has the Action of the nearest one of them that covers it. -/
import Derived.Test.YtdoghlncoinhoaaRows
import Derived.Test.YtdoghlncoinhoaaChain
import Derived.Test.YtdoghlncoinhoaaKeep2
import Derived.Test.YtdoghlncoinhoaaPrune9
import Derived.Test.YtdoghlncoinhoaaOpenRts
namespace Pg
open Go
theorem tabGo_back (w : Int) : ∀ (l : List Rt) (p : Option Rt), (∀ q, p = some q → ∀ r ∈ l, ltR q r) → l.Pairwise ltR → (∀ r ∈ l, rightR w r = true) → tabGo w p l = true
  | [], _, _, _, _ => rfl
  | r :: l, p, h1, h2, h3 => by
    rw [List.pairwise_cons] at h2
    unfold tabGo adjOk
    rw [h3 r (List.mem_cons_self ..), Bool.true_and, tabGo_back w l (some r) (fun q hq s hs => by injection hq with hq; subst hq; exact h2.1 s hs) h2.2 (fun s hs => h3 s (List.mem_cons_of_mem _ hs)), Bool.and_true]
    cases p with
    | none => rfl
    | some q => exact decide_eq_true ((cmpP_lt _ _ _ _).2 (h1 q rfl r (List.mem_cons_self ..)))
theorem tblB_back {l : List Rt} (h : Tab l) (h2 : ∀ r ∈ l, rightR 128 r = true) (h3 : l.length ≤ 256) : tblB 128 l = true := by
  unfold tblB
  rw [tabGo_back 128 l none (fun q hq => by cases hq) h.sorted h2, decide_eq_true h3]
  decide
/-- The nearest one that covers a route of the table. -/
theorem cov_near {l : List Rt} (h : Tab l) {r : Rt} (hr : r ∈ l) : bestO (covP r.x r.n) l = nearK l r := by
  have hrr := h.right r hr
  have key : ∀ s ∈ l, covP r.x r.n s = nearP r s := fun s hs => by
    rw [Bool.eq_iff_iff]
    unfold covP nearP eqR coversB
    simp only [Bool.and_eq_true, Bool.not_eq_true', Bool.and_eq_false_iff, decide_eq_true_eq, decide_eq_false_iff_not]
    constructor
    · rintro ⟨h1, h2, h3⟩
      refine ⟨?_, h3⟩
      rcases Int.lt_or_le s.n r.n with hlt | hle
      · exact hlt
      · exfalso
        have hn : s.n = r.n := by omega
        have hx := same_of_match (h.right s hs) hrr (show matchR r.x s = true from h3) (match_self hrr) hn
        rcases h1 with h1 | h1
        · exact h1 hx
        · exact h1 hn
    · rintro ⟨h1, h2⟩
      exact ⟨.inr (by omega), by omega, h2⟩
  have e : ∀ (l' : List Rt), (∀ s ∈ l', covP r.x r.n s = nearP r s) → bestO (covP r.x r.n) l' = bestO (nearP r) l' := by
    intro l'
    induction l' using rev_ind with
    | h0 => intro _; rfl
    | hs l' s ih =>
      intro hk
      rw [bestO_snoc, bestO_snoc, ih fun t ht => hk t (by simp [ht]), hk s (by simp)]
  exact e l key
end Pg
namespace Go.Proofs.Ytdoghlncoinhoaa
open Go.RowKit Pg Go.ChangeShapes Go.WideShapes Go.ChangeAt

set_option maxHeartbeats 1000000 in
set_option maxRecDepth 100000 in
theorem pruneTurns_walk (l : List Rt) (v : Value) (w : World) (hl : Els w v 4 Rt.cells l) : Calls Try.prog 6 #[v] w (Ret (.bool true) w) := by
  have HE := Lib.hid hl
  obtain ⟨ad, c, rfl, hc, he⟩ := hl.form
  cases htb : tab9B l
  · have HT := Lib.hid (fun W (h : Els W (.slice ad l.length c) 4 Rt.cells l) => law09table_as htb W h)
    clear hl he htb
    go_enter Try.func6, Try.ntmps6
    go_wp2_with fail
    refine (HT.out _ HE.out).mono ?_
    rintro e w1 ⟨rfl, q1, rfl⟩
    go_wp2_with fail
    refine (awake9_ok _).mono ?_
    rintro e w1 ⟨rfl, q2, rfl⟩
    go_wp2_with fail
    go_ret
    exact Ret.of (rfl) (by simp (maxDischargeDepth := 99))
  · obtain ⟨hTab, hn⟩ := tab9B_of htb
    have hTab2 : ∀ r ∈ l, rightR 128 r = true := by unfold tab9B at htb; simp only [Bool.and_eq_true] at htb; exact (tab_of htb.2).2.1
    have HT := Lib.hid (fun W (h : Els W (.slice ad l.length c) 4 Rt.cells l) => law09table_as htb W h)
    obtain ⟨K, hK⟩ : ∃ K, keepL l = K := ⟨_, rfl⟩
    have hTK : Tab K := by rw [← hK]; exact keepL_tab hTab
    have hKs : K.Sublist l := by rw [← hK]; exact keepL_sub hTab
    have hK2 : keepL K = K := by rw [← hK]; exact keepL_twice hTab
    have hKl : K.length ≤ 24 := Nat.le_trans hKs.length_le hn
    have hpk := Lib.hid (fun W (u : Value) (h : Els W u 4 Rt.cells l) => show Calls Try.prog 16 #[u] W (RetEls 48 4 Rt.cells K W) by rw [← hK]; exact pkeep_any W h hTab (by omega))
    have htk := Lib.hid (fun W (u : Value) (h : Els W u 4 Rt.cells K) => ribtable_as (tblB_back hTK (fun r hr => hTab2 r (hKs.subset hr)) (by omega)) W h (by omega))
    obtain ⟨A, hA⟩ : ∃ A, chainN K = A := ⟨_, rfl⟩
    obtain ⟨B, hB⟩ : ∃ B, chainN l = B := ⟨_, rfl⟩
    have hAB : (A : Int) ≤ (B : Int) := by rw [← hA, ← hB]; exact Int.ofNat_le.2 (chainN_sub hTab hKs)
    have hcK := Lib.hid (fun W (u : Value) (h : Els W u 4 Rt.cells K) => show Calls Try.prog 24 #[u] W (Ret (.int .i64 (A : Int)) W) by rw [← hA]; exact ribchain_any W h hTK (by omega))
    have hcl := Lib.hid (fun W (u : Value) (h : Els W u 4 Rt.cells l) => show Calls Try.prog 24 #[u] W (Ret (.int .i64 (B : Int)) W) by rw [← hB]; exact ribchain_any W h hTab (by omega))
    have hcov := Lib.hid (fun (e : Rt) (he : e ∈ K) W (u : Value) (h : Els W u 4 Rt.cells K) => show Calls Try.prog 22 #[u, pv e.x e.n] W (Ret (retR (nearK K e)) W) by rw [← cov_near hTK he]; exact ribcover_any e.x e.n W h (by omega))
    have hsp := Lib.hid (fun (e : Rt) (he : e ∈ K) => show ∀ c, nearK K e = some c → c.act ≠ e.act by have := (keepL_spec hTK he).1 (by rw [hK2]; exact he); rwa [hK2] at this)
    clear hl he htb hTab hK hTK hK2 hTab2 hA hB hKs
    go_enter Try.func6, Try.ntmps6
    go_wp2_with fail
    refine (HT.out _ HE.out).mono ?_
    rintro e w1 ⟨rfl, q1, rfl⟩
    go_wp2_with fail
    refine (hpk.out _ _ (HE.out.ext _)).mono ?_
    rintro e w1 hR
    obtain ⟨a1, c1, rfl, hlc1, hown1, hels1⟩ := RetEls.out2 Rt.cells_len hR
    have HE1 := Lib.hid hels1
    have HK1 := Lib.hid hown1.1
    clear hown1 hels1 hR
    go_wp2_with fail
    have HKW := Lib.hid (Kept.trans (kept_extR w q1) HK1.out)
    go_loopw [5, 6, 7, 16] (fun _ _ _ vk wr => ∃ k : Nat, k ≤ K.length ∧ vk = .int .i64 k ∧ Kept w1 wr) (fun _ _ _ vk _ => K.length - (intOf vk).toNat)
    case atStart => exact ⟨0, by omega, rfl, Kept.refl _⟩
    case round =>
      obtain ⟨k, hk, rfl, hkw⟩ := hrel
      have HX := Lib.hid hkw
      by_cases hlt : k < K.length
      · have hkl : (k : Int) < (K.length : Int) := by omega
        have k0 : (0 : Int) ≤ k := by omega
        obtain ⟨b, o, rfl, hb, hcell⟩ := (HE1.out.kept hkw).at_ (k) hlt
        obtain ⟨e, hee⟩ : ∃ e, (K)[k]'hlt = e := ⟨_, rfl⟩
        rw [hee] at hcell
        have c0 : wr.cell? ⟨b, o + k * 4, none⟩ = some (.int .u64 (hi e.x)) := hcell 0 (by omega)
        have c1 : wr.cell? ⟨b, o + k * 4 + 1, none⟩ = some (.int .u64 (lo e.x)) := hcell 1 (by omega)
        have c2 : wr.cell? ⟨b, o + k * 4 + 2, none⟩ = some (.int .i64 e.n) := hcell 2 (by omega)
        have c3 : wr.cell? ⟨b, o + k * 4 + 3, none⟩ = some (.int .i64 e.act) := hcell 3 (by omega)
        have Hee := Lib.hid hee
        clear hcell hee
        have hmem : e ∈ K := by rw [← Hee.out]; exact List.getElem_mem hlt
        have HS := Lib.hid (hsp.out e hmem)
        have HC := Lib.hid (hcov.out e hmem)
        cases ho : nearK K e with
        | none =>
          rw [ho] at HC
          have HC2 := Lib.hid (fun W (u : Value) (h : Els W u 4 Rt.cells K) => show Calls Try.prog 22 #[u, pv e.x e.n] W (Ret (.tuple #[rv z0r, .bool false]) W) from HC.out W u h)
          clear hkw Hee hmem ho HC
          go_wp2_with fail
          refine (HC2.out _ _ (HE1.out.kept (HX.out.trans (Kept.alloc (Kept.refl _) _)))).mono ?_
          rintro e w1 ⟨rfl, q5, rfl⟩
          go_wp2_with fail
          go_roundw
          case rel => exact ⟨k + 1, by omega, by go_num, HX.out.trans (by simp (maxDischargeDepth := 99))⟩
          case measure => simp [intOf]; omega
        | some cv =>
          rw [ho] at HC
          have HC2 := Lib.hid (fun W (u : Value) (h : Els W u 4 Rt.cells K) => show Calls Try.prog 22 #[u, pv e.x e.n] W (Ret (.tuple #[rv cv, .bool true]) W) from HC.out W u h)
          have hne : (cv.act == e.act) = false := by simp [HS.out cv ho]
          clear hkw Hee hmem ho HC
          go_wp2_with fail
          refine (HC2.out _ _ (HE1.out.kept (HX.out.trans (Kept.alloc (Kept.refl _) _)))).mono ?_
          rintro e w1 ⟨rfl, q5, rfl⟩
          go_wp2_with fail
          go_roundw
          case rel => exact ⟨k + 1, by omega, by go_num, HX.out.trans (by simp (maxDischargeDepth := 99))⟩
          case measure => simp [intOf]; omega
      · have hkl : k = K.length := by omega
        subst hkl
        clear hkw hlt hk
        go_wp2_with fail
        refine (htk.out _ _ (HE1.out.kept HX.out)).mono ?_
        rintro e w1 ⟨rfl, q5, rfl⟩
        go_wp2_with fail
        refine (hcK.out _ _ (HE1.out.kept (HX.out.trans (kept_extR _ q5)))).mono ?_
        rintro e w1 ⟨rfl, q6, rfl⟩
        go_wp2_with fail
        refine (hcl.out _ _ (HE.out.kept (HKW.out.trans (HX.out.trans (Kept.trans (kept_extR _ q5) (kept_extR _ q6)))))).mono ?_
        rintro e w1 ⟨rfl, q7, rfl⟩
        go_wp2_with fail
        have hkf := Lib.hid (HKW.out.trans HX.out)
        refine (awake9_ok _).mono ?_
        rintro e w1 ⟨rfl, q8, rfl⟩
        go_wp2_with fail
        go_ret
        exact Ret.of (rfl) (by simp (maxDischargeDepth := 99) [hkf.out])
set_option maxRecDepth 100000 in
theorem pruneTurns_lifted (os : Os) (started : os.Started) (H : Type) (enc : TypeId × Value → H) :
    ReturnsInHanded {} Try.checked os 6 .any (Rows.pruneTurnsSpec.pre6 enc Try.prog Try.f6 Rows.pruneTurnsRow.domain false) (Rows.pruneTurnsSpec.post enc Try.prog Try.f6 false true false false) := by
  refine returnsInHanded_of_change (C := Try.checked) own started (by kernel_rfl) Try.func6
    (ChangeSpec.witness6 (enc := enc) (C := Try.checked) false ⟨#[], #[.slice none 0 0], []⟩ 8 (by kernel_rfl) (by kernel_rfl) (by kernel_rfl) (by kernel_rfl)) ?_
  intro W base args ds gs before hval0 hW hcnd _
  have hval : ∀ (j : Nat) t v, Try.f6.params[j]? = some t → args[j]? = some v → Value.okWide Try.prog W .any base t v := hval0
  have hW' := hW
  obtain ⟨p, q, hA0, hV, rfl, hfz, hnd⟩ := hW
  obtain ⟨rfl, rfl⟩ := trodVars_none hV
  rw [List.append_nil] at hW'
  have hA : DataW.TrodAll enc Try.prog W 0 (fun _ => true) true Try.f6.params.toList args.toList ds p := hA0
  have hA1 := hA
  rw [Try.params6] at hA1 hval
  obtain ⟨v0, vs0, d0, ds0, p0, q0, hargs, rfl, rfl, h0, r0⟩ := trodAll_cons hA1
  obtain ⟨rfl, rfl, rfl⟩ := trodAll_nil r0
  obtain rfl : args = #[v0] := by cases args; simp_all
  obtain ⟨L0, E0, _⟩ := open_routes (hval 0 _ v0 rfl rfl) h0
  refine (pruneTurns_walk L0 v0 W E0).mono fun e W' ⟨he, hg⟩ => ?_
  subst he
  exact ⟨_, rfl, post_true laidOut (by rw [Try.params6]; intro t ht; simp at ht; first | (subst ht; exact ⟨by kernel_rfl, of_decide_eq_true (by kernel_rfl)⟩) | (rcases ht with rfl | rfl <;> exact ⟨by kernel_rfl, of_decide_eq_true (by kernel_rfl)⟩) | (rcases ht with rfl | rfl | rfl <;> exact ⟨by kernel_rfl, of_decide_eq_true (by kernel_rfl)⟩) | (rcases ht with rfl | rfl | rfl | rfl <;> exact ⟨by kernel_rfl, of_decide_eq_true (by kernel_rfl)⟩)) rfl hW' hA rfl (trodAll_cons_mk (shut_bool Try.underlying4 _) trodAll_mk0) (Later.kept hg)⟩

theorem pruneTurns_holds : Rows.PruneTurnsSaid :=
  OpenClaim.holds_of_wide 6 Try.f6 rfl rfl rfl rfl rfl rfl rfl ⟨rfl, rfl, rfl, rfl, rfl⟩ rfl rfl rfl rfl rfl (by kernel_rfl) Try.func6 (by kernel_rfl)
    (of_decide_eq_true (by kernel_rfl)) (by unfold Func.isWrapper; first | (rw [if_pos (by decide +kernel)]; kernel_rfl) | (rw [if_neg (by decide +kernel)]; exact ⟨rfl, rfl⟩))
    (fun os started H enc _ => pruneTurns_lifted os started H enc)
#print axioms pruneTurns_holds
end Go.Proofs.Ytdoghlncoinhoaa
