/- PruneLess: what is kept of a table is no more than it has, each of it as it was; of routes of one action there are those alone that no other one covers. -/
import Derived.Test.YtdoghlncoinhoaaRows
import Derived.Test.YtdoghlncoinhoaaFind
import Derived.Test.YtdoghlncoinhoaaKeep2
import Derived.Test.YtdoghlncoinhoaaPrune9
import Derived.Test.YtdoghlncoinhoaaOpenRts
namespace Pg
open Go
theorem cov_near2 {l : List Rt} (h : Tab l) {r : Rt} (hr : r ∈ l) : bestO (covP r.x r.n) l = nearK l r := by
  have hrr := h.right r hr
  have key : ∀ s ∈ l, covP r.x r.n s = nearP r s := fun s hs => by
    rw [Bool.eq_iff_iff]
    unfold covP nearP eqR coversB
    simp only [Bool.and_eq_true, Bool.not_eq_true', Bool.and_eq_false_iff, decide_eq_true_eq, decide_eq_false_iff_not]
    constructor
    · rintro ⟨h1, h2, h3⟩
      refine ⟨?_, h3⟩
      rcases Int.lt_or_le s.n r.n with hlt | hle
      · exact hlt
      · exfalso
        have hn : s.n = r.n := by omega
        have hx := same_of_match (h.right s hs) hrr (show matchR r.x s = true from h3) (match_self hrr) hn
        rcases h1 with h1 | h1
        · exact h1 hx
        · exact h1 hn
    · rintro ⟨h1, h2⟩
      exact ⟨.inr (by omega), by omega, h2⟩
  have e : ∀ (l' : List Rt), (∀ s ∈ l', covP r.x r.n s = nearP r s) → bestO (covP r.x r.n) l' = bestO (nearP r) l' := by
    intro l'
    induction l' using rev_ind with
    | h0 => intro _; rfl
    | hs l' s ih =>
      intro hk
      rw [bestO_snoc, bestO_snoc, ih fun t ht => hk t (by simp [ht]), hk s (by simp)]
  exact e l key
def oneA (act : Int) (r : Rt) : Rt := ⟨r.x, r.n, act⟩
theorem tab_one {l : List Rt} (h : Tab l) (act : Int) : Tab (l.map (oneA act)) :=
  ⟨fun r hr => by obtain ⟨s, hs, rfl⟩ := List.mem_map.1 hr; exact h.right s hs, by rw [List.pairwise_map]; exact h.sorted⟩
theorem find_self {l : List Rt} (h : Tab l) {e : Rt} (he : e ∈ l) : l.find? (eqR e.x e.n) = some e := by
  cases hf : l.find? (eqR e.x e.n) with
  | none => rw [List.find?_eq_none] at hf; exact absurd (by simp [eqR]) (hf e he)
  | some s =>
    have h1 := List.find?_some hf
    unfold eqR at h1
    simp only [Bool.and_eq_true, decide_eq_true_eq] at h1
    rw [h.same (List.mem_of_find?_eq_some hf) he h1.1 h1.2]
theorem any_mem {l K : List Rt} (h : Tab l) (hs : K.Sublist l) {r : Rt} (hr : r ∈ l) : K.any (eqP r.x r.n) = decide (r ∈ K) := by
  rw [Bool.eq_iff_iff, List.any_eq_true, decide_eq_true_eq]
  constructor
  · rintro ⟨s, hsK, h1⟩
    unfold eqP at h1
    simp only [Bool.and_eq_true, decide_eq_true_eq] at h1
    rw [← h.same (hs.subset hsK) hr h1.1 h1.2]; exact hsK
  · intro hk
    exact ⟨r, hk, by simp [eqP]⟩
/-- Of routes of one action those are kept that no other one covers. -/
theorem less_one {l : List Rt} (h : Tab l) (act : Int) (ha : ∀ r ∈ l, r.act = act) {r : Rt} (hr : r ∈ l) : (keepL l).any (eqP r.x r.n) = !(nearK l r).isSome := by
  have hK := keepL_sub h
  rw [any_mem h hK hr]
  have hsp := keepL_spec h hr
  have t1 := bestO_top (nearP r) l
  have t2 := bestO_top (nearP r) (keepL l)
  unfold nearK at hsp ⊢
  cases h1 : bestO (nearP r) l with
  | none =>
    rw [h1] at t1
    have : bestO (nearP r) (keepL l) = none := by
      cases h2 : bestO (nearP r) (keepL l) with
      | none => rfl
      | some c => rw [h2] at t2; have := t1 c (hK.subset t2.1); rw [t2.2.1] at this; cases this
    rw [decide_eq_true (hsp.2 fun c hc => by rw [this] at hc; cases hc)]; rfl
  | some s =>
    rw [h1] at t1
    have hsome : ∃ c, bestO (nearP r) (keepL l) = some c := by
      cases h2 : bestO (nearP r) (keepL l) with
      | some c => exact ⟨c, rfl⟩
      | none =>
        exfalso
        rw [h2] at t2
        have hs1 := t1.2.1
        by_cases hsK : s ∈ keepL l
        · have := t2 s hsK; rw [hs1] at this; cases this
        · rw [keepL_spec h t1.1] at hsK
          simp only [Classical.not_forall] at hsK
          obtain ⟨c, hc, _⟩ := hsK
          have t3 := bestO_top (nearP s) (keepL l)
          unfold nearK at hc
          rw [hc] at t3
          have hcn : nearP r c = true := by
            have h5 := t3.2.1
            unfold nearP at h5 hs1 ⊢
            simp only [Bool.and_eq_true, decide_eq_true_eq] at h5 hs1 ⊢
            refine ⟨by omega, match_of_cov (h.right c (hK.subset t3.1)) (h.right s t1.1) ((covR_iff c s).2 ⟨by omega, h5.2⟩) hs1.2⟩
          have := t2 c t3.1; rw [hcn] at this; cases this
    obtain ⟨c, hc⟩ := hsome
    rw [hc] at t2
    rw [decide_eq_false fun hk => hsp.1 hk c hc (by rw [ha c (hK.subset t2.1), ha r hr])]; rfl
end Pg
namespace Go.Proofs.Ytdoghlncoinhoaa
open Go.RowKit Pg Go.ChangeShapes Go.WideShapes Go.ChangeAt

set_option maxHeartbeats 1000000 in
set_option maxRecDepth 100000 in
theorem pruneLess_walk (l : List Rt) (v : Value) (act : Int) (_ : -9223372036854775808 ≤ act) (_ : act ≤ 9223372036854775807) (w : World) (hl : Els w v 4 Rt.cells l) : Calls Try.prog 5 #[v, .int .i64 act] w (Ret (.bool true) w) := by
  have HE := Lib.hid hl
  obtain ⟨ad, c, rfl, hc, he⟩ := hl.form
  cases htb : tab9B l
  · have HT := Lib.hid (fun W (h : Els W (.slice ad l.length c) 4 Rt.cells l) => law09table_as htb W h)
    clear hl he htb
    go_enter Try.func5, Try.ntmps5
    go_wp2_with fail
    refine (HT.out _ HE.out).mono ?_
    rintro e w1 ⟨rfl, q1, rfl⟩
    go_wp2_with fail
    refine (awake9_ok _).mono ?_
    rintro e w1 ⟨rfl, q2, rfl⟩
    go_wp2_with fail
    go_ret
    exact Ret.of (rfl) (by simp (maxDischargeDepth := 99))
  · obtain ⟨hTab, hn⟩ := tab9B_of htb
    have HT := Lib.hid (fun W (h : Els W (.slice ad l.length c) 4 Rt.cells l) => law09table_as htb W h)
    obtain ⟨K, hK⟩ : ∃ K, keepL l = K := ⟨_, rfl⟩
    have hKs : K.Sublist l := by rw [← hK]; exact keepL_sub hTab
    have hKl : K.length ≤ 24 := Nat.le_trans hKs.length_le hn
    have hpk := Lib.hid (fun W (u : Value) (h : Els W u 4 Rt.cells l) => show Calls Try.prog 16 #[u] W (RetEls 48 4 Rt.cells K W) by rw [← hK]; exact pkeep_any W h hTab (by omega))
    have hfd := Lib.hid (fun (e : Rt) (he : e ∈ K) W (u : Value) (h : Els W u 4 Rt.cells l) => show Calls Try.prog 21 #[u, pv e.x e.n] W (Ret (.tuple #[rv e, .bool true]) W) by have := ribfind_any e.x e.n W h hTab (by omega); rwa [find_self hTab (hKs.subset he)] at this)
    obtain ⟨L, hL⟩ : ∃ L, l.map (oneA act) = L := ⟨_, rfl⟩
    have hLl : L.length = l.length := by rw [← hL]; simp
    have hL24 : L.length ≤ 24 := by omega
    have hTL : Tab L := by rw [← hL]; exact tab_one hTab act
    have hcov := Lib.hid (fun (e : Rt) (he : e ∈ L) W (u : Value) (h : Els W u 4 Rt.cells L) => show Calls Try.prog 22 #[u, pv e.x e.n] W (Ret (retR (nearK L e)) W) by rw [← cov_near2 hTL he]; exact ribcover_any e.x e.n W h (by omega))
    have hnd := Lib.hid (fun (e : Rt) (he : e ∈ L) W (u : Value) (h : Els W u 4 Rt.cells L) => show Calls Try.prog 18 #[u, pv e.x e.n] W (Ret (.bool (!(nearK L e).isSome)) W) by
      have := pneeds_any e.x e.n W h hTL (by omega)
      rwa [less_one hTL act (fun r hr => by rw [← hL] at hr; obtain ⟨s, _, rfl⟩ := List.mem_map.1 hr; rfl) he] at this)
    have HLm := Lib.hid (fun k (h : k < l.length) => show ∃ h2 : k < L.length, L[k] = oneA act l[k] from ⟨by omega, by simp [← hL]⟩)
    have HLl := Lib.hid hLl
    clear hl he htb hTab hK hKs hL hTL hLl
    go_enter Try.func5, Try.ntmps5
    go_wp2_with fail
    refine (HT.out _ HE.out).mono ?_
    rintro e w1 ⟨rfl, q1, rfl⟩
    go_wp2_with fail
    refine (hpk.out _ _ (HE.out.ext _)).mono ?_
    rintro e w1 hR
    obtain ⟨a1, c1, rfl, hlc1, hown1, hels1⟩ := RetEls.out2 Rt.cells_len hR
    have HE1 := Lib.hid hels1
    have HK1 := Lib.hid hown1.1
    clear hown1 hels1 hR
    go_wp2_with fail
    have HKW := Lib.hid (Kept.trans (kept_extR w q1) HK1.out)
    go_loopw [6, 7, 8, 23] (fun _ _ _ vk wr => ∃ k : Nat, k ≤ K.length ∧ vk = .int .i64 k ∧ Kept w1 wr) (fun _ _ _ vk _ => K.length - (intOf vk).toNat)
    case atStart => exact ⟨0, by omega, rfl, Kept.refl _⟩
    case round =>
      obtain ⟨k, hk, rfl, hkw⟩ := hrel
      have HX := Lib.hid hkw
      by_cases hlt : k < K.length
      · have hkl : (k : Int) < (K.length : Int) := by omega
        obtain ⟨b, o, rfl, hb, hcell⟩ := (HE1.out.kept hkw).at_ (k) hlt
        obtain ⟨e, hee⟩ : ∃ e, (K)[k]'hlt = e := ⟨_, rfl⟩
        rw [hee] at hcell
        have c0 : wr.cell? ⟨b, o + k * 4, none⟩ = some (.int .u64 (hi e.x)) := hcell 0 (by omega)
        have c1 : wr.cell? ⟨b, o + k * 4 + 1, none⟩ = some (.int .u64 (lo e.x)) := hcell 1 (by omega)
        have c2 : wr.cell? ⟨b, o + k * 4 + 2, none⟩ = some (.int .i64 e.n) := hcell 2 (by omega)
        have c3 : wr.cell? ⟨b, o + k * 4 + 3, none⟩ = some (.int .i64 e.act) := hcell 3 (by omega)
        have Hee := Lib.hid hee
        clear hcell hee
        have hmem : e ∈ K := by rw [← Hee.out]; exact List.getElem_mem hlt
        have HF := Lib.hid (hfd.out e hmem)
        clear hkw Hee hmem
        go_wp2_with fail
        refine (HF.out _ _ (HE.out.kept (HKW.out.trans (HX.out.trans (Kept.alloc (Kept.refl _) _))))).mono ?_
        rintro e w1 ⟨rfl, q5, rfl⟩
        go_wp2_with fail
        go_roundw
        case rel => exact ⟨k + 1, by omega, by go_num, HX.out.trans (by simp (maxDischargeDepth := 99))⟩
        case measure => simp [intOf]; omega
      · have hkl : k = K.length := by omega
        subst hkl
        have HKX := Lib.hid (HKW.out.trans hkw)
        clear hkw hlt hk
        by_cases hact : act < 1 ∨ 255 < act
        · by_cases ha1 : act < 1
          · clear hact
            go_wp2_with fail
            refine (awake9_ok _).mono ?_
            rintro e w1 ⟨rfl, q5, rfl⟩
            go_wp2_with fail
            go_ret
            exact Ret.of (rfl) (by simp (maxDischargeDepth := 99) [HKX.out])
          · have ha2 : 255 < act := by omega
            clear hact
            go_wp2_with fail
            refine (awake9_ok _).mono ?_
            rintro e w1 ⟨rfl, q5, rfl⟩
            go_wp2_with fail
            go_ret
            exact Ret.of (rfl) (by simp (maxDischargeDepth := 99) [HKX.out])
        · have ha1 : ¬ act < 1 := by omega
          have ha2 : ¬ 255 < act := by omega
          clear hact
          go_wp2_with fail
          go_loopw [9, 11, 51] (fun vo _ vk w5 => ∃ k : Nat, k ≤ l.length ∧ vk = .int .i64 k ∧ Own wr w5 48 4 vo k ((L.take k).flatMap Rt.cells)) (fun _ _ vk _ => l.length - (intOf vk).toNat)
          case atStart => exact ⟨0, by omega, rfl, Own.nil _ _ (Kept.refl _) _ _⟩
          case round =>
            obtain ⟨k, hk, rfl, hown⟩ := hrel
            have HO := Lib.hid hown
            by_cases hlt : k < l.length
            · have hkl : (k : Int) < (l.length : Int) := by omega
              obtain ⟨hkL, hLk⟩ := HLm.out k hlt
              have hT := show L.take (k + 1) = L.take k ++ [L[k]] from List.take_succ_eq_append_getElem hkL
              obtain ⟨b, o, rfl, hb, hcell⟩ := (HE.out.kept (HKX.out.trans hown.1)).at_ (k) hlt
              obtain ⟨e, hee⟩ : ∃ e, (l)[k]'hlt = e := ⟨_, rfl⟩
              rw [hee] at hcell
              have c0 : wr.cell? ⟨b, o + k * 4, none⟩ = some (.int .u64 (hi e.x)) := hcell 0 (by omega)
              have c1 : wr.cell? ⟨b, o + k * 4 + 1, none⟩ = some (.int .u64 (lo e.x)) := hcell 1 (by omega)
              have c2 : wr.cell? ⟨b, o + k * 4 + 2, none⟩ = some (.int .i64 e.n) := hcell 2 (by omega)
              have c3 : wr.cell? ⟨b, o + k * 4 + 3, none⟩ = some (.int .i64 e.act) := hcell 3 (by omega)
              have Hee := Lib.hid hee
              clear hcell hee
              rw [hLk, Hee.out] at hT
              have HT2 := Lib.hid hT
              clear hown Hee hT hLk
              have q1 : ∀ u ∈ Rt.cells (oneA act e), u.oneCell' = true := by simp [Rt.cells, Value.oneCell']
              have q2 : k + 1 ≤ maxLen := by unfold maxLen; omega
              have q3 : (k + 1) * 32 ≤ 140737488355328 := by omega
              go_wp2_with (first | (at_builtin; refine wpList_push rfl _ _ 22 rfl 48 (.agg #[.int .u64 0, .int .u64 0, .int .i64 0, .int .i64 0]) 4 32 Try.underlying22 info_route rfl (by omega) u9 k ((L.take k).flatMap Rt.cells) rfl ((HO.out.alloc _).alloc _) _ 1 1 (Rt.cells (oneA act e)) rfl rfl (Blk.new' _ _ _ (by simp)) q1 q2 q3 ?_; intro v' w1 hown1))
              go_roundw
              case rel => exact ⟨k + 1, by omega, by go_num, by rw [HT2.out, List.flatMap_append]; simpa using hown1⟩
              case measure => simp [intOf]; omega
            · have hkl : k = l.length := by omega
              subst hkl
              have hLl := HLl.out
              rw [← hLl, List.take_length] at hown
              have HKY := Lib.hid (HKX.out.trans hown.1)
              obtain ⟨a9, c9, hv9, hc9, hel9⟩ := (Own.els Rt.cells_len hown).form
              have HE9 := Lib.hid hel9
              subst hv9
              clear hown HO hlt hk hel9 hLl
              go_wp2_with fail
              go_loopw [13, 14, 15, 65] (fun _ _ _ vk w5 => ∃ k : Nat, k ≤ L.length ∧ vk = .int .i64 k ∧ Kept wr w5) (fun _ _ _ vk _ => L.length - (intOf vk).toNat)
              case atStart => exact ⟨0, by omega, rfl, Kept.refl _⟩
              case round =>
                obtain ⟨k, hk, rfl, hkw⟩ := hrel
                have HZ := Lib.hid hkw
                by_cases hlt : k < L.length
                · have hkl : (k : Int) < (L.length : Int) := by omega
                  obtain ⟨b, o, rfl, hb, hcell⟩ := (HE9.out.kept hkw).at_ (k) hlt
                  obtain ⟨e, hee⟩ : ∃ e, (L)[k]'hlt = e := ⟨_, rfl⟩
                  rw [hee] at hcell
                  have c0 : wr.cell? ⟨b, o + k * 4, none⟩ = some (.int .u64 (hi e.x)) := hcell 0 (by omega)
                  have c1 : wr.cell? ⟨b, o + k * 4 + 1, none⟩ = some (.int .u64 (lo e.x)) := hcell 1 (by omega)
                  have c2 : wr.cell? ⟨b, o + k * 4 + 2, none⟩ = some (.int .i64 e.n) := hcell 2 (by omega)
                  have c3 : wr.cell? ⟨b, o + k * 4 + 3, none⟩ = some (.int .i64 e.act) := hcell 3 (by omega)
                  have Hee := Lib.hid hee
                  clear hcell hee
                  have hmem : e ∈ L := by rw [← Hee.out]; exact List.getElem_mem hlt
                  have HC := Lib.hid (hcov.out e hmem)
                  have HN := Lib.hid (hnd.out e hmem)
                  obtain ⟨o9, ho9⟩ : ∃ o, nearK L e = o := ⟨_, rfl⟩
                  rw [ho9] at HC HN
                  obtain ⟨b9, hb9⟩ : ∃ b, o9.getD z0r = b := ⟨_, rfl⟩
                  obtain ⟨i9, hi9⟩ : ∃ i, o9.isSome = i := ⟨_, rfl⟩
                  have HC2 := Lib.hid (fun W (u : Value) (h : Els W u 4 Rt.cells L) => show Calls Try.prog 22 #[u, pv e.x e.n] W (Ret (.tuple #[rv b9, .bool i9]) W) by have := HC.out W u h; rwa [show retR o9 = .tuple #[rv b9, .bool i9] by unfold retR; rw [hb9, hi9]] at this)
                  rw [hi9] at HN
                  clear hkw Hee hmem HC ho9 hb9 hi9
                  obtain ⟨gx, hgx⟩ : ∃ gx, gx = wr.heap.size := ⟨_, rfl⟩
                  have HBX := Lib.hid (Blk.new' wr 48 #[.int .u64 (hi e.x), .int .u64 (lo e.x), .int .i64 e.n, .int .i64 e.act] hgx)
                  have HGX := Lib.hid hgx
                  clear hgx
                  cases i9
                  · go_wp2_with fail
                    refine (HC2.out _ _ (HE9.out.kept (HZ.out.trans (Kept.alloc (Kept.refl _) _)))).mono ?_
                    rintro e w1 ⟨rfl, q5, rfl⟩
                    go_wp2_with fail
                    refine (HN.out _ _ (HE9.out.kept (HZ.out.trans (by simp (maxDischargeDepth := 99))))).mono ?_
                    rintro e w1 ⟨rfl, q6, rfl⟩
                    go_wp2_with fail
                    go_roundw
                    case rel => exact ⟨k + 1, by omega, by go_num, HZ.out.trans (by simp (maxDischargeDepth := 99))⟩
                    case measure => simp [intOf]; omega
                  · go_wp2_with fail
                    refine (HC2.out _ _ (HE9.out.kept (HZ.out.trans (Kept.alloc (Kept.refl _) _)))).mono ?_
                    rintro e w1 ⟨rfl, q5, rfl⟩
                    go_wp2_with fail
                    refine (HN.out _ _ (HE9.out.kept (HZ.out.trans (by simp (maxDischargeDepth := 99))))).mono ?_
                    rintro e w1 ⟨rfl, q6, rfl⟩
                    go_wp2_with fail
                    go_roundw
                    case rel => exact ⟨k + 1, by omega, by go_num, HZ.out.trans (by simp (maxDischargeDepth := 99))⟩
                    case measure => simp [intOf]; omega
                · have hkl : k = L.length := by omega
                  subst hkl
                  have hkf := Lib.hid (HKY.out.trans hkw)
                  clear hkw hlt hk
                  go_wp2_with fail
                  refine (awake9_ok _).mono ?_
                  rintro e w1 ⟨rfl, q7, rfl⟩
                  go_wp2_with fail
                  go_ret
                  exact Ret.of (rfl) (by simp (maxDischargeDepth := 99) [hkf.out])
set_option maxRecDepth 100000 in
theorem pruneLess_lifted (os : Os) (started : os.Started) (H : Type) (enc : TypeId × Value → H) :
    ReturnsInHanded {} Try.checked os 5 .any (Rows.pruneLessSpec.pre6 enc Try.prog Try.f5 Rows.pruneLessRow.domain false) (Rows.pruneLessSpec.post enc Try.prog Try.f5 false true false false) := by
  refine returnsInHanded_of_change (C := Try.checked) own started (by kernel_rfl) Try.func5
    (ChangeSpec.witness6 (enc := enc) (C := Try.checked) false ⟨#[], #[.slice none 0 0, .int .i64 0], []⟩ 8 (by kernel_rfl) (by kernel_rfl) (by kernel_rfl) (by kernel_rfl)) ?_
  intro W base args ds gs before hval0 hW hcnd _
  have hval : ∀ (j : Nat) t v, Try.f5.params[j]? = some t → args[j]? = some v → Value.okWide Try.prog W .any base t v := hval0
  have hW' := hW
  obtain ⟨p, q, hA0, hV, rfl, hfz, hnd⟩ := hW
  obtain ⟨rfl, rfl⟩ := trodVars_none hV
  rw [List.append_nil] at hW'
  have hA : DataW.TrodAll enc Try.prog W 0 (fun _ => true) true Try.f5.params.toList args.toList ds p := hA0
  have hA1 := hA
  rw [Try.params5] at hA1 hval
  obtain ⟨v0, vs0, d0, ds0, p0, q0, hargs, rfl, rfl, h0, r0⟩ := trodAll_cons hA1
  obtain ⟨v1, vs1, d1, ds1, p1, q1, rfl, rfl, rfl, h1, r1⟩ := trodAll_cons r0
  obtain ⟨rfl, rfl, rfl⟩ := trodAll_nil r1
  obtain rfl : args = #[v0, v1] := by cases args; simp_all
  obtain ⟨L0, E0, _⟩ := open_routes (hval 0 _ v0 rfl rfl) h0
  obtain ⟨X1, rfl, rfl, rfl, w1⟩ := open_int Try.underlying3 (hval 1 _ v1 rfl rfl) h1
  refine (pruneLess_walk L0 v0 X1 (wf_i64' w1).1 (wf_i64' w1).2 W E0).mono fun e W' ⟨he, hg⟩ => ?_
  subst he
  exact ⟨_, rfl, post_true laidOut (by rw [Try.params5]; intro t ht; simp at ht; first | (subst ht; exact ⟨by kernel_rfl, of_decide_eq_true (by kernel_rfl)⟩) | (rcases ht with rfl | rfl <;> exact ⟨by kernel_rfl, of_decide_eq_true (by kernel_rfl)⟩) | (rcases ht with rfl | rfl | rfl <;> exact ⟨by kernel_rfl, of_decide_eq_true (by kernel_rfl)⟩) | (rcases ht with rfl | rfl | rfl | rfl <;> exact ⟨by kernel_rfl, of_decide_eq_true (by kernel_rfl)⟩)) rfl hW' hA rfl (trodAll_cons_mk (shut_bool Try.underlying4 _) trodAll_mk0) (Later.kept hg)⟩

theorem pruneLess_holds : Rows.PruneLessSaid :=
  OpenClaim.holds_of_wide 5 Try.f5 rfl rfl rfl rfl rfl rfl rfl ⟨rfl, rfl, rfl, rfl, rfl⟩ rfl rfl rfl rfl rfl (by kernel_rfl) Try.func5 (by kernel_rfl)
    (of_decide_eq_true (by kernel_rfl)) (by unfold Func.isWrapper; first | (rw [if_pos (by decide +kernel)]; kernel_rfl) | (rw [if_neg (by decide +kernel)]; exact ⟨rfl, rfl⟩))
    (fun os started H enc _ => pruneLess_lifted os started H enc)
#print axioms pruneLess_holds
end Go.Proofs.Ytdoghlncoinhoaa
