/- PruneNeeds: a route that is kept says something else than the one that covers it. -/
import Derived.Test.YtdoghlncoinhoaaRows
import Derived.Test.YtdoghlncoinhoaaDrop
import Derived.Test.YtdoghlncoinhoaaLongest2
import Derived.Test.YtdoghlncoinhoaaKeep2
import Derived.Test.YtdoghlncoinhoaaPrune9
import Derived.Test.YtdoghlncoinhoaaOpenRts
namespace Pg
open Go
theorem bestO_pt {p q : Rt → Bool} : ∀ (l : List Rt), (∀ s ∈ l, p s = q s) → bestO p l = bestO q l := by
  intro l
  induction l using rev_ind with
  | h0 => intro _; rfl
  | hs l s ih =>
    intro hk
    rw [bestO_snoc, bestO_snoc, ih fun t ht => hk t (by simp [ht]), hk s (by simp)]
/-- Without a route, that of the longest prefix at its own address is the nearest one that covers it. -/
theorem best_drop {K : List Rt} (h : Tab K) {e : Rt} (he : e ∈ K) (hb : bestO (matchR e.x) K = some e) : bestO (matchR e.x) (K.filter fun s => !eqR e.x e.n s) = nearK K e := by
  rw [bestO_filter]
  have ht := bestO_top (matchR e.x) K
  rw [hb] at ht
  unfold nearK
  refine bestO_pt K fun s hs => ?_
  rw [Bool.eq_iff_iff]
  unfold nearP eqR
  simp only [Bool.and_eq_true, Bool.not_eq_true', Bool.and_eq_false_iff, decide_eq_true_eq, decide_eq_false_iff_not]
  constructor
  · rintro ⟨h1, h2⟩
    refine ⟨?_, h2⟩
    have h3 := ht.2.2 s hs h2
    rcases Int.lt_or_le s.n e.n with hlt | hle
    · exact hlt
    · exfalso
      have hn : s.n = e.n := by omega
      have hx := same_of_match (h.right s hs) (h.right e he) h2 (match_self (h.right e he)) hn
      rcases h1 with h1 | h1
      · exact h1 hx
      · exact h1 hn
  · rintro ⟨h1, h2⟩
    exact ⟨.inr (by omega), h2⟩
theorem tell_drop {K : List Rt} (h : Tab K) {e : Rt} (he : e ∈ K) (hb : bestO (matchR e.x) K = some e) (h1 : 1 ≤ e.act) (hs : ∀ c, nearK K e = some c → c.act ≠ e.act) : tellR (K.filter fun s => !eqR e.x e.n s) e.x ≠ e.act := by
  unfold tellR
  rw [best_drop h he hb]
  cases hc : nearK K e with
  | none => show (0 : Int) ≠ _; omega
  | some c => exact hs c hc
theorem best_self {K : List Rt} (h : Tab K) {e : Rt} (he : e ∈ K) : ∃ b, bestO (matchR e.x) K = some b ∧ b ∈ K ∧ e.n ≤ b.n := by
  have ht := bestO_top (matchR e.x) K
  have hm : matchR e.x e = true := match_self (h.right e he)
  cases hb : bestO (matchR e.x) K with
  | none => rw [hb] at ht; have := ht e he; rw [hm] at this; cases this
  | some b => rw [hb] at ht; exact ⟨b, rfl, ht.1, ht.2.2 e he hm⟩
end Pg
namespace Go.Proofs.Ytdoghlncoinhoaa
open Go.RowKit Pg Go.ChangeShapes Go.WideShapes Go.ChangeAt

set_option maxHeartbeats 1000000 in
set_option maxRecDepth 100000 in
theorem pruneNeeds_walk (l : List Rt) (v : Value) (w : World) (hl : Els w v 4 Rt.cells l) : Calls Try.prog 7 #[v] w (Ret (.bool true) w) := by
  have HE := Lib.hid hl
  obtain ⟨ad, c, rfl, hc, he⟩ := hl.form
  cases htb : tab9B l
  · have HT := Lib.hid (fun W (h : Els W (.slice ad l.length c) 4 Rt.cells l) => law09table_as htb W h)
    clear hl he htb
    go_enter Try.func7, Try.ntmps7
    go_wp2_with fail
    refine (HT.out _ HE.out).mono ?_
    rintro e w1 ⟨rfl, q1, rfl⟩
    go_wp2_with fail
    refine (awake9_ok _).mono ?_
    rintro e w1 ⟨rfl, q2, rfl⟩
    go_wp2_with fail
    go_ret
    exact Ret.of (rfl) (by simp (maxDischargeDepth := 99))
  · obtain ⟨hTab, hn⟩ := tab9B_of htb
    have hTab2 : ∀ r ∈ l, rightR 128 r = true := by unfold tab9B at htb; simp only [Bool.and_eq_true] at htb; exact (tab_of htb.2).2.1
    have HT := Lib.hid (fun W (h : Els W (.slice ad l.length c) 4 Rt.cells l) => law09table_as htb W h)
    obtain ⟨K, hK⟩ : ∃ K, keepL l = K := ⟨_, rfl⟩
    have hTK : Tab K := by rw [← hK]; exact keepL_tab hTab
    have hKs : K.Sublist l := by rw [← hK]; exact keepL_sub hTab
    have hK2 : keepL K = K := by rw [← hK]; exact keepL_twice hTab
    have hKl : K.length ≤ 24 := Nat.le_trans hKs.length_le hn
    have hpk := Lib.hid (fun W (u : Value) (h : Els W u 4 Rt.cells l) => show Calls Try.prog 16 #[u] W (RetEls 48 4 Rt.cells K W) by rw [← hK]; exact pkeep_any W h hTab (by omega))
    have hbs := Lib.hid (fun (e : Rt) (he : e ∈ K) => best_self hTK he)
    have hbc := Lib.hid (fun (e : Rt) (b : Rt) (hb : bestO (matchR e.x) K = some b) W (u : Value) (h : Els W u 4 Rt.cells K) => show Calls Try.prog 25 #[u, av e.x] W (Ret (.tuple #[rv b, .bool true]) W) by have := ribbest_any e.x W h (by omega); rwa [hb] at this)
    have hdr := Lib.hid (fun (e : Rt) W (u : Value) (h : Els W u 4 Rt.cells K) => ribdrop_any e.x e.n W h hTK (by omega))
    have hdl := fun e : Rt => Nat.le_trans (List.length_filter_le (fun s : Rt => !eqR e.x e.n s) K) hKl
    have htl := Lib.hid (fun (e : Rt) W (u : Value) (h : Els W u 4 Rt.cells (K.filter fun s => !eqR e.x e.n s)) => ribtell_any e.x W h (by have := hdl e; omega))
    have hne := Lib.hid (fun (e : Rt) (he : e ∈ K) (hb : bestO (matchR e.x) K = some e) => tell_drop hTK he hb (by
      have := hTab2 e (hKs.subset he)
      unfold rightR at this
      simp only [Bool.and_eq_true, decide_eq_true_eq] at this
      omega) (by have := (keepL_spec hTK he).1 (by rw [hK2]; exact he); rwa [hK2] at this))
    have hsame := Lib.hid (fun (e b : Rt) (he : e ∈ K) (hb : b ∈ K) (h1 : b.x = e.x) (h2 : b.n = e.n) => hTK.same hb he h1 h2)
    clear hl he htb hTab hK hTK hK2 hTab2 hKs hdl
    go_enter Try.func7, Try.ntmps7
    go_wp2_with fail
    refine (HT.out _ HE.out).mono ?_
    rintro e w1 ⟨rfl, q1, rfl⟩
    go_wp2_with fail
    refine (hpk.out _ _ (HE.out.ext _)).mono ?_
    rintro e w1 hR
    obtain ⟨a1, c1, rfl, hlc1, hown1, hels1⟩ := RetEls.out2 Rt.cells_len hR
    have HE1 := Lib.hid hels1
    have HK1 := Lib.hid hown1.1
    clear hown1 hels1 hR
    go_wp2_with fail
    have HKW := Lib.hid (Kept.trans (kept_extR w q1) HK1.out)
    go_loopw [5, 6, 7, 16] (fun _ _ _ vk wr => ∃ k : Nat, k ≤ K.length ∧ vk = .int .i64 k ∧ Kept w1 wr) (fun _ _ _ vk _ => K.length - (intOf vk).toNat)
    case atStart => exact ⟨0, by omega, rfl, Kept.refl _⟩
    case round =>
      obtain ⟨k, hk, rfl, hkw⟩ := hrel
      have HX := Lib.hid hkw
      by_cases hlt : k < K.length
      · have hkl : (k : Int) < (K.length : Int) := by omega
        have k0 : (0 : Int) ≤ k := by omega
        obtain ⟨b, o, rfl, hb, hcell⟩ := (HE1.out.kept hkw).at_ (k) hlt
        obtain ⟨e, hee⟩ : ∃ e, (K)[k]'hlt = e := ⟨_, rfl⟩
        rw [hee] at hcell
        have c0 : wr.cell? ⟨b, o + k * 4, none⟩ = some (.int .u64 (hi e.x)) := hcell 0 (by omega)
        have c1 : wr.cell? ⟨b, o + k * 4 + 1, none⟩ = some (.int .u64 (lo e.x)) := hcell 1 (by omega)
        have c2 : wr.cell? ⟨b, o + k * 4 + 2, none⟩ = some (.int .i64 e.n) := hcell 2 (by omega)
        have c3 : wr.cell? ⟨b, o + k * 4 + 3, none⟩ = some (.int .i64 e.act) := hcell 3 (by omega)
        have Hee := Lib.hid hee
        clear hcell hee
        have hmem : e ∈ K := by rw [← Hee.out]; exact List.getElem_mem hlt
        obtain ⟨bb, hbb, hbm, hbn⟩ := hbs.out e hmem
        have HC := Lib.hid (hbc.out e bb hbb)
        obtain ⟨ex, en, ea⟩ := e
        obtain ⟨bx, bn, ba⟩ := bb
        have hlt2 : decide (bn < en) = false := by
          have h5 : en ≤ bn := hbn
          simp; omega
        by_cases hsm : bx = ex ∧ bn = en
        · obtain ⟨h1, h2⟩ := hsm
          have h3 := hsame.out _ _ hmem hbm h1 h2
          subst h1; subst h2
          obtain rfl : ba = ea := by injection h3
          obtain ⟨t9, ht9⟩ : ∃ t, tellR (K.filter fun s => !eqR bx bn s) bx = t := ⟨_, rfl⟩
          have hn9 : (t9 == ba) = false := by
            have := hne.out _ hmem hbb
            simp only at this
            rw [ht9] at this
            simpa using this
          have hd9 := Lib.hid (fun W (u : Value) (h : Els W u 4 Rt.cells K) => hdr.out ⟨bx, bn, ba⟩ W u h)
          have hl9 := Lib.hid (fun W (u : Value) (h : Els W u 4 Rt.cells (K.filter fun s => !eqR bx bn s)) => show Calls Try.prog 19 #[u, av bx] W (Ret (.int .i64 t9) W) by have := htl.out ⟨bx, bn, ba⟩ W u h; rwa [ht9] at this)
          clear hkw Hee hmem hbb hbm hbn h3 ht9
          go_wp2_with fail
          refine (HC.out _ _ (HE1.out.kept (HX.out.trans (Kept.alloc (Kept.refl _) _)))).mono ?_
          rintro e w1 ⟨rfl, q5, rfl⟩
          go_wp2_with fail
          obtain ⟨gb, hgb⟩ : ∃ gb, gb = (ext (wr.alloc (.cells #[.int .u64 (hi bx), .int .u64 (lo bx), .int .i64 bn, .int .i64 ba] 48)) q5).heap.size := ⟨_, rfl⟩
          obtain ⟨gr, hgr⟩ : ∃ gr, gr = wr.heap.size := ⟨_, rfl⟩
          obtain ⟨wz, hwz⟩ : ∃ wz, wz = (ext (wr.alloc (.cells #[.int .u64 (hi bx), .int .u64 (lo bx), .int .i64 bn, .int .i64 ba] 48)) q5).alloc (.cells #[.int .u64 (hi bx), .int .u64 (lo bx), .int .i64 bn, .int .i64 ba] 48) := ⟨_, rfl⟩
          have HKZ := Lib.hid (show Kept wr wz by rw [hwz]; exact (((Kept.refl wr).alloc _).ext _).alloc _)
          obtain ⟨r0, r1, r2, r3, rl⟩ := Blk.four (show Blk wz gr 48 #[.int .u64 (hi bx), .int .u64 (lo bx), .int .i64 bn, .int .i64 ba] by rw [hwz]; exact ((Blk.new' wr _ _ hgr).ext _).alloc _)
          obtain ⟨s0, s1, s2, s3, sl⟩ := Blk.four (show Blk wz gb 48 #[.int .u64 (hi bx), .int .u64 (lo bx), .int .i64 bn, .int .i64 ba] by rw [hwz]; exact Blk.new' _ _ _ hgb)
          rw [← hwz, ← hgb, ← hgr]
          clear hwz hgb hgr
          refine region_seq _ (Later.refl _) mixed (by kernel_rfl) (by kernel_rfl) ?_
          intro q9
          refine seq_named fun W1 hW1 => ?_
          have hC := Lib.hid (show ∃ p, W1 = ext _ p from ⟨q9, hW1⟩)
          clear hW1 q9
          repeat (first | (refine seq_plain (by rfl) ?_; go_big_quiet_step (fail); refine wpQuiet_nil ?_))
          refine seq_move (by rfl) (by rfl) ?_
          go_wp2_with fail
          refine (hd9.out _ _ (HE1.out.kept (HX.out.trans (HKZ.out.trans (Later.kept hC.out))))).mono ?_
          rintro e w4 hR
          obtain ⟨a4, c4, rfl, hlc4, hown4, hels4⟩ := RetEls.out2 Rt.cells_len hR
          have hkk := kept_on hC (by first | exact .inl rfl | exact .inr ⟨_, rfl⟩) hown4.1
          replace hC := class_kept hC hkk
          have HE4 := Lib.hid hels4
          clear hown4 hels4 hR hkk
          go_wp2_with fail
          refine ⟨_, rfl, hC.out, ?_⟩
          repeat (first | (refine seq_plain (by rfl) ?_; go_big_quiet_step (fail); refine wpQuiet_nil ?_) | (refine seq_move (by rfl) (by rfl) ?_; go_wp2_with (first | (go_at_call 19; first | ((with_reducible refine (calls_in (hl9.out _ _ HE4.out)).mono ?_); rintro e w1 ⟨rfl, q1, rfl⟩) | ((with_reducible refine (hl9.out _ _ HE4.out).mono ?_); rintro e w1 ⟨rfl, q1, rfl⟩) | ((with_reducible refine (calls_in (hl9.out _ _ HE4.out)).mono ?_); rintro e w1 ⟨rfl, q1, rfl⟩) | ((with_reducible refine (hl9.out _ _ HE4.out).mono ?_); rintro e w1 ⟨rfl, q1, rfl⟩))); refine ⟨_, rfl, (class_kept hC (by first | exact below_ext _ _ | exact Kept.refl _)).out, ?_⟩))
          refine seq_nil ?_
          have hkC := Later.kept hC.out
          clear hC
          have hkf := Lib.hid (HX.out.trans (HKZ.out.trans hkC))
          clear hkC
          go_wp2_with fail
          go_roundw
          case rel => exact ⟨k + 1, by omega, by go_num, hkf.out.trans (by simp (maxDischargeDepth := 99))⟩
          case measure => simp [intOf]; omega
        · by_cases hx : bx = ex
          · subst hx
            have hn9 : ¬ bn = en := fun h => hsm ⟨rfl, h⟩
            clear hkw Hee hmem hbb hbm hbn hsm
            go_wp2_with fail
            refine (HC.out _ _ (HE1.out.kept (HX.out.trans (Kept.alloc (Kept.refl _) _)))).mono ?_
            rintro e w1 ⟨rfl, q5, rfl⟩
            go_wp2_with fail
            obtain ⟨gb, hgb⟩ : ∃ gb, gb = (ext (wr.alloc (.cells #[.int .u64 (hi bx), .int .u64 (lo bx), .int .i64 en, .int .i64 ea] 48)) q5).heap.size := ⟨_, rfl⟩
            obtain ⟨gr, hgr⟩ : ∃ gr, gr = wr.heap.size := ⟨_, rfl⟩
            obtain ⟨wz, hwz⟩ : ∃ wz, wz = (ext (wr.alloc (.cells #[.int .u64 (hi bx), .int .u64 (lo bx), .int .i64 en, .int .i64 ea] 48)) q5).alloc (.cells #[.int .u64 (hi bx), .int .u64 (lo bx), .int .i64 bn, .int .i64 ba] 48) := ⟨_, rfl⟩
            have HKZ := Lib.hid (show Kept wr wz by rw [hwz]; exact (((Kept.refl wr).alloc _).ext _).alloc _)
            obtain ⟨r0, r1, r2, r3, rl⟩ := Blk.four (show Blk wz gr 48 #[.int .u64 (hi bx), .int .u64 (lo bx), .int .i64 en, .int .i64 ea] by rw [hwz]; exact ((Blk.new' wr _ _ hgr).ext _).alloc _)
            obtain ⟨s0, s1, s2, s3, sl⟩ := Blk.four (show Blk wz gb 48 #[.int .u64 (hi bx), .int .u64 (lo bx), .int .i64 bn, .int .i64 ba] by rw [hwz]; exact Blk.new' _ _ _ hgb)
            rw [← hwz, ← hgb, ← hgr]
            clear hwz hgb hgr
            refine region_ext _ (by first | exact Later.ext _ _ | exact Later.refl _) mixed (by kernel_rfl) ?_
            repeat (go_big_quiet_step (fail))
            refine wpQuiet_nil ?_
            rintro _ ⟨q, rfl⟩
            have hkf := Lib.hid (HX.out.trans HKZ.out)
            go_wp2_with fail
            go_roundw
            case rel => exact ⟨k + 1, by omega, by go_num, hkf.out.trans (by simp (maxDischargeDepth := 99))⟩
            case measure => simp [intOf]; omega
          · clear hkw Hee hmem hbb hbm hbn hsm
            go_wp2_with fail
            refine (HC.out _ _ (HE1.out.kept (HX.out.trans (Kept.alloc (Kept.refl _) _)))).mono ?_
            rintro e w1 ⟨rfl, q5, rfl⟩
            go_wp2_with fail
            obtain ⟨gb, hgb⟩ : ∃ gb, gb = (ext (wr.alloc (.cells #[.int .u64 (hi ex), .int .u64 (lo ex), .int .i64 en, .int .i64 ea] 48)) q5).heap.size := ⟨_, rfl⟩
            obtain ⟨gr, hgr⟩ : ∃ gr, gr = wr.heap.size := ⟨_, rfl⟩
            obtain ⟨wz, hwz⟩ : ∃ wz, wz = (ext (wr.alloc (.cells #[.int .u64 (hi ex), .int .u64 (lo ex), .int .i64 en, .int .i64 ea] 48)) q5).alloc (.cells #[.int .u64 (hi bx), .int .u64 (lo bx), .int .i64 bn, .int .i64 ba] 48) := ⟨_, rfl⟩
            have HKZ := Lib.hid (show Kept wr wz by rw [hwz]; exact (((Kept.refl wr).alloc _).ext _).alloc _)
            obtain ⟨r0, r1, r2, r3, rl⟩ := Blk.four (show Blk wz gr 48 #[.int .u64 (hi ex), .int .u64 (lo ex), .int .i64 en, .int .i64 ea] by rw [hwz]; exact ((Blk.new' wr _ _ hgr).ext _).alloc _)
            obtain ⟨s0, s1, s2, s3, sl⟩ := Blk.four (show Blk wz gb 48 #[.int .u64 (hi bx), .int .u64 (lo bx), .int .i64 bn, .int .i64 ba] by rw [hwz]; exact Blk.new' _ _ _ hgb)
            rw [← hwz, ← hgb, ← hgr]
            clear hwz hgb hgr
            refine region_ext _ (by first | exact Later.ext _ _ | exact Later.refl _) mixed (by kernel_rfl) ?_
            repeat (go_big_quiet_step (fail))
            refine wpQuiet_nil ?_
            rintro _ ⟨q, rfl⟩
            have hkf := Lib.hid (HX.out.trans HKZ.out)
            go_wp2_with fail
            go_roundw
            case rel => exact ⟨k + 1, by omega, by go_num, hkf.out.trans (by simp (maxDischargeDepth := 99))⟩
            case measure => simp [intOf]; omega
      · have hkl : k = K.length := by omega
        subst hkl
        have hkf := Lib.hid (HKW.out.trans HX.out)
        clear hkw hlt hk
        go_wp2_with fail
        refine (awake9_ok _).mono ?_
        rintro e w1 ⟨rfl, q8, rfl⟩
        go_wp2_with fail
        go_ret
        exact Ret.of (rfl) (by simp (maxDischargeDepth := 99) [hkf.out])
set_option maxRecDepth 100000 in
theorem pruneNeeds_lifted (os : Os) (started : os.Started) (H : Type) (enc : TypeId × Value → H) :
    ReturnsInHanded {} Try.checked os 7 .any (Rows.pruneNeedsSpec.pre6 enc Try.prog Try.f7 Rows.pruneNeedsRow.domain false) (Rows.pruneNeedsSpec.post enc Try.prog Try.f7 false true false false) := by
  refine returnsInHanded_of_change (C := Try.checked) own started (by kernel_rfl) Try.func7
    (ChangeSpec.witness6 (enc := enc) (C := Try.checked) false ⟨#[], #[.slice none 0 0], []⟩ 8 (by kernel_rfl) (by kernel_rfl) (by kernel_rfl) (by kernel_rfl)) ?_
  intro W base args ds gs before hval0 hW hcnd _
  have hval : ∀ (j : Nat) t v, Try.f7.params[j]? = some t → args[j]? = some v → Value.okWide Try.prog W .any base t v := hval0
  have hW' := hW
  obtain ⟨p, q, hA0, hV, rfl, hfz, hnd⟩ := hW
  obtain ⟨rfl, rfl⟩ := trodVars_none hV
  rw [List.append_nil] at hW'
  have hA : DataW.TrodAll enc Try.prog W 0 (fun _ => true) true Try.f7.params.toList args.toList ds p := hA0
  have hA1 := hA
  rw [Try.params7] at hA1 hval
  obtain ⟨v0, vs0, d0, ds0, p0, q0, hargs, rfl, rfl, h0, r0⟩ := trodAll_cons hA1
  obtain ⟨rfl, rfl, rfl⟩ := trodAll_nil r0
  obtain rfl : args = #[v0] := by cases args; simp_all
  obtain ⟨L0, E0, _⟩ := open_routes (hval 0 _ v0 rfl rfl) h0
  refine (pruneNeeds_walk L0 v0 W E0).mono fun e W' ⟨he, hg⟩ => ?_
  subst he
  exact ⟨_, rfl, post_true laidOut (by rw [Try.params7]; intro t ht; simp at ht; first | (subst ht; exact ⟨by kernel_rfl, of_decide_eq_true (by kernel_rfl)⟩) | (rcases ht with rfl | rfl <;> exact ⟨by kernel_rfl, of_decide_eq_true (by kernel_rfl)⟩) | (rcases ht with rfl | rfl | rfl <;> exact ⟨by kernel_rfl, of_decide_eq_true (by kernel_rfl)⟩) | (rcases ht with rfl | rfl | rfl | rfl <;> exact ⟨by kernel_rfl, of_decide_eq_true (by kernel_rfl)⟩)) rfl hW' hA rfl (trodAll_cons_mk (shut_bool Try.underlying4 _) trodAll_mk0) (Later.kept hg)⟩

theorem pruneNeeds_holds : Rows.PruneNeedsSaid :=
  OpenClaim.holds_of_wide 7 Try.f7 rfl rfl rfl rfl rfl rfl rfl ⟨rfl, rfl, rfl, rfl, rfl⟩ rfl rfl rfl rfl rfl (by kernel_rfl) Try.func7 (by kernel_rfl)
    (of_decide_eq_true (by kernel_rfl)) (by unfold Func.isWrapper; first | (rw [if_pos (by decide +kernel)]; kernel_rfl) | (rw [if_neg (by decide +kernel)]; exact ⟨rfl, rfl⟩))
    (fun os started H enc _ => pruneNeeds_lifted os started H enc)
#print axioms pruneNeeds_holds
end Go.Proofs.Ytdoghlncoinhoaa
