/- BankOrdered: of slots whose entries are ordered, what is told is that of the best entry. -/
import Derived.Test.YtpocbcohoefojaaRows
import Derived.Test.YtpocbcohoefojaaAwake8
import Derived.Test.YtpocbcohoefojaaOrd
import Derived.Test.YtpocbcohoefojaaOpenSlots
namespace Pg
open Go
theorem kept_to (w : World) (p : Regrown) : Kept w (ext w p) := below_ext w p
theorem tellS_find (l : List Slot) (a : B) : tellS l a = ((l.find? (matchS a)).map fun s => s.e.act).getD 0 := by
  unfold tellS
  rcases idxI_cases (matchS a) l with ⟨e, hn⟩ | ⟨k, hk, e, hp, hn⟩
  · rw [e, if_pos (by omega), List.find?_eq_none.2 fun x hx => by
      obtain ⟨i, hi, rfl⟩ := List.getElem_of_mem hx
      rw [hn i hi]; decide]
    rfl
  · rw [e, if_neg (by omega), Int.toNat_natCast, List.getElem?_eq_getElem hk]
    have : l.find? (matchS a) = some l[k] := by
      rw [List.find?_eq_some_iff_getElem]
      exact ⟨hp, k, hk, rfl, fun j hj => by rw [hn j (by omega) hj]; rfl⟩
    rw [this]
theorem ents_find (a : B) : ∀ l : List Slot, (entsS l).find? (fun e => matchW e.x e.m a) = (l.find? (matchS a)).map (fun s => s.e)
  | [] => rfl
  | s :: l => by
    have ih := ents_find a l
    obtain ⟨v, e⟩ := s
    cases v
    · have h2 : matchS a ⟨false, e⟩ = false := by simp [matchS]
      simp only [List.find?_cons, h2]
      exact ih
    · show (e :: entsS l).find? _ = _
      cases hm : matchW e.x e.m a
      · have h2 : matchS a ⟨true, e⟩ = false := by simp [matchS, hm]
        simp only [List.find?_cons, hm, h2]
        exact ih
      · have h2 : matchS a ⟨true, e⟩ = true := by simp [matchS, hm]
        simp only [List.find?_cons, hm, h2]
        rfl
theorem tellS_ord (l : List Slot) (a : B) (h : ordE (entsS l) = true) : tellS l a = tellE (entsS l) a := by
  rw [tellE_find _ _ h, ents_find, tellS_find]
  cases l.find? (matchS a) <;> rfl
end Pg
namespace Go.Proofs.Ytpocbcohoefojaa
open Go.RowKit Pg Go.ChangeShapes Go.WideShapes Go.ChangeAt

set_option maxHeartbeats 1000000 in
set_option maxRecDepth 100000 in
theorem bankOrdered_walk (l : List Slot) (v : Value) (a : B) (w : World) (hl : Els w v 7 Slot.cells l) : Calls Try.prog 7 #[v, av a] w (Ret (.bool true) w) := by
  have HE := Lib.hid hl
  by_cases hn : l.length ≤ 40
  · have g1 : ¬ (40 : Int) < (l.length : Int) := by omega
    have hof := Lib.hid (fun w (v : Value) (h : Els w v 7 Slot.cells l) => law08of_any w h (by omega))
    obtain ⟨E, hE⟩ : ∃ E, E = entsS l := ⟨_, rfl⟩
    have hEl : E.length ≤ 40 := by rw [hE]; exact Nat.le_trans (entsS_len l) hn
    have hren := Lib.hid (fun w (v : Value) (h : Els w v 7 Slot.cells l) => show Calls Try.prog 28 #[v] w (RetEls 48 6 Ent.cells E w) by rw [hE]; exact refentries_any w h (by omega))
    have hent := Lib.hid (fun w (v : Value) (h : Els w v 7 Slot.cells l) => show Calls Try.prog 27 #[v] w (RetEls 35 6 Ent.cells E w) by rw [hE]; exact bentries_any w h (by omega))
    obtain ⟨ad, c, rfl, hc, he⟩ := hl.form
    clear hl he
    cases ho : ordE E
    · have hord := Lib.hid (fun w (v : Value) (h : Els w v 6 Ent.cells E) => show Calls Try.prog 29 #[v] w (Ret (.bool false) w) by rw [← ho]; exact refordered_any w h (by omega))
      clear hE ho
      go_enter Try.func7, Try.ntmps7
      go_wp2_with fail
      refine (hof.out _ _ (HE.out.alloc _)).mono ?_
      rintro e w1 hR
      obtain ⟨a1, c1, rfl, hlc1, hown1, hels1⟩ := RetEls.out2 Slot.cells_len hR
      have HE1 := Lib.hid hels1
      have HK1 := Lib.hid hown1.1
      clear hown1 hels1 hR
      go_wp2_with fail
      refine (hren.out _ _ HE1.out).mono ?_
      rintro e w2 hR
      obtain ⟨a2, c2, rfl, hlc2, hown2, hels2⟩ := RetEls.out2 Ent.cells_len hR
      have HE2 := Lib.hid hels2
      have HK2 := Lib.hid hown2.1
      clear hown2 hels2 hR
      go_wp2_with fail
      refine (hord.out _ _ HE2.out).mono ?_
      rintro e w1 ⟨rfl, q3, rfl⟩
      go_wp2_with fail
      have hkf := Lib.hid (Kept.trans (Kept.alloc (Kept.refl w) (.cells #[.int .u64 (hi a), .int .u64 (lo a)] 31)) (HK1.out.trans HK2.out))
      refine (awake8_ok _).mono ?_
      rintro e w1 ⟨rfl, q4, rfl⟩
      go_wp2_with fail
      go_ret
      exact Ret.of (rfl) (by simp (maxDischargeDepth := 99) [hkf.out])
    · have hord := Lib.hid (fun w (v : Value) (h : Els w v 6 Ent.cells E) => show Calls Try.prog 29 #[v] w (Ret (.bool true) w) by rw [← ho]; exact refordered_any w h (by omega))
      obtain ⟨T, hT⟩ : ∃ T, tellS l a = T := ⟨_, rfl⟩
      have ht1 := Lib.hid (fun w (v : Value) (h : Els w v 7 Slot.cells l) => show Calls Try.prog 24 #[v, av a] w (Ret (.int .i64 T) w) by rw [← hT]; exact btell_any a w h (by omega))
      have hT2 : tellE E a = T := by rw [← hT, hE, tellS_ord l a (by rw [← hE]; exact ho)]
      have ht2 := Lib.hid (fun w (v : Value) (h : Els w v 6 Ent.cells E) => show Calls Try.prog 30 #[v, av a] w (Ret (.int .i64 T) w) by rw [← hT2]; exact refetell_any a w h (by omega))
      have ht3 := Lib.hid (fun w (v : Value) (h : Els w v 6 Ent.cells E) => show Calls Try.prog 31 #[v, av a] w (Ret (.int .i64 T) w) by rw [← hT2]; exact etell_any a w h (by omega))
      clear hE ho hT hT2
      go_enter Try.func7, Try.ntmps7
      go_wp2_with fail
      refine (hof.out _ _ (HE.out.alloc _)).mono ?_
      rintro e w1 hR
      obtain ⟨a1, c1, rfl, hlc1, hown1, hels1⟩ := RetEls.out2 Slot.cells_len hR
      have HE1 := Lib.hid hels1
      have HK1 := Lib.hid hown1.1
      clear hown1 hels1 hR
      go_wp2_with fail
      refine (hren.out _ _ HE1.out).mono ?_
      rintro e w2 hR
      obtain ⟨a2, c2, rfl, hlc2, hown2, hels2⟩ := RetEls.out2 Ent.cells_len hR
      have HE2 := Lib.hid hels2
      have HK2 := Lib.hid hown2.1
      clear hown2 hels2 hR
      go_wp2_with fail
      refine (hord.out _ _ HE2.out).mono ?_
      rintro e w1 ⟨rfl, q3, rfl⟩
      go_wp2_with fail
      have HKA := Lib.hid (HK1.out.trans (HK2.out.trans (kept_to w2 q3)))
      have HKW := Lib.hid ((Kept.alloc (Kept.refl w) (.cells #[.int .u64 (hi a), .int .u64 (lo a)] 31)).trans HKA.out)
      have hba := Blk.kept (Blk.new' w 31 #[.int .u64 (hi a), .int .u64 (lo a)] (g := w.heap.size) rfl) HKA.out
      obtain ⟨wz, hwz⟩ : ∃ wz, wz = ext w2 q3 := ⟨_, rfl⟩
      have HEX := Lib.hid (HE2.out.kept (kept_to w2 q3))
      rw [← hwz] at HKA HKW hba HEX ⊢
      obtain ⟨y0, y1, yl⟩ := Blk.two hba
      clear hba hwz
      refine region_seq _ (Later.refl _) mixed (by kernel_rfl) (by kernel_rfl) ?_
      intro q9
      refine seq_named fun W1 hW1 => ?_
      have hC := Lib.hid (show ∃ p, W1 = ext _ p from ⟨q9, hW1⟩)
      clear hW1 q9
      repeat (first | (refine seq_plain (by rfl) ?_; go_big_quiet_step (fail); refine wpQuiet_nil ?_))
      have HEw := Lib.hid (HE.out.kept (HKW.out.trans (Later.kept hC.out)))
      have HXw := Lib.hid (HEX.out.kept (Later.kept hC.out))
      repeat (first | (refine seq_plain (by rfl) ?_; go_big_quiet_step (fail); refine wpQuiet_nil ?_) | (refine seq_move (by rfl) (by rfl) ?_; go_wp2_with (first | (go_at_call 24; first | ((with_reducible refine (calls_in (ht1.out _ _ (HEw.out.kept (kept_to _ _)))).mono ?_); rintro e w1 ⟨rfl, q1, rfl⟩) | ((with_reducible refine (ht1.out _ _ (HEw.out.kept (kept_to _ _))).mono ?_); rintro e w1 ⟨rfl, q1, rfl⟩) | ((with_reducible refine (calls_in (ht1.out _ _ HEw.out)).mono ?_); rintro e w1 ⟨rfl, q1, rfl⟩) | ((with_reducible refine (ht1.out _ _ HEw.out).mono ?_); rintro e w1 ⟨rfl, q1, rfl⟩)) | (go_at_call 30; first | ((with_reducible refine (calls_in (ht2.out _ _ (HXw.out.kept (kept_to _ _)))).mono ?_); rintro e w1 ⟨rfl, q1, rfl⟩) | ((with_reducible refine (ht2.out _ _ (HXw.out.kept (kept_to _ _))).mono ?_); rintro e w1 ⟨rfl, q1, rfl⟩) | ((with_reducible refine (calls_in (ht2.out _ _ HXw.out)).mono ?_); rintro e w1 ⟨rfl, q1, rfl⟩) | ((with_reducible refine (ht2.out _ _ HXw.out).mono ?_); rintro e w1 ⟨rfl, q1, rfl⟩))); refine ⟨_, rfl, (class_kept hC (by first | exact below_ext _ _ | exact Kept.refl _)).out, ?_⟩))
      refine seq_move (by rfl) (by rfl) ?_
      go_wp2_with fail
      refine (hent.out _ _ (HEw.out.kept (kept_to _ _))).mono ?_
      rintro e w3 hR
      obtain ⟨a3, c3, rfl, hlc3, hown3, hels3⟩ := RetEls.out2 Ent.cells_len hR
      have hkk := kept_on hC (by first | exact .inl rfl | exact .inr ⟨_, rfl⟩) hown3.1
      replace hC := class_kept hC hkk
      have HE3 := Lib.hid hels3
      clear hown3 hels3 hR hkk
      go_wp2_with fail
      refine ⟨_, rfl, hC.out, ?_⟩
      repeat (first | (refine seq_plain (by rfl) ?_; go_big_quiet_step (fail); refine wpQuiet_nil ?_) | (refine seq_move (by rfl) (by rfl) ?_; go_wp2_with (first | (go_at_call 31; first | ((with_reducible refine (calls_in (ht3.out _ _ HE3.out)).mono ?_); rintro e w1 ⟨rfl, q1, rfl⟩) | ((with_reducible refine (ht3.out _ _ HE3.out).mono ?_); rintro e w1 ⟨rfl, q1, rfl⟩) | ((with_reducible refine (calls_in (ht3.out _ _ HE3.out)).mono ?_); rintro e w1 ⟨rfl, q1, rfl⟩) | ((with_reducible refine (ht3.out _ _ HE3.out).mono ?_); rintro e w1 ⟨rfl, q1, rfl⟩)) | (go_at_call 11; first | ((refine (calls_in (awake8_ok _)).mono ?_); rintro e w1 ⟨rfl, q1, rfl⟩) | ((refine (awake8_ok _).mono ?_); rintro e w1 ⟨rfl, q1, rfl⟩))); refine ⟨_, rfl, (class_kept hC (by first | exact below_ext _ _ | exact Kept.refl _)).out, ?_⟩))
      refine seq_nil ?_
      have hkC := Later.kept hC.out
      clear hC
      have hkf := Lib.hid (HKW.out.trans hkC)
      clear hkC
      go_wp2_with fail
      go_ret
      exact Ret.of (rfl) (by simp (maxDischargeDepth := 99) [hkf.out])
  · obtain ⟨ad, c, rfl, hc, he⟩ := hl.form
    have g1 : (40 : Int) < (l.length : Int) := by omega
    clear hl he hn
    go_enter Try.func7, Try.ntmps7
    go_wp2_with (first | (go_at_call 11; first | ((refine (calls_in (awake8_ok _)).mono ?_); rintro e w1 ⟨rfl, q1, rfl⟩) | ((refine (awake8_ok _).mono ?_); rintro e w1 ⟨rfl, q1, rfl⟩)))
    go_ret
    exact Ret.of (rfl) (by simp (maxDischargeDepth := 99))
set_option maxRecDepth 100000 in
theorem bankOrdered_lifted (os : Os) (started : os.Started) (H : Type) (enc : TypeId × Value → H) :
    ReturnsInHanded {} Try.checked os 7 .any (Rows.bankOrderedSpec.pre6 enc Try.prog Try.f7 Rows.bankOrderedRow.domain false) (Rows.bankOrderedSpec.post enc Try.prog Try.f7 false true false false) := by
  refine returnsInHanded_of_change (C := Try.checked) own started (by kernel_rfl) Try.func7
    (ChangeSpec.witness6 (enc := enc) (C := Try.checked) false ⟨#[], #[.slice none 0 0, .agg #[.int .u64 0, .int .u64 0]], []⟩ 8 (by kernel_rfl) (by kernel_rfl) (by kernel_rfl) (by kernel_rfl)) ?_
  intro W base args ds gs before hval0 hW hcnd _
  have hval : ∀ (j : Nat) t v, Try.f7.params[j]? = some t → args[j]? = some v → Value.okWide Try.prog W .any base t v := hval0
  have hW' := hW
  obtain ⟨p, q, hA0, hV, rfl, hfz, hnd⟩ := hW
  obtain ⟨rfl, rfl⟩ := trodVars_none hV
  rw [List.append_nil] at hW'
  have hA : DataW.TrodAll enc Try.prog W 0 (fun _ => true) true Try.f7.params.toList args.toList ds p := hA0
  have hA1 := hA
  rw [Try.params7] at hA1 hval
  obtain ⟨v0, vs0, d0, ds0, p0, q0, hargs, rfl, rfl, h0, r0⟩ := trodAll_cons hA1
  obtain ⟨v1, vs1, d1, ds1, p1, q1, rfl, rfl, rfl, h1, r1⟩ := trodAll_cons r0
  obtain ⟨rfl, rfl, rfl⟩ := trodAll_nil r1
  obtain rfl : args = #[v0, v1] := by cases args; simp_all
  obtain ⟨L0, E0, _⟩ := open_slots (hval 0 _ v0 rfl rfl) h0
  obtain ⟨X1, rfl⟩ := open_addr (hval 1 _ v1 rfl rfl) h1
  refine (bankOrdered_walk L0 v0 X1 W E0).mono fun e W' ⟨he, hg⟩ => ?_
  subst he
  exact ⟨_, rfl, post_true laidOut (by rw [Try.params7]; intro t ht; simp at ht; first | (subst ht; exact ⟨by kernel_rfl, of_decide_eq_true (by kernel_rfl)⟩) | (rcases ht with rfl | rfl <;> exact ⟨by kernel_rfl, of_decide_eq_true (by kernel_rfl)⟩) | (rcases ht with rfl | rfl | rfl <;> exact ⟨by kernel_rfl, of_decide_eq_true (by kernel_rfl)⟩) | (rcases ht with rfl | rfl | rfl | rfl <;> exact ⟨by kernel_rfl, of_decide_eq_true (by kernel_rfl)⟩)) rfl hW' hA rfl (trodAll_cons_mk (shut_bool Try.underlying4 _) trodAll_mk0) (Later.kept hg)⟩

theorem bankOrdered_holds : Rows.BankOrderedSaid :=
  OpenClaim.holds_of_wide 7 Try.f7 rfl rfl rfl rfl rfl rfl rfl ⟨rfl, rfl, rfl, rfl, rfl⟩ rfl rfl rfl rfl rfl (by kernel_rfl) Try.func7 (by kernel_rfl)
    (of_decide_eq_true (by kernel_rfl)) (by unfold Func.isWrapper; first | (rw [if_pos (by decide +kernel)]; kernel_rfl) | (rw [if_neg (by decide +kernel)]; exact ⟨rfl, rfl⟩))
    (fun os started H enc _ => bankOrdered_lifted os started H enc)
#print axioms bankOrdered_holds
end Go.Proofs.Ytpocbcohoefojaa
