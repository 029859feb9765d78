/- BankTells: what a bank's search finds is what its slots tell. -/
import Derived.Test.YtpocbcohoefojaaRows
import Derived.Test.YtpocbcohoefojaaBank14
import Derived.Test.YtpocbcohoefojaaOpenSlots
namespace Pg
open Go
theorem idx_len {l : List Slot} {p : Slot → Bool} : idxI p l < l.length ∨ idxI p l = -1 := by
  rcases idxI_cases p l with ⟨h, _⟩ | ⟨k, hk, h, _⟩
  · exact .inr h
  · exact .inl (by omega)
end Pg
namespace Go.Proofs.Ytpocbcohoefojaa
open Go.RowKit Pg Go.ChangeShapes Go.WideShapes Go.ChangeAt

set_option maxHeartbeats 1000000 in
set_option maxRecDepth 100000 in
theorem bankTells_go {l : List Wr} {v : Value} (n : Nat) (h1 : 1 ≤ n) (h2 : n ≤ 256) (a : B) (w : World) (hl : Els w v 8 Wr.cells l) (hn : l.length ≤ 40) (k : Nat) (hk : k < n) (is : Bool)
    (S : List Slot) (hS : S = applyS (List.replicate n z0) l) (hSl : S.length = n) (hse0 : ∀ {g gr : Nat} {c : Int} {wb w : World}, BankAt wb w g gr S c → Calls Try.prog 21 #[.pointer (some ⟨g, 0, none⟩), av a] w (Ret (.tuple #[.int .i64 (k : Int), .bool is]) w))
    (T : Int) (htell : tellS S a = T) (hT : T = if is then (S[k]'(by omega)).e.act else 0) (hv : is = true → (S[k]'(by omega)).v = true) : Calls Try.prog 5 #[.int .i64 (n : Int), v, av a] w (Ret (.bool true) w) := by
  have HE := Lib.hid hl
  obtain ⟨ad, c, rfl, hc, he⟩ := hl.form
  have HS := Lib.hid hS
  have hse := Lib.hid (fun (g gr : Nat) (c : Int) (wb w : World) (h : BankAt wb w g gr S c) => hse0 h)
  have htl := Lib.hid (fun w (v : Value) (h : Els w v 7 Slot.cells S) => show Calls Try.prog 24 #[v, av a] w (Ret (.int .i64 T) w) by rw [← htell]; exact btell_any a w h (by omega))
  obtain ⟨s, hs⟩ : ∃ s, S[k]'(by omega) = s := ⟨_, rfl⟩
  have hrd := Lib.hid (fun (g gr : Nat) (c : Int) (wb w : World) (h : BankAt wb w g gr S c) => show Calls Try.prog 20 #[.pointer (some ⟨g, 0, none⟩), .int .i64 (k : Int)] w (Ret (.tuple #[slv s, .int .i64 0]) w) by rw [← hs]; exact bread_yes h k (by omega))
  rw [hs] at hT hv
  have g1 : ¬ (40 : Int) < (l.length : Int) := by omega
  clear hl hS htell hs hse0 he hSl
  go_enter Try.func5, Try.ntmps5
  go_wp2_with (first | (go_at_call 10; refine (bnew_yes n _ h1 h2).mono ?_; rintro e w1 ⟨g, gr, rfl, hk1, hB1⟩; have HB1 := Lib.hid hB1; clear hB1 hk1))
  go_loopw [10, 35] (fun _ vk wr => ∃ (k : Nat) (cnt : Int), k ≤ l.length ∧ vk = .int .i64 k ∧ 0 ≤ cnt ∧ cnt ≤ k ∧ BankAt (w.alloc (.cells #[.int .u64 (hi a), .int .u64 (lo a)] 31)) wr g gr (applyS (List.replicate n z0) (l.take k)) cnt) (fun _ k _ => l.length - (intOf k).toNat)
  case atStart => exact ⟨0, 0, by omega, rfl, by omega, by omega, HB1.out⟩
  case round =>
    obtain ⟨i, cnt, hi9, rfl, hc0, hck, hb⟩ := hrel
    have HB := Lib.hid hb
    clear HB1
    by_cases hlt : i < l.length
    · have hil : (i : Int) < (l.length : Int) := by omega
      have hkw := (Kept.alloc (Kept.refl w) (.cells #[.int .u64 (hi a), .int .u64 (lo a)] 31)).trans hb.own.1
      obtain ⟨b, o, rfl, hb, hcell⟩ := (HE.out.kept hkw).at_ (i) hlt
      obtain ⟨e, hee⟩ : ∃ e, (l)[i]'hlt = e := ⟨_, rfl⟩
      rw [hee] at hcell
      have c0 : wr.cell? ⟨b, o + i * 8, none⟩ = some (.int .i64 e.at_) := hcell 0 (by omega)
      have c1 : wr.cell? ⟨b, o + i * 8 + 1, none⟩ = some (.bool e.s.v) := hcell 1 (by omega)
      have c2 : wr.cell? ⟨b, o + i * 8 + 2, none⟩ = some (.int .u64 (hi e.s.e.x)) := hcell 2 (by omega)
      have c3 : wr.cell? ⟨b, o + i * 8 + 3, none⟩ = some (.int .u64 (lo e.s.e.x)) := hcell 3 (by omega)
      have c4 : wr.cell? ⟨b, o + i * 8 + 4, none⟩ = some (.int .u64 (hi e.s.e.m)) := hcell 4 (by omega)
      have c5 : wr.cell? ⟨b, o + i * 8 + 5, none⟩ = some (.int .u64 (lo e.s.e.m)) := hcell 5 (by omega)
      have c6 : wr.cell? ⟨b, o + i * 8 + 6, none⟩ = some (.int .i64 e.s.e.len) := hcell 6 (by omega)
      have c7 : wr.cell? ⟨b, o + i * 8 + 7, none⟩ = some (.int .i64 e.s.e.act) := hcell 7 (by omega)
      have Hee := Lib.hid hee
      clear hcell hee
      have HD := Lib.hid (fun W (hk : Kept wr W) => bdo_step (HB.out.kept hk) hlt hc0 hck (by omega) e Hee.out)
      clear hb hkw Hee htl hrd hse
      go_wp2_with (first | (go_at_call 13; refine (HD.out _ (Kept.alloc (Kept.refl _) _)).mono ?_; rintro e9 w2 ⟨er, cn2, rfl, hd0, hd1, hb2⟩; have HB2 := Lib.hid hb2; clear hb2))
      go_roundw
      case rel => exact ⟨i + 1, cn2, by omega, by go_num, hd0, by omega, HB2.out⟩
      case measure => simp [intOf]; omega
    · have hil : i = l.length := by omega
      subst hil
      rw [List.take_length, ← HS.out] at hb
      have HB := Lib.hid hb
      have hbx := Blk.kept (Blk.new' w 31 #[.int .u64 (hi a), .int .u64 (lo a)] (g := w.heap.size) rfl) hb.own.1
      have HK := Lib.hid ((Kept.alloc (Kept.refl w) (.cells #[.int .u64 (hi a), .int .u64 (lo a)] 31)).trans hb.own.1)
      obtain ⟨x0, x1, xl⟩ := Blk.two hbx
      have HBX := Lib.hid hbx
      clear hbx hb hlt
      cases is
      · simp only [Bool.false_eq_true, if_false] at hT
        subst hT
        clear hv
        go_wp2_with (first | (go_at_call 21; refine (hse.out _ _ _ _ _ HB.out).mono ?_; rintro e w1 ⟨rfl, qa, rfl⟩) | (go_at_call 20; refine (hrd.out _ _ _ _ _ (HB.out.kept (by simp (maxDischargeDepth := 99)))).mono ?_; rintro e w1 ⟨rfl, qb, rfl⟩))
        refine named fun wz hwz => ?_
        have hkz := Lib.hid (show Kept wr wz by rw [hwz]; simp (maxDischargeDepth := 99))
        obtain ⟨y0, y1, yl⟩ := Blk.two (HBX.out.kept hkz.out)
        clear hwz x0 x1 xl
        refine region_seq _ (Later.refl _) mixed (by kernel_rfl) (by kernel_rfl) ?_
        intro q9
        refine seq_named fun W1 hW1 => ?_
        have hC := Lib.hid (show ∃ p, W1 = ext _ p from ⟨q9, hW1⟩)
        clear hW1 q9
        repeat (first | (refine seq_plain (by rfl) ?_; go_big_quiet_step (fail); refine wpQuiet_nil ?_))
        refine seq_move (by rfl) (by rfl) ?_
        go_wp2_with fail
        refine (bslots_any (HB.out.kept (Kept.trans hkz.out (Later.kept hC.out)))).mono ?_
        rintro e w2 hR
        obtain ⟨a2, c2, rfl, hlc2, hown2, hels2⟩ := RetEls.out2 Slot.cells_len hR
        have hkk := kept_on hC (by first | exact .inl rfl | exact .inr ⟨_, rfl⟩) hown2.1
        replace hC := class_kept hC hkk
        have HE2 := Lib.hid hels2
        clear hown2 hels2 hR hkk
        go_wp2_with fail
        refine ⟨_, rfl, hC.out, ?_⟩
        repeat (first | (refine seq_plain (by rfl) ?_; go_big_quiet_step (fail); refine wpQuiet_nil ?_) | (refine seq_move (by rfl) (by rfl) ?_; go_wp2_with (first | (go_at_call 24; first | ((with_reducible refine (calls_in (htl.out _ _ HE2.out)).mono ?_); rintro e w1 ⟨rfl, q1, rfl⟩) | ((with_reducible refine (htl.out _ _ HE2.out).mono ?_); rintro e w1 ⟨rfl, q1, rfl⟩) | ((with_reducible refine (calls_in (htl.out _ _ HE2.out)).mono ?_); rintro e w1 ⟨rfl, q1, rfl⟩) | ((with_reducible refine (htl.out _ _ HE2.out).mono ?_); rintro e w1 ⟨rfl, q1, rfl⟩)) | (go_at_call 11; first | ((refine (calls_in (awake8_ok _)).mono ?_); rintro e w1 ⟨rfl, q1, rfl⟩) | ((refine (awake8_ok _).mono ?_); rintro e w1 ⟨rfl, q1, rfl⟩))); refine ⟨_, rfl, (class_kept hC (by first | exact below_ext _ _ | exact Kept.refl _)).out, ?_⟩))
        refine seq_nil ?_
        have hkC := Later.kept hC.out
        clear hC
        have hkf := Lib.hid (HK.out.trans (Kept.trans hkz.out hkC))
        clear hkC
        go_wp2_with fail
        go_ret
        exact Ret.of (rfl) (by simp (maxDischargeDepth := 99) [hkf.out])
      · simp only [if_true] at hT
        subst hT
        have hv := hv rfl
        obtain ⟨sv, se⟩ := s
        dsimp only at hv
        subst hv
        go_wp2_with (first | (go_at_call 21; refine (hse.out _ _ _ _ _ HB.out).mono ?_; rintro e w1 ⟨rfl, qa, rfl⟩) | (go_at_call 20; refine (hrd.out _ _ _ _ _ (HB.out.kept (by simp (maxDischargeDepth := 99)))).mono ?_; rintro e w1 ⟨rfl, qb, rfl⟩))
        have hbs := Blk.new' (ext (ext wr qa) qb) 37 #[.bool true, .int .u64 (hi se.x), .int .u64 (lo se.x), .int .u64 (hi se.m), .int .u64 (lo se.m), .int .i64 se.len, .int .i64 se.act] (g := (ext (ext wr qa) qb).heap.size) rfl
        refine named fun wz hwz => ?_
        rw [← hwz] at hbs
        have y3 := hbs.cell 0
        have y4 := hbs.lt
        have hkz := Lib.hid (show Kept wr wz by rw [hwz]; simp (maxDischargeDepth := 99))
        obtain ⟨y0, y1, yl⟩ := Blk.two (HBX.out.kept hkz.out)
        clear hwz hbs x0 x1 xl
        refine region_seq _ (Later.refl _) mixed (by kernel_rfl) (by kernel_rfl) ?_
        intro q9
        refine seq_named fun W1 hW1 => ?_
        have hC := Lib.hid (show ∃ p, W1 = ext _ p from ⟨q9, hW1⟩)
        clear hW1 q9
        repeat (first | (refine seq_plain (by rfl) ?_; go_big_quiet_step (fail); refine wpQuiet_nil ?_))
        refine seq_move (by rfl) (by rfl) ?_
        go_wp2_with fail
        refine (bslots_any (HB.out.kept (Kept.trans hkz.out (Later.kept hC.out)))).mono ?_
        rintro e w2 hR
        obtain ⟨a2, c2, rfl, hlc2, hown2, hels2⟩ := RetEls.out2 Slot.cells_len hR
        have hkk := kept_on hC (by first | exact .inl rfl | exact .inr ⟨_, rfl⟩) hown2.1
        replace hC := class_kept hC hkk
        have HE2 := Lib.hid hels2
        clear hown2 hels2 hR hkk
        go_wp2_with fail
        refine ⟨_, rfl, hC.out, ?_⟩
        repeat (first | (refine seq_plain (by rfl) ?_; go_big_quiet_step (fail); refine wpQuiet_nil ?_) | (refine seq_move (by rfl) (by rfl) ?_; go_wp2_with (first | (go_at_call 24; first | ((with_reducible refine (calls_in (htl.out _ _ HE2.out)).mono ?_); rintro e w1 ⟨rfl, q1, rfl⟩) | ((with_reducible refine (htl.out _ _ HE2.out).mono ?_); rintro e w1 ⟨rfl, q1, rfl⟩) | ((with_reducible refine (calls_in (htl.out _ _ HE2.out)).mono ?_); rintro e w1 ⟨rfl, q1, rfl⟩) | ((with_reducible refine (htl.out _ _ HE2.out).mono ?_); rintro e w1 ⟨rfl, q1, rfl⟩)) | (go_at_call 11; first | ((refine (calls_in (awake8_ok _)).mono ?_); rintro e w1 ⟨rfl, q1, rfl⟩) | ((refine (awake8_ok _).mono ?_); rintro e w1 ⟨rfl, q1, rfl⟩))); refine ⟨_, rfl, (class_kept hC (by first | exact below_ext _ _ | exact Kept.refl _)).out, ?_⟩))
        refine seq_nil ?_
        have hkC := Later.kept hC.out
        clear hC
        have hkf := Lib.hid (HK.out.trans (Kept.trans hkz.out hkC))
        clear hkC
        go_wp2_with fail
        go_ret
        exact Ret.of (rfl) (by simp (maxDischargeDepth := 99) [hkf.out])
theorem bankTells_walk (n : Int) (_ : -9223372036854775808 ≤ n) (_ : n ≤ 9223372036854775807) (l : List Wr) (v : Value) (a : B) (w : World) (hl : Els w v 8 Wr.cells l) : Calls Try.prog 5 #[.int .i64 n, v, av a] w (Ret (.bool true) w) := by
  by_cases hr : 1 ≤ n ∧ n ≤ 256
  · obtain ⟨m, rfl⟩ := Int.eq_ofNat_of_zero_le (show 0 ≤ n by omega)
    by_cases hn : l.length ≤ 40
    · have hSl : (applyS (List.replicate m z0) l).length = m := by rw [applyS_len]; simp
      rcases idxI_cases (matchS a) (applyS (List.replicate m z0) l) with ⟨hi, _⟩ | ⟨k, hk, hi, hp, _⟩
      · exact bankTells_go m (by omega) (by omega) a w hl hn 0 (by omega) false _ rfl hSl (fun h => by have := bsearch_any h a; rwa [hi] at this) 0 (by unfold tellS; rw [hi]; rfl) rfl (fun h => by cases h)
      · refine bankTells_go m (by omega) (by omega) a w hl hn k (by omega) true _ rfl hSl (fun h => by have := bsearch_any h a; rwa [hi, Int.max_eq_left (by omega), decide_eq_true (by omega)] at this) _ rfl ?_ (fun _ => ?_)
        · unfold tellS; rw [hi, if_neg (by omega)]; simp [hk]
        · unfold matchS at hp; simp only [Bool.and_eq_true] at hp; exact hp.1
    · obtain ⟨ad, c, rfl, hc, he⟩ := hl.form
      have g1 : (40 : Int) < (l.length : Int) := by omega
      have g2 := hr.1
      have g3 := hr.2
      clear hl he hn
      go_enter Try.func5, Try.ntmps5
      go_wp2_with (first | (go_at_call 10; refine (bnew_yes m _ (by omega) (by omega)).mono ?_; rintro e w1 ⟨g, gr, rfl, hk1, hB1⟩; have HK1 := Lib.hid hk1; clear hB1 hk1) | (go_at_call 11; first | ((refine (calls_in (awake8_ok _)).mono ?_); rintro e w1 ⟨rfl, q1, rfl⟩) | ((refine (awake8_ok _).mono ?_); rintro e w1 ⟨rfl, q1, rfl⟩)))
      have hkf := Lib.hid ((Kept.alloc (Kept.refl w) (.cells #[.int .u64 (hi a), .int .u64 (lo a)] 31)).trans HK1.out)
      go_ret
      exact Ret.of (rfl) (by simp (maxDischargeDepth := 99) [hkf.out])
  · obtain ⟨ad, c, rfl, hc, he⟩ := hl.form
    clear hl he
    go_enter Try.func5, Try.ntmps5
    go_wp2_with (first | (go_at_call 10; first | ((refine (calls_in (bnew_no n _ hr)).mono ?_); rintro e w1 ⟨rfl, q1, rfl⟩) | ((refine (bnew_no n _ hr).mono ?_); rintro e w1 ⟨rfl, q1, rfl⟩)) | (go_at_call 11; first | ((refine (calls_in (awake8_ok _)).mono ?_); rintro e w1 ⟨rfl, q1, rfl⟩) | ((refine (awake8_ok _).mono ?_); rintro e w1 ⟨rfl, q1, rfl⟩)))
    go_ret
    exact Ret.of (rfl) (by simp (maxDischargeDepth := 99))
set_option maxRecDepth 100000 in
theorem bankTells_lifted (os : Os) (started : os.Started) (H : Type) (enc : TypeId × Value → H) :
    ReturnsInHanded {} Try.checked os 5 .any (Rows.bankTellsSpec.pre6 enc Try.prog Try.f5 Rows.bankTellsRow.domain false) (Rows.bankTellsSpec.post enc Try.prog Try.f5 false true false false) := by
  refine returnsInHanded_of_change (C := Try.checked) own started (by kernel_rfl) Try.func5
    (ChangeSpec.witness6 (enc := enc) (C := Try.checked) false ⟨#[], #[.int .i64 0, .slice none 0 0, .agg #[.int .u64 0, .int .u64 0]], []⟩ 8 (by kernel_rfl) (by kernel_rfl) (by kernel_rfl) (by kernel_rfl)) ?_
  intro W base args ds gs before hval0 hW hcnd _
  have hval : ∀ (j : Nat) t v, Try.f5.params[j]? = some t → args[j]? = some v → Value.okWide Try.prog W .any base t v := hval0
  have hW' := hW
  obtain ⟨p, q, hA0, hV, rfl, hfz, hnd⟩ := hW
  obtain ⟨rfl, rfl⟩ := trodVars_none hV
  rw [List.append_nil] at hW'
  have hA : DataW.TrodAll enc Try.prog W 0 (fun _ => true) true Try.f5.params.toList args.toList ds p := hA0
  have hA1 := hA
  rw [Try.params5] at hA1 hval
  obtain ⟨v0, vs0, d0, ds0, p0, q0, hargs, rfl, rfl, h0, r0⟩ := trodAll_cons hA1
  obtain ⟨v1, vs1, d1, ds1, p1, q1, rfl, rfl, rfl, h1, r1⟩ := trodAll_cons r0
  obtain ⟨v2, vs2, d2, ds2, p2, q2, rfl, rfl, rfl, h2, r2⟩ := trodAll_cons r1
  obtain ⟨rfl, rfl, rfl⟩ := trodAll_nil r2
  obtain rfl : args = #[v0, v1, v2] := by cases args; simp_all
  obtain ⟨X0, rfl, rfl, rfl, w0⟩ := open_int Try.underlying3 (hval 0 _ v0 rfl rfl) h0
  obtain ⟨L1, E1, _⟩ := open_wrs (hval 1 _ v1 rfl rfl) h1
  obtain ⟨X2, rfl⟩ := open_addr (hval 2 _ v2 rfl rfl) h2
  refine (bankTells_walk X0 (wf_i64' w0).1 (wf_i64' w0).2 L1 v1 X2 W E1).mono fun e W' ⟨he, hg⟩ => ?_
  subst he
  exact ⟨_, rfl, post_true laidOut (by rw [Try.params5]; intro t ht; simp at ht; first | (subst ht; exact ⟨by kernel_rfl, of_decide_eq_true (by kernel_rfl)⟩) | (rcases ht with rfl | rfl <;> exact ⟨by kernel_rfl, of_decide_eq_true (by kernel_rfl)⟩) | (rcases ht with rfl | rfl | rfl <;> exact ⟨by kernel_rfl, of_decide_eq_true (by kernel_rfl)⟩) | (rcases ht with rfl | rfl | rfl | rfl <;> exact ⟨by kernel_rfl, of_decide_eq_true (by kernel_rfl)⟩)) rfl hW' hA rfl (trodAll_cons_mk (shut_bool Try.underlying4 _) trodAll_mk0) (Later.kept hg)⟩

theorem bankTells_holds : Rows.BankTellsSaid :=
  OpenClaim.holds_of_wide 5 Try.f5 rfl rfl rfl rfl rfl rfl rfl ⟨rfl, rfl, rfl, rfl, rfl⟩ rfl rfl rfl rfl rfl (by kernel_rfl) Try.func5 (by kernel_rfl)
    (of_decide_eq_true (by kernel_rfl)) (by unfold Func.isWrapper; first | (rw [if_pos (by decide +kernel)]; kernel_rfl) | (rw [if_neg (by decide +kernel)]; exact ⟨rfl, rfl⟩))
    (fun os started H enc _ => bankTells_lifted os started H enc)
#print axioms bankTells_holds
end Go.Proofs.Ytpocbcohoefojaa
