/- BankReplays: the writes of a bank, applied to empty slots, make its slots; applied twice they make the same. -/
import Derived.Test.YtpocbcohoefojaaRows
import Derived.Test.YtpocbcohoefojaaBank14
import Derived.Test.YtpocbcohoefojaaOpenSlots
namespace Go.Proofs.Ytpocbcohoefojaa
open Go.RowKit Pg Go.ChangeShapes Go.WideShapes Go.ChangeAt

set_option maxHeartbeats 1000000 in
set_option maxRecDepth 100000 in
theorem bankReplays_go {l : List Wr} {v : Value} (n : Nat) (h1 : 1 ≤ n) (h2 : n ≤ 40) (w : World) (hl : Els w v 8 Wr.cells l) (hn : l.length ≤ 40) : Calls Try.prog 6 #[.int .i64 (n : Int), v] w (Ret (.bool true) w) := by
  have HE := Lib.hid hl
  obtain ⟨ad, c, rfl, hc, he⟩ := hl.form
  obtain ⟨Z, hZ⟩ : ∃ Z, Z = List.replicate n z0 := ⟨_, rfl⟩
  have hZl : Z.length = n := by rw [hZ]; simp
  obtain ⟨S, hS⟩ : ∃ S, S = applyS Z l := ⟨_, rfl⟩
  have hSl : S.length = n := by rw [hS, applyS_len, hZl]
  have hS2 : applyS S l = S := by rw [hS]; exact applyS_twice Z l
  obtain ⟨E, hA⟩ : ∃ E, entsS S = E := ⟨_, rfl⟩
  have hAn : E.length ≤ n := by rw [← hA, ← hSl]; exact entsS_len S
  have hnew := Lib.hid (fun w => show Calls Try.prog 10 #[.int .i64 (n : Int)] w (fun e w2 => ∃ g gr, e = .returned (.tuple #[.pointer (some ⟨g, 0, none⟩), .int .i64 0]) ∧ Kept w w2 ∧ BankAt w w2 g gr Z 0) by rw [hZ]; exact bnew_yes n w h1 (by omega))
  have hap := Lib.hid (fun w (v u : Value) (h : Els w v 7 Slot.cells Z) (hw : Els w u 8 Wr.cells l) => show Calls Try.prog 25 #[v, u] w (RetEls 37 7 Slot.cells S w) by rw [hS]; exact bapply_any w h (by omega) hw (by omega))
  have hap2 := Lib.hid (fun w (v u : Value) (h : Els w v 7 Slot.cells S) (hw : Els w u 8 Wr.cells l) => show Calls Try.prog 25 #[v, u] w (RetEls 37 7 Slot.cells S w) by have := bapply_any w h (by omega) hw (by omega); rwa [hS2] at this)
  have hof := Lib.hid (fun w (v : Value) (h : Els w v 7 Slot.cells S) => law08of_any w h (by omega))
  have hsame := Lib.hid (fun w (v u : Value) (h : Els w v 7 Slot.cells S) (h' : Els w u 7 Slot.cells S) => same_any w h h' (by omega))
  have hfree := Lib.hid (fun w (v : Value) (h : Els w v 7 Slot.cells S) => show Calls Try.prog 26 #[v] w (Ret (.int .i64 ((n : Int) - (E.length : Int))) w) by have := bfree_any w h (by omega); rwa [hSl, hA] at this)
  have hent := Lib.hid (fun w (v : Value) (h : Els w v 7 Slot.cells S) => show Calls Try.prog 27 #[v] w (RetEls 35 6 Ent.cells E w) by rw [← hA]; exact bentries_any w h (by omega))
  have HS := Lib.hid hS
  have g1 : ¬ (40 : Int) < (l.length : Int) := by omega
  have g2 : ¬ (40 : Int) < (n : Int) := by omega
  clear hl hS he hSl hS2 hZl hZ hA
  go_enter Try.func6, Try.ntmps6
  go_wp2_with (first | (go_at_call 10; refine (hnew.out _).mono ?_; rintro e w1 ⟨g, gr, rfl, hk1, hB1⟩; have HB1 := Lib.hid hB1; clear hB1 hk1))
  refine (bslots_any HB1.out).mono ?_
  rintro e w2 hR
  obtain ⟨a2, c2, rfl, hlc2, hown2, hels2⟩ := RetEls.out2 Slot.cells_len hR
  have HE2 := Lib.hid hels2
  have HG := Lib.hid (show (Value.slice a2 Z.length c2).ownBlock ≠ some g ∧ (Value.slice a2 Z.length c2).ownBlock ≠ some gr by
    have h1 := HB1.out.blk.lt
    have h2 := (HB1.out.own.2.lt gr rfl).2
    constructor <;> intro h
    · have := (hown2.2.lt g h).1; omega
    · have := (hown2.2.lt gr h).1; omega)
  have HB2 := Lib.hid (HB1.out.kept hown2.1)
  clear HB1 hown2 hels2 hR
  go_wp2_with fail
  go_loopw [9, 36] (fun _ vk wr => ∃ (k : Nat) (cnt : Int), k ≤ l.length ∧ vk = .int .i64 k ∧ 0 ≤ cnt ∧ cnt ≤ k ∧ BankAt w wr g gr (applyS Z (l.take k)) cnt ∧ Els wr (.slice a2 Z.length c2) 7 Slot.cells Z) (fun _ k _ => l.length - (intOf k).toNat)
  case atStart => exact ⟨0, 0, by omega, rfl, by omega, by omega, HB2.out, HE2.out⟩
  case round =>
    clear HB2 HE2
    obtain ⟨i9, cnt, hi9, rfl, hc0, hck, hb, hz⟩ := hrel
    have HB := Lib.hid hb
    have HZ := Lib.hid hz
    by_cases hlt : i9 < l.length
    · have hil : (i9 : Int) < (l.length : Int) := by omega
      obtain ⟨b, o, rfl, hb, hcell⟩ := (HE.out.kept hb.own.1).at_ (i9) hlt
      obtain ⟨e, hee⟩ : ∃ e, (l)[i9]'hlt = e := ⟨_, rfl⟩
      rw [hee] at hcell
      have c0 : wr.cell? ⟨b, o + i9 * 8, none⟩ = some (.int .i64 e.at_) := hcell 0 (by omega)
      have c1 : wr.cell? ⟨b, o + i9 * 8 + 1, none⟩ = some (.bool e.s.v) := hcell 1 (by omega)
      have c2 : wr.cell? ⟨b, o + i9 * 8 + 2, none⟩ = some (.int .u64 (hi e.s.e.x)) := hcell 2 (by omega)
      have c3 : wr.cell? ⟨b, o + i9 * 8 + 3, none⟩ = some (.int .u64 (lo e.s.e.x)) := hcell 3 (by omega)
      have c4 : wr.cell? ⟨b, o + i9 * 8 + 4, none⟩ = some (.int .u64 (hi e.s.e.m)) := hcell 4 (by omega)
      have c5 : wr.cell? ⟨b, o + i9 * 8 + 5, none⟩ = some (.int .u64 (lo e.s.e.m)) := hcell 5 (by omega)
      have c6 : wr.cell? ⟨b, o + i9 * 8 + 6, none⟩ = some (.int .i64 e.s.e.len) := hcell 6 (by omega)
      have c7 : wr.cell? ⟨b, o + i9 * 8 + 7, none⟩ = some (.int .i64 e.s.e.act) := hcell 7 (by omega)
      have Hee := Lib.hid hee
      clear hcell hee
      have HD := Lib.hid (fun W (hk : Kept wr W) => bdo_stepC (HB.out.kept hk) hlt hc0 hck (by omega) e Hee.out)
      clear hb hz Hee hap hap2 hof hsame hfree hent
      go_wp2_with (first | (go_at_call 13; refine (HD.out _ (Kept.alloc (Kept.refl _) _)).mono ?_; rintro e9 w2 ⟨er, cn2, rfl, hd0, hd1, hb2, hcg⟩; have HB2 := Lib.hid hb2; have HC := Lib.hid hcg; clear hb2 hcg))
      go_roundw
      case rel => exact ⟨i9 + 1, cn2, by omega, by go_num, hd0, by omega, HB2.out, (HZ.out.alloc _).chg HC.out HG.out.1 HG.out.2⟩
      case measure => simp [intOf]; omega
    · have hil : i9 = l.length := by omega
      subst hil
      rw [List.take_length, ← HS.out] at hb
      have HB := Lib.hid hb
      have HK := Lib.hid hb.own.1
      clear hb hlt hz
      go_wp2_with fail
      refine (hap.out _ _ _ HZ.out (HE.out.kept HK.out)).mono ?_
      rintro e w1 hR
      obtain ⟨a1, c1, rfl, hlc1, hown1, hels1⟩ := RetEls.out2 Slot.cells_len hR
      have HE1 := Lib.hid hels1
      have HK1 := Lib.hid hown1.1
      clear hown1 hels1 hR
      go_wp2_with fail
      refine (bslots_any (HB.out.kept HK1.out)).mono ?_
      rintro e w2 hR
      obtain ⟨a2, c2, rfl, hlc2, hown2, hels2⟩ := RetEls.out2 Slot.cells_len hR
      have HE2 := Lib.hid hels2
      have HK2 := Lib.hid hown2.1
      clear hown2 hels2 hR
      go_wp2_with fail
      refine (hof.out _ _ (HE1.out.kept HK2.out)).mono ?_
      rintro e w3 hR
      obtain ⟨a3, c3, rfl, hlc3, hown3, hels3⟩ := RetEls.out2 Slot.cells_len hR
      have HE3 := Lib.hid hels3
      have HK3 := Lib.hid hown3.1
      clear hown3 hels3 hR
      go_wp2_with fail
      refine (hsame.out _ _ _ (HE2.out.kept HK3.out) HE3.out).mono ?_
      rintro e w1 ⟨rfl, q4, rfl⟩
      go_wp2_with fail
      have HK4 := Lib.hid (HK1.out.trans (HK2.out.trans (HK3.out.trans (below_ext w3 q4))))
      have HO4 := Lib.hid (HE1.out.kept (HK2.out.trans (HK3.out.trans (below_ext w3 q4))))
      refine (hap2.out _ _ _ HO4.out (HE.out.kept (HK.out.trans HK4.out))).mono ?_
      rintro e w5 hR
      obtain ⟨a5, c5, rfl, hlc5, hown5, hels5⟩ := RetEls.out2 Slot.cells_len hR
      have HE5 := Lib.hid hels5
      have HK5 := Lib.hid hown5.1
      clear hown5 hels5 hR
      go_wp2_with fail
      refine (hof.out _ _ (HO4.out.kept HK5.out)).mono ?_
      rintro e w6 hR
      obtain ⟨a6, c6, rfl, hlc6, hown6, hels6⟩ := RetEls.out2 Slot.cells_len hR
      have HE6 := Lib.hid hels6
      have HK6 := Lib.hid hown6.1
      clear hown6 hels6 hR
      go_wp2_with fail
      refine (hsame.out _ _ _ (HE5.out.kept HK6.out) HE6.out).mono ?_
      rintro e w1 ⟨rfl, q7, rfl⟩
      go_wp2_with fail
      have HK7 := Lib.hid (HK4.out.trans (HK5.out.trans (HK6.out.trans (below_ext w6 q7))))
      refine (bslots_any (HB.out.kept HK7.out)).mono ?_
      rintro e w8 hR
      obtain ⟨a8, c8, rfl, hlc8, hown8, hels8⟩ := RetEls.out2 Slot.cells_len hR
      have HE8 := Lib.hid hels8
      have HK8 := Lib.hid hown8.1
      clear hown8 hels8 hR
      go_wp2_with fail
      refine (hfree.out _ _ HE8.out).mono ?_
      rintro e w1 ⟨rfl, q9, rfl⟩
      go_wp2_with fail
      refine (hent.out _ _ (HO4.out.kept (HK5.out.trans (HK6.out.trans (Kept.trans (below_ext w6 q7) (HK8.out.trans (below_ext w8 q9))))))).mono ?_
      rintro e w10 hR
      obtain ⟨a10, c10, rfl, hlc10, hown10, hels10⟩ := RetEls.out2 Ent.cells_len hR
      have HE10 := Lib.hid hels10
      have HK10 := Lib.hid hown10.1
      clear hown10 hels10 hR
      go_wp2_with fail
      have hkf := Lib.hid (HK.out.trans (HK7.out.trans (HK8.out.trans (Kept.trans (below_ext w8 q9) HK10.out))))
      refine (awake8_ok _).mono ?_
      rintro e w1 ⟨rfl, q11, rfl⟩
      go_wp2_with fail
      go_ret
      exact Ret.of (rfl) (by simp (maxDischargeDepth := 99) [hkf.out])
theorem bankReplays_walk (n : Int) (_ : -9223372036854775808 ≤ n) (_ : n ≤ 9223372036854775807) (l : List Wr) (v : Value) (w : World) (hl : Els w v 8 Wr.cells l) : Calls Try.prog 6 #[.int .i64 n, v] w (Ret (.bool true) w) := by
  by_cases hr : 1 ≤ n ∧ n ≤ 256
  · obtain ⟨m, rfl⟩ := Int.eq_ofNat_of_zero_le (show 0 ≤ n by omega)
    by_cases hn : l.length ≤ 40
    · by_cases hm : m ≤ 40
      · exact bankReplays_go m (by omega) (by omega) w hl hn
      · obtain ⟨ad, c, rfl, hc, he⟩ := hl.form
        have g1 : ¬ (40 : Int) < (l.length : Int) := by omega
        have g0 : (40 : Int) < (m : Int) := by omega
        have g2 := hr.1
        have g3 := hr.2
        clear hl he hn hm
        go_enter Try.func6, Try.ntmps6
        go_wp2_with (first | (go_at_call 10; refine (bnew_yes m _ (by omega) (by omega)).mono ?_; rintro e w1 ⟨g, gr, rfl, hk1, hB1⟩; have HK1 := Lib.hid hk1; clear hB1 hk1) | (go_at_call 11; first | ((refine (calls_in (awake8_ok _)).mono ?_); rintro e w1 ⟨rfl, q1, rfl⟩) | ((refine (awake8_ok _).mono ?_); rintro e w1 ⟨rfl, q1, rfl⟩)))
        go_ret
        exact Ret.of (rfl) (by simp (maxDischargeDepth := 99) [HK1.out])
    · obtain ⟨ad, c, rfl, hc, he⟩ := hl.form
      have g1 : (40 : Int) < (l.length : Int) := by omega
      have g2 := hr.1
      have g3 := hr.2
      clear hl he hn
      go_enter Try.func6, Try.ntmps6
      go_wp2_with (first | (go_at_call 10; refine (bnew_yes m _ (by omega) (by omega)).mono ?_; rintro e w1 ⟨g, gr, rfl, hk1, hB1⟩; have HK1 := Lib.hid hk1; clear hB1 hk1) | (go_at_call 11; first | ((refine (calls_in (awake8_ok _)).mono ?_); rintro e w1 ⟨rfl, q1, rfl⟩) | ((refine (awake8_ok _).mono ?_); rintro e w1 ⟨rfl, q1, rfl⟩)))
      go_ret
      exact Ret.of (rfl) (by simp (maxDischargeDepth := 99) [HK1.out])
  · obtain ⟨ad, c, rfl, hc, he⟩ := hl.form
    clear hl he
    go_enter Try.func6, Try.ntmps6
    go_wp2_with (first | (go_at_call 10; first | ((refine (calls_in (bnew_no n _ hr)).mono ?_); rintro e w1 ⟨rfl, q1, rfl⟩) | ((refine (bnew_no n _ hr).mono ?_); rintro e w1 ⟨rfl, q1, rfl⟩)) | (go_at_call 11; first | ((refine (calls_in (awake8_ok _)).mono ?_); rintro e w1 ⟨rfl, q1, rfl⟩) | ((refine (awake8_ok _).mono ?_); rintro e w1 ⟨rfl, q1, rfl⟩)))
    go_ret
    exact Ret.of (rfl) (by simp (maxDischargeDepth := 99))
set_option maxRecDepth 100000 in
theorem bankReplays_lifted (os : Os) (started : os.Started) (H : Type) (enc : TypeId × Value → H) :
    ReturnsInHanded {} Try.checked os 6 .any (Rows.bankReplaysSpec.pre6 enc Try.prog Try.f6 Rows.bankReplaysRow.domain false) (Rows.bankReplaysSpec.post enc Try.prog Try.f6 false true false false) := by
  refine returnsInHanded_of_change (C := Try.checked) own started (by kernel_rfl) Try.func6
    (ChangeSpec.witness6 (enc := enc) (C := Try.checked) false ⟨#[], #[.int .i64 0, .slice none 0 0], []⟩ 8 (by kernel_rfl) (by kernel_rfl) (by kernel_rfl) (by kernel_rfl)) ?_
  intro W base args ds gs before hval0 hW hcnd _
  have hval : ∀ (j : Nat) t v, Try.f6.params[j]? = some t → args[j]? = some v → Value.okWide Try.prog W .any base t v := hval0
  have hW' := hW
  obtain ⟨p, q, hA0, hV, rfl, hfz, hnd⟩ := hW
  obtain ⟨rfl, rfl⟩ := trodVars_none hV
  rw [List.append_nil] at hW'
  have hA : DataW.TrodAll enc Try.prog W 0 (fun _ => true) true Try.f6.params.toList args.toList ds p := hA0
  have hA1 := hA
  rw [Try.params6] at hA1 hval
  obtain ⟨v0, vs0, d0, ds0, p0, q0, hargs, rfl, rfl, h0, r0⟩ := trodAll_cons hA1
  obtain ⟨v1, vs1, d1, ds1, p1, q1, rfl, rfl, rfl, h1, r1⟩ := trodAll_cons r0
  obtain ⟨rfl, rfl, rfl⟩ := trodAll_nil r1
  obtain rfl : args = #[v0, v1] := by cases args; simp_all
  obtain ⟨X0, rfl, rfl, rfl, w0⟩ := open_int Try.underlying3 (hval 0 _ v0 rfl rfl) h0
  obtain ⟨L1, E1, _⟩ := open_wrs (hval 1 _ v1 rfl rfl) h1
  refine (bankReplays_walk X0 (wf_i64' w0).1 (wf_i64' w0).2 L1 v1 W E1).mono fun e W' ⟨he, hg⟩ => ?_
  subst he
  exact ⟨_, rfl, post_true laidOut (by rw [Try.params6]; intro t ht; simp at ht; first | (subst ht; exact ⟨by kernel_rfl, of_decide_eq_true (by kernel_rfl)⟩) | (rcases ht with rfl | rfl <;> exact ⟨by kernel_rfl, of_decide_eq_true (by kernel_rfl)⟩) | (rcases ht with rfl | rfl | rfl <;> exact ⟨by kernel_rfl, of_decide_eq_true (by kernel_rfl)⟩) | (rcases ht with rfl | rfl | rfl | rfl <;> exact ⟨by kernel_rfl, of_decide_eq_true (by kernel_rfl)⟩)) rfl hW' hA rfl (trodAll_cons_mk (shut_bool Try.underlying4 _) trodAll_mk0) (Later.kept hg)⟩

theorem bankReplays_holds : Rows.BankReplaysSaid :=
  OpenClaim.holds_of_wide 6 Try.f6 rfl rfl rfl rfl rfl rfl rfl ⟨rfl, rfl, rfl, rfl, rfl⟩ rfl rfl rfl rfl rfl (by kernel_rfl) Try.func6 (by kernel_rfl)
    (of_decide_eq_true (by kernel_rfl)) (by unfold Func.isWrapper; first | (rw [if_pos (by decide +kernel)]; kernel_rfl) | (rw [if_neg (by decide +kernel)]; exact ⟨rfl, rfl⟩))
    (fun os started H enc _ => bankReplays_lifted os started H enc)
#print axioms bankReplays_holds
end Go.Proofs.Ytpocbcohoefojaa
