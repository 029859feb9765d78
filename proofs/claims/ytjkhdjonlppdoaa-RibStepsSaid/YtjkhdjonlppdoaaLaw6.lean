/- The law's table of 24 routes; what the document fixes of three routes (layer 6). Routes put and dropped: the rows are tables. -/
import Derived.Test.YtjkhdjonlppdoaaPut
import Derived.Test.YtjkhdjonlppdoaaPrune9
import Derived.Test.YtjkhdjonlppdoaaChain
import Derived.Test.YtjkhdjonlppdoaaLongest2
import Derived.Test.YtjkhdjonlppdoaaRows
import Derived.Test.YtjkhdjonlppdoaaOpenRts
import Derived.Test.YtjkhdjonlppdoaaMathR2
import Derived.Test.YtjkhdjonlppdoaaRib5
namespace Pg
open Go
def a16 : B := BitVec.ofNat 128 (720857415355990016 * 2 ^ 64)
def a8 : B := BitVec.ofNat 128 (720575940379279360 * 2 ^ 64)
def a11 : B := BitVec.ofNat 128 (792633534417207296 * 2 ^ 64)
theorem a16_words : hi a16 = 720857415355990016 ∧ lo a16 = 0 := by decide +kernel
theorem a8_words : hi a8 = 720575940379279360 ∧ lo a8 = 0 := by decide +kernel
theorem a11_words : hi a11 = 792633534417207296 ∧ lo a11 = 0 := by decide +kernel
def r6a : Rt := ⟨a16 &&& maskB 16, 16, 3⟩
def r6b : Rt := ⟨a8 &&& maskB 8, 8, 2⟩
def r6c : Rt := ⟨0#128, 0, 1⟩
theorem put6a : putR r6a [] = [r6a] := by decide +kernel
theorem put6b : putR r6b [r6a] = [r6b, r6a] := by decide +kernel
theorem put6c : putR r6c [r6b, r6a] = [r6c, r6b, r6a] := by decide +kernel
theorem tab6b : Tab [r6b, r6a] := (tab_of (by decide +kernel)).1
theorem tab6c : Tab [r6c, r6b, r6a] := (tab_of (by decide +kernel)).1
theorem tab6a : Tab [r6a] := tab6b.sub (List.sublist_cons_self ..)
theorem els_nil {α : Type} (w : World) (k : Nat) (enc : α → List Value) : Els w (.slice none 0 0) k enc [] := ⟨none, 0, rfl, Nat.le_refl _, fun h => absurd h (by simp)⟩
end Pg
namespace Go.Proofs.Ytjkhdjonlppdoaa
open Go.RowKit Pg

set_option maxHeartbeats 1000000 in
set_option maxRecDepth 100000 in
theorem law06table_any {l : List Rt} {v : Value} (w : World) (hl : Els w v 4 Rt.cells l) : Calls Try.prog 18 #[v] w (Ret (.bool (tab9B l)) w) := by
  by_cases hn : l.length ≤ 24
  · have hof := Lib.hid (law06of_any w hl (by omega))
    have htb := Lib.hid (fun W (u : Value) (h : Els W u 4 Rt.cells l) => reftable_any 128 W h (by omega))
    have HV := Lib.hid (show tab9B l = tblB 128 l by unfold tab9B; rw [decide_eq_true hn]; rfl)
    obtain ⟨ad, c, rfl, hc, he⟩ := hl.form
    have g1 : (l.length : Int) ≤ 24 := by omega
    clear hl he
    go_enter Try.func18, Try.ntmps18
    go_wp2_with fail
    refine (hof.out).mono ?_
    rintro e w1 hR
    obtain ⟨a1, c1, rfl, hlc1, hown1, hels1⟩ := RetEls.out2 Rt.cells_len hR
    have HE1 := Lib.hid hels1
    have HK1 := Lib.hid hown1.1
    clear hown1 hels1 hR
    go_wp2_with fail
    refine (htb.out _ _ HE1.out).mono ?_
    rintro e w1 ⟨rfl, q2, rfl⟩
    go_wp2_with fail
    go_ret
    exact Ret.of (by rw [HV.out]; rfl) (by simp (maxDischargeDepth := 99) [HK1.out])
  · have HV := Lib.hid (show tab9B l = false by unfold tab9B; rw [decide_eq_false hn]; rfl)
    obtain ⟨ad, c, rfl, hc, he⟩ := hl.form
    have g1 : ¬ (l.length : Int) ≤ 24 := by omega
    clear hl he hn
    go_enter Try.func18, Try.ntmps18
    go_wp2_with fail
    go_ret
    exact Ret.of (by rw [HV.out]; rfl) (by simp (maxDischargeDepth := 99))
theorem law06table_as {l : List Rt} {v : Value} {b : Bool} (h : tab9B l = b) (w : World) (hl : Els w v 4 Rt.cells l) : Calls Try.prog 18 #[v] w (Ret (.bool b) w) := by rw [← h]; exact law06table_any w hl
theorem awake6_mk16 (w : World) : Calls Try.prog 39 #[.agg #[.int .u64 720857415355990016, .int .u64 0], .int .i64 16] w (Ret (pv r6a.x 16) w) := by
  have := make_any a16 16 w
  obtain ⟨e0, e1⟩ := a16_words
  unfold av at this
  rw [e0, e1, show near 16 = 16 by decide] at this
  exact this
theorem awake6_mk8 (w : World) : Calls Try.prog 39 #[.agg #[.int .u64 720575940379279360, .int .u64 0], .int .i64 8] w (Ret (pv r6b.x 8) w) := by
  have := make_any a8 8 w
  obtain ⟨e0, e1⟩ := a8_words
  unfold av at this
  rw [e0, e1, show near 8 = 8 by decide] at this
  exact this
theorem awake6_put1 (w : World) : Calls Try.prog 20 #[.slice none 0 0, .agg #[.int .u64 (hi r6a.x), .int .u64 (lo r6a.x), .int .i64 16, .int .i64 3]] w (RetEls 29 4 Rt.cells [r6a] w) := by
  have := ribput_any r6a w (els_nil w 4 Rt.cells) Tab.nil (by simp); rwa [put6a] at this
theorem awake6_put2 {v : Value} (w : World) (hl : Els w v 4 Rt.cells [r6a]) : Calls Try.prog 20 #[v, .agg #[.int .u64 (hi r6b.x), .int .u64 (lo r6b.x), .int .i64 8, .int .i64 2]] w (RetEls 29 4 Rt.cells [r6b, r6a] w) := by
  have := ribput_any r6b w hl tab6a (by simp); rwa [put6b] at this
theorem awake6_put3 {v : Value} (w : World) (hl : Els w v 4 Rt.cells [r6b, r6a]) : Calls Try.prog 20 #[v, .agg #[.int .u64 0, .int .u64 0, .int .i64 0, .int .i64 1]] w (RetEls 29 4 Rt.cells [r6c, r6b, r6a] w) := by
  have := ribput_any r6c w hl tab6b (by simp)
  rw [put6c] at this
  exact this
theorem awake6_cover {v : Value} (w : World) (hl : Els w v 4 Rt.cells [r6c, r6b, r6a]) : Calls Try.prog 33 #[v, pv r6a.x 16] w (Ret (.tuple #[.agg #[.int .u64 (hi r6b.x), .int .u64 (lo r6b.x), .int .i64 8, .int .i64 2], .bool true]) w) := by
  have := ribcover_any r6a.x 16 w hl (by simp)
  rw [show bestO (covP r6a.x 16) [r6c, r6b, r6a] = some r6b by decide +kernel] at this
  exact this
theorem awake6_chain {v : Value} (w : World) (hl : Els w v 4 Rt.cells [r6c, r6b, r6a]) : Calls Try.prog 19 #[v] w (Ret (.int .i64 3) w) := by
  have := ribchain_any w hl tab6c (by simp)
  rw [show chainN [r6c, r6b, r6a] = 3 by decide +kernel] at this
  exact this
theorem awake6_table {v : Value} (w : World) (hl : Els w v 4 Rt.cells [r6c, r6b, r6a]) : Calls Try.prog 15 #[.int .i64 32, v] w (Ret (.bool true) w) := by
  have := ribtable_any 32 w hl (by simp)
  rwa [show tblB 32 [r6c, r6b, r6a] = true by decide +kernel] at this
theorem awake6_tell {v : Value} (w : World) (hl : Els w v 4 Rt.cells [r6c, r6b, r6a]) : Calls Try.prog 27 #[v, .agg #[.int .u64 792633534417207296, .int .u64 0]] w (Ret (.int .i64 1) w) := by
  have := ribtell_any a11 w hl (by simp)
  obtain ⟨e0, e1⟩ := a11_words
  unfold av at this
  rw [e0, e1, show tellR [r6c, r6b, r6a] a11 = 1 by decide +kernel] at this
  exact this
set_option maxHeartbeats 1000000 in
set_option maxRecDepth 100000 in
theorem awake6_ok (w : World) : Calls Try.prog 11 #[] w (Ret (.bool true) w) := by
  go_enter Try.func11, Try.ntmps11
  go_wp2_with fail
  refine (awake6_mk16 _).mono ?_
  rintro e w1 ⟨rfl, q0, rfl⟩
  go_wp2_with fail
  refine (awake6_put1 _).mono ?_
  rintro e w1 hR
  obtain ⟨a1, c1, rfl, hlc1, hown1, hels1⟩ := RetEls.out2 Rt.cells_len hR
  have HE1 := Lib.hid hels1
  have HK1 := Lib.hid hown1.1
  clear hown1 hels1 hR
  go_wp2_with fail
  refine (awake6_mk8 _).mono ?_
  rintro e w1 ⟨rfl, q1, rfl⟩
  go_wp2_with fail
  refine (awake6_put2 _ (HE1.out.ext _)).mono ?_
  rintro e w2 hR
  obtain ⟨a2, c2, rfl, hlc2, hown2, hels2⟩ := RetEls.out2 Rt.cells_len hR
  have HE2 := Lib.hid hels2
  have HK2 := Lib.hid hown2.1
  clear hown2 hels2 hR
  go_wp2_with fail
  refine (awake6_put3 _ HE2.out).mono ?_
  rintro e w3 hR
  obtain ⟨a3, c3, rfl, hlc3, hown3, hels3⟩ := RetEls.out2 Rt.cells_len hR
  have HE3 := Lib.hid hels3
  have HK3 := Lib.hid hown3.1
  clear hown3 hels3 hR
  go_wp2_with fail
  refine (awake6_mk16 _).mono ?_
  rintro e w1 ⟨rfl, q3, rfl⟩
  go_wp2_with fail
  refine (awake6_cover _ (HE3.out.ext _)).mono ?_
  rintro e w1 ⟨rfl, q4, rfl⟩
  have HKW := Lib.hid (Kept.trans (kept_extR w q0) (HK1.out.trans (Kept.trans (kept_extR w1 q1) (HK2.out.trans HK3.out))))
  obtain ⟨wz, hwz⟩ : ∃ wz, wz = ext (ext w3 q3) q4 := ⟨_, rfl⟩
  have HKZ := Lib.hid (show Kept w3 wz by rw [hwz]; exact (Kept.refl _).ext _ |>.ext _)
  rw [← hwz]
  clear hwz
  go_wp2_with (first | (go_at_call 19; first | ((refine (calls_in (awake6_chain _ (HE3.out.kept (HKZ.out.trans (Kept.alloc (Kept.refl _) _))))).mono ?_); rintro e w1 ⟨rfl, q1, rfl⟩) | ((refine (awake6_chain _ (HE3.out.kept (HKZ.out.trans (Kept.alloc (Kept.refl _) _)))).mono ?_); rintro e w1 ⟨rfl, q1, rfl⟩)) | (go_at_call 15; first | ((refine (calls_in (awake6_table _ (HE3.out.kept (HKZ.out.trans (by simp (maxDischargeDepth := 99)))))).mono ?_); rintro e w1 ⟨rfl, q1, rfl⟩) | ((refine (awake6_table _ (HE3.out.kept (HKZ.out.trans (by simp (maxDischargeDepth := 99))))).mono ?_); rintro e w1 ⟨rfl, q1, rfl⟩)) | (go_at_call 27; first | ((refine (calls_in (awake6_tell _ (HE3.out.kept (HKZ.out.trans (by simp (maxDischargeDepth := 99)))))).mono ?_); rintro e w1 ⟨rfl, q1, rfl⟩) | ((refine (awake6_tell _ (HE3.out.kept (HKZ.out.trans (by simp (maxDischargeDepth := 99))))).mono ?_); rintro e w1 ⟨rfl, q1, rfl⟩)))
  go_ret
  exact Ret.of (rfl) (by simp (maxDischargeDepth := 99) [HKW.out.trans HKZ.out])
end Go.Proofs.Ytjkhdjonlppdoaa
namespace Pg
open Go
theorem tabGo_mk (w : Int) : ∀ (l : List Rt) (p : Option Rt), (∀ q, p = some q → ∀ r ∈ l, ltR q r) → l.Pairwise ltR → (∀ r ∈ l, rightR w r = true) → tabGo w p l = true
  | [], _, _, _, _ => rfl
  | r :: l, p, h1, h2, h3 => by
    rw [List.pairwise_cons] at h2
    unfold tabGo adjOk
    rw [h3 r (List.mem_cons_self ..), Bool.true_and, tabGo_mk w l (some r) (fun q hq s hs => by injection hq with hq; subst hq; exact h2.1 s hs) h2.2 (fun s hs => h3 s (List.mem_cons_of_mem _ hs)), Bool.and_true]
    cases p with
    | none => rfl
    | some q => exact decide_eq_true ((cmpP_lt _ _ _ _).2 (h1 q rfl r (List.mem_cons_self ..)))
theorem tblB_mk {l : List Rt} (h : Tab l) (h2 : ∀ r ∈ l, rightR 128 r = true) (h3 : l.length ≤ 256) : tblB 128 l = true := by
  unfold tblB
  rw [tabGo_mk 128 l none (fun q hq => by cases hq) h.sorted h2, decide_eq_true h3]
  decide
theorem right_px {r : Rt} (h : rightR 128 r = true) : rightB 128 r.x r.n = true := by unfold rightR at h; simp only [Bool.and_eq_true] at h; exact h.1
theorem put_table {l : List Rt} (ht : tblB 128 l = true) (hn : l.length ≤ 24) {r : Rt} (hr : rightR 128 r = true) : tblB 128 (putR r l) = true := by
  obtain ⟨h1, h2, _⟩ := tab_of ht
  refine tblB_mk (putR_tab h1 (right_px hr)) (fun s hs => ?_) (by have := putR_len r l; omega)
  rcases putR_mem.1 hs with rfl | ⟨hs, _⟩
  · exact hr
  · exact h2 s hs
theorem drop_table {l : List Rt} (ht : tblB 128 l = true) (p : Rt → Bool) : tblB 128 (l.filter p) = true := by
  obtain ⟨h1, h2, h3⟩ := tab_of ht
  exact tblB_mk (h1.filter p) (fun s hs => h2 s (List.mem_filter.1 hs).1) (Nat.le_trans (List.length_filter_le _ _) h3)
end Pg
namespace Go.Proofs.Ytjkhdjonlppdoaa
open Go.RowKit Pg
theorem tab9B_parts {l : List Rt} (h : tab9B l = true) : tblB 128 l = true ∧ l.length ≤ 24 := by
  unfold tab9B at h
  simp only [Bool.and_eq_true, decide_eq_true_eq] at h
  exact ⟨h.2, h.1⟩
theorem refputR6_any {l : List Rt} {v : Value} (r : Rt) (w : World) (hl : Els w v 4 Rt.cells l) (hn : l.length ≤ 500) : Calls Try.prog 31 #[v, rv r] w (RetEls 36 4 Rt.cells (putR r l) w) := refputR_any r w hl hn
end Go.Proofs.Ytjkhdjonlppdoaa
