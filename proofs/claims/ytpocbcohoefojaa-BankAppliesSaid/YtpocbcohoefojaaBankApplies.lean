/- BankApplies: slots behind writes, what is valid, what is told of an address, and how many are free, are the document's. -/
import Derived.Test.YtpocbcohoefojaaRows
import Derived.Test.YtpocbcohoefojaaBank14
import Derived.Test.YtpocbcohoefojaaKit7
import Derived.Test.YtpocbcohoefojaaOpenSlots
namespace Pg
open Go
theorem seqU_call2 {pb : Oper → Bool} {P : Program} {ops : Array Oper} {C : World → Prop} {Q : Act → World → Prop} {o : Oper} {l : List Oper} {a : Act} {w : World} (f : FuncId) (args : List Operand) (vals : List Value) (ats : Array TypeId) (hp : pb o = true) (hw : Region.wanted o (yielded ops a.tmps) = true) (ho : o.op = .call { callee := .value (.func f), args := args.toArray, argTypes := ats })
    (hi : P.inits.idxOf? f = none) (he : ∀ args w, (callFunc f args).run P w = .ok (.enter f args) w) (hv : args.map a.eval = vals) (v : Value) (hc : ∀ w, C w → Calls P f vals.toArray w fun e w2 => e = .returned v ∧ C w2 ∧ Kept w w2)
    (h : seqU pb P ops C Q l (a.put o.dst v) w) : seqU pb P ops C Q (o :: l) a w :=
  seqU_call f args.toArray ats hp hw ho hi he v (fun w hw => by rw [List.map_toArray, hv]; exact hc w hw) h
def pbApplies (o : Oper) : Bool := (plainB o || o.dst == some 58) && !(o.dst == some 63)
end Pg
namespace Go.Proofs.Ytpocbcohoefojaa
open Go.RowKit Pg Go.ChangeShapes Go.WideShapes Go.ChangeAt

set_option maxHeartbeats 1000000 in
set_option maxRecDepth 100000 in
theorem bankApplies_go {l : List Slot} {ws : List Wr} {v u : Value} (a : B) (w : World) (hl : Els w v 7 Slot.cells l) (hws : Els w u 8 Wr.cells ws) (hn : l.length ≤ 40) (hm : ws.length ≤ 40) : Calls Try.prog 8 #[v, u, av a] w (Ret (.bool true) w) := by
  have HE := Lib.hid hl
  have HW := Lib.hid hws
  obtain ⟨ad, c, rfl, hc, he⟩ := hl.form
  obtain ⟨ad2, c2, rfl, hc2, he2⟩ := hws.form
  have g1 : ¬ (40 : Int) < (l.length : Int) := by omega
  have g2 : ¬ (40 : Int) < (ws.length : Int) := by omega
  have hof := Lib.hid (fun w (v : Value) (h : Els w v 7 Slot.cells l) => law08of_any w h (by omega))
  obtain ⟨E, hE⟩ : ∃ E, E = entsS l := ⟨_, rfl⟩
  have hEl : E.length ≤ 40 := by rw [hE]; exact Nat.le_trans (entsS_len l) hn
  have hren := Lib.hid (fun w (v : Value) (h : Els w v 7 Slot.cells l) => show Calls Try.prog 28 #[v] w (RetEls 48 6 Ent.cells E w) by rw [hE]; exact refentries_any w h (by omega))
  have hent := Lib.hid (fun w (v : Value) (h : Els w v 7 Slot.cells l) => show Calls Try.prog 27 #[v] w (RetEls 35 6 Ent.cells E w) by rw [hE]; exact bentries_any w h (by omega))
  have hfree := Lib.hid (fun w (v : Value) (h : Els w v 7 Slot.cells l) => show Calls Try.prog 26 #[v] w (Ret (.int .i64 ((l.length : Int) - (E.length : Int))) w) by rw [hE]; exact bfree_any w h (by omega))
  obtain ⟨S, hS⟩ : ∃ S, S = applyS l ws := ⟨_, rfl⟩
  have hSl : S.length ≤ 1000 := by rw [hS, applyS_len]; omega
  have hap := Lib.hid (fun w (v u : Value) (h : Els w v 7 Slot.cells l) (hw : Els w u 8 Wr.cells ws) => show Calls Try.prog 25 #[v, u] w (RetEls 37 7 Slot.cells S w) by rw [hS]; exact bapply_any w h (by omega) hw (by omega))
  have hra := Lib.hid (fun w (v u : Value) (h : Els w v 7 Slot.cells l) (hw : Els w u 8 Wr.cells ws) => show Calls Try.prog 19 #[v, u] w (RetEls 50 7 Slot.cells S w) by rw [hS]; exact refapply_any w h (by omega) hw (by omega))
  obtain ⟨T, hT⟩ : ∃ T, tellS l a = T := ⟨_, rfl⟩
  have ht1 := Lib.hid (fun w (v : Value) (h : Els w v 7 Slot.cells l) => show Calls Try.prog 24 #[v, av a] w (Ret (.int .i64 T) w) by rw [← hT]; exact btell_any a w h (by omega))
  have ht2 := Lib.hid (fun w (v : Value) (h : Els w v 7 Slot.cells l) => show Calls Try.prog 34 #[v, av a] w (Ret (.int .i64 T) w) by rw [← hT]; exact reftells_any a w h (by omega))
  have hsm := Lib.hid (fun w (v u : Value) (h : Els w v 7 Slot.cells S) (h' : Els w u 7 Slot.cells S) => same_any w h h' hSl)
  have hsl := Lib.hid (fun w (v u : Value) (h : Els w v 7 Slot.cells l) (h' : Els w u 7 Slot.cells l) => same_any w h h' (by omega))
  clear hl he hws he2 hE hS hT hSl
  go_enter Try.func8, Try.ntmps8
  go_wp2_with fail
  obtain ⟨wa, hwa⟩ : ∃ wa, wa = w.alloc (.cells #[.int .u64 (hi a), .int .u64 (lo a)] 31) := ⟨_, rfl⟩
  have HKA := Lib.hid (show Kept w wa by rw [hwa]; exact Kept.alloc (Kept.refl w) _)
  have HBA := Lib.hid (show Blk wa w.heap.size 31 #[.int .u64 (hi a), .int .u64 (lo a)] by rw [hwa]; exact Blk.new' w _ _ rfl)
  rw [← hwa]
  clear hwa
  refine (hof.out _ _ (HE.out.kept HKA.out)).mono ?_
  rintro e w1 hR
  obtain ⟨a1, c1, rfl, hlc1, hown1, hels1⟩ := RetEls.out2 Slot.cells_len hR
  have HE1 := Lib.hid hels1
  have HK1 := Lib.hid hown1.1
  clear hown1 hels1 hR
  go_wp2_with fail
  refine (hent.out _ _ (HE.out.kept (HKA.out.trans HK1.out))).mono ?_
  rintro e w2 hR
  obtain ⟨a2, c2, rfl, hlc2, hown2, hels2⟩ := RetEls.out2 Ent.cells_len hR
  have HE2 := Lib.hid hels2
  have HK2 := Lib.hid hown2.1
  clear hown2 hels2 hR
  go_wp2_with fail
  refine (hren.out _ _ (HE1.out.kept HK2.out)).mono ?_
  rintro e w3 hR
  obtain ⟨a3, c3, rfl, hlc3, hown3, hels3⟩ := RetEls.out2 Ent.cells_len hR
  have HE3 := Lib.hid hels3
  have HK3 := Lib.hid hown3.1
  clear hown3 hels3 hR
  go_wp2_with fail
  have HKB := Lib.hid (HK1.out.trans (HK2.out.trans HK3.out))
  replace HE1 := Lib.hid (HE1.out.kept (HK2.out.trans HK3.out))
  replace HE2 := Lib.hid (HE2.out.kept HK3.out)
  clear HK1 HK2 HK3
  go_loopw [10, 35] (fun _ vk wr => ∃ k : Nat, k ≤ E.length ∧ vk = .int .i64 k ∧ Kept w3 wr) (fun _ k _ => E.length - (intOf k).toNat)
  case atStart => exact ⟨0, by omega, rfl, Kept.refl _⟩
  case round =>
    obtain ⟨k, hk, rfl, hkw⟩ := hrel
    have HX := Lib.hid hkw
    by_cases hlt : k < E.length
    · obtain ⟨bp, op, rfl, hbp, hcellp⟩ := (HE2.out.kept hkw).at_ (k) hlt
      obtain ⟨ep, heep⟩ : ∃ e, (E)[k]'hlt = e := ⟨_, rfl⟩
      rw [heep] at hcellp
      have cp0 : wr.cell? ⟨bp, op + k * 6, none⟩ = some (.int .u64 (hi ep.x)) := hcellp 0 (by omega)
      have cp1 : wr.cell? ⟨bp, op + k * 6 + 1, none⟩ = some (.int .u64 (lo ep.x)) := hcellp 1 (by omega)
      have cp2 : wr.cell? ⟨bp, op + k * 6 + 2, none⟩ = some (.int .u64 (hi ep.m)) := hcellp 2 (by omega)
      have cp3 : wr.cell? ⟨bp, op + k * 6 + 3, none⟩ = some (.int .u64 (lo ep.m)) := hcellp 3 (by omega)
      have cp4 : wr.cell? ⟨bp, op + k * 6 + 4, none⟩ = some (.int .i64 ep.len) := hcellp 4 (by omega)
      have cp5 : wr.cell? ⟨bp, op + k * 6 + 5, none⟩ = some (.int .i64 ep.act) := hcellp 5 (by omega)
      have Heep := Lib.hid heep
      clear hcellp heep
      obtain ⟨bq, oq, rfl, hbq, hcellq⟩ := (HE3.out.kept hkw).at_ (k) hlt
      obtain ⟨eq, heeq⟩ : ∃ e, (E)[k]'hlt = e := ⟨_, rfl⟩
      rw [heeq] at hcellq
      have cq0 : wr.cell? ⟨bq, oq + k * 6, none⟩ = some (.int .u64 (hi eq.x)) := hcellq 0 (by omega)
      have cq1 : wr.cell? ⟨bq, oq + k * 6 + 1, none⟩ = some (.int .u64 (lo eq.x)) := hcellq 1 (by omega)
      have cq2 : wr.cell? ⟨bq, oq + k * 6 + 2, none⟩ = some (.int .u64 (hi eq.m)) := hcellq 2 (by omega)
      have cq3 : wr.cell? ⟨bq, oq + k * 6 + 3, none⟩ = some (.int .u64 (lo eq.m)) := hcellq 3 (by omega)
      have cq4 : wr.cell? ⟨bq, oq + k * 6 + 4, none⟩ = some (.int .i64 eq.len) := hcellq 4 (by omega)
      have cq5 : wr.cell? ⟨bq, oq + k * 6 + 5, none⟩ = some (.int .i64 eq.act) := hcellq 5 (by omega)
      have Heeq := Lib.hid heeq
      clear hcellq heeq
      obtain rfl : ep = eq := by rw [← Heep.out, ← Heeq.out]
      have hkl : (k : Int) < (E.length : Int) := by omega
      have k0 : (0 : Int) ≤ k := by omega
      clear hkw Heep Heeq
      go_wp2_with fail
      refine region_ext _ (Later.refl _) mixed (by kernel_rfl) ?_
      repeat (go_big_quiet_step ((first | (go_at_call 32; exact calls_in (law05one_any _ _)))))
      refine wpQuiet_nil ?_
      rintro _ ⟨q, rfl⟩
      go_wp2_with fail
      go_roundw
      case rel => exact ⟨k + 1, by omega, by go_num, HX.out.ext _⟩
      case measure => simp [intOf]; omega
    · have hkl : k = E.length := by omega
      subst hkl
      clear hkw hlt hk
      go_wp2_with fail
      go_loopw [12, 51] (fun _ vk w5 => ∃ k : Nat, k ≤ ws.length ∧ vk = .int .i64 k ∧ Kept wr w5) (fun _ k _ => ws.length - (intOf k).toNat)
      case atStart => exact ⟨0, by omega, rfl, Kept.refl _⟩
      case round =>
        obtain ⟨k, hk, rfl, hkw⟩ := hrel
        have HY := Lib.hid hkw
        by_cases hlt : k < ws.length
        · have hkl : (k : Int) < (ws.length : Int) := by omega
          obtain ⟨b, o, rfl, hb, hcell⟩ := (HW.out.kept (HKA.out.trans (HKB.out.trans (HX.out.trans hkw)))).at_ (k) hlt
          obtain ⟨e, hee⟩ : ∃ e, (ws)[k]'hlt = e := ⟨_, rfl⟩
          rw [hee] at hcell
          have c0 : wr.cell? ⟨b, o + k * 8, none⟩ = some (.int .i64 e.at_) := hcell 0 (by omega)
          have c1 : wr.cell? ⟨b, o + k * 8 + 1, none⟩ = some (.bool e.s.v) := hcell 1 (by omega)
          have c2 : wr.cell? ⟨b, o + k * 8 + 2, none⟩ = some (.int .u64 (hi e.s.e.x)) := hcell 2 (by omega)
          have c3 : wr.cell? ⟨b, o + k * 8 + 3, none⟩ = some (.int .u64 (lo e.s.e.x)) := hcell 3 (by omega)
          have c4 : wr.cell? ⟨b, o + k * 8 + 4, none⟩ = some (.int .u64 (hi e.s.e.m)) := hcell 4 (by omega)
          have c5 : wr.cell? ⟨b, o + k * 8 + 5, none⟩ = some (.int .u64 (lo e.s.e.m)) := hcell 5 (by omega)
          have c6 : wr.cell? ⟨b, o + k * 8 + 6, none⟩ = some (.int .i64 e.s.e.len) := hcell 6 (by omega)
          have c7 : wr.cell? ⟨b, o + k * 8 + 7, none⟩ = some (.int .i64 e.s.e.act) := hcell 7 (by omega)
          have Hee := Lib.hid hee
          clear hcell hee
          obtain ⟨gx, hgx⟩ : ∃ gx, gx = wr.heap.size := ⟨_, rfl⟩
          have HBx := Lib.hid (Blk.new' wr 39 #[.int .i64 e.at_, .bool e.s.v, .int .u64 (hi e.s.e.x), .int .u64 (lo e.s.e.x), .int .u64 (hi e.s.e.m), .int .u64 (lo e.s.e.m), .int .i64 e.s.e.len, .int .i64 e.s.e.act] hgx)
          have HG := Lib.hid hgx
          obtain ⟨mb, hmb⟩ : ∃ b, mayW e l.length = b := ⟨_, rfl⟩
          have HM := Lib.hid (bmay_as hmb)
          have HR := Lib.hid (refmay_as hmb)
          clear hkw Hee hgx hmb
          go_wp2_with fail
          rw [← HG.out]
          have hI0 : HasBlk wr gx 39 #[.int .i64 e.at_, .bool e.s.v, .int .u64 (hi e.s.e.x), .int .u64 (lo e.s.e.x), .int .u64 (hi e.s.e.m), .int .u64 (lo e.s.e.m), .int .i64 e.s.e.len, .int .i64 e.s.e.act] (wr.alloc (.cells #[.int .i64 e.at_, .bool e.s.v, .int .u64 (hi e.s.e.x), .int .u64 (lo e.s.e.x), .int .u64 (hi e.s.e.m), .int .u64 (lo e.s.e.m), .int .i64 e.s.e.len, .int .i64 e.s.e.act] 39)) := ⟨Kept.alloc (Kept.refl _) _, HBx.out⟩
          have hIc := HasBlk.cell (W := wr) (g := gx) (t := 39) (cs := #[.int .i64 e.at_, .bool e.s.v, .int .u64 (hi e.s.e.x), .int .u64 (lo e.s.e.x), .int .u64 (hi e.s.e.m), .int .u64 (lo e.s.e.m), .int .i64 e.s.e.len, .int .i64 e.s.e.act])
          have hne : Nonempty (In (HasBlk wr gx 39 #[.int .i64 e.at_, .bool e.s.v, .int .u64 (hi e.s.e.x), .int .u64 (lo e.s.e.x), .int .u64 (hi e.s.e.m), .int .u64 (lo e.s.e.m), .int .i64 e.s.e.len, .int .i64 e.s.e.act])) := ⟨⟨_, hI0⟩⟩
          refine region_seqU pbApplies _ (hI0.step (Kept.drawn1 (Kept.refl _))) mixed (by kernel_rfl) (by kernel_rfl) ?_
          intro W1 hW1
          clear hI0 hW1
          repeat (refine seqU_plain (by rfl) (by rfl) ?_; go_big_quiet_step (fail); refine wpQuiet_nil ?_)
          refine seqU_call2 33 _ [wrv e, .int .i64 (l.length : Int)] _ (by rfl) (by rfl) rfl (by kernel_rfl) (enters_of Try.func33 (by kernel_rfl) rfl) (by rfl) (.bool mb) ?_ ?_
          · rintro _ ⟨t, rfl⟩
            refine (HM.out t.w).mono ?_
            rintro e9 w9 ⟨rfl, q9, rfl⟩
            exact ⟨rfl, ⟨⟨_, t.h.step (kept_ext1 _ _)⟩, rfl⟩, kept_ext1 _ _⟩
          simp only [Act.put, List.setIfInBounds_toArray, List.set_cons_succ, List.set_cons_zero]
          repeat (refine seqU_plain (by rfl) (by rfl) ?_; go_big_quiet_step (fail); refine wpQuiet_nil ?_)
          refine seqU_move (by rfl) (by rfl) ?_
          rintro _ ⟨t2, rfl⟩ hk2
          go_wp2_with fail
          refine ⟨_, rfl, ⟨⟨_, t2.h.step (Kept.alloc (Kept.refl _) _)⟩, rfl⟩, ?_⟩
          refine seqU_move (by rfl) (by rfl) ?_
          rintro _ ⟨t3, rfl⟩ hk3
          go_wp2_with fail
          refine (law08writes_any _ ((els_one e (Blk.new' t2.w 39 _ rfl)).kept hk3) (by simp)).mono ?_
          rintro e9 w4 hR
          obtain ⟨a4, c4, rfl, hlc4, hown4, hels4⟩ := RetEls.out2 Wr.cells_len hR
          have HE4 := Lib.hid hels4
          have HK4 := Lib.hid hown4.1
          obtain ⟨b4, o4, rfl, _, _⟩ := els_head hels4
          clear hR hown4 hels4
          go_wp2_with fail
          refine ⟨_, rfl, ⟨⟨_, t3.h.step HK4.out⟩, rfl⟩, ?_⟩
          repeat (refine seqU_plain (by rfl) (by rfl) ?_; go_big_quiet_step (fail); refine wpQuiet_nil ?_)
          refine seqU_move (by rfl) (by rfl) ?_
          rintro _ ⟨t5, rfl⟩ hk5
          obtain ⟨b5, o5, e5, hb5, hcell5⟩ := els_head (HE4.out.kept hk5)
          injection e5 with e5
          injection e5 with e5 e6
          subst e5 e6
          have d0 : t5.w.cell? ⟨b4, o4, none⟩ = some (.int .i64 e.at_) := hcell5 0 (by omega)
          have d1 : t5.w.cell? ⟨b4, o4 + 1, none⟩ = some (.bool e.s.v) := hcell5 1 (by omega)
          have d2 : t5.w.cell? ⟨b4, o4 + 2, none⟩ = some (.int .u64 (hi e.s.e.x)) := hcell5 2 (by omega)
          have d3 : t5.w.cell? ⟨b4, o4 + 3, none⟩ = some (.int .u64 (lo e.s.e.x)) := hcell5 3 (by omega)
          have d4 : t5.w.cell? ⟨b4, o4 + 4, none⟩ = some (.int .u64 (hi e.s.e.m)) := hcell5 4 (by omega)
          have d5 : t5.w.cell? ⟨b4, o4 + 5, none⟩ = some (.int .u64 (lo e.s.e.m)) := hcell5 5 (by omega)
          have d6 : t5.w.cell? ⟨b4, o4 + 6, none⟩ = some (.int .i64 e.s.e.len) := hcell5 6 (by omega)
          have d7 : t5.w.cell? ⟨b4, o4 + 7, none⟩ = some (.int .i64 e.s.e.act) := hcell5 7 (by omega)
          clear hcell5
          go_wp2_with fail
          refine ⟨_, rfl, ⟨t5, rfl⟩, ?_⟩
          clear d0 d1 d2 d3 d4 d5 d6 d7
          repeat (refine seqU_plain (by rfl) (by rfl) ?_; go_big_quiet_step (fail); refine wpQuiet_nil ?_)
          refine seqU_move (by rfl) (by rfl) ?_
          rintro _ ⟨t6, rfl⟩ hk6
          go_wp2_with fail
          refine (HR.out t6.w).mono ?_
          rintro e9 w9 ⟨rfl, q9, rfl⟩
          go_wp2_with fail
          refine ⟨_, rfl, ⟨⟨_, t6.h.step (kept_ext1 _ _)⟩, rfl⟩, ?_⟩
          repeat (refine seqU_plain (by rfl) (by rfl) ?_; go_big_quiet_step (fail); refine wpQuiet_nil ?_)
          refine seqU_nil ?_
          rintro _ ⟨t7, rfl⟩ hk7
          have HK7 := Lib.hid t7.h.kept
          clear hIc hne hk2 hk3 hk5 hk6 hk7
          go_wp2_with fail
          go_roundw
          case rel => exact ⟨k + 1, by omega, by go_num, HY.out.trans HK7.out⟩
          case measure => simp [intOf]; omega
        · have hkl : k = ws.length := by omega
          subst hkl
          have HK8 := Lib.hid (HKB.out.trans (HX.out.trans hkw))
          have hba := HBA.out.kept HK8.out
          have HKW := Lib.hid (HKA.out.trans HK8.out)
          have HLx := Lib.hid (HE1.out.kept (HX.out.trans hkw))
          clear hkw hlt hk
          obtain ⟨y0, y1, yl⟩ := Blk.two hba
          clear hba
          go_wp2_with fail
          refine region_seq _ (Later.refl _) mixed (by kernel_rfl) (by kernel_rfl) ?_
          intro q9
          refine seq_named fun W1 hW1 => ?_
          have hC := Lib.hid (show ∃ p, W1 = ext _ p from ⟨q9, hW1⟩)
          clear hW1 q9
          repeat (first | (refine seq_plain (by rfl) ?_; go_big_quiet_step (fail); refine wpQuiet_nil ?_))
          have hk9 := Later.kept hC.out
          have HLw := Lib.hid (HE.out.kept (HKW.out.trans hk9))
          have HWw := Lib.hid (HW.out.kept (HKW.out.trans hk9))
          have HXw := Lib.hid (HLx.out.kept hk9)
          clear hk9
          refine seq_move (by rfl) (by rfl) ?_
          go_wp2_with fail
          refine (hap.out _ _ _ HLw.out HWw.out).mono ?_
          rintro e w5 hR
          obtain ⟨a5, c5, rfl, hlc5, hown5, hels5⟩ := RetEls.out2 Slot.cells_len hR
          have hkk := kept_on hC (by first | exact .inl rfl | exact .inr ⟨_, rfl⟩) hown5.1
          replace hC := class_kept hC hkk
          have HE5 := Lib.hid hels5
          replace HLw := Lib.hid (HLw.out.kept hkk)
          replace HWw := Lib.hid (HWw.out.kept hkk)
          replace HXw := Lib.hid (HXw.out.kept hkk)
          clear hown5 hels5 hR hkk
          go_wp2_with fail
          refine ⟨_, rfl, hC.out, ?_⟩
          repeat (first | (refine seq_plain (by rfl) ?_; go_big_quiet_step (fail); refine wpQuiet_nil ?_))
          refine seq_move (by rfl) (by rfl) ?_
          go_wp2_with fail
          refine (law08writes_any _ HWw.out (by omega)).mono ?_
          rintro e w6 hR
          obtain ⟨a6, c6, rfl, hlc6, hown6, hels6⟩ := RetEls.out2 Wr.cells_len hR
          have hkk := kept_on hC (by first | exact .inl rfl | exact .inr ⟨_, rfl⟩) hown6.1
          replace hC := class_kept hC hkk
          have HE6 := Lib.hid hels6
          replace HLw := Lib.hid (HLw.out.kept hkk)
          replace HWw := Lib.hid (HWw.out.kept hkk)
          replace HXw := Lib.hid (HXw.out.kept hkk)
          replace HE5 := Lib.hid (HE5.out.kept hkk)
          clear hown6 hels6 hR hkk
          go_wp2_with fail
          refine ⟨_, rfl, hC.out, ?_⟩
          repeat (first | (refine seq_plain (by rfl) ?_; go_big_quiet_step (fail); refine wpQuiet_nil ?_))
          refine seq_move (by rfl) (by rfl) ?_
          go_wp2_with fail
          refine (hra.out _ _ _ HXw.out HE6.out).mono ?_
          rintro e w7 hR
          obtain ⟨a7, c7, rfl, hlc7, hown7, hels7⟩ := RetEls.out2 Slot.cells_len hR
          have hkk := kept_on hC (by first | exact .inl rfl | exact .inr ⟨_, rfl⟩) hown7.1
          replace hC := class_kept hC hkk
          have HE7 := Lib.hid hels7
          replace HLw := Lib.hid (HLw.out.kept hkk)
          replace HWw := Lib.hid (HWw.out.kept hkk)
          replace HXw := Lib.hid (HXw.out.kept hkk)
          replace HE5 := Lib.hid (HE5.out.kept hkk)
          clear hown7 hels7 hR hkk
          go_wp2_with fail
          refine ⟨_, rfl, hC.out, ?_⟩
          repeat (first | (refine seq_plain (by rfl) ?_; go_big_quiet_step (fail); refine wpQuiet_nil ?_) | (refine seq_move (by rfl) (by rfl) ?_; go_wp2_with (first | (go_at_call 17; first | ((with_reducible refine (calls_in (hsm.out _ _ _ HE5.out HE7.out)).mono ?_); rintro e w1 ⟨rfl, q1, rfl⟩) | ((with_reducible refine (hsm.out _ _ _ HE5.out HE7.out).mono ?_); rintro e w1 ⟨rfl, q1, rfl⟩) | ((with_reducible refine (calls_in (hsl.out _ _ _ (HLw.out.kept (kept_ext1 _ _)) (HXw.out.kept (kept_ext1 _ _)))).mono ?_); rintro e w1 ⟨rfl, q1, rfl⟩) | ((with_reducible refine (hsl.out _ _ _ (HLw.out.kept (kept_ext1 _ _)) (HXw.out.kept (kept_ext1 _ _))).mono ?_); rintro e w1 ⟨rfl, q1, rfl⟩)) | (go_at_call 24; first | ((with_reducible refine (calls_in (ht1.out _ _ (HLw.out.kept (kept_ext1 _ _)))).mono ?_); rintro e w1 ⟨rfl, q1, rfl⟩) | ((with_reducible refine (ht1.out _ _ (HLw.out.kept (kept_ext1 _ _))).mono ?_); rintro e w1 ⟨rfl, q1, rfl⟩) | ((with_reducible refine (calls_in (ht1.out _ _ HLw.out)).mono ?_); rintro e w1 ⟨rfl, q1, rfl⟩) | ((with_reducible refine (ht1.out _ _ HLw.out).mono ?_); rintro e w1 ⟨rfl, q1, rfl⟩)) | (go_at_call 34; first | ((with_reducible refine (calls_in (ht2.out _ _ (HXw.out.kept (kept_ext1 _ _)))).mono ?_); rintro e w1 ⟨rfl, q1, rfl⟩) | ((with_reducible refine (ht2.out _ _ (HXw.out.kept (kept_ext1 _ _))).mono ?_); rintro e w1 ⟨rfl, q1, rfl⟩) | ((with_reducible refine (calls_in (ht2.out _ _ HXw.out)).mono ?_); rintro e w1 ⟨rfl, q1, rfl⟩) | ((with_reducible refine (ht2.out _ _ HXw.out).mono ?_); rintro e w1 ⟨rfl, q1, rfl⟩)) | (go_at_call 26; first | ((with_reducible refine (calls_in (hfree.out _ _ (HLw.out.kept (kept_ext1 _ _)))).mono ?_); rintro e w1 ⟨rfl, q1, rfl⟩) | ((with_reducible refine (hfree.out _ _ (HLw.out.kept (kept_ext1 _ _))).mono ?_); rintro e w1 ⟨rfl, q1, rfl⟩) | ((with_reducible refine (calls_in (hfree.out _ _ HLw.out)).mono ?_); rintro e w1 ⟨rfl, q1, rfl⟩) | ((with_reducible refine (hfree.out _ _ HLw.out).mono ?_); rintro e w1 ⟨rfl, q1, rfl⟩)) | (go_at_call 11; first | ((refine (calls_in (awake8_ok _)).mono ?_); rintro e w1 ⟨rfl, q1, rfl⟩) | ((refine (awake8_ok _).mono ?_); rintro e w1 ⟨rfl, q1, rfl⟩))); refine ⟨_, rfl, (class_kept hC (by first | exact below_ext _ _ | exact Kept.refl _)).out, ?_⟩))
          refine seq_nil ?_
          have hkC := Later.kept hC.out
          clear hC
          have hkf := Lib.hid (HKW.out.trans hkC)
          clear hkC
          go_wp2_with fail
          go_ret
          exact Ret.of (rfl) (by simp (maxDischargeDepth := 99) [hkf.out])
theorem bankApplies_walk (l : List Slot) (v : Value) (ws : List Wr) (u : Value) (a : B) (w : World) (hl : Els w v 7 Slot.cells l) (hws : Els w u 8 Wr.cells ws) : Calls Try.prog 8 #[v, u, av a] w (Ret (.bool true) w) := by
  by_cases hn : l.length ≤ 40 ∧ ws.length ≤ 40
  · exact bankApplies_go a w hl hws hn.1 hn.2
  · obtain ⟨ad, c, rfl, hc, he⟩ := hl.form
    obtain ⟨ad2, c2, rfl, hc2, he2⟩ := hws.form
    clear hl he hws he2
    by_cases h1 : l.length ≤ 40
    · have g1 : ¬ (40 : Int) < (l.length : Int) := by omega
      have g2 : (40 : Int) < (ws.length : Int) := by omega
      clear hn h1
      go_enter Try.func8, Try.ntmps8
      go_wp2_with (first | (go_at_call 11; first | ((refine (calls_in (awake8_ok _)).mono ?_); rintro e w1 ⟨rfl, q1, rfl⟩) | ((refine (awake8_ok _).mono ?_); rintro e w1 ⟨rfl, q1, rfl⟩)))
      go_ret
      exact Ret.of (rfl) (by simp (maxDischargeDepth := 99))
    · have g1 : (40 : Int) < (l.length : Int) := by omega
      clear hn h1
      go_enter Try.func8, Try.ntmps8
      go_wp2_with (first | (go_at_call 11; first | ((refine (calls_in (awake8_ok _)).mono ?_); rintro e w1 ⟨rfl, q1, rfl⟩) | ((refine (awake8_ok _).mono ?_); rintro e w1 ⟨rfl, q1, rfl⟩)))
      go_ret
      exact Ret.of (rfl) (by simp (maxDischargeDepth := 99))
set_option maxRecDepth 100000 in
theorem bankApplies_lifted (os : Os) (started : os.Started) (H : Type) (enc : TypeId × Value → H) :
    ReturnsInHanded {} Try.checked os 8 .any (Rows.bankAppliesSpec.pre6 enc Try.prog Try.f8 Rows.bankAppliesRow.domain false) (Rows.bankAppliesSpec.post enc Try.prog Try.f8 false true false false) := by
  refine returnsInHanded_of_change (C := Try.checked) own started (by kernel_rfl) Try.func8
    (ChangeSpec.witness6 (enc := enc) (C := Try.checked) false ⟨#[], #[.slice none 0 0, .slice none 0 0, .agg #[.int .u64 0, .int .u64 0]], []⟩ 8 (by kernel_rfl) (by kernel_rfl) (by kernel_rfl) (by kernel_rfl)) ?_
  intro W base args ds gs before hval0 hW hcnd _
  have hval : ∀ (j : Nat) t v, Try.f8.params[j]? = some t → args[j]? = some v → Value.okWide Try.prog W .any base t v := hval0
  have hW' := hW
  obtain ⟨p, q, hA0, hV, rfl, hfz, hnd⟩ := hW
  obtain ⟨rfl, rfl⟩ := trodVars_none hV
  rw [List.append_nil] at hW'
  have hA : DataW.TrodAll enc Try.prog W 0 (fun _ => true) true Try.f8.params.toList args.toList ds p := hA0
  have hA1 := hA
  rw [Try.params8] at hA1 hval
  obtain ⟨v0, vs0, d0, ds0, p0, q0, hargs, rfl, rfl, h0, r0⟩ := trodAll_cons hA1
  obtain ⟨v1, vs1, d1, ds1, p1, q1, rfl, rfl, rfl, h1, r1⟩ := trodAll_cons r0
  obtain ⟨v2, vs2, d2, ds2, p2, q2, rfl, rfl, rfl, h2, r2⟩ := trodAll_cons r1
  obtain ⟨rfl, rfl, rfl⟩ := trodAll_nil r2
  obtain rfl : args = #[v0, v1, v2] := by cases args; simp_all
  obtain ⟨L0, E0, _⟩ := open_slots (hval 0 _ v0 rfl rfl) h0
  obtain ⟨L1, E1, _⟩ := open_wrs (hval 1 _ v1 rfl rfl) h1
  obtain ⟨X2, rfl⟩ := open_addr (hval 2 _ v2 rfl rfl) h2
  refine (bankApplies_walk L0 v0 L1 v1 X2 W E0 E1).mono fun e W' ⟨he, hg⟩ => ?_
  subst he
  exact ⟨_, rfl, post_true laidOut (by rw [Try.params8]; intro t ht; simp at ht; first | (subst ht; exact ⟨by kernel_rfl, of_decide_eq_true (by kernel_rfl)⟩) | (rcases ht with rfl | rfl <;> exact ⟨by kernel_rfl, of_decide_eq_true (by kernel_rfl)⟩) | (rcases ht with rfl | rfl | rfl <;> exact ⟨by kernel_rfl, of_decide_eq_true (by kernel_rfl)⟩) | (rcases ht with rfl | rfl | rfl | rfl <;> exact ⟨by kernel_rfl, of_decide_eq_true (by kernel_rfl)⟩)) rfl hW' hA rfl (trodAll_cons_mk (shut_bool Try.underlying4 _) trodAll_mk0) (Later.kept hg)⟩

theorem bankApplies_holds : Rows.BankAppliesSaid :=
  OpenClaim.holds_of_wide 8 Try.f8 rfl rfl rfl rfl rfl rfl rfl ⟨rfl, rfl, rfl, rfl, rfl⟩ rfl rfl rfl rfl rfl (by kernel_rfl) Try.func8 (by kernel_rfl)
    (of_decide_eq_true (by kernel_rfl)) (by unfold Func.isWrapper; first | (rw [if_pos (by decide +kernel)]; kernel_rfl) | (rw [if_neg (by decide +kernel)]; exact ⟨rfl, rfl⟩))
    (fun os started H enc _ => bankApplies_lifted os started H enc)
#print axioms bankApplies_holds
end Go.Proofs.Ytpocbcohoefojaa
