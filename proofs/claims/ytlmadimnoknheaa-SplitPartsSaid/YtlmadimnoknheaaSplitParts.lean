/- SplitParts: the entries that have to do with any bank are the document's, in order; how often they stand more than once, too; the row is not changed. -/
import Derived.Test.YtlmadimnoknheaaRows
import Derived.Test.YtlmadimnoknheaaRefPart
import Derived.Test.YtlmadimnoknheaaBest2
import Derived.Test.YtlmadimnoknheaaOpenEls
namespace Go.Proofs.Ytlmadimnoknheaa
open Go.RowKit Pg Go.ChangeShapes Go.WideShapes Go.ChangeAt

set_option maxHeartbeats 1000000 in
set_option maxRecDepth 100000 in
theorem splitParts_go {l : List Ent} {v : Value} (k at_ : Int) (w : World) (hl : Els w v 6 Ent.cells l) (hn : l.length ≤ 30) : Calls Try.prog 4 #[.int .i64 k, .int .i64 at_, v] w (Ret (.bool true) w) := by
  obtain ⟨ad, c, rfl, hc, he⟩ := hl.form
  have HE := Lib.hid he
  clear hl he
  have hn' : ¬ (30 : Int) < (l.length : Int) := by omega
  have hpart := Lib.hid (fun w (hk : Els w (.slice ad l.length c) 6 Ent.cells l) => part_any k at_ w hk (by omega))
  have hrp := Lib.hid (fun v w (hk : Els w v 6 Ent.cells l) => refspart_any k at_ w hk (by omega))
  have hpl := partZ_len k at_ l
  generalize partZ k at_ l = P at *
  go_enter Try.func4, Try.ntmps4
  go_wp2_with fail
  refine (law05of_any _ HE.out (by omega)).mono ?_
  rintro e9 w1 hR
  obtain ⟨a1, c1, rfl, hlc1, hown1, hels1⟩ := RetEls.out2 Ent.cells_len hR
  have HE1 := Lib.hid hels1
  have HK1 := Lib.hid hown1.1
  clear hown1 hels1 hR
  go_wp2_with fail
  refine (hpart.out _ (HE.out.kept HK1.out)).mono ?_
  rintro e9 w2 hR
  obtain ⟨a2, c2, rfl, hlc2, hown2, hels2⟩ := RetEls.out2 Ent.cells_len hR
  have HE2 := Lib.hid hels2
  replace HE1 := Lib.hid (HE1.out.kept hown2.1)
  replace HK1 := Lib.hid (HK1.out.trans hown2.1)
  clear hown2 hels2 hR
  go_wp2_with fail
  refine (law05of_any _ HE2.out (by omega)).mono ?_
  rintro e9 w3 hR
  obtain ⟨a3, c3, rfl, hlc3, hown3, hels3⟩ := RetEls.out2 Ent.cells_len hR
  have HE3 := Lib.hid hels3
  replace HE1 := Lib.hid (HE1.out.kept hown3.1)
  replace HK1 := Lib.hid (HK1.out.trans hown3.1)
  clear hown3 hels3 hR HE2
  go_wp2_with fail
  refine (hrp.out _ _ HE1.out).mono ?_
  rintro e9 w4 hR
  obtain ⟨a4, c4, rfl, hlc4, hown4, hels4⟩ := RetEls.out2 Ent.cells_len hR
  have HE4 := Lib.hid hels4
  replace HE1 := Lib.hid (HE1.out.kept hown4.1)
  replace HE3 := Lib.hid (HE3.out.kept hown4.1)
  replace HK1 := Lib.hid (HK1.out.trans hown4.1)
  clear hown4 hels4 hR hpart hrp
  go_wp2_with fail
  go_loopw [10, 36] (fun _ vk wr => ∃ i : Nat, i ≤ P.length ∧ vk = .int .i64 i ∧ Kept w4 wr) (fun _ k _ => P.length - (intOf k).toNat)
  case atStart => exact ⟨0, by omega, rfl, by simp (maxDischargeDepth := 99)⟩
  case round =>
    obtain ⟨i, hi', rfl, hkw⟩ := hrel
    have HX := Lib.hid hkw
    by_cases hlt : i < P.length
    · obtain ⟨bA, oA, rfl, hbA, hcellA⟩ := (HE3.out.kept hkw).at_ (i) hlt
      obtain ⟨eA, heeA⟩ : ∃ e, (P)[i]'hlt = e := ⟨_, rfl⟩
      rw [heeA] at hcellA
      have cA0 : wr.cell? ⟨bA, oA + i * 6, none⟩ = some (.int .u64 (hi eA.x)) := hcellA 0 (by omega)
      have cA1 : wr.cell? ⟨bA, oA + i * 6 + 1, none⟩ = some (.int .u64 (lo eA.x)) := hcellA 1 (by omega)
      have cA2 : wr.cell? ⟨bA, oA + i * 6 + 2, none⟩ = some (.int .u64 (hi eA.m)) := hcellA 2 (by omega)
      have cA3 : wr.cell? ⟨bA, oA + i * 6 + 3, none⟩ = some (.int .u64 (lo eA.m)) := hcellA 3 (by omega)
      have cA4 : wr.cell? ⟨bA, oA + i * 6 + 4, none⟩ = some (.int .i64 eA.len) := hcellA 4 (by omega)
      have cA5 : wr.cell? ⟨bA, oA + i * 6 + 5, none⟩ = some (.int .i64 eA.act) := hcellA 5 (by omega)
      have HeeA := Lib.hid heeA
      clear hcellA heeA
      obtain ⟨bZ, oZ, rfl, hbZ, hcellZ⟩ := (HE4.out.kept hkw).at_ (i) hlt
      obtain ⟨eZ, heeZ⟩ : ∃ e, (P)[i]'hlt = e := ⟨_, rfl⟩
      rw [heeZ] at hcellZ
      have cZ0 : wr.cell? ⟨bZ, oZ + i * 6, none⟩ = some (.int .u64 (hi eZ.x)) := hcellZ 0 (by omega)
      have cZ1 : wr.cell? ⟨bZ, oZ + i * 6 + 1, none⟩ = some (.int .u64 (lo eZ.x)) := hcellZ 1 (by omega)
      have cZ2 : wr.cell? ⟨bZ, oZ + i * 6 + 2, none⟩ = some (.int .u64 (hi eZ.m)) := hcellZ 2 (by omega)
      have cZ3 : wr.cell? ⟨bZ, oZ + i * 6 + 3, none⟩ = some (.int .u64 (lo eZ.m)) := hcellZ 3 (by omega)
      have cZ4 : wr.cell? ⟨bZ, oZ + i * 6 + 4, none⟩ = some (.int .i64 eZ.len) := hcellZ 4 (by omega)
      have cZ5 : wr.cell? ⟨bZ, oZ + i * 6 + 5, none⟩ = some (.int .i64 eZ.act) := hcellZ 5 (by omega)
      have HeeZ := Lib.hid heeZ
      clear hcellZ heeZ
      obtain rfl : eA = eZ := by rw [← HeeA.out, ← HeeZ.out]
      have hil : (i : Int) < (P.length : Int) := by omega
      have i0 : (0 : Int) ≤ i := by omega
      clear hkw HeeA HeeZ
      go_wp2_with fail
      refine region_ext _ (Later.refl _) mixed (by kernel_rfl) ?_
      repeat (go_big_quiet_step (fail))
      refine wpQuiet_nil ?_
      rintro _ ⟨q, rfl⟩
      go_wp2_with fail
      go_roundw
      case rel => exact ⟨i + 1, by omega, by go_num, HX.out.ext _⟩
      case measure => simp [intOf]; omega
    · have hil : i = P.length := by omega
      subst hil
      clear hkw hlt
      go_wp2_with fail
      obtain ⟨wo, hwo⟩ : ∃ wo, wo = wr := ⟨_, rfl⟩
      rw [← hwo]
      rw [← hwo] at HX
      clear hwo
      go_loopw [11, 12, 13, 51] (fun vn _ _ vk wr => ∃ t : Nat, t ≤ l.length ∧ vk = .int .i64 t ∧ vn = .int .i64 (copiesN k (l.take t) : Int) ∧ Kept wo wr) (fun _ _ _ k _ => l.length - (intOf k).toNat)
      case atStart => exact ⟨0, by omega, rfl, rfl, Kept.refl _⟩
      case round =>
        obtain ⟨t, ht, rfl, rfl, hkw⟩ := hrel
        have HZ := Lib.hid hkw
        by_cases hlt : t < l.length
        · obtain ⟨bA, oA, rfl, hbA, hcellA⟩ := (HE1.out.kept (HX.out.trans hkw)).at_ (t) hlt
          obtain ⟨eA, heeA⟩ : ∃ e, (l)[t]'hlt = e := ⟨_, rfl⟩
          rw [heeA] at hcellA
          have cA0 : wr.cell? ⟨bA, oA + t * 6, none⟩ = some (.int .u64 (hi eA.x)) := hcellA 0 (by omega)
          have cA1 : wr.cell? ⟨bA, oA + t * 6 + 1, none⟩ = some (.int .u64 (lo eA.x)) := hcellA 1 (by omega)
          have cA2 : wr.cell? ⟨bA, oA + t * 6 + 2, none⟩ = some (.int .u64 (hi eA.m)) := hcellA 2 (by omega)
          have cA3 : wr.cell? ⟨bA, oA + t * 6 + 3, none⟩ = some (.int .u64 (lo eA.m)) := hcellA 3 (by omega)
          have cA4 : wr.cell? ⟨bA, oA + t * 6 + 4, none⟩ = some (.int .i64 eA.len) := hcellA 4 (by omega)
          have cA5 : wr.cell? ⟨bA, oA + t * 6 + 5, none⟩ = some (.int .i64 eA.act) := hcellA 5 (by omega)
          have HeeA := Lib.hid heeA
          clear hcellA heeA
          obtain ⟨bZ, oZ, rfl, hbZ, hcellZ⟩ := (HE.out.kept (HK1.out.trans (HX.out.trans hkw))).at_ (t) hlt
          obtain ⟨eZ, heeZ⟩ : ∃ e, (l)[t]'hlt = e := ⟨_, rfl⟩
          rw [heeZ] at hcellZ
          have cZ0 : wr.cell? ⟨bZ, oZ + t * 6, none⟩ = some (.int .u64 (hi eZ.x)) := hcellZ 0 (by omega)
          have cZ1 : wr.cell? ⟨bZ, oZ + t * 6 + 1, none⟩ = some (.int .u64 (lo eZ.x)) := hcellZ 1 (by omega)
          have cZ2 : wr.cell? ⟨bZ, oZ + t * 6 + 2, none⟩ = some (.int .u64 (hi eZ.m)) := hcellZ 2 (by omega)
          have cZ3 : wr.cell? ⟨bZ, oZ + t * 6 + 3, none⟩ = some (.int .u64 (lo eZ.m)) := hcellZ 3 (by omega)
          have cZ4 : wr.cell? ⟨bZ, oZ + t * 6 + 4, none⟩ = some (.int .i64 eZ.len) := hcellZ 4 (by omega)
          have cZ5 : wr.cell? ⟨bZ, oZ + t * 6 + 5, none⟩ = some (.int .i64 eZ.act) := hcellZ 5 (by omega)
          have HeeZ := Lib.hid heeZ
          clear hcellZ heeZ
          have hil : (t : Int) < (l.length : Int) := by omega
          have i0 : (0 : Int) ≤ t := by omega
          have hst := copiesN_snoc k (l.take t) l[t]
          rw [← List.take_succ_eq_append_getElem hlt, HeeA.out] at hst
          obtain rfl : eA = eZ := by rw [← HeeA.out, ← HeeZ.out]
          have hcl := Nat.le_trans (copiesN_le k (l.take t)) (Nat.mul_le_mul_left 8 (List.length_take_le t l))
          have hbl := bankZ_len k eA.x eA.m
          have hb := Lib.hid (fun w => refsbanks_any k eA.x eA.m w)
          generalize copiesN k (l.take t) = N at *
          generalize bankZ k eA.x eA.m = L at *
          have HS := Lib.hid hst
          clear hst hkw HeeA HeeZ
          go_wp2_with fail
          refine region_ext _ (Later.refl _) mixed (by kernel_rfl) ?_
          repeat (go_big_quiet_step ((first | (go_at_call 20; exact calls_in (law05one_any _ _)))))
          refine wpQuiet_nil ?_
          rintro _ ⟨q, rfl⟩
          go_wp2_with (first | (go_at_call 10; refine (hb.out _).mono ?_; rintro e w1 hR; obtain ⟨a1, c1, rfl, hlc1, hown1, hels1⟩ := RetEls.out2 encN_len hR; have hk1 := Lib.hid hown1.1; clear hown1 hels1 hR))
          go_roundw
          case rel => exact ⟨t + 1, by omega, by go_num, by rw [HS.out]; congr 1; omega, (HZ.out.trans ((Kept.alloc (Kept.refl _) _).ext _)).trans hk1.out⟩
          case measure => simp [intOf]; omega
        · have htl : t = l.length := by omega
          subst htl
          rw [List.take_length]
          have hco := Lib.hid (scopies_any k wr (HE.out.kept (HK1.out.trans (HX.out.trans hkw))) (by omega))
          have hkW := Lib.hid (HK1.out.trans (HX.out.trans hkw))
          generalize copiesN k l = CN at *
          clear hkw hlt
          go_wp2_with (first | (go_at_call 21; first | ((refine (calls_in (hco.out)).mono ?_); rintro e w1 ⟨rfl, q1, rfl⟩) | ((refine (hco.out).mono ?_); rintro e w1 ⟨rfl, q1, rfl⟩)) | (go_at_call 16; first | ((refine (calls_in (awake16_any _)).mono ?_); rintro e w1 ⟨rfl, q1, rfl⟩) | ((refine (awake16_any _).mono ?_); rintro e w1 ⟨rfl, q1, rfl⟩)))
          go_ret
          exact Ret.of (rfl) (by simp (maxDischargeDepth := 99) [hkW.out])
theorem splitParts_walk (k : Int) (_ : -9223372036854775808 ≤ k) (_ : k ≤ 9223372036854775807) (at_ : Int) (_ : -9223372036854775808 ≤ at_) (_ : at_ ≤ 9223372036854775807) (l : List Ent) (v : Value) (w : World) (hl : Els w v 6 Ent.cells l) : Calls Try.prog 4 #[.int .i64 k, .int .i64 at_, v] w (Ret (.bool true) w) := by
  by_cases hn : l.length ≤ 30
  · exact splitParts_go k at_ w hl hn
  · obtain ⟨ad, c, rfl, hc, he⟩ := hl.form
    have hn' : (30 : Int) < (l.length : Int) := by omega
    clear hl he hn
    go_enter Try.func4, Try.ntmps4
    go_wp2_with (first | (go_at_call 16; first | ((refine (calls_in (awake16_any _)).mono ?_); rintro e w1 ⟨rfl, q1, rfl⟩) | ((refine (awake16_any _).mono ?_); rintro e w1 ⟨rfl, q1, rfl⟩)))
    go_ret
    exact Ret.of (rfl) (by simp (maxDischargeDepth := 99))
set_option maxRecDepth 100000 in
theorem splitParts_lifted (os : Os) (started : os.Started) (H : Type) (enc : TypeId × Value → H) :
    ReturnsInHanded {} Try.checked os 4 .any (Rows.splitPartsSpec.pre6 enc Try.prog Try.f4 Rows.splitPartsRow.domain false) (Rows.splitPartsSpec.post enc Try.prog Try.f4 false true false false) := by
  refine returnsInHanded_of_change (C := Try.checked) own started (by kernel_rfl) Try.func4
    (ChangeSpec.witness6 (enc := enc) (C := Try.checked) false ⟨#[], #[.int .i64 0, .int .i64 0, .slice none 0 0], []⟩ 8 (by kernel_rfl) (by kernel_rfl) (by kernel_rfl) (by kernel_rfl)) ?_
  intro W base args ds gs before hval0 hW hcnd _
  have hval : ∀ (j : Nat) t v, Try.f4.params[j]? = some t → args[j]? = some v → Value.okWide Try.prog W .any base t v := hval0
  have hW' := hW
  obtain ⟨p, q, hA0, hV, rfl, hfz, hnd⟩ := hW
  obtain ⟨rfl, rfl⟩ := trodVars_none hV
  rw [List.append_nil] at hW'
  have hA : DataW.TrodAll enc Try.prog W 0 (fun _ => true) true Try.f4.params.toList args.toList ds p := hA0
  have hA1 := hA
  rw [Try.params4] at hA1 hval
  obtain ⟨v0, vs0, d0, ds0, p0, q0, hargs, rfl, rfl, h0, r0⟩ := trodAll_cons hA1
  obtain ⟨v1, vs1, d1, ds1, p1, q1, rfl, rfl, rfl, h1, r1⟩ := trodAll_cons r0
  obtain ⟨v2, vs2, d2, ds2, p2, q2, rfl, rfl, rfl, h2, r2⟩ := trodAll_cons r1
  obtain ⟨rfl, rfl, rfl⟩ := trodAll_nil r2
  obtain rfl : args = #[v0, v1, v2] := by cases args; simp_all
  obtain ⟨X0, rfl, rfl, rfl, w0⟩ := open_int Try.underlying3 (hval 0 _ v0 rfl rfl) h0
  obtain ⟨X1, rfl, rfl, rfl, w1⟩ := open_int Try.underlying3 (hval 1 _ v1 rfl rfl) h1
  obtain ⟨L2, E2, _⟩ := open_ents (hval 2 _ v2 rfl rfl) h2
  refine (splitParts_walk X0 (wf_i64' w0).1 (wf_i64' w0).2 X1 (wf_i64' w1).1 (wf_i64' w1).2 L2 v2 W E2).mono fun e W' ⟨he, hg⟩ => ?_
  subst he
  exact ⟨_, rfl, post_true laidOut (by rw [Try.params4]; intro t ht; simp at ht; first | (subst ht; exact ⟨by kernel_rfl, of_decide_eq_true (by kernel_rfl)⟩) | (rcases ht with rfl | rfl <;> exact ⟨by kernel_rfl, of_decide_eq_true (by kernel_rfl)⟩) | (rcases ht with rfl | rfl | rfl <;> exact ⟨by kernel_rfl, of_decide_eq_true (by kernel_rfl)⟩) | (rcases ht with rfl | rfl | rfl | rfl <;> exact ⟨by kernel_rfl, of_decide_eq_true (by kernel_rfl)⟩)) rfl hW' hA rfl (trodAll_cons_mk (shut_bool Try.underlying4 _) trodAll_mk0) (Later.kept hg)⟩

theorem splitParts_holds : Rows.SplitPartsSaid :=
  OpenClaim.holds_of_wide 4 Try.f4 rfl rfl rfl rfl rfl rfl rfl ⟨rfl, rfl, rfl, rfl, rfl⟩ rfl rfl rfl rfl rfl (by kernel_rfl) Try.func4 (by kernel_rfl)
    (of_decide_eq_true (by kernel_rfl)) (by unfold Func.isWrapper; first | (rw [if_pos (by decide +kernel)]; kernel_rfl) | (rw [if_neg (by decide +kernel)]; exact ⟨rfl, rfl⟩))
    (fun os started H enc _ => splitParts_lifted os started H enc)
#print axioms splitParts_holds
end Go.Proofs.Ytlmadimnoknheaa
