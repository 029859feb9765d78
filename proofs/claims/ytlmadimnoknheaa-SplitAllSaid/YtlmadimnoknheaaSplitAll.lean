/- SplitAll: the parts of all banks, together, have each entry as often as it has to do with banks; of one bank there is the row itself. -/
import Derived.Test.YtlmadimnoknheaaRows
import Derived.Test.YtlmadimnoknheaaSplit4
import Derived.Test.YtlmadimnoknheaaOpenEls
namespace Pg
open Go
def sumN (k : Nat) (l : List Ent) : Nat → Nat
  | 0 => 0
  | i + 1 => sumN k l i + (partL k i l).length
theorem sumN_nil (k : Nat) : ∀ i, sumN k [] i = 0
  | 0 => rfl
  | i + 1 => by rw [sumN, sumN_nil k i]; rfl
theorem sumN_cons (k : Nat) (e : Ent) (l : List Ent) : ∀ i, sumN k (e :: l) i = (List.range i).countP (meetAt k e.x e.m) + sumN k l i
  | 0 => rfl
  | i + 1 => by
    rw [sumN, sumN, sumN_cons k e l i, List.range_succ, List.countP_append]
    unfold partL
    cases h : meetAt k e.x e.m i
    · simp [h]; omega
    · simp [h]; omega
theorem banks_pos (k : Nat) (h : k ≤ 3) (x m : B) : 0 < (banksL k x m).length := by
  apply List.length_pos_of_mem
  refine mem_banksL.2 ⟨topN_lt x k (by omega), ?_⟩
  rw [meetAt_iff (by omega) (topN_lt x k (by omega))]
  intro i hi' _
  rw [topN_bit x k i (by omega) hi']
theorem sumN_all (k : Nat) (h : k ≤ 3) : ∀ l : List Ent, sumN k l (2 ^ k) = l.length + copiesN k l
  | [] => by rw [sumN_nil]; rfl
  | e :: l => by
    rw [sumN_cons, sumN_all k h l]
    have h1 := banks_pos k h e.x e.m
    have h2 : copiesN k (e :: l) = ((bankZ k e.x e.m).length - 1) + copiesN k l := by unfold copiesN; simp
    rw [h2, bankZ_nat k h]
    have h3 : (List.range (2 ^ k)).countP (meetAt k e.x e.m) = (banksL k e.x e.m).length := by unfold banksL; rw [List.countP_eq_length_filter]
    rw [h3, List.length_cons]
    omega
theorem sumN_le (k : Nat) (l : List Ent) : ∀ i, sumN k l i ≤ i * l.length
  | 0 => by simp [sumN]
  | i + 1 => by
    have h := sumN_le k l i
    have h2 : (partL k i l).length ≤ l.length := List.length_filter_le _ _
    rw [sumN, Nat.succ_mul]; omega
theorem part_zero (l : List Ent) : partZ 0 0 l = l := by
  rw [show (0 : Int) = ((0 : Nat) : Int) from rfl, partZ_yes 0 (by omega) 0 (by decide)]
  unfold partL
  apply List.filter_eq_self.2
  intro e _
  rw [meetAt_iff (by omega) (by decide)]
  intro i hi'; omega
end Pg
namespace Go.Proofs.Ytlmadimnoknheaa
open Go.RowKit Pg Go.ChangeShapes Go.WideShapes Go.ChangeAt

set_option maxHeartbeats 1000000 in
set_option maxRecDepth 100000 in
theorem splitAll_go {l : List Ent} {v : Value} (k : Nat) (h : k ≤ 3) (w : World) (hl : Els w v 6 Ent.cells l) (hn : l.length ≤ 30) : Calls Try.prog 5 #[.int .i64 (k : Int), v] w (Ret (.bool true) w) := by
  obtain ⟨ad, c, rfl, hc, he⟩ := hl.form
  have HE := Lib.hid he
  clear hl he
  have hn' : ¬ (30 : Int) < (l.length : Int) := by omega
  have h8 := pow_small h
  obtain ⟨M, hM⟩ : ∃ M, 2 ^ k = M := ⟨_, rfl⟩
  have hmany := Lib.hid (fun w => (by have := smany_yes k h w; rwa [hM] at this : Calls Try.prog 12 #[.int .i64 (k : Int)] w (Ret (.int .i64 (M : Int)) w)))
  have hpart := Lib.hid (fun j (hj : j < M) w (hk : Els w (.slice ad l.length c) 6 Ent.cells l) => part_yes k h j (by rw [hM]; exact hj) w hk (by omega))
  have hall := Lib.hid (show sumN k l M = l.length + copiesN k l by rw [← hM]; exact sumN_all k h l)
  have hpos := Lib.hid (fun x m => show 0 < (bankZ k x m).length by rw [bankZ_nat k h]; exact banks_pos k h x m)
  have hcop := copiesN_le k l
  have hp0 := Lib.hid (fun w (hk : Els w (.slice ad l.length c) 6 Ent.cells l) => (by have := part_any 0 0 w hk (by omega); rwa [part_zero] at this : Calls Try.prog 18 #[.int .i64 0, .int .i64 0, .slice ad l.length c] w (RetEls 48 6 Ent.cells l w)))
  have hsr := Lib.hid (sright_yes k h)
  rw [hM] at h8
  clear hM
  go_enter Try.func5, Try.ntmps5
  go_wp2_with (first | (go_at_call 13; first | ((refine (calls_in (hsr.out _)).mono ?_); rintro e w1 ⟨rfl, q1, rfl⟩) | ((refine (hsr.out _).mono ?_); rintro e w1 ⟨rfl, q1, rfl⟩)) | (go_at_call 12; first | ((refine (calls_in (hmany.out _)).mono ?_); rintro e w1 ⟨rfl, q1, rfl⟩) | ((refine (hmany.out _).mono ?_); rintro e w1 ⟨rfl, q1, rfl⟩)))
  go_loopw [5, 6, 21] (fun vn _ vk wr => ∃ i : Nat, i ≤ M ∧ vk = .int .i64 i ∧ vn = .int .i64 (sumN k l i : Int) ∧ Kept w wr) (fun _ _ k _ => M - (intOf k).toNat)
  case atStart => exact ⟨0, by omega, rfl, rfl, by simp (maxDischargeDepth := 99)⟩
  case round =>
    obtain ⟨i, hi', rfl, rfl, hkw⟩ := hrel
    have HX := Lib.hid hkw
    have hsl := sumN_le k l i
    have hsl2 : i * l.length ≤ 8 * 30 := Nat.mul_le_mul (by omega) hn
    by_cases hlt : i < M
    · have hil : (i : Int) < (M : Int) := by omega
      have hS := show sumN k l (i + 1) = sumN k l i + (partL k i l).length from rfl
      have hpl : (partL k i l).length ≤ l.length := List.length_filter_le _ _
      have hpc := Lib.hid (hpart.out i hlt wr (HE.out.kept hkw))
      generalize sumN k l i = N at *
      generalize partL k i l = PL at *
      have HS := Lib.hid hS
      clear hkw hS
      go_wp2_with (first | (go_at_call 18; refine (hpc.out).mono ?_; rintro e w1 hR; obtain ⟨a1, c1, rfl, hlc1, hown1, hels1⟩ := RetEls.out2 Ent.cells_len hR; have hk1 := Lib.hid hown1.1; clear hown1 hels1 hR))
      go_roundw
      case rel => exact ⟨i + 1, by omega, by go_num, by rw [HS.out]; go_num, HX.out.trans hk1.out⟩
      case measure => simp [intOf]; omega
    · have hiM : i = M := by omega
      subst hiM
      have hal := Lib.hid hall.out
      generalize sumN k l i = N at *
      clear hkw hlt hsl hsl2
      go_wp2_with fail
      obtain ⟨wo, hwo⟩ : ∃ wo, wo = wr := ⟨_, rfl⟩
      rw [← hwo]
      rw [← hwo] at HX
      clear hwo
      go_loopw [7, 9, 34] (fun vn _ vk wr => ∃ t : Nat, t ≤ l.length ∧ vk = .int .i64 t ∧ vn = .int .i64 t ∧ Kept wo wr) (fun _ _ k _ => l.length - (intOf k).toNat)
      case atStart => exact ⟨0, by omega, rfl, rfl, Kept.refl _⟩
      case round =>
        obtain ⟨t, ht, rfl, rfl, hkw⟩ := hrel
        have HY := Lib.hid (HX.out.trans hkw)
        have HZ := Lib.hid hkw
        by_cases hlt : t < l.length
        · obtain ⟨b, o, rfl, hb, hcell⟩ := (HE.out.kept HY.out).at_ (t) hlt
          obtain ⟨e, hee⟩ : ∃ e, (l)[t]'hlt = e := ⟨_, rfl⟩
          rw [hee] at hcell
          have c0 : wr.cell? ⟨b, o + t * 6, none⟩ = some (.int .u64 (hi e.x)) := hcell 0 (by omega)
          have c1 : wr.cell? ⟨b, o + t * 6 + 1, none⟩ = some (.int .u64 (lo e.x)) := hcell 1 (by omega)
          have c2 : wr.cell? ⟨b, o + t * 6 + 2, none⟩ = some (.int .u64 (hi e.m)) := hcell 2 (by omega)
          have c3 : wr.cell? ⟨b, o + t * 6 + 3, none⟩ = some (.int .u64 (lo e.m)) := hcell 3 (by omega)
          have c4 : wr.cell? ⟨b, o + t * 6 + 4, none⟩ = some (.int .i64 e.len) := hcell 4 (by omega)
          have c5 : wr.cell? ⟨b, o + t * 6 + 5, none⟩ = some (.int .i64 e.act) := hcell 5 (by omega)
          have Hee := Lib.hid hee
          clear hcell hee
          have htl : (t : Int) < (l.length : Int) := by omega
          have hb := Lib.hid (fun w => sbanks_any k e.x e.m w)
          have hps := hpos.out e.x e.m
          generalize bankZ k e.x e.m = L at *
          have hps : (0 : Int) < (L.length : Int) := by omega
          clear hkw Hee
          go_wp2_with (first | (go_at_call 9; refine (hb.out _).mono ?_; rintro e w1 hR; obtain ⟨a1, c1, rfl, hlc1, hown1, hels1⟩ := RetEls.out2 encN_len hR; have hk1 := Lib.hid hown1.1; clear hown1 hels1 hR))
          go_roundw
          case rel => exact ⟨t + 1, by omega, by go_num, by go_num, (HZ.out.trans (Kept.alloc (Kept.refl _) _)).trans hk1.out⟩
          case measure => simp [intOf]; omega
        · have htl : t = l.length := by omega
          subst htl
          have hco := Lib.hid (scopies_any k wr (HE.out.kept HY.out) (by omega))
          generalize copiesN k l = CN at *
          have hNZ : (N : Int) = (l.length : Int) + (CN : Int) := by have := hal.out; omega
          clear hkw hlt
          go_wp2_with (first | (go_at_call 21; refine hco.out.mono ?_; rintro e w1 ⟨rfl, q1, rfl⟩) | (go_at_call 18; refine (hp0.out _ ((HE.out.kept HY.out).ext _)).mono ?_; rintro e w1 hR; obtain ⟨a1, c1, rfl, hlc1, hown1, hels1⟩ := RetEls.out2 Ent.cells_len hR; have hk1 := Lib.hid ((HY.out.ext _).trans hown1.1); clear hown1 hels1 hR) | (go_at_call 16; first | ((refine (calls_in (awake16_any _)).mono ?_); rintro e w1 ⟨rfl, q1, rfl⟩) | ((refine (awake16_any _).mono ?_); rintro e w1 ⟨rfl, q1, rfl⟩)))
          go_ret
          exact Ret.of (rfl) (by simp (maxDischargeDepth := 99) [hk1.out])
theorem splitAll_walk (k : Int) (_ : -9223372036854775808 ≤ k) (_ : k ≤ 9223372036854775807) (l : List Ent) (v : Value) (w : World) (hl : Els w v 6 Ent.cells l) : Calls Try.prog 5 #[.int .i64 k, v] w (Ret (.bool true) w) := by
  by_cases hn : l.length ≤ 30
  · by_cases h : k < 0 ∨ 3 < k
    · obtain ⟨ad, c, rfl, hc, he⟩ := hl.form
      have hn' : ¬ (30 : Int) < (l.length : Int) := by omega
      have hsr := Lib.hid (sright_no k h)
      clear hl he h
      go_enter Try.func5, Try.ntmps5
      go_wp2_with (first | (go_at_call 13; first | ((refine (calls_in (hsr.out _)).mono ?_); rintro e w1 ⟨rfl, q1, rfl⟩) | ((refine (hsr.out _).mono ?_); rintro e w1 ⟨rfl, q1, rfl⟩)) | (go_at_call 16; first | ((refine (calls_in (awake16_any _)).mono ?_); rintro e w1 ⟨rfl, q1, rfl⟩) | ((refine (awake16_any _).mono ?_); rintro e w1 ⟨rfl, q1, rfl⟩)))
      go_ret
      exact Ret.of (rfl) (by simp (maxDischargeDepth := 99))
    · obtain ⟨n, rfl⟩ := Int.eq_ofNat_of_zero_le (show 0 ≤ k by omega)
      exact splitAll_go n (by omega) w hl hn
  · obtain ⟨ad, c, rfl, hc, he⟩ := hl.form
    have hn' : (30 : Int) < (l.length : Int) := by omega
    clear hl he hn
    go_enter Try.func5, Try.ntmps5
    go_wp2_with (first | (go_at_call 16; first | ((refine (calls_in (awake16_any _)).mono ?_); rintro e w1 ⟨rfl, q1, rfl⟩) | ((refine (awake16_any _).mono ?_); rintro e w1 ⟨rfl, q1, rfl⟩)))
    go_ret
    exact Ret.of (rfl) (by simp (maxDischargeDepth := 99))
set_option maxRecDepth 100000 in
theorem splitAll_lifted (os : Os) (started : os.Started) (H : Type) (enc : TypeId × Value → H) :
    ReturnsInHanded {} Try.checked os 5 .any (Rows.splitAllSpec.pre6 enc Try.prog Try.f5 Rows.splitAllRow.domain false) (Rows.splitAllSpec.post enc Try.prog Try.f5 false true false false) := by
  refine returnsInHanded_of_change (C := Try.checked) own started (by kernel_rfl) Try.func5
    (ChangeSpec.witness6 (enc := enc) (C := Try.checked) false ⟨#[], #[.int .i64 0, .slice none 0 0], []⟩ 8 (by kernel_rfl) (by kernel_rfl) (by kernel_rfl) (by kernel_rfl)) ?_
  intro W base args ds gs before hval0 hW hcnd _
  have hval : ∀ (j : Nat) t v, Try.f5.params[j]? = some t → args[j]? = some v → Value.okWide Try.prog W .any base t v := hval0
  have hW' := hW
  obtain ⟨p, q, hA0, hV, rfl, hfz, hnd⟩ := hW
  obtain ⟨rfl, rfl⟩ := trodVars_none hV
  rw [List.append_nil] at hW'
  have hA : DataW.TrodAll enc Try.prog W 0 (fun _ => true) true Try.f5.params.toList args.toList ds p := hA0
  have hA1 := hA
  rw [Try.params5] at hA1 hval
  obtain ⟨v0, vs0, d0, ds0, p0, q0, hargs, rfl, rfl, h0, r0⟩ := trodAll_cons hA1
  obtain ⟨v1, vs1, d1, ds1, p1, q1, rfl, rfl, rfl, h1, r1⟩ := trodAll_cons r0
  obtain ⟨rfl, rfl, rfl⟩ := trodAll_nil r1
  obtain rfl : args = #[v0, v1] := by cases args; simp_all
  obtain ⟨X0, rfl, rfl, rfl, w0⟩ := open_int Try.underlying3 (hval 0 _ v0 rfl rfl) h0
  obtain ⟨L1, E1, _⟩ := open_ents (hval 1 _ v1 rfl rfl) h1
  refine (splitAll_walk X0 (wf_i64' w0).1 (wf_i64' w0).2 L1 v1 W E1).mono fun e W' ⟨he, hg⟩ => ?_
  subst he
  exact ⟨_, rfl, post_true laidOut (by rw [Try.params5]; intro t ht; simp at ht; first | (subst ht; exact ⟨by kernel_rfl, of_decide_eq_true (by kernel_rfl)⟩) | (rcases ht with rfl | rfl <;> exact ⟨by kernel_rfl, of_decide_eq_true (by kernel_rfl)⟩) | (rcases ht with rfl | rfl | rfl <;> exact ⟨by kernel_rfl, of_decide_eq_true (by kernel_rfl)⟩) | (rcases ht with rfl | rfl | rfl | rfl <;> exact ⟨by kernel_rfl, of_decide_eq_true (by kernel_rfl)⟩)) rfl hW' hA rfl (trodAll_cons_mk (shut_bool Try.underlying4 _) trodAll_mk0) (Later.kept hg)⟩

theorem splitAll_holds : Rows.SplitAllSaid :=
  OpenClaim.holds_of_wide 5 Try.f5 rfl rfl rfl rfl rfl rfl rfl ⟨rfl, rfl, rfl, rfl, rfl⟩ rfl rfl rfl rfl rfl (by kernel_rfl) Try.func5 (by kernel_rfl)
    (of_decide_eq_true (by kernel_rfl)) (by unfold Func.isWrapper; first | (rw [if_pos (by decide +kernel)]; kernel_rfl) | (rw [if_neg (by decide +kernel)]; exact ⟨rfl, rfl⟩))
    (fun os started H enc _ => splitAll_lifted os started H enc)
#print axioms splitAll_holds
end Go.Proofs.Ytlmadimnoknheaa
