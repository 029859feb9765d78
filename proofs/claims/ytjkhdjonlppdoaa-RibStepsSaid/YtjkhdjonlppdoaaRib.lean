/- Routes: One, Of, Same of the law; Right, Table of the reference. -/
import Derived.Test.YtjkhdjonlppdoaaMathT
import Derived.Test.YtjkhdjonlppdoaaInfo
import Derived.Test.YtjkhdjonlppdoaaRef02
import Derived.Test.YtjkhdjonlppdoaaSlRt
namespace Pg
open Go
def rightR (w : Int) (r : Rt) : Bool := rightB w r.x r.n && (decide (1 ≤ r.act) && decide (r.act ≤ 255))
def adjOk (w : Int) (p : Option Rt) (r : Rt) : Bool := rightR w r && (match p with | none => true | some q => decide (cmpP q.x q.n r.x r.n < 0))
def tabGo (w : Int) : Option Rt → List Rt → Bool
  | _, [] => true
  | p, r :: l => adjOk w p r && tabGo w (some r) l
def tblB (w : Int) (l : List Rt) : Bool := tabGo w none l && (famB w && decide (l.length ≤ 256))
def prevR (l : List Rt) (k : Nat) : Option Rt := if k = 0 then none else l[k - 1]?
theorem tabGo_step (w : Int) (l : List Rt) (k : Nat) (hk : k < l.length) : tabGo w (prevR l k) (l.drop k) = (adjOk w (prevR l k) l[k] && tabGo w (prevR l (k + 1)) (l.drop (k + 1))) := by
  rw [List.drop_eq_getElem_cons hk]
  show (adjOk w (prevR l k) l[k] && tabGo w (some l[k]) (l.drop (k + 1))) = _
  congr 2
  unfold prevR
  rw [if_neg (by omega), Nat.add_sub_cancel, List.getElem?_eq_getElem hk]
theorem ltR_of_tabGo (w : Int) : ∀ (l : List Rt) (p : Option Rt), tabGo w p l = true → (∀ q, p = some q → ∀ r ∈ l, ltR q r) ∧ l.Pairwise ltR ∧ ∀ r ∈ l, rightR w r = true
  | [], p, _ => ⟨fun _ _ r hr => by simp at hr, List.Pairwise.nil, fun r hr => by simp at hr⟩
  | r :: l, p, h => by
    simp only [tabGo, adjOk, Bool.and_eq_true] at h
    obtain ⟨⟨h1, h2⟩, h3⟩ := h
    obtain ⟨i1, i2, i3⟩ := ltR_of_tabGo w l (some r) h3
    refine ⟨fun q hq s hs => ?_, List.Pairwise.cons (fun s hs => i1 r rfl s hs) i2, fun s hs => ?_⟩
    · subst hq
      have hqr : ltR q r := (cmpP_lt _ _ _ _).1 (by simpa using h2)
      rcases List.mem_cons.1 hs with rfl | hs
      · exact hqr
      · exact ltR_trans hqr (i1 r rfl s hs)
    · rcases List.mem_cons.1 hs with rfl | hs
      · exact h1
      · exact i3 s hs
theorem tab_of {l : List Rt} (h : tblB 128 l = true) : Tab l ∧ (∀ r ∈ l, rightR 128 r = true) ∧ l.length ≤ 256 := by
  unfold tblB at h
  simp only [Bool.and_eq_true, decide_eq_true_eq] at h
  obtain ⟨_, h2, h3⟩ := ltR_of_tabGo 128 l none h.1
  exact ⟨⟨fun r hr => by have := h3 r hr; unfold rightR at this; simp only [Bool.and_eq_true] at this; exact this.1, h2⟩, h3, h.2.2⟩
end Pg
namespace Go.Proofs.Ytjkhdjonlppdoaa
open Go.RowKit Pg

set_option maxHeartbeats 1000000 in
set_option maxRecDepth 100000 in
theorem law06one_any (r : Rt) (w : World) : Calls Try.prog 14 #[rv r] w (Ret (rv r) w) := by
  go_enter Try.func14, Try.ntmps14
  go_wp2_with fail
  refine region_ext_tail _ (by first | exact Later.ext _ _ | exact Later.refl _) 6 mixed (by kernel_rfl) ?_
  simp only [List.take_succ_cons, List.take_zero, List.drop_succ_cons, List.drop_zero]
  repeat (go_big_quiet_step ((first | (go_at_call 25; exact calls_in (law02of_any _ _ _)))))
  refine wpQuiet_nil ?_
  rintro _ ⟨q, rfl⟩
  go_wp2_with fail
  exact bodyPost_ret (v := rv r) (by simp [results, Try.results14, go_sem, rv]) rfl (Ret.mk (by simp (maxDischargeDepth := 99)))
set_option maxHeartbeats 1000000 in
set_option maxRecDepth 100000 in
theorem law06of_any {l : List Rt} {v : Value} (w : World) (hl : Els w v 4 Rt.cells l) (hn : l.length ≤ 1000) : Calls Try.prog 17 #[v] w (RetEls 36 4 Rt.cells l w) := by
  obtain ⟨a, c, rfl, hc, he⟩ := hl.form
  have HE := Lib.hid he
  clear hl he
  go_enter Try.func17, Try.ntmps17
  go_wp2_with fail
  go_loopw [3, 5, 8] (fun vo _ vk wr => ∃ k : Nat, k ≤ l.length ∧ vk = .int .i64 k ∧ Own w wr 36 4 vo k ((l.take k).flatMap Rt.cells)) (fun _ _ k _ => l.length - (intOf k).toNat)
  case atStart => exact ⟨0, by omega, rfl, Own.nil _ _ (Kept.refl _) _ _⟩
  case round =>
    obtain ⟨k, hk, rfl, hown⟩ := hrel
    by_cases hlt : k < l.length
    · have HO := Lib.hid hown
      have hkl : (k : Int) < (l.length : Int) := by omega
      have HT := Lib.hid (show l.take (k + 1) = l.take k ++ [l[k]] from List.take_succ_eq_append_getElem hlt)
      obtain ⟨b, o, rfl, hb, hcell⟩ := (HE.out.kept hown.kept).at_ (k) hlt
      obtain ⟨e, hee⟩ : ∃ e, (l)[k]'hlt = e := ⟨_, rfl⟩
      rw [hee] at hcell
      have c0 : wr.cell? ⟨b, o + k * 4, none⟩ = some (.int .u64 (hi e.x)) := hcell 0 (by omega)
      have c1 : wr.cell? ⟨b, o + k * 4 + 1, none⟩ = some (.int .u64 (lo e.x)) := hcell 1 (by omega)
      have c2 : wr.cell? ⟨b, o + k * 4 + 2, none⟩ = some (.int .i64 e.n) := hcell 2 (by omega)
      have c3 : wr.cell? ⟨b, o + k * 4 + 3, none⟩ = some (.int .i64 e.act) := hcell 3 (by omega)
      have Hee := Lib.hid hee
      clear hcell hee
      rw [Hee.out] at HT
      clear hown Hee
      go_wp2_with (first | (go_at_call 14; first | ((refine (calls_in (law06one_any _ _)).mono ?_); rintro e w1 ⟨rfl, q1, rfl⟩) | ((refine (law06one_any _ _).mono ?_); rintro e w1 ⟨rfl, q1, rfl⟩)) | (at_builtin; refine wpList_push rfl _ _ 40 rfl 36 (.agg #[.int .u64 0, .int .u64 0, .int .i64 0, .int .i64 0]) 4 32 Try.underlying40 info_refroute rfl (by omega) u3 k _ rfl (((HO.out.alloc _).ext _).alloc _) _ 1 1 (Rt.cells e) rfl rfl (heap_alloc_new _ _) (by simp [Rt.cells, Value.oneCell']) (by unfold maxLen; omega) (by omega) ?_; intro v' w1 hown1))
      go_roundw
      case rel => exact ⟨k + 1, by omega, by go_num, by rw [HT.out, List.flatMap_append]; simpa using hown1⟩
      case measure => simp [intOf]; omega
    · have hkl : k = l.length := by omega
      subst hkl
      have HO := Lib.hid hown
      clear hown hlt hk
      go_wp2_with fail
      go_ret
      exact RetEls.mk (Kept.refl w) (by have := HO.out; rwa [List.take_length] at this)
set_option maxHeartbeats 1000000 in
set_option maxRecDepth 100000 in
theorem law06same_any {l : List Rt} {v u : Value} (w : World) (hl : Els w v 4 Rt.cells l) (hm : Els w u 4 Rt.cells l) (hn : l.length ≤ 1000) : Calls Try.prog 30 #[v, u] w (Ret (.bool true) w) := by
  obtain ⟨a, c, rfl, hc, he⟩ := hl.form
  obtain ⟨a2, c2, rfl, hc2, he2⟩ := hm.form
  have HE := Lib.hid he
  have HE2 := Lib.hid he2
  clear hl he hm he2
  go_enter Try.func30, Try.ntmps30
  go_wp2_with fail
  go_loopw [5, 13] (fun _ vk wr => ∃ k : Nat, k ≤ l.length ∧ vk = .int .i64 k ∧ Kept w wr) (fun _ k _ => l.length - (intOf k).toNat)
  case atStart => exact ⟨0, by omega, rfl, by simp (maxDischargeDepth := 99)⟩
  case round =>
    obtain ⟨k, hk, rfl, hkw⟩ := hrel
    have HX := Lib.hid hkw
    by_cases hlt : k < l.length
    · obtain ⟨bA, oA, rfl, hbA, hcellA⟩ := (HE.out.kept hkw).at_ (k) hlt
      obtain ⟨eA, heeA⟩ : ∃ e, (l)[k]'hlt = e := ⟨_, rfl⟩
      rw [heeA] at hcellA
      have cA0 : wr.cell? ⟨bA, oA + k * 4, none⟩ = some (.int .u64 (hi eA.x)) := hcellA 0 (by omega)
      have cA1 : wr.cell? ⟨bA, oA + k * 4 + 1, none⟩ = some (.int .u64 (lo eA.x)) := hcellA 1 (by omega)
      have cA2 : wr.cell? ⟨bA, oA + k * 4 + 2, none⟩ = some (.int .i64 eA.n) := hcellA 2 (by omega)
      have cA3 : wr.cell? ⟨bA, oA + k * 4 + 3, none⟩ = some (.int .i64 eA.act) := hcellA 3 (by omega)
      have HeeA := Lib.hid heeA
      clear hcellA heeA
      obtain ⟨bZ, oZ, rfl, hbZ, hcellZ⟩ := (HE2.out.kept hkw).at_ (k) hlt
      obtain ⟨eZ, heeZ⟩ : ∃ e, (l)[k]'hlt = e := ⟨_, rfl⟩
      rw [heeZ] at hcellZ
      have cZ0 : wr.cell? ⟨bZ, oZ + k * 4, none⟩ = some (.int .u64 (hi eZ.x)) := hcellZ 0 (by omega)
      have cZ1 : wr.cell? ⟨bZ, oZ + k * 4 + 1, none⟩ = some (.int .u64 (lo eZ.x)) := hcellZ 1 (by omega)
      have cZ2 : wr.cell? ⟨bZ, oZ + k * 4 + 2, none⟩ = some (.int .i64 eZ.n) := hcellZ 2 (by omega)
      have cZ3 : wr.cell? ⟨bZ, oZ + k * 4 + 3, none⟩ = some (.int .i64 eZ.act) := hcellZ 3 (by omega)
      have HeeZ := Lib.hid heeZ
      clear hcellZ heeZ
      obtain rfl : eA = eZ := by rw [← HeeA.out, ← HeeZ.out]
      have hkl : (k : Int) < (l.length : Int) := by omega
      have k0 : (0 : Int) ≤ k := by omega
      clear hkw HeeA HeeZ
      go_wp2_with fail
      refine region_ext _ (Later.refl _) mixed (by kernel_rfl) ?_
      repeat (go_big_quiet_step ((first | (go_at_call 14; exact calls_in (law06one_any _ _)))))
      refine wpQuiet_nil ?_
      rintro _ ⟨q, rfl⟩
      go_wp2_with fail
      go_roundw
      case rel => exact ⟨k + 1, by omega, by go_num, HX.out.ext _⟩
      case measure => simp [intOf]; omega
    · have hkl : k = l.length := by omega
      subst hkl
      clear hkw hlt
      go_wp2_with fail
      go_ret
      exact Ret.of (rfl) (by simp (maxDischargeDepth := 99) [HX.out])
set_option maxHeartbeats 1000000 in
set_option maxRecDepth 100000 in
theorem refrightR_any (k : Int) (r : Rt) (w : World) : Calls Try.prog 13 #[.int .i64 k, rv r] w (Ret (.bool (rightR k r)) w) := by
  cases h1 : rightB k r.x r.n
  · have HV := Lib.hid (show rightR k r = false by unfold rightR; rw [h1]; rfl)
    go_enter Try.func13, Try.ntmps13
    go_wp2_with (first | (go_at_call 40; first | ((refine (calls_in (refright_as h1 _)).mono ?_); rintro e w1 ⟨rfl, q1, rfl⟩) | ((refine (refright_as h1 _).mono ?_); rintro e w1 ⟨rfl, q1, rfl⟩)))
    go_ret
    exact Ret.of (by rw [HV.out]; rfl) (by simp (maxDischargeDepth := 99))
  cases h2 : decide (1 ≤ r.act)
  · have HV := Lib.hid (show rightR k r = false by unfold rightR; rw [h1, h2]; rfl)
    go_enter Try.func13, Try.ntmps13
    go_wp2_with (first | (go_at_call 40; first | ((refine (calls_in (refright_as h1 _)).mono ?_); rintro e w1 ⟨rfl, q1, rfl⟩) | ((refine (refright_as h1 _).mono ?_); rintro e w1 ⟨rfl, q1, rfl⟩)))
    go_ret
    exact Ret.of (by rw [HV.out]; rfl) (by simp (maxDischargeDepth := 99))
  have HV := Lib.hid (show rightR k r = decide (r.act ≤ 255) by unfold rightR; rw [h1, h2]; rfl)
  go_enter Try.func13, Try.ntmps13
  go_wp2_with (first | (go_at_call 40; first | ((refine (calls_in (refright_as h1 _)).mono ?_); rintro e w1 ⟨rfl, q1, rfl⟩) | ((refine (refright_as h1 _).mono ?_); rintro e w1 ⟨rfl, q1, rfl⟩)))
  go_ret
  exact Ret.of (by rw [HV.out]; rfl) (by simp (maxDischargeDepth := 99))
theorem refrightR_as {b : Bool} {k : Int} {r : Rt} (h : rightR k r = b) (w : World) : Calls Try.prog 13 #[.int .i64 k, rv r] w (Ret (.bool b) w) := by rw [← h]; exact refrightR_any k r w
theorem refcmpp_as {i : Int} {x : B} {n : Int} {y : B} {m : Int} (h : cmpP x n y m = i) (w : World) : Calls Try.prog 43 #[pv x n, pv y m] w (Ret (.int .i64 i) w) := by rw [← h]; exact refcmpp_any x n y m w
end Go.Proofs.Ytjkhdjonlppdoaa
