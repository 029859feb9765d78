/- Routes: rib.longest, Best, Tell, Cover. Routes: rib.Best, Tell, Cover; the reference's Tell. -/
import Derived.Test.YtjkhdjonlppdoaaRefKeep
namespace Pg
open Go
def isO (o : Option Rt) (b : Rt) (i : Bool) : Prop := o.getD z0r = b ∧ o.isSome = i
theorem isO_no {o : Option Rt} {b : Rt} (h : isO o b false) : o = none := by cases o <;> simp [isO] at h ⊢
theorem isO_yes {o : Option Rt} {b : Rt} (h : isO o b true) : o = some b := by cases o <;> simp [isO] at h ⊢; exact h
theorem best_no {p : Rt → Bool} {l : List Rt} {e : Rt} (h : p e = false) : bestO p (l ++ [e]) = bestO p l := by rw [bestO_snoc, h]; rfl
theorem best_first {p : Rt → Bool} {l : List Rt} {e : Rt} (h : p e = true) (ho : bestO p l = none) : bestO p (l ++ [e]) = some e := by rw [bestO_snoc, h, ho]; rfl
theorem best_more {p : Rt → Bool} {l : List Rt} {e b : Rt} (h : p e = true) (ho : bestO p l = some b) (hlt : b.n < e.n) : bestO p (l ++ [e]) = some e := by rw [bestO_snoc, h, ho]; simp [hlt]
theorem best_less {p : Rt → Bool} {l : List Rt} {e b : Rt} (h : p e = true) (ho : bestO p l = some b) (hlt : ¬ b.n < e.n) : bestO p (l ++ [e]) = some b := by rw [bestO_snoc, h, ho]; simp [hlt]
theorem blk_put4 {w : World} {g : Nat} {t : TypeId} {a b c d a' b' c' d' : Value} (h : Blk w g t #[a, b, c, d]) : Blk ((((w.setCell ⟨g, 0, none⟩ a').setCell ⟨g, 1, none⟩ b').setCell ⟨g, 2, none⟩ c').setCell ⟨g, 3, none⟩ d') g t #[a', b', c', d'] :=
  (((h.set_ 0 a').set_ 1 b').set_ 2 c').set_ 3 d'
theorem blk_far4 {w : World} {g g' : Nat} {t : TypeId} {cs : Array Value} {a' b' c' d' : Value} (h : Blk w g t cs) (hne : g ≠ g') : Blk ((((w.setCell ⟨g', 0, none⟩ a').setCell ⟨g', 1, none⟩ b').setCell ⟨g', 2, none⟩ c').setCell ⟨g', 3, none⟩ d') g t cs :=
  (((h.far (p := ⟨g', 0, none⟩) hne a').far (p := ⟨g', 1, none⟩) hne b').far (p := ⟨g', 2, none⟩) hne c').far (p := ⟨g', 3, none⟩) hne d'
theorem kept_put4 {w0 w : World} {g : Nat} (h : Kept w0 w) (hg : w0.heap.size ≤ g) (a' b' c' d' : Value) : Kept w0 ((((w.setCell ⟨g, 0, none⟩ a').setCell ⟨g, 1, none⟩ b').setCell ⟨g, 2, none⟩ c').setCell ⟨g, 3, none⟩ d') :=
  Kept.setCell (Kept.setCell (Kept.setCell (Kept.setCell h _ _ _ hg _) _ _ _ hg _) _ _ _ hg _) _ _ _ hg _
end Pg
namespace Go.Proofs.Ytjkhdjonlppdoaa
open Go.RowKit Pg

set_option maxHeartbeats 1000000 in
set_option maxRecDepth 100000 in
theorem longest_any {l : List Rt} {v : Value} (p : Rt → Bool) (g : FuncId) (lb : Array Value) (w : World) (hl : Els w v 4 Rt.cells l) (hn : l.length ≤ 1000) (hp : GivesRt g lb p w) (eg : ∀ args w, (callFunc g args).run Try.prog w = .ok (.enter g args) w) : Calls Try.prog 48 #[v, .func (.func g) #[] lb] w (Ret (retR (bestO p l)) w) := by
  obtain ⟨a, c, rfl, hc, he⟩ := hl.form
  have HE := Lib.hid he
  have HP := Lib.hid hp
  clear hl he hp
  have e0 : hi 0#128 = 0 := by kernel_rfl
  have e1 : lo 0#128 = 0 := by kernel_rfl
  go_enter Try.func48, Try.ntmps48
  go_wp2_with fail
  go_loopw [7, 9, 12] (fun vi _ vk wr => ∃ (k : Nat) (b : Rt) (i : Bool), k ≤ l.length ∧ vk = .int .i64 k ∧ vi = .bool i ∧ isO (bestO p (l.take k)) b i ∧ Kept w wr ∧ Blk wr w.heap.size 29 #[.int .u64 0, .int .u64 0, .int .i64 0, .int .i64 0] ∧ Blk wr (w.heap.size + 1) 29 #[.int .u64 (hi b.x), .int .u64 (lo b.x), .int .i64 b.n, .int .i64 b.act]) (fun _ _ vk _ => l.length - (intOf vk).toNat)
  case atStart => exact ⟨0, z0r, false, by omega, rfl, rfl, ⟨rfl, rfl⟩, Kept.alloc (Kept.alloc (Kept.refl w) _) _, (Blk.new' w _ _ rfl).alloc _, by have := Blk.new' (w.alloc (.cells #[.int .u64 0, .int .u64 0, .int .i64 0, .int .i64 0] 29)) 29 #[.int .u64 0, .int .u64 0, .int .i64 0, .int .i64 0] (g := w.heap.size + 1) (by simp); simpa [z0r, e0, e1] using this⟩
  case round =>
    obtain ⟨k, b9, i9, hk, rfl, rfl, hio, hkw, hb0, hb1⟩ := hrel
    have HX := Lib.hid hkw
    have H0 := Lib.hid hb0
    have H1 := Lib.hid hb1
    obtain ⟨q0, q1, q2, q3, ql⟩ := Blk.four hb0
    obtain ⟨r0, r1, r2, r3, rl⟩ := Blk.four hb1
    have qf := fun i => hb0.frozen i
    have rf := fun i => hb1.frozen i
    clear hb0 hb1
    by_cases hlt : k < l.length
    · have hkl : (k : Int) < (l.length : Int) := by omega
      have k0 : (0 : Int) ≤ k := by omega
      have hT := show l.take (k + 1) = l.take k ++ [l[k]] from List.take_succ_eq_append_getElem hlt
      obtain ⟨b, o, rfl, hb, hcell⟩ := (HE.out.kept hkw).at_ (k) hlt
      obtain ⟨e, hee⟩ : ∃ e, (l)[k]'hlt = e := ⟨_, rfl⟩
      rw [hee] at hcell
      have c0 : wr.cell? ⟨b, o + k * 4, none⟩ = some (.int .u64 (hi e.x)) := hcell 0 (by omega)
      have c1 : wr.cell? ⟨b, o + k * 4 + 1, none⟩ = some (.int .u64 (lo e.x)) := hcell 1 (by omega)
      have c2 : wr.cell? ⟨b, o + k * 4 + 2, none⟩ = some (.int .i64 e.n) := hcell 2 (by omega)
      have c3 : wr.cell? ⟨b, o + k * 4 + 3, none⟩ = some (.int .i64 e.act) := hcell 3 (by omega)
      have Hee := Lib.hid hee
      clear hcell hee
      rw [Hee.out] at hT
      have hcall := Lib.hid (show Calls Try.prog g (#[rv e] ++ lb) (wr.alloc (.cells #[.int .u64 (hi e.x), .int .u64 (lo e.x), .int .i64 e.n, .int .i64 e.act] 29)) (Ret (.bool (p e)) (wr.alloc (.cells #[.int .u64 (hi e.x), .int .u64 (lo e.x), .int .i64 e.n, .int .i64 e.act] 29))) from HP.out _ e (hkw.alloc _))
      cases hpe : p e
      · rw [hpe] at hcall
        have HO := Lib.hid (show isO (bestO p (l.take (k + 1))) b9 i9 by rw [hT, best_no hpe]; exact hio)
        clear hkw hT Hee hpe hio
        go_wp2_with (first | (go_at_fn g; refine hcall.out.mono ?_; rintro e w1 ⟨rfl, q9, rfl⟩))
        go_roundw
        case rel => exact ⟨k + 1, b9, i9, by omega, by go_num, rfl, HO.out, (HX.out.alloc _).ext _, (H0.out.alloc _).ext _, (H1.out.alloc _).ext _⟩
        case measure => simp [intOf]; omega
      · rw [hpe] at hcall
        cases i9
        · have HO := Lib.hid (show isO (bestO p (l.take (k + 1))) e true by rw [hT, best_first hpe (isO_no hio)]; exact ⟨rfl, rfl⟩)
          clear hkw hT Hee hpe hio
          go_wp2_with (first | (go_at_fn g; refine hcall.out.mono ?_; rintro e w1 ⟨rfl, q9, rfl⟩))
          go_roundw
          case rel => exact ⟨k + 1, e, true, by omega, by go_num, rfl, HO.out, kept_put4 ((HX.out.alloc _).ext _) (by omega) _ _ _ _, blk_far4 ((H0.out.alloc _).ext _) (by omega), blk_put4 ((H1.out.alloc _).ext _)⟩
          case measure => simp [intOf]; omega
        · by_cases hbn : b9.n < e.n
          · have HO := Lib.hid (show isO (bestO p (l.take (k + 1))) e true by rw [hT, best_more hpe (isO_yes hio) hbn]; exact ⟨rfl, rfl⟩)
            clear hkw hT Hee hpe hio
            go_wp2_with (first | (go_at_fn g; refine hcall.out.mono ?_; rintro e w1 ⟨rfl, q9, rfl⟩))
            go_roundw
            case rel => exact ⟨k + 1, e, true, by omega, by go_num, rfl, HO.out, kept_put4 ((HX.out.alloc _).ext _) (by omega) _ _ _ _, blk_far4 ((H0.out.alloc _).ext _) (by omega), blk_put4 ((H1.out.alloc _).ext _)⟩
            case measure => simp [intOf]; omega
          · have HO := Lib.hid (show isO (bestO p (l.take (k + 1))) b9 true by rw [hT, best_less hpe (isO_yes hio) hbn]; exact ⟨rfl, rfl⟩)
            clear hkw hT Hee hpe hio
            go_wp2_with (first | (go_at_fn g; refine hcall.out.mono ?_; rintro e w1 ⟨rfl, q9, rfl⟩))
            go_roundw
            case rel => exact ⟨k + 1, b9, true, by omega, by go_num, rfl, HO.out, (HX.out.alloc _).ext _, (H0.out.alloc _).ext _, (H1.out.alloc _).ext _⟩
            case measure => simp [intOf]; omega
    · have hkl : k = l.length := by omega
      subst hkl
      rw [List.take_length] at hio
      have HV := Lib.hid (show retR (bestO p l) = .tuple #[rv b9, .bool i9] by unfold retR; rw [hio.1, hio.2])
      clear hkw hlt hio
      go_wp2_with fail
      refine bodyPost_ret (v := .tuple #[rv b9, .bool i9]) (by simp [results, Try.results48, go_sem, rv, q0, q1, q2, q3]) rfl (by rw [HV.out]; exact Ret.mk (kept_put4 HX.out (by omega) _ _ _ _))
end Go.Proofs.Ytjkhdjonlppdoaa
namespace Pg
open Go
def covP (x : B) (n : Int) (s : Rt) : Bool := !eqR x n s && coversB s.x s.n x n
theorem tellR_none {l : List Rt} {a : B} (h : bestO (matchR a) l = none) : tellR l a = 0 := by unfold tellR; rw [h]; rfl
theorem tellR_some {l : List Rt} {a : B} {b : Rt} (h : bestO (matchR a) l = some b) : tellR l a = b.act := by unfold tellR; rw [h]; rfl
end Pg
namespace Go.Proofs.Ytjkhdjonlppdoaa
open Go.RowKit Pg

set_option maxHeartbeats 1000000 in
set_option maxRecDepth 100000 in
theorem best1_gives (a : B) (g : Nat) (w : World) (h : Blk w g 25 #[.int .u64 (hi a), .int .u64 (lo a)]) : GivesRt 49 #[.pointer (some ⟨g, 0, none⟩)] (matchR a) w := by
  intro W e hkw
  obtain ⟨c0, c1, hlt⟩ := Blk.two (h.kept hkw)
  show Calls Try.prog 49 #[rv e, .pointer (some ⟨g, 0, none⟩)] W (Ret (.bool (matchR a e)) W)
  have HM := Lib.hid (fun W => show Calls Try.prog 34 #[pv e.x e.n, av a] W (Ret (.bool (matchR a e)) W) from match_any _ _ _ W)
  clear h hkw
  go_enter Try.func49, Try.ntmps49
  go_wp2_with (first | (go_at_call 34; first | ((refine (calls_in (HM.out _)).mono ?_); rintro e w1 ⟨rfl, q1, rfl⟩) | ((refine (HM.out _).mono ?_); rintro e w1 ⟨rfl, q1, rfl⟩)))
  go_ret
  exact Ret.of (rfl) (by simp (maxDischargeDepth := 99))
set_option maxHeartbeats 1000000 in
set_option maxRecDepth 100000 in
theorem ribbest_any {l : List Rt} {v : Value} (a : B) (w : World) (hl : Els w v 4 Rt.cells l) (hn : l.length ≤ 1000) : Calls Try.prog 23 #[v, av a] w (Ret (retR (bestO (matchR a) l)) w) := by
  obtain ⟨o, ho⟩ : ∃ o, bestO (matchR a) l = o := ⟨_, rfl⟩
  obtain ⟨b, hb⟩ : ∃ b, o.getD z0r = b := ⟨_, rfl⟩
  obtain ⟨i, hi9⟩ : ∃ i, o.isSome = i := ⟨_, rfl⟩
  have hlg := Lib.hid (fun W (h : Els W v 4 Rt.cells l) (g : Nat) (hB : Blk W g 25 #[.int .u64 (hi a), .int .u64 (lo a)]) => show Calls Try.prog 48 #[v, .func (.func 49) #[] #[.pointer (some ⟨g, 0, none⟩)]] W (Ret (.tuple #[rv b, .bool i]) W) by
    have := longest_any (matchR a) 49 _ W h hn (best1_gives a g W hB) (enters_of Try.func49 (by kernel_rfl) rfl)
    rwa [ho, show retR o = .tuple #[rv b, .bool i] by unfold retR; rw [hb, hi9]] at this)
  rw [ho, show retR o = .tuple #[rv b, .bool i] by unfold retR; rw [hb, hi9]]
  have HE := Lib.hid hl
  obtain ⟨ad, c, rfl, hc, he⟩ := hl.form
  clear hl he ho hb hi9
  go_enter Try.func23, Try.ntmps23
  go_wp2_with fail
  refine (hlg.out _ ((HE.out.alloc _).alloc _) _ ((Blk.new' w _ _ rfl).alloc _)).mono ?_
  rintro e w1 ⟨rfl, q1, rfl⟩
  go_wp2_with fail
  exact bodyPost_ret (v := .tuple #[rv b, .bool i]) (by simp [results, Try.results23, go_sem, rv]) rfl (Ret.mk (by simp (maxDischargeDepth := 99)))
set_option maxHeartbeats 1000000 in
set_option maxRecDepth 100000 in
theorem ribtell_any {l : List Rt} {v : Value} (a : B) (w : World) (hl : Els w v 4 Rt.cells l) (hn : l.length ≤ 1000) : Calls Try.prog 27 #[v, av a] w (Ret (.int .i64 (tellR l a)) w) := by
  obtain ⟨o, ho⟩ : ∃ o, bestO (matchR a) l = o := ⟨_, rfl⟩
  have hbs := Lib.hid (fun W (h : Els W v 4 Rt.cells l) => show Calls Try.prog 23 #[v, av a] W (Ret (retR o) W) by rw [← ho]; exact ribbest_any a W h hn)
  have HV := Lib.hid (show tellR l a = (o.getD z0r).act by cases o with
    | none => exact tellR_none ho
    | some b => exact tellR_some ho)
  obtain ⟨b, hb⟩ : ∃ b, o.getD z0r = b := ⟨_, rfl⟩
  obtain ⟨i, hi9⟩ : ∃ i, o.isSome = i := ⟨_, rfl⟩
  rw [show retR o = .tuple #[rv b, .bool i] by unfold retR; rw [hb, hi9]] at hbs
  rw [hb] at HV
  have HE := Lib.hid hl
  obtain ⟨ad, c, rfl, hc, he⟩ := hl.form
  clear hl he ho hb hi9
  go_enter Try.func27, Try.ntmps27
  go_wp2_with fail
  refine (hbs.out _ (HE.out.alloc _)).mono ?_
  rintro e w1 ⟨rfl, q1, rfl⟩
  go_wp2_with fail
  go_ret
  exact Ret.of (by rw [HV.out]; rfl) (by simp (maxDischargeDepth := 99))
set_option maxHeartbeats 1000000 in
set_option maxRecDepth 100000 in
theorem reftellR_any {l : List Rt} {v : Value} (a : B) (w : World) (hl : Els w v 4 Rt.cells l) (hT : Tab l) (hn : l.length ≤ 1000) : Calls Try.prog 28 #[v, av a] w (Ret (.int .i64 (tellR l a)) w) := by
  have HE := Lib.hid hl
  cases ho : bestO (matchR a) l with
  | none =>
    have hbs := Lib.hid (fun W (h : Els W v 4 Rt.cells l) => show Calls Try.prog 26 #[v, av a] W (Ret (.tuple #[rv z0r, .bool false]) W) by have := refbestR_any a W h hT hn; rwa [ho] at this)
    have HV := Lib.hid (tellR_none ho)
    obtain ⟨ad, c, rfl, hc, he⟩ := hl.form
    clear hl he ho hT
    go_enter Try.func28, Try.ntmps28
    go_wp2_with fail
    refine (hbs.out _ (HE.out.alloc _)).mono ?_
    rintro e w1 ⟨rfl, q1, rfl⟩
    go_wp2_with fail
    go_ret
    exact Ret.of (by rw [HV.out]; rfl) (by simp (maxDischargeDepth := 99))
  | some b =>
    have hbs := Lib.hid (fun W (h : Els W v 4 Rt.cells l) => show Calls Try.prog 26 #[v, av a] W (Ret (.tuple #[rv b, .bool true]) W) by have := refbestR_any a W h hT hn; rwa [ho] at this)
    have HV := Lib.hid (tellR_some ho)
    obtain ⟨ad, c, rfl, hc, he⟩ := hl.form
    clear hl he ho hT
    go_enter Try.func28, Try.ntmps28
    go_wp2_with fail
    refine (hbs.out _ (HE.out.alloc _)).mono ?_
    rintro e w1 ⟨rfl, q1, rfl⟩
    go_wp2_with fail
    go_ret
    exact Ret.of (by rw [HV.out]; rfl) (by simp (maxDischargeDepth := 99))
end Go.Proofs.Ytjkhdjonlppdoaa
