/- What is kept: prune.Keep. -/
import Derived.Test.YtdoghlncoinhoaaMathK2
import Derived.Test.YtdoghlncoinhoaaRib2
import Derived.Test.YtdoghlncoinhoaaKit5
namespace Pg
open Go
theorem foldK_take (l : List Rt) (k : Nat) (hk : k < l.length) : foldK (l.take (k + 1)) = stepK (foldK (l.take k)) l[k] := by rw [List.take_succ_eq_append_getElem hk, foldK_snoc]
theorem Own.kept2 {W0 w w' : World} {e : TypeId} {k n : Nat} {v : Value} {xs : List Value} {row : Option Nat} (h : Own W0 w e k v n xs) (hg : w.grownBy w' row) (hk : Kept W0 w') (hne : ∀ b, row = some b → v.ownBlock ≠ some b) : Own W0 w' e k v n xs := by
  refine ⟨hk, h.2.kept hg ?_⟩
  cases hv : v.ownBlock with
  | none => exact .inl rfl
  | some b => exact .inr fun e => hne b e.symm hv
theorem Own.cut2 {W0 w : World} {e : TypeId} {k n c : Nat} {a : Option Addr} {xs : List Value} (h : Own W0 w e k (.slice a n c) n xs) (m : Nat) (hm : m ≤ n) : Own W0 w e k (.slice a m c) m (xs.take (m * k)) := by
  by_cases hn : 0 < n
  · obtain ⟨g, c', hv, _⟩ := h.form hn
    injection hv with e1 e2 e3
    subst e1 e3
    exact h.cut m hm
  · have : m = n := by omega
    subst this
    have : xs.take (m * k) = xs := List.take_of_length_le (by rw [h.2.1]; exact Nat.le_refl _)
    rw [this]; exact h
theorem ownBlock_slice (a : Option Addr) (n m c c' : Nat) : (Value.slice a n c).ownBlock = (Value.slice a m c').ownBlock := by cases a <;> rfl
theorem Apart.symm {v u : Value} (h : Apart v u) : Apart u v := fun k hk hu => h k hu hk
theorem Apart.len {v : Value} {a : Option Addr} {n c : Nat} (h : Apart v (.slice a n c)) (m : Nat) : Apart v (.slice a m c) := fun k hk hu => h k hk ((ownBlock_slice a n m c c).trans hu)
theorem own_push {W0 w : World} {t : TypeId} {v : Value} {n : Nat} (L : List Rt) (e : Rt) (hn : L.length = n) (h : Own W0 w t 4 v (n + 1) (L.flatMap Rt.cells ++ Rt.cells e)) : Own W0 w t 4 v (L ++ [e]).length ((L ++ [e]).flatMap Rt.cells) := by
  subst hn
  rw [List.flatMap_append, List.length_append]
  simpa using h
theorem els_cap {α : Type} {w : World} {a : Option Addr} {n c k : Nat} {enc : α → List Value} {l : List α} (h : Els w (.slice a n c) k enc l) : l.length ≤ c := by
  obtain ⟨a', c', e, hc, _⟩ := h
  injection e with _ _ e3
  rw [e3]; exact hc
theorem stepK_none {o K : List Rt} {r : Rt} (h : o.filter (covers_ r) = []) : stepK (o, K) r = ([r], K ++ [r]) := by unfold stepK; rw [h]; rfl
theorem stepK_some {o K : List Rt} {r : Rt} {j : Nat} (hj : j < o.length) (h : o.filter (covers_ r) = o.take (j + 1)) : stepK (o, K) r = if o[j].act = r.act then (o.take (j + 1), K) else (o.take (j + 1) ++ [r], K ++ [r]) := by
  unfold stepK
  have : (o.take (j + 1)).getLast? = some o[j] := by rw [List.take_succ_eq_append_getElem hj, List.getLast?_concat]
  simp only [h, this]
end Pg
namespace Go.Proofs.Ytdoghlncoinhoaa
open Go.RowKit Pg

set_option maxHeartbeats 1000000 in
set_option maxRecDepth 100000 in
theorem keep1_any (s e : Rt) (g : Nat) (w : World) (h : Blk w g 48 #[.int .u64 (hi e.x), .int .u64 (lo e.x), .int .i64 e.n, .int .i64 e.act]) : Calls Try.prog 34 #[rv s, .pointer (some ⟨g, 0, none⟩)] w (Ret (.bool (covR s e)) w) := by
  obtain ⟨c0, c1, c2, c3, hlt⟩ := Blk.four h
  have HC := Lib.hid (fun w => show Calls Try.prog 35 #[pv s.x s.n, pv e.x e.n] w (Ret (.bool (covR s e)) w) from covers_any _ _ _ _ w)
  clear h
  go_enter Try.func34, Try.ntmps34
  go_wp2_with (first | (go_at_call 35; first | ((refine (calls_in (HC.out _)).mono ?_); rintro e w1 ⟨rfl, q1, rfl⟩) | ((refine (HC.out _).mono ?_); rintro e w1 ⟨rfl, q1, rfl⟩)))
  go_ret
  exact Ret.of (rfl) (by simp (maxDischargeDepth := 99))
set_option maxHeartbeats 1000000 in
set_option maxRecDepth 100000 in
theorem pkeep_any {l : List Rt} {v : Value} (w : World) (hl : Els w v 4 Rt.cells l) (hT : Tab l) (hn : l.length ≤ 1000) : Calls Try.prog 16 #[v] w (RetEls 48 4 Rt.cells (keepL l) w) := by
  obtain ⟨a, c, rfl, hc, he⟩ := hl.form
  have HE := Lib.hid he
  have HT := Lib.hid hT
  clear hl he hT
  go_enter Try.func16, Try.ntmps16
  go_wp2_with fail
  go_loopw [3, 4, 6, 7, 10] (fun vo vp _ _ vk wr => ∃ (k : Nat) (O K : List Rt) (a4 : Option Addr) (c4 : Nat), k ≤ l.length ∧ vk = .int .i64 k ∧ foldK (l.take k) = (O, K) ∧ vp = .slice a4 O.length c4 ∧ Own w wr 48 4 vo K.length (K.flatMap Rt.cells) ∧ Own w wr 48 4 (.slice a4 O.length c4) O.length (O.flatMap Rt.cells) ∧ Apart vo (.slice a4 O.length c4)) (fun _ _ _ _ k _ => l.length - (intOf k).toNat)
  case atStart => exact ⟨0, [], [], none, 0, by omega, rfl, rfl, rfl, Own.nil _ _ (Kept.refl _) _ _, Own.nil _ _ (Kept.refl _) _ _, fun k h => by cases h⟩
  case round =>
    obtain ⟨k, O, K, a4, c4, hk, rfl, hf, rfl, hK, ho, hap⟩ := hrel
    by_cases hlt : k < l.length
    · have hkl : (k : Int) < (l.length : Int) := by omega
      obtain ⟨b, o, rfl, hb, hcell⟩ := (HE.out.kept hK.kept).at_ (k) hlt
      obtain ⟨e, hee⟩ : ∃ e, (l)[k]'hlt = e := ⟨_, rfl⟩
      rw [hee] at hcell
      have c0 : wr.cell? ⟨b, o + k * 4, none⟩ = some (.int .u64 (hi e.x)) := hcell 0 (by omega)
      have c1 : wr.cell? ⟨b, o + k * 4 + 1, none⟩ = some (.int .u64 (lo e.x)) := hcell 1 (by omega)
      have c2 : wr.cell? ⟨b, o + k * 4 + 2, none⟩ = some (.int .i64 e.n) := hcell 2 (by omega)
      have c3 : wr.cell? ⟨b, o + k * 4 + 3, none⟩ = some (.int .i64 e.act) := hcell 3 (by omega)
      have Hee := Lib.hid hee
      clear hcell hee
      have hft := foldK_take l k hlt
      rw [hf, Hee.out] at hft
      have hTk : Tab (l.take k) := HT.out.sub (List.take_sublist _ _)
      have hKl : K.length ≤ 1000 := by
        have := (keepL_sub hTk).length_le
        unfold keepL at this
        rw [hf, List.length_take] at this
        exact Nat.le_trans this (by omega)
      have hch : O.Pairwise chainR := by
        have := openL_chain (pre := l.take k) (post := l.drop k) (by rw [List.take_append_drop]; exact HT.out)
        unfold openL at this
        rwa [hf] at this
      have hol : O.length ≤ 1000 := by
        have := (invK (l.take k) (l.drop k) (by rw [List.take_append_drop]; exact HT.out)).osub.length_le
        unfold openL keepL at this
        rw [hf] at this
        exact Nat.le_trans this hKl
      have HK := Lib.hid hK
      have HO := Lib.hid ho
      have HA := Lib.hid hap
      have HF := Lib.hid hft
      have HCh := Lib.hid hch
      obtain ⟨gx, hgx⟩ : ∃ gx, gx = wr.heap.size := ⟨_, rfl⟩
      have HX := Lib.hid (Blk.new' wr 48 #[.int .u64 (hi e.x), .int .u64 (lo e.x), .int .i64 e.n, .int .i64 e.act] hgx)
      have HGX := Lib.hid hgx
      have HL3 := Lib.hid (fun b (h : u3.ownBlock = some b) => show b < gx by rw [hgx]; exact (hK.2.lt b h).2)
      have HL4 := Lib.hid (fun b (h : (Value.slice a4 O.length c4).ownBlock = some b) => show b < gx by rw [hgx]; exact (ho.2.lt b h).2)
      clear hK ho hap hft hch hf Hee hgx hTk
      go_wp2_with fail
      rw [← HGX.out]
      go_loopw [4] (fun vp w5 => ∃ m : Nat, m ≤ O.length ∧ vp = .slice a4 m c4 ∧ Kept (wr.alloc (.cells #[.int .u64 (hi e.x), .int .u64 (lo e.x), .int .i64 e.n, .int .i64 e.act] 48)) w5 ∧ (O.take m).filter (covers_ e) = O.filter (covers_ e)) (fun vp _ => match vp with | .slice _ m _ => m | _ => 0)
      case atStart => exact ⟨O.length, Nat.le_refl _, rfl, Kept.refl _, by rw [List.take_length]⟩
      case round =>
        obtain ⟨m, hm, rfl, hkw, hfl⟩ := hrel
        have HX5 := Lib.hid (HX.out.kept hkw)
        have HKC := Lib.hid (HK.out.step (Kept.trans (Kept.alloc (Kept.refl _) _) hkw))
        have HOA := Lib.hid (HO.out.step (Kept.trans (Kept.alloc (Kept.refl _) _) hkw))
        have HK5 := Lib.hid hkw
        have x0 := fun j => HX5.out.cell j
        have xl := HX5.out.lt
        cases m with
        | zero =>
          have HS := Lib.hid (show foldK (l.take (k + 1)) = (O.take 0 ++ [e], K ++ [e]) by rw [HF.out, stepK_none (by rw [← hfl]; rfl)]; rfl)
          have HOC := Lib.hid (show Own w wr 48 4 (.slice a4 0 c4) 0 ((O.take 0).flatMap Rt.cells) by have := HOA.out.cut2 0 (by omega); simpa using this)
          clear hkw hfl
          go_wp2_with fail
          refine region_ext _ (by first | exact Later.ext _ _ | exact Later.refl _) mixed (by kernel_rfl) ?_
          repeat (go_big_quiet_step (fail))
          refine wpQuiet_nil ?_
          rintro _ ⟨q, rfl⟩
          go_wp2_with (first | (at_builtin; refine wpList_push2 rfl _ _ 22 rfl 48 (.agg #[.int .u64 0, .int .u64 0, .int .i64 0, .int .i64 0]) 4 32 Try.underlying22 info_route rfl (by omega) (.slice a4 0 c4) 0 ((O.take (0)).flatMap Rt.cells) rfl ((HOC.out.ext _).alloc _) _ 1 1 (Rt.cells e) rfl rfl (heap_alloc_new _ _) (by simp [Rt.cells, Value.oneCell']) (by unfold maxLen; omega) (by omega) ?_; intro v4 w9 hown4 hgr4 hap4; have G4 := Lib.hid hgr4; have A4 := Lib.hid hap4; have H4 := Lib.hid (own_push (O.take (0)) e (by rw [List.length_take]; omega) hown4); obtain ⟨a9, c9, rfl, hc9, _⟩ := (Own.els Rt.cells_len H4.out).form; have HX9 := Lib.hid (((HX5.out.ext _).alloc _).grown hgr4 fun h => by have := HL4.out gx (by rw [← h]; exact ownBlock_slice _ _ _ _ _); omega); have HKD := Lib.hid (((HKC.out.ext _).alloc _).kept2 hgr4 hown4.1 fun b hb hb2 => HA.out b hb2 (by rw [← hb]; exact ownBlock_slice _ _ _ _ _)); have x9 := fun j => HX9.out.cell j; have xl9 := HX9.out.lt; clear hgr4 hap4 hown4) | (at_builtin; refine wpList_push2 rfl _ _ 22 rfl 48 (.agg #[.int .u64 0, .int .u64 0, .int .i64 0, .int .i64 0]) 4 32 Try.underlying22 info_route rfl (by omega) u3 K.length (K.flatMap Rt.cells) rfl (HKD.out.alloc _) _ 1 1 (Rt.cells e) rfl rfl (heap_alloc_new _ _) (by simp [Rt.cells, Value.oneCell']) (by unfold maxLen; omega) (by omega) ?_; intro v3 w10 hown3 hgr3 hap3; have G3 := Lib.hid hgr3; have A3 := Lib.hid hap3; have H3 := Lib.hid (own_push K e rfl hown3); clear hgr3 hap3 hown3))
          have AP1 := Lib.hid (Apart.symm (Apart.grown (Apart.symm (Apart.len HA.out (0))) A4.out fun b hb => by have := HL3.out b hb; have := HX5.out.lt; have := ext_size wr q; simp; omega))
          have H4b := Lib.hid ((H4.out.alloc _).kept2 G3.out H3.out.1 AP1.out)
          have AP2 := Lib.hid (Apart.grown AP1.out A3.out fun b hb => (H4.out.alloc _).2.lt b hb |>.2)
          go_roundw
          case rel => exact ⟨k + 1, O.take (0) ++ [e], K ++ [e], a9, c9, by omega, by go_num, HS.out, rfl, H3.out, H4b.out, AP2.out⟩
          case measure => simp [intOf]; omega
        | succ j =>
          have hj : j < O.length := by omega
          have j0 : (0 : Int) ≤ j := by omega
          have HE4 := Lib.hid (Own.els Rt.cells_len HOA.out)
          have hcap := els_cap HE4.out
          have jc1 : (j : Int) ≤ (c4 : Int) := by omega
          have jc2 : j ≤ c4 := by omega
          obtain ⟨bt, ot, rfl, hbt, hcellt⟩ := (HE4.out).at_ (j) hj
          obtain ⟨et, heet⟩ : ∃ e, (O)[j]'hj = e := ⟨_, rfl⟩
          rw [heet] at hcellt
          have ct0 : wr.cell? ⟨bt, ot + j * 4, none⟩ = some (.int .u64 (hi et.x)) := hcellt 0 (by omega)
          have ct1 : wr.cell? ⟨bt, ot + j * 4 + 1, none⟩ = some (.int .u64 (lo et.x)) := hcellt 1 (by omega)
          have ct2 : wr.cell? ⟨bt, ot + j * 4 + 2, none⟩ = some (.int .i64 et.n) := hcellt 2 (by omega)
          have ct3 : wr.cell? ⟨bt, ot + j * 4 + 3, none⟩ = some (.int .i64 et.act) := hcellt 3 (by omega)
          have Heet := Lib.hid heet
          clear hcellt heet
          have hcl := Lib.hid (fun W (hk : Kept wr W) => keep1_any et e gx W (HX5.out.kept hk))
          cases hcv : covR et e
          · rw [hcv] at hcl
            have HFL := Lib.hid (show (O.take j).filter (covers_ e) = O.filter (covers_ e) by rw [← hfl, pop_drop e j hj (by rw [Heet.out]; exact hcv)])
            clear hkw hfl hcv Heet
            go_wp2_with fail
            refine (hcl.out _ (by simp (maxDischargeDepth := 99))).mono ?_
            rintro e w1 ⟨rfl, q9, rfl⟩
            go_wp2_with fail
            go_roundw
            case rel => exact ⟨j, by omega, rfl, HK5.out.ext _, HFL.out⟩
            case measure => simp
          · rw [hcv] at hcl
            have hkeep := pop_keep HCh.out e j hj (by rw [Heet.out]; exact hcv)
            have hflj : O.filter (covers_ e) = O.take (j + 1) := by rw [← hfl, hkeep]
            have HOC := Lib.hid (show Own w wr 48 4 (.slice (some ⟨bt, ot, none⟩) (j + 1) c4) (j + 1) ((O.take (j + 1)).flatMap Rt.cells) by
              have := HOA.out.cut2 (j + 1) (by omega)
              rwa [flat_take Rt.cells_len O (j + 1) (by omega)] at this)
            have hst := stepK_some (K := K) (r := e) hj hflj
            rw [Heet.out] at hst
            by_cases hac : et.act = e.act
            · have HS := Lib.hid (show foldK (l.take (k + 1)) = (O.take (j + 1), K) by rw [HF.out, hst, if_pos hac])
              have hae : (et.act == e.act) = true := by simp [hac]
              have HAP := Lib.hid (Apart.len HA.out (j + 1))
              clear hkw hfl hcv Heet hkeep hflj hst hac
              go_wp2_with fail
              refine (hcl.out _ (by simp (maxDischargeDepth := 99))).mono ?_
              rintro e w1 ⟨rfl, q9, rfl⟩
              go_wp2_with fail
              refine region_ext _ (by first | exact Later.ext _ _ | exact Later.refl _) mixed (by kernel_rfl) ?_
              repeat (go_big_quiet_step (fail))
              refine wpQuiet_nil ?_
              rintro _ ⟨q, rfl⟩
              go_wp2_with fail
              go_roundw
              case rel => exact ⟨k + 1, O.take (j + 1), K, _, c4, by omega, by go_num, HS.out, by rw [List.length_take, Nat.min_eq_left (by omega)], HKC.out.ext _, by rw [List.length_take, Nat.min_eq_left (by omega)]; exact HOC.out.ext _, by rw [List.length_take, Nat.min_eq_left (by omega)]; exact HAP.out⟩
              case measure => simp [intOf]; omega
            · have HS := Lib.hid (show foldK (l.take (k + 1)) = (O.take (j + 1) ++ [e], K ++ [e]) by rw [HF.out, hst, if_neg hac])
              have hae : (et.act == e.act) = false := by simp [hac]
              clear hkw hfl hcv Heet hkeep hflj hst hac
              go_wp2_with fail
              refine (hcl.out _ (by simp (maxDischargeDepth := 99))).mono ?_
              rintro e w1 ⟨rfl, q9, rfl⟩
              go_wp2_with fail
              refine region_ext _ (by first | exact Later.ext _ _ | exact Later.refl _) mixed (by kernel_rfl) ?_
              repeat (go_big_quiet_step (fail))
              refine wpQuiet_nil ?_
              rintro _ ⟨q, rfl⟩
              go_wp2_with (first | (at_builtin; refine wpList_push2 rfl _ _ 22 rfl 48 (.agg #[.int .u64 0, .int .u64 0, .int .i64 0, .int .i64 0]) 4 32 Try.underlying22 info_route rfl (by omega) (.slice (some ⟨bt, ot, none⟩) (j + 1) c4) (j + 1) ((O.take (j + 1)).flatMap Rt.cells) rfl ((HOC.out.ext _).alloc _) _ 1 1 (Rt.cells e) rfl rfl (heap_alloc_new _ _) (by simp [Rt.cells, Value.oneCell']) (by unfold maxLen; omega) (by omega) ?_; intro v4 w9 hown4 hgr4 hap4; have G4 := Lib.hid hgr4; have A4 := Lib.hid hap4; have H4 := Lib.hid (own_push (O.take (j + 1)) e (by rw [List.length_take]; omega) hown4); obtain ⟨a9, c9, rfl, hc9, _⟩ := (Own.els Rt.cells_len H4.out).form; have HX9 := Lib.hid (((HX5.out.ext _).alloc _).grown hgr4 fun h => by have := HL4.out gx (by rw [← h]; exact ownBlock_slice _ _ _ _ _); omega); have HKD := Lib.hid (((HKC.out.ext _).alloc _).kept2 hgr4 hown4.1 fun b hb hb2 => HA.out b hb2 (by rw [← hb]; exact ownBlock_slice _ _ _ _ _)); have x9 := fun j => HX9.out.cell j; have xl9 := HX9.out.lt; clear hgr4 hap4 hown4) | (at_builtin; refine wpList_push2 rfl _ _ 22 rfl 48 (.agg #[.int .u64 0, .int .u64 0, .int .i64 0, .int .i64 0]) 4 32 Try.underlying22 info_route rfl (by omega) u3 K.length (K.flatMap Rt.cells) rfl (HKD.out.alloc _) _ 1 1 (Rt.cells e) rfl rfl (heap_alloc_new _ _) (by simp [Rt.cells, Value.oneCell']) (by unfold maxLen; omega) (by omega) ?_; intro v3 w10 hown3 hgr3 hap3; have G3 := Lib.hid hgr3; have A3 := Lib.hid hap3; have H3 := Lib.hid (own_push K e rfl hown3); clear hgr3 hap3 hown3))
              have AP1 := Lib.hid (Apart.symm (Apart.grown (Apart.symm (Apart.len HA.out (j + 1))) A4.out fun b hb => by have := HL3.out b hb; have := HX5.out.lt; have := ext_size wr q; simp; omega))
              have H4b := Lib.hid ((H4.out.alloc _).kept2 G3.out H3.out.1 AP1.out)
              have AP2 := Lib.hid (Apart.grown AP1.out A3.out fun b hb => (H4.out.alloc _).2.lt b hb |>.2)
              go_roundw
              case rel => exact ⟨k + 1, O.take (j + 1) ++ [e], K ++ [e], a9, c9, by omega, by go_num, HS.out, by rw [List.length_append, List.length_take, Nat.min_eq_left (by omega)]; rfl, H3.out, H4b.out, AP2.out⟩
              case measure => simp [intOf]; omega
    · have hkl : k = l.length := by omega
      subst hkl
      rw [List.take_length] at hf
      have hkk : K = keepL l := by unfold keepL; rw [hf]
      have HK := Lib.hid hK
      clear hK ho hap hlt hk hf
      go_wp2_with fail
      go_ret
      exact RetEls.mk (Kept.refl w) (by rw [← hkk]; exact HK.out)
end Go.Proofs.Ytdoghlncoinhoaa
