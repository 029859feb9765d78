/- Routes: rib.Chain. -/
import Derived.Test.YtjkhdjonlppdoaaMathC
import Derived.Test.YtjkhdjonlppdoaaRib6
namespace Pg
open Go
def Px (r : Rt) : List Value := [.int .u64 (hi r.x), .int .u64 (lo r.x), .int .i64 r.n]
theorem Px_len (r : Rt) : (Px r).length = 3 := rfl
theorem own_pushP {W0 w : World} {t : TypeId} {v : Value} {n : Nat} (L : List Rt) (e : Rt) (hn : L.length = n) (h : Own W0 w t 3 v (n + 1) (L.flatMap Px ++ Px e)) : Own W0 w t 3 v (L ++ [e]).length ((L ++ [e]).flatMap Px) := by
  subst hn
  rw [List.flatMap_append, List.length_append]
  simpa using h
end Pg
namespace Go.Proofs.Ytjkhdjonlppdoaa
open Go.RowKit Pg

set_option maxHeartbeats 1000000 in
set_option maxRecDepth 100000 in
theorem ribchain_any {l : List Rt} {v : Value} (w : World) (hl : Els w v 4 Rt.cells l) (hT : Tab l) (hn : l.length ≤ 1000) : Calls Try.prog 19 #[v] w (Ret (.int .i64 (chainN l : Int)) w) := by
  obtain ⟨a, c, rfl, hc, he⟩ := hl.form
  have HE := Lib.hid he
  have HT := Lib.hid hT
  clear hl he hT
  go_enter Try.func19, Try.ntmps19
  go_wp2_with fail
  go_loopw [3, 4, 6, 9] (fun vp vn _ vk wr => ∃ (k : Nat) (O : List Rt) (N : Nat) (a4 : Option Addr) (c4 : Nat), k ≤ l.length ∧ vk = .int .i64 k ∧ foldC (l.take k) = (O, N) ∧ vp = .slice a4 O.length c4 ∧ vn = .int .i64 (N : Int) ∧ Own w wr 27 3 (.slice a4 O.length c4) O.length (O.flatMap Px)) (fun _ _ _ k _ => l.length - (intOf k).toNat)
  case atStart => exact ⟨0, [], 0, none, 0, by omega, rfl, rfl, rfl, rfl, Own.nil _ _ (Kept.refl _) _ _⟩
  case round =>
    obtain ⟨k, O, N, a4, c4, hk, rfl, hf, rfl, rfl, ho⟩ := hrel
    by_cases hlt : k < l.length
    · have hkl : (k : Int) < (l.length : Int) := by omega
      obtain ⟨b, o, rfl, hb, hcell⟩ := (HE.out.kept ho.kept).at_ (k) hlt
      obtain ⟨e, hee⟩ : ∃ e, (l)[k]'hlt = e := ⟨_, rfl⟩
      rw [hee] at hcell
      have c0 : wr.cell? ⟨b, o + k * 4, none⟩ = some (.int .u64 (hi e.x)) := hcell 0 (by omega)
      have c1 : wr.cell? ⟨b, o + k * 4 + 1, none⟩ = some (.int .u64 (lo e.x)) := hcell 1 (by omega)
      have c2 : wr.cell? ⟨b, o + k * 4 + 2, none⟩ = some (.int .i64 e.n) := hcell 2 (by omega)
      have c3 : wr.cell? ⟨b, o + k * 4 + 3, none⟩ = some (.int .i64 e.act) := hcell 3 (by omega)
      have Hee := Lib.hid hee
      clear hcell hee
      have hft := foldC_take l k hlt
      rw [hf, Hee.out] at hft
      have hinv := invC (l.take k) (l.drop k) (by rw [List.take_append_drop]; exact HT.out)
      rw [hf] at hinv
      have hol : O.length ≤ 1000 := by
        have := hinv.sub.length_le
        rw [List.length_take] at this
        exact Nat.le_trans this (by omega)
      have hNl : N ≤ 1000 := by
        have := chainN_len (l.take k) (HT.out.sub (List.take_sublist _ _))
        unfold chainN at this
        rw [hf, List.length_take] at this
        exact Nat.le_trans this (by omega)
      have HO := Lib.hid ho
      have HF := Lib.hid hft
      have HCh := Lib.hid hinv.chain
      obtain ⟨gx, hgx⟩ : ∃ gx, gx = wr.heap.size := ⟨_, rfl⟩
      have HX := Lib.hid (Blk.new' wr 29 #[.int .u64 (hi e.x), .int .u64 (lo e.x), .int .i64 e.n, .int .i64 e.act] hgx)
      have HGX := Lib.hid hgx
      clear ho hft hinv hf Hee hgx
      go_wp2_with fail
      rw [← HGX.out]
      go_loopw [3] (fun vp w5 => ∃ m : Nat, m ≤ O.length ∧ vp = .slice a4 m c4 ∧ Kept (wr.alloc (.cells #[.int .u64 (hi e.x), .int .u64 (lo e.x), .int .i64 e.n, .int .i64 e.act] 29)) w5 ∧ (O.take m).filter (covers_ e) = O.filter (covers_ e)) (fun vp _ => match vp with | .slice _ m _ => m | _ => 0)
      case atStart => exact ⟨O.length, Nat.le_refl _, rfl, Kept.refl _, by rw [List.take_length]⟩
      case round =>
        obtain ⟨m, hm, rfl, hkw, hfl⟩ := hrel
        have HX5 := Lib.hid (HX.out.kept hkw)
        have HOA := Lib.hid (HO.out.step (Kept.trans (Kept.alloc (Kept.refl _) _) hkw))
        have HK5 := Lib.hid hkw
        have x0 := fun j => HX5.out.cell j
        have xl := HX5.out.lt
        cases m with
        | zero =>
          have HS := Lib.hid (show foldC (l.take (k + 1)) = (O.take 0 ++ [e], max N ((O.take 0).length + 1)) by rw [HF.out]; unfold stepC; rw [← hfl]; rfl)
          have HOC := Lib.hid (show Own w wr 27 3 (.slice a4 0 c4) 0 ((O.take 0).flatMap Px) by have := HOA.out.cut2 0 (by omega); simpa using this)
          clear hkw hfl
          go_wp2_with fail
          refine region_ext _ (by first | exact Later.ext _ _ | exact Later.refl _) mixed (by kernel_rfl) ?_
          repeat (go_big_quiet_step (fail))
          refine wpQuiet_nil ?_
          rintro _ ⟨q, rfl⟩
          go_wp2_with (first | (at_builtin; refine wpList_push rfl _ _ 72 rfl 27 (.agg #[.int .u64 0, .int .u64 0, .int .i64 0]) 3 24 Try.underlying72 info_prefix rfl (by omega) (.slice a4 0 c4) (0) ((O.take (0)).flatMap Px) rfl ((HOC.out.ext _).alloc _) _ 1 1 (Px e) rfl rfl (heap_alloc_new _ _) (by simp [Px, Value.oneCell']) (by unfold maxLen; omega) (by omega) ?_; intro v4 w9 hown4; have H4 := Lib.hid (own_pushP (O.take (0)) e (by rw [List.length_take]; omega) hown4); obtain ⟨a9, c9, rfl, hc9, _⟩ := (Own.els Px_len H4.out).form; clear hown4))
          go_roundw
          case rel => exact ⟨k + 1, O.take (0) ++ [e], max N ((O.take (0)).length + 1), a9, c9, by omega, by go_num, HS.out, by rw [List.length_append, List.length_take, Nat.min_eq_left (by omega)]; rfl, congrArg (Value.int .i64) (by rw [List.length_take, Nat.min_eq_left (by omega)]; push_cast; omega), H4.out⟩
          case measure => simp [intOf]; omega
        | succ j =>
          have hj : j < O.length := by omega
          have j0 : (0 : Int) ≤ j := by omega
          have HE4 := Lib.hid (Own.els Px_len HOA.out)
          have hcap := els_cap HE4.out
          have jc1 : (j : Int) ≤ (c4 : Int) := by omega
          have jc2 : j ≤ c4 := by omega
          obtain ⟨bt, ot, rfl, hbt, hcellt⟩ := (HE4.out).at_ (j) hj
          obtain ⟨et, heet⟩ : ∃ e, (O)[j]'hj = e := ⟨_, rfl⟩
          rw [heet] at hcellt
          have ct0 : wr.cell? ⟨bt, ot + j * 3, none⟩ = some (.int .u64 (hi et.x)) := hcellt 0 (by omega)
          have ct1 : wr.cell? ⟨bt, ot + j * 3 + 1, none⟩ = some (.int .u64 (lo et.x)) := hcellt 1 (by omega)
          have ct2 : wr.cell? ⟨bt, ot + j * 3 + 2, none⟩ = some (.int .i64 et.n) := hcellt 2 (by omega)
          have Heet := Lib.hid heet
          clear hcellt heet
          cases hcv : covR et e
          · have HC := Lib.hid (covers_as (show coversB et.x et.n e.x e.n = false from hcv))
            have HFL := Lib.hid (show (O.take j).filter (covers_ e) = O.filter (covers_ e) by rw [← hfl, pop_drop e j hj (by rw [Heet.out]; exact hcv)])
            clear hkw hfl hcv Heet
            go_wp2_with fail
            refine region_ext _ (by first | exact Later.ext _ _ | exact Later.refl _) mixed (by kernel_rfl) ?_
            repeat (go_big_quiet_step ((first | (go_at_call 44; exact calls_in (HC.out _)))))
            refine wpQuiet_nil ?_
            rintro _ ⟨q, rfl⟩
            go_wp2_with fail
            go_roundw
            case rel => exact ⟨j, by omega, rfl, HK5.out.ext _, HFL.out⟩
            case measure => simp
          · have HC := Lib.hid (covers_as (show coversB et.x et.n e.x e.n = true from hcv))
            have hkeep := pop_keep HCh.out e j hj (by rw [Heet.out]; exact hcv)
            have hflj : O.filter (covers_ e) = O.take (j + 1) := by rw [← hfl, hkeep]
            have HOC := Lib.hid (show Own w wr 27 3 (.slice (some ⟨bt, ot, none⟩) (j + 1) c4) (j + 1) ((O.take (j + 1)).flatMap Px) by
              have := HOA.out.cut2 (j + 1) (by omega)
              rwa [flat_take Px_len O (j + 1) (by omega)] at this)
            have HS := Lib.hid (show foldC (l.take (k + 1)) = (O.take (j + 1) ++ [e], max N ((O.take (j + 1)).length + 1)) by rw [HF.out]; unfold stepC; rw [hflj])
            clear hkw hfl hcv Heet hkeep hflj
            go_wp2_with fail
            refine region_ext _ (by first | exact Later.ext _ _ | exact Later.refl _) mixed (by kernel_rfl) ?_
            repeat (go_big_quiet_step ((first | (go_at_call 44; exact calls_in (HC.out _)))))
            refine wpQuiet_nil ?_
            rintro _ ⟨q, rfl⟩
            go_wp2_with (first | (at_builtin; refine wpList_push rfl _ _ 72 rfl 27 (.agg #[.int .u64 0, .int .u64 0, .int .i64 0]) 3 24 Try.underlying72 info_prefix rfl (by omega) (.slice (some ⟨bt, ot, none⟩) (j + 1) c4) (j + 1) ((O.take (j + 1)).flatMap Px) rfl ((HOC.out.ext _).alloc _) _ 1 1 (Px e) rfl rfl (heap_alloc_new _ _) (by simp [Px, Value.oneCell']) (by unfold maxLen; omega) (by omega) ?_; intro v4 w9 hown4; have H4 := Lib.hid (own_pushP (O.take (j + 1)) e (by rw [List.length_take]; omega) hown4); obtain ⟨a9, c9, rfl, hc9, _⟩ := (Own.els Px_len H4.out).form; clear hown4))
            go_roundw
            case rel => exact ⟨k + 1, O.take (j + 1) ++ [e], max N ((O.take (j + 1)).length + 1), a9, c9, by omega, by go_num, HS.out, by rw [List.length_append, List.length_take, Nat.min_eq_left (by omega)]; rfl, congrArg (Value.int .i64) (by rw [List.length_take, Nat.min_eq_left (by omega)]; push_cast; omega), H4.out⟩
            case measure => simp [intOf]; omega
    · have hkl : k = l.length := by omega
      subst hkl
      rw [List.take_length] at hf
      have HV := Lib.hid (show chainN l = N by unfold chainN; rw [hf])
      have HK := Lib.hid ho.1
      clear ho hlt hk hf
      go_wp2_with fail
      go_ret
      exact Ret.of (by rw [HV.out]; rfl) (by simp (maxDischargeDepth := 99) [HK.out])
end Go.Proofs.Ytjkhdjonlppdoaa
