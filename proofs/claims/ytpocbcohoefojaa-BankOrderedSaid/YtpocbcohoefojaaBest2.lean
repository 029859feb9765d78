/- The best entry for an address: the contracts of entry.Best, entry.Tell and the reference's. -/
import Derived.Test.YtpocbcohoefojaaBest
import Derived.Test.YtpocbcohoefojaaEnt
namespace Go.Proofs.Ytpocbcohoefojaa
open Go.RowKit Pg

set_option maxHeartbeats 1000000 in
set_option maxRecDepth 100000 in
theorem ebest_any {l : List Ent} {v : Value} (a : B) (w : World) (hl : Els w v 6 Ent.cells l) (hn : l.length ≤ 1000) : Calls Try.prog 43 #[v, av a] w (Ret (.tuple #[.int .i64 (atO (bestE l a)), .bool (bestE l a).isSome]) w) := by
  obtain ⟨ad, c, rfl, hc, he⟩ := hl.form
  have HE := Lib.hid he
  clear hl he
  have HV := Lib.hid (show bestE l a = bestF l a l.length from rfl)
  go_enter Try.func43, Try.ntmps43
  go_wp2_with fail
  go_loopw [6, 7, 8, 9, 12] (fun vb vi _ _ vk wr => ∃ k : Nat, k ≤ l.length ∧ vk = .int .i64 k ∧ vb = .int .i64 (atO (bestF l a k)) ∧ vi = .bool (bestF l a k).isSome ∧ Kept w wr ∧ Blk wr w.heap.size 31 #[.int .u64 (hi a), .int .u64 (lo a)]) (fun _ _ _ _ k _ => l.length - (intOf k).toNat)
  case atStart => exact ⟨0, by omega, rfl, rfl, rfl, by simp, Blk.new _ _ _⟩
  case round =>
    obtain ⟨k, hk, rfl, rfl, rfl, hkw, ba⟩ := hrel
    have HX := Lib.hid (And.intro hkw ba)
    obtain ⟨a0, a1, al⟩ := Blk.two ba
    have hE := Lib.hid (show Els wr (.slice ad l.length c) 6 Ent.cells l from HE.out.kept hkw)
    clear ba hkw
    by_cases hlt : k < l.length
    · obtain ⟨b, o, rfl, hb, hcell⟩ := (hE.out).at_ (k) hlt
      obtain ⟨e, hee⟩ : ∃ e, (l)[k]'hlt = e := ⟨_, rfl⟩
      rw [hee] at hcell
      have c0 : wr.cell? ⟨b, o + k * 6, none⟩ = some (.int .u64 (hi e.x)) := hcell 0 (by omega)
      have c1 : wr.cell? ⟨b, o + k * 6 + 1, none⟩ = some (.int .u64 (lo e.x)) := hcell 1 (by omega)
      have c2 : wr.cell? ⟨b, o + k * 6 + 2, none⟩ = some (.int .u64 (hi e.m)) := hcell 2 (by omega)
      have c3 : wr.cell? ⟨b, o + k * 6 + 3, none⟩ = some (.int .u64 (lo e.m)) := hcell 3 (by omega)
      have c4 : wr.cell? ⟨b, o + k * 6 + 4, none⟩ = some (.int .i64 e.len) := hcell 4 (by omega)
      have c5 : wr.cell? ⟨b, o + k * 6 + 5, none⟩ = some (.int .i64 e.act) := hcell 5 (by omega)
      have Hee := Lib.hid hee
      clear hcell hee
      have hkl : (k : Int) < (l.length : Int) := by omega
      have hst := bestF_succ l a k e (by rw [List.getElem?_eq_getElem hlt, Hee.out])
      cases hm : matchW e.x e.m a
      · rw [hm] at hst
        simp only [Bool.false_eq_true, if_false] at hst
        have HM := Lib.hid hm
        have HS := Lib.hid hst
        clear hm hst Hee
        generalize bestF l a k = X at *
        go_wp2_with fail
        refine region_ext _ (Later.refl _) mixed (by kernel_rfl) ?_
        repeat (go_big_quiet_step ((first | (go_at_call 51; exact calls_in (wmatch_as HM.out _)))))
        refine wpQuiet_nil ?_
        rintro _ ⟨q, rfl⟩
        go_wp2_with fail
        go_roundw
        case rel => exact ⟨k + 1, by omega, by go_num, by rw [HS.out], by rw [HS.out], by simp (maxDischargeDepth := 99) [HX.out.1], Blk.ext (Blk.alloc HX.out.2 _) _⟩
        case measure => simp [intOf]; omega
      · rw [hm] at hst
        simp only [if_true] at hst
        have HM := Lib.hid hm
        clear hm
        cases hb : bestF l a k with
        | none =>
          rw [hb] at hst
          simp only at hst
          have HS := Lib.hid hst
          clear hst hb Hee
          simp only [atO, Option.isSome_none]
          go_wp2_with fail
          refine region_ext _ (Later.refl _) mixed (by kernel_rfl) ?_
          repeat (go_big_quiet_step ((first | (go_at_call 51; exact calls_in (wmatch_as HM.out _)))))
          refine wpQuiet_nil ?_
          rintro _ ⟨q, rfl⟩
          go_wp2_with fail
          go_roundw
          case rel => exact ⟨k + 1, by omega, by go_num, by rw [HS.out], by rw [HS.out]; rfl, by simp (maxDischargeDepth := 99) [HX.out.1], Blk.ext (Blk.alloc HX.out.2 _) _⟩
          case measure => simp [intOf]; omega
        | some b1 =>
          have hbk := bestF_lt (by omega) hb
          have hbl : b1 < l.length := by omega
          obtain ⟨hbz, hcellz⟩ := (hE.out).at2 (b1) hbl
          obtain ⟨ez, heez⟩ : ∃ e, (l)[b1]'hbl = e := ⟨_, rfl⟩
          rw [heez] at hcellz
          have cz0 : wr.cell? ⟨b, o + b1 * 6, none⟩ = some (.int .u64 (hi ez.x)) := hcellz 0 (by omega)
          have cz1 : wr.cell? ⟨b, o + b1 * 6 + 1, none⟩ = some (.int .u64 (lo ez.x)) := hcellz 1 (by omega)
          have cz2 : wr.cell? ⟨b, o + b1 * 6 + 2, none⟩ = some (.int .u64 (hi ez.m)) := hcellz 2 (by omega)
          have cz3 : wr.cell? ⟨b, o + b1 * 6 + 3, none⟩ = some (.int .u64 (lo ez.m)) := hcellz 3 (by omega)
          have cz4 : wr.cell? ⟨b, o + b1 * 6 + 4, none⟩ = some (.int .i64 ez.len) := hcellz 4 (by omega)
          have cz5 : wr.cell? ⟨b, o + b1 * 6 + 5, none⟩ = some (.int .i64 ez.act) := hcellz 5 (by omega)
          have Heez := Lib.hid heez
          clear hcellz heez
          have i0 : (0 : Int) ≤ b1 := by omega
          have i1 : (b1 : Int) < (l.length : Int) := by omega
          rw [hb] at hst
          simp only [List.getElem?_eq_getElem hbl, Option.map_some, Option.getD_some, Heez.out] at hst
          simp only [atO, Option.isSome_some]
          by_cases hlen : ez.len < e.len
          · rw [if_pos hlen] at hst
            have HS := Lib.hid hst
            clear hst hb Hee Heez
            go_wp2_with fail
            refine region_ext _ (Later.refl _) mixed (by kernel_rfl) ?_
            repeat (go_big_quiet_step ((first | (go_at_call 51; exact calls_in (wmatch_as HM.out _)))))
            refine wpQuiet_nil ?_
            rintro _ ⟨q, rfl⟩
            go_wp2_with fail
            go_roundw
            case rel => exact ⟨k + 1, by omega, by go_num, by rw [HS.out], by rw [HS.out]; rfl, by simp (maxDischargeDepth := 99) [HX.out.1], Blk.ext (Blk.alloc HX.out.2 _) _⟩
            case measure => simp [intOf]; omega
          · rw [if_neg hlen] at hst
            have HS := Lib.hid hst
            clear hst hb Hee Heez
            go_wp2_with fail
            refine region_ext _ (Later.refl _) mixed (by kernel_rfl) ?_
            repeat (go_big_quiet_step ((first | (go_at_call 51; exact calls_in (wmatch_as HM.out _)))))
            refine wpQuiet_nil ?_
            rintro _ ⟨q, rfl⟩
            go_wp2_with fail
            go_roundw
            case rel => exact ⟨k + 1, by omega, by go_num, by rw [HS.out], by rw [HS.out]; rfl, by simp (maxDischargeDepth := 99) [HX.out.1], Blk.ext (Blk.alloc HX.out.2 _) _⟩
            case measure => simp [intOf]; omega
    · have hkl : k = l.length := by omega
      subst hkl
      rw [← HV.out]
      generalize bestE l a = X at *
      clear hlt hk hE
      go_wp2_with fail
      go_ret2
      exact Ret.of rfl HX.out.1
theorem etell_any {l : List Ent} {v : Value} (a : B) (w : World) (hl : Els w v 6 Ent.cells l) (hn : l.length ≤ 1000) : Calls Try.prog 31 #[v, av a] w (Ret (.int .i64 (tellE l a)) w) := by
  obtain ⟨ad, c, rfl, hc, he⟩ := hl.form
  have hbc := fun w' (hk : Kept w w') => ebest_any a w' (he.kept hk) hn
  have HE := Lib.hid he
  have his := bestE_is l a
  have HT := show tellE l a = (match bestE l a with | none => 0 | some b => ((l[b]?).map Ent.act).getD 0) from rfl
  clear hl he
  cases hbb : bestE l a with
  | none =>
    rw [hbb] at hbc HT
    have hbc := Lib.hid (show ∀ w', Kept w w' → Calls Try.prog 43 #[.slice ad l.length c, av a] w' (Ret (.tuple #[.int .i64 0, .bool false]) w') from hbc)
    have HV := Lib.hid HT
    clear HT his hbb
    go_enter Try.func31, Try.ntmps31
    go_wp2_with (first | (go_at_call 43; refine (hbc.out _ (by simp)).mono ?_; rintro e w1 ⟨rfl, q1, rfl⟩))
    go_ret
    exact Ret.of (by rw [HV.out]; rfl) (by simp (maxDischargeDepth := 99))
  | some b1 =>
    rw [hbb] at hbc HT his
    have hbc := Lib.hid (show ∀ w', Kept w w' → Calls Try.prog 43 #[.slice ad l.length c, av a] w' (Ret (.tuple #[.int .i64 (b1 : Int), .bool true]) w') from hbc)
    obtain ⟨hbl, _⟩ := his
    simp only [List.getElem?_eq_getElem hbl, Option.map_some, Option.getD_some] at HT
    obtain ⟨b, o, rfl, hb, hcell⟩ := (HE.out).at_ (b1) hbl
    obtain ⟨e, hee⟩ : ∃ e, (l)[b1]'hbl = e := ⟨_, rfl⟩
    rw [hee] at hcell
    have c0 : w.cell? ⟨b, o + b1 * 6, none⟩ = some (.int .u64 (hi e.x)) := hcell 0 (by omega)
    have c1 : w.cell? ⟨b, o + b1 * 6 + 1, none⟩ = some (.int .u64 (lo e.x)) := hcell 1 (by omega)
    have c2 : w.cell? ⟨b, o + b1 * 6 + 2, none⟩ = some (.int .u64 (hi e.m)) := hcell 2 (by omega)
    have c3 : w.cell? ⟨b, o + b1 * 6 + 3, none⟩ = some (.int .u64 (lo e.m)) := hcell 3 (by omega)
    have c4 : w.cell? ⟨b, o + b1 * 6 + 4, none⟩ = some (.int .i64 e.len) := hcell 4 (by omega)
    have c5 : w.cell? ⟨b, o + b1 * 6 + 5, none⟩ = some (.int .i64 e.act) := hcell 5 (by omega)
    have Hee := Lib.hid hee
    clear hcell hee
    rw [Hee.out] at HT
    have HV := Lib.hid HT
    have i0 : (0 : Int) ≤ b1 := by omega
    have i1 : (b1 : Int) < (l.length : Int) := by omega
    clear HT hbb Hee
    go_enter Try.func31, Try.ntmps31
    go_wp2_with (first | (go_at_call 43; refine (hbc.out _ (by simp)).mono ?_; rintro e w1 ⟨rfl, q1, rfl⟩))
    go_ret
    exact Ret.of (by rw [HV.out]; rfl) (by simp (maxDischargeDepth := 99))
set_option maxHeartbeats 1000000 in
set_option maxRecDepth 100000 in
theorem refebest_any {l : List Ent} {v : Value} (a : B) (w : World) (hl : Els w v 6 Ent.cells l) (hn : l.length ≤ 1000) : Calls Try.prog 42 #[v, av a] w (Ret (.int .i64 (atI (bestE l a))) w) := by
  obtain ⟨ad, c, rfl, hc, he⟩ := hl.form
  have HE := Lib.hid he
  clear hl he
  have HV := Lib.hid (bestR_eq l a)
  go_enter Try.func42, Try.ntmps42
  go_wp2_with fail
  go_loopw [5, 6] (fun vb vk wr => ∃ j : Nat, j ≤ l.length ∧ vk = .int .i64 ((l.length : Int) - 1 - j) ∧ vb = .int .i64 (atI (bestR l a l.length j)) ∧ Kept w wr ∧ Blk wr w.heap.size 30 #[.int .u64 (hi a), .int .u64 (lo a)]) (fun _ k _ => (intOf k + 1).toNat)
  case atStart => exact ⟨0, by omega, by simp, rfl, by simp, Blk.new _ _ _⟩
  case round =>
    obtain ⟨j, hj, rfl, rfl, hkw, ba⟩ := hrel
    have HX := Lib.hid (And.intro hkw ba)
    obtain ⟨a0, a1, al⟩ := Blk.two ba
    have hE := Lib.hid (show Els wr (.slice ad l.length c) 6 Ent.cells l from HE.out.kept hkw)
    clear ba hkw
    by_cases hlt : j < l.length
    · have hil : l.length - 1 - j < l.length := by omega
      obtain ⟨b, o, rfl, hb, hcell⟩ := (hE.out).at_ ((l.length - 1 - j)) hil
      obtain ⟨e, hee⟩ : ∃ e, (l)[(l.length - 1 - j)]'hil = e := ⟨_, rfl⟩
      rw [hee] at hcell
      have c0 : wr.cell? ⟨b, o + (l.length - 1 - j) * 6, none⟩ = some (.int .u64 (hi e.x)) := hcell 0 (by omega)
      have c1 : wr.cell? ⟨b, o + (l.length - 1 - j) * 6 + 1, none⟩ = some (.int .u64 (lo e.x)) := hcell 1 (by omega)
      have c2 : wr.cell? ⟨b, o + (l.length - 1 - j) * 6 + 2, none⟩ = some (.int .u64 (hi e.m)) := hcell 2 (by omega)
      have c3 : wr.cell? ⟨b, o + (l.length - 1 - j) * 6 + 3, none⟩ = some (.int .u64 (lo e.m)) := hcell 3 (by omega)
      have c4 : wr.cell? ⟨b, o + (l.length - 1 - j) * 6 + 4, none⟩ = some (.int .i64 e.len) := hcell 4 (by omega)
      have c5 : wr.cell? ⟨b, o + (l.length - 1 - j) * 6 + 5, none⟩ = some (.int .i64 e.act) := hcell 5 (by omega)
      have Hee := Lib.hid hee
      clear hcell hee
      have i2 : (0 : Int) ≤ (l.length : Int) - 1 - j := by omega
      have i3 : (l.length : Int) - 1 - j < (l.length : Int) := by omega
      have hst := bestR_succ l a l.length j e (by rw [List.getElem?_eq_getElem hil, Hee.out])
      have hcast := Lib.hid (show ((l.length - 1 - j : Nat) : Int) = (l.length : Int) - 1 - j by omega)
      cases hm : matchW e.x e.m a
      · rw [hm] at hst
        simp only [Bool.false_eq_true, if_false] at hst
        have HM := Lib.hid hm
        have HS := Lib.hid hst
        clear hm hst Hee
        generalize bestR l a l.length j = X at *
        go_wp2_with fail
        refine region_ext _ (Later.refl _) mixed (by kernel_rfl) ?_
        repeat (go_big_quiet_step ((first | (go_at_call 39; exact calls_in (refwmatch_as HM.out _)))))
        refine wpQuiet_nil ?_
        rintro _ ⟨q, rfl⟩
        go_wp2_with fail
        go_roundw
        case rel => exact ⟨j + 1, by omega, by go_num, by rw [HS.out], by simp (maxDischargeDepth := 99) [HX.out.1], Blk.ext HX.out.2 _⟩
        case measure => simp [intOf]; omega
      · rw [hm] at hst
        simp only [if_true] at hst
        have HM := Lib.hid hm
        clear hm
        cases hb : bestR l a l.length j with
        | none =>
          rw [hb] at hst
          simp only at hst
          have HS := Lib.hid hst
          clear hst hb Hee
          simp only [atI]
          go_wp2_with fail
          refine region_ext _ (Later.refl _) mixed (by kernel_rfl) ?_
          repeat (go_big_quiet_step ((first | (go_at_call 39; exact calls_in (refwmatch_as HM.out _)))))
          refine wpQuiet_nil ?_
          rintro _ ⟨q, rfl⟩
          go_wp2_with fail
          go_roundw
          case rel => exact ⟨j + 1, by omega, by go_num, by rw [HS.out]; exact congrArg _ hcast.out.symm, by simp (maxDischargeDepth := 99) [HX.out.1], Blk.ext HX.out.2 _⟩
          case measure => simp [intOf]; omega
        | some b1 =>
          have hbl := bestR_lt (by omega) hb
          obtain ⟨hbz, hcellz⟩ := (hE.out).at2 (b1) hbl
          obtain ⟨ez, heez⟩ : ∃ e, (l)[b1]'hbl = e := ⟨_, rfl⟩
          rw [heez] at hcellz
          have cz0 : wr.cell? ⟨b, o + b1 * 6, none⟩ = some (.int .u64 (hi ez.x)) := hcellz 0 (by omega)
          have cz1 : wr.cell? ⟨b, o + b1 * 6 + 1, none⟩ = some (.int .u64 (lo ez.x)) := hcellz 1 (by omega)
          have cz2 : wr.cell? ⟨b, o + b1 * 6 + 2, none⟩ = some (.int .u64 (hi ez.m)) := hcellz 2 (by omega)
          have cz3 : wr.cell? ⟨b, o + b1 * 6 + 3, none⟩ = some (.int .u64 (lo ez.m)) := hcellz 3 (by omega)
          have cz4 : wr.cell? ⟨b, o + b1 * 6 + 4, none⟩ = some (.int .i64 ez.len) := hcellz 4 (by omega)
          have cz5 : wr.cell? ⟨b, o + b1 * 6 + 5, none⟩ = some (.int .i64 ez.act) := hcellz 5 (by omega)
          have Heez := Lib.hid heez
          clear hcellz heez
          have i0 : (0 : Int) ≤ b1 := by omega
          have i1 : (b1 : Int) < (l.length : Int) := by omega
          have i4 : decide ((b1 : Int) < 0) = false := decide_eq_false (by omega)
          rw [hb] at hst
          simp only [List.getElem?_eq_getElem hbl, Option.map_some, Option.getD_some, Heez.out] at hst
          simp only [atI]
          by_cases hlen : ez.len ≤ e.len
          · rw [if_pos hlen] at hst
            have HS := Lib.hid hst
            clear hst hb Hee Heez
            go_wp2_with fail
            refine region_ext _ (Later.refl _) mixed (by kernel_rfl) ?_
            repeat (go_big_quiet_step ((first | (go_at_call 39; exact calls_in (refwmatch_as HM.out _)))))
            refine wpQuiet_nil ?_
            rintro _ ⟨q, rfl⟩
            go_wp2_with fail
            go_roundw
            case rel => exact ⟨j + 1, by omega, by go_num, by rw [HS.out]; exact congrArg _ hcast.out.symm, by simp (maxDischargeDepth := 99) [HX.out.1], Blk.ext HX.out.2 _⟩
            case measure => simp [intOf]; omega
          · rw [if_neg hlen] at hst
            have HS := Lib.hid hst
            clear hst hb Hee Heez
            go_wp2_with fail
            refine region_ext _ (Later.refl _) mixed (by kernel_rfl) ?_
            repeat (go_big_quiet_step ((first | (go_at_call 39; exact calls_in (refwmatch_as HM.out _)))))
            refine wpQuiet_nil ?_
            rintro _ ⟨q, rfl⟩
            go_wp2_with fail
            go_roundw
            case rel => exact ⟨j + 1, by omega, by go_num, by rw [HS.out], by simp (maxDischargeDepth := 99) [HX.out.1], Blk.ext HX.out.2 _⟩
            case measure => simp [intOf]; omega
    · have hjl : j = l.length := by omega
      subst hjl
      rw [HV.out]
      generalize bestE l a = X at *
      clear hlt hj hE
      go_wp2_with fail
      go_ret
      exact Ret.of (rfl) (by simp (maxDischargeDepth := 99) [HX.out.1])
theorem refetell_any {l : List Ent} {v : Value} (a : B) (w : World) (hl : Els w v 6 Ent.cells l) (hn : l.length ≤ 1000) : Calls Try.prog 30 #[v, av a] w (Ret (.int .i64 (tellE l a)) w) := by
  obtain ⟨ad, c, rfl, hc, he⟩ := hl.form
  have hbc := fun w' (hk : Kept w w') => refebest_any a w' (he.kept hk) hn
  have HE := Lib.hid he
  have his := bestE_is l a
  have HT := show tellE l a = (match bestE l a with | none => 0 | some b => ((l[b]?).map Ent.act).getD 0) from rfl
  clear hl he
  cases hbb : bestE l a with
  | none =>
    rw [hbb] at hbc HT
    have hbc := Lib.hid (show ∀ w', Kept w w' → Calls Try.prog 42 #[.slice ad l.length c, av a] w' (Ret (.int .i64 (-1)) w') from hbc)
    have HV := Lib.hid HT
    clear HT his hbb
    go_enter Try.func30, Try.ntmps30
    go_wp2_with (first | (go_at_call 42; refine (hbc.out _ (by simp)).mono ?_; rintro e w1 ⟨rfl, q1, rfl⟩))
    go_ret
    exact Ret.of (by rw [HV.out]; rfl) (by simp (maxDischargeDepth := 99))
  | some b1 =>
    rw [hbb] at hbc HT his
    have hbc := Lib.hid (show ∀ w', Kept w w' → Calls Try.prog 42 #[.slice ad l.length c, av a] w' (Ret (.int .i64 (b1 : Int)) w') from hbc)
    obtain ⟨hbl, _⟩ := his
    simp only [List.getElem?_eq_getElem hbl, Option.map_some, Option.getD_some] at HT
    obtain ⟨b, o, rfl, hb, hcell⟩ := (HE.out).at_ (b1) hbl
    obtain ⟨e, hee⟩ : ∃ e, (l)[b1]'hbl = e := ⟨_, rfl⟩
    rw [hee] at hcell
    have c0 : w.cell? ⟨b, o + b1 * 6, none⟩ = some (.int .u64 (hi e.x)) := hcell 0 (by omega)
    have c1 : w.cell? ⟨b, o + b1 * 6 + 1, none⟩ = some (.int .u64 (lo e.x)) := hcell 1 (by omega)
    have c2 : w.cell? ⟨b, o + b1 * 6 + 2, none⟩ = some (.int .u64 (hi e.m)) := hcell 2 (by omega)
    have c3 : w.cell? ⟨b, o + b1 * 6 + 3, none⟩ = some (.int .u64 (lo e.m)) := hcell 3 (by omega)
    have c4 : w.cell? ⟨b, o + b1 * 6 + 4, none⟩ = some (.int .i64 e.len) := hcell 4 (by omega)
    have c5 : w.cell? ⟨b, o + b1 * 6 + 5, none⟩ = some (.int .i64 e.act) := hcell 5 (by omega)
    have Hee := Lib.hid hee
    clear hcell hee
    rw [Hee.out] at HT
    have HV := Lib.hid HT
    have i0 : (0 : Int) ≤ b1 := by omega
    have i1 : (b1 : Int) < (l.length : Int) := by omega
    clear HT hbb Hee
    go_enter Try.func30, Try.ntmps30
    go_wp2_with (first | (go_at_call 42; refine (hbc.out _ (by simp)).mono ?_; rintro e w1 ⟨rfl, q1, rfl⟩))
    go_ret
    exact Ret.of (by rw [HV.out]; rfl) (by simp (maxDischargeDepth := 99))
end Go.Proofs.Ytpocbcohoefojaa
