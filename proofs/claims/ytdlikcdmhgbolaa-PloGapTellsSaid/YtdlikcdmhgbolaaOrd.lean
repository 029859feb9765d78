/- Ordered rows: what is told is what the first that matches says; the reference's Ordered. -/
import Derived.Test.YtdlikcdmhgbolaaBest2
import Derived.Test.YtdlikcdmhgbolaaKit5
namespace Pg
open Go
def bestStep (a : B) (o : Option Ent) (e : Ent) : Option Ent := if matchW e.x e.m a then (match o with
  | none => some e
  | some b => if b.len < e.len then some e else some b) else o
theorem bestF_val (l : List Ent) (a : B) : ∀ k, k ≤ l.length → (bestF l a k).bind (fun b => l[b]?) = (l.take k).foldl (bestStep a) none
  | 0, _ => by simp [bestF]
  | k + 1, hk => by
    have ih := bestF_val l a k (by omega)
    have hkl : k < l.length := by omega
    rw [List.take_succ_eq_append_getElem hkl, List.foldl_append, ← ih, bestF_succ l a k _ (List.getElem?_eq_getElem hkl)]
    simp only [List.foldl_cons, List.foldl_nil]
    unfold bestStep
    cases hm : matchW l[k].x l[k].m a
    · simp
    · simp only [if_true]
      cases hb : bestF l a k with
      | none => simp [hkl]
      | some b =>
        have hbl : b < l.length := by have := bestF_lt (by omega) hb; omega
        simp only [List.getElem?_eq_getElem hbl, Option.map_some, Option.getD_some, Option.bind_some]
        split <;> simp [hkl, hbl]
theorem tellE_val (l : List Ent) (a : B) : tellE l a = ((l.foldl (bestStep a) none).map Ent.act).getD 0 := by
  have h := bestF_val l a l.length (Nat.le_refl _)
  rw [List.take_length] at h
  rw [← h]
  unfold tellE bestE
  cases bestF l a l.length <;> rfl
def ordE : List Ent → Bool
  | [] => true
  | e :: l => l.all (fun x => !aboveE x e) && ordE l
theorem ordE_pair : ∀ l : List Ent, ordE l = true → l.Pairwise (fun e f => aboveE f e = false)
  | [], _ => List.Pairwise.nil
  | e :: l, h => by
    simp only [ordE, Bool.and_eq_true, List.all_eq_true] at h
    exact List.Pairwise.cons (fun x hx => by have := h.1 x hx; simpa using this) (ordE_pair l h.2)
theorem above_len {e f : Ent} {a : B} (h : aboveE f e = false) (h1 : matchW e.x e.m a = true) (h2 : matchW f.x f.m a = true) : f.len ≤ e.len := by
  unfold aboveE at h
  rcases Int.lt_or_le e.len f.len with hlt | hle
  · rw [decide_eq_true hlt] at h
    have := no_meet (by simpa using h) a
    rw [h1, h2] at this; cases this
  · exact hle
theorem fold_stay (a : B) : ∀ (l : List Ent) (b : Ent), (∀ e ∈ l, matchW e.x e.m a = true → e.len ≤ b.len) → l.foldl (bestStep a) (some b) = some b
  | [], _, _ => rfl
  | e :: l, b, h => by
    rw [List.foldl_cons]
    have h1 : bestStep a (some b) e = some b := by
      unfold bestStep
      cases hm : matchW e.x e.m a
      · rfl
      · simp only [if_true]
        rw [if_neg (by have := h e (List.mem_cons_self ..) hm; omega)]
    rw [h1]; exact fold_stay a l b fun x hx => h x (List.mem_cons_of_mem _ hx)
theorem fold_find (a : B) : ∀ l : List Ent, l.Pairwise (fun e f => aboveE f e = false) → l.foldl (bestStep a) none = l.find? (fun e => matchW e.x e.m a)
  | [], _ => rfl
  | e :: l, h => by
    rw [List.foldl_cons]
    cases h with
    | cons h1 h2 =>
      cases hm : matchW e.x e.m a
      · simp only [List.find?_cons, hm]
        rw [show bestStep a none e = none by unfold bestStep; rw [hm]; rfl]
        exact fold_find a l h2
      · simp only [List.find?_cons, hm]
        rw [show bestStep a none e = some e by unfold bestStep; rw [hm]; rfl]
        exact fold_stay a l e fun x hx hx2 => above_len (h1 x hx) hm hx2
theorem tellE_find (l : List Ent) (a : B) (h : ordE l = true) : tellE l a = ((l.find? fun e => matchW e.x e.m a).map Ent.act).getD 0 := by
  rw [tellE_val, fold_find a l (ordE_pair l h)]
end Pg
namespace Go.Proofs.Ytdlikcdmhgbolaa
open Go.RowKit Pg

set_option maxHeartbeats 1000000 in
set_option maxRecDepth 100000 in
theorem refordered_any {l : List Ent} {v : Value} (w : World) (hl : Els w v 6 Ent.cells l) (hn : l.length ≤ 1000) : Calls Try.prog 23 #[v] w (Ret (.bool (ordE l)) w) := by
  obtain ⟨ad, c, rfl, hc, he⟩ := hl.form
  have HE := Lib.hid he
  clear hl he
  go_enter Try.func23, Try.ntmps23
  go_wp2_with fail
  go_loopw [3, 4] (fun vi _ wr => ∃ i : Nat, i ≤ l.length ∧ vi = .int .i64 i ∧ Kept w wr ∧ ordE l = ordE (l.drop i)) (fun i _ _ => l.length - (intOf i).toNat)
  case atStart => exact ⟨0, by omega, rfl, Kept.refl _, rfl⟩
  case round =>
    obtain ⟨i, hi9, rfl, hkw, ho⟩ := hrel
    have HX := Lib.hid hkw
    have HO := Lib.hid ho
    by_cases hlt : i < l.length
    · have hil : (i : Int) < (l.length : Int) := by omega
      have i0 : (0 : Int) ≤ i := by omega
      have hd := List.drop_eq_getElem_cons hlt
      obtain ⟨ei, hei⟩ : ∃ e, l[i] = e := ⟨_, rfl⟩
      rw [hei] at hd
      have HD := Lib.hid (show ordE l = ((l.drop (i + 1)).all (fun x => !aboveE x ei) && ordE (l.drop (i + 1))) by rw [ho, hd]; rfl)
      have HEI := Lib.hid hei
      clear hkw ho hd hei
      go_wp2_with fail
      go_loopw [4] (fun vk w2 => ∃ k : Nat, i + 1 ≤ k ∧ k ≤ l.length ∧ vk = .int .i64 k ∧ Kept wr w2 ∧ (l.drop (i + 1)).all (fun x => !aboveE x ei) = (l.drop k).all (fun x => !aboveE x ei)) (fun k _ => l.length - (intOf k).toNat)
      case atStart => exact ⟨i + 1, by omega, by omega, by go_num, Kept.refl _, rfl⟩
      case round =>
        obtain ⟨k, hk1, hk2, rfl, hkw, ha⟩ := hrel
        have HY := Lib.hid hkw
        have HA := Lib.hid ha
        by_cases hkl : k < l.length
        · have hkl2 : (k : Int) < (l.length : Int) := by omega
          have k0 : (0 : Int) ≤ k := by omega
          have hd := List.drop_eq_getElem_cons hkl
          obtain ⟨bk, ok, rfl, hbk, hcellk⟩ := (HE.out.kept (HX.out.trans hkw)).at_ (k) hkl
          obtain ⟨ek, heek⟩ : ∃ e, (l)[k]'hkl = e := ⟨_, rfl⟩
          rw [heek] at hcellk
          have ck0 : wr.cell? ⟨bk, ok + k * 6, none⟩ = some (.int .u64 (hi ek.x)) := hcellk 0 (by omega)
          have ck1 : wr.cell? ⟨bk, ok + k * 6 + 1, none⟩ = some (.int .u64 (lo ek.x)) := hcellk 1 (by omega)
          have ck2 : wr.cell? ⟨bk, ok + k * 6 + 2, none⟩ = some (.int .u64 (hi ek.m)) := hcellk 2 (by omega)
          have ck3 : wr.cell? ⟨bk, ok + k * 6 + 3, none⟩ = some (.int .u64 (lo ek.m)) := hcellk 3 (by omega)
          have ck4 : wr.cell? ⟨bk, ok + k * 6 + 4, none⟩ = some (.int .i64 ek.len) := hcellk 4 (by omega)
          have ck5 : wr.cell? ⟨bk, ok + k * 6 + 5, none⟩ = some (.int .i64 ek.act) := hcellk 5 (by omega)
          have Heek := Lib.hid heek
          clear hcellk heek
          obtain ⟨hbz, hcellz⟩ := (HE.out.kept (HX.out.trans hkw)).at2 (i) hlt
          obtain ⟨ez, heez⟩ : ∃ e, (l)[i]'hlt = e := ⟨_, rfl⟩
          rw [heez] at hcellz
          have cz0 : wr.cell? ⟨bk, ok + i * 6, none⟩ = some (.int .u64 (hi ez.x)) := hcellz 0 (by omega)
          have cz1 : wr.cell? ⟨bk, ok + i * 6 + 1, none⟩ = some (.int .u64 (lo ez.x)) := hcellz 1 (by omega)
          have cz2 : wr.cell? ⟨bk, ok + i * 6 + 2, none⟩ = some (.int .u64 (hi ez.m)) := hcellz 2 (by omega)
          have cz3 : wr.cell? ⟨bk, ok + i * 6 + 3, none⟩ = some (.int .u64 (lo ez.m)) := hcellz 3 (by omega)
          have cz4 : wr.cell? ⟨bk, ok + i * 6 + 4, none⟩ = some (.int .i64 ez.len) := hcellz 4 (by omega)
          have cz5 : wr.cell? ⟨bk, ok + i * 6 + 5, none⟩ = some (.int .i64 ez.act) := hcellz 5 (by omega)
          have Heez := Lib.hid heez
          clear hcellz heez
          rw [HEI.out] at Heez
          obtain rfl : ei = ez := Heez.out
          rw [Heek.out] at hd
          have hstep : (l.drop k).all (fun x => !aboveE x ei) = (!aboveE ek ei && (l.drop (k + 1)).all (fun x => !aboveE x ei)) := by rw [hd]; rfl
          cases hab : aboveE ek ei
          · have HB := Lib.hid (refabove_as hab)
            have HS := Lib.hid (show (l.drop (i + 1)).all (fun x => !aboveE x ei) = (l.drop (k + 1)).all (fun x => !aboveE x ei) by rw [ha, hstep, hab]; rfl)
            clear hkw ha hd hstep hab Heek Heez
            go_wp2_with fail
            refine region_ext _ (by first | exact Later.ext _ _ | exact Later.refl _) mixed (by kernel_rfl) ?_
            repeat (go_big_quiet_step ((first | (go_at_call 42; exact calls_in (HB.out _)))))
            refine wpQuiet_nil ?_
            rintro _ ⟨q, rfl⟩
            go_wp2_with fail
            go_roundw
            case rel => exact ⟨k + 1, by omega, by omega, by go_num, HY.out.ext _, HS.out⟩
            case measure => simp [intOf]; omega
          · have HB := Lib.hid (refabove_as hab)
            have HS := Lib.hid (show ordE l = false by rw [HD.out, ha, hstep, hab]; rfl)
            clear hkw ha hd hstep hab Heek Heez
            go_wp2_with fail
            refine region_ext _ (by first | exact Later.ext _ _ | exact Later.refl _) mixed (by kernel_rfl) ?_
            repeat (go_big_quiet_step ((first | (go_at_call 42; exact calls_in (HB.out _)))))
            refine wpQuiet_nil ?_
            rintro _ ⟨q, rfl⟩
            go_wp2_with fail
            have hkf := Lib.hid (HX.out.trans HY.out)
            go_ret
            exact Ret.of (by rw [HS.out]; rfl) (by simp (maxDischargeDepth := 99) [hkf.out])
        · have hkl3 : k = l.length := by omega
          subst hkl3
          have HS := Lib.hid (show ordE l = ordE (l.drop (i + 1)) by rw [HD.out, ha, List.drop_length]; rfl)
          clear hkw ha hkl
          go_wp2_with fail
          go_roundw
          case rel => exact ⟨i + 1, by omega, by go_num, HX.out.trans HY.out, HS.out⟩
          case measure => simp [intOf]; omega
    · have hil : i = l.length := by omega
      subst hil
      have HS := Lib.hid (show ordE l = true by rw [ho, List.drop_length]; rfl)
      clear hkw ho hlt
      go_wp2_with fail
      go_ret
      exact Ret.of (by rw [HS.out]; rfl) (by simp (maxDischargeDepth := 99) [HX.out])
end Go.Proofs.Ytdlikcdmhgbolaa
