/- Slots in the order of lengths: plo.Lengths; the reference's Kept, Gap, Lengths. -/
import Derived.Test.YtdlikcdmhgbolaaPlo
namespace Pg
open Go Go.RowKit Go.Maps
def keysE (l : List Ent) : List Lit := l.map fun e => .int .i64 e.len
theorem any_same (L : List Int) (n : Int) : (L.map (Lit.int .i64)).any (fun y => y.sameKey (.int .i64 n)) = decide (n ∈ L) := by
  induction L with
  | nil => simp
  | cons x L ih =>
    rw [List.map_cons, List.any_cons, ih]
    by_cases h : x = n
    · subst h; simp [Lit.sameKey]
    · have h2 : ¬ n = x := fun e => h e.symm
      simp [Lit.sameKey, h, h2]
theorem keys_fold (l : List Ent) : (keysE l).foldl addKey [] = (lensE l).map (Lit.int .i64) := by
  induction l using ent_ind with
  | h0 => rfl
  | hs l e ih =>
    unfold keysE at ih ⊢
    rw [List.map_append, List.foldl_append, ih, lensE_snoc]
    show addKey _ (Lit.int .i64 e.len) = _
    unfold addKey lenE
    rw [any_same]
    by_cases h : e.len ∈ lensE l
    · rw [decide_eq_true h, if_pos rfl, if_pos h]
    · rw [decide_eq_false h, if_neg (by simp), if_neg h, List.map_append]; rfl
theorem size_keys {H : Type} (u : DataW H) (l : List Ent) : Maps.size (setOf u (keysE l)) = (lensE l).length := by
  rw [size_setOf u _ (fun x hx => by
    unfold keysE at hx
    obtain ⟨e, _, rfl⟩ := List.mem_map.1 hx
    trivial), keys_fold, List.length_map]
theorem ownsMap_kept {H : Type} {P : Program} {k : TypeId} {R : Value → Option (DataW H × List MemPlace)} {w w' : World} {b n : Nat} {D : DataW H} (h : w.ownsMap P k R b n D) (hk : Kept w w') : w'.ownsMap P k R b n D := by
  have hlt := h.lt
  obtain ⟨es, clock, hb, r⟩ := h
  exact ⟨es, clock, (hk.block b hlt).trans hb, r⟩
def knownK (l : List Slot) (x : Int) (k : Nat) : Bool := (l.take k).any fun s => s.v && decide (s.e.len = x)
theorem knownK_step {l : List Slot} {x : Int} {k : Nat} (hk : k < l.length) : knownK l x (k + 1) = (knownK l x k || (l[k].v && decide (l[k].e.len = x))) := by
  unfold knownK
  rw [List.take_succ_eq_append_getElem hk, List.any_append]
  simp
theorem knownK_mem (l : List Slot) (x : Int) (k : Nat) : knownK l x k = decide (x ∈ lensE (entsS (l.take k))) := by
  rw [Bool.eq_iff_iff, decide_eq_true_eq, lensE_mem]
  unfold knownK entsS
  rw [List.any_eq_true]
  constructor
  · rintro ⟨s, hs, h⟩
    simp only [Bool.and_eq_true, decide_eq_true_eq] at h
    exact ⟨s.e, List.mem_map.2 ⟨s, List.mem_filter.2 ⟨hs, h.1⟩, rfl⟩, h.2⟩
  · rintro ⟨e, he, h⟩
    obtain ⟨s, hs, rfl⟩ := List.mem_map.1 he
    obtain ⟨h1, h2⟩ := List.mem_filter.1 hs
    exact ⟨s, h1, by simp [h2, h]⟩
def lensK (l : List Slot) (k : Nat) : Nat := (lensE (entsS (l.take k))).length
theorem lensK_step {l : List Slot} {k : Nat} (hk : k < l.length) : lensK l (k + 1) = if l[k].v && !knownK l l[k].e.len k then lensK l k + 1 else lensK l k := by
  unfold lensK
  rw [knownK_mem, List.take_succ_eq_append_getElem hk]
  cases hv : l[k].v
  · rw [entsS_no _ _ hv]; simp
  · rw [entsS_yes _ _ hv, lensE_snoc]
    unfold lenE
    by_cases h : l[k].e.len ∈ lensE (entsS (l.take k))
    · simp [h]
    · simp [h]
theorem lensK_le (l : List Slot) (k : Nat) : lensK l k ≤ k := by
  unfold lensK
  refine Nat.le_trans (lensE_len _) (Nat.le_trans (entsS_len _) ?_)
  rw [List.length_take]; omega
end Pg
namespace Go.Proofs.Ytdlikcdmhgbolaa
open Go.RowKit Pg Go.Maps

set_option maxHeartbeats 1000000 in
set_option maxRecDepth 100000 in
theorem plolens_any {l : List Slot} {v : Value} (w : World) (hl : Els w v 7 Slot.cells l) (hn : l.length ≤ 1000) (hok : ∀ s ∈ l, -9223372036854775808 ≤ s.e.len ∧ s.e.len ≤ 9223372036854775807) : Calls Try.prog 18 #[v] w (Ret (.int .i64 (lensN l : Int)) w) := by
  have hle := entsS_len l
  have HEL := Lib.hid hl
  have hen := Lib.hid (fun W (h : Els W v 7 Slot.cells l) => bentries_any W h hn)
  obtain ⟨E, hE⟩ : ∃ E, entsS l = E := ⟨_, rfl⟩
  have hokE : ∀ e ∈ E, -9223372036854775808 ≤ e.len ∧ e.len ≤ 9223372036854775807 := fun e he => by
    rw [← hE] at he
    unfold entsS at he
    obtain ⟨s, hs, rfl⟩ := List.mem_map.1 he
    exact hok s (List.mem_filter.1 hs).1
  have HOK := Lib.hid hokE
  have HV := Lib.hid (show lensN l = (lensE E).length by unfold lensN; rw [hE])
  rw [hE] at hen hle
  obtain ⟨a, c, rfl, hc, he⟩ := hl.form
  clear hl he hE hok hokE
  have hmm := @run_makeMap Try.prog
  go_enter Try.func18, Try.ntmps18
  go_wp2_with fail
  refine (hen.out _ (HEL.out.alloc _)).mono ?_
  rintro e w1 hR
  obtain ⟨a1, c1, rfl, hlc1, hown1, hels1⟩ := RetEls.out2 Ent.cells_len hR
  obtain ⟨gm, hgm⟩ : ∃ gm, gm = w.heap.size := ⟨_, rfl⟩
  have HNE := Lib.hid (show (Value.slice a1 E.length c1).ownBlock ≠ some gm from fun e => by
    have := (hown1.2.lt _ e).1
    rw [hgm] at this
    simp at this
    omega)
  have HOW := Lib.hid (show w1.ownsMap Try.prog 3 (plainElem (H := Unit) Try.prog 4) gm 0 (.map []) by rw [hgm]; exact ownsMap_kept (World.ownsMap_made _ _ _ _) hown1.1)
  have HK1 := Lib.hid (show Kept w w1 from (Kept.alloc (Kept.refl w) _).trans hown1.1)
  have HE1 := Lib.hid hels1
  have HGM := Lib.hid (show w.heap.size ≤ gm by omega)
  clear hown1 hels1 hR
  rw [← hgm]
  clear hgm
  go_wp2_with fail
  go_loopw [5, 10] (fun _ vk wr => ∃ k : Nat, k ≤ E.length ∧ vk = .int .i64 k ∧ wr.ownsMap Try.prog 3 (plainElem (H := Unit) Try.prog 4) gm k (setOf (.lit (.bool true)) (keysE (E.take k))) ∧ Kept w wr ∧ Els wr (.slice a1 E.length c1) 6 Ent.cells E) (fun _ vk _ => E.length - (intOf vk).toNat)
  case atStart => exact ⟨0, by omega, rfl, by simpa [keysE, setOf] using HOW.out, HK1.out, HE1.out⟩
  case round =>
    obtain ⟨k, hk, rfl, hown, hkw, hes⟩ := hrel
    have HX := Lib.hid hkw
    have HES := Lib.hid hes
    have HO := Lib.hid hown
    by_cases hlt : k < E.length
    · have hkl : (k : Int) < (E.length : Int) := by omega
      obtain ⟨b, o, rfl, hb, hcell⟩ := (hes).at_ (k) hlt
      obtain ⟨e, hee⟩ : ∃ e, (E)[k]'hlt = e := ⟨_, rfl⟩
      rw [hee] at hcell
      have c0 : wr.cell? ⟨b, o + k * 6, none⟩ = some (.int .u64 (hi e.x)) := hcell 0 (by omega)
      have c1 : wr.cell? ⟨b, o + k * 6 + 1, none⟩ = some (.int .u64 (lo e.x)) := hcell 1 (by omega)
      have c2 : wr.cell? ⟨b, o + k * 6 + 2, none⟩ = some (.int .u64 (hi e.m)) := hcell 2 (by omega)
      have c3 : wr.cell? ⟨b, o + k * 6 + 3, none⟩ = some (.int .u64 (lo e.m)) := hcell 3 (by omega)
      have c4 : wr.cell? ⟨b, o + k * 6 + 4, none⟩ = some (.int .i64 e.len) := hcell 4 (by omega)
      have c5 : wr.cell? ⟨b, o + k * 6 + 5, none⟩ = some (.int .i64 e.act) := hcell 5 (by omega)
      have Hee := Lib.hid hee
      clear hcell hee
      have hmem : e ∈ E := by rw [← Hee.out]; exact List.getElem_mem hlt
      have hkey : keyOf Try.prog 3 (.int .i64 e.len) = some (.int .i64 e.len) := keyOf_int_mk Try.underlying3 (by have h9 := HOK.out e hmem; simp only [Lit.wf, Bool.and_eq_true, decide_eq_true_eq]; exact h9)
      have HT := Lib.hid (show setOf (H := Unit) (.lit (.bool true)) (keysE (E.take (k + 1))) = (setOf (.lit (.bool true)) (keysE (E.take k))).put (.int .i64 e.len) (.lit (.bool true)) by
        rw [List.take_succ_eq_append_getElem hlt, Hee.out]
        unfold keysE
        rw [List.map_append]
        exact setOf_snoc _ _ _)
      have hmx : k < maxLen := by unfold maxLen; omega
      clear hown hkw hes Hee hmem
      go_wp2_with (first | (at_mapUpdate; refine wpList_mapUpdate_own _ rfl _ _ _ 85 rfl 3 4 (int_keyed Try.underlying3) Try.underlying85 (plainElem (H := Unit) Try.prog 4) gm k _ rfl (HO.out.alloc _) hmx _ _ _ rfl rfl hkey _ [] (plainElem_bool Try.underlying4 true) ?_; intro w5 hown5 hgrow5))
      have HG5 := Lib.hid hgrow5
      have HO5 := Lib.hid hown5
      clear hgrow5 hown5
      go_roundw
      case rel => exact ⟨k + 1, by omega, by go_num, by rw [HT.out]; exact HO5.out, grownBy_kept (HX.out.alloc _) HG5.out (fun j hj => by cases hj; exact HGM.out), Els.grown (HES.out.alloc _) HG5.out (fun j hj => by cases hj; exact HNE.out)⟩
      case measure => simp [intOf]; omega
    · have hkk : k = E.length := by omega
      subst hkk
      rw [List.take_length] at hown
      have HO2 := Lib.hid hown
      have hsz := size_keys (H := Unit) (.lit (.bool true)) E
      have HSZ := Lib.hid hsz
      clear hown hkw hes hlt hk HO hsz
      go_wp2_with (first | (at_len; refine wpList_len_own _ rfl _ 85 rfl 3 4 Try.underlying85 (plainElem (H := Unit) Try.prog 4) gm E.length _ rfl HO2.out ?_))
      go_ret
      exact Ret.of (by rw [HV.out, ← HSZ.out]; rfl) (by simp (maxDischargeDepth := 99) [HX.out])
set_option maxHeartbeats 1000000 in
set_option maxRecDepth 100000 in
theorem refkept_any {l : List Slot} {v : Value} (w : World) (hl : Els w v 7 Slot.cells l) (hn : l.length ≤ 1000) : Calls Try.prog 16 #[v] w (Ret (.bool (keptS l)) w) := by
  obtain ⟨a, c, rfl, hc, he⟩ := hl.form
  have HE := Lib.hid he
  have HI := Lib.hid (keptS_iff l)
  clear hl he
  go_enter Try.func16, Try.ntmps16
  go_wp2_with fail
  go_loopw [3, 4] (fun vi _ wr => ∃ i : Nat, i ≤ l.length ∧ vi = .int .i64 i ∧ Kept w wr ∧ ∀ (p q : Nat) (hp : p < l.length) (hq : q < l.length), p < q → q < i → l[p].v = true → l[q].v = true → l[q].e.len ≤ l[p].e.len) (fun vi _ _ => l.length - (intOf vi).toNat)
  case atStart => exact ⟨0, by omega, rfl, Kept.refl _, fun p q hp hq _ h => by omega⟩
  case round =>
    obtain ⟨i, hi9, rfl, hkw, hall⟩ := hrel
    have HX := Lib.hid hkw
    have HA := Lib.hid hall
    clear hkw hall
    by_cases hlt : i < l.length
    · have hil : (i : Int) < (l.length : Int) := by omega
      have i0 : (0 : Int) ≤ i := by omega
      go_wp2_with fail
      go_loopw [4] (fun vk w5 => ∃ k : Nat, k ≤ i ∧ vk = .int .i64 k ∧ Kept wr w5 ∧ ∀ (p : Nat) (hp : p < l.length), p < k → l[p].v = true → l[i].v = true → l[i].e.len ≤ l[p].e.len) (fun vk _ => i - (intOf vk).toNat)
      case atStart => exact ⟨0, by omega, rfl, Kept.refl _, fun p hp h => by omega⟩
      case round =>
        obtain ⟨k, hk, rfl, hkw, hin⟩ := hrel
        have HY := Lib.hid hkw
        have HIn := Lib.hid hin
        by_cases hki : k < i
        · have hkl : k < l.length := by omega
          have hki2 : (k : Int) < (i : Int) := by omega
          have hkl2 : (k : Int) < (l.length : Int) := by omega
          have k0 : (0 : Int) ≤ k := by omega
          obtain ⟨bx, ox, rfl, hbx, hcellx⟩ := (HE.out.kept (HX.out.trans hkw)).at_ (i) hlt
          obtain ⟨ex, heex⟩ : ∃ e, (l)[i]'hlt = e := ⟨_, rfl⟩
          rw [heex] at hcellx
          have cx0 : wr.cell? ⟨bx, ox + i * 7, none⟩ = some (.bool ex.v) := hcellx 0 (by omega)
          have cx1 : wr.cell? ⟨bx, ox + i * 7 + 1, none⟩ = some (.int .u64 (hi ex.e.x)) := hcellx 1 (by omega)
          have cx2 : wr.cell? ⟨bx, ox + i * 7 + 2, none⟩ = some (.int .u64 (lo ex.e.x)) := hcellx 2 (by omega)
          have cx3 : wr.cell? ⟨bx, ox + i * 7 + 3, none⟩ = some (.int .u64 (hi ex.e.m)) := hcellx 3 (by omega)
          have cx4 : wr.cell? ⟨bx, ox + i * 7 + 4, none⟩ = some (.int .u64 (lo ex.e.m)) := hcellx 4 (by omega)
          have cx5 : wr.cell? ⟨bx, ox + i * 7 + 5, none⟩ = some (.int .i64 ex.e.len) := hcellx 5 (by omega)
          have cx6 : wr.cell? ⟨bx, ox + i * 7 + 6, none⟩ = some (.int .i64 ex.e.act) := hcellx 6 (by omega)
          have Heex := Lib.hid heex
          clear hcellx heex
          obtain ⟨hby, hcelly⟩ := (HE.out.kept (HX.out.trans hkw)).at2 (k) hkl
          obtain ⟨ey, heey⟩ : ∃ e, (l)[k]'hkl = e := ⟨_, rfl⟩
          rw [heey] at hcelly
          have cy0 : wr.cell? ⟨bx, ox + k * 7, none⟩ = some (.bool ey.v) := hcelly 0 (by omega)
          have cy1 : wr.cell? ⟨bx, ox + k * 7 + 1, none⟩ = some (.int .u64 (hi ey.e.x)) := hcelly 1 (by omega)
          have cy2 : wr.cell? ⟨bx, ox + k * 7 + 2, none⟩ = some (.int .u64 (lo ey.e.x)) := hcelly 2 (by omega)
          have cy3 : wr.cell? ⟨bx, ox + k * 7 + 3, none⟩ = some (.int .u64 (hi ey.e.m)) := hcelly 3 (by omega)
          have cy4 : wr.cell? ⟨bx, ox + k * 7 + 4, none⟩ = some (.int .u64 (lo ey.e.m)) := hcelly 4 (by omega)
          have cy5 : wr.cell? ⟨bx, ox + k * 7 + 5, none⟩ = some (.int .i64 ey.e.len) := hcelly 5 (by omega)
          have cy6 : wr.cell? ⟨bx, ox + k * 7 + 6, none⟩ = some (.int .i64 ey.e.act) := hcelly 6 (by omega)
          have Heey := Lib.hid heey
          clear hcelly heey
          obtain ⟨xv, xe⟩ := ex
          obtain ⟨yv, ye⟩ := ey
          dsimp only at cx0 cx1 cx2 cx3 cx4 cx5 cx6 cy0 cy1 cy2 cy3 cy4 cy5 cy6
          have go : ∀ (hle : xv = true → yv = true → xe.len ≤ ye.len), ∀ (p : Nat) (hp : p < l.length), p < k + 1 → l[p].v = true → l[i].v = true → l[i].e.len ≤ l[p].e.len := fun hle p hp hpk h1 h2 => by
            rcases Nat.lt_or_ge p k with h5 | h5
            · exact HIn.out p hp h5 h1 h2
            · have e : p = k := by omega
              subst e
              rw [Heex.out] at h2 ⊢
              rw [Heey.out] at h1 ⊢
              exact hle h2 h1
          cases xv
          · have HG := Lib.hid (go (fun h => by cases h))
            clear hkw hin Heex Heey go
            go_wp2_with fail
            refine region_ext _ (by first | exact Later.ext _ _ | exact Later.refl _) mixed (by kernel_rfl) ?_
            repeat (go_big_quiet_step (fail))
            refine wpQuiet_nil ?_
            rintro _ ⟨q, rfl⟩
            go_wp2_with fail
            go_roundw
            case rel => exact ⟨k + 1, by omega, by go_num, HY.out.ext _, HG.out⟩
            case measure => simp [intOf]; omega
          · cases yv
            · have HG := Lib.hid (go (fun _ h => by cases h))
              clear hkw hin Heex Heey go
              go_wp2_with fail
              refine region_ext _ (by first | exact Later.ext _ _ | exact Later.refl _) mixed (by kernel_rfl) ?_
              repeat (go_big_quiet_step (fail))
              refine wpQuiet_nil ?_
              rintro _ ⟨q, rfl⟩
              go_wp2_with fail
              go_roundw
              case rel => exact ⟨k + 1, by omega, by go_num, HY.out.ext _, HG.out⟩
              case measure => simp [intOf]; omega
            · by_cases hgt : ye.len < xe.len
              · have HV := Lib.hid (show keptS l = false by
                  cases hks : keptS l
                  · rfl
                  · have := HI.out.1 hks k i hkl hlt hki (by rw [Heey.out]) (by rw [Heex.out])
                    rw [Heey.out, Heex.out] at this
                    simp only at this
                    omega)
                clear hkw hin Heex Heey go
                go_wp2_with fail
                refine region_ext _ (by first | exact Later.ext _ _ | exact Later.refl _) mixed (by kernel_rfl) ?_
                repeat (go_big_quiet_step (fail))
                refine wpQuiet_nil ?_
                rintro _ ⟨q, rfl⟩
                go_wp2_with fail
                go_ret
                exact Ret.of (by rw [HV.out]; rfl) (by simp (maxDischargeDepth := 99) [HX.out.trans HY.out])
              · have HG := Lib.hid (go (fun _ _ => by omega))
                clear hkw hin Heex Heey go
                go_wp2_with fail
                refine region_ext _ (by first | exact Later.ext _ _ | exact Later.refl _) mixed (by kernel_rfl) ?_
                repeat (go_big_quiet_step (fail))
                refine wpQuiet_nil ?_
                rintro _ ⟨q, rfl⟩
                go_wp2_with fail
                go_roundw
                case rel => exact ⟨k + 1, by omega, by go_num, HY.out.ext _, HG.out⟩
                case measure => simp [intOf]; omega
        · have hkk : k = i := by omega
          subst hkk
          clear hkw hki
          go_wp2_with fail
          go_roundw
          case rel => exact ⟨k + 1, by omega, by go_num, HX.out.trans HY.out, fun p q hp hq hpq hqk h1 h2 => by
            rcases Nat.lt_or_ge q k with h5 | h5
            · exact HA.out p q hp hq hpq h5 h1 h2
            · have e : q = k := by omega
              subst e
              exact HIn.out p hp hpq h1 h2⟩
          case measure => simp [intOf]; omega
    · have hil : i = l.length := by omega
      subst hil
      have HV := Lib.hid (show keptS l = true from HI.out.2 fun p q hp hq hpq h1 h2 => HA.out p q hp hq hpq hq h1 h2)
      clear hlt
      go_wp2_with fail
      go_ret
      exact Ret.of (by rw [HV.out]; rfl) (by simp (maxDischargeDepth := 99) [HX.out])
set_option maxHeartbeats 1000000 in
set_option maxRecDepth 100000 in
theorem reflens_any {l : List Slot} {v : Value} (w : World) (hl : Els w v 7 Slot.cells l) (hn : l.length ≤ 1000) : Calls Try.prog 19 #[v] w (Ret (.int .i64 (lensN l : Int)) w) := by
  obtain ⟨a, c, rfl, hc, he⟩ := hl.form
  have HE := Lib.hid he
  have HL := Lib.hid (lensK_le l)
  clear hl he
  go_enter Try.func19, Try.ntmps19
  go_wp2_with fail
  go_loopw [3, 4, 5, 6] (fun vn vi _ _ wr => ∃ i : Nat, i ≤ l.length ∧ vi = .int .i64 i ∧ vn = .int .i64 (lensK l i : Int) ∧ Kept w wr) (fun _ vi _ _ _ => l.length - (intOf vi).toNat)
  case atStart => exact ⟨0, by omega, rfl, rfl, Kept.refl _⟩
  case round =>
    obtain ⟨i, hi9, rfl, rfl, hkw⟩ := hrel
    have HX := Lib.hid hkw
    clear hkw
    by_cases hlt : i < l.length
    · have hil : (i : Int) < (l.length : Int) := by omega
      have i0 : (0 : Int) ≤ i := by omega
      obtain ⟨X, hX⟩ : ∃ X, X = l[i].e.len := ⟨_, rfl⟩
      have HXX := Lib.hid hX
      clear hX
      go_wp2_with fail
      go_loopw [5, 6] (fun vb vk w5 => ∃ k : Nat, k ≤ i ∧ vk = .int .i64 k ∧ vb = .bool (knownK l X k) ∧ Kept wr w5) (fun _ vk _ => i - (intOf vk).toNat)
      case atStart => exact ⟨0, by omega, rfl, rfl, Kept.refl _⟩
      case round =>
        obtain ⟨k, hk, rfl, rfl, hkw⟩ := hrel
        have HY := Lib.hid hkw
        by_cases hki : k < i
        · have hkl : k < l.length := by omega
          have hki2 : (k : Int) < (i : Int) := by omega
          have hkl2 : (k : Int) < (l.length : Int) := by omega
          have k0 : (0 : Int) ≤ k := by omega
          have hst := knownK_step (x := X) hkl
          obtain ⟨bx, ox, rfl, hbx, hcellx⟩ := (HE.out.kept (HX.out.trans hkw)).at_ (i) hlt
          obtain ⟨ex, heex⟩ : ∃ e, (l)[i]'hlt = e := ⟨_, rfl⟩
          rw [heex] at hcellx
          have cx0 : wr.cell? ⟨bx, ox + i * 7, none⟩ = some (.bool ex.v) := hcellx 0 (by omega)
          have cx1 : wr.cell? ⟨bx, ox + i * 7 + 1, none⟩ = some (.int .u64 (hi ex.e.x)) := hcellx 1 (by omega)
          have cx2 : wr.cell? ⟨bx, ox + i * 7 + 2, none⟩ = some (.int .u64 (lo ex.e.x)) := hcellx 2 (by omega)
          have cx3 : wr.cell? ⟨bx, ox + i * 7 + 3, none⟩ = some (.int .u64 (hi ex.e.m)) := hcellx 3 (by omega)
          have cx4 : wr.cell? ⟨bx, ox + i * 7 + 4, none⟩ = some (.int .u64 (lo ex.e.m)) := hcellx 4 (by omega)
          have cx5 : wr.cell? ⟨bx, ox + i * 7 + 5, none⟩ = some (.int .i64 ex.e.len) := hcellx 5 (by omega)
          have cx6 : wr.cell? ⟨bx, ox + i * 7 + 6, none⟩ = some (.int .i64 ex.e.act) := hcellx 6 (by omega)
          have Heex := Lib.hid heex
          clear hcellx heex
          obtain ⟨hby, hcelly⟩ := (HE.out.kept (HX.out.trans hkw)).at2 (k) hkl
          obtain ⟨ey, heey⟩ : ∃ e, (l)[k]'hkl = e := ⟨_, rfl⟩
          rw [heey] at hcelly
          have cy0 : wr.cell? ⟨bx, ox + k * 7, none⟩ = some (.bool ey.v) := hcelly 0 (by omega)
          have cy1 : wr.cell? ⟨bx, ox + k * 7 + 1, none⟩ = some (.int .u64 (hi ey.e.x)) := hcelly 1 (by omega)
          have cy2 : wr.cell? ⟨bx, ox + k * 7 + 2, none⟩ = some (.int .u64 (lo ey.e.x)) := hcelly 2 (by omega)
          have cy3 : wr.cell? ⟨bx, ox + k * 7 + 3, none⟩ = some (.int .u64 (hi ey.e.m)) := hcelly 3 (by omega)
          have cy4 : wr.cell? ⟨bx, ox + k * 7 + 4, none⟩ = some (.int .u64 (lo ey.e.m)) := hcelly 4 (by omega)
          have cy5 : wr.cell? ⟨bx, ox + k * 7 + 5, none⟩ = some (.int .i64 ey.e.len) := hcelly 5 (by omega)
          have cy6 : wr.cell? ⟨bx, ox + k * 7 + 6, none⟩ = some (.int .i64 ey.e.act) := hcelly 6 (by omega)
          have Heey := Lib.hid heey
          clear hcelly heey
          have hxx : X = ex.e.len := by rw [HXX.out, Heex.out]
          rw [Heey.out] at hst
          obtain ⟨yv, ye⟩ := ey
          dsimp only at cy0 cy1 cy2 cy3 cy4 cy5 cy6 hst
          rw [← hxx] at cx5
          cases yv
          · have HS := Lib.hid (show knownK l X (k + 1) = knownK l X k by rw [hst]; simp)
            clear hkw hst Heex Heey hxx
            go_wp2_with fail
            refine region_ext _ (by first | exact Later.ext _ _ | exact Later.refl _) mixed (by kernel_rfl) ?_
            repeat (go_big_quiet_step (fail))
            refine wpQuiet_nil ?_
            rintro _ ⟨q, rfl⟩
            go_wp2_with fail
            go_roundw
            case rel => exact ⟨k + 1, by omega, by go_num, by rw [HS.out], HY.out.ext _⟩
            case measure => simp [intOf]; omega
          · by_cases heq : ye.len = X
            · have HS := Lib.hid (show knownK l X (k + 1) = true by rw [hst, decide_eq_true heq]; simp)
              have hb : (ye.len == X) = true := by simp [heq]
              clear hkw hst Heex Heey hxx heq
              go_wp2_with fail
              refine region_ext _ (by first | exact Later.ext _ _ | exact Later.refl _) mixed (by kernel_rfl) ?_
              repeat (go_big_quiet_step (fail))
              refine wpQuiet_nil ?_
              rintro _ ⟨q, rfl⟩
              go_wp2_with fail
              go_roundw
              case rel => exact ⟨k + 1, by omega, by go_num, by rw [HS.out], HY.out.ext _⟩
              case measure => simp [intOf]; omega
            · have HS := Lib.hid (show knownK l X (k + 1) = knownK l X k by rw [hst, decide_eq_false heq]; simp)
              have hb : (ye.len == X) = false := by simp [heq]
              clear hkw hst Heex Heey hxx heq
              go_wp2_with fail
              refine region_ext _ (by first | exact Later.ext _ _ | exact Later.refl _) mixed (by kernel_rfl) ?_
              repeat (go_big_quiet_step (fail))
              refine wpQuiet_nil ?_
              rintro _ ⟨q, rfl⟩
              go_wp2_with fail
              go_roundw
              case rel => exact ⟨k + 1, by omega, by go_num, by rw [HS.out], HY.out.ext _⟩
              case measure => simp [intOf]; omega
        · have hkk : k = i := by omega
          subst hkk
          have hst := lensK_step hlt
          rw [← HXX.out] at hst
          obtain ⟨bx, ox, rfl, hbx, hcellx⟩ := (HE.out.kept (HX.out.trans hkw)).at_ (k) hlt
          obtain ⟨ex, heex⟩ : ∃ e, (l)[k]'hlt = e := ⟨_, rfl⟩
          rw [heex] at hcellx
          have cx0 : wr.cell? ⟨bx, ox + k * 7, none⟩ = some (.bool ex.v) := hcellx 0 (by omega)
          have cx1 : wr.cell? ⟨bx, ox + k * 7 + 1, none⟩ = some (.int .u64 (hi ex.e.x)) := hcellx 1 (by omega)
          have cx2 : wr.cell? ⟨bx, ox + k * 7 + 2, none⟩ = some (.int .u64 (lo ex.e.x)) := hcellx 2 (by omega)
          have cx3 : wr.cell? ⟨bx, ox + k * 7 + 3, none⟩ = some (.int .u64 (hi ex.e.m)) := hcellx 3 (by omega)
          have cx4 : wr.cell? ⟨bx, ox + k * 7 + 4, none⟩ = some (.int .u64 (lo ex.e.m)) := hcellx 4 (by omega)
          have cx5 : wr.cell? ⟨bx, ox + k * 7 + 5, none⟩ = some (.int .i64 ex.e.len) := hcellx 5 (by omega)
          have cx6 : wr.cell? ⟨bx, ox + k * 7 + 6, none⟩ = some (.int .i64 ex.e.act) := hcellx 6 (by omega)
          have Heex := Lib.hid heex
          clear hcellx heex
          rw [Heex.out] at hst
          obtain ⟨xv, xe⟩ := ex
          dsimp only at cx0 cx1 cx2 cx3 cx4 cx5 cx6 hst
          have hll := HL.out k
          obtain ⟨kn, hkn⟩ : ∃ kn, knownK l X k = kn := ⟨_, rfl⟩
          rw [hkn] at hst ⊢
          clear hkw hki Heex hkn
          cases xv
          · have HS := Lib.hid (show lensK l (k + 1) = lensK l k by rw [hst]; simp)
            clear hst
            go_wp2_with fail
            go_roundw
            case rel => exact ⟨k + 1, by omega, by go_num, by rw [HS.out], HX.out.trans HY.out⟩
            case measure => simp [intOf]; omega
          · cases kn
            · have HS := Lib.hid (show lensK l (k + 1) = lensK l k + 1 by rw [hst]; simp)
              clear hst
              go_wp2_with fail
              go_roundw
              case rel => exact ⟨k + 1, by omega, by go_num, by rw [HS.out]; go_num, HX.out.trans HY.out⟩
              case measure => simp [intOf]; omega
            · have HS := Lib.hid (show lensK l (k + 1) = lensK l k by rw [hst]; simp)
              clear hst
              go_wp2_with fail
              go_roundw
              case rel => exact ⟨k + 1, by omega, by go_num, by rw [HS.out], HX.out.trans HY.out⟩
              case measure => simp [intOf]; omega
    · have hil : i = l.length := by omega
      subst hil
      have HV := Lib.hid (show lensN l = lensK l l.length by unfold lensN lensK; rw [List.take_length])
      clear hlt
      go_wp2_with fail
      go_ret
      exact Ret.of (by rw [HV.out]; rfl) (by simp (maxDischargeDepth := 99) [HX.out])
set_option maxHeartbeats 1000000 in
set_option maxRecDepth 100000 in
theorem refgap_any {l : List Slot} {v : Value} (n : Int) (w : World) (hl : Els w v 7 Slot.cells l) (hn : l.length ≤ 1000) : Calls Try.prog 20 #[v, .int .i64 n] w (Ret (.tuple #[.int .i64 (fromS n l : Int), .int .i64 (toS n l : Int)]) w) := by
  obtain ⟨a, c, rfl, hc, he⟩ := hl.form
  have HE := Lib.hid he
  have HF := Lib.hid (fromK_le n l)
  clear hl he
  go_enter Try.func20, Try.ntmps20
  go_wp2_with fail
  go_loopw [6, 7] (fun vf vk wr => ∃ k : Nat, k ≤ l.length ∧ vk = .int .i64 k ∧ vf = .int .i64 (fromK n l k : Int) ∧ Kept w wr) (fun _ vk _ => l.length - (intOf vk).toNat)
  case atStart => exact ⟨0, by omega, rfl, rfl, Kept.refl _⟩
  case round =>
    obtain ⟨k, hkl, rfl, rfl, hkw⟩ := hrel
    have HX := Lib.hid hkw
    by_cases hlt : k < l.length
    · have hkl2 : (k : Int) < (l.length : Int) := by omega
      have k0 : (0 : Int) ≤ k := by omega
      obtain ⟨b, o, rfl, hb, hcell⟩ := (HE.out.kept hkw).at_ (k) hlt
      obtain ⟨e, hee⟩ : ∃ e, (l)[k]'hlt = e := ⟨_, rfl⟩
      rw [hee] at hcell
      have c0 : wr.cell? ⟨b, o + k * 7, none⟩ = some (.bool e.v) := hcell 0 (by omega)
      have c1 : wr.cell? ⟨b, o + k * 7 + 1, none⟩ = some (.int .u64 (hi e.e.x)) := hcell 1 (by omega)
      have c2 : wr.cell? ⟨b, o + k * 7 + 2, none⟩ = some (.int .u64 (lo e.e.x)) := hcell 2 (by omega)
      have c3 : wr.cell? ⟨b, o + k * 7 + 3, none⟩ = some (.int .u64 (hi e.e.m)) := hcell 3 (by omega)
      have c4 : wr.cell? ⟨b, o + k * 7 + 4, none⟩ = some (.int .u64 (lo e.e.m)) := hcell 4 (by omega)
      have c5 : wr.cell? ⟨b, o + k * 7 + 5, none⟩ = some (.int .i64 e.e.len) := hcell 5 (by omega)
      have c6 : wr.cell? ⟨b, o + k * 7 + 6, none⟩ = some (.int .i64 e.e.act) := hcell 6 (by omega)
      have Hee := Lib.hid hee
      clear hcell hee
      have hfl := HF.out k
      cases hv : e.v
      · have ha : abv n l[k] = false := by rw [Hee.out]; unfold abv; rw [hv]; rfl
        have H1 := Lib.hid (fromK_not hlt ha)
        rw [hv] at c0
        clear hkw Hee ha hv
        go_wp2_with fail
        go_roundw
        case rel => exact ⟨k + 1, by omega, by go_num, by rw [H1.out], HX.out⟩
        case measure => simp [intOf]; omega
      · rw [hv] at c0
        by_cases hgt : n < e.e.len
        · have ha : abv n l[k] = true := by rw [Hee.out]; unfold abv; rw [hv, decide_eq_true hgt]; rfl
          have H1 := Lib.hid (fromK_yes hlt ha)
          clear hkw Hee ha hv
          go_wp2_with fail
          go_roundw
          case rel => exact ⟨k + 1, by omega, by go_num, by rw [H1.out]; go_num, HX.out⟩
          case measure => simp [intOf]; omega
        · have ha : abv n l[k] = false := by rw [Hee.out]; unfold abv; rw [hv, decide_eq_false hgt]; rfl
          have H1 := Lib.hid (fromK_not hlt ha)
          clear hkw Hee ha hv
          go_wp2_with fail
          go_roundw
          case rel => exact ⟨k + 1, by omega, by go_num, by rw [H1.out], HX.out⟩
          case measure => simp [intOf]; omega
    · have hkk : k = l.length := by omega
      subst hkk
      clear hkw hlt
      go_wp2_with fail
      go_loopw [8, 9] (fun vt vi w5 => ∃ i : Nat, i ≤ l.length ∧ vi = .int .i64 ((i : Int) - 1) ∧ vt = .int .i64 (toD n l i : Int) ∧ Kept wr w5) (fun _ vi _ => (intOf vi + 1).toNat)
      case atStart => exact ⟨l.length, by omega, rfl, by rw [toD_last], Kept.refl _⟩
      case round =>
        obtain ⟨i, hi9, rfl, rfl, hkw⟩ := hrel
        have HY := Lib.hid hkw
        cases i with
        | zero =>
          have H1 := Lib.hid (toD_first n l)
          clear hkw
          go_wp2_with fail
          rw [show fromS n l = fromK n l l.length from rfl, ← H1.out]
          exact bodyPost_ret (v := .tuple #[.int .i64 (fromK n l l.length : Int), .int .i64 (toD n l 0 : Int)]) (by simp [results, Try.results20, go_sem]) rfl (Ret.mk (by simp (maxDischargeDepth := 99) [HX.out.trans HY.out]))
        | succ j =>
          have hj : j < l.length := by omega
          have hj2 : (j : Int) < (l.length : Int) := by omega
          have j0 : (0 : Int) ≤ j := by omega
          have hij : ((j + 1 : Nat) : Int) - 1 = (j : Int) := by omega
          rw [hij]
          clear hij
          obtain ⟨b, o, rfl, hb, hcell⟩ := (HE.out.kept (HX.out.trans hkw)).at_ (j) hj
          obtain ⟨e, hee⟩ : ∃ e, (l)[j]'hj = e := ⟨_, rfl⟩
          rw [hee] at hcell
          have c0 : wr.cell? ⟨b, o + j * 7, none⟩ = some (.bool e.v) := hcell 0 (by omega)
          have c1 : wr.cell? ⟨b, o + j * 7 + 1, none⟩ = some (.int .u64 (hi e.e.x)) := hcell 1 (by omega)
          have c2 : wr.cell? ⟨b, o + j * 7 + 2, none⟩ = some (.int .u64 (lo e.e.x)) := hcell 2 (by omega)
          have c3 : wr.cell? ⟨b, o + j * 7 + 3, none⟩ = some (.int .u64 (hi e.e.m)) := hcell 3 (by omega)
          have c4 : wr.cell? ⟨b, o + j * 7 + 4, none⟩ = some (.int .u64 (lo e.e.m)) := hcell 4 (by omega)
          have c5 : wr.cell? ⟨b, o + j * 7 + 5, none⟩ = some (.int .i64 e.e.len) := hcell 5 (by omega)
          have c6 : wr.cell? ⟨b, o + j * 7 + 6, none⟩ = some (.int .i64 e.e.act) := hcell 6 (by omega)
          have Hee := Lib.hid hee
          clear hcell hee
          cases hv : e.v
          · have hb : blw n l[j] = false := by rw [Hee.out]; unfold blw; rw [hv]; rfl
            have H1 := Lib.hid (toD_not hj hb)
            rw [hv] at c0
            clear hkw Hee hb hv
            go_wp2_with fail
            go_roundw
            case rel => exact ⟨j, by omega, by go_num, by rw [H1.out], HY.out⟩
            case measure => simp [intOf]
          · rw [hv] at c0
            by_cases hlt2 : e.e.len < n
            · have hb : blw n l[j] = true := by rw [Hee.out]; unfold blw; rw [hv, decide_eq_true hlt2]; rfl
              have H1 := Lib.hid (toD_yes hj hb)
              clear hkw Hee hb hv
              go_wp2_with fail
              go_roundw
              case rel => exact ⟨j, by omega, by go_num, by rw [H1.out], HY.out⟩
              case measure => simp [intOf]
            · have hb : blw n l[j] = false := by rw [Hee.out]; unfold blw; rw [hv, decide_eq_false hlt2]; rfl
              have H1 := Lib.hid (toD_not hj hb)
              clear hkw Hee hb hv
              go_wp2_with fail
              go_roundw
              case rel => exact ⟨j, by omega, by go_num, by rw [H1.out], HY.out⟩
              case measure => simp [intOf]
end Go.Proofs.Ytdlikcdmhgbolaa
