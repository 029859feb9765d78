/- Slots: found, Tell, the reference's Find and Tell. -/
import Derived.Test.YtemfocnjlimicaaBank
import Derived.Test.YtemfocnjlimicaaRef04c
namespace Pg
open Go
def matchS (a : B) (s : Slot) : Bool := s.v && matchW s.e.x s.e.m a
def tellS (l : List Slot) (a : B) : Int := if idxI (matchS a) l < 0 then 0 else ((l[(idxI (matchS a) l).toNat]?).map (fun s => s.e.act)).getD 0
end Pg
namespace Go.Proofs.Ytemfocnjlimicaa
open Go.RowKit Pg

set_option maxHeartbeats 1000000 in
set_option maxRecDepth 100000 in
theorem found1_gives (a : B) (ba : Nat) (ta : TypeId) (w : World) (ha : Blk w ba ta #[.int .u64 (hi a), .int .u64 (lo a)]) : GivesSlot 53 #[.pointer (some ⟨ba, 0, none⟩)] (matchS a) w := by
  intro W e hkw
  obtain ⟨c0, c1, l0⟩ := Blk.two (Blk.kept ha hkw)
  show Calls Try.prog 53 #[slv e, .pointer (some ⟨ba, 0, none⟩)] W (Ret (.bool (matchS a e)) W)
  clear ha hkw
  obtain ⟨v, e⟩ := e
  cases v
  · go_enter Try.func53, Try.ntmps53
    go_wp2_with (first | (go_at_call 54; first | ((refine (calls_in (wmatch_any _ _ _ _)).mono ?_); rintro e w1 ⟨rfl, q1, rfl⟩) | ((refine (wmatch_any _ _ _ _).mono ?_); rintro e w1 ⟨rfl, q1, rfl⟩)))
    go_ret
    exact Ret.of (rfl) (by simp (maxDischargeDepth := 99))
  · have HV := Lib.hid (show matchS a ⟨true, e⟩ = matchW e.x e.m a by simp [matchS])
    go_enter Try.func53, Try.ntmps53
    go_wp2_with (first | (go_at_call 54; first | ((refine (calls_in (wmatch_any _ _ _ _)).mono ?_); rintro e w1 ⟨rfl, q1, rfl⟩) | ((refine (wmatch_any _ _ _ _).mono ?_); rintro e w1 ⟨rfl, q1, rfl⟩)))
    go_ret
    exact Ret.of (by rw [HV.out]; rfl) (by simp (maxDischargeDepth := 99))
set_option maxHeartbeats 1000000 in
set_option maxRecDepth 100000 in
theorem bfound_any {l : List Slot} {v : Value} (a : B) (w : World) (hl : Els w v 7 Slot.cells l) (hn : l.length ≤ 1000) : Calls Try.prog 43 #[v, av a] w (Ret (.int .i64 (idxI (matchS a) l)) w) := by
  have HE := Lib.hid hl
  obtain ⟨ad, c, rfl, hc, he⟩ := hl.form
  clear hl he
  go_enter Try.func43, Try.ntmps43
  go_wp2_with fail
  have hb := Lib.hid (Blk.new' w 25 #[.int .u64 (hi a), .int .u64 (lo a)] (g := w.heap.size) rfl)
  have hif := Lib.hid (indexFuncSlot_any (matchS a) 53 _ _ (HE.out.alloc _) (by omega) (enters_of Try.func53 (by kernel_rfl) rfl) (found1_gives a _ _ _ hb.out))
  refine hif.out.mono ?_
  rintro e w1 ⟨rfl, q1, rfl⟩
  go_wp2_with fail
  go_ret
  exact Ret.of (rfl) (by simp (maxDischargeDepth := 99))
set_option maxHeartbeats 1000000 in
set_option maxRecDepth 100000 in
theorem reffind_any {l : List Slot} {v : Value} (a : B) (w : World) (hl : Els w v 7 Slot.cells l) (hn : l.length ≤ 1000) : Calls Try.prog 12 #[v, av a] w (Ret (.int .i64 (idxI (matchS a) l)) w) := by
  obtain ⟨ad, c, rfl, hc, he⟩ := hl.form
  have HE := Lib.hid he
  clear hl he
  go_enter Try.func12, Try.ntmps12
  go_wp2_with fail
  go_loopw [5] (fun vk wr => ∃ k : Nat, k ≤ l.length ∧ vk = .int .i64 k ∧ Kept (w.alloc (.cells #[.int .u64 (hi a), .int .u64 (lo a)] 24)) wr ∧ ∀ i (h : i < l.length), i < k → matchS a l[i] = false) (fun k _ => l.length - (intOf k).toNat)
  case atStart => exact ⟨0, by omega, rfl, Kept.refl _, fun i h h2 => by omega⟩
  case round =>
    obtain ⟨k, hk, rfl, hkw, hno⟩ := hrel
    have HX := Lib.hid (And.intro hkw hno)
    have HW := Lib.hid (show Kept w wr from (Kept.alloc (Kept.refl w) _).trans hkw)
    have hb := Blk.kept (Blk.new' w 24 #[.int .u64 (hi a), .int .u64 (lo a)] (g := w.heap.size) rfl) hkw
    obtain ⟨x0, x1, xl⟩ := Blk.two hb
    clear hb
    by_cases hlt : k < l.length
    · have hkl : (k : Int) < (l.length : Int) := by omega
      have k0 : (0 : Int) ≤ k := by omega
      obtain ⟨b, o, rfl, hb, hcell⟩ := (HE.out.kept ((Kept.alloc (Kept.refl w) _).trans hkw)).at_ (k) hlt
      obtain ⟨e, hee⟩ : ∃ e, (l)[k]'hlt = e := ⟨_, rfl⟩
      rw [hee] at hcell
      have c0 : wr.cell? ⟨b, o + k * 7, none⟩ = some (.bool e.v) := hcell 0 (by omega)
      have c1 : wr.cell? ⟨b, o + k * 7 + 1, none⟩ = some (.int .u64 (hi e.e.x)) := hcell 1 (by omega)
      have c2 : wr.cell? ⟨b, o + k * 7 + 2, none⟩ = some (.int .u64 (lo e.e.x)) := hcell 2 (by omega)
      have c3 : wr.cell? ⟨b, o + k * 7 + 3, none⟩ = some (.int .u64 (hi e.e.m)) := hcell 3 (by omega)
      have c4 : wr.cell? ⟨b, o + k * 7 + 4, none⟩ = some (.int .u64 (lo e.e.m)) := hcell 4 (by omega)
      have c5 : wr.cell? ⟨b, o + k * 7 + 5, none⟩ = some (.int .i64 e.e.len) := hcell 5 (by omega)
      have c6 : wr.cell? ⟨b, o + k * 7 + 6, none⟩ = some (.int .i64 e.e.act) := hcell 6 (by omega)
      have Hee := Lib.hid hee
      clear hcell hee
      clear hkw hno
      by_cases hpe : matchS a e = true
      · have HV := Lib.hid (idxI_hit (matchS a) l k hlt (show matchS a l[k] = true by rw [Hee.out]; exact hpe) HX.out.2)
        clear Hee
        obtain ⟨v, e⟩ := e
        simp only [matchS, Bool.and_eq_true] at hpe
        obtain ⟨rfl, hm⟩ := hpe
        have HM := Lib.hid (refwmatch_as hm)
        clear hm
        go_wp2_with fail
        refine region_ext _ (by first | exact Later.ext _ _ | exact Later.refl _) mixed (by kernel_rfl) ?_
        repeat (go_big_quiet_step ((first | (go_at_call 38; exact calls_in (HM.out _)))))
        refine wpQuiet_nil ?_
        rintro _ ⟨q, rfl⟩
        go_wp2_with fail
        go_ret
        exact Ret.of (by rw [HV.out]; rfl) (by simp (maxDischargeDepth := 99) [HW.out])
      · have HPE := Lib.hid (show matchS a l[k] = false by rw [Hee.out]; simpa using hpe)
        clear Hee
        obtain ⟨v, e⟩ := e
        cases v
        · clear hpe
          go_wp2_with fail
          refine region_ext _ (by first | exact Later.ext _ _ | exact Later.refl _) mixed (by kernel_rfl) ?_
          repeat (go_big_quiet_step (fail))
          refine wpQuiet_nil ?_
          rintro _ ⟨q, rfl⟩
          go_wp2_with fail
          go_roundw
          case rel => exact ⟨k + 1, by omega, by go_num, HX.out.1.ext _, fun i h h2 => by
            rcases Nat.lt_or_ge i k with hik | hik
            · exact HX.out.2 i h hik
            · have : i = k := by omega
              subst this; exact HPE.out⟩
          case measure => simp [intOf]; omega
        · have HM := Lib.hid (refwmatch_as (show matchW e.x e.m a = false by simpa [matchS] using hpe))
          clear hpe
          go_wp2_with fail
          refine region_ext _ (by first | exact Later.ext _ _ | exact Later.refl _) mixed (by kernel_rfl) ?_
          repeat (go_big_quiet_step ((first | (go_at_call 38; exact calls_in (HM.out _)))))
          refine wpQuiet_nil ?_
          rintro _ ⟨q, rfl⟩
          go_wp2_with fail
          go_roundw
          case rel => exact ⟨k + 1, by omega, by go_num, HX.out.1.ext _, fun i h h2 => by
            rcases Nat.lt_or_ge i k with hik | hik
            · exact HX.out.2 i h hik
            · have : i = k := by omega
              subst this; exact HPE.out⟩
          case measure => simp [intOf]; omega
    · have hkl : k = l.length := by omega
      subst hkl
      have HV := Lib.hid (idxI_miss (matchS a) l fun i h => hno i h h)
      clear hkw hno hlt
      go_wp2_with fail
      go_ret
      exact Ret.of (by rw [HV.out]; rfl) (by simp (maxDischargeDepth := 99) [HW.out])
set_option maxHeartbeats 1000000 in
set_option maxRecDepth 100000 in
theorem btell_any {l : List Slot} {v : Value} (a : B) (w : World) (hl : Els w v 7 Slot.cells l) (hn : l.length ≤ 1000) : Calls Try.prog 19 #[v, av a] w (Ret (.int .i64 (tellS l a)) w) := by
  obtain ⟨ad, c, rfl, hc, he⟩ := hl.form
  have hbf := Lib.hid (bfound_any a _ (he.alloc (.cells #[.int .u64 (hi a), .int .u64 (lo a)] 25)) hn)
  have HE := Lib.hid he
  clear hl he
  rcases idxI_cases (matchS a) l with ⟨h, _⟩ | ⟨k, hk, h, _, _⟩
  · have HV := Lib.hid (show tellS l a = 0 by unfold tellS; rw [h]; rfl)
    rw [h] at hbf
    clear h
    go_enter Try.func19, Try.ntmps19
    go_wp2_with (first | (go_at_call 43; first | ((refine (calls_in (hbf.out)).mono ?_); rintro e w1 ⟨rfl, q1, rfl⟩) | ((refine (hbf.out).mono ?_); rintro e w1 ⟨rfl, q1, rfl⟩)))
    go_ret
    exact Ret.of (by rw [HV.out]; rfl) (by simp (maxDischargeDepth := 99))
  · have hV : tellS l a = l[k].e.act := by unfold tellS; rw [h, if_neg (by omega)]; simp [hk]
    rw [h] at hbf
    obtain ⟨b, o, rfl, hb, hcell⟩ := (HE.out).at_ (k) hk
    obtain ⟨e, hee⟩ : ∃ e, (l)[k]'hk = e := ⟨_, rfl⟩
    rw [hee] at hcell
    have c0 : w.cell? ⟨b, o + k * 7, none⟩ = some (.bool e.v) := hcell 0 (by omega)
    have c1 : w.cell? ⟨b, o + k * 7 + 1, none⟩ = some (.int .u64 (hi e.e.x)) := hcell 1 (by omega)
    have c2 : w.cell? ⟨b, o + k * 7 + 2, none⟩ = some (.int .u64 (lo e.e.x)) := hcell 2 (by omega)
    have c3 : w.cell? ⟨b, o + k * 7 + 3, none⟩ = some (.int .u64 (hi e.e.m)) := hcell 3 (by omega)
    have c4 : w.cell? ⟨b, o + k * 7 + 4, none⟩ = some (.int .u64 (lo e.e.m)) := hcell 4 (by omega)
    have c5 : w.cell? ⟨b, o + k * 7 + 5, none⟩ = some (.int .i64 e.e.len) := hcell 5 (by omega)
    have c6 : w.cell? ⟨b, o + k * 7 + 6, none⟩ = some (.int .i64 e.e.act) := hcell 6 (by omega)
    have Hee := Lib.hid hee
    clear hcell hee
    rw [Hee.out] at hV
    have HV := Lib.hid hV
    have k0 : (0 : Int) ≤ k := by omega
    have k1 : (k : Int) < (l.length : Int) := by omega
    clear h hV Hee
    go_enter Try.func19, Try.ntmps19
    go_wp2_with (first | (go_at_call 43; first | ((refine (calls_in (hbf.out)).mono ?_); rintro e w1 ⟨rfl, q1, rfl⟩) | ((refine (hbf.out).mono ?_); rintro e w1 ⟨rfl, q1, rfl⟩)))
    go_ret
    exact Ret.of (by rw [HV.out]; rfl) (by simp (maxDischargeDepth := 99))
set_option maxHeartbeats 1000000 in
set_option maxRecDepth 100000 in
theorem reftells_any {l : List Slot} {v : Value} (a : B) (w : World) (hl : Els w v 7 Slot.cells l) (hn : l.length ≤ 1000) : Calls Try.prog 14 #[v, av a] w (Ret (.int .i64 (tellS l a)) w) := by
  obtain ⟨ad, c, rfl, hc, he⟩ := hl.form
  have hbf := Lib.hid (reffind_any a _ (he.alloc (.cells #[.int .u64 (hi a), .int .u64 (lo a)] 24)) hn)
  have HE := Lib.hid he
  clear hl he
  rcases idxI_cases (matchS a) l with ⟨h, _⟩ | ⟨k, hk, h, _, _⟩
  · have HV := Lib.hid (show tellS l a = 0 by unfold tellS; rw [h]; rfl)
    rw [h] at hbf
    clear h
    go_enter Try.func14, Try.ntmps14
    go_wp2_with (first | (go_at_call 12; first | ((refine (calls_in (hbf.out)).mono ?_); rintro e w1 ⟨rfl, q1, rfl⟩) | ((refine (hbf.out).mono ?_); rintro e w1 ⟨rfl, q1, rfl⟩)))
    go_ret
    exact Ret.of (by rw [HV.out]; rfl) (by simp (maxDischargeDepth := 99))
  · have hV : tellS l a = l[k].e.act := by unfold tellS; rw [h, if_neg (by omega)]; simp [hk]
    rw [h] at hbf
    obtain ⟨b, o, rfl, hb, hcell⟩ := (HE.out).at_ (k) hk
    obtain ⟨e, hee⟩ : ∃ e, (l)[k]'hk = e := ⟨_, rfl⟩
    rw [hee] at hcell
    have c0 : w.cell? ⟨b, o + k * 7, none⟩ = some (.bool e.v) := hcell 0 (by omega)
    have c1 : w.cell? ⟨b, o + k * 7 + 1, none⟩ = some (.int .u64 (hi e.e.x)) := hcell 1 (by omega)
    have c2 : w.cell? ⟨b, o + k * 7 + 2, none⟩ = some (.int .u64 (lo e.e.x)) := hcell 2 (by omega)
    have c3 : w.cell? ⟨b, o + k * 7 + 3, none⟩ = some (.int .u64 (hi e.e.m)) := hcell 3 (by omega)
    have c4 : w.cell? ⟨b, o + k * 7 + 4, none⟩ = some (.int .u64 (lo e.e.m)) := hcell 4 (by omega)
    have c5 : w.cell? ⟨b, o + k * 7 + 5, none⟩ = some (.int .i64 e.e.len) := hcell 5 (by omega)
    have c6 : w.cell? ⟨b, o + k * 7 + 6, none⟩ = some (.int .i64 e.e.act) := hcell 6 (by omega)
    have Hee := Lib.hid hee
    clear hcell hee
    rw [Hee.out] at hV
    have HV := Lib.hid hV
    have k0 : (0 : Int) ≤ k := by omega
    have k1 : (k : Int) < (l.length : Int) := by omega
    clear h hV Hee
    go_enter Try.func14, Try.ntmps14
    go_wp2_with (first | (go_at_call 12; first | ((refine (calls_in (hbf.out)).mono ?_); rintro e w1 ⟨rfl, q1, rfl⟩) | ((refine (hbf.out).mono ?_); rintro e w1 ⟨rfl, q1, rfl⟩)))
    go_ret
    exact Ret.of (by rw [HV.out]; rfl) (by simp (maxDischargeDepth := 99))
end Go.Proofs.Ytemfocnjlimicaa
