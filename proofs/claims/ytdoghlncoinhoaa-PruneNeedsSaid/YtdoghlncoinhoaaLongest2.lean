/- Routes: rib.Best, Tell, Cover; the reference's Tell. -/
import Derived.Test.YtdoghlncoinhoaaLongest
namespace Pg
open Go
def covP (x : B) (n : Int) (s : Rt) : Bool := !eqR x n s && coversB s.x s.n x n
theorem tellR_none {l : List Rt} {a : B} (h : bestO (matchR a) l = none) : tellR l a = 0 := by unfold tellR; rw [h]; rfl
theorem tellR_some {l : List Rt} {a : B} {b : Rt} (h : bestO (matchR a) l = some b) : tellR l a = b.act := by unfold tellR; rw [h]; rfl
end Pg
namespace Go.Proofs.Ytdoghlncoinhoaa
open Go.RowKit Pg

set_option maxHeartbeats 1000000 in
set_option maxRecDepth 100000 in
theorem best1_gives (a : B) (g : Nat) (w : World) (h : Blk w g 25 #[.int .u64 (hi a), .int .u64 (lo a)]) : GivesRt 45 #[.pointer (some ⟨g, 0, none⟩)] (matchR a) w := by
  intro W e hkw
  obtain ⟨c0, c1, hlt⟩ := Blk.two (h.kept hkw)
  show Calls Try.prog 45 #[rv e, .pointer (some ⟨g, 0, none⟩)] W (Ret (.bool (matchR a e)) W)
  have HM := Lib.hid (fun W => show Calls Try.prog 46 #[pv e.x e.n, av a] W (Ret (.bool (matchR a e)) W) from match_any _ _ _ W)
  clear h hkw
  go_enter Try.func45, Try.ntmps45
  go_wp2_with (first | (go_at_call 46; first | ((refine (calls_in (HM.out _)).mono ?_); rintro e w1 ⟨rfl, q1, rfl⟩) | ((refine (HM.out _).mono ?_); rintro e w1 ⟨rfl, q1, rfl⟩)))
  go_ret
  exact Ret.of (rfl) (by simp (maxDischargeDepth := 99))
set_option maxHeartbeats 1000000 in
set_option maxRecDepth 100000 in
theorem ribbest_any {l : List Rt} {v : Value} (a : B) (w : World) (hl : Els w v 4 Rt.cells l) (hn : l.length ≤ 1000) : Calls Try.prog 25 #[v, av a] w (Ret (retR (bestO (matchR a) l)) w) := by
  obtain ⟨o, ho⟩ : ∃ o, bestO (matchR a) l = o := ⟨_, rfl⟩
  obtain ⟨b, hb⟩ : ∃ b, o.getD z0r = b := ⟨_, rfl⟩
  obtain ⟨i, hi9⟩ : ∃ i, o.isSome = i := ⟨_, rfl⟩
  have hlg := Lib.hid (fun W (h : Els W v 4 Rt.cells l) (g : Nat) (hB : Blk W g 25 #[.int .u64 (hi a), .int .u64 (lo a)]) => show Calls Try.prog 40 #[v, .func (.func 45) #[] #[.pointer (some ⟨g, 0, none⟩)]] W (Ret (.tuple #[rv b, .bool i]) W) by
    have := longest_any (matchR a) 45 _ W h hn (best1_gives a g W hB) (enters_of Try.func45 (by kernel_rfl) rfl)
    rwa [ho, show retR o = .tuple #[rv b, .bool i] by unfold retR; rw [hb, hi9]] at this)
  rw [ho, show retR o = .tuple #[rv b, .bool i] by unfold retR; rw [hb, hi9]]
  have HE := Lib.hid hl
  obtain ⟨ad, c, rfl, hc, he⟩ := hl.form
  clear hl he ho hb hi9
  go_enter Try.func25, Try.ntmps25
  go_wp2_with fail
  refine (hlg.out _ ((HE.out.alloc _).alloc _) _ ((Blk.new' w _ _ rfl).alloc _)).mono ?_
  rintro e w1 ⟨rfl, q1, rfl⟩
  go_wp2_with fail
  exact bodyPost_ret (v := .tuple #[rv b, .bool i]) (by simp [results, Try.results25, go_sem, rv]) rfl (Ret.mk (by simp (maxDischargeDepth := 99)))
set_option maxHeartbeats 1000000 in
set_option maxRecDepth 100000 in
theorem ribtell_any {l : List Rt} {v : Value} (a : B) (w : World) (hl : Els w v 4 Rt.cells l) (hn : l.length ≤ 1000) : Calls Try.prog 19 #[v, av a] w (Ret (.int .i64 (tellR l a)) w) := by
  obtain ⟨o, ho⟩ : ∃ o, bestO (matchR a) l = o := ⟨_, rfl⟩
  have hbs := Lib.hid (fun W (h : Els W v 4 Rt.cells l) => show Calls Try.prog 25 #[v, av a] W (Ret (retR o) W) by rw [← ho]; exact ribbest_any a W h hn)
  have HV := Lib.hid (show tellR l a = (o.getD z0r).act by cases o with
    | none => exact tellR_none ho
    | some b => exact tellR_some ho)
  obtain ⟨b, hb⟩ : ∃ b, o.getD z0r = b := ⟨_, rfl⟩
  obtain ⟨i, hi9⟩ : ∃ i, o.isSome = i := ⟨_, rfl⟩
  rw [show retR o = .tuple #[rv b, .bool i] by unfold retR; rw [hb, hi9]] at hbs
  rw [hb] at HV
  have HE := Lib.hid hl
  obtain ⟨ad, c, rfl, hc, he⟩ := hl.form
  clear hl he ho hb hi9
  go_enter Try.func19, Try.ntmps19
  go_wp2_with fail
  refine (hbs.out _ (HE.out.alloc _)).mono ?_
  rintro e w1 ⟨rfl, q1, rfl⟩
  go_wp2_with fail
  go_ret
  exact Ret.of (by rw [HV.out]; rfl) (by simp (maxDischargeDepth := 99))
set_option maxHeartbeats 1000000 in
set_option maxRecDepth 100000 in
theorem reftellR_any {l : List Rt} {v : Value} (a : B) (w : World) (hl : Els w v 4 Rt.cells l) (hT : Tab l) (hn : l.length ≤ 1000) : Calls Try.prog 20 #[v, av a] w (Ret (.int .i64 (tellR l a)) w) := by
  have HE := Lib.hid hl
  cases ho : bestO (matchR a) l with
  | none =>
    have hbs := Lib.hid (fun W (h : Els W v 4 Rt.cells l) => show Calls Try.prog 38 #[v, av a] W (Ret (.tuple #[rv z0r, .bool false]) W) by have := refbestR_any a W h hT hn; rwa [ho] at this)
    have HV := Lib.hid (tellR_none ho)
    obtain ⟨ad, c, rfl, hc, he⟩ := hl.form
    clear hl he ho hT
    go_enter Try.func20, Try.ntmps20
    go_wp2_with fail
    refine (hbs.out _ (HE.out.alloc _)).mono ?_
    rintro e w1 ⟨rfl, q1, rfl⟩
    go_wp2_with fail
    go_ret
    exact Ret.of (by rw [HV.out]; rfl) (by simp (maxDischargeDepth := 99))
  | some b =>
    have hbs := Lib.hid (fun W (h : Els W v 4 Rt.cells l) => show Calls Try.prog 38 #[v, av a] W (Ret (.tuple #[rv b, .bool true]) W) by have := refbestR_any a W h hT hn; rwa [ho] at this)
    have HV := Lib.hid (tellR_some ho)
    obtain ⟨ad, c, rfl, hc, he⟩ := hl.form
    clear hl he ho hT
    go_enter Try.func20, Try.ntmps20
    go_wp2_with fail
    refine (hbs.out _ (HE.out.alloc _)).mono ?_
    rintro e w1 ⟨rfl, q1, rfl⟩
    go_wp2_with fail
    go_ret
    exact Ret.of (by rw [HV.out]; rfl) (by simp (maxDischargeDepth := 99))
end Go.Proofs.Ytdoghlncoinhoaa
