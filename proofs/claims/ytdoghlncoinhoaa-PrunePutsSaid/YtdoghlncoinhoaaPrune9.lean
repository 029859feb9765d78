/- The law's Table, of 24 routes. -/
import Derived.Test.YtdoghlncoinhoaaRib2
namespace Go.Proofs.Ytdoghlncoinhoaa
open Go.RowKit Pg

def tab9B (l : List Rt) : Bool := decide (l.length ≤ 24) && tblB 128 l
theorem tab9B_of {l : List Rt} (h : tab9B l = true) : Tab l ∧ l.length ≤ 24 := by
  unfold tab9B at h
  simp only [Bool.and_eq_true, decide_eq_true_eq] at h
  exact ⟨(tab_of h.2).1, h.1⟩
set_option maxHeartbeats 1000000 in
set_option maxRecDepth 100000 in
theorem law09table_any {l : List Rt} {v : Value} (w : World) (hl : Els w v 4 Rt.cells l) : Calls Try.prog 9 #[v] w (Ret (.bool (tab9B l)) w) := by
  by_cases hn : l.length ≤ 24
  · have hof := Lib.hid (law06of_any w hl (by omega))
    have htb := Lib.hid (fun W (u : Value) (h : Els W u 4 Rt.cells l) => reftable_any 128 W h (by omega))
    have HV := Lib.hid (show tab9B l = tblB 128 l by unfold tab9B; rw [decide_eq_true hn]; rfl)
    obtain ⟨ad, c, rfl, hc, he⟩ := hl.form
    have g1 : (l.length : Int) ≤ 24 := by omega
    clear hl he
    go_enter Try.func9, Try.ntmps9
    go_wp2_with fail
    refine (hof.out).mono ?_
    rintro e w1 hR
    obtain ⟨a1, c1, rfl, hlc1, hown1, hels1⟩ := RetEls.out2 Rt.cells_len hR
    have HE1 := Lib.hid hels1
    have HK1 := Lib.hid hown1.1
    clear hown1 hels1 hR
    go_wp2_with fail
    refine (htb.out _ _ HE1.out).mono ?_
    rintro e w1 ⟨rfl, q2, rfl⟩
    go_wp2_with fail
    go_ret
    exact Ret.of (by rw [HV.out]; rfl) (by simp (maxDischargeDepth := 99) [HK1.out])
  · have HV := Lib.hid (show tab9B l = false by unfold tab9B; rw [decide_eq_false hn]; rfl)
    obtain ⟨ad, c, rfl, hc, he⟩ := hl.form
    have g1 : ¬ (l.length : Int) ≤ 24 := by omega
    clear hl he hn
    go_enter Try.func9, Try.ntmps9
    go_wp2_with fail
    go_ret
    exact Ret.of (by rw [HV.out]; rfl) (by simp (maxDischargeDepth := 99))
theorem law09table_as {l : List Rt} {v : Value} {b : Bool} (h : tab9B l = b) (w : World) (hl : Els w v 4 Rt.cells l) : Calls Try.prog 9 #[v] w (Ret (.bool b) w) := by rw [← h]; exact law09table_any w hl
end Go.Proofs.Ytdoghlncoinhoaa
