/- The law's Table, of 24 routes. -/
import Derived.Test.YtjkhdjonlppdoaaRib2
namespace Go.Proofs.Ytjkhdjonlppdoaa
open Go.RowKit Pg

def tab9B (l : List Rt) : Bool := decide (l.length ≤ 24) && tblB 128 l
theorem tab9B_of {l : List Rt} (h : tab9B l = true) : Tab l ∧ l.length ≤ 24 := by
  unfold tab9B at h
  simp only [Bool.and_eq_true, decide_eq_true_eq] at h
  exact ⟨(tab_of h.2).1, h.1⟩
end Go.Proofs.Ytjkhdjonlppdoaa
