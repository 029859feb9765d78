/- A bank behind writes, one by one. -/
import Derived.Test.YtpocbcohoefojaaAwake8
namespace Go.Proofs.Ytpocbcohoefojaa
open Go.RowKit Pg
def StepPost (wb : World) (g gr : Nat) (L : List Slot) (k : Nat) (e : Ending) (w2 : World) : Prop := ∃ (er : Int) (cnt : Int), e = .returned (.int .i64 er) ∧ 0 ≤ cnt ∧ cnt ≤ (k : Int) + 1 ∧ BankAt wb w2 g gr L cnt
theorem bdo_step {wb w : World} {g gr : Nat} {Z : List Slot} {l : List Wr} {k : Nat} {cnt : Int} (h : BankAt wb w g gr (applyS Z (l.take k)) cnt) (hk : k < l.length) (h0 : 0 ≤ cnt) (hc : cnt ≤ k) (h40 : k ≤ 500) (x : Wr) (hx : l[k] = x) :
    Calls Try.prog 13 #[.pointer (some ⟨g, 0, none⟩), wrv x] w (StepPost wb g gr (applyS Z (l.take (k + 1))) k) :=
  (bdo_any h h0 (by omega) x).mono fun _ _ ⟨he, _, hb⟩ => by
    have e : applyS Z (l.take (k + 1)) = putW (applyS Z (l.take k)) x := by rw [List.take_succ_eq_append_getElem hk, applyS_snoc, hx]
    rw [← e] at hb
    refine ⟨_, _, he, ?_, ?_, hb⟩ <;> split <;> omega
end Go.Proofs.Ytpocbcohoefojaa
