/- Arguments of the laws, opened. -/
import Derived.Test.YtemfocnjlimicaaAddr
import Derived.Test.YtemfocnjlimicaaKit2
namespace Go.Proofs.Ytemfocnjlimicaa
open Go.RowKit Pg Go.ChangeShapes Go.WideShapes
set_option maxRecDepth 100000

section
variable {H : Type} {enc : TypeId × Value → H} {w : World} {base : Nat} {spare : Nat → Bool} {held : Bool} {fuel : Nat} {cs : List Value} {x : DataW H × List MemPlace}
theorem cells_u64 : Try.prog.cellsOf 23 = 1 := by kernel_rfl
theorem wf_u64 {n : Int} (h : (Lit.int .u64 n).wf = true) : 0 ≤ n ∧ n ≤ 18446744073709551615 := by
  simp [Lit.wf, IntKind.min, IntKind.max, IntKind.signed, IntKind.bits] at h; omega
theorem wf_i64' {n : Int} (h : (Lit.int .i64 n).wf = true) : -9223372036854775808 ≤ n ∧ n ≤ 9223372036854775807 := by
  simp [Lit.wf, IntKind.min, IntKind.max, IntKind.signed, IntKind.bits] at h; omega
/-- Two words read as an address. -/
theorem trod_addr (h : DataW.trod enc Try.prog w base spare held fuel 25 cs = some x) : ∃ X : B, cs = [.int .u64 (hi X), .int .u64 (lo X)] := by
  obtain ⟨xs, m, rfl, _, hlen, hx, hi⟩ := DataW.trod_array under_addr h
  have hc : Try.prog.cellsOf 25 = 2 := by kernel_rfl
  rw [hc] at hlen
  match cs, hlen with
  | [c0, c1], _ =>
    have h0 := hi 0 (by omega)
    have h1 := hi 1 (by omega)
    rw [cells_u64] at h0 h1
    match xs, hx with
    | [y0, y1], _ =>
      obtain ⟨n0, e0, _, w0⟩ := DataW.trod_int under_u64 (by simpa using h0)
      obtain ⟨n1, e1, _, w1⟩ := DataW.trod_int under_u64 (by simpa using h1)
      obtain ⟨a0, b0⟩ := wf_u64 w0
      obtain ⟨a1, b1⟩ := wf_u64 w1
      obtain ⟨X, hX, lX⟩ := exists_words n0 n1 a0 b0 a1 b1
      refine ⟨X, ?_⟩
      rw [hX, lX]
      simp at e0 e1
      rw [e0, e1]
theorem open_addr {r : Reach} {b0 : Nat} {v : Value} {d : DataW H} {ps : List MemPlace} (hval : Value.okWide Try.prog w r b0 25 v) (hd : DataW.Trod enc Try.prog w base spare held 25 v d ps) : ∃ X : B, v = av X := by
  have hv : ∃ cs, v = .agg cs := by
    simp only [Value.okWide, under_addr] at hval
    obtain ⟨cs, h1, _⟩ := hval
    exact ⟨cs, h1⟩
  obtain ⟨cs, rfl⟩ := hv
  obtain ⟨fuel, hf⟩ := hd
  obtain ⟨X, hX⟩ := trod_addr hf
  refine ⟨X, ?_⟩
  have : cs.toList = [.int .u64 (hi X), .int .u64 (lo X)] := hX
  rw [← Array.toArray_toList (xs := cs), this]
end
theorem own : ownKnob Try.prog.godebug = none := by kernel_rfl
theorem laidOut : laidOutB Try.prog = true := by kernel_rfl
end Go.Proofs.Ytemfocnjlimicaa
