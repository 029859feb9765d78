/- A word that is a law's argument, opened. -/
import Derived.Test.YtemfocnjlimicaaOpen
import Derived.Test.YtemfocnjlimicaaWord2
namespace Go.Proofs.Ytemfocnjlimicaa
open Go.RowKit Pg Go.ChangeShapes Go.WideShapes
set_option maxRecDepth 100000

section
variable {H : Type} {enc : TypeId × Value → H} {w : World} {base : Nat} {spare : Nat → Bool} {held : Bool} {fuel : Nat} {cs : List Value} {x : DataW H × List MemPlace}
theorem fields_word : ∃ f0 f1 : Field, Try.prog.underlying 46 = some (.struct #[f0, f1]) ∧ f0.type = 25 ∧ f0.offset = 0 ∧ f1.type = 25 ∧ f1.offset = 2 :=
  ⟨(Try.prog.fieldsOf 46).getD 0 default, (Try.prog.fieldsOf 46).getD 1 default, by kernel_rfl, by kernel_rfl, by kernel_rfl, by kernel_rfl, by kernel_rfl⟩
theorem trod_word (h : DataW.trod enc Try.prog w base spare held fuel 46 cs = some x) :
    ∃ (X M : B), cs = [.int .u64 (hi X), .int .u64 (lo X), .int .u64 (hi M), .int .u64 (lo M)] := by
  obtain ⟨f0, f1, hu, t0, o0, t1, o1⟩ := fields_word
  obtain ⟨y0, y1, m, rfl, hlen, h0, h1⟩ := trod_struct2 hu h
  have hc : Try.prog.cellsOf 46 = 4 := by kernel_rfl
  have ha : Try.prog.cellsOf 25 = 2 := by kernel_rfl
  rw [hc] at hlen
  rw [t0, o0, ha] at h0
  rw [t1, o1, ha] at h1
  match cs, hlen with
  | [c0, c1, c2, c3], _ =>
    obtain ⟨X, hX⟩ := trod_addr h0
    obtain ⟨M, hM⟩ := trod_addr h1
    simp at hX hM
    exact ⟨X, M, by rw [hX.1, hX.2, hM.1, hM.2]⟩
theorem open_word {r : Reach} {b0 : Nat} {v : Value} {d : DataW H} {ps : List MemPlace} (hval : Value.okWide Try.prog w r b0 46 v) (hd : DataW.Trod enc Try.prog w base spare held 46 v d ps) :
    ∃ (X M : B), v = wv X M := by
  have hv : ∃ cs, v = .agg cs := by
    obtain ⟨f0, f1, hu, _⟩ := fields_word
    simp only [Value.okWide, hu] at hval
    obtain ⟨cs, h1, _⟩ := hval
    exact ⟨cs, h1⟩
  obtain ⟨cs, rfl⟩ := hv
  obtain ⟨fuel, hf⟩ := hd
  obtain ⟨X, M, hX⟩ := trod_word hf
  refine ⟨X, M, ?_⟩
  have : cs.toList = [.int .u64 (hi X), .int .u64 (lo X), .int .u64 (hi M), .int .u64 (lo M)] := hX
  rw [← Array.toArray_toList (xs := cs), this]
end
end Go.Proofs.Ytemfocnjlimicaa
