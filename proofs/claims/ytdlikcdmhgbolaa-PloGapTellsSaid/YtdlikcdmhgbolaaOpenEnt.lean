/- An entry that is a law's argument, opened. -/
import Derived.Test.YtdlikcdmhgbolaaOpenSlots
namespace Go.Proofs.Ytdlikcdmhgbolaa
open Go.RowKit Pg Go.ChangeShapes Go.WideShapes Go.Deep
set_option maxRecDepth 100000

theorem okS_len {l : List Slot} (h : ∀ s ∈ l, okS s) : ∀ s ∈ l, -9223372036854775808 ≤ s.e.len ∧ s.e.len ≤ 9223372036854775807 := fun s hs => (h s hs).1
section
variable {H : Type} {enc : TypeId × Value → H} {w : World} {base : Nat} {spare : Nat → Bool} {held : Bool}
theorem open_ent {r : Reach} {b0 : Nat} {v : Value} {d : DataW H} {ps : List MemPlace} (hval : Value.okWide Try.prog w r b0 29 v) (hd : DataW.Trod enc Try.prog w base spare held 29 v d ps) :
    ∃ x : Ent, v = ev x ∧ okE x := by
  have hv : ∃ cs, v = .agg cs := by
    have hu : Try.prog.underlying 29 = some (.struct (Try.prog.fieldsOf 29)) := by kernel_rfl
    simp only [Value.okWide, hu] at hval
    obtain ⟨cs, h1, _⟩ := hval
    exact ⟨cs, h1⟩
  obtain ⟨cs, rfl⟩ := hv
  obtain ⟨fuel, hf⟩ := hd
  obtain ⟨x, hx, hok⟩ := trod_ent hf
  refine ⟨x, ?_, hok⟩
  have : cs.toList = Ent.cells x := hx
  rw [← Array.toArray_toList (xs := cs), this]
  rfl
end
end Go.Proofs.Ytdlikcdmhgbolaa
