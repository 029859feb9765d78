/- Slices of moves that are a law's argument, opened. -/
import Derived.Test.YtemfocnjlimicaaOpenSlots
import Derived.Test.YtemfocnjlimicaaBoard10
namespace Go.Proofs.Ytemfocnjlimicaa
open Go.RowKit Pg Go.ChangeShapes Go.WideShapes Go.Deep
set_option maxRecDepth 100000

instance : Inhabited Mv := ⟨⟨0, default⟩⟩
section
variable {H : Type} {enc : TypeId × Value → H} {w : World} {base : Nat} {spare : Nat → Bool} {held : Bool} {fuel : Nat} {cs : List Value} {x : DataW H × List MemPlace}
theorem fields_mv : ∃ f0 f1 : Field, Try.prog.underlying 54 = some (.struct #[f0, f1]) ∧ f0.type = 3 ∧ f0.offset = 0 ∧ f1.type = 52 ∧ f1.offset = 1 :=
  ⟨(Try.prog.fieldsOf 54).getD 0 default, (Try.prog.fieldsOf 54).getD 1 default, by kernel_rfl, by kernel_rfl, by kernel_rfl, by kernel_rfl, by kernel_rfl⟩
def okM (m : Mv) : Prop := (-9223372036854775808 ≤ m.bank ∧ m.bank ≤ 9223372036854775807) ∧ okW m.w
theorem trod_mv (h : DataW.trod enc Try.prog w base spare held fuel 54 cs = some x) : ∃ m : Mv, cs = m.cells ∧ okM m := by
  obtain ⟨f0, f1, hu, t0, o0, t1, o1⟩ := fields_mv
  obtain ⟨y0, y1, m, rfl, hlen, h0, h1⟩ := trod_struct2 hu h
  have hc : Try.prog.cellsOf 54 = 9 := by kernel_rfl
  have ha : Try.prog.cellsOf 52 = 8 := by kernel_rfl
  have hb : Try.prog.cellsOf 3 = 1 := by kernel_rfl
  rw [hc] at hlen
  rw [t0, o0, hb] at h0
  rw [t1, o1, ha] at h1
  match cs, hlen with
  | [c0, c1, c2, c3, c4, c5, c6, c7, c8], _ =>
    obtain ⟨n, e0, _, w0⟩ := DataW.trod_int Try.underlying3 (by simpa using h0)
    obtain ⟨s, hs, hok⟩ := trod_wr h1
    simp [Wr.cells] at hs e0
    refine ⟨⟨n, s⟩, ?_, wf_i64' w0, hok⟩
    unfold Mv.cells Wr.cells
    simp [e0, hs]
theorem open_moves {r : Reach} {b0 : Nat} {v : Value} {d : DataW H} {ps : List MemPlace} (hval : Value.okWide Try.prog w r b0 22 v) (hd : DataW.Trod enc Try.prog w 0 spare held 22 v d ps) :
    ∃ l : List Mv, Els w v 9 Mv.cells l ∧ ∀ e ∈ l, okM e :=
  open_els Mv.cells okM Try.underlying22 (by kernel_rfl) (by omega) Mv.cells_len (fun _ _ _ h => trod_mv h) hval hd
theorem open_move {r : Reach} {b0 : Nat} {v : Value} {d : DataW H} {ps : List MemPlace} (hval : Value.okWide Try.prog w r b0 54 v) (hd : DataW.Trod enc Try.prog w base spare held 54 v d ps) :
    ∃ x : Mv, v = mvv x ∧ okM x := by
  have hv : ∃ cs, v = .agg cs := by
    obtain ⟨f0, f1, hu, _⟩ := fields_mv
    simp only [Value.okWide, hu] at hval
    obtain ⟨cs, h1, _⟩ := hval
    exact ⟨cs, h1⟩
  obtain ⟨cs, rfl⟩ := hv
  obtain ⟨fuel, hf⟩ := hd
  obtain ⟨x, hx, hok⟩ := trod_mv hf
  refine ⟨x, ?_, hok⟩
  have : cs.toList = Mv.cells x := hx
  rw [← Array.toArray_toList (xs := cs), this]
  rfl
end
end Go.Proofs.Ytemfocnjlimicaa
