/- Slices of routes that are a law's argument, opened. -/
import Derived.Test.YtjkhdjonlppdoaaOpenEls
import Derived.Test.YtjkhdjonlppdoaaOpen2
namespace Go.Proofs.Ytjkhdjonlppdoaa
open Go.RowKit Pg Go.ChangeShapes Go.WideShapes Go.Deep
set_option maxRecDepth 100000

instance : Inhabited Rt := ⟨⟨0, 0, 0⟩⟩
section
variable {H : Type} {enc : TypeId × Value → H} {w : World} {base : Nat} {spare : Nat → Bool} {held : Bool} {fuel : Nat} {cs : List Value} {x : DataW H × List MemPlace}
theorem fields_route : ∃ f0 f1 : Field, Try.prog.underlying 29 = some (.struct #[f0, f1]) ∧ f0.type = 27 ∧ f0.offset = 0 ∧ f1.type = 3 ∧ f1.offset = 3 :=
  ⟨(Try.prog.fieldsOf 29).getD 0 default, (Try.prog.fieldsOf 29).getD 1 default, by kernel_rfl, by kernel_rfl, by kernel_rfl, by kernel_rfl, by kernel_rfl⟩
def okR (r : Rt) : Prop := (-9223372036854775808 ≤ r.n ∧ r.n ≤ 9223372036854775807) ∧ (-9223372036854775808 ≤ r.act ∧ r.act ≤ 9223372036854775807)
theorem trod_route (h : DataW.trod enc Try.prog w base spare held fuel 29 cs = some x) : ∃ r : Rt, cs = r.cells ∧ okR r := by
  obtain ⟨f0, f1, hu, t0, o0, t1, o1⟩ := fields_route
  obtain ⟨y0, y1, m, rfl, hlen, h0, h1⟩ := trod_struct2 hu h
  have hc : Try.prog.cellsOf 29 = 4 := by kernel_rfl
  have ha : Try.prog.cellsOf 27 = 3 := by kernel_rfl
  have hb : Try.prog.cellsOf 3 = 1 := by kernel_rfl
  rw [hc] at hlen
  rw [t0, o0, ha] at h0
  rw [t1, o1, hb] at h1
  match cs, hlen with
  | [c0, c1, c2, c3], _ =>
    obtain ⟨X, n, hX, w1, w2⟩ := trod_prefix h0
    obtain ⟨k, e0, _, w0⟩ := DataW.trod_int Try.underlying3 (by simpa using h1)
    simp at hX e0
    refine ⟨⟨X, n, k⟩, ?_, ⟨w1, w2⟩, wf_i64' w0⟩
    unfold Rt.cells
    simp [e0, hX]
theorem open_routes {r : Reach} {b0 : Nat} {v : Value} {d : DataW H} {ps : List MemPlace} (hval : Value.okWide Try.prog w r b0 22 v) (hd : DataW.Trod enc Try.prog w 0 spare held 22 v d ps) :
    ∃ l : List Rt, Els w v 4 Rt.cells l ∧ ∀ e ∈ l, okR e :=
  open_els Rt.cells okR Try.underlying22 (by kernel_rfl) (by omega) Rt.cells_len (fun _ _ _ h => trod_route h) hval hd
theorem open_route {r : Reach} {b0 : Nat} {v : Value} {d : DataW H} {ps : List MemPlace} (hval : Value.okWide Try.prog w r b0 29 v) (hd : DataW.Trod enc Try.prog w base spare held 29 v d ps) :
    ∃ x : Rt, v = rv x ∧ okR x := by
  have hv : ∃ cs, v = .agg cs := by
    obtain ⟨f0, f1, hu, _⟩ := fields_route
    simp only [Value.okWide, hu] at hval
    obtain ⟨cs, h1, _⟩ := hval
    exact ⟨cs, h1⟩
  obtain ⟨cs, rfl⟩ := hv
  obtain ⟨fuel, hf⟩ := hd
  obtain ⟨x, hx, hok⟩ := trod_route hf
  refine ⟨x, ?_, hok⟩
  have : cs.toList = Rt.cells x := hx
  rw [← Array.toArray_toList (xs := cs), this]
  rfl
end
end Go.Proofs.Ytjkhdjonlppdoaa
