/- Slices of slots and of writes that are a law's argument, opened. -/
import Derived.Test.YtdlikcdmhgbolaaOpenEls
namespace Go.Proofs.Ytdlikcdmhgbolaa
open Go.RowKit Pg Go.ChangeShapes Go.WideShapes Go.Deep
set_option maxRecDepth 100000

instance : Inhabited Slot := ⟨⟨false, default⟩⟩
instance : Inhabited Wr := ⟨⟨0, default⟩⟩
section
variable {H : Type} {enc : TypeId × Value → H} {w : World} {base : Nat} {spare : Nat → Bool} {held : Bool} {fuel : Nat} {cs : List Value} {x : DataW H × List MemPlace}
theorem fields_slot : ∃ f0 f1 : Field, Try.prog.underlying 58 = some (.struct #[f0, f1]) ∧ f0.type = 4 ∧ f0.offset = 0 ∧ f1.type = 29 ∧ f1.offset = 1 :=
  ⟨(Try.prog.fieldsOf 58).getD 0 default, (Try.prog.fieldsOf 58).getD 1 default, by kernel_rfl, by kernel_rfl, by kernel_rfl, by kernel_rfl, by kernel_rfl⟩
def okS (s : Slot) : Prop := okE s.e
theorem trod_slot (h : DataW.trod enc Try.prog w base spare held fuel 58 cs = some x) : ∃ s : Slot, cs = s.cells ∧ okS s := by
  obtain ⟨f0, f1, hu, t0, o0, t1, o1⟩ := fields_slot
  obtain ⟨y0, y1, m, rfl, hlen, h0, h1⟩ := trod_struct2 hu h
  have hc : Try.prog.cellsOf 58 = 7 := by kernel_rfl
  have ha : Try.prog.cellsOf 29 = 6 := by kernel_rfl
  have hb : Try.prog.cellsOf 4 = 1 := by kernel_rfl
  rw [hc] at hlen
  rw [t0, o0, hb] at h0
  rw [t1, o1, ha] at h1
  match cs, hlen with
  | [c0, c1, c2, c3, c4, c5, c6], _ =>
    obtain ⟨b, e0, _⟩ := DataW.trod_bool Try.underlying4 (by simpa using h0)
    obtain ⟨e, he, hok⟩ := trod_ent h1
    simp [Ent.cells] at he e0
    refine ⟨⟨b, e⟩, ?_, hok⟩
    unfold Slot.cells
    simp [e0, he]
theorem open_slots {r : Reach} {b0 : Nat} {v : Value} {d : DataW H} {ps : List MemPlace} (hval : Value.okWide Try.prog w r b0 22 v) (hd : DataW.Trod enc Try.prog w 0 spare held 22 v d ps) :
    ∃ l : List Slot, Els w v 7 Slot.cells l ∧ ∀ e ∈ l, okS e :=
  open_els Slot.cells okS Try.underlying22 (by kernel_rfl) (by omega) Slot.cells_len (fun _ _ _ h => trod_slot h) hval hd
theorem fields_wr : ∃ f0 f1 : Field, Try.prog.underlying 60 = some (.struct #[f0, f1]) ∧ f0.type = 3 ∧ f0.offset = 0 ∧ f1.type = 58 ∧ f1.offset = 1 :=
  ⟨(Try.prog.fieldsOf 60).getD 0 default, (Try.prog.fieldsOf 60).getD 1 default, by kernel_rfl, by kernel_rfl, by kernel_rfl, by kernel_rfl, by kernel_rfl⟩
def okW (wr : Wr) : Prop := (-9223372036854775808 ≤ wr.at_ ∧ wr.at_ ≤ 9223372036854775807) ∧ okS wr.s
theorem trod_wr (h : DataW.trod enc Try.prog w base spare held fuel 60 cs = some x) : ∃ wr : Wr, cs = wr.cells ∧ okW wr := by
  obtain ⟨f0, f1, hu, t0, o0, t1, o1⟩ := fields_wr
  obtain ⟨y0, y1, m, rfl, hlen, h0, h1⟩ := trod_struct2 hu h
  have hc : Try.prog.cellsOf 60 = 8 := by kernel_rfl
  have ha : Try.prog.cellsOf 58 = 7 := by kernel_rfl
  have hb : Try.prog.cellsOf 3 = 1 := by kernel_rfl
  rw [hc] at hlen
  rw [t0, o0, hb] at h0
  rw [t1, o1, ha] at h1
  match cs, hlen with
  | [c0, c1, c2, c3, c4, c5, c6, c7], _ =>
    obtain ⟨n, e0, _, w0⟩ := DataW.trod_int Try.underlying3 (by simpa using h0)
    obtain ⟨s, hs, hok⟩ := trod_slot h1
    simp [Slot.cells] at hs e0
    refine ⟨⟨n, s⟩, ?_, wf_i64' w0, hok⟩
    unfold Wr.cells
    simp [e0, hs]
theorem open_wrs {r : Reach} {b0 : Nat} {v : Value} {d : DataW H} {ps : List MemPlace} (hval : Value.okWide Try.prog w r b0 33 v) (hd : DataW.Trod enc Try.prog w 0 spare held 33 v d ps) :
    ∃ l : List Wr, Els w v 8 Wr.cells l ∧ ∀ e ∈ l, okW e :=
  open_els Wr.cells okW Try.underlying33 (by kernel_rfl) (by omega) Wr.cells_len (fun _ _ _ h => trod_wr h) hval hd
theorem open_wr {r : Reach} {b0 : Nat} {v : Value} {d : DataW H} {ps : List MemPlace} (hval : Value.okWide Try.prog w r b0 60 v) (hd : DataW.Trod enc Try.prog w base spare held 60 v d ps) :
    ∃ x : Wr, v = wrv x ∧ okW x := by
  have hv : ∃ cs, v = .agg cs := by
    obtain ⟨f0, f1, hu, _⟩ := fields_wr
    simp only [Value.okWide, hu] at hval
    obtain ⟨cs, h1, _⟩ := hval
    exact ⟨cs, h1⟩
  obtain ⟨cs, rfl⟩ := hv
  obtain ⟨fuel, hf⟩ := hd
  obtain ⟨x, hx, hok⟩ := trod_wr hf
  refine ⟨x, ?_, hok⟩
  have : cs.toList = Wr.cells x := hx
  rw [← Array.toArray_toList (xs := cs), this]
  rfl
end
end Go.Proofs.Ytdlikcdmhgbolaa
