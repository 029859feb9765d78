/- Slices of structs that are a law's argument, opened. Slices of slots and of writes that are a law's argument, opened. -/
import Derived.Test.YtemfocnjlimicaaOpen4
import Derived.Test.YtemfocnjlimicaaInfo
import Derived.Deep.Slices
import Derived.Deep.Strs
namespace Pg
open Go Go.RowKit Go.ChangeShapes Go.WideShapes Go.Deep
section
variable {H : Type} {enc : TypeId × Value → H} {P : Program} {w : World} {spare : Nat → Bool} {held : Bool} {α : Type} [Inhabited α]
/-- A slice argument reads as a list, where each element's cells read so. -/
theorem open_els {t e : TypeId} {k : Nat} (en : α → List Value) (R : α → Prop) (ht : P.underlying t = some (.slice e)) (hC : P.cellsOf e = k) (hk0 : 0 < k) (hk : ∀ x, (en x).length = k)
    (helem : ∀ (fuel : Nat) (cs : List Value) (x : DataW H × List MemPlace), DataW.trod enc P w 0 spare held fuel e cs = some x → ∃ a : α, cs = en a ∧ R a)
    {r : Reach} {b0 : Nat} {v : Value} {d : DataW H} {ps : List MemPlace} (hval : Value.okWide P w r b0 t v) (hd : DataW.Trod enc P w 0 spare held t v d ps) : ∃ l : List α, Els w v k en l ∧ ∀ a ∈ l, R a := by
  obtain ⟨a0, len0, cap0, rfl⟩ := okWide_slice ht hval
  obtain ⟨fuel, hf⟩ := hd
  rcases open_slice ht hf with ⟨h0, _⟩ | ⟨a, len, cap, m, n, D, Pl, hcs, _, hlc, _, hm, _, hi⟩
  · have h0 : Value.slice a0 len0 cap0 = .slice none 0 0 := by simpa [Value.cells] using h0
    injection h0 with h1 h2 h3
    subst h1 h2 h3
    exact ⟨[], ⟨none, 0, rfl, Nat.le_refl _, fun h => absurd h (by simp)⟩, fun a ha => by simp at ha⟩
  · have h0 : Value.slice a0 len0 cap0 = .slice (some a) len cap := by simpa [Value.cells] using hcs
    injection h0 with h1 h2 h3
    subst h1 h2 h3
    have hlm : len0 ≤ m := by rw [hm]; split <;> omega
    have hex : ∀ i : Nat, ∃ x : α, i < len0 → (R x ∧ ∀ j, j < k → w.cell? ((a.add (i * k)).add j) = (en x)[j]?) := fun i => by
      by_cases hlt : i < len0
      · obtain ⟨cs', hc, htr⟩ := hi i (by omega)
        rw [hC] at hc
        obtain ⟨x, rfl, hx⟩ := helem _ _ _ htr
        obtain ⟨_, _, hcell⟩ := World.cells?_some hc
        exact ⟨x, fun _ => ⟨hx, hcell⟩⟩
      · exact ⟨default, fun h => absurd h hlt⟩
    obtain ⟨f, hf⟩ := Classical.axiomOfChoice hex
    refine ⟨(List.range len0).map f, ⟨some a, cap0, by simp, by simpa using hlc, fun h => ?_⟩, fun x hx => ?_⟩
    · have hl0 : 0 < len0 := by simpa using h
      obtain ⟨_, h1⟩ := hf 0 hl0
      have h2 := h1 0 hk0
      have hlen := hk (f 0)
      have hsome : ∃ u, (en (f 0))[0]? = some u := ⟨(en (f 0))[0]'(by omega), List.getElem?_eq_getElem (by omega)⟩
      obtain ⟨u, hu⟩ := hsome
      rw [hu, Nat.zero_mul] at h2
      have h2' : w.cell? a = some u := by simpa [Addr.add] using h2
      have hspot := World.cell?_spot h2'
      obtain ⟨b, o, spot⟩ := a
      simp only at hspot
      subst hspot
      have hblt : b < w.heap.size := by
        rcases Nat.lt_or_ge b w.heap.size with hlt | hge
        · exact hlt
        · simp [World.cell?, Array.getElem?_eq_none hge] at h2'
      refine ⟨b, o, rfl, hblt, fun i hi' j hj => ?_⟩
      have hi2 : i < len0 := by simpa using hi'
      have h3 := (hf i hi2).2 j hj
      have e1 : ((⟨b, o, none⟩ : Addr).add (i * k)).add j = ⟨b, o + i * k + j, none⟩ := by
        unfold Addr.add
        by_cases hz : i * k = 0 <;> by_cases hj0 : j = 0 <;> simp [hz, hj0]
      rw [e1] at h3
      rw [h3]
      simp
    · simp only [List.mem_map, List.mem_range] at hx
      obtain ⟨i, hi', rfl⟩ := hx
      exact (hf i hi').1
end
end Pg
namespace Go.Proofs.Ytemfocnjlimicaa
open Go.RowKit Pg Go.ChangeShapes Go.WideShapes Go.Deep
set_option maxRecDepth 100000

instance : Inhabited Ent := ⟨⟨0, 0, 0, 0⟩⟩
section
variable {H : Type} {enc : TypeId × Value → H} {w : World} {base : Nat} {spare : Nat → Bool} {held : Bool} {fuel : Nat} {cs : List Value} {x : DataW H × List MemPlace}
theorem fields_ent : ∃ f0 f1 f2 : Field, Try.prog.underlying 48 = some (.struct #[f0, f1, f2]) ∧ f0.type = 46 ∧ f0.offset = 0 ∧ f1.type = 3 ∧ f1.offset = 4 ∧ f2.type = 3 ∧ f2.offset = 5 :=
  ⟨(Try.prog.fieldsOf 48).getD 0 default, (Try.prog.fieldsOf 48).getD 1 default, (Try.prog.fieldsOf 48).getD 2 default, by kernel_rfl, by kernel_rfl, by kernel_rfl, by kernel_rfl, by kernel_rfl, by kernel_rfl, by kernel_rfl⟩
theorem trod_ent (h : DataW.trod enc Try.prog w base spare held fuel 48 cs = some x) : ∃ e : Ent, cs = e.cells ∧ (-9223372036854775808 ≤ e.len ∧ e.len ≤ 9223372036854775807) ∧ (-9223372036854775808 ≤ e.act ∧ e.act ≤ 9223372036854775807) := by
  obtain ⟨f0, f1, f2, hu, t0, o0, t1, o1, t2, o2⟩ := fields_ent
  obtain ⟨y0, y1, y2, m, rfl, hlen, h0, h1, h2⟩ := trod_struct3 hu h
  have hc : Try.prog.cellsOf 48 = 6 := by kernel_rfl
  have ha : Try.prog.cellsOf 46 = 4 := by kernel_rfl
  have hi' : Try.prog.cellsOf 3 = 1 := by kernel_rfl
  rw [hc] at hlen
  rw [t0, o0, ha] at h0
  rw [t1, o1, hi'] at h1
  rw [t2, o2, hi'] at h2
  match cs, hlen with
  | [c0, c1, c2, c3, c4, c5], _ =>
    obtain ⟨X, M, hX⟩ := trod_word h0
    obtain ⟨n, e1, _, w1⟩ := DataW.trod_int Try.underlying3 (by simpa using h1)
    obtain ⟨n2, e2, _, w2⟩ := DataW.trod_int Try.underlying3 (by simpa using h2)
    simp at hX e1 e2
    refine ⟨⟨X, M, n, n2⟩, ?_, ⟨(wf_i64' w1).1, (wf_i64' w1).2⟩, (wf_i64' w2).1, (wf_i64' w2).2⟩
    unfold Ent.cells
    rw [hX.1, hX.2.1, hX.2.2.1, hX.2.2.2, e1, e2]
def okE (e : Ent) : Prop := (-9223372036854775808 ≤ e.len ∧ e.len ≤ 9223372036854775807) ∧ (-9223372036854775808 ≤ e.act ∧ e.act ≤ 9223372036854775807)
theorem open_ents {r : Reach} {b0 : Nat} {v : Value} {d : DataW H} {ps : List MemPlace} (hval : Value.okWide Try.prog w r b0 61 v) (hd : DataW.Trod enc Try.prog w 0 spare held 61 v d ps) :
    ∃ l : List Ent, Els w v 6 Ent.cells l ∧ ∀ e ∈ l, okE e :=
  open_els Ent.cells okE Try.underlying61 (by kernel_rfl) (by omega) Ent.cells_len (fun _ _ _ h => trod_ent h) hval hd
end
end Go.Proofs.Ytemfocnjlimicaa
namespace Go.Proofs.Ytemfocnjlimicaa
open Go.RowKit Pg Go.ChangeShapes Go.WideShapes Go.Deep
set_option maxRecDepth 100000

instance : Inhabited Slot := ⟨⟨false, default⟩⟩
instance : Inhabited Wr := ⟨⟨0, default⟩⟩
section
variable {H : Type} {enc : TypeId × Value → H} {w : World} {base : Nat} {spare : Nat → Bool} {held : Bool} {fuel : Nat} {cs : List Value} {x : DataW H × List MemPlace}
theorem fields_slot : ∃ f0 f1 : Field, Try.prog.underlying 50 = some (.struct #[f0, f1]) ∧ f0.type = 4 ∧ f0.offset = 0 ∧ f1.type = 48 ∧ f1.offset = 1 :=
  ⟨(Try.prog.fieldsOf 50).getD 0 default, (Try.prog.fieldsOf 50).getD 1 default, by kernel_rfl, by kernel_rfl, by kernel_rfl, by kernel_rfl, by kernel_rfl⟩
def okS (s : Slot) : Prop := okE s.e
theorem trod_slot (h : DataW.trod enc Try.prog w base spare held fuel 50 cs = some x) : ∃ s : Slot, cs = s.cells ∧ okS s := by
  obtain ⟨f0, f1, hu, t0, o0, t1, o1⟩ := fields_slot
  obtain ⟨y0, y1, m, rfl, hlen, h0, h1⟩ := trod_struct2 hu h
  have hc : Try.prog.cellsOf 50 = 7 := by kernel_rfl
  have ha : Try.prog.cellsOf 48 = 6 := by kernel_rfl
  have hb : Try.prog.cellsOf 4 = 1 := by kernel_rfl
  rw [hc] at hlen
  rw [t0, o0, hb] at h0
  rw [t1, o1, ha] at h1
  match cs, hlen with
  | [c0, c1, c2, c3, c4, c5, c6], _ =>
    obtain ⟨b, e0, _⟩ := DataW.trod_bool Try.underlying4 (by simpa using h0)
    obtain ⟨e, he, hok⟩ := trod_ent h1
    simp [Ent.cells] at he e0
    refine ⟨⟨b, e⟩, ?_, hok⟩
    unfold Slot.cells
    simp [e0, he]
theorem open_slots {r : Reach} {b0 : Nat} {v : Value} {d : DataW H} {ps : List MemPlace} (hval : Value.okWide Try.prog w r b0 58 v) (hd : DataW.Trod enc Try.prog w 0 spare held 58 v d ps) :
    ∃ l : List Slot, Els w v 7 Slot.cells l ∧ ∀ e ∈ l, okS e :=
  open_els Slot.cells okS Try.underlying58 (by kernel_rfl) (by omega) Slot.cells_len (fun _ _ _ h => trod_slot h) hval hd
theorem fields_wr : ∃ f0 f1 : Field, Try.prog.underlying 52 = some (.struct #[f0, f1]) ∧ f0.type = 3 ∧ f0.offset = 0 ∧ f1.type = 50 ∧ f1.offset = 1 :=
  ⟨(Try.prog.fieldsOf 52).getD 0 default, (Try.prog.fieldsOf 52).getD 1 default, by kernel_rfl, by kernel_rfl, by kernel_rfl, by kernel_rfl, by kernel_rfl⟩
def okW (wr : Wr) : Prop := (-9223372036854775808 ≤ wr.at_ ∧ wr.at_ ≤ 9223372036854775807) ∧ okS wr.s
theorem trod_wr (h : DataW.trod enc Try.prog w base spare held fuel 52 cs = some x) : ∃ wr : Wr, cs = wr.cells ∧ okW wr := by
  obtain ⟨f0, f1, hu, t0, o0, t1, o1⟩ := fields_wr
  obtain ⟨y0, y1, m, rfl, hlen, h0, h1⟩ := trod_struct2 hu h
  have hc : Try.prog.cellsOf 52 = 8 := by kernel_rfl
  have ha : Try.prog.cellsOf 50 = 7 := by kernel_rfl
  have hb : Try.prog.cellsOf 3 = 1 := by kernel_rfl
  rw [hc] at hlen
  rw [t0, o0, hb] at h0
  rw [t1, o1, ha] at h1
  match cs, hlen with
  | [c0, c1, c2, c3, c4, c5, c6, c7], _ =>
    obtain ⟨n, e0, _, w0⟩ := DataW.trod_int Try.underlying3 (by simpa using h0)
    obtain ⟨s, hs, hok⟩ := trod_slot h1
    simp [Slot.cells] at hs e0
    refine ⟨⟨n, s⟩, ?_, wf_i64' w0, hok⟩
    unfold Wr.cells
    simp [e0, hs]
theorem open_wrs {r : Reach} {b0 : Nat} {v : Value} {d : DataW H} {ps : List MemPlace} (hval : Value.okWide Try.prog w r b0 77 v) (hd : DataW.Trod enc Try.prog w 0 spare held 77 v d ps) :
    ∃ l : List Wr, Els w v 8 Wr.cells l ∧ ∀ e ∈ l, okW e :=
  open_els Wr.cells okW Try.underlying77 (by kernel_rfl) (by omega) Wr.cells_len (fun _ _ _ h => trod_wr h) hval hd
theorem open_wr {r : Reach} {b0 : Nat} {v : Value} {d : DataW H} {ps : List MemPlace} (hval : Value.okWide Try.prog w r b0 52 v) (hd : DataW.Trod enc Try.prog w base spare held 52 v d ps) :
    ∃ x : Wr, v = wrv x ∧ okW x := by
  have hv : ∃ cs, v = .agg cs := by
    obtain ⟨f0, f1, hu, _⟩ := fields_wr
    simp only [Value.okWide, hu] at hval
    obtain ⟨cs, h1, _⟩ := hval
    exact ⟨cs, h1⟩
  obtain ⟨cs, rfl⟩ := hv
  obtain ⟨fuel, hf⟩ := hd
  obtain ⟨x, hx, hok⟩ := trod_wr hf
  refine ⟨x, ?_, hok⟩
  have : cs.toList = Wr.cells x := hx
  rw [← Array.toArray_toList (xs := cs), this]
  rfl
end
end Go.Proofs.Ytemfocnjlimicaa
