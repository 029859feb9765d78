/- Later worlds (what was there stands, blocks may have been laid), and regions that draw their order whose head only reads or calls such functions and whose tail is one chain. -/
import Derived.WalkKit
import Derived.WalkLawsBesides
import Derived.WalkSpells
import Derived.Handy
import Derived.BigQuiet
import Derived.StillTail
import Derived.Lib.QuietBelow
import Derived.Lib.Hide
namespace Pg
open Go Go.RowKit Go.Sort

/-- A world with whatever count of draws and some blocks behind those of 'w'. -/
def ext (w : World) (p : Regrown) : World := grow (redrawn w p.d) p.os

theorem below_ext (w : World) (p : Regrown) : Below w.heap.size w (ext w p) := below_regrown w p.d p.os
theorem ext_of {w w' : World} (h : Below w.heap.size w w') : ∃ p, w' = ext w p := regrown_of_below h
@[go_sem] theorem ext_cell (w : World) (p : Regrown) (b o : Nat) (h : b < w.heap.size) : (ext w p).cell? ⟨b, o, none⟩ = w.cell? ⟨b, o, none⟩ := (below_ext w p).cell (p := ⟨b, o, none⟩) h
@[go_sem] theorem ext_frozen (w : World) (p : Regrown) (b o : Nat) (h : b < w.heap.size) : (ext w p).frozen? ⟨b, o, none⟩ = w.frozen? ⟨b, o, none⟩ := (below_ext w p).frozen (p := ⟨b, o, none⟩) h
@[go_sem] theorem u64_unsigned : IntKind.u64.signed = false := rfl
@[go_sem] theorem ext_lt_succ (w : World) (p : Regrown) (b : Nat) (h : b < w.heap.size) : (b < (ext w p).heap.size + 1) = True := by
  have := (below_ext w p).size
  simp; omega
@[go_sem] theorem ext_lt_succ2 (w : World) (p : Regrown) (b : Nat) (h : b < w.heap.size) : (b < (ext w p).heap.size + 1 + 1) = True := by
  have := (below_ext w p).size
  simp; omega
@[go_sem] theorem ext_lt_succ3 (w : World) (p : Regrown) (b : Nat) (h : b < w.heap.size) : (b < (ext w p).heap.size + 1 + 1 + 1) = True := by
  have := (below_ext w p).size
  simp; omega
@[go_sem] theorem ext_lt (w : World) (p : Regrown) (b : Nat) (h : b < w.heap.size) : (b < (ext w p).heap.size) = True := by
  have := (below_ext w p).size
  simp; omega
theorem ext_heap (w : World) (p : Regrown) (b : Nat) (h : b < w.heap.size) : (ext w p).heap[b]? = w.heap[b]? := (below_ext w p).block b h
theorem ext_size (w : World) (p : Regrown) : w.heap.size ≤ (ext w p).heap.size := (below_ext w p).size
/-! sizes -/
@[go_sem, simp] theorem sz_le_0_0_0 (w : World) (p : Regrown) : (w.heap.size ≤ (ext w p).heap.size) = True := eq_true (by have h := ext_size w p; (try simp only [World.size_alloc] at h); omega)
@[go_sem, simp] theorem sz_le_0_0_1 (w : World) (p : Regrown) : (w.heap.size ≤ (ext w p).heap.size + 1) = True := eq_true (by have h := ext_size w p; (try simp only [World.size_alloc] at h); omega)
@[go_sem, simp] theorem sz_le_0_0_2 (w : World) (p : Regrown) : (w.heap.size ≤ (ext w p).heap.size + 1 + 1) = True := eq_true (by have h := ext_size w p; (try simp only [World.size_alloc] at h); omega)
@[go_sem, simp] theorem sz_le_1_0_0 (w : World) (a0 : Obj) (p : Regrown) : (w.heap.size ≤ (ext (w.alloc a0) p).heap.size) = True := eq_true (by have h := ext_size (w.alloc a0) p; (try simp only [World.size_alloc] at h); omega)
@[go_sem, simp] theorem sz_lt_1_0_0 (w : World) (a0 : Obj) (p : Regrown) : (w.heap.size < (ext (w.alloc a0) p).heap.size) = True := eq_true (by have h := ext_size (w.alloc a0) p; (try simp only [World.size_alloc] at h); omega)
@[go_sem, simp] theorem sz_le_1_1_0 (w : World) (a0 : Obj) (p : Regrown) : (w.heap.size + 1 ≤ (ext (w.alloc a0) p).heap.size) = True := eq_true (by have h := ext_size (w.alloc a0) p; (try simp only [World.size_alloc] at h); omega)
@[go_sem, simp] theorem sz_le_1_0_1 (w : World) (a0 : Obj) (p : Regrown) : (w.heap.size ≤ (ext (w.alloc a0) p).heap.size + 1) = True := eq_true (by have h := ext_size (w.alloc a0) p; (try simp only [World.size_alloc] at h); omega)
@[go_sem, simp] theorem sz_lt_1_0_1 (w : World) (a0 : Obj) (p : Regrown) : (w.heap.size < (ext (w.alloc a0) p).heap.size + 1) = True := eq_true (by have h := ext_size (w.alloc a0) p; (try simp only [World.size_alloc] at h); omega)
@[go_sem, simp] theorem sz_le_1_1_1 (w : World) (a0 : Obj) (p : Regrown) : (w.heap.size + 1 ≤ (ext (w.alloc a0) p).heap.size + 1) = True := eq_true (by have h := ext_size (w.alloc a0) p; (try simp only [World.size_alloc] at h); omega)
@[go_sem, simp] theorem sz_le_1_0_2 (w : World) (a0 : Obj) (p : Regrown) : (w.heap.size ≤ (ext (w.alloc a0) p).heap.size + 1 + 1) = True := eq_true (by have h := ext_size (w.alloc a0) p; (try simp only [World.size_alloc] at h); omega)
@[go_sem, simp] theorem sz_lt_1_0_2 (w : World) (a0 : Obj) (p : Regrown) : (w.heap.size < (ext (w.alloc a0) p).heap.size + 1 + 1) = True := eq_true (by have h := ext_size (w.alloc a0) p; (try simp only [World.size_alloc] at h); omega)
@[go_sem, simp] theorem sz_le_1_1_2 (w : World) (a0 : Obj) (p : Regrown) : (w.heap.size + 1 ≤ (ext (w.alloc a0) p).heap.size + 1 + 1) = True := eq_true (by have h := ext_size (w.alloc a0) p; (try simp only [World.size_alloc] at h); omega)
@[go_sem, simp] theorem sz_le_2_0_0 (w : World) (a0 a1 : Obj) (p : Regrown) : (w.heap.size ≤ (ext ((w.alloc a0).alloc a1) p).heap.size) = True := eq_true (by have h := ext_size ((w.alloc a0).alloc a1) p; (try simp only [World.size_alloc] at h); omega)
@[go_sem, simp] theorem sz_lt_2_0_0 (w : World) (a0 a1 : Obj) (p : Regrown) : (w.heap.size < (ext ((w.alloc a0).alloc a1) p).heap.size) = True := eq_true (by have h := ext_size ((w.alloc a0).alloc a1) p; (try simp only [World.size_alloc] at h); omega)
@[go_sem, simp] theorem sz_le_2_1_0 (w : World) (a0 a1 : Obj) (p : Regrown) : (w.heap.size + 1 ≤ (ext ((w.alloc a0).alloc a1) p).heap.size) = True := eq_true (by have h := ext_size ((w.alloc a0).alloc a1) p; (try simp only [World.size_alloc] at h); omega)
@[go_sem, simp] theorem sz_lt_2_1_0 (w : World) (a0 a1 : Obj) (p : Regrown) : (w.heap.size + 1 < (ext ((w.alloc a0).alloc a1) p).heap.size) = True := eq_true (by have h := ext_size ((w.alloc a0).alloc a1) p; (try simp only [World.size_alloc] at h); omega)
@[go_sem, simp] theorem sz_le_2_2_0 (w : World) (a0 a1 : Obj) (p : Regrown) : (w.heap.size + 1 + 1 ≤ (ext ((w.alloc a0).alloc a1) p).heap.size) = True := eq_true (by have h := ext_size ((w.alloc a0).alloc a1) p; (try simp only [World.size_alloc] at h); omega)
@[go_sem, simp] theorem sz_le_2_0_1 (w : World) (a0 a1 : Obj) (p : Regrown) : (w.heap.size ≤ (ext ((w.alloc a0).alloc a1) p).heap.size + 1) = True := eq_true (by have h := ext_size ((w.alloc a0).alloc a1) p; (try simp only [World.size_alloc] at h); omega)
@[go_sem, simp] theorem sz_lt_2_0_1 (w : World) (a0 a1 : Obj) (p : Regrown) : (w.heap.size < (ext ((w.alloc a0).alloc a1) p).heap.size + 1) = True := eq_true (by have h := ext_size ((w.alloc a0).alloc a1) p; (try simp only [World.size_alloc] at h); omega)
@[go_sem, simp] theorem sz_le_2_1_1 (w : World) (a0 a1 : Obj) (p : Regrown) : (w.heap.size + 1 ≤ (ext ((w.alloc a0).alloc a1) p).heap.size + 1) = True := eq_true (by have h := ext_size ((w.alloc a0).alloc a1) p; (try simp only [World.size_alloc] at h); omega)
@[go_sem, simp] theorem sz_lt_2_1_1 (w : World) (a0 a1 : Obj) (p : Regrown) : (w.heap.size + 1 < (ext ((w.alloc a0).alloc a1) p).heap.size + 1) = True := eq_true (by have h := ext_size ((w.alloc a0).alloc a1) p; (try simp only [World.size_alloc] at h); omega)
@[go_sem, simp] theorem sz_le_2_2_1 (w : World) (a0 a1 : Obj) (p : Regrown) : (w.heap.size + 1 + 1 ≤ (ext ((w.alloc a0).alloc a1) p).heap.size + 1) = True := eq_true (by have h := ext_size ((w.alloc a0).alloc a1) p; (try simp only [World.size_alloc] at h); omega)
@[go_sem, simp] theorem sz_le_2_0_2 (w : World) (a0 a1 : Obj) (p : Regrown) : (w.heap.size ≤ (ext ((w.alloc a0).alloc a1) p).heap.size + 1 + 1) = True := eq_true (by have h := ext_size ((w.alloc a0).alloc a1) p; (try simp only [World.size_alloc] at h); omega)
@[go_sem, simp] theorem sz_lt_2_0_2 (w : World) (a0 a1 : Obj) (p : Regrown) : (w.heap.size < (ext ((w.alloc a0).alloc a1) p).heap.size + 1 + 1) = True := eq_true (by have h := ext_size ((w.alloc a0).alloc a1) p; (try simp only [World.size_alloc] at h); omega)
@[go_sem, simp] theorem sz_le_2_1_2 (w : World) (a0 a1 : Obj) (p : Regrown) : (w.heap.size + 1 ≤ (ext ((w.alloc a0).alloc a1) p).heap.size + 1 + 1) = True := eq_true (by have h := ext_size ((w.alloc a0).alloc a1) p; (try simp only [World.size_alloc] at h); omega)
@[go_sem, simp] theorem sz_lt_2_1_2 (w : World) (a0 a1 : Obj) (p : Regrown) : (w.heap.size + 1 < (ext ((w.alloc a0).alloc a1) p).heap.size + 1 + 1) = True := eq_true (by have h := ext_size ((w.alloc a0).alloc a1) p; (try simp only [World.size_alloc] at h); omega)
@[go_sem, simp] theorem sz_le_2_2_2 (w : World) (a0 a1 : Obj) (p : Regrown) : (w.heap.size + 1 + 1 ≤ (ext ((w.alloc a0).alloc a1) p).heap.size + 1 + 1) = True := eq_true (by have h := ext_size ((w.alloc a0).alloc a1) p; (try simp only [World.size_alloc] at h); omega)
@[go_sem, simp] theorem sz_le_3_0_0 (w : World) (a0 a1 a2 : Obj) (p : Regrown) : (w.heap.size ≤ (ext (((w.alloc a0).alloc a1).alloc a2) p).heap.size) = True := eq_true (by have h := ext_size (((w.alloc a0).alloc a1).alloc a2) p; (try simp only [World.size_alloc] at h); omega)
@[go_sem, simp] theorem sz_lt_3_0_0 (w : World) (a0 a1 a2 : Obj) (p : Regrown) : (w.heap.size < (ext (((w.alloc a0).alloc a1).alloc a2) p).heap.size) = True := eq_true (by have h := ext_size (((w.alloc a0).alloc a1).alloc a2) p; (try simp only [World.size_alloc] at h); omega)
@[go_sem, simp] theorem sz_le_3_1_0 (w : World) (a0 a1 a2 : Obj) (p : Regrown) : (w.heap.size + 1 ≤ (ext (((w.alloc a0).alloc a1).alloc a2) p).heap.size) = True := eq_true (by have h := ext_size (((w.alloc a0).alloc a1).alloc a2) p; (try simp only [World.size_alloc] at h); omega)
@[go_sem, simp] theorem sz_lt_3_1_0 (w : World) (a0 a1 a2 : Obj) (p : Regrown) : (w.heap.size + 1 < (ext (((w.alloc a0).alloc a1).alloc a2) p).heap.size) = True := eq_true (by have h := ext_size (((w.alloc a0).alloc a1).alloc a2) p; (try simp only [World.size_alloc] at h); omega)
@[go_sem, simp] theorem sz_le_3_2_0 (w : World) (a0 a1 a2 : Obj) (p : Regrown) : (w.heap.size + 1 + 1 ≤ (ext (((w.alloc a0).alloc a1).alloc a2) p).heap.size) = True := eq_true (by have h := ext_size (((w.alloc a0).alloc a1).alloc a2) p; (try simp only [World.size_alloc] at h); omega)
@[go_sem, simp] theorem sz_lt_3_2_0 (w : World) (a0 a1 a2 : Obj) (p : Regrown) : (w.heap.size + 1 + 1 < (ext (((w.alloc a0).alloc a1).alloc a2) p).heap.size) = True := eq_true (by have h := ext_size (((w.alloc a0).alloc a1).alloc a2) p; (try simp only [World.size_alloc] at h); omega)
@[go_sem, simp] theorem sz_le_3_3_0 (w : World) (a0 a1 a2 : Obj) (p : Regrown) : (w.heap.size + 1 + 1 + 1 ≤ (ext (((w.alloc a0).alloc a1).alloc a2) p).heap.size) = True := eq_true (by have h := ext_size (((w.alloc a0).alloc a1).alloc a2) p; (try simp only [World.size_alloc] at h); omega)
@[go_sem, simp] theorem sz_le_3_0_1 (w : World) (a0 a1 a2 : Obj) (p : Regrown) : (w.heap.size ≤ (ext (((w.alloc a0).alloc a1).alloc a2) p).heap.size + 1) = True := eq_true (by have h := ext_size (((w.alloc a0).alloc a1).alloc a2) p; (try simp only [World.size_alloc] at h); omega)
@[go_sem, simp] theorem sz_lt_3_0_1 (w : World) (a0 a1 a2 : Obj) (p : Regrown) : (w.heap.size < (ext (((w.alloc a0).alloc a1).alloc a2) p).heap.size + 1) = True := eq_true (by have h := ext_size (((w.alloc a0).alloc a1).alloc a2) p; (try simp only [World.size_alloc] at h); omega)
@[go_sem, simp] theorem sz_le_3_1_1 (w : World) (a0 a1 a2 : Obj) (p : Regrown) : (w.heap.size + 1 ≤ (ext (((w.alloc a0).alloc a1).alloc a2) p).heap.size + 1) = True := eq_true (by have h := ext_size (((w.alloc a0).alloc a1).alloc a2) p; (try simp only [World.size_alloc] at h); omega)
@[go_sem, simp] theorem sz_lt_3_1_1 (w : World) (a0 a1 a2 : Obj) (p : Regrown) : (w.heap.size + 1 < (ext (((w.alloc a0).alloc a1).alloc a2) p).heap.size + 1) = True := eq_true (by have h := ext_size (((w.alloc a0).alloc a1).alloc a2) p; (try simp only [World.size_alloc] at h); omega)
@[go_sem, simp] theorem sz_le_3_2_1 (w : World) (a0 a1 a2 : Obj) (p : Regrown) : (w.heap.size + 1 + 1 ≤ (ext (((w.alloc a0).alloc a1).alloc a2) p).heap.size + 1) = True := eq_true (by have h := ext_size (((w.alloc a0).alloc a1).alloc a2) p; (try simp only [World.size_alloc] at h); omega)
@[go_sem, simp] theorem sz_lt_3_2_1 (w : World) (a0 a1 a2 : Obj) (p : Regrown) : (w.heap.size + 1 + 1 < (ext (((w.alloc a0).alloc a1).alloc a2) p).heap.size + 1) = True := eq_true (by have h := ext_size (((w.alloc a0).alloc a1).alloc a2) p; (try simp only [World.size_alloc] at h); omega)
@[go_sem, simp] theorem sz_le_3_3_1 (w : World) (a0 a1 a2 : Obj) (p : Regrown) : (w.heap.size + 1 + 1 + 1 ≤ (ext (((w.alloc a0).alloc a1).alloc a2) p).heap.size + 1) = True := eq_true (by have h := ext_size (((w.alloc a0).alloc a1).alloc a2) p; (try simp only [World.size_alloc] at h); omega)
@[go_sem, simp] theorem sz_le_3_0_2 (w : World) (a0 a1 a2 : Obj) (p : Regrown) : (w.heap.size ≤ (ext (((w.alloc a0).alloc a1).alloc a2) p).heap.size + 1 + 1) = True := eq_true (by have h := ext_size (((w.alloc a0).alloc a1).alloc a2) p; (try simp only [World.size_alloc] at h); omega)
@[go_sem, simp] theorem sz_lt_3_0_2 (w : World) (a0 a1 a2 : Obj) (p : Regrown) : (w.heap.size < (ext (((w.alloc a0).alloc a1).alloc a2) p).heap.size + 1 + 1) = True := eq_true (by have h := ext_size (((w.alloc a0).alloc a1).alloc a2) p; (try simp only [World.size_alloc] at h); omega)
@[go_sem, simp] theorem sz_le_3_1_2 (w : World) (a0 a1 a2 : Obj) (p : Regrown) : (w.heap.size + 1 ≤ (ext (((w.alloc a0).alloc a1).alloc a2) p).heap.size + 1 + 1) = True := eq_true (by have h := ext_size (((w.alloc a0).alloc a1).alloc a2) p; (try simp only [World.size_alloc] at h); omega)
@[go_sem, simp] theorem sz_lt_3_1_2 (w : World) (a0 a1 a2 : Obj) (p : Regrown) : (w.heap.size + 1 < (ext (((w.alloc a0).alloc a1).alloc a2) p).heap.size + 1 + 1) = True := eq_true (by have h := ext_size (((w.alloc a0).alloc a1).alloc a2) p; (try simp only [World.size_alloc] at h); omega)
@[go_sem, simp] theorem sz_le_3_2_2 (w : World) (a0 a1 a2 : Obj) (p : Regrown) : (w.heap.size + 1 + 1 ≤ (ext (((w.alloc a0).alloc a1).alloc a2) p).heap.size + 1 + 1) = True := eq_true (by have h := ext_size (((w.alloc a0).alloc a1).alloc a2) p; (try simp only [World.size_alloc] at h); omega)
@[go_sem, simp] theorem sz_lt_3_2_2 (w : World) (a0 a1 a2 : Obj) (p : Regrown) : (w.heap.size + 1 + 1 < (ext (((w.alloc a0).alloc a1).alloc a2) p).heap.size + 1 + 1) = True := eq_true (by have h := ext_size (((w.alloc a0).alloc a1).alloc a2) p; (try simp only [World.size_alloc] at h); omega)
@[go_sem, simp] theorem sz_le_3_3_2 (w : World) (a0 a1 a2 : Obj) (p : Regrown) : (w.heap.size + 1 + 1 + 1 ≤ (ext (((w.alloc a0).alloc a1).alloc a2) p).heap.size + 1 + 1) = True := eq_true (by have h := ext_size (((w.alloc a0).alloc a1).alloc a2) p; (try simp only [World.size_alloc] at h); omega)
@[go_sem, simp] theorem sz_le_4_0_0 (w : World) (a0 a1 a2 a3 : Obj) (p : Regrown) : (w.heap.size ≤ (ext ((((w.alloc a0).alloc a1).alloc a2).alloc a3) p).heap.size) = True := eq_true (by have h := ext_size ((((w.alloc a0).alloc a1).alloc a2).alloc a3) p; (try simp only [World.size_alloc] at h); omega)
@[go_sem, simp] theorem sz_lt_4_0_0 (w : World) (a0 a1 a2 a3 : Obj) (p : Regrown) : (w.heap.size < (ext ((((w.alloc a0).alloc a1).alloc a2).alloc a3) p).heap.size) = True := eq_true (by have h := ext_size ((((w.alloc a0).alloc a1).alloc a2).alloc a3) p; (try simp only [World.size_alloc] at h); omega)
@[go_sem, simp] theorem sz_le_4_1_0 (w : World) (a0 a1 a2 a3 : Obj) (p : Regrown) : (w.heap.size + 1 ≤ (ext ((((w.alloc a0).alloc a1).alloc a2).alloc a3) p).heap.size) = True := eq_true (by have h := ext_size ((((w.alloc a0).alloc a1).alloc a2).alloc a3) p; (try simp only [World.size_alloc] at h); omega)
@[go_sem, simp] theorem sz_lt_4_1_0 (w : World) (a0 a1 a2 a3 : Obj) (p : Regrown) : (w.heap.size + 1 < (ext ((((w.alloc a0).alloc a1).alloc a2).alloc a3) p).heap.size) = True := eq_true (by have h := ext_size ((((w.alloc a0).alloc a1).alloc a2).alloc a3) p; (try simp only [World.size_alloc] at h); omega)
@[go_sem, simp] theorem sz_le_4_2_0 (w : World) (a0 a1 a2 a3 : Obj) (p : Regrown) : (w.heap.size + 1 + 1 ≤ (ext ((((w.alloc a0).alloc a1).alloc a2).alloc a3) p).heap.size) = True := eq_true (by have h := ext_size ((((w.alloc a0).alloc a1).alloc a2).alloc a3) p; (try simp only [World.size_alloc] at h); omega)
@[go_sem, simp] theorem sz_lt_4_2_0 (w : World) (a0 a1 a2 a3 : Obj) (p : Regrown) : (w.heap.size + 1 + 1 < (ext ((((w.alloc a0).alloc a1).alloc a2).alloc a3) p).heap.size) = True := eq_true (by have h := ext_size ((((w.alloc a0).alloc a1).alloc a2).alloc a3) p; (try simp only [World.size_alloc] at h); omega)
@[go_sem, simp] theorem sz_le_4_3_0 (w : World) (a0 a1 a2 a3 : Obj) (p : Regrown) : (w.heap.size + 1 + 1 + 1 ≤ (ext ((((w.alloc a0).alloc a1).alloc a2).alloc a3) p).heap.size) = True := eq_true (by have h := ext_size ((((w.alloc a0).alloc a1).alloc a2).alloc a3) p; (try simp only [World.size_alloc] at h); omega)
@[go_sem, simp] theorem sz_lt_4_3_0 (w : World) (a0 a1 a2 a3 : Obj) (p : Regrown) : (w.heap.size + 1 + 1 + 1 < (ext ((((w.alloc a0).alloc a1).alloc a2).alloc a3) p).heap.size) = True := eq_true (by have h := ext_size ((((w.alloc a0).alloc a1).alloc a2).alloc a3) p; (try simp only [World.size_alloc] at h); omega)
@[go_sem, simp] theorem sz_le_4_4_0 (w : World) (a0 a1 a2 a3 : Obj) (p : Regrown) : (w.heap.size + 1 + 1 + 1 + 1 ≤ (ext ((((w.alloc a0).alloc a1).alloc a2).alloc a3) p).heap.size) = True := eq_true (by have h := ext_size ((((w.alloc a0).alloc a1).alloc a2).alloc a3) p; (try simp only [World.size_alloc] at h); omega)
@[go_sem, simp] theorem sz_le_4_0_1 (w : World) (a0 a1 a2 a3 : Obj) (p : Regrown) : (w.heap.size ≤ (ext ((((w.alloc a0).alloc a1).alloc a2).alloc a3) p).heap.size + 1) = True := eq_true (by have h := ext_size ((((w.alloc a0).alloc a1).alloc a2).alloc a3) p; (try simp only [World.size_alloc] at h); omega)
@[go_sem, simp] theorem sz_lt_4_0_1 (w : World) (a0 a1 a2 a3 : Obj) (p : Regrown) : (w.heap.size < (ext ((((w.alloc a0).alloc a1).alloc a2).alloc a3) p).heap.size + 1) = True := eq_true (by have h := ext_size ((((w.alloc a0).alloc a1).alloc a2).alloc a3) p; (try simp only [World.size_alloc] at h); omega)
@[go_sem, simp] theorem sz_le_4_1_1 (w : World) (a0 a1 a2 a3 : Obj) (p : Regrown) : (w.heap.size + 1 ≤ (ext ((((w.alloc a0).alloc a1).alloc a2).alloc a3) p).heap.size + 1) = True := eq_true (by have h := ext_size ((((w.alloc a0).alloc a1).alloc a2).alloc a3) p; (try simp only [World.size_alloc] at h); omega)
@[go_sem, simp] theorem sz_lt_4_1_1 (w : World) (a0 a1 a2 a3 : Obj) (p : Regrown) : (w.heap.size + 1 < (ext ((((w.alloc a0).alloc a1).alloc a2).alloc a3) p).heap.size + 1) = True := eq_true (by have h := ext_size ((((w.alloc a0).alloc a1).alloc a2).alloc a3) p; (try simp only [World.size_alloc] at h); omega)
@[go_sem, simp] theorem sz_le_4_2_1 (w : World) (a0 a1 a2 a3 : Obj) (p : Regrown) : (w.heap.size + 1 + 1 ≤ (ext ((((w.alloc a0).alloc a1).alloc a2).alloc a3) p).heap.size + 1) = True := eq_true (by have h := ext_size ((((w.alloc a0).alloc a1).alloc a2).alloc a3) p; (try simp only [World.size_alloc] at h); omega)
@[go_sem, simp] theorem sz_lt_4_2_1 (w : World) (a0 a1 a2 a3 : Obj) (p : Regrown) : (w.heap.size + 1 + 1 < (ext ((((w.alloc a0).alloc a1).alloc a2).alloc a3) p).heap.size + 1) = True := eq_true (by have h := ext_size ((((w.alloc a0).alloc a1).alloc a2).alloc a3) p; (try simp only [World.size_alloc] at h); omega)
@[go_sem, simp] theorem sz_le_4_3_1 (w : World) (a0 a1 a2 a3 : Obj) (p : Regrown) : (w.heap.size + 1 + 1 + 1 ≤ (ext ((((w.alloc a0).alloc a1).alloc a2).alloc a3) p).heap.size + 1) = True := eq_true (by have h := ext_size ((((w.alloc a0).alloc a1).alloc a2).alloc a3) p; (try simp only [World.size_alloc] at h); omega)
@[go_sem, simp] theorem sz_lt_4_3_1 (w : World) (a0 a1 a2 a3 : Obj) (p : Regrown) : (w.heap.size + 1 + 1 + 1 < (ext ((((w.alloc a0).alloc a1).alloc a2).alloc a3) p).heap.size + 1) = True := eq_true (by have h := ext_size ((((w.alloc a0).alloc a1).alloc a2).alloc a3) p; (try simp only [World.size_alloc] at h); omega)
@[go_sem, simp] theorem sz_le_4_4_1 (w : World) (a0 a1 a2 a3 : Obj) (p : Regrown) : (w.heap.size + 1 + 1 + 1 + 1 ≤ (ext ((((w.alloc a0).alloc a1).alloc a2).alloc a3) p).heap.size + 1) = True := eq_true (by have h := ext_size ((((w.alloc a0).alloc a1).alloc a2).alloc a3) p; (try simp only [World.size_alloc] at h); omega)
@[go_sem, simp] theorem sz_le_4_0_2 (w : World) (a0 a1 a2 a3 : Obj) (p : Regrown) : (w.heap.size ≤ (ext ((((w.alloc a0).alloc a1).alloc a2).alloc a3) p).heap.size + 1 + 1) = True := eq_true (by have h := ext_size ((((w.alloc a0).alloc a1).alloc a2).alloc a3) p; (try simp only [World.size_alloc] at h); omega)
@[go_sem, simp] theorem sz_lt_4_0_2 (w : World) (a0 a1 a2 a3 : Obj) (p : Regrown) : (w.heap.size < (ext ((((w.alloc a0).alloc a1).alloc a2).alloc a3) p).heap.size + 1 + 1) = True := eq_true (by have h := ext_size ((((w.alloc a0).alloc a1).alloc a2).alloc a3) p; (try simp only [World.size_alloc] at h); omega)
@[go_sem, simp] theorem sz_le_4_1_2 (w : World) (a0 a1 a2 a3 : Obj) (p : Regrown) : (w.heap.size + 1 ≤ (ext ((((w.alloc a0).alloc a1).alloc a2).alloc a3) p).heap.size + 1 + 1) = True := eq_true (by have h := ext_size ((((w.alloc a0).alloc a1).alloc a2).alloc a3) p; (try simp only [World.size_alloc] at h); omega)
@[go_sem, simp] theorem sz_lt_4_1_2 (w : World) (a0 a1 a2 a3 : Obj) (p : Regrown) : (w.heap.size + 1 < (ext ((((w.alloc a0).alloc a1).alloc a2).alloc a3) p).heap.size + 1 + 1) = True := eq_true (by have h := ext_size ((((w.alloc a0).alloc a1).alloc a2).alloc a3) p; (try simp only [World.size_alloc] at h); omega)
@[go_sem, simp] theorem sz_le_4_2_2 (w : World) (a0 a1 a2 a3 : Obj) (p : Regrown) : (w.heap.size + 1 + 1 ≤ (ext ((((w.alloc a0).alloc a1).alloc a2).alloc a3) p).heap.size + 1 + 1) = True := eq_true (by have h := ext_size ((((w.alloc a0).alloc a1).alloc a2).alloc a3) p; (try simp only [World.size_alloc] at h); omega)
@[go_sem, simp] theorem sz_lt_4_2_2 (w : World) (a0 a1 a2 a3 : Obj) (p : Regrown) : (w.heap.size + 1 + 1 < (ext ((((w.alloc a0).alloc a1).alloc a2).alloc a3) p).heap.size + 1 + 1) = True := eq_true (by have h := ext_size ((((w.alloc a0).alloc a1).alloc a2).alloc a3) p; (try simp only [World.size_alloc] at h); omega)
@[go_sem, simp] theorem sz_le_4_3_2 (w : World) (a0 a1 a2 a3 : Obj) (p : Regrown) : (w.heap.size + 1 + 1 + 1 ≤ (ext ((((w.alloc a0).alloc a1).alloc a2).alloc a3) p).heap.size + 1 + 1) = True := eq_true (by have h := ext_size ((((w.alloc a0).alloc a1).alloc a2).alloc a3) p; (try simp only [World.size_alloc] at h); omega)
@[go_sem, simp] theorem sz_lt_4_3_2 (w : World) (a0 a1 a2 a3 : Obj) (p : Regrown) : (w.heap.size + 1 + 1 + 1 < (ext ((((w.alloc a0).alloc a1).alloc a2).alloc a3) p).heap.size + 1 + 1) = True := eq_true (by have h := ext_size ((((w.alloc a0).alloc a1).alloc a2).alloc a3) p; (try simp only [World.size_alloc] at h); omega)
@[go_sem, simp] theorem sz_le_4_4_2 (w : World) (a0 a1 a2 a3 : Obj) (p : Regrown) : (w.heap.size + 1 + 1 + 1 + 1 ≤ (ext ((((w.alloc a0).alloc a1).alloc a2).alloc a3) p).heap.size + 1 + 1) = True := eq_true (by have h := ext_size ((((w.alloc a0).alloc a1).alloc a2).alloc a3) p; (try simp only [World.size_alloc] at h); omega)
@[go_sem, simp] theorem sz_le_5_0_0 (w : World) (a0 a1 a2 a3 a4 : Obj) (p : Regrown) : (w.heap.size ≤ (ext (((((w.alloc a0).alloc a1).alloc a2).alloc a3).alloc a4) p).heap.size) = True := eq_true (by have h := ext_size (((((w.alloc a0).alloc a1).alloc a2).alloc a3).alloc a4) p; (try simp only [World.size_alloc] at h); omega)
@[go_sem, simp] theorem sz_lt_5_0_0 (w : World) (a0 a1 a2 a3 a4 : Obj) (p : Regrown) : (w.heap.size < (ext (((((w.alloc a0).alloc a1).alloc a2).alloc a3).alloc a4) p).heap.size) = True := eq_true (by have h := ext_size (((((w.alloc a0).alloc a1).alloc a2).alloc a3).alloc a4) p; (try simp only [World.size_alloc] at h); omega)
@[go_sem, simp] theorem sz_le_5_1_0 (w : World) (a0 a1 a2 a3 a4 : Obj) (p : Regrown) : (w.heap.size + 1 ≤ (ext (((((w.alloc a0).alloc a1).alloc a2).alloc a3).alloc a4) p).heap.size) = True := eq_true (by have h := ext_size (((((w.alloc a0).alloc a1).alloc a2).alloc a3).alloc a4) p; (try simp only [World.size_alloc] at h); omega)
@[go_sem, simp] theorem sz_lt_5_1_0 (w : World) (a0 a1 a2 a3 a4 : Obj) (p : Regrown) : (w.heap.size + 1 < (ext (((((w.alloc a0).alloc a1).alloc a2).alloc a3).alloc a4) p).heap.size) = True := eq_true (by have h := ext_size (((((w.alloc a0).alloc a1).alloc a2).alloc a3).alloc a4) p; (try simp only [World.size_alloc] at h); omega)
@[go_sem, simp] theorem sz_le_5_2_0 (w : World) (a0 a1 a2 a3 a4 : Obj) (p : Regrown) : (w.heap.size + 1 + 1 ≤ (ext (((((w.alloc a0).alloc a1).alloc a2).alloc a3).alloc a4) p).heap.size) = True := eq_true (by have h := ext_size (((((w.alloc a0).alloc a1).alloc a2).alloc a3).alloc a4) p; (try simp only [World.size_alloc] at h); omega)
@[go_sem, simp] theorem sz_lt_5_2_0 (w : World) (a0 a1 a2 a3 a4 : Obj) (p : Regrown) : (w.heap.size + 1 + 1 < (ext (((((w.alloc a0).alloc a1).alloc a2).alloc a3).alloc a4) p).heap.size) = True := eq_true (by have h := ext_size (((((w.alloc a0).alloc a1).alloc a2).alloc a3).alloc a4) p; (try simp only [World.size_alloc] at h); omega)
@[go_sem, simp] theorem sz_le_5_3_0 (w : World) (a0 a1 a2 a3 a4 : Obj) (p : Regrown) : (w.heap.size + 1 + 1 + 1 ≤ (ext (((((w.alloc a0).alloc a1).alloc a2).alloc a3).alloc a4) p).heap.size) = True := eq_true (by have h := ext_size (((((w.alloc a0).alloc a1).alloc a2).alloc a3).alloc a4) p; (try simp only [World.size_alloc] at h); omega)
@[go_sem, simp] theorem sz_lt_5_3_0 (w : World) (a0 a1 a2 a3 a4 : Obj) (p : Regrown) : (w.heap.size + 1 + 1 + 1 < (ext (((((w.alloc a0).alloc a1).alloc a2).alloc a3).alloc a4) p).heap.size) = True := eq_true (by have h := ext_size (((((w.alloc a0).alloc a1).alloc a2).alloc a3).alloc a4) p; (try simp only [World.size_alloc] at h); omega)
@[go_sem, simp] theorem sz_le_5_4_0 (w : World) (a0 a1 a2 a3 a4 : Obj) (p : Regrown) : (w.heap.size + 1 + 1 + 1 + 1 ≤ (ext (((((w.alloc a0).alloc a1).alloc a2).alloc a3).alloc a4) p).heap.size) = True := eq_true (by have h := ext_size (((((w.alloc a0).alloc a1).alloc a2).alloc a3).alloc a4) p; (try simp only [World.size_alloc] at h); omega)
@[go_sem, simp] theorem sz_lt_5_4_0 (w : World) (a0 a1 a2 a3 a4 : Obj) (p : Regrown) : (w.heap.size + 1 + 1 + 1 + 1 < (ext (((((w.alloc a0).alloc a1).alloc a2).alloc a3).alloc a4) p).heap.size) = True := eq_true (by have h := ext_size (((((w.alloc a0).alloc a1).alloc a2).alloc a3).alloc a4) p; (try simp only [World.size_alloc] at h); omega)
@[go_sem, simp] theorem sz_le_5_5_0 (w : World) (a0 a1 a2 a3 a4 : Obj) (p : Regrown) : (w.heap.size + 1 + 1 + 1 + 1 + 1 ≤ (ext (((((w.alloc a0).alloc a1).alloc a2).alloc a3).alloc a4) p).heap.size) = True := eq_true (by have h := ext_size (((((w.alloc a0).alloc a1).alloc a2).alloc a3).alloc a4) p; (try simp only [World.size_alloc] at h); omega)
@[go_sem, simp] theorem sz_le_5_0_1 (w : World) (a0 a1 a2 a3 a4 : Obj) (p : Regrown) : (w.heap.size ≤ (ext (((((w.alloc a0).alloc a1).alloc a2).alloc a3).alloc a4) p).heap.size + 1) = True := eq_true (by have h := ext_size (((((w.alloc a0).alloc a1).alloc a2).alloc a3).alloc a4) p; (try simp only [World.size_alloc] at h); omega)
@[go_sem, simp] theorem sz_lt_5_0_1 (w : World) (a0 a1 a2 a3 a4 : Obj) (p : Regrown) : (w.heap.size < (ext (((((w.alloc a0).alloc a1).alloc a2).alloc a3).alloc a4) p).heap.size + 1) = True := eq_true (by have h := ext_size (((((w.alloc a0).alloc a1).alloc a2).alloc a3).alloc a4) p; (try simp only [World.size_alloc] at h); omega)
@[go_sem, simp] theorem sz_le_5_1_1 (w : World) (a0 a1 a2 a3 a4 : Obj) (p : Regrown) : (w.heap.size + 1 ≤ (ext (((((w.alloc a0).alloc a1).alloc a2).alloc a3).alloc a4) p).heap.size + 1) = True := eq_true (by have h := ext_size (((((w.alloc a0).alloc a1).alloc a2).alloc a3).alloc a4) p; (try simp only [World.size_alloc] at h); omega)
@[go_sem, simp] theorem sz_lt_5_1_1 (w : World) (a0 a1 a2 a3 a4 : Obj) (p : Regrown) : (w.heap.size + 1 < (ext (((((w.alloc a0).alloc a1).alloc a2).alloc a3).alloc a4) p).heap.size + 1) = True := eq_true (by have h := ext_size (((((w.alloc a0).alloc a1).alloc a2).alloc a3).alloc a4) p; (try simp only [World.size_alloc] at h); omega)
@[go_sem, simp] theorem sz_le_5_2_1 (w : World) (a0 a1 a2 a3 a4 : Obj) (p : Regrown) : (w.heap.size + 1 + 1 ≤ (ext (((((w.alloc a0).alloc a1).alloc a2).alloc a3).alloc a4) p).heap.size + 1) = True := eq_true (by have h := ext_size (((((w.alloc a0).alloc a1).alloc a2).alloc a3).alloc a4) p; (try simp only [World.size_alloc] at h); omega)
@[go_sem, simp] theorem sz_lt_5_2_1 (w : World) (a0 a1 a2 a3 a4 : Obj) (p : Regrown) : (w.heap.size + 1 + 1 < (ext (((((w.alloc a0).alloc a1).alloc a2).alloc a3).alloc a4) p).heap.size + 1) = True := eq_true (by have h := ext_size (((((w.alloc a0).alloc a1).alloc a2).alloc a3).alloc a4) p; (try simp only [World.size_alloc] at h); omega)
@[go_sem, simp] theorem sz_le_5_3_1 (w : World) (a0 a1 a2 a3 a4 : Obj) (p : Regrown) : (w.heap.size + 1 + 1 + 1 ≤ (ext (((((w.alloc a0).alloc a1).alloc a2).alloc a3).alloc a4) p).heap.size + 1) = True := eq_true (by have h := ext_size (((((w.alloc a0).alloc a1).alloc a2).alloc a3).alloc a4) p; (try simp only [World.size_alloc] at h); omega)
@[go_sem, simp] theorem sz_lt_5_3_1 (w : World) (a0 a1 a2 a3 a4 : Obj) (p : Regrown) : (w.heap.size + 1 + 1 + 1 < (ext (((((w.alloc a0).alloc a1).alloc a2).alloc a3).alloc a4) p).heap.size + 1) = True := eq_true (by have h := ext_size (((((w.alloc a0).alloc a1).alloc a2).alloc a3).alloc a4) p; (try simp only [World.size_alloc] at h); omega)
@[go_sem, simp] theorem sz_le_5_4_1 (w : World) (a0 a1 a2 a3 a4 : Obj) (p : Regrown) : (w.heap.size + 1 + 1 + 1 + 1 ≤ (ext (((((w.alloc a0).alloc a1).alloc a2).alloc a3).alloc a4) p).heap.size + 1) = True := eq_true (by have h := ext_size (((((w.alloc a0).alloc a1).alloc a2).alloc a3).alloc a4) p; (try simp only [World.size_alloc] at h); omega)
@[go_sem, simp] theorem sz_lt_5_4_1 (w : World) (a0 a1 a2 a3 a4 : Obj) (p : Regrown) : (w.heap.size + 1 + 1 + 1 + 1 < (ext (((((w.alloc a0).alloc a1).alloc a2).alloc a3).alloc a4) p).heap.size + 1) = True := eq_true (by have h := ext_size (((((w.alloc a0).alloc a1).alloc a2).alloc a3).alloc a4) p; (try simp only [World.size_alloc] at h); omega)
@[go_sem, simp] theorem sz_le_5_5_1 (w : World) (a0 a1 a2 a3 a4 : Obj) (p : Regrown) : (w.heap.size + 1 + 1 + 1 + 1 + 1 ≤ (ext (((((w.alloc a0).alloc a1).alloc a2).alloc a3).alloc a4) p).heap.size + 1) = True := eq_true (by have h := ext_size (((((w.alloc a0).alloc a1).alloc a2).alloc a3).alloc a4) p; (try simp only [World.size_alloc] at h); omega)
@[go_sem, simp] theorem sz_le_5_0_2 (w : World) (a0 a1 a2 a3 a4 : Obj) (p : Regrown) : (w.heap.size ≤ (ext (((((w.alloc a0).alloc a1).alloc a2).alloc a3).alloc a4) p).heap.size + 1 + 1) = True := eq_true (by have h := ext_size (((((w.alloc a0).alloc a1).alloc a2).alloc a3).alloc a4) p; (try simp only [World.size_alloc] at h); omega)
@[go_sem, simp] theorem sz_lt_5_0_2 (w : World) (a0 a1 a2 a3 a4 : Obj) (p : Regrown) : (w.heap.size < (ext (((((w.alloc a0).alloc a1).alloc a2).alloc a3).alloc a4) p).heap.size + 1 + 1) = True := eq_true (by have h := ext_size (((((w.alloc a0).alloc a1).alloc a2).alloc a3).alloc a4) p; (try simp only [World.size_alloc] at h); omega)
@[go_sem, simp] theorem sz_le_5_1_2 (w : World) (a0 a1 a2 a3 a4 : Obj) (p : Regrown) : (w.heap.size + 1 ≤ (ext (((((w.alloc a0).alloc a1).alloc a2).alloc a3).alloc a4) p).heap.size + 1 + 1) = True := eq_true (by have h := ext_size (((((w.alloc a0).alloc a1).alloc a2).alloc a3).alloc a4) p; (try simp only [World.size_alloc] at h); omega)
@[go_sem, simp] theorem sz_lt_5_1_2 (w : World) (a0 a1 a2 a3 a4 : Obj) (p : Regrown) : (w.heap.size + 1 < (ext (((((w.alloc a0).alloc a1).alloc a2).alloc a3).alloc a4) p).heap.size + 1 + 1) = True := eq_true (by have h := ext_size (((((w.alloc a0).alloc a1).alloc a2).alloc a3).alloc a4) p; (try simp only [World.size_alloc] at h); omega)
@[go_sem, simp] theorem sz_le_5_2_2 (w : World) (a0 a1 a2 a3 a4 : Obj) (p : Regrown) : (w.heap.size + 1 + 1 ≤ (ext (((((w.alloc a0).alloc a1).alloc a2).alloc a3).alloc a4) p).heap.size + 1 + 1) = True := eq_true (by have h := ext_size (((((w.alloc a0).alloc a1).alloc a2).alloc a3).alloc a4) p; (try simp only [World.size_alloc] at h); omega)
@[go_sem, simp] theorem sz_lt_5_2_2 (w : World) (a0 a1 a2 a3 a4 : Obj) (p : Regrown) : (w.heap.size + 1 + 1 < (ext (((((w.alloc a0).alloc a1).alloc a2).alloc a3).alloc a4) p).heap.size + 1 + 1) = True := eq_true (by have h := ext_size (((((w.alloc a0).alloc a1).alloc a2).alloc a3).alloc a4) p; (try simp only [World.size_alloc] at h); omega)
@[go_sem, simp] theorem sz_le_5_3_2 (w : World) (a0 a1 a2 a3 a4 : Obj) (p : Regrown) : (w.heap.size + 1 + 1 + 1 ≤ (ext (((((w.alloc a0).alloc a1).alloc a2).alloc a3).alloc a4) p).heap.size + 1 + 1) = True := eq_true (by have h := ext_size (((((w.alloc a0).alloc a1).alloc a2).alloc a3).alloc a4) p; (try simp only [World.size_alloc] at h); omega)
@[go_sem, simp] theorem sz_lt_5_3_2 (w : World) (a0 a1 a2 a3 a4 : Obj) (p : Regrown) : (w.heap.size + 1 + 1 + 1 < (ext (((((w.alloc a0).alloc a1).alloc a2).alloc a3).alloc a4) p).heap.size + 1 + 1) = True := eq_true (by have h := ext_size (((((w.alloc a0).alloc a1).alloc a2).alloc a3).alloc a4) p; (try simp only [World.size_alloc] at h); omega)
@[go_sem, simp] theorem sz_le_5_4_2 (w : World) (a0 a1 a2 a3 a4 : Obj) (p : Regrown) : (w.heap.size + 1 + 1 + 1 + 1 ≤ (ext (((((w.alloc a0).alloc a1).alloc a2).alloc a3).alloc a4) p).heap.size + 1 + 1) = True := eq_true (by have h := ext_size (((((w.alloc a0).alloc a1).alloc a2).alloc a3).alloc a4) p; (try simp only [World.size_alloc] at h); omega)
@[go_sem, simp] theorem sz_lt_5_4_2 (w : World) (a0 a1 a2 a3 a4 : Obj) (p : Regrown) : (w.heap.size + 1 + 1 + 1 + 1 < (ext (((((w.alloc a0).alloc a1).alloc a2).alloc a3).alloc a4) p).heap.size + 1 + 1) = True := eq_true (by have h := ext_size (((((w.alloc a0).alloc a1).alloc a2).alloc a3).alloc a4) p; (try simp only [World.size_alloc] at h); omega)
@[go_sem, simp] theorem sz_le_5_5_2 (w : World) (a0 a1 a2 a3 a4 : Obj) (p : Regrown) : (w.heap.size + 1 + 1 + 1 + 1 + 1 ≤ (ext (((((w.alloc a0).alloc a1).alloc a2).alloc a3).alloc a4) p).heap.size + 1 + 1) = True := eq_true (by have h := ext_size (((((w.alloc a0).alloc a1).alloc a2).alloc a3).alloc a4) p; (try simp only [World.size_alloc] at h); omega)
/-! behind sizes -/
theorem ext_ext (w : World) (p q : Regrown) : ∃ r, ext (ext w p) q = ext w r := ext_of ((below_ext w p).trans ((below_ext (ext w p) q).mono (ext_size w p)))

/-- Of w0 all stands in w. -/
def Kept (w0 w : World) : Prop := Below w0.heap.size w0 w
@[simp] theorem Kept.refl (w : World) : Kept w w := Below.refl _ _
@[simp] theorem Kept.alloc {w0 w : World} (h : Kept w0 w) (o : Obj) : Kept w0 (w.alloc o) := Below.alloc h h.size o
@[simp] theorem Kept.ext {w0 w : World} (h : Kept w0 w) (p : Regrown) : Kept w0 (ext w p) := Below.trans h ((below_ext w p).mono h.size)
@[simp] theorem Kept.drew {w0 w : World} (h : Kept w0 w) : Kept w0 w.drew := Below.drew h
@[simp] theorem Kept.drewN {w0 w : World} (h : Kept w0 w) (n : Nat) : Kept w0 (w.drewN n) := ⟨h.os, h.tape, h.output, h.size, h.block⟩
@[simp] theorem Kept.setCell {w0 w : World} (h : Kept w0 w) (b o : Nat) (s : Option Nat) (hb : w0.heap.size ≤ b) (v : Value) : Kept w0 (w.setCell ⟨b, o, s⟩ v) := Below.setCell h hb v
@[simp] theorem le_add2 (n : Nat) : n ≤ n + 1 + 1 := by omega
@[simp] theorem le_add3 (n : Nat) : n ≤ n + 1 + 1 + 1 := by omega
@[simp] theorem le_add4 (n : Nat) : n ≤ n + 1 + 1 + 1 + 1 := by omega
theorem Kept.trans {w0 w w' : World} (h : Kept w0 w) (h' : Kept w w') : Kept w0 w' := Below.trans h (Below.mono h' h.size)
theorem Kept.size_le {w0 w : World} (h : Kept w0 w) : w0.heap.size ≤ w.heap.size := h.size
@[simp] theorem le_ext_size (w : World) (p : Regrown) (b : Nat) (h : b ≤ w.heap.size) : b ≤ (Pg.ext w p).heap.size := Nat.le_trans h (ext_size w p)

/-- A call hands back v; what was there stands. -/
def Ret (v : Value) (w : World) (e : Ending) (w' : World) : Prop := e = .returned v ∧ ∃ p, w' = ext w p
theorem Ret.mk {v : Value} {w w' : World} (h : Kept w w') : Ret v w (.returned v) w' := ⟨rfl, ext_of h⟩
theorem Ret.of {v v' : Value} {w w' : World} (e : v = v') (h : Kept w w') : Ret v' w (.returned v) w' := ⟨by rw [e], ext_of h⟩

attribute [irreducible] ext
/-- w is W, or a later one. -/
def Later (W w : World) : Prop := ∃ p, w = ext W p
theorem Later.refl (W : World) : Later W W := ext_of (Below.refl _ _)
theorem Later.ext (W : World) (p : Regrown) : Later W (Pg.ext W p) := ⟨p, rfl⟩
theorem Later.kept {W w : World} (h : Later W w) : Kept W w := by obtain ⟨p, rfl⟩ := h; exact below_ext W p
theorem Later.of {W w : World} (h : Kept W w) : Later W w := ext_of h

theorem calls_in {P : Program} {f : FuncId} {args : Array Value} {w : World} {p : Regrown} {v : Value} (h : Calls P f args (ext w p) (Ret v (ext w p))) :
    Calls P f args (ext w p) fun e w'' => e = .returned v ∧ ∃ q, w'' = ext w q :=
  h.mono fun _ _ ⟨he, q, hq⟩ => ⟨he, by obtain ⟨r, hr⟩ := ext_ext w p q; exact ⟨r, by rw [hq, hr]⟩⟩

section
variable {P : Program} (w : World)
theorem run_isAgg_no {t : TypeId} {k : IntKind} (h : P.underlying t = some (.int k)) : (isAgg t).run P w = .ok false w := by
  simp [isAgg, run_underlying h]
theorem run_equalIn_pair (d : Nat) (t e : TypeId) (k : IntKind) (i : TypeInfo) (ht : P.underlying t = some (.array 2 e)) (he : P.underlying e = some (.int k)) (hi : P.info? e = some i) (hs : i.size = 1) (a b c g : Int) :
    (Op.equalIn (d + 2) t (.agg #[.int k a, .int k b]) (.agg #[.int k c, .int k g])).run P w = .ok (a == c && b == g) w := by
  simp only [Op.equalIn, Sem.run_bind, run_underlying ht, Result.andThen_ok]
  simp [Go.sizeOf, Go.typeInfo, hi, hs, Std.Legacy.Range.forIn_eq_forIn_range', Std.Legacy.Range.size, List.range', part, run_isAgg_no w he, run_underlying he]
  by_cases h1 : a = c <;> by_cases h2 : b = g <;> simp [h1, h2]
end

section
variable {P : Program} {ops : Array Oper} {md : Region.Mode} {C : World → Prop}

theorem region_ext {id : Nat} {Q : Exit → Act → World → Prop} {a : Act} {w : World} (W : World) (hw : Later W w) {l : List Oper} (hm : P.follows .mixedOrders = true) (hB : Region.lexB .any l.toArray = true)
    (h : wpQuiet P l.toArray (fun w' => ∃ p, w' = ext W p) (fun a' => ∀ w', (∃ p, w' = ext W p) → Q .normal a' w') l a) : (Code.region id l.toArray true).wp P Q a w :=
  wp_region_quiet (C := fun w' => ∃ p, w' = ext W p) hm hB (by
    obtain ⟨p, rfl⟩ := hw
    have : ∃ q, ({ ext W p with drawn := (ext W p).drawn + 1 } : World) = ext (ext W p) q := ext_of ⟨rfl, rfl, rfl, Nat.le_refl _, fun _ _ => rfl⟩
    obtain ⟨q, hq⟩ := this
    obtain ⟨r, hr⟩ := ext_ext W p q
    exact ⟨r, by rw [hq, hr]⟩) (by simpa using h)

/-- The head's orders: each operation that may come up stands before n. -/
def headAny (P : Program) (md : Region.Mode) (ops : Array Oper) (C : World → Prop) (n : Nat) (L : Array Bool → Act → Prop) : Nat → Array Bool → Act → Prop
  | 0, listed, a => L listed a
  | f + 1, listed, a => Region.ready md ops listed ≠ [] ∧ ∀ i ∈ Region.ready md ops listed, i < n ∧ qOp P ops C i (headAny P md ops C n L f (listed.setIfInBounds i true)) a

theorem any_of_head {n g : Nat} {L : Array Bool → Act → Prop} {Q' : Exit → Act → World → Prop} (hL : ∀ listed a w, C w → L listed a → wpAny P md ops Q' g listed a w) (f : Nat) :
    ∀ (listed : Array Bool) (a : Act) (w : World), C w → headAny P md ops C n L f listed a → wpAny P md ops Q' (f + g) listed a w := by
  induction f with
  | zero => intro listed a w hw h; rw [Nat.zero_add]; exact hL _ _ _ hw h
  | succ f ih =>
    intro listed a w hw h
    rw [show f + 1 + g = (f + g) + 1 by omega]
    exact ⟨fun h0 => absurd h0 h.1, fun i hi => wpOp_of_qOp hw (fun a' w' hw' h' => ih _ a' w' hw' h') (h.2 i hi).2⟩

theorem head_first {n i : Nat} {oi : Oper} {v : Value} {L : Array Bool → Act → Prop} (hi : ops[i]? = some oi) (hsel : ∀ (j : Nat) (o : Oper) cs b, ops[j]? = some o → o.op ≠ .select cs b)
    (hs : Region.sinkB md ops n = true) (hc : Region.chainB md ops n = true) (hn : n < ops.size) (hin : i < n)
    (hdone : ∀ listed a, L listed a → ∀ j ∈ Region.ready md ops listed, n ≤ j) (f : Nat) :
    ∀ (listed : Array Bool) (a : Act), HeadInv md ops n listed →
      (∀ j oj, ops[j]? = some oj → j ≠ i → listed.getD j true = false → (∀ e ∈ oj.after, Region.binds md e = true → e.on ≠ i) → oi.apart ops oj = true) →
      i ∈ Region.ready md ops listed → YieldsIn P ops C oi v a →
      headAny P md ops C n L f (listed.setIfInBounds i true) (a.put oi.dst v) → headAny P md ops C n L (f + 1) listed a := by
  induction f with
  | zero =>
    intro listed a inv _ hr hy H
    have hun := (mem_ready.1 hr).1
    refine ⟨fun h => (by rw [h] at hr; cases hr), fun j hj => ?_⟩
    have hjn : j < n := Nat.lt_of_not_le fun h => tail_waits hs hc hn inv _ i rfl hin hun j h hj
    refine ⟨hjn, ?_⟩
    by_cases hji : j = i
    · subst hji; exact hy.qOp hi H
    · exact absurd (hdone _ _ H j (ready_mono hj hji)) (by omega)
  | succ f ih =>
    intro listed a inv hfree hr hy H
    have hun := (mem_ready.1 hr).1
    refine ⟨fun h => (by rw [h] at hr; cases hr), fun j hj => ?_⟩
    have hjn : j < n := Nat.lt_of_not_le fun h => tail_waits hs hc hn inv _ i rfl hin hun j h hj
    refine ⟨hjn, ?_⟩
    by_cases hji : j = i
    · subst hji; exact hy.qOp hi H
    · have h1 := (H.2 j (ready_mono hj hji)).2
      obtain ⟨hjun, oj, hoj, hall⟩ := mem_ready.1 hj
      have hnot : ∀ e ∈ oj.after, Region.binds md e = true → e.on ≠ i := fun e he hb heq => by
        have h1 := hall e he hb
        rw [heq, getD_both hun] at h1
        cases h1
      have h2 := qOp_put hoj (hfree j oj hoj hji hjun hnot) (fun cs b => hsel i oi cs b hi) (fun cs b => hsel j oj cs b hoj) hy h1
      have hfree' : ∀ k ok, ops[k]? = some ok → k ≠ i → (listed.setIfInBounds j true).getD k true = false →
          (∀ e ∈ ok.after, Region.binds md e = true → e.on ≠ i) → oi.apart ops ok = true := fun k ok hk hki hun' hno => by
        refine hfree k ok hk hki ?_ hno
        by_cases hjk : j = k
        · subst hjk; exact hjun
        · rwa [getD_set_ne true hjk] at hun'
      refine qOp_mono (fun a' h3 => ih (listed.setIfInBounds j true) a' (inv.set hj hjn) hfree' (ready_mono hr (Ne.symm hji)) h3.1 ?_) h2
      rw [Array.setIfInBounds_comm _ _ hji]
      exact h3.2

theorem head_lex {n g : Nat} {Lq : Act → Prop} (hsel : Region.noSelect ops = true) (hs : Region.sinkB md ops n = true) (hc : Region.chainB md ops n = true) (hn : n < ops.size) (l : List Oper) :
    ∀ (k : Nat) (listed : Array Bool) (a : Act), (∀ j, j < l.length → l[j]? = ops[k + j]?) → k + l.length = n → HeadInv md ops n listed →
    Region.lexHead md ops g l.length k listed = true → wpQuiet P ops C Lq l a →
    headAny P md ops C n (fun listed' a' => Region.seqB md ops g n listed' = true ∧ Lq a') l.length listed a := by
  induction l with
  | nil =>
    intro k listed a _ hk _ hB h
    obtain rfl : k = n := by simpa using hk
    exact ⟨by simpa [Region.lexHead] using hB, h⟩
  | cons o l ih =>
    intro k listed a hl hk inv hB h
    have h0 : ops[k]? = some o := by simpa using (hl 0 (by simp)).symm
    simp only [List.length_cons, Region.lexHead, Bool.and_eq_true] at hB
    obtain ⟨⟨hr, hf⟩, hB'⟩ := hB
    have hkn : k < n := by simp only [List.length_cons] at hk; omega
    have hr' : k ∈ Region.ready md ops listed := by simpa using hr
    have hst : qOp P ops C k (wpQuiet P ops C Lq l) a := by unfold qOp; simp only [h0]; exact h
    obtain ⟨v, hy, hK⟩ := yieldsIn_of_qOp h0 hst
    exact head_first h0 (Region.noSelect_spec hsel) hs hc hn hkn (fun listed' a' hL => seqB_ready hL.1) l.length listed a inv (Region.free_spec h0 hf) hr' hy
      (ih (k + 1) _ _ (fun j hj => by have := hl (j + 1) (by simp; omega); simpa [Nat.add_assoc, Nat.add_comm 1 j] using this) (by simp only [List.length_cons] at hk; omega) (inv.set hr' hkn) hB' hK)

/-- A region that draws its order: its first n operations only read or make calls that leave what was there; the others wait for these, and for one another. -/
theorem region_ext_tail {id : Nat} {Q : Exit → Act → World → Prop} {a : Act} {w : World} (W : World) (hw : Later W w) {l : List Oper} (n : Nat) (hm : P.follows .mixedOrders = true) (hB : Region.lexTailB .any l.toArray n = true)
    (h : wpQuiet P l.toArray (fun w' => ∃ p, w' = ext W p) (fun a' => ∀ w', (∃ p, w' = ext W p) → wpList P l.toArray Q (l.drop n) a' w') (l.take n) a) : (Code.region id l.toArray true).wp P Q a w := by
  simp only [Region.lexTailB, Bool.and_eq_true, decide_eq_true_eq] at hB
  obtain ⟨⟨⟨⟨hsel, hn⟩, hs⟩, hc⟩, hlex⟩ := hB
  have hn' : n < l.length := by simpa using hn
  have htl : (l.take n).length = n := by simp; omega
  have hdl : (l.drop n).length = l.toArray.size - n := by simp
  have inv0 : HeadInv .any l.toArray n (Array.replicate l.toArray.size false) :=
    ⟨by simp, fun j oj _ hl => (by rw [getD_replicate_false] at hl; cases hl), fun t _ ht => getD_in (by simpa using ht) (getD_replicate_false _ _)⟩
  have H := head_lex (C := fun w' => ∃ p, w' = ext W p) (md := .any) (g := l.toArray.size - n) hsel hs hc hn (l.take n) 0 _ a (fun j hj => by
    have hj' : j < n := by rw [htl] at hj; exact hj
    simp [hj']) (by simpa using htl) inv0 (by rw [htl]; exact hlex) h
  refine wp_region_any hm ?_
  have h0 : ∃ p, ({ w with drawn := w.drawn + 1 } : World) = ext W p := by
    obtain ⟨p, rfl⟩ := hw
    have : ∃ q, ({ ext W p with drawn := (ext W p).drawn + 1 } : World) = ext (ext W p) q := ext_of ⟨rfl, rfl, rfl, Nat.le_refl _, fun _ _ => rfl⟩
    obtain ⟨q, hq⟩ := this
    obtain ⟨r, hr⟩ := ext_ext W p q
    exact ⟨r, by rw [hq, hr]⟩
  have := any_of_head (Q' := Q) (g := l.toArray.size - n) (fun listed a' w' hw' hL => by
    have := wpAny_of_seq (md := .any) (Q' := Q) (l.drop n) n listed a' w' (fun j => by simp [List.getElem?_drop]) (by rw [hdl]; exact hL.1) (hL.2 w' hw')
    rwa [hdl] at this) _ _ _ _ h0 H
  rw [htl, show n + (l.toArray.size - n) = l.toArray.size by omega] at this
  exact this
end
end Pg
