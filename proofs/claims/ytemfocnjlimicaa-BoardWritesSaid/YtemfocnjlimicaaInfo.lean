/- Entries, slots, writes and routes as data; what the program's table says of their types. -/
import Derived.Test.YtemfocnjlimicaaEls2
import Derived.Test.YtemfocnjlimicaaAddr
namespace Pg
open Go
structure Ent where
  x : B
  m : B
  len : Int
  act : Int
def Ent.cells (e : Ent) : List Value := [.int .u64 (hi e.x), .int .u64 (lo e.x), .int .u64 (hi e.m), .int .u64 (lo e.m), .int .i64 e.len, .int .i64 e.act]
theorem Ent.one (x : Ent) : ∀ u ∈ x.cells, u.oneCell' = true := by simp [Ent.cells, Value.oneCell']
theorem Ent.cells_len (e : Ent) : e.cells.length = 6 := rfl
abbrev ev (e : Ent) : Value := .agg #[.int .u64 (hi e.x), .int .u64 (lo e.x), .int .u64 (hi e.m), .int .u64 (lo e.m), .int .i64 e.len, .int .i64 e.act]
structure Slot where
  v : Bool
  e : Ent
def Slot.cells (s : Slot) : List Value := [.bool s.v, .int .u64 (hi s.e.x), .int .u64 (lo s.e.x), .int .u64 (hi s.e.m), .int .u64 (lo s.e.m), .int .i64 s.e.len, .int .i64 s.e.act]
theorem Slot.one (x : Slot) : ∀ u ∈ x.cells, u.oneCell' = true := by simp [Slot.cells, Value.oneCell']
theorem Slot.cells_len (s : Slot) : s.cells.length = 7 := rfl
abbrev slv (s : Slot) : Value := .agg #[.bool s.v, .int .u64 (hi s.e.x), .int .u64 (lo s.e.x), .int .u64 (hi s.e.m), .int .u64 (lo s.e.m), .int .i64 s.e.len, .int .i64 s.e.act]
structure Wr where
  at_ : Int
  s : Slot
def Wr.cells (w : Wr) : List Value := [.int .i64 w.at_, .bool w.s.v, .int .u64 (hi w.s.e.x), .int .u64 (lo w.s.e.x), .int .u64 (hi w.s.e.m), .int .u64 (lo w.s.e.m), .int .i64 w.s.e.len, .int .i64 w.s.e.act]
theorem Wr.one (x : Wr) : ∀ u ∈ x.cells, u.oneCell' = true := by simp [Wr.cells, Value.oneCell']
theorem Wr.cells_len (w : Wr) : w.cells.length = 8 := rfl
abbrev wrv (w : Wr) : Value := .agg #[.int .i64 w.at_, .bool w.s.v, .int .u64 (hi w.s.e.x), .int .u64 (lo w.s.e.x), .int .u64 (hi w.s.e.m), .int .u64 (lo w.s.e.m), .int .i64 w.s.e.len, .int .i64 w.s.e.act]
structure Rt where
  x : B
  n : Int
  act : Int
def Rt.cells (r : Rt) : List Value := [.int .u64 (hi r.x), .int .u64 (lo r.x), .int .i64 r.n, .int .i64 r.act]
theorem Rt.one (x : Rt) : ∀ u ∈ x.cells, u.oneCell' = true := by simp [Rt.cells, Value.oneCell']
theorem Rt.cells_len (r : Rt) : r.cells.length = 4 := rfl
abbrev rv (r : Rt) : Value := .agg #[.int .u64 (hi r.x), .int .u64 (lo r.x), .int .i64 r.n, .int .i64 r.act]
end Pg
namespace Go.Proofs.Ytemfocnjlimicaa
open Go.RowKit Pg

theorem info_ent : (Try.prog.info? 48).map (fun i => (i.zero, i.size, i.bytes)) = some (some (.agg #[.int .u64 0, .int .u64 0, .int .u64 0, .int .u64 0, .int .i64 0, .int .i64 0]), 6, 48) := by kernel_rfl
theorem info_refent : (Try.prog.info? 82).map (fun i => (i.zero, i.size, i.bytes)) = some (some (.agg #[.int .u64 0, .int .u64 0, .int .u64 0, .int .u64 0, .int .i64 0, .int .i64 0]), 6, 48) := by kernel_rfl
theorem info_slot : (Try.prog.info? 50).map (fun i => (i.zero, i.size, i.bytes)) = some (some (.agg #[.bool false, .int .u64 0, .int .u64 0, .int .u64 0, .int .u64 0, .int .i64 0, .int .i64 0]), 7, 56) := by kernel_rfl
theorem info_refslot : (Try.prog.info? 84).map (fun i => (i.zero, i.size, i.bytes)) = some (some (.agg #[.bool false, .int .u64 0, .int .u64 0, .int .u64 0, .int .u64 0, .int .i64 0, .int .i64 0]), 7, 56) := by kernel_rfl
theorem info_wr : (Try.prog.info? 52).map (fun i => (i.zero, i.size, i.bytes)) = some (some (.agg #[.int .i64 0, .bool false, .int .u64 0, .int .u64 0, .int .u64 0, .int .u64 0, .int .i64 0, .int .i64 0]), 8, 64) := by kernel_rfl
theorem info_refwr : (Try.prog.info? 86).map (fun i => (i.zero, i.size, i.bytes)) = some (some (.agg #[.int .i64 0, .bool false, .int .u64 0, .int .u64 0, .int .u64 0, .int .u64 0, .int .i64 0, .int .i64 0]), 8, 64) := by kernel_rfl
theorem info_int : (Try.prog.info? 3).map (fun i => (i.zero, i.size, i.bytes)) = some (some (.int .i64 0), 1, 8) := by kernel_rfl
theorem info_prefix : (Try.prog.info? 74).map (fun i => (i.zero, i.size, i.bytes)) = some (some (.agg #[.int .u64 0, .int .u64 0, .int .i64 0]), 3, 24) := by kernel_rfl
end Go.Proofs.Ytemfocnjlimicaa
