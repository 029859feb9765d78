/-
  No cell of these rows narrows 'for every input' (looked for: loops, veiled, ifaces, maps, wideKeys, modest, calm, conditions, laid).
  DERIVED. THE GIVEN ROWS OF THIS SEAT. 8 by the template 'for every input the law returns true; each argument reads behind the call as it read before'; 0 by the template 'total and deterministic' (their statements: YtjkhdjonlppdoaaTotals.lean).
  GIVEN WITH THE SEED: the statements are not yours to turn. If you find one false, say at which input.
  Laid BY PROGRAM, IN A SANDBOX (cutbox-rows.mjs): the forced cells as the released guide's own fill.sh prints them over the translation 06493b9c1e4f7350… (all of the seat's roots in one cut). By AI agents, Wed Nov 11 2026. No macro, syntax, notation, axiom, sorry.
-/
import Derived.Test.YtjkhdjonlppdoaaChecked
import GoSem.Claim
import GoSem.ClaimJoined
import GoSem.ClaimMapViews
import Derived.JoinedTies
import Derived.KernelRfl
namespace Go.Proofs.Ytjkhdjonlppdoaa
/- THE CELL 'sum', in the pinned program and in every row, IS THE sha256 OF THE DUMP (.gsa) THAT YtjkhdjonlppdoaaProg.lean LOADS. Nothing in Lean hashes anything: it is a label: what it is worth is what the hold of that sum in a sandbox is worth. -/
noncomputable def Try.pinned : Pinned := { name := "ytjkhdjonlppdoaa", sum := "06493b9c1e4f7350484fe456bb3081e4e16b6756a92c498d799a4a076de424d6", checked := Try.checked }
namespace Rows
def none {H : Type} : Left H := { results := [], args := [] }

/-- 'pigeonholelaw06.RibTables': WHATEVER THE INPUT: true; the input reads as it did. -/
def ribTablesSpec : ChangeSpec := { name := "ribTables", fn := fun _ => fun
  | [d1, d2, d3] => { results := [.lit (.bool true)], args := [d1, d2, d3] }
  | _ => none }
def ribTablesRow : OpenClaim := { program := "ytjkhdjonlppdoaa", sum := "06493b9c1e4f7350484fe456bb3081e4e16b6756a92c498d799a4a076de424d6", func := "pigeonhole/pigeonholelaw06.RibTables", spec := "ribTables", inPlace := ["slices.overlaps[pigeonhole/rib.Route]"], unfollowed := true, recurses := true, apart := false }
def RibTablesSaid : Prop := ribTablesRow.holds Try.pinned (OpenSpec.ofChange ribTablesSpec)

/-- ITS FALSE NEIGHBOUR: 'it returns false'. Refute it at one input. -/
def ribTablesWrong : ChangeSpec := { name := "ribTables", fn := fun _ => fun
  | [d1, d2, d3] => { results := [.lit (.bool false)], args := [d1, d2, d3] }
  | _ => none }
def RibTablesWrongFalsely : Prop := ribTablesRow.holds Try.pinned (OpenSpec.ofChange ribTablesWrong)

/-- 'pigeonholelaw06.RibChains': WHATEVER THE INPUT: true; the input reads as it did. -/
def ribChainsSpec : ChangeSpec := { name := "ribChains", fn := fun _ => fun
  | [d1, d2] => { results := [.lit (.bool true)], args := [d1, d2] }
  | _ => none }
def ribChainsRow : OpenClaim := { program := "ytjkhdjonlppdoaa", sum := "06493b9c1e4f7350484fe456bb3081e4e16b6756a92c498d799a4a076de424d6", func := "pigeonhole/pigeonholelaw06.RibChains", spec := "ribChains", inPlace := ["slices.overlaps[pigeonhole/rib.Route]"], unfollowed := true, recurses := true, apart := false }
def RibChainsSaid : Prop := ribChainsRow.holds Try.pinned (OpenSpec.ofChange ribChainsSpec)

/-- ITS FALSE NEIGHBOUR: 'it returns false'. Refute it at one input. -/
def ribChainsWrong : ChangeSpec := { name := "ribChains", fn := fun _ => fun
  | [d1, d2] => { results := [.lit (.bool false)], args := [d1, d2] }
  | _ => none }
def RibChainsWrongFalsely : Prop := ribChainsRow.holds Try.pinned (OpenSpec.ofChange ribChainsWrong)

/-- 'pigeonholelaw06.RibFinds': WHATEVER THE INPUT: true; the input reads as it did. -/
def ribFindsSpec : ChangeSpec := { name := "ribFinds", fn := fun _ => fun
  | [d1, d2, d3] => { results := [.lit (.bool true)], args := [d1, d2, d3] }
  | _ => none }
def ribFindsRow : OpenClaim := { program := "ytjkhdjonlppdoaa", sum := "06493b9c1e4f7350484fe456bb3081e4e16b6756a92c498d799a4a076de424d6", func := "pigeonhole/pigeonholelaw06.RibFinds", spec := "ribFinds", inPlace := ["slices.overlaps[pigeonhole/rib.Route]"], unfollowed := true, recurses := true, apart := false }
def RibFindsSaid : Prop := ribFindsRow.holds Try.pinned (OpenSpec.ofChange ribFindsSpec)

/-- ITS FALSE NEIGHBOUR: 'it returns false'. Refute it at one input. -/
def ribFindsWrong : ChangeSpec := { name := "ribFinds", fn := fun _ => fun
  | [d1, d2, d3] => { results := [.lit (.bool false)], args := [d1, d2, d3] }
  | _ => none }
def RibFindsWrongFalsely : Prop := ribFindsRow.holds Try.pinned (OpenSpec.ofChange ribFindsWrong)

/-- 'pigeonholelaw06.RibPuts': WHATEVER THE INPUT: true; the input reads as it did. -/
def ribPutsSpec : ChangeSpec := { name := "ribPuts", fn := fun _ => fun
  | [d1, d2, d3] => { results := [.lit (.bool true)], args := [d1, d2, d3] }
  | _ => none }
def ribPutsRow : OpenClaim := { program := "ytjkhdjonlppdoaa", sum := "06493b9c1e4f7350484fe456bb3081e4e16b6756a92c498d799a4a076de424d6", func := "pigeonhole/pigeonholelaw06.RibPuts", spec := "ribPuts", inPlace := ["slices.overlaps[pigeonhole/rib.Route]"], unfollowed := true, recurses := true, apart := false }
def RibPutsSaid : Prop := ribPutsRow.holds Try.pinned (OpenSpec.ofChange ribPutsSpec)

/-- ITS FALSE NEIGHBOUR: 'it returns false'. Refute it at one input. -/
def ribPutsWrong : ChangeSpec := { name := "ribPuts", fn := fun _ => fun
  | [d1, d2, d3] => { results := [.lit (.bool false)], args := [d1, d2, d3] }
  | _ => none }
def RibPutsWrongFalsely : Prop := ribPutsRow.holds Try.pinned (OpenSpec.ofChange ribPutsWrong)

/-- 'pigeonholelaw06.RibBest': WHATEVER THE INPUT: true; the input reads as it did. -/
def ribBestSpec : ChangeSpec := { name := "ribBest", fn := fun _ => fun
  | [d1, d2] => { results := [.lit (.bool true)], args := [d1, d2] }
  | _ => none }
def ribBestRow : OpenClaim := { program := "ytjkhdjonlppdoaa", sum := "06493b9c1e4f7350484fe456bb3081e4e16b6756a92c498d799a4a076de424d6", func := "pigeonhole/pigeonholelaw06.RibBest", spec := "ribBest", inPlace := ["slices.overlaps[pigeonhole/rib.Route]"], unfollowed := true, recurses := true, apart := false }
def RibBestSaid : Prop := ribBestRow.holds Try.pinned (OpenSpec.ofChange ribBestSpec)

/-- ITS FALSE NEIGHBOUR: 'it returns false'. Refute it at one input. -/
def ribBestWrong : ChangeSpec := { name := "ribBest", fn := fun _ => fun
  | [d1, d2] => { results := [.lit (.bool false)], args := [d1, d2] }
  | _ => none }
def RibBestWrongFalsely : Prop := ribBestRow.holds Try.pinned (OpenSpec.ofChange ribBestWrong)

/-- 'pigeonholelaw06.RibCovers': WHATEVER THE INPUT: true; the input reads as it did. -/
def ribCoversSpec : ChangeSpec := { name := "ribCovers", fn := fun _ => fun
  | [d1, d2] => { results := [.lit (.bool true)], args := [d1, d2] }
  | _ => none }
def ribCoversRow : OpenClaim := { program := "ytjkhdjonlppdoaa", sum := "06493b9c1e4f7350484fe456bb3081e4e16b6756a92c498d799a4a076de424d6", func := "pigeonhole/pigeonholelaw06.RibCovers", spec := "ribCovers", inPlace := ["slices.overlaps[pigeonhole/rib.Route]"], unfollowed := true, recurses := true, apart := false }
def RibCoversSaid : Prop := ribCoversRow.holds Try.pinned (OpenSpec.ofChange ribCoversSpec)

/-- ITS FALSE NEIGHBOUR: 'it returns false'. Refute it at one input. -/
def ribCoversWrong : ChangeSpec := { name := "ribCovers", fn := fun _ => fun
  | [d1, d2] => { results := [.lit (.bool false)], args := [d1, d2] }
  | _ => none }
def RibCoversWrongFalsely : Prop := ribCoversRow.holds Try.pinned (OpenSpec.ofChange ribCoversWrong)

/-- 'pigeonholelaw06.RibSteps': WHATEVER THE INPUT: true; the input reads as it did. -/
def ribStepsSpec : ChangeSpec := { name := "ribSteps", fn := fun _ => fun
  | [d1, d2] => { results := [.lit (.bool true)], args := [d1, d2] }
  | _ => none }
def ribStepsRow : OpenClaim := { program := "ytjkhdjonlppdoaa", sum := "06493b9c1e4f7350484fe456bb3081e4e16b6756a92c498d799a4a076de424d6", func := "pigeonhole/pigeonholelaw06.RibSteps", spec := "ribSteps", inPlace := ["slices.overlaps[pigeonhole/rib.Route]"], unfollowed := true, recurses := true, apart := false }
def RibStepsSaid : Prop := ribStepsRow.holds Try.pinned (OpenSpec.ofChange ribStepsSpec)

/-- ITS FALSE NEIGHBOUR: 'it returns false'. Refute it at one input. -/
def ribStepsWrong : ChangeSpec := { name := "ribSteps", fn := fun _ => fun
  | [d1, d2] => { results := [.lit (.bool false)], args := [d1, d2] }
  | _ => none }
def RibStepsWrongFalsely : Prop := ribStepsRow.holds Try.pinned (OpenSpec.ofChange ribStepsWrong)

/-- 'pigeonholelaw06.RibUnder': WHATEVER THE INPUT: true; the input reads as it did. -/
def ribUnderSpec : ChangeSpec := { name := "ribUnder", fn := fun _ => fun
  | [d] => { results := [.lit (.bool true)], args := [d] }
  | _ => none }
def ribUnderRow : OpenClaim := { program := "ytjkhdjonlppdoaa", sum := "06493b9c1e4f7350484fe456bb3081e4e16b6756a92c498d799a4a076de424d6", func := "pigeonhole/pigeonholelaw06.RibUnder", spec := "ribUnder", inPlace := ["slices.overlaps[pigeonhole/rib.Route]"], unfollowed := true, recurses := true, apart := false }
def RibUnderSaid : Prop := ribUnderRow.holds Try.pinned (OpenSpec.ofChange ribUnderSpec)

/-- ITS FALSE NEIGHBOUR: 'it returns false'. Refute it at one input. -/
def ribUnderWrong : ChangeSpec := { name := "ribUnder", fn := fun _ => fun
  | [d] => { results := [.lit (.bool false)], args := [d] }
  | _ => none }
def RibUnderWrongFalsely : Prop := ribUnderRow.holds Try.pinned (OpenSpec.ofChange ribUnderWrong)

/- THE SECOND FORM. 'bulk': how many values and letters a reading holds, each counted each time it is reached (what is shared counts as often as it is met; a slice's spare places count too). A statement '..UptoSaid' is the law's where the arguments, and the package variables that the reading takes, are together of bulk at most 1048576: NARROWER than '..Said'. Prove '..Said' where nothing that the law and all that it calls make is longer than what came in: it says more and counts as full. Else prove '..UptoSaid'. A law counts once. -/
mutual
def uptoBulk {H : Type} : DataW H → Nat
  | .lit (.string bytes) => bytes.length + 1
  | .lit _ => 1
  | .nil => 1
  | .ptr d => uptoBulk d + 1
  | .slice elems spare => uptoBulkAll elems + uptoBulkAll spare + 1
  | .agg parts => uptoBulkAll parts + 1
  | .iface _ d => uptoBulk d + 1
  | .map entries => uptoBulkEntries entries + 1
  | .held _ => 1
def uptoBulkAll {H : Type} : List (DataW H) → Nat
  | [] => 0
  | d :: r => uptoBulk d + uptoBulkAll r
def uptoBulkEntries {H : Type} : List (Lit × DataW H) → Nat
  | [] => 0
  | x :: r => uptoBulkEntry x + uptoBulkEntries r
def uptoBulkEntry {H : Type} : Lit × DataW H → Nat
  | (.string bytes, d) => bytes.length + uptoBulk d + 1
  | (_, d) => uptoBulk d + 1
 end
def uptoSmall : (H : Type) → List (DataW H) → Bool := fun _ ds => decide (uptoBulkAll ds ≤ 1048576)
def OpenSpec.upto (s : _root_.Go.ChangeSpec) : _root_.Go.OpenSpec := { _root_.Go.OpenSpec.ofChange s with cond := some uptoSmall }

/-- 'pigeonholelaw06.RibTables', WHERE WHAT IT READS IS OF BULK AT MOST 1048576: true; the input reads as it did. -/
def ribTablesUptoRow : OpenClaim := { program := "ytjkhdjonlppdoaa", sum := "06493b9c1e4f7350484fe456bb3081e4e16b6756a92c498d799a4a076de424d6", func := "pigeonhole/pigeonholelaw06.RibTables", spec := "ribTables", inPlace := ["slices.overlaps[pigeonhole/rib.Route]"], unfollowed := true, recurses := true, apart := false, narrowed := true }
def RibTablesUptoSaid : Prop := ribTablesUptoRow.holds Try.pinned (OpenSpec.upto ribTablesSpec)

/-- 'pigeonholelaw06.RibChains', WHERE WHAT IT READS IS OF BULK AT MOST 1048576: true; the input reads as it did. -/
def ribChainsUptoRow : OpenClaim := { program := "ytjkhdjonlppdoaa", sum := "06493b9c1e4f7350484fe456bb3081e4e16b6756a92c498d799a4a076de424d6", func := "pigeonhole/pigeonholelaw06.RibChains", spec := "ribChains", inPlace := ["slices.overlaps[pigeonhole/rib.Route]"], unfollowed := true, recurses := true, apart := false, narrowed := true }
def RibChainsUptoSaid : Prop := ribChainsUptoRow.holds Try.pinned (OpenSpec.upto ribChainsSpec)

/-- 'pigeonholelaw06.RibFinds', WHERE WHAT IT READS IS OF BULK AT MOST 1048576: true; the input reads as it did. -/
def ribFindsUptoRow : OpenClaim := { program := "ytjkhdjonlppdoaa", sum := "06493b9c1e4f7350484fe456bb3081e4e16b6756a92c498d799a4a076de424d6", func := "pigeonhole/pigeonholelaw06.RibFinds", spec := "ribFinds", inPlace := ["slices.overlaps[pigeonhole/rib.Route]"], unfollowed := true, recurses := true, apart := false, narrowed := true }
def RibFindsUptoSaid : Prop := ribFindsUptoRow.holds Try.pinned (OpenSpec.upto ribFindsSpec)

/-- 'pigeonholelaw06.RibPuts', WHERE WHAT IT READS IS OF BULK AT MOST 1048576: true; the input reads as it did. -/
def ribPutsUptoRow : OpenClaim := { program := "ytjkhdjonlppdoaa", sum := "06493b9c1e4f7350484fe456bb3081e4e16b6756a92c498d799a4a076de424d6", func := "pigeonhole/pigeonholelaw06.RibPuts", spec := "ribPuts", inPlace := ["slices.overlaps[pigeonhole/rib.Route]"], unfollowed := true, recurses := true, apart := false, narrowed := true }
def RibPutsUptoSaid : Prop := ribPutsUptoRow.holds Try.pinned (OpenSpec.upto ribPutsSpec)

/-- 'pigeonholelaw06.RibBest', WHERE WHAT IT READS IS OF BULK AT MOST 1048576: true; the input reads as it did. -/
def ribBestUptoRow : OpenClaim := { program := "ytjkhdjonlppdoaa", sum := "06493b9c1e4f7350484fe456bb3081e4e16b6756a92c498d799a4a076de424d6", func := "pigeonhole/pigeonholelaw06.RibBest", spec := "ribBest", inPlace := ["slices.overlaps[pigeonhole/rib.Route]"], unfollowed := true, recurses := true, apart := false, narrowed := true }
def RibBestUptoSaid : Prop := ribBestUptoRow.holds Try.pinned (OpenSpec.upto ribBestSpec)

/-- 'pigeonholelaw06.RibCovers', WHERE WHAT IT READS IS OF BULK AT MOST 1048576: true; the input reads as it did. -/
def ribCoversUptoRow : OpenClaim := { program := "ytjkhdjonlppdoaa", sum := "06493b9c1e4f7350484fe456bb3081e4e16b6756a92c498d799a4a076de424d6", func := "pigeonhole/pigeonholelaw06.RibCovers", spec := "ribCovers", inPlace := ["slices.overlaps[pigeonhole/rib.Route]"], unfollowed := true, recurses := true, apart := false, narrowed := true }
def RibCoversUptoSaid : Prop := ribCoversUptoRow.holds Try.pinned (OpenSpec.upto ribCoversSpec)

/-- 'pigeonholelaw06.RibSteps', WHERE WHAT IT READS IS OF BULK AT MOST 1048576: true; the input reads as it did. -/
def ribStepsUptoRow : OpenClaim := { program := "ytjkhdjonlppdoaa", sum := "06493b9c1e4f7350484fe456bb3081e4e16b6756a92c498d799a4a076de424d6", func := "pigeonhole/pigeonholelaw06.RibSteps", spec := "ribSteps", inPlace := ["slices.overlaps[pigeonhole/rib.Route]"], unfollowed := true, recurses := true, apart := false, narrowed := true }
def RibStepsUptoSaid : Prop := ribStepsUptoRow.holds Try.pinned (OpenSpec.upto ribStepsSpec)

/-- 'pigeonholelaw06.RibUnder', WHERE WHAT IT READS IS OF BULK AT MOST 1048576: true; the input reads as it did. -/
def ribUnderUptoRow : OpenClaim := { program := "ytjkhdjonlppdoaa", sum := "06493b9c1e4f7350484fe456bb3081e4e16b6756a92c498d799a4a076de424d6", func := "pigeonhole/pigeonholelaw06.RibUnder", spec := "ribUnder", inPlace := ["slices.overlaps[pigeonhole/rib.Route]"], unfollowed := true, recurses := true, apart := false, narrowed := true }
def RibUnderUptoSaid : Prop := ribUnderUptoRow.holds Try.pinned (OpenSpec.upto ribUnderSpec)

end Rows
end Go.Proofs.Ytjkhdjonlppdoaa
