/-
  No cell of these rows narrows 'for every input' (looked for: loops, veiled, ifaces, maps, wideKeys, modest, calm, conditions, laid).
  DERIVED. THE GIVEN ROWS OF THIS SEAT. 5 by the template 'for every input the law returns true; each argument reads behind the call as it read before'; 0 by the template 'total and deterministic' (their statements: YtdlikcdmhgbolaaTotals.lean).
  GIVEN WITH THE SEED: the statements are not yours to turn. If you find one false, say at which input.
  Laid BY PROGRAM, IN A SANDBOX (cutbox-rows.mjs): the forced cells as the released guide's own fill.sh prints them over the translation 55d782194cc62753… (all of the seat's roots in one cut). By AI agents, Wed Nov 11 2026. No macro, syntax, notation, axiom, sorry.
-/
import Derived.Test.YtdlikcdmhgbolaaChecked
import GoSem.Claim
import GoSem.ClaimJoined
import GoSem.ClaimMapViews
import Derived.JoinedTies
import Derived.KernelRfl
namespace Go.Proofs.Ytdlikcdmhgbolaa
/- THE CELL 'sum', in the pinned program and in every row, IS THE sha256 OF THE DUMP (.gsa) THAT YtdlikcdmhgbolaaProg.lean LOADS. Nothing in Lean hashes anything: it is a label: what it is worth is what the hold of that sum in a sandbox is worth. -/
noncomputable def Try.pinned : Pinned := { name := "ytdlikcdmhgbolaa", sum := "55d782194cc627532f623f3eebad4607314ae543769265ea08095671a3479f23", checked := Try.checked }
namespace Rows
def none {H : Type} : Left H := { results := [], args := [] }

/-- 'pigeonholelaw12.PloInserts': WHATEVER THE INPUT: true; the input reads as it did. -/
def ploInsertsSpec : ChangeSpec := { name := "ploInserts", fn := fun _ => fun
  | [d1, d2] => { results := [.lit (.bool true)], args := [d1, d2] }
  | _ => none }
def ploInsertsRow : OpenClaim := { program := "ytdlikcdmhgbolaa", sum := "55d782194cc627532f623f3eebad4607314ae543769265ea08095671a3479f23", func := "pigeonhole/pigeonholelaw12.PloInserts", spec := "ploInserts", unfollowed := true, recurses := true, apart := false }
def PloInsertsSaid : Prop := ploInsertsRow.holds Try.pinned (OpenSpec.ofChange ploInsertsSpec)

/-- ITS FALSE NEIGHBOUR: 'it returns false'. Refute it at one input. -/
def ploInsertsWrong : ChangeSpec := { name := "ploInserts", fn := fun _ => fun
  | [d1, d2] => { results := [.lit (.bool false)], args := [d1, d2] }
  | _ => none }
def PloInsertsWrongFalsely : Prop := ploInsertsRow.holds Try.pinned (OpenSpec.ofChange ploInsertsWrong)

/-- 'pigeonholelaw12.PloGaps': WHATEVER THE INPUT: true; the input reads as it did. -/
def ploGapsSpec : ChangeSpec := { name := "ploGaps", fn := fun _ => fun
  | [d1, d2] => { results := [.lit (.bool true)], args := [d1, d2] }
  | _ => none }
def ploGapsRow : OpenClaim := { program := "ytdlikcdmhgbolaa", sum := "55d782194cc627532f623f3eebad4607314ae543769265ea08095671a3479f23", func := "pigeonhole/pigeonholelaw12.PloGaps", spec := "ploGaps", unfollowed := true, recurses := true, apart := false }
def PloGapsSaid : Prop := ploGapsRow.holds Try.pinned (OpenSpec.ofChange ploGapsSpec)

/-- ITS FALSE NEIGHBOUR: 'it returns false'. Refute it at one input. -/
def ploGapsWrong : ChangeSpec := { name := "ploGaps", fn := fun _ => fun
  | [d1, d2] => { results := [.lit (.bool false)], args := [d1, d2] }
  | _ => none }
def PloGapsWrongFalsely : Prop := ploGapsRow.holds Try.pinned (OpenSpec.ofChange ploGapsWrong)

/-- 'pigeonholelaw12.PloRoom': WHATEVER THE INPUT: true; the input reads as it did. -/
def ploRoomSpec : ChangeSpec := { name := "ploRoom", fn := fun _ => fun
  | [d1, d2] => { results := [.lit (.bool true)], args := [d1, d2] }
  | _ => none }
def ploRoomRow : OpenClaim := { program := "ytdlikcdmhgbolaa", sum := "55d782194cc627532f623f3eebad4607314ae543769265ea08095671a3479f23", func := "pigeonhole/pigeonholelaw12.PloRoom", spec := "ploRoom", unfollowed := true, recurses := true, apart := false }
def PloRoomSaid : Prop := ploRoomRow.holds Try.pinned (OpenSpec.ofChange ploRoomSpec)

/-- ITS FALSE NEIGHBOUR: 'it returns false'. Refute it at one input. -/
def ploRoomWrong : ChangeSpec := { name := "ploRoom", fn := fun _ => fun
  | [d1, d2] => { results := [.lit (.bool false)], args := [d1, d2] }
  | _ => none }
def PloRoomWrongFalsely : Prop := ploRoomRow.holds Try.pinned (OpenSpec.ofChange ploRoomWrong)

/-- 'pigeonholelaw12.PloOrders': WHATEVER THE INPUT: true; the input reads as it did. -/
def ploOrdersSpec : ChangeSpec := { name := "ploOrders", fn := fun _ => fun
  | [d] => { results := [.lit (.bool true)], args := [d] }
  | _ => none }
def ploOrdersRow : OpenClaim := { program := "ytdlikcdmhgbolaa", sum := "55d782194cc627532f623f3eebad4607314ae543769265ea08095671a3479f23", func := "pigeonhole/pigeonholelaw12.PloOrders", spec := "ploOrders", unfollowed := true, recurses := true, apart := false }
def PloOrdersSaid : Prop := ploOrdersRow.holds Try.pinned (OpenSpec.ofChange ploOrdersSpec)

/-- ITS FALSE NEIGHBOUR: 'it returns false'. Refute it at one input. -/
def ploOrdersWrong : ChangeSpec := { name := "ploOrders", fn := fun _ => fun
  | [d] => { results := [.lit (.bool false)], args := [d] }
  | _ => none }
def PloOrdersWrongFalsely : Prop := ploOrdersRow.holds Try.pinned (OpenSpec.ofChange ploOrdersWrong)

/-- 'pigeonholelaw12.PloGapTells': WHATEVER THE INPUT: true; the input reads as it did. -/
def ploGapTellsSpec : ChangeSpec := { name := "ploGapTells", fn := fun _ => fun
  | [d1, d2, d3] => { results := [.lit (.bool true)], args := [d1, d2, d3] }
  | _ => none }
def ploGapTellsRow : OpenClaim := { program := "ytdlikcdmhgbolaa", sum := "55d782194cc627532f623f3eebad4607314ae543769265ea08095671a3479f23", func := "pigeonhole/pigeonholelaw12.PloGapTells", spec := "ploGapTells", unfollowed := true, recurses := true, apart := false }
def PloGapTellsSaid : Prop := ploGapTellsRow.holds Try.pinned (OpenSpec.ofChange ploGapTellsSpec)

/-- ITS FALSE NEIGHBOUR: 'it returns false'. Refute it at one input. -/
def ploGapTellsWrong : ChangeSpec := { name := "ploGapTells", fn := fun _ => fun
  | [d1, d2, d3] => { results := [.lit (.bool false)], args := [d1, d2, d3] }
  | _ => none }
def PloGapTellsWrongFalsely : Prop := ploGapTellsRow.holds Try.pinned (OpenSpec.ofChange ploGapTellsWrong)

/- THE SECOND FORM. 'bulk': how many values and letters a reading holds, each counted each time it is reached (what is shared counts as often as it is met; a slice's spare places count too). A statement '..UptoSaid' is the law's where the arguments, and the package variables that the reading takes, are together of bulk at most 1048576: NARROWER than '..Said'. Prove '..Said' where nothing that the law and all that it calls make is longer than what came in: it says more and counts as full. Else prove '..UptoSaid'. A law counts once. -/
mutual
def uptoBulk {H : Type} : DataW H → Nat
  | .lit (.string bytes) => bytes.length + 1
  | .lit _ => 1
  | .nil => 1
  | .ptr d => uptoBulk d + 1
  | .slice elems spare => uptoBulkAll elems + uptoBulkAll spare + 1
  | .agg parts => uptoBulkAll parts + 1
  | .iface _ d => uptoBulk d + 1
  | .map entries => uptoBulkEntries entries + 1
  | .held _ => 1
def uptoBulkAll {H : Type} : List (DataW H) → Nat
  | [] => 0
  | d :: r => uptoBulk d + uptoBulkAll r
def uptoBulkEntries {H : Type} : List (Lit × DataW H) → Nat
  | [] => 0
  | x :: r => uptoBulkEntry x + uptoBulkEntries r
def uptoBulkEntry {H : Type} : Lit × DataW H → Nat
  | (.string bytes, d) => bytes.length + uptoBulk d + 1
  | (_, d) => uptoBulk d + 1
 end
def uptoSmall : (H : Type) → List (DataW H) → Bool := fun _ ds => decide (uptoBulkAll ds ≤ 1048576)
def OpenSpec.upto (s : _root_.Go.ChangeSpec) : _root_.Go.OpenSpec := { _root_.Go.OpenSpec.ofChange s with cond := some uptoSmall }

/-- 'pigeonholelaw12.PloInserts', WHERE WHAT IT READS IS OF BULK AT MOST 1048576: true; the input reads as it did. -/
def ploInsertsUptoRow : OpenClaim := { program := "ytdlikcdmhgbolaa", sum := "55d782194cc627532f623f3eebad4607314ae543769265ea08095671a3479f23", func := "pigeonhole/pigeonholelaw12.PloInserts", spec := "ploInserts", unfollowed := true, recurses := true, apart := false, narrowed := true }
def PloInsertsUptoSaid : Prop := ploInsertsUptoRow.holds Try.pinned (OpenSpec.upto ploInsertsSpec)

/-- 'pigeonholelaw12.PloGaps', WHERE WHAT IT READS IS OF BULK AT MOST 1048576: true; the input reads as it did. -/
def ploGapsUptoRow : OpenClaim := { program := "ytdlikcdmhgbolaa", sum := "55d782194cc627532f623f3eebad4607314ae543769265ea08095671a3479f23", func := "pigeonhole/pigeonholelaw12.PloGaps", spec := "ploGaps", unfollowed := true, recurses := true, apart := false, narrowed := true }
def PloGapsUptoSaid : Prop := ploGapsUptoRow.holds Try.pinned (OpenSpec.upto ploGapsSpec)

/-- 'pigeonholelaw12.PloRoom', WHERE WHAT IT READS IS OF BULK AT MOST 1048576: true; the input reads as it did. -/
def ploRoomUptoRow : OpenClaim := { program := "ytdlikcdmhgbolaa", sum := "55d782194cc627532f623f3eebad4607314ae543769265ea08095671a3479f23", func := "pigeonhole/pigeonholelaw12.PloRoom", spec := "ploRoom", unfollowed := true, recurses := true, apart := false, narrowed := true }
def PloRoomUptoSaid : Prop := ploRoomUptoRow.holds Try.pinned (OpenSpec.upto ploRoomSpec)

/-- 'pigeonholelaw12.PloOrders', WHERE WHAT IT READS IS OF BULK AT MOST 1048576: true; the input reads as it did. -/
def ploOrdersUptoRow : OpenClaim := { program := "ytdlikcdmhgbolaa", sum := "55d782194cc627532f623f3eebad4607314ae543769265ea08095671a3479f23", func := "pigeonhole/pigeonholelaw12.PloOrders", spec := "ploOrders", unfollowed := true, recurses := true, apart := false, narrowed := true }
def PloOrdersUptoSaid : Prop := ploOrdersUptoRow.holds Try.pinned (OpenSpec.upto ploOrdersSpec)

/-- 'pigeonholelaw12.PloGapTells', WHERE WHAT IT READS IS OF BULK AT MOST 1048576: true; the input reads as it did. -/
def ploGapTellsUptoRow : OpenClaim := { program := "ytdlikcdmhgbolaa", sum := "55d782194cc627532f623f3eebad4607314ae543769265ea08095671a3479f23", func := "pigeonhole/pigeonholelaw12.PloGapTells", spec := "ploGapTells", unfollowed := true, recurses := true, apart := false, narrowed := true }
def PloGapTellsUptoSaid : Prop := ploGapTellsUptoRow.holds Try.pinned (OpenSpec.upto ploGapTellsSpec)

end Rows
end Go.Proofs.Ytdlikcdmhgbolaa
