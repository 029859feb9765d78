/-
  No cell of these rows narrows 'for every input' (looked for: loops, veiled, ifaces, maps, wideKeys, modest, calm, conditions, laid).
  DERIVED. THE GIVEN ROWS OF THIS SEAT. 6 by the template 'for every input the law returns true; each argument reads behind the call as it read before'; 0 by the template 'total and deterministic' (their statements: YtdoghlncoinhoaaTotals.lean).
  GIVEN WITH THE SEED: the statements are not yours to turn. If you find one false, say at which input.
  Laid BY PROGRAM, IN A SANDBOX (cutbox-rows.mjs): the forced cells as the released guide's own fill.sh prints them over the translation e552724ace5469f4… (all of the seat's roots in one cut). By AI agents, Wed Nov 11 2026. No macro, syntax, notation, axiom, sorry.
-/
import Derived.Test.YtdoghlncoinhoaaChecked
import GoSem.Claim
import GoSem.ClaimJoined
import GoSem.ClaimMapViews
import Derived.JoinedTies
import Derived.KernelRfl
namespace Go.Proofs.Ytdoghlncoinhoaa
/- THE CELL 'sum', in the pinned program and in every row, IS THE sha256 OF THE DUMP (.gsa) THAT YtdoghlncoinhoaaProg.lean LOADS. Nothing in Lean hashes anything: it is a label: what it is worth is what the hold of that sum in a sandbox is worth. -/
noncomputable def Try.pinned : Pinned := { name := "ytdoghlncoinhoaa", sum := "e552724ace5469f49c7574d22a2d3acfd34e029d7d91e7a802d183daa5cd1ff7", checked := Try.checked }
namespace Rows
def none {H : Type} : Left H := { results := [], args := [] }

/-- 'pigeonholelaw09.PruneKeeps': WHATEVER THE INPUT: true; the input reads as it did. -/
def pruneKeepsSpec : ChangeSpec := { name := "pruneKeeps", fn := fun _ => fun
  | [d1, d2] => { results := [.lit (.bool true)], args := [d1, d2] }
  | _ => none }
def pruneKeepsRow : OpenClaim := { program := "ytdoghlncoinhoaa", sum := "e552724ace5469f49c7574d22a2d3acfd34e029d7d91e7a802d183daa5cd1ff7", func := "pigeonhole/pigeonholelaw09.PruneKeeps", spec := "pruneKeeps", unfollowed := true, recurses := true, apart := false }
def PruneKeepsSaid : Prop := pruneKeepsRow.holds Try.pinned (OpenSpec.ofChange pruneKeepsSpec)

/-- ITS FALSE NEIGHBOUR: 'it returns false'. Refute it at one input. -/
def pruneKeepsWrong : ChangeSpec := { name := "pruneKeeps", fn := fun _ => fun
  | [d1, d2] => { results := [.lit (.bool false)], args := [d1, d2] }
  | _ => none }
def PruneKeepsWrongFalsely : Prop := pruneKeepsRow.holds Try.pinned (OpenSpec.ofChange pruneKeepsWrong)

/-- 'pigeonholelaw09.PruneTells': WHATEVER THE INPUT: true; the input reads as it did. -/
def pruneTellsSpec : ChangeSpec := { name := "pruneTells", fn := fun _ => fun
  | [d1, d2] => { results := [.lit (.bool true)], args := [d1, d2] }
  | _ => none }
def pruneTellsRow : OpenClaim := { program := "ytdoghlncoinhoaa", sum := "e552724ace5469f49c7574d22a2d3acfd34e029d7d91e7a802d183daa5cd1ff7", func := "pigeonhole/pigeonholelaw09.PruneTells", spec := "pruneTells", unfollowed := true, recurses := true, apart := false }
def PruneTellsSaid : Prop := pruneTellsRow.holds Try.pinned (OpenSpec.ofChange pruneTellsSpec)

/-- ITS FALSE NEIGHBOUR: 'it returns false'. Refute it at one input. -/
def pruneTellsWrong : ChangeSpec := { name := "pruneTells", fn := fun _ => fun
  | [d1, d2] => { results := [.lit (.bool false)], args := [d1, d2] }
  | _ => none }
def PruneTellsWrongFalsely : Prop := pruneTellsRow.holds Try.pinned (OpenSpec.ofChange pruneTellsWrong)

/-- 'pigeonholelaw09.PruneLess': WHATEVER THE INPUT: true; the input reads as it did. -/
def pruneLessSpec : ChangeSpec := { name := "pruneLess", fn := fun _ => fun
  | [d1, d2] => { results := [.lit (.bool true)], args := [d1, d2] }
  | _ => none }
def pruneLessRow : OpenClaim := { program := "ytdoghlncoinhoaa", sum := "e552724ace5469f49c7574d22a2d3acfd34e029d7d91e7a802d183daa5cd1ff7", func := "pigeonhole/pigeonholelaw09.PruneLess", spec := "pruneLess", unfollowed := true, recurses := true, apart := false }
def PruneLessSaid : Prop := pruneLessRow.holds Try.pinned (OpenSpec.ofChange pruneLessSpec)

/-- ITS FALSE NEIGHBOUR: 'it returns false'. Refute it at one input. -/
def pruneLessWrong : ChangeSpec := { name := "pruneLess", fn := fun _ => fun
  | [d1, d2] => { results := [.lit (.bool false)], args := [d1, d2] }
  | _ => none }
def PruneLessWrongFalsely : Prop := pruneLessRow.holds Try.pinned (OpenSpec.ofChange pruneLessWrong)

/-- 'pigeonholelaw09.PruneTurns': WHATEVER THE INPUT: true; the input reads as it did. -/
def pruneTurnsSpec : ChangeSpec := { name := "pruneTurns", fn := fun _ => fun
  | [d] => { results := [.lit (.bool true)], args := [d] }
  | _ => none }
def pruneTurnsRow : OpenClaim := { program := "ytdoghlncoinhoaa", sum := "e552724ace5469f49c7574d22a2d3acfd34e029d7d91e7a802d183daa5cd1ff7", func := "pigeonhole/pigeonholelaw09.PruneTurns", spec := "pruneTurns", unfollowed := true, recurses := true, apart := false }
def PruneTurnsSaid : Prop := pruneTurnsRow.holds Try.pinned (OpenSpec.ofChange pruneTurnsSpec)

/-- ITS FALSE NEIGHBOUR: 'it returns false'. Refute it at one input. -/
def pruneTurnsWrong : ChangeSpec := { name := "pruneTurns", fn := fun _ => fun
  | [d] => { results := [.lit (.bool false)], args := [d] }
  | _ => none }
def PruneTurnsWrongFalsely : Prop := pruneTurnsRow.holds Try.pinned (OpenSpec.ofChange pruneTurnsWrong)

/-- 'pigeonholelaw09.PruneNeeds': WHATEVER THE INPUT: true; the input reads as it did. -/
def pruneNeedsSpec : ChangeSpec := { name := "pruneNeeds", fn := fun _ => fun
  | [d] => { results := [.lit (.bool true)], args := [d] }
  | _ => none }
def pruneNeedsRow : OpenClaim := { program := "ytdoghlncoinhoaa", sum := "e552724ace5469f49c7574d22a2d3acfd34e029d7d91e7a802d183daa5cd1ff7", func := "pigeonhole/pigeonholelaw09.PruneNeeds", spec := "pruneNeeds", unfollowed := true, recurses := true, apart := false }
def PruneNeedsSaid : Prop := pruneNeedsRow.holds Try.pinned (OpenSpec.ofChange pruneNeedsSpec)

/-- ITS FALSE NEIGHBOUR: 'it returns false'. Refute it at one input. -/
def pruneNeedsWrong : ChangeSpec := { name := "pruneNeeds", fn := fun _ => fun
  | [d] => { results := [.lit (.bool false)], args := [d] }
  | _ => none }
def PruneNeedsWrongFalsely : Prop := pruneNeedsRow.holds Try.pinned (OpenSpec.ofChange pruneNeedsWrong)

/-- 'pigeonholelaw09.PrunePuts': WHATEVER THE INPUT: true; the input reads as it did. -/
def prunePutsSpec : ChangeSpec := { name := "prunePuts", fn := fun _ => fun
  | [d1, d2] => { results := [.lit (.bool true)], args := [d1, d2] }
  | _ => none }
def prunePutsRow : OpenClaim := { program := "ytdoghlncoinhoaa", sum := "e552724ace5469f49c7574d22a2d3acfd34e029d7d91e7a802d183daa5cd1ff7", func := "pigeonhole/pigeonholelaw09.PrunePuts", spec := "prunePuts", inPlace := ["slices.overlaps[pigeonhole/rib.Route]"], unfollowed := true, recurses := true, apart := false }
def PrunePutsSaid : Prop := prunePutsRow.holds Try.pinned (OpenSpec.ofChange prunePutsSpec)

/-- ITS FALSE NEIGHBOUR: 'it returns false'. Refute it at one input. -/
def prunePutsWrong : ChangeSpec := { name := "prunePuts", fn := fun _ => fun
  | [d1, d2] => { results := [.lit (.bool false)], args := [d1, d2] }
  | _ => none }
def PrunePutsWrongFalsely : Prop := prunePutsRow.holds Try.pinned (OpenSpec.ofChange prunePutsWrong)

/- THE SECOND FORM. 'bulk': how many values and letters a reading holds, each counted each time it is reached (what is shared counts as often as it is met; a slice's spare places count too). A statement '..UptoSaid' is the law's where the arguments, and the package variables that the reading takes, are together of bulk at most 1048576: NARROWER than '..Said'. Prove '..Said' where nothing that the law and all that it calls make is longer than what came in: it says more and counts as full. Else prove '..UptoSaid'. A law counts once. -/
mutual
def uptoBulk {H : Type} : DataW H → Nat
  | .lit (.string bytes) => bytes.length + 1
  | .lit _ => 1
  | .nil => 1
  | .ptr d => uptoBulk d + 1
  | .slice elems spare => uptoBulkAll elems + uptoBulkAll spare + 1
  | .agg parts => uptoBulkAll parts + 1
  | .iface _ d => uptoBulk d + 1
  | .map entries => uptoBulkEntries entries + 1
  | .held _ => 1
def uptoBulkAll {H : Type} : List (DataW H) → Nat
  | [] => 0
  | d :: r => uptoBulk d + uptoBulkAll r
def uptoBulkEntries {H : Type} : List (Lit × DataW H) → Nat
  | [] => 0
  | x :: r => uptoBulkEntry x + uptoBulkEntries r
def uptoBulkEntry {H : Type} : Lit × DataW H → Nat
  | (.string bytes, d) => bytes.length + uptoBulk d + 1
  | (_, d) => uptoBulk d + 1
 end
def uptoSmall : (H : Type) → List (DataW H) → Bool := fun _ ds => decide (uptoBulkAll ds ≤ 1048576)
def OpenSpec.upto (s : _root_.Go.ChangeSpec) : _root_.Go.OpenSpec := { _root_.Go.OpenSpec.ofChange s with cond := some uptoSmall }

/-- 'pigeonholelaw09.PruneKeeps', WHERE WHAT IT READS IS OF BULK AT MOST 1048576: true; the input reads as it did. -/
def pruneKeepsUptoRow : OpenClaim := { program := "ytdoghlncoinhoaa", sum := "e552724ace5469f49c7574d22a2d3acfd34e029d7d91e7a802d183daa5cd1ff7", func := "pigeonhole/pigeonholelaw09.PruneKeeps", spec := "pruneKeeps", unfollowed := true, recurses := true, apart := false, narrowed := true }
def PruneKeepsUptoSaid : Prop := pruneKeepsUptoRow.holds Try.pinned (OpenSpec.upto pruneKeepsSpec)

/-- 'pigeonholelaw09.PruneTells', WHERE WHAT IT READS IS OF BULK AT MOST 1048576: true; the input reads as it did. -/
def pruneTellsUptoRow : OpenClaim := { program := "ytdoghlncoinhoaa", sum := "e552724ace5469f49c7574d22a2d3acfd34e029d7d91e7a802d183daa5cd1ff7", func := "pigeonhole/pigeonholelaw09.PruneTells", spec := "pruneTells", unfollowed := true, recurses := true, apart := false, narrowed := true }
def PruneTellsUptoSaid : Prop := pruneTellsUptoRow.holds Try.pinned (OpenSpec.upto pruneTellsSpec)

/-- 'pigeonholelaw09.PruneLess', WHERE WHAT IT READS IS OF BULK AT MOST 1048576: true; the input reads as it did. -/
def pruneLessUptoRow : OpenClaim := { program := "ytdoghlncoinhoaa", sum := "e552724ace5469f49c7574d22a2d3acfd34e029d7d91e7a802d183daa5cd1ff7", func := "pigeonhole/pigeonholelaw09.PruneLess", spec := "pruneLess", unfollowed := true, recurses := true, apart := false, narrowed := true }
def PruneLessUptoSaid : Prop := pruneLessUptoRow.holds Try.pinned (OpenSpec.upto pruneLessSpec)

/-- 'pigeonholelaw09.PruneTurns', WHERE WHAT IT READS IS OF BULK AT MOST 1048576: true; the input reads as it did. -/
def pruneTurnsUptoRow : OpenClaim := { program := "ytdoghlncoinhoaa", sum := "e552724ace5469f49c7574d22a2d3acfd34e029d7d91e7a802d183daa5cd1ff7", func := "pigeonhole/pigeonholelaw09.PruneTurns", spec := "pruneTurns", unfollowed := true, recurses := true, apart := false, narrowed := true }
def PruneTurnsUptoSaid : Prop := pruneTurnsUptoRow.holds Try.pinned (OpenSpec.upto pruneTurnsSpec)

/-- 'pigeonholelaw09.PruneNeeds', WHERE WHAT IT READS IS OF BULK AT MOST 1048576: true; the input reads as it did. -/
def pruneNeedsUptoRow : OpenClaim := { program := "ytdoghlncoinhoaa", sum := "e552724ace5469f49c7574d22a2d3acfd34e029d7d91e7a802d183daa5cd1ff7", func := "pigeonhole/pigeonholelaw09.PruneNeeds", spec := "pruneNeeds", unfollowed := true, recurses := true, apart := false, narrowed := true }
def PruneNeedsUptoSaid : Prop := pruneNeedsUptoRow.holds Try.pinned (OpenSpec.upto pruneNeedsSpec)

/-- 'pigeonholelaw09.PrunePuts', WHERE WHAT IT READS IS OF BULK AT MOST 1048576: true; the input reads as it did. -/
def prunePutsUptoRow : OpenClaim := { program := "ytdoghlncoinhoaa", sum := "e552724ace5469f49c7574d22a2d3acfd34e029d7d91e7a802d183daa5cd1ff7", func := "pigeonhole/pigeonholelaw09.PrunePuts", spec := "prunePuts", inPlace := ["slices.overlaps[pigeonhole/rib.Route]"], unfollowed := true, recurses := true, apart := false, narrowed := true }
def PrunePutsUptoSaid : Prop := prunePutsUptoRow.holds Try.pinned (OpenSpec.upto prunePutsSpec)

end Rows
end Go.Proofs.Ytdoghlncoinhoaa
