/-
  No cell of these rows narrows 'for every input' (looked for: loops, veiled, ifaces, maps, wideKeys, modest, calm, conditions, laid).
  DERIVED. THE GIVEN ROWS OF THIS SEAT. 4 by the template 'for every input the law returns true; each argument reads behind the call as it read before'; 0 by the template 'total and deterministic' (their statements: YtemfocnjlimicaaTotals.lean).
  GIVEN WITH THE SEED: the statements are not yours to turn. If you find one false, say at which input.
  Laid BY PROGRAM, IN A SANDBOX (cutbox-rows.mjs): the forced cells as the released guide's own fill.sh prints them over the translation 1e6462ed88758ae5… (all of the seat's roots in one cut). By AI agents, Wed Nov 11 2026. No macro, syntax, notation, axiom, sorry.
-/
import Derived.Test.YtemfocnjlimicaaChecked
import GoSem.Claim
import GoSem.ClaimJoined
import GoSem.ClaimMapViews
import Derived.JoinedTies
import Derived.KernelRfl
namespace Go.Proofs.Ytemfocnjlimicaa
/- THE CELL 'sum', in the pinned program and in every row, IS THE sha256 OF THE DUMP (.gsa) THAT YtemfocnjlimicaaProg.lean LOADS. Nothing in Lean hashes anything: it is a label: what it is worth is what the hold of that sum in a sandbox is worth. -/
noncomputable def Try.pinned : Pinned := { name := "ytemfocnjlimicaa", sum := "1e6462ed88758ae5cdf725faf7a26c0641166bdb35d1733fd562e80b1821b289", checked := Try.checked }
namespace Rows
def none {H : Type} : Left H := { results := [], args := [] }

/-- 'pigeonholelaw17.BoardSearches': WHATEVER THE INPUT: true; the input reads as it did. -/
def boardSearchesSpec : ChangeSpec := { name := "boardSearches", fn := fun _ => fun
  | [d1, d2, d3, d4] => { results := [.lit (.bool true)], args := [d1, d2, d3, d4] }
  | _ => none }
def boardSearchesRow : OpenClaim := { program := "ytemfocnjlimicaa", sum := "1e6462ed88758ae5cdf725faf7a26c0641166bdb35d1733fd562e80b1821b289", func := "pigeonhole/pigeonholelaw17.BoardSearches", spec := "boardSearches", unfollowed := true, recurses := true, apart := false }
def BoardSearchesSaid : Prop := boardSearchesRow.holds Try.pinned (OpenSpec.ofChange boardSearchesSpec)

/-- ITS FALSE NEIGHBOUR: 'it returns false'. Refute it at one input. -/
def boardSearchesWrong : ChangeSpec := { name := "boardSearches", fn := fun _ => fun
  | [d1, d2, d3, d4] => { results := [.lit (.bool false)], args := [d1, d2, d3, d4] }
  | _ => none }
def BoardSearchesWrongFalsely : Prop := boardSearchesRow.holds Try.pinned (OpenSpec.ofChange boardSearchesWrong)

/-- 'pigeonholelaw17.BoardOne': WHATEVER THE INPUT: true; the input reads as it did. -/
def boardOneSpec : ChangeSpec := { name := "boardOne", fn := fun _ => fun
  | [d1, d2, d3] => { results := [.lit (.bool true)], args := [d1, d2, d3] }
  | _ => none }
def boardOneRow : OpenClaim := { program := "ytemfocnjlimicaa", sum := "1e6462ed88758ae5cdf725faf7a26c0641166bdb35d1733fd562e80b1821b289", func := "pigeonhole/pigeonholelaw17.BoardOne", spec := "boardOne", unfollowed := true, recurses := true, apart := false }
def BoardOneSaid : Prop := boardOneRow.holds Try.pinned (OpenSpec.ofChange boardOneSpec)

/-- ITS FALSE NEIGHBOUR: 'it returns false'. Refute it at one input. -/
def boardOneWrong : ChangeSpec := { name := "boardOne", fn := fun _ => fun
  | [d1, d2, d3] => { results := [.lit (.bool false)], args := [d1, d2, d3] }
  | _ => none }
def BoardOneWrongFalsely : Prop := boardOneRow.holds Try.pinned (OpenSpec.ofChange boardOneWrong)

/-- 'pigeonholelaw17.BoardApart': WHATEVER THE INPUT: true; the input reads as it did. -/
def boardApartSpec : ChangeSpec := { name := "boardApart", fn := fun _ => fun
  | [d1, d2, d3, d4, d5] => { results := [.lit (.bool true)], args := [d1, d2, d3, d4, d5] }
  | _ => none }
def boardApartRow : OpenClaim := { program := "ytemfocnjlimicaa", sum := "1e6462ed88758ae5cdf725faf7a26c0641166bdb35d1733fd562e80b1821b289", func := "pigeonhole/pigeonholelaw17.BoardApart", spec := "boardApart", unfollowed := true, recurses := true, apart := false }
def BoardApartSaid : Prop := boardApartRow.holds Try.pinned (OpenSpec.ofChange boardApartSpec)

/-- ITS FALSE NEIGHBOUR: 'it returns false'. Refute it at one input. -/
def boardApartWrong : ChangeSpec := { name := "boardApart", fn := fun _ => fun
  | [d1, d2, d3, d4, d5] => { results := [.lit (.bool false)], args := [d1, d2, d3, d4, d5] }
  | _ => none }
def BoardApartWrongFalsely : Prop := boardApartRow.holds Try.pinned (OpenSpec.ofChange boardApartWrong)

/-- 'pigeonholelaw17.BoardWrites': WHATEVER THE INPUT: true; the input reads as it did. -/
def boardWritesSpec : ChangeSpec := { name := "boardWrites", fn := fun _ => fun
  | [d1, d2, d3] => { results := [.lit (.bool true)], args := [d1, d2, d3] }
  | _ => none }
def boardWritesRow : OpenClaim := { program := "ytemfocnjlimicaa", sum := "1e6462ed88758ae5cdf725faf7a26c0641166bdb35d1733fd562e80b1821b289", func := "pigeonhole/pigeonholelaw17.BoardWrites", spec := "boardWrites", unfollowed := true, recurses := true, apart := false }
def BoardWritesSaid : Prop := boardWritesRow.holds Try.pinned (OpenSpec.ofChange boardWritesSpec)

/-- ITS FALSE NEIGHBOUR: 'it returns false'. Refute it at one input. -/
def boardWritesWrong : ChangeSpec := { name := "boardWrites", fn := fun _ => fun
  | [d1, d2, d3] => { results := [.lit (.bool false)], args := [d1, d2, d3] }
  | _ => none }
def BoardWritesWrongFalsely : Prop := boardWritesRow.holds Try.pinned (OpenSpec.ofChange boardWritesWrong)

/- THE SECOND FORM. 'bulk': how many values and letters a reading holds, each counted each time it is reached (what is shared counts as often as it is met; a slice's spare places count too). A statement '..UptoSaid' is the law's where the arguments, and the package variables that the reading takes, are together of bulk at most 1048576: NARROWER than '..Said'. Prove '..Said' where nothing that the law and all that it calls make is longer than what came in: it says more and counts as full. Else prove '..UptoSaid'. A law counts once. -/
mutual
def uptoBulk {H : Type} : DataW H → Nat
  | .lit (.string bytes) => bytes.length + 1
  | .lit _ => 1
  | .nil => 1
  | .ptr d => uptoBulk d + 1
  | .slice elems spare => uptoBulkAll elems + uptoBulkAll spare + 1
  | .agg parts => uptoBulkAll parts + 1
  | .iface _ d => uptoBulk d + 1
  | .map entries => uptoBulkEntries entries + 1
  | .held _ => 1
def uptoBulkAll {H : Type} : List (DataW H) → Nat
  | [] => 0
  | d :: r => uptoBulk d + uptoBulkAll r
def uptoBulkEntries {H : Type} : List (Lit × DataW H) → Nat
  | [] => 0
  | x :: r => uptoBulkEntry x + uptoBulkEntries r
def uptoBulkEntry {H : Type} : Lit × DataW H → Nat
  | (.string bytes, d) => bytes.length + uptoBulk d + 1
  | (_, d) => uptoBulk d + 1
 end
def uptoSmall : (H : Type) → List (DataW H) → Bool := fun _ ds => decide (uptoBulkAll ds ≤ 1048576)
def OpenSpec.upto (s : _root_.Go.ChangeSpec) : _root_.Go.OpenSpec := { _root_.Go.OpenSpec.ofChange s with cond := some uptoSmall }

/-- 'pigeonholelaw17.BoardSearches', WHERE WHAT IT READS IS OF BULK AT MOST 1048576: true; the input reads as it did. -/
def boardSearchesUptoRow : OpenClaim := { program := "ytemfocnjlimicaa", sum := "1e6462ed88758ae5cdf725faf7a26c0641166bdb35d1733fd562e80b1821b289", func := "pigeonhole/pigeonholelaw17.BoardSearches", spec := "boardSearches", unfollowed := true, recurses := true, apart := false, narrowed := true }
def BoardSearchesUptoSaid : Prop := boardSearchesUptoRow.holds Try.pinned (OpenSpec.upto boardSearchesSpec)

/-- 'pigeonholelaw17.BoardOne', WHERE WHAT IT READS IS OF BULK AT MOST 1048576: true; the input reads as it did. -/
def boardOneUptoRow : OpenClaim := { program := "ytemfocnjlimicaa", sum := "1e6462ed88758ae5cdf725faf7a26c0641166bdb35d1733fd562e80b1821b289", func := "pigeonhole/pigeonholelaw17.BoardOne", spec := "boardOne", unfollowed := true, recurses := true, apart := false, narrowed := true }
def BoardOneUptoSaid : Prop := boardOneUptoRow.holds Try.pinned (OpenSpec.upto boardOneSpec)

/-- 'pigeonholelaw17.BoardApart', WHERE WHAT IT READS IS OF BULK AT MOST 1048576: true; the input reads as it did. -/
def boardApartUptoRow : OpenClaim := { program := "ytemfocnjlimicaa", sum := "1e6462ed88758ae5cdf725faf7a26c0641166bdb35d1733fd562e80b1821b289", func := "pigeonhole/pigeonholelaw17.BoardApart", spec := "boardApart", unfollowed := true, recurses := true, apart := false, narrowed := true }
def BoardApartUptoSaid : Prop := boardApartUptoRow.holds Try.pinned (OpenSpec.upto boardApartSpec)

/-- 'pigeonholelaw17.BoardWrites', WHERE WHAT IT READS IS OF BULK AT MOST 1048576: true; the input reads as it did. -/
def boardWritesUptoRow : OpenClaim := { program := "ytemfocnjlimicaa", sum := "1e6462ed88758ae5cdf725faf7a26c0641166bdb35d1733fd562e80b1821b289", func := "pigeonhole/pigeonholelaw17.BoardWrites", spec := "boardWrites", unfollowed := true, recurses := true, apart := false, narrowed := true }
def BoardWritesUptoSaid : Prop := boardWritesUptoRow.holds Try.pinned (OpenSpec.upto boardWritesSpec)

end Rows
end Go.Proofs.Ytemfocnjlimicaa
