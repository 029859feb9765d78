/-
  No cell of these rows narrows 'for every input' (looked for: loops, veiled, ifaces, maps, wideKeys, modest, calm, conditions, laid).
  DERIVED. THE GIVEN ROWS OF THIS SEAT. 9 by the template 'for every input the law returns true; each argument reads behind the call as it read before'; 0 by the template 'total and deterministic' (their statements: YtnjopepdjmifjaaTotals.lean).
  GIVEN WITH THE SEED: the statements are not yours to turn. If you find one false, say at which input.
  Laid BY PROGRAM, IN A SANDBOX (cutbox-rows.mjs): the forced cells as the released guide's own fill.sh prints them over the translation d2f050f8cfa3cfd2… (all of the seat's roots in one cut). By AI agents, Wed Nov 11 2026. No macro, syntax, notation, axiom, sorry.
-/
import Derived.Test.YtnjopepdjmifjaaChecked
import GoSem.Claim
import GoSem.ClaimJoined
import GoSem.ClaimMapViews
import Derived.JoinedTies
import Derived.KernelRfl
namespace Go.Proofs.Ytnjopepdjmifjaa
/- THE CELL 'sum', in the pinned program and in every row, IS THE sha256 OF THE DUMP (.gsa) THAT YtnjopepdjmifjaaProg.lean LOADS. Nothing in Lean hashes anything: it is a label: what it is worth is what the hold of that sum in a sandbox is worth. -/
noncomputable def Try.pinned : Pinned := { name := "ytnjopepdjmifjaa", sum := "d2f050f8cfa3cfd267ba2eaa540f88fa228b9901b2322db7a947591e0b1fc24d", checked := Try.checked }
namespace Rows
def none {H : Type} : Left H := { results := [], args := [] }

/-- 'pigeonholelaw01.AddrMasks': WHATEVER THE INPUT: true; the input reads as it did. -/
def addrMasksSpec : ChangeSpec := { name := "addrMasks", fn := fun _ => fun
  | [d1, d2] => { results := [.lit (.bool true)], args := [d1, d2] }
  | _ => none }
def addrMasksRow : OpenClaim := { program := "ytnjopepdjmifjaa", sum := "d2f050f8cfa3cfd267ba2eaa540f88fa228b9901b2322db7a947591e0b1fc24d", func := "pigeonhole/pigeonholelaw01.AddrMasks", spec := "addrMasks", apart := false }
def AddrMasksSaid : Prop := addrMasksRow.holds Try.pinned (OpenSpec.ofChange addrMasksSpec)

/-- ITS FALSE NEIGHBOUR: 'it returns false'. Refute it at one input. -/
def addrMasksWrong : ChangeSpec := { name := "addrMasks", fn := fun _ => fun
  | [d1, d2] => { results := [.lit (.bool false)], args := [d1, d2] }
  | _ => none }
def AddrMasksWrongFalsely : Prop := addrMasksRow.holds Try.pinned (OpenSpec.ofChange addrMasksWrong)

/-- 'pigeonholelaw01.AddrCounts': WHATEVER THE INPUT: true; the input reads as it did. -/
def addrCountsSpec : ChangeSpec := { name := "addrCounts", fn := fun _ => fun
  | [d] => { results := [.lit (.bool true)], args := [d] }
  | _ => none }
def addrCountsRow : OpenClaim := { program := "ytnjopepdjmifjaa", sum := "d2f050f8cfa3cfd267ba2eaa540f88fa228b9901b2322db7a947591e0b1fc24d", func := "pigeonhole/pigeonholelaw01.AddrCounts", spec := "addrCounts", apart := false }
def AddrCountsSaid : Prop := addrCountsRow.holds Try.pinned (OpenSpec.ofChange addrCountsSpec)

/-- ITS FALSE NEIGHBOUR: 'it returns false'. Refute it at one input. -/
def addrCountsWrong : ChangeSpec := { name := "addrCounts", fn := fun _ => fun
  | [d] => { results := [.lit (.bool false)], args := [d] }
  | _ => none }
def AddrCountsWrongFalsely : Prop := addrCountsRow.holds Try.pinned (OpenSpec.ofChange addrCountsWrong)

/-- 'pigeonholelaw01.AddrCuts': WHATEVER THE INPUT: true; the input reads as it did. -/
def addrCutsSpec : ChangeSpec := { name := "addrCuts", fn := fun _ => fun
  | [d1, d2] => { results := [.lit (.bool true)], args := [d1, d2] }
  | _ => none }
def addrCutsRow : OpenClaim := { program := "ytnjopepdjmifjaa", sum := "d2f050f8cfa3cfd267ba2eaa540f88fa228b9901b2322db7a947591e0b1fc24d", func := "pigeonhole/pigeonholelaw01.AddrCuts", spec := "addrCuts", apart := false }
def AddrCutsSaid : Prop := addrCutsRow.holds Try.pinned (OpenSpec.ofChange addrCutsSpec)

/-- ITS FALSE NEIGHBOUR: 'it returns false'. Refute it at one input. -/
def addrCutsWrong : ChangeSpec := { name := "addrCuts", fn := fun _ => fun
  | [d1, d2] => { results := [.lit (.bool false)], args := [d1, d2] }
  | _ => none }
def AddrCutsWrongFalsely : Prop := addrCutsRow.holds Try.pinned (OpenSpec.ofChange addrCutsWrong)

/-- 'pigeonholelaw01.AddrOps': WHATEVER THE INPUT: true; the input reads as it did. -/
def addrOpsSpec : ChangeSpec := { name := "addrOps", fn := fun _ => fun
  | [d1, d2] => { results := [.lit (.bool true)], args := [d1, d2] }
  | _ => none }
def addrOpsRow : OpenClaim := { program := "ytnjopepdjmifjaa", sum := "d2f050f8cfa3cfd267ba2eaa540f88fa228b9901b2322db7a947591e0b1fc24d", func := "pigeonhole/pigeonholelaw01.AddrOps", spec := "addrOps", apart := false }
def AddrOpsSaid : Prop := addrOpsRow.holds Try.pinned (OpenSpec.ofChange addrOpsSpec)

/-- ITS FALSE NEIGHBOUR: 'it returns false'. Refute it at one input. -/
def addrOpsWrong : ChangeSpec := { name := "addrOps", fn := fun _ => fun
  | [d1, d2] => { results := [.lit (.bool false)], args := [d1, d2] }
  | _ => none }
def AddrOpsWrongFalsely : Prop := addrOpsRow.holds Try.pinned (OpenSpec.ofChange addrOpsWrong)

/-- 'pigeonholelaw01.AddrAlgebra': WHATEVER THE INPUT: true; the input reads as it did. -/
def addrAlgebraSpec : ChangeSpec := { name := "addrAlgebra", fn := fun _ => fun
  | [d1, d2, d3] => { results := [.lit (.bool true)], args := [d1, d2, d3] }
  | _ => none }
def addrAlgebraRow : OpenClaim := { program := "ytnjopepdjmifjaa", sum := "d2f050f8cfa3cfd267ba2eaa540f88fa228b9901b2322db7a947591e0b1fc24d", func := "pigeonhole/pigeonholelaw01.AddrAlgebra", spec := "addrAlgebra", apart := false }
def AddrAlgebraSaid : Prop := addrAlgebraRow.holds Try.pinned (OpenSpec.ofChange addrAlgebraSpec)

/-- ITS FALSE NEIGHBOUR: 'it returns false'. Refute it at one input. -/
def addrAlgebraWrong : ChangeSpec := { name := "addrAlgebra", fn := fun _ => fun
  | [d1, d2, d3] => { results := [.lit (.bool false)], args := [d1, d2, d3] }
  | _ => none }
def AddrAlgebraWrongFalsely : Prop := addrAlgebraRow.holds Try.pinned (OpenSpec.ofChange addrAlgebraWrong)

/-- 'pigeonholelaw01.AddrBits': WHATEVER THE INPUT: true; the input reads as it did. -/
def addrBitsSpec : ChangeSpec := { name := "addrBits", fn := fun _ => fun
  | [d1, d2, d3] => { results := [.lit (.bool true)], args := [d1, d2, d3] }
  | _ => none }
def addrBitsRow : OpenClaim := { program := "ytnjopepdjmifjaa", sum := "d2f050f8cfa3cfd267ba2eaa540f88fa228b9901b2322db7a947591e0b1fc24d", func := "pigeonhole/pigeonholelaw01.AddrBits", spec := "addrBits", apart := false }
def AddrBitsSaid : Prop := addrBitsRow.holds Try.pinned (OpenSpec.ofChange addrBitsSpec)

/-- ITS FALSE NEIGHBOUR: 'it returns false'. Refute it at one input. -/
def addrBitsWrong : ChangeSpec := { name := "addrBits", fn := fun _ => fun
  | [d1, d2, d3] => { results := [.lit (.bool false)], args := [d1, d2, d3] }
  | _ => none }
def AddrBitsWrongFalsely : Prop := addrBitsRow.holds Try.pinned (OpenSpec.ofChange addrBitsWrong)

/-- 'pigeonholelaw01.AddrWiths': WHATEVER THE INPUT: true; the input reads as it did. -/
def addrWithsSpec : ChangeSpec := { name := "addrWiths", fn := fun _ => fun
  | [d1, d2, d3] => { results := [.lit (.bool true)], args := [d1, d2, d3] }
  | _ => none }
def addrWithsRow : OpenClaim := { program := "ytnjopepdjmifjaa", sum := "d2f050f8cfa3cfd267ba2eaa540f88fa228b9901b2322db7a947591e0b1fc24d", func := "pigeonhole/pigeonholelaw01.AddrWiths", spec := "addrWiths", apart := false }
def AddrWithsSaid : Prop := addrWithsRow.holds Try.pinned (OpenSpec.ofChange addrWithsSpec)

/-- ITS FALSE NEIGHBOUR: 'it returns false'. Refute it at one input. -/
def addrWithsWrong : ChangeSpec := { name := "addrWiths", fn := fun _ => fun
  | [d1, d2, d3] => { results := [.lit (.bool false)], args := [d1, d2, d3] }
  | _ => none }
def AddrWithsWrongFalsely : Prop := addrWithsRow.holds Try.pinned (OpenSpec.ofChange addrWithsWrong)

/-- 'pigeonholelaw01.AddrOrder': WHATEVER THE INPUT: true; the input reads as it did. -/
def addrOrderSpec : ChangeSpec := { name := "addrOrder", fn := fun _ => fun
  | [d1, d2] => { results := [.lit (.bool true)], args := [d1, d2] }
  | _ => none }
def addrOrderRow : OpenClaim := { program := "ytnjopepdjmifjaa", sum := "d2f050f8cfa3cfd267ba2eaa540f88fa228b9901b2322db7a947591e0b1fc24d", func := "pigeonhole/pigeonholelaw01.AddrOrder", spec := "addrOrder", apart := false }
def AddrOrderSaid : Prop := addrOrderRow.holds Try.pinned (OpenSpec.ofChange addrOrderSpec)

/-- ITS FALSE NEIGHBOUR: 'it returns false'. Refute it at one input. -/
def addrOrderWrong : ChangeSpec := { name := "addrOrder", fn := fun _ => fun
  | [d1, d2] => { results := [.lit (.bool false)], args := [d1, d2] }
  | _ => none }
def AddrOrderWrongFalsely : Prop := addrOrderRow.holds Try.pinned (OpenSpec.ofChange addrOrderWrong)

/-- 'pigeonholelaw01.AddrNexts': WHATEVER THE INPUT: true; the input reads as it did. -/
def addrNextsSpec : ChangeSpec := { name := "addrNexts", fn := fun _ => fun
  | [d1, d2] => { results := [.lit (.bool true)], args := [d1, d2] }
  | _ => none }
def addrNextsRow : OpenClaim := { program := "ytnjopepdjmifjaa", sum := "d2f050f8cfa3cfd267ba2eaa540f88fa228b9901b2322db7a947591e0b1fc24d", func := "pigeonhole/pigeonholelaw01.AddrNexts", spec := "addrNexts", apart := false }
def AddrNextsSaid : Prop := addrNextsRow.holds Try.pinned (OpenSpec.ofChange addrNextsSpec)

/-- ITS FALSE NEIGHBOUR: 'it returns false'. Refute it at one input. -/
def addrNextsWrong : ChangeSpec := { name := "addrNexts", fn := fun _ => fun
  | [d1, d2] => { results := [.lit (.bool false)], args := [d1, d2] }
  | _ => none }
def AddrNextsWrongFalsely : Prop := addrNextsRow.holds Try.pinned (OpenSpec.ofChange addrNextsWrong)

/- THE SECOND FORM. 'bulk': how many values and letters a reading holds, each counted each time it is reached (what is shared counts as often as it is met; a slice's spare places count too). A statement '..UptoSaid' is the law's where the arguments, and the package variables that the reading takes, are together of bulk at most 1048576: NARROWER than '..Said'. Prove '..Said' where nothing that the law and all that it calls make is longer than what came in: it says more and counts as full. Else prove '..UptoSaid'. A law counts once. -/
mutual
def uptoBulk {H : Type} : DataW H → Nat
  | .lit (.string bytes) => bytes.length + 1
  | .lit _ => 1
  | .nil => 1
  | .ptr d => uptoBulk d + 1
  | .slice elems spare => uptoBulkAll elems + uptoBulkAll spare + 1
  | .agg parts => uptoBulkAll parts + 1
  | .iface _ d => uptoBulk d + 1
  | .map entries => uptoBulkEntries entries + 1
  | .held _ => 1
def uptoBulkAll {H : Type} : List (DataW H) → Nat
  | [] => 0
  | d :: r => uptoBulk d + uptoBulkAll r
def uptoBulkEntries {H : Type} : List (Lit × DataW H) → Nat
  | [] => 0
  | x :: r => uptoBulkEntry x + uptoBulkEntries r
def uptoBulkEntry {H : Type} : Lit × DataW H → Nat
  | (.string bytes, d) => bytes.length + uptoBulk d + 1
  | (_, d) => uptoBulk d + 1
 end
def uptoSmall : (H : Type) → List (DataW H) → Bool := fun _ ds => decide (uptoBulkAll ds ≤ 1048576)
def OpenSpec.upto (s : _root_.Go.ChangeSpec) : _root_.Go.OpenSpec := { _root_.Go.OpenSpec.ofChange s with cond := some uptoSmall }

/-- 'pigeonholelaw01.AddrMasks', WHERE WHAT IT READS IS OF BULK AT MOST 1048576: true; the input reads as it did. -/
def addrMasksUptoRow : OpenClaim := { program := "ytnjopepdjmifjaa", sum := "d2f050f8cfa3cfd267ba2eaa540f88fa228b9901b2322db7a947591e0b1fc24d", func := "pigeonhole/pigeonholelaw01.AddrMasks", spec := "addrMasks", apart := false, narrowed := true }
def AddrMasksUptoSaid : Prop := addrMasksUptoRow.holds Try.pinned (OpenSpec.upto addrMasksSpec)

/-- 'pigeonholelaw01.AddrCounts', WHERE WHAT IT READS IS OF BULK AT MOST 1048576: true; the input reads as it did. -/
def addrCountsUptoRow : OpenClaim := { program := "ytnjopepdjmifjaa", sum := "d2f050f8cfa3cfd267ba2eaa540f88fa228b9901b2322db7a947591e0b1fc24d", func := "pigeonhole/pigeonholelaw01.AddrCounts", spec := "addrCounts", apart := false, narrowed := true }
def AddrCountsUptoSaid : Prop := addrCountsUptoRow.holds Try.pinned (OpenSpec.upto addrCountsSpec)

/-- 'pigeonholelaw01.AddrCuts', WHERE WHAT IT READS IS OF BULK AT MOST 1048576: true; the input reads as it did. -/
def addrCutsUptoRow : OpenClaim := { program := "ytnjopepdjmifjaa", sum := "d2f050f8cfa3cfd267ba2eaa540f88fa228b9901b2322db7a947591e0b1fc24d", func := "pigeonhole/pigeonholelaw01.AddrCuts", spec := "addrCuts", apart := false, narrowed := true }
def AddrCutsUptoSaid : Prop := addrCutsUptoRow.holds Try.pinned (OpenSpec.upto addrCutsSpec)

/-- 'pigeonholelaw01.AddrOps', WHERE WHAT IT READS IS OF BULK AT MOST 1048576: true; the input reads as it did. -/
def addrOpsUptoRow : OpenClaim := { program := "ytnjopepdjmifjaa", sum := "d2f050f8cfa3cfd267ba2eaa540f88fa228b9901b2322db7a947591e0b1fc24d", func := "pigeonhole/pigeonholelaw01.AddrOps", spec := "addrOps", apart := false, narrowed := true }
def AddrOpsUptoSaid : Prop := addrOpsUptoRow.holds Try.pinned (OpenSpec.upto addrOpsSpec)

/-- 'pigeonholelaw01.AddrAlgebra', WHERE WHAT IT READS IS OF BULK AT MOST 1048576: true; the input reads as it did. -/
def addrAlgebraUptoRow : OpenClaim := { program := "ytnjopepdjmifjaa", sum := "d2f050f8cfa3cfd267ba2eaa540f88fa228b9901b2322db7a947591e0b1fc24d", func := "pigeonhole/pigeonholelaw01.AddrAlgebra", spec := "addrAlgebra", apart := false, narrowed := true }
def AddrAlgebraUptoSaid : Prop := addrAlgebraUptoRow.holds Try.pinned (OpenSpec.upto addrAlgebraSpec)

/-- 'pigeonholelaw01.AddrBits', WHERE WHAT IT READS IS OF BULK AT MOST 1048576: true; the input reads as it did. -/
def addrBitsUptoRow : OpenClaim := { program := "ytnjopepdjmifjaa", sum := "d2f050f8cfa3cfd267ba2eaa540f88fa228b9901b2322db7a947591e0b1fc24d", func := "pigeonhole/pigeonholelaw01.AddrBits", spec := "addrBits", apart := false, narrowed := true }
def AddrBitsUptoSaid : Prop := addrBitsUptoRow.holds Try.pinned (OpenSpec.upto addrBitsSpec)

/-- 'pigeonholelaw01.AddrWiths', WHERE WHAT IT READS IS OF BULK AT MOST 1048576: true; the input reads as it did. -/
def addrWithsUptoRow : OpenClaim := { program := "ytnjopepdjmifjaa", sum := "d2f050f8cfa3cfd267ba2eaa540f88fa228b9901b2322db7a947591e0b1fc24d", func := "pigeonhole/pigeonholelaw01.AddrWiths", spec := "addrWiths", apart := false, narrowed := true }
def AddrWithsUptoSaid : Prop := addrWithsUptoRow.holds Try.pinned (OpenSpec.upto addrWithsSpec)

/-- 'pigeonholelaw01.AddrOrder', WHERE WHAT IT READS IS OF BULK AT MOST 1048576: true; the input reads as it did. -/
def addrOrderUptoRow : OpenClaim := { program := "ytnjopepdjmifjaa", sum := "d2f050f8cfa3cfd267ba2eaa540f88fa228b9901b2322db7a947591e0b1fc24d", func := "pigeonhole/pigeonholelaw01.AddrOrder", spec := "addrOrder", apart := false, narrowed := true }
def AddrOrderUptoSaid : Prop := addrOrderUptoRow.holds Try.pinned (OpenSpec.upto addrOrderSpec)

/-- 'pigeonholelaw01.AddrNexts', WHERE WHAT IT READS IS OF BULK AT MOST 1048576: true; the input reads as it did. -/
def addrNextsUptoRow : OpenClaim := { program := "ytnjopepdjmifjaa", sum := "d2f050f8cfa3cfd267ba2eaa540f88fa228b9901b2322db7a947591e0b1fc24d", func := "pigeonhole/pigeonholelaw01.AddrNexts", spec := "addrNexts", apart := false, narrowed := true }
def AddrNextsUptoSaid : Prop := addrNextsUptoRow.holds Try.pinned (OpenSpec.upto addrNextsSpec)

end Rows
end Go.Proofs.Ytnjopepdjmifjaa
