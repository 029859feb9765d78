/-
  No cell of these rows narrows 'for every input' (looked for: loops, veiled, ifaces, maps, wideKeys, modest, calm, conditions, laid).
  DERIVED. THE GIVEN ROWS OF THIS SEAT. 6 by the template 'for every input the law returns true; each argument reads behind the call as it read before'; 0 by the template 'total and deterministic' (their statements: YtlmadimnoknheaaTotals.lean).
  GIVEN WITH THE SEED: the statements are not yours to turn. If you find one false, say at which input.
  Laid BY PROGRAM, IN A SANDBOX (cutbox-rows.mjs): the forced cells as the released guide's own fill.sh prints them over the translation 0528eae81b90a240… (all of the seat's roots in one cut). By AI agents, Wed Nov 11 2026. No macro, syntax, notation, axiom, sorry.
-/
import Derived.Test.YtlmadimnoknheaaChecked
import GoSem.Claim
import GoSem.ClaimJoined
import GoSem.ClaimMapViews
import Derived.JoinedTies
import Derived.KernelRfl
namespace Go.Proofs.Ytlmadimnoknheaa
/- THE CELL 'sum', in the pinned program and in every row, IS THE sha256 OF THE DUMP (.gsa) THAT YtlmadimnoknheaaProg.lean LOADS. Nothing in Lean hashes anything: it is a label: what it is worth is what the hold of that sum in a sandbox is worth. -/
noncomputable def Try.pinned : Pinned := { name := "ytlmadimnoknheaa", sum := "0528eae81b90a24061fb06eb95525c3c6793d33d855ca5110a82598f63a08c5f", checked := Try.checked }
namespace Rows
def none {H : Type} : Left H := { results := [], args := [] }

/-- 'pigeonholelaw16.SplitBanks': WHATEVER THE INPUT: true; the input reads as it did. -/
def splitBanksSpec : ChangeSpec := { name := "splitBanks", fn := fun _ => fun
  | [d1, d2, d3] => { results := [.lit (.bool true)], args := [d1, d2, d3] }
  | _ => none }
def splitBanksRow : OpenClaim := { program := "ytlmadimnoknheaa", sum := "0528eae81b90a24061fb06eb95525c3c6793d33d855ca5110a82598f63a08c5f", func := "pigeonhole/pigeonholelaw16.SplitBanks", spec := "splitBanks", unfollowed := true, recurses := true, apart := false }
def SplitBanksSaid : Prop := splitBanksRow.holds Try.pinned (OpenSpec.ofChange splitBanksSpec)

/-- ITS FALSE NEIGHBOUR: 'it returns false'. Refute it at one input. -/
def splitBanksWrong : ChangeSpec := { name := "splitBanks", fn := fun _ => fun
  | [d1, d2, d3] => { results := [.lit (.bool false)], args := [d1, d2, d3] }
  | _ => none }
def SplitBanksWrongFalsely : Prop := splitBanksRow.holds Try.pinned (OpenSpec.ofChange splitBanksWrong)

/-- 'pigeonholelaw16.SplitParts': WHATEVER THE INPUT: true; the input reads as it did. -/
def splitPartsSpec : ChangeSpec := { name := "splitParts", fn := fun _ => fun
  | [d1, d2, d3] => { results := [.lit (.bool true)], args := [d1, d2, d3] }
  | _ => none }
def splitPartsRow : OpenClaim := { program := "ytlmadimnoknheaa", sum := "0528eae81b90a24061fb06eb95525c3c6793d33d855ca5110a82598f63a08c5f", func := "pigeonhole/pigeonholelaw16.SplitParts", spec := "splitParts", unfollowed := true, recurses := true, apart := false }
def SplitPartsSaid : Prop := splitPartsRow.holds Try.pinned (OpenSpec.ofChange splitPartsSpec)

/-- ITS FALSE NEIGHBOUR: 'it returns false'. Refute it at one input. -/
def splitPartsWrong : ChangeSpec := { name := "splitParts", fn := fun _ => fun
  | [d1, d2, d3] => { results := [.lit (.bool false)], args := [d1, d2, d3] }
  | _ => none }
def SplitPartsWrongFalsely : Prop := splitPartsRow.holds Try.pinned (OpenSpec.ofChange splitPartsWrong)

/-- 'pigeonholelaw16.SplitAll': WHATEVER THE INPUT: true; the input reads as it did. -/
def splitAllSpec : ChangeSpec := { name := "splitAll", fn := fun _ => fun
  | [d1, d2] => { results := [.lit (.bool true)], args := [d1, d2] }
  | _ => none }
def splitAllRow : OpenClaim := { program := "ytlmadimnoknheaa", sum := "0528eae81b90a24061fb06eb95525c3c6793d33d855ca5110a82598f63a08c5f", func := "pigeonhole/pigeonholelaw16.SplitAll", spec := "splitAll", unfollowed := true, recurses := true, apart := false }
def SplitAllSaid : Prop := splitAllRow.holds Try.pinned (OpenSpec.ofChange splitAllSpec)

/-- ITS FALSE NEIGHBOUR: 'it returns false'. Refute it at one input. -/
def splitAllWrong : ChangeSpec := { name := "splitAll", fn := fun _ => fun
  | [d1, d2] => { results := [.lit (.bool false)], args := [d1, d2] }
  | _ => none }
def SplitAllWrongFalsely : Prop := splitAllRow.holds Try.pinned (OpenSpec.ofChange splitAllWrong)

/-- 'pigeonholelaw16.SplitFiner': WHATEVER THE INPUT: true; the input reads as it did. -/
def splitFinerSpec : ChangeSpec := { name := "splitFiner", fn := fun _ => fun
  | [d1, d2] => { results := [.lit (.bool true)], args := [d1, d2] }
  | _ => none }
def splitFinerRow : OpenClaim := { program := "ytlmadimnoknheaa", sum := "0528eae81b90a24061fb06eb95525c3c6793d33d855ca5110a82598f63a08c5f", func := "pigeonhole/pigeonholelaw16.SplitFiner", spec := "splitFiner", unfollowed := true, recurses := true, apart := false }
def SplitFinerSaid : Prop := splitFinerRow.holds Try.pinned (OpenSpec.ofChange splitFinerSpec)

/-- ITS FALSE NEIGHBOUR: 'it returns false'. Refute it at one input. -/
def splitFinerWrong : ChangeSpec := { name := "splitFiner", fn := fun _ => fun
  | [d1, d2] => { results := [.lit (.bool false)], args := [d1, d2] }
  | _ => none }
def SplitFinerWrongFalsely : Prop := splitFinerRow.holds Try.pinned (OpenSpec.ofChange splitFinerWrong)

/-- 'pigeonholelaw16.SplitTells': WHATEVER THE INPUT: true; the input reads as it did. -/
def splitTellsSpec : ChangeSpec := { name := "splitTells", fn := fun _ => fun
  | [d1, d2, d3] => { results := [.lit (.bool true)], args := [d1, d2, d3] }
  | _ => none }
def splitTellsRow : OpenClaim := { program := "ytlmadimnoknheaa", sum := "0528eae81b90a24061fb06eb95525c3c6793d33d855ca5110a82598f63a08c5f", func := "pigeonhole/pigeonholelaw16.SplitTells", spec := "splitTells", unfollowed := true, recurses := true, apart := false }
def SplitTellsSaid : Prop := splitTellsRow.holds Try.pinned (OpenSpec.ofChange splitTellsSpec)

/-- ITS FALSE NEIGHBOUR: 'it returns false'. Refute it at one input. -/
def splitTellsWrong : ChangeSpec := { name := "splitTells", fn := fun _ => fun
  | [d1, d2, d3] => { results := [.lit (.bool false)], args := [d1, d2, d3] }
  | _ => none }
def SplitTellsWrongFalsely : Prop := splitTellsRow.holds Try.pinned (OpenSpec.ofChange splitTellsWrong)

/-- 'pigeonholelaw16.SplitSome': WHATEVER THE INPUT: true; the input reads as it did. -/
def splitSomeSpec : ChangeSpec := { name := "splitSome", fn := fun _ => fun
  | [d1, d2, d3] => { results := [.lit (.bool true)], args := [d1, d2, d3] }
  | _ => none }
def splitSomeRow : OpenClaim := { program := "ytlmadimnoknheaa", sum := "0528eae81b90a24061fb06eb95525c3c6793d33d855ca5110a82598f63a08c5f", func := "pigeonhole/pigeonholelaw16.SplitSome", spec := "splitSome", unfollowed := true, recurses := true, apart := false }
def SplitSomeSaid : Prop := splitSomeRow.holds Try.pinned (OpenSpec.ofChange splitSomeSpec)

/-- ITS FALSE NEIGHBOUR: 'it returns false'. Refute it at one input. -/
def splitSomeWrong : ChangeSpec := { name := "splitSome", fn := fun _ => fun
  | [d1, d2, d3] => { results := [.lit (.bool false)], args := [d1, d2, d3] }
  | _ => none }
def SplitSomeWrongFalsely : Prop := splitSomeRow.holds Try.pinned (OpenSpec.ofChange splitSomeWrong)

/- THE SECOND FORM. 'bulk': how many values and letters a reading holds, each counted each time it is reached (what is shared counts as often as it is met; a slice's spare places count too). A statement '..UptoSaid' is the law's where the arguments, and the package variables that the reading takes, are together of bulk at most 1048576: NARROWER than '..Said'. Prove '..Said' where nothing that the law and all that it calls make is longer than what came in: it says more and counts as full. Else prove '..UptoSaid'. A law counts once. -/
mutual
def uptoBulk {H : Type} : DataW H → Nat
  | .lit (.string bytes) => bytes.length + 1
  | .lit _ => 1
  | .nil => 1
  | .ptr d => uptoBulk d + 1
  | .slice elems spare => uptoBulkAll elems + uptoBulkAll spare + 1
  | .agg parts => uptoBulkAll parts + 1
  | .iface _ d => uptoBulk d + 1
  | .map entries => uptoBulkEntries entries + 1
  | .held _ => 1
def uptoBulkAll {H : Type} : List (DataW H) → Nat
  | [] => 0
  | d :: r => uptoBulk d + uptoBulkAll r
def uptoBulkEntries {H : Type} : List (Lit × DataW H) → Nat
  | [] => 0
  | x :: r => uptoBulkEntry x + uptoBulkEntries r
def uptoBulkEntry {H : Type} : Lit × DataW H → Nat
  | (.string bytes, d) => bytes.length + uptoBulk d + 1
  | (_, d) => uptoBulk d + 1
 end
def uptoSmall : (H : Type) → List (DataW H) → Bool := fun _ ds => decide (uptoBulkAll ds ≤ 1048576)
def OpenSpec.upto (s : _root_.Go.ChangeSpec) : _root_.Go.OpenSpec := { _root_.Go.OpenSpec.ofChange s with cond := some uptoSmall }

/-- 'pigeonholelaw16.SplitBanks', WHERE WHAT IT READS IS OF BULK AT MOST 1048576: true; the input reads as it did. -/
def splitBanksUptoRow : OpenClaim := { program := "ytlmadimnoknheaa", sum := "0528eae81b90a24061fb06eb95525c3c6793d33d855ca5110a82598f63a08c5f", func := "pigeonhole/pigeonholelaw16.SplitBanks", spec := "splitBanks", unfollowed := true, recurses := true, apart := false, narrowed := true }
def SplitBanksUptoSaid : Prop := splitBanksUptoRow.holds Try.pinned (OpenSpec.upto splitBanksSpec)

/-- 'pigeonholelaw16.SplitParts', WHERE WHAT IT READS IS OF BULK AT MOST 1048576: true; the input reads as it did. -/
def splitPartsUptoRow : OpenClaim := { program := "ytlmadimnoknheaa", sum := "0528eae81b90a24061fb06eb95525c3c6793d33d855ca5110a82598f63a08c5f", func := "pigeonhole/pigeonholelaw16.SplitParts", spec := "splitParts", unfollowed := true, recurses := true, apart := false, narrowed := true }
def SplitPartsUptoSaid : Prop := splitPartsUptoRow.holds Try.pinned (OpenSpec.upto splitPartsSpec)

/-- 'pigeonholelaw16.SplitAll', WHERE WHAT IT READS IS OF BULK AT MOST 1048576: true; the input reads as it did. -/
def splitAllUptoRow : OpenClaim := { program := "ytlmadimnoknheaa", sum := "0528eae81b90a24061fb06eb95525c3c6793d33d855ca5110a82598f63a08c5f", func := "pigeonhole/pigeonholelaw16.SplitAll", spec := "splitAll", unfollowed := true, recurses := true, apart := false, narrowed := true }
def SplitAllUptoSaid : Prop := splitAllUptoRow.holds Try.pinned (OpenSpec.upto splitAllSpec)

/-- 'pigeonholelaw16.SplitFiner', WHERE WHAT IT READS IS OF BULK AT MOST 1048576: true; the input reads as it did. -/
def splitFinerUptoRow : OpenClaim := { program := "ytlmadimnoknheaa", sum := "0528eae81b90a24061fb06eb95525c3c6793d33d855ca5110a82598f63a08c5f", func := "pigeonhole/pigeonholelaw16.SplitFiner", spec := "splitFiner", unfollowed := true, recurses := true, apart := false, narrowed := true }
def SplitFinerUptoSaid : Prop := splitFinerUptoRow.holds Try.pinned (OpenSpec.upto splitFinerSpec)

/-- 'pigeonholelaw16.SplitTells', WHERE WHAT IT READS IS OF BULK AT MOST 1048576: true; the input reads as it did. -/
def splitTellsUptoRow : OpenClaim := { program := "ytlmadimnoknheaa", sum := "0528eae81b90a24061fb06eb95525c3c6793d33d855ca5110a82598f63a08c5f", func := "pigeonhole/pigeonholelaw16.SplitTells", spec := "splitTells", unfollowed := true, recurses := true, apart := false, narrowed := true }
def SplitTellsUptoSaid : Prop := splitTellsUptoRow.holds Try.pinned (OpenSpec.upto splitTellsSpec)

/-- 'pigeonholelaw16.SplitSome', WHERE WHAT IT READS IS OF BULK AT MOST 1048576: true; the input reads as it did. -/
def splitSomeUptoRow : OpenClaim := { program := "ytlmadimnoknheaa", sum := "0528eae81b90a24061fb06eb95525c3c6793d33d855ca5110a82598f63a08c5f", func := "pigeonhole/pigeonholelaw16.SplitSome", spec := "splitSome", unfollowed := true, recurses := true, apart := false, narrowed := true }
def SplitSomeUptoSaid : Prop := splitSomeUptoRow.holds Try.pinned (OpenSpec.upto splitSomeSpec)

end Rows
end Go.Proofs.Ytlmadimnoknheaa
