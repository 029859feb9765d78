/-
  No cell of these rows narrows 'for every input' (looked for: loops, veiled, ifaces, maps, wideKeys, modest, calm, conditions, laid).
  DERIVED. THE GIVEN ROWS OF THIS SEAT. 7 by the template 'for every input the law returns true; each argument reads behind the call as it read before'; 0 by the template 'total and deterministic' (their statements: YtpocbcohoefojaaTotals.lean).
  GIVEN WITH THE SEED: the statements are not yours to turn. If you find one false, say at which input.
  Laid BY PROGRAM, IN A SANDBOX (cutbox-rows.mjs): the forced cells as the released guide's own fill.sh prints them over the translation 7e708f2ad9a68452… (all of the seat's roots in one cut). By AI agents, Wed Nov 11 2026. No macro, syntax, notation, axiom, sorry.
-/
import Derived.Test.YtpocbcohoefojaaChecked
import GoSem.Claim
import GoSem.ClaimJoined
import GoSem.ClaimMapViews
import Derived.JoinedTies
import Derived.KernelRfl
namespace Go.Proofs.Ytpocbcohoefojaa
/- THE CELL 'sum', in the pinned program and in every row, IS THE sha256 OF THE DUMP (.gsa) THAT YtpocbcohoefojaaProg.lean LOADS. Nothing in Lean hashes anything: it is a label: what it is worth is what the hold of that sum in a sandbox is worth. -/
noncomputable def Try.pinned : Pinned := { name := "ytpocbcohoefojaa", sum := "7e708f2ad9a68452b43557badb4eda99f17dc5f2ef811c8377b3b836428a2809", checked := Try.checked }
namespace Rows
def none {H : Type} : Left H := { results := [], args := [] }

/-- 'pigeonholelaw08.BankWrites': WHATEVER THE INPUT: true; the input reads as it did. -/
def bankWritesSpec : ChangeSpec := { name := "bankWrites", fn := fun _ => fun
  | [d1, d2] => { results := [.lit (.bool true)], args := [d1, d2] }
  | _ => none }
def bankWritesRow : OpenClaim := { program := "ytpocbcohoefojaa", sum := "7e708f2ad9a68452b43557badb4eda99f17dc5f2ef811c8377b3b836428a2809", func := "pigeonhole/pigeonholelaw08.BankWrites", spec := "bankWrites", unfollowed := true, recurses := true, apart := false }
def BankWritesSaid : Prop := bankWritesRow.holds Try.pinned (OpenSpec.ofChange bankWritesSpec)

/-- ITS FALSE NEIGHBOUR: 'it returns false'. Refute it at one input. -/
def bankWritesWrong : ChangeSpec := { name := "bankWrites", fn := fun _ => fun
  | [d1, d2] => { results := [.lit (.bool false)], args := [d1, d2] }
  | _ => none }
def BankWritesWrongFalsely : Prop := bankWritesRow.holds Try.pinned (OpenSpec.ofChange bankWritesWrong)

/-- 'pigeonholelaw08.BankReads': WHATEVER THE INPUT: true; the input reads as it did. -/
def bankReadsSpec : ChangeSpec := { name := "bankReads", fn := fun _ => fun
  | [d1, d2, d3, d4] => { results := [.lit (.bool true)], args := [d1, d2, d3, d4] }
  | _ => none }
def bankReadsRow : OpenClaim := { program := "ytpocbcohoefojaa", sum := "7e708f2ad9a68452b43557badb4eda99f17dc5f2ef811c8377b3b836428a2809", func := "pigeonhole/pigeonholelaw08.BankReads", spec := "bankReads", unfollowed := true, recurses := true, apart := false }
def BankReadsSaid : Prop := bankReadsRow.holds Try.pinned (OpenSpec.ofChange bankReadsSpec)

/-- ITS FALSE NEIGHBOUR: 'it returns false'. Refute it at one input. -/
def bankReadsWrong : ChangeSpec := { name := "bankReads", fn := fun _ => fun
  | [d1, d2, d3, d4] => { results := [.lit (.bool false)], args := [d1, d2, d3, d4] }
  | _ => none }
def BankReadsWrongFalsely : Prop := bankReadsRow.holds Try.pinned (OpenSpec.ofChange bankReadsWrong)

/-- 'pigeonholelaw08.BankTells': WHATEVER THE INPUT: true; the input reads as it did. -/
def bankTellsSpec : ChangeSpec := { name := "bankTells", fn := fun _ => fun
  | [d1, d2, d3] => { results := [.lit (.bool true)], args := [d1, d2, d3] }
  | _ => none }
def bankTellsRow : OpenClaim := { program := "ytpocbcohoefojaa", sum := "7e708f2ad9a68452b43557badb4eda99f17dc5f2ef811c8377b3b836428a2809", func := "pigeonhole/pigeonholelaw08.BankTells", spec := "bankTells", unfollowed := true, recurses := true, apart := false }
def BankTellsSaid : Prop := bankTellsRow.holds Try.pinned (OpenSpec.ofChange bankTellsSpec)

/-- ITS FALSE NEIGHBOUR: 'it returns false'. Refute it at one input. -/
def bankTellsWrong : ChangeSpec := { name := "bankTells", fn := fun _ => fun
  | [d1, d2, d3] => { results := [.lit (.bool false)], args := [d1, d2, d3] }
  | _ => none }
def BankTellsWrongFalsely : Prop := bankTellsRow.holds Try.pinned (OpenSpec.ofChange bankTellsWrong)

/-- 'pigeonholelaw08.BankReplays': WHATEVER THE INPUT: true; the input reads as it did. -/
def bankReplaysSpec : ChangeSpec := { name := "bankReplays", fn := fun _ => fun
  | [d1, d2] => { results := [.lit (.bool true)], args := [d1, d2] }
  | _ => none }
def bankReplaysRow : OpenClaim := { program := "ytpocbcohoefojaa", sum := "7e708f2ad9a68452b43557badb4eda99f17dc5f2ef811c8377b3b836428a2809", func := "pigeonhole/pigeonholelaw08.BankReplays", spec := "bankReplays", unfollowed := true, recurses := true, apart := false }
def BankReplaysSaid : Prop := bankReplaysRow.holds Try.pinned (OpenSpec.ofChange bankReplaysSpec)

/-- ITS FALSE NEIGHBOUR: 'it returns false'. Refute it at one input. -/
def bankReplaysWrong : ChangeSpec := { name := "bankReplays", fn := fun _ => fun
  | [d1, d2] => { results := [.lit (.bool false)], args := [d1, d2] }
  | _ => none }
def BankReplaysWrongFalsely : Prop := bankReplaysRow.holds Try.pinned (OpenSpec.ofChange bankReplaysWrong)

/-- 'pigeonholelaw08.BankOrdered': WHATEVER THE INPUT: true; the input reads as it did. -/
def bankOrderedSpec : ChangeSpec := { name := "bankOrdered", fn := fun _ => fun
  | [d1, d2] => { results := [.lit (.bool true)], args := [d1, d2] }
  | _ => none }
def bankOrderedRow : OpenClaim := { program := "ytpocbcohoefojaa", sum := "7e708f2ad9a68452b43557badb4eda99f17dc5f2ef811c8377b3b836428a2809", func := "pigeonhole/pigeonholelaw08.BankOrdered", spec := "bankOrdered", unfollowed := true, recurses := true, apart := false }
def BankOrderedSaid : Prop := bankOrderedRow.holds Try.pinned (OpenSpec.ofChange bankOrderedSpec)

/-- ITS FALSE NEIGHBOUR: 'it returns false'. Refute it at one input. -/
def bankOrderedWrong : ChangeSpec := { name := "bankOrdered", fn := fun _ => fun
  | [d1, d2] => { results := [.lit (.bool false)], args := [d1, d2] }
  | _ => none }
def BankOrderedWrongFalsely : Prop := bankOrderedRow.holds Try.pinned (OpenSpec.ofChange bankOrderedWrong)

/-- 'pigeonholelaw08.BankApplies': WHATEVER THE INPUT: true; the input reads as it did. -/
def bankAppliesSpec : ChangeSpec := { name := "bankApplies", fn := fun _ => fun
  | [d1, d2, d3] => { results := [.lit (.bool true)], args := [d1, d2, d3] }
  | _ => none }
def bankAppliesRow : OpenClaim := { program := "ytpocbcohoefojaa", sum := "7e708f2ad9a68452b43557badb4eda99f17dc5f2ef811c8377b3b836428a2809", func := "pigeonhole/pigeonholelaw08.BankApplies", spec := "bankApplies", unfollowed := true, recurses := true, apart := false }
def BankAppliesSaid : Prop := bankAppliesRow.holds Try.pinned (OpenSpec.ofChange bankAppliesSpec)

/-- ITS FALSE NEIGHBOUR: 'it returns false'. Refute it at one input. -/
def bankAppliesWrong : ChangeSpec := { name := "bankApplies", fn := fun _ => fun
  | [d1, d2, d3] => { results := [.lit (.bool false)], args := [d1, d2, d3] }
  | _ => none }
def BankAppliesWrongFalsely : Prop := bankAppliesRow.holds Try.pinned (OpenSpec.ofChange bankAppliesWrong)

/-- 'pigeonholelaw08.BankOne': WHATEVER THE INPUT: true; the input reads as it did. -/
def bankOneSpec : ChangeSpec := { name := "bankOne", fn := fun _ => fun
  | [d1, d2, d3] => { results := [.lit (.bool true)], args := [d1, d2, d3] }
  | _ => none }
def bankOneRow : OpenClaim := { program := "ytpocbcohoefojaa", sum := "7e708f2ad9a68452b43557badb4eda99f17dc5f2ef811c8377b3b836428a2809", func := "pigeonhole/pigeonholelaw08.BankOne", spec := "bankOne", unfollowed := true, recurses := true, apart := false }
def BankOneSaid : Prop := bankOneRow.holds Try.pinned (OpenSpec.ofChange bankOneSpec)

/-- ITS FALSE NEIGHBOUR: 'it returns false'. Refute it at one input. -/
def bankOneWrong : ChangeSpec := { name := "bankOne", fn := fun _ => fun
  | [d1, d2, d3] => { results := [.lit (.bool false)], args := [d1, d2, d3] }
  | _ => none }
def BankOneWrongFalsely : Prop := bankOneRow.holds Try.pinned (OpenSpec.ofChange bankOneWrong)

/- THE SECOND FORM. 'bulk': how many values and letters a reading holds, each counted each time it is reached (what is shared counts as often as it is met; a slice's spare places count too). A statement '..UptoSaid' is the law's where the arguments, and the package variables that the reading takes, are together of bulk at most 1048576: NARROWER than '..Said'. Prove '..Said' where nothing that the law and all that it calls make is longer than what came in: it says more and counts as full. Else prove '..UptoSaid'. A law counts once. -/
mutual
def uptoBulk {H : Type} : DataW H → Nat
  | .lit (.string bytes) => bytes.length + 1
  | .lit _ => 1
  | .nil => 1
  | .ptr d => uptoBulk d + 1
  | .slice elems spare => uptoBulkAll elems + uptoBulkAll spare + 1
  | .agg parts => uptoBulkAll parts + 1
  | .iface _ d => uptoBulk d + 1
  | .map entries => uptoBulkEntries entries + 1
  | .held _ => 1
def uptoBulkAll {H : Type} : List (DataW H) → Nat
  | [] => 0
  | d :: r => uptoBulk d + uptoBulkAll r
def uptoBulkEntries {H : Type} : List (Lit × DataW H) → Nat
  | [] => 0
  | x :: r => uptoBulkEntry x + uptoBulkEntries r
def uptoBulkEntry {H : Type} : Lit × DataW H → Nat
  | (.string bytes, d) => bytes.length + uptoBulk d + 1
  | (_, d) => uptoBulk d + 1
 end
def uptoSmall : (H : Type) → List (DataW H) → Bool := fun _ ds => decide (uptoBulkAll ds ≤ 1048576)
def OpenSpec.upto (s : _root_.Go.ChangeSpec) : _root_.Go.OpenSpec := { _root_.Go.OpenSpec.ofChange s with cond := some uptoSmall }

/-- 'pigeonholelaw08.BankWrites', WHERE WHAT IT READS IS OF BULK AT MOST 1048576: true; the input reads as it did. -/
def bankWritesUptoRow : OpenClaim := { program := "ytpocbcohoefojaa", sum := "7e708f2ad9a68452b43557badb4eda99f17dc5f2ef811c8377b3b836428a2809", func := "pigeonhole/pigeonholelaw08.BankWrites", spec := "bankWrites", unfollowed := true, recurses := true, apart := false, narrowed := true }
def BankWritesUptoSaid : Prop := bankWritesUptoRow.holds Try.pinned (OpenSpec.upto bankWritesSpec)

/-- 'pigeonholelaw08.BankReads', WHERE WHAT IT READS IS OF BULK AT MOST 1048576: true; the input reads as it did. -/
def bankReadsUptoRow : OpenClaim := { program := "ytpocbcohoefojaa", sum := "7e708f2ad9a68452b43557badb4eda99f17dc5f2ef811c8377b3b836428a2809", func := "pigeonhole/pigeonholelaw08.BankReads", spec := "bankReads", unfollowed := true, recurses := true, apart := false, narrowed := true }
def BankReadsUptoSaid : Prop := bankReadsUptoRow.holds Try.pinned (OpenSpec.upto bankReadsSpec)

/-- 'pigeonholelaw08.BankTells', WHERE WHAT IT READS IS OF BULK AT MOST 1048576: true; the input reads as it did. -/
def bankTellsUptoRow : OpenClaim := { program := "ytpocbcohoefojaa", sum := "7e708f2ad9a68452b43557badb4eda99f17dc5f2ef811c8377b3b836428a2809", func := "pigeonhole/pigeonholelaw08.BankTells", spec := "bankTells", unfollowed := true, recurses := true, apart := false, narrowed := true }
def BankTellsUptoSaid : Prop := bankTellsUptoRow.holds Try.pinned (OpenSpec.upto bankTellsSpec)

/-- 'pigeonholelaw08.BankReplays', WHERE WHAT IT READS IS OF BULK AT MOST 1048576: true; the input reads as it did. -/
def bankReplaysUptoRow : OpenClaim := { program := "ytpocbcohoefojaa", sum := "7e708f2ad9a68452b43557badb4eda99f17dc5f2ef811c8377b3b836428a2809", func := "pigeonhole/pigeonholelaw08.BankReplays", spec := "bankReplays", unfollowed := true, recurses := true, apart := false, narrowed := true }
def BankReplaysUptoSaid : Prop := bankReplaysUptoRow.holds Try.pinned (OpenSpec.upto bankReplaysSpec)

/-- 'pigeonholelaw08.BankOrdered', WHERE WHAT IT READS IS OF BULK AT MOST 1048576: true; the input reads as it did. -/
def bankOrderedUptoRow : OpenClaim := { program := "ytpocbcohoefojaa", sum := "7e708f2ad9a68452b43557badb4eda99f17dc5f2ef811c8377b3b836428a2809", func := "pigeonhole/pigeonholelaw08.BankOrdered", spec := "bankOrdered", unfollowed := true, recurses := true, apart := false, narrowed := true }
def BankOrderedUptoSaid : Prop := bankOrderedUptoRow.holds Try.pinned (OpenSpec.upto bankOrderedSpec)

/-- 'pigeonholelaw08.BankApplies', WHERE WHAT IT READS IS OF BULK AT MOST 1048576: true; the input reads as it did. -/
def bankAppliesUptoRow : OpenClaim := { program := "ytpocbcohoefojaa", sum := "7e708f2ad9a68452b43557badb4eda99f17dc5f2ef811c8377b3b836428a2809", func := "pigeonhole/pigeonholelaw08.BankApplies", spec := "bankApplies", unfollowed := true, recurses := true, apart := false, narrowed := true }
def BankAppliesUptoSaid : Prop := bankAppliesUptoRow.holds Try.pinned (OpenSpec.upto bankAppliesSpec)

/-- 'pigeonholelaw08.BankOne', WHERE WHAT IT READS IS OF BULK AT MOST 1048576: true; the input reads as it did. -/
def bankOneUptoRow : OpenClaim := { program := "ytpocbcohoefojaa", sum := "7e708f2ad9a68452b43557badb4eda99f17dc5f2ef811c8377b3b836428a2809", func := "pigeonhole/pigeonholelaw08.BankOne", spec := "bankOne", unfollowed := true, recurses := true, apart := false, narrowed := true }
def BankOneUptoSaid : Prop := bankOneUptoRow.holds Try.pinned (OpenSpec.upto bankOneSpec)

end Rows
end Go.Proofs.Ytpocbcohoefojaa
