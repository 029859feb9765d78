/-
  No cell of these rows narrows 'for every input' (looked for: loops, veiled, ifaces, maps, wideKeys, modest, calm, conditions, laid).
  DERIVED. THE GIVEN ROWS OF THIS SEAT. 8 by the template 'for every input the law returns true; each argument reads behind the call as it read before'; 0 by the template 'total and deterministic' (their statements: YtcooheiipplahaaTotals.lean).
  GIVEN WITH THE SEED: the statements are not yours to turn. If you find one false, say at which input.
  Laid BY PROGRAM, IN A SANDBOX (cutbox-rows.mjs): the forced cells as the released guide's own fill.sh prints them over the translation 9133abaf43bbb0b6… (all of the seat's roots in one cut). By AI agents, Wed Nov 11 2026. No macro, syntax, notation, axiom, sorry.
-/
import Derived.Test.YtcooheiipplahaaChecked
import GoSem.Claim
import GoSem.ClaimJoined
import GoSem.ClaimMapViews
import Derived.JoinedTies
import Derived.KernelRfl
namespace Go.Proofs.Ytcooheiipplahaa
/- THE CELL 'sum', in the pinned program and in every row, IS THE sha256 OF THE DUMP (.gsa) THAT YtcooheiipplahaaProg.lean LOADS. Nothing in Lean hashes anything: it is a label: what it is worth is what the hold of that sum in a sandbox is worth. -/
noncomputable def Try.pinned : Pinned := { name := "ytcooheiipplahaa", sum := "9133abaf43bbb0b69b801571e48e957b75df0af45b005aa63e5db4be80d98a55", checked := Try.checked }
namespace Rows
def none {H : Type} : Left H := { results := [], args := [] }

/-- 'pigeonholelaw02.PrefixCovers': WHATEVER THE INPUT: true; the input reads as it did. -/
def prefixCoversSpec : ChangeSpec := { name := "prefixCovers", fn := fun _ => fun
  | [d1, d2] => { results := [.lit (.bool true)], args := [d1, d2] }
  | _ => none }
def prefixCoversRow : OpenClaim := { program := "ytcooheiipplahaa", sum := "9133abaf43bbb0b69b801571e48e957b75df0af45b005aa63e5db4be80d98a55", func := "pigeonhole/pigeonholelaw02.PrefixCovers", spec := "prefixCovers", apart := false }
def PrefixCoversSaid : Prop := prefixCoversRow.holds Try.pinned (OpenSpec.ofChange prefixCoversSpec)

/-- ITS FALSE NEIGHBOUR: 'it returns false'. Refute it at one input. -/
def prefixCoversWrong : ChangeSpec := { name := "prefixCovers", fn := fun _ => fun
  | [d1, d2] => { results := [.lit (.bool false)], args := [d1, d2] }
  | _ => none }
def PrefixCoversWrongFalsely : Prop := prefixCoversRow.holds Try.pinned (OpenSpec.ofChange prefixCoversWrong)

/-- 'pigeonholelaw02.PrefixJoin': WHATEVER THE INPUT: true; the input reads as it did. -/
def prefixJoinSpec : ChangeSpec := { name := "prefixJoin", fn := fun _ => fun
  | [d1, d2, d3, d4] => { results := [.lit (.bool true)], args := [d1, d2, d3, d4] }
  | _ => none }
def prefixJoinRow : OpenClaim := { program := "ytcooheiipplahaa", sum := "9133abaf43bbb0b69b801571e48e957b75df0af45b005aa63e5db4be80d98a55", func := "pigeonhole/pigeonholelaw02.PrefixJoin", spec := "prefixJoin", apart := false }
def PrefixJoinSaid : Prop := prefixJoinRow.holds Try.pinned (OpenSpec.ofChange prefixJoinSpec)

/-- ITS FALSE NEIGHBOUR: 'it returns false'. Refute it at one input. -/
def prefixJoinWrong : ChangeSpec := { name := "prefixJoin", fn := fun _ => fun
  | [d1, d2, d3, d4] => { results := [.lit (.bool false)], args := [d1, d2, d3, d4] }
  | _ => none }
def PrefixJoinWrongFalsely : Prop := prefixJoinRow.holds Try.pinned (OpenSpec.ofChange prefixJoinWrong)

/-- 'pigeonholelaw02.PrefixRight': WHATEVER THE INPUT: true; the input reads as it did. -/
def prefixRightSpec : ChangeSpec := { name := "prefixRight", fn := fun _ => fun
  | [d1, d2] => { results := [.lit (.bool true)], args := [d1, d2] }
  | _ => none }
def prefixRightRow : OpenClaim := { program := "ytcooheiipplahaa", sum := "9133abaf43bbb0b69b801571e48e957b75df0af45b005aa63e5db4be80d98a55", func := "pigeonhole/pigeonholelaw02.PrefixRight", spec := "prefixRight", apart := false }
def PrefixRightSaid : Prop := prefixRightRow.holds Try.pinned (OpenSpec.ofChange prefixRightSpec)

/-- ITS FALSE NEIGHBOUR: 'it returns false'. Refute it at one input. -/
def prefixRightWrong : ChangeSpec := { name := "prefixRight", fn := fun _ => fun
  | [d1, d2] => { results := [.lit (.bool false)], args := [d1, d2] }
  | _ => none }
def PrefixRightWrongFalsely : Prop := prefixRightRow.holds Try.pinned (OpenSpec.ofChange prefixRightWrong)

/-- 'pigeonholelaw02.PrefixLast': WHATEVER THE INPUT: true; the input reads as it did. -/
def prefixLastSpec : ChangeSpec := { name := "prefixLast", fn := fun _ => fun
  | [d1, d2] => { results := [.lit (.bool true)], args := [d1, d2] }
  | _ => none }
def prefixLastRow : OpenClaim := { program := "ytcooheiipplahaa", sum := "9133abaf43bbb0b69b801571e48e957b75df0af45b005aa63e5db4be80d98a55", func := "pigeonhole/pigeonholelaw02.PrefixLast", spec := "prefixLast", apart := false }
def PrefixLastSaid : Prop := prefixLastRow.holds Try.pinned (OpenSpec.ofChange prefixLastSpec)

/-- ITS FALSE NEIGHBOUR: 'it returns false'. Refute it at one input. -/
def prefixLastWrong : ChangeSpec := { name := "prefixLast", fn := fun _ => fun
  | [d1, d2] => { results := [.lit (.bool false)], args := [d1, d2] }
  | _ => none }
def PrefixLastWrongFalsely : Prop := prefixLastRow.holds Try.pinned (OpenSpec.ofChange prefixLastWrong)

/-- 'pigeonholelaw02.PrefixBetween': WHATEVER THE INPUT: true; the input reads as it did. -/
def prefixBetweenSpec : ChangeSpec := { name := "prefixBetween", fn := fun _ => fun
  | [d1, d2, d3] => { results := [.lit (.bool true)], args := [d1, d2, d3] }
  | _ => none }
def prefixBetweenRow : OpenClaim := { program := "ytcooheiipplahaa", sum := "9133abaf43bbb0b69b801571e48e957b75df0af45b005aa63e5db4be80d98a55", func := "pigeonhole/pigeonholelaw02.PrefixBetween", spec := "prefixBetween", apart := false }
def PrefixBetweenSaid : Prop := prefixBetweenRow.holds Try.pinned (OpenSpec.ofChange prefixBetweenSpec)

/-- ITS FALSE NEIGHBOUR: 'it returns false'. Refute it at one input. -/
def prefixBetweenWrong : ChangeSpec := { name := "prefixBetween", fn := fun _ => fun
  | [d1, d2, d3] => { results := [.lit (.bool false)], args := [d1, d2, d3] }
  | _ => none }
def PrefixBetweenWrongFalsely : Prop := prefixBetweenRow.holds Try.pinned (OpenSpec.ofChange prefixBetweenWrong)

/-- 'pigeonholelaw02.PrefixParts': WHATEVER THE INPUT: true; the input reads as it did. -/
def prefixPartsSpec : ChangeSpec := { name := "prefixParts", fn := fun _ => fun
  | [d1, d2] => { results := [.lit (.bool true)], args := [d1, d2] }
  | _ => none }
def prefixPartsRow : OpenClaim := { program := "ytcooheiipplahaa", sum := "9133abaf43bbb0b69b801571e48e957b75df0af45b005aa63e5db4be80d98a55", func := "pigeonhole/pigeonholelaw02.PrefixParts", spec := "prefixParts", unfollowed := true, recurses := true, apart := false }
def PrefixPartsSaid : Prop := prefixPartsRow.holds Try.pinned (OpenSpec.ofChange prefixPartsSpec)

/-- ITS FALSE NEIGHBOUR: 'it returns false'. Refute it at one input. -/
def prefixPartsWrong : ChangeSpec := { name := "prefixParts", fn := fun _ => fun
  | [d1, d2] => { results := [.lit (.bool false)], args := [d1, d2] }
  | _ => none }
def PrefixPartsWrongFalsely : Prop := prefixPartsRow.holds Try.pinned (OpenSpec.ofChange prefixPartsWrong)

/-- 'pigeonholelaw02.PrefixOrder': WHATEVER THE INPUT: true; the input reads as it did. -/
def prefixOrderSpec : ChangeSpec := { name := "prefixOrder", fn := fun _ => fun
  | [d1, d2] => { results := [.lit (.bool true)], args := [d1, d2] }
  | _ => none }
def prefixOrderRow : OpenClaim := { program := "ytcooheiipplahaa", sum := "9133abaf43bbb0b69b801571e48e957b75df0af45b005aa63e5db4be80d98a55", func := "pigeonhole/pigeonholelaw02.PrefixOrder", spec := "prefixOrder", apart := false }
def PrefixOrderSaid : Prop := prefixOrderRow.holds Try.pinned (OpenSpec.ofChange prefixOrderSpec)

/-- ITS FALSE NEIGHBOUR: 'it returns false'. Refute it at one input. -/
def prefixOrderWrong : ChangeSpec := { name := "prefixOrder", fn := fun _ => fun
  | [d1, d2] => { results := [.lit (.bool false)], args := [d1, d2] }
  | _ => none }
def PrefixOrderWrongFalsely : Prop := prefixOrderRow.holds Try.pinned (OpenSpec.ofChange prefixOrderWrong)

/-- 'pigeonholelaw02.PrefixChain': WHATEVER THE INPUT: true; the input reads as it did. -/
def prefixChainSpec : ChangeSpec := { name := "prefixChain", fn := fun _ => fun
  | [d1, d2, d3] => { results := [.lit (.bool true)], args := [d1, d2, d3] }
  | _ => none }
def prefixChainRow : OpenClaim := { program := "ytcooheiipplahaa", sum := "9133abaf43bbb0b69b801571e48e957b75df0af45b005aa63e5db4be80d98a55", func := "pigeonhole/pigeonholelaw02.PrefixChain", spec := "prefixChain", apart := false }
def PrefixChainSaid : Prop := prefixChainRow.holds Try.pinned (OpenSpec.ofChange prefixChainSpec)

/-- ITS FALSE NEIGHBOUR: 'it returns false'. Refute it at one input. -/
def prefixChainWrong : ChangeSpec := { name := "prefixChain", fn := fun _ => fun
  | [d1, d2, d3] => { results := [.lit (.bool false)], args := [d1, d2, d3] }
  | _ => none }
def PrefixChainWrongFalsely : Prop := prefixChainRow.holds Try.pinned (OpenSpec.ofChange prefixChainWrong)

/- THE SECOND FORM. 'bulk': how many values and letters a reading holds, each counted each time it is reached (what is shared counts as often as it is met; a slice's spare places count too). A statement '..UptoSaid' is the law's where the arguments, and the package variables that the reading takes, are together of bulk at most 1048576: NARROWER than '..Said'. Prove '..Said' where nothing that the law and all that it calls make is longer than what came in: it says more and counts as full. Else prove '..UptoSaid'. A law counts once. -/
mutual
def uptoBulk {H : Type} : DataW H → Nat
  | .lit (.string bytes) => bytes.length + 1
  | .lit _ => 1
  | .nil => 1
  | .ptr d => uptoBulk d + 1
  | .slice elems spare => uptoBulkAll elems + uptoBulkAll spare + 1
  | .agg parts => uptoBulkAll parts + 1
  | .iface _ d => uptoBulk d + 1
  | .map entries => uptoBulkEntries entries + 1
  | .held _ => 1
def uptoBulkAll {H : Type} : List (DataW H) → Nat
  | [] => 0
  | d :: r => uptoBulk d + uptoBulkAll r
def uptoBulkEntries {H : Type} : List (Lit × DataW H) → Nat
  | [] => 0
  | x :: r => uptoBulkEntry x + uptoBulkEntries r
def uptoBulkEntry {H : Type} : Lit × DataW H → Nat
  | (.string bytes, d) => bytes.length + uptoBulk d + 1
  | (_, d) => uptoBulk d + 1
 end
def uptoSmall : (H : Type) → List (DataW H) → Bool := fun _ ds => decide (uptoBulkAll ds ≤ 1048576)
def OpenSpec.upto (s : _root_.Go.ChangeSpec) : _root_.Go.OpenSpec := { _root_.Go.OpenSpec.ofChange s with cond := some uptoSmall }

/-- 'pigeonholelaw02.PrefixCovers', WHERE WHAT IT READS IS OF BULK AT MOST 1048576: true; the input reads as it did. -/
def prefixCoversUptoRow : OpenClaim := { program := "ytcooheiipplahaa", sum := "9133abaf43bbb0b69b801571e48e957b75df0af45b005aa63e5db4be80d98a55", func := "pigeonhole/pigeonholelaw02.PrefixCovers", spec := "prefixCovers", apart := false, narrowed := true }
def PrefixCoversUptoSaid : Prop := prefixCoversUptoRow.holds Try.pinned (OpenSpec.upto prefixCoversSpec)

/-- 'pigeonholelaw02.PrefixJoin', WHERE WHAT IT READS IS OF BULK AT MOST 1048576: true; the input reads as it did. -/
def prefixJoinUptoRow : OpenClaim := { program := "ytcooheiipplahaa", sum := "9133abaf43bbb0b69b801571e48e957b75df0af45b005aa63e5db4be80d98a55", func := "pigeonhole/pigeonholelaw02.PrefixJoin", spec := "prefixJoin", apart := false, narrowed := true }
def PrefixJoinUptoSaid : Prop := prefixJoinUptoRow.holds Try.pinned (OpenSpec.upto prefixJoinSpec)

/-- 'pigeonholelaw02.PrefixRight', WHERE WHAT IT READS IS OF BULK AT MOST 1048576: true; the input reads as it did. -/
def prefixRightUptoRow : OpenClaim := { program := "ytcooheiipplahaa", sum := "9133abaf43bbb0b69b801571e48e957b75df0af45b005aa63e5db4be80d98a55", func := "pigeonhole/pigeonholelaw02.PrefixRight", spec := "prefixRight", apart := false, narrowed := true }
def PrefixRightUptoSaid : Prop := prefixRightUptoRow.holds Try.pinned (OpenSpec.upto prefixRightSpec)

/-- 'pigeonholelaw02.PrefixLast', WHERE WHAT IT READS IS OF BULK AT MOST 1048576: true; the input reads as it did. -/
def prefixLastUptoRow : OpenClaim := { program := "ytcooheiipplahaa", sum := "9133abaf43bbb0b69b801571e48e957b75df0af45b005aa63e5db4be80d98a55", func := "pigeonhole/pigeonholelaw02.PrefixLast", spec := "prefixLast", apart := false, narrowed := true }
def PrefixLastUptoSaid : Prop := prefixLastUptoRow.holds Try.pinned (OpenSpec.upto prefixLastSpec)

/-- 'pigeonholelaw02.PrefixBetween', WHERE WHAT IT READS IS OF BULK AT MOST 1048576: true; the input reads as it did. -/
def prefixBetweenUptoRow : OpenClaim := { program := "ytcooheiipplahaa", sum := "9133abaf43bbb0b69b801571e48e957b75df0af45b005aa63e5db4be80d98a55", func := "pigeonhole/pigeonholelaw02.PrefixBetween", spec := "prefixBetween", apart := false, narrowed := true }
def PrefixBetweenUptoSaid : Prop := prefixBetweenUptoRow.holds Try.pinned (OpenSpec.upto prefixBetweenSpec)

/-- 'pigeonholelaw02.PrefixParts', WHERE WHAT IT READS IS OF BULK AT MOST 1048576: true; the input reads as it did. -/
def prefixPartsUptoRow : OpenClaim := { program := "ytcooheiipplahaa", sum := "9133abaf43bbb0b69b801571e48e957b75df0af45b005aa63e5db4be80d98a55", func := "pigeonhole/pigeonholelaw02.PrefixParts", spec := "prefixParts", unfollowed := true, recurses := true, apart := false, narrowed := true }
def PrefixPartsUptoSaid : Prop := prefixPartsUptoRow.holds Try.pinned (OpenSpec.upto prefixPartsSpec)

/-- 'pigeonholelaw02.PrefixOrder', WHERE WHAT IT READS IS OF BULK AT MOST 1048576: true; the input reads as it did. -/
def prefixOrderUptoRow : OpenClaim := { program := "ytcooheiipplahaa", sum := "9133abaf43bbb0b69b801571e48e957b75df0af45b005aa63e5db4be80d98a55", func := "pigeonhole/pigeonholelaw02.PrefixOrder", spec := "prefixOrder", apart := false, narrowed := true }
def PrefixOrderUptoSaid : Prop := prefixOrderUptoRow.holds Try.pinned (OpenSpec.upto prefixOrderSpec)

/-- 'pigeonholelaw02.PrefixChain', WHERE WHAT IT READS IS OF BULK AT MOST 1048576: true; the input reads as it did. -/
def prefixChainUptoRow : OpenClaim := { program := "ytcooheiipplahaa", sum := "9133abaf43bbb0b69b801571e48e957b75df0af45b005aa63e5db4be80d98a55", func := "pigeonhole/pigeonholelaw02.PrefixChain", spec := "prefixChain", apart := false, narrowed := true }
def PrefixChainUptoSaid : Prop := prefixChainUptoRow.holds Try.pinned (OpenSpec.upto prefixChainSpec)

end Rows
end Go.Proofs.Ytcooheiipplahaa
