/-
  No cell of these rows narrows 'for every input' (looked for: loops, veiled, ifaces, maps, wideKeys, modest, calm, conditions, laid).
  DERIVED. THE GIVEN ROWS OF THIS SEAT. 7 by the template 'for every input the law returns true; each argument reads behind the call as it read before'; 0 by the template 'total and deterministic' (their statements: YtecpgbkmpfijoaaTotals.lean).
  GIVEN WITH THE SEED: the statements are not yours to turn. If you find one false, say at which input.
  Laid BY PROGRAM, IN A SANDBOX (cutbox-rows.mjs): the forced cells as the released guide's own fill.sh prints them over the translation ac34889c894d801c… (all of the seat's roots in one cut). By AI agents, Wed Nov 11 2026. No macro, syntax, notation, axiom, sorry.
-/
import Derived.Test.YtecpgbkmpfijoaaChecked
import GoSem.Claim
import GoSem.ClaimJoined
import GoSem.ClaimMapViews
import Derived.JoinedTies
import Derived.KernelRfl
namespace Go.Proofs.Ytecpgbkmpfijoaa
/- THE CELL 'sum', in the pinned program and in every row, IS THE sha256 OF THE DUMP (.gsa) THAT YtecpgbkmpfijoaaProg.lean LOADS. Nothing in Lean hashes anything: it is a label: what it is worth is what the hold of that sum in a sandbox is worth. -/
noncomputable def Try.pinned : Pinned := { name := "ytecpgbkmpfijoaa", sum := "ac34889c894d801c920975a423f8b4b9ea6dd1cc2f4d464e6fef1ff096cc6787", checked := Try.checked }
namespace Rows
def none {H : Type} : Left H := { results := [], args := [] }

/-- 'pigeonholelaw04.WordMerges': WHATEVER THE INPUT: true; the input reads as it did. -/
def wordMergesSpec : ChangeSpec := { name := "wordMerges", fn := fun _ => fun
  | [d1, d2, d3] => { results := [.lit (.bool true)], args := [d1, d2, d3] }
  | _ => none }
def wordMergesRow : OpenClaim := { program := "ytecpgbkmpfijoaa", sum := "ac34889c894d801c920975a423f8b4b9ea6dd1cc2f4d464e6fef1ff096cc6787", func := "pigeonhole/pigeonholelaw04.WordMerges", spec := "wordMerges", apart := false }
def WordMergesSaid : Prop := wordMergesRow.holds Try.pinned (OpenSpec.ofChange wordMergesSpec)

/-- ITS FALSE NEIGHBOUR: 'it returns false'. Refute it at one input. -/
def wordMergesWrong : ChangeSpec := { name := "wordMerges", fn := fun _ => fun
  | [d1, d2, d3] => { results := [.lit (.bool false)], args := [d1, d2, d3] }
  | _ => none }
def WordMergesWrongFalsely : Prop := wordMergesRow.holds Try.pinned (OpenSpec.ofChange wordMergesWrong)

/-- 'pigeonholelaw04.WordMatches': WHATEVER THE INPUT: true; the input reads as it did. -/
def wordMatchesSpec : ChangeSpec := { name := "wordMatches", fn := fun _ => fun
  | [d1, d2, d3] => { results := [.lit (.bool true)], args := [d1, d2, d3] }
  | _ => none }
def wordMatchesRow : OpenClaim := { program := "ytecpgbkmpfijoaa", sum := "ac34889c894d801c920975a423f8b4b9ea6dd1cc2f4d464e6fef1ff096cc6787", func := "pigeonhole/pigeonholelaw04.WordMatches", spec := "wordMatches", apart := false }
def WordMatchesSaid : Prop := wordMatchesRow.holds Try.pinned (OpenSpec.ofChange wordMatchesSpec)

/-- ITS FALSE NEIGHBOUR: 'it returns false'. Refute it at one input. -/
def wordMatchesWrong : ChangeSpec := { name := "wordMatches", fn := fun _ => fun
  | [d1, d2, d3] => { results := [.lit (.bool false)], args := [d1, d2, d3] }
  | _ => none }
def WordMatchesWrongFalsely : Prop := wordMatchesRow.holds Try.pinned (OpenSpec.ofChange wordMatchesWrong)

/-- 'pigeonholelaw04.WordOrder': WHATEVER THE INPUT: true; the input reads as it did. -/
def wordOrderSpec : ChangeSpec := { name := "wordOrder", fn := fun _ => fun
  | [d1, d2, d3, d4] => { results := [.lit (.bool true)], args := [d1, d2, d3, d4] }
  | _ => none }
def wordOrderRow : OpenClaim := { program := "ytecpgbkmpfijoaa", sum := "ac34889c894d801c920975a423f8b4b9ea6dd1cc2f4d464e6fef1ff096cc6787", func := "pigeonhole/pigeonholelaw04.WordOrder", spec := "wordOrder", apart := false }
def WordOrderSaid : Prop := wordOrderRow.holds Try.pinned (OpenSpec.ofChange wordOrderSpec)

/-- ITS FALSE NEIGHBOUR: 'it returns false'. Refute it at one input. -/
def wordOrderWrong : ChangeSpec := { name := "wordOrder", fn := fun _ => fun
  | [d1, d2, d3, d4] => { results := [.lit (.bool false)], args := [d1, d2, d3, d4] }
  | _ => none }
def WordOrderWrongFalsely : Prop := wordOrderRow.holds Try.pinned (OpenSpec.ofChange wordOrderWrong)

/-- 'pigeonholelaw04.WordBoth': WHATEVER THE INPUT: true; the input reads as it did. -/
def wordBothSpec : ChangeSpec := { name := "wordBoth", fn := fun _ => fun
  | [d1, d2, d3] => { results := [.lit (.bool true)], args := [d1, d2, d3] }
  | _ => none }
def wordBothRow : OpenClaim := { program := "ytecpgbkmpfijoaa", sum := "ac34889c894d801c920975a423f8b4b9ea6dd1cc2f4d464e6fef1ff096cc6787", func := "pigeonhole/pigeonholelaw04.WordBoth", spec := "wordBoth", apart := false }
def WordBothSaid : Prop := wordBothRow.holds Try.pinned (OpenSpec.ofChange wordBothSpec)

/-- ITS FALSE NEIGHBOUR: 'it returns false'. Refute it at one input. -/
def wordBothWrong : ChangeSpec := { name := "wordBoth", fn := fun _ => fun
  | [d1, d2, d3] => { results := [.lit (.bool false)], args := [d1, d2, d3] }
  | _ => none }
def WordBothWrongFalsely : Prop := wordBothRow.holds Try.pinned (OpenSpec.ofChange wordBothWrong)

/-- 'pigeonholelaw04.WordSome': WHATEVER THE INPUT: true; the input reads as it did. -/
def wordSomeSpec : ChangeSpec := { name := "wordSome", fn := fun _ => fun
  | [d1, d2, d3] => { results := [.lit (.bool true)], args := [d1, d2, d3] }
  | _ => none }
def wordSomeRow : OpenClaim := { program := "ytecpgbkmpfijoaa", sum := "ac34889c894d801c920975a423f8b4b9ea6dd1cc2f4d464e6fef1ff096cc6787", func := "pigeonhole/pigeonholelaw04.WordSome", spec := "wordSome", apart := false }
def WordSomeSaid : Prop := wordSomeRow.holds Try.pinned (OpenSpec.ofChange wordSomeSpec)

/-- ITS FALSE NEIGHBOUR: 'it returns false'. Refute it at one input. -/
def wordSomeWrong : ChangeSpec := { name := "wordSome", fn := fun _ => fun
  | [d1, d2, d3] => { results := [.lit (.bool false)], args := [d1, d2, d3] }
  | _ => none }
def WordSomeWrongFalsely : Prop := wordSomeRow.holds Try.pinned (OpenSpec.ofChange wordSomeWrong)

/-- 'pigeonholelaw04.WordFree': WHATEVER THE INPUT: true; the input reads as it did. -/
def wordFreeSpec : ChangeSpec := { name := "wordFree", fn := fun _ => fun
  | [d1, d2, d3] => { results := [.lit (.bool true)], args := [d1, d2, d3] }
  | _ => none }
def wordFreeRow : OpenClaim := { program := "ytecpgbkmpfijoaa", sum := "ac34889c894d801c920975a423f8b4b9ea6dd1cc2f4d464e6fef1ff096cc6787", func := "pigeonhole/pigeonholelaw04.WordFree", spec := "wordFree", apart := false }
def WordFreeSaid : Prop := wordFreeRow.holds Try.pinned (OpenSpec.ofChange wordFreeSpec)

/-- ITS FALSE NEIGHBOUR: 'it returns false'. Refute it at one input. -/
def wordFreeWrong : ChangeSpec := { name := "wordFree", fn := fun _ => fun
  | [d1, d2, d3] => { results := [.lit (.bool false)], args := [d1, d2, d3] }
  | _ => none }
def WordFreeWrongFalsely : Prop := wordFreeRow.holds Try.pinned (OpenSpec.ofChange wordFreeWrong)

/-- 'pigeonholelaw04.WordOf': WHATEVER THE INPUT: true; the input reads as it did. -/
def wordOfSpec : ChangeSpec := { name := "wordOf", fn := fun _ => fun
  | [d1, d2, d3] => { results := [.lit (.bool true)], args := [d1, d2, d3] }
  | _ => none }
def wordOfRow : OpenClaim := { program := "ytecpgbkmpfijoaa", sum := "ac34889c894d801c920975a423f8b4b9ea6dd1cc2f4d464e6fef1ff096cc6787", func := "pigeonhole/pigeonholelaw04.WordOf", spec := "wordOf", apart := false }
def WordOfSaid : Prop := wordOfRow.holds Try.pinned (OpenSpec.ofChange wordOfSpec)

/-- ITS FALSE NEIGHBOUR: 'it returns false'. Refute it at one input. -/
def wordOfWrong : ChangeSpec := { name := "wordOf", fn := fun _ => fun
  | [d1, d2, d3] => { results := [.lit (.bool false)], args := [d1, d2, d3] }
  | _ => none }
def WordOfWrongFalsely : Prop := wordOfRow.holds Try.pinned (OpenSpec.ofChange wordOfWrong)

/- THE SECOND FORM. 'bulk': how many values and letters a reading holds, each counted each time it is reached (what is shared counts as often as it is met; a slice's spare places count too). A statement '..UptoSaid' is the law's where the arguments, and the package variables that the reading takes, are together of bulk at most 1048576: NARROWER than '..Said'. Prove '..Said' where nothing that the law and all that it calls make is longer than what came in: it says more and counts as full. Else prove '..UptoSaid'. A law counts once. -/
mutual
def uptoBulk {H : Type} : DataW H → Nat
  | .lit (.string bytes) => bytes.length + 1
  | .lit _ => 1
  | .nil => 1
  | .ptr d => uptoBulk d + 1
  | .slice elems spare => uptoBulkAll elems + uptoBulkAll spare + 1
  | .agg parts => uptoBulkAll parts + 1
  | .iface _ d => uptoBulk d + 1
  | .map entries => uptoBulkEntries entries + 1
  | .held _ => 1
def uptoBulkAll {H : Type} : List (DataW H) → Nat
  | [] => 0
  | d :: r => uptoBulk d + uptoBulkAll r
def uptoBulkEntries {H : Type} : List (Lit × DataW H) → Nat
  | [] => 0
  | x :: r => uptoBulkEntry x + uptoBulkEntries r
def uptoBulkEntry {H : Type} : Lit × DataW H → Nat
  | (.string bytes, d) => bytes.length + uptoBulk d + 1
  | (_, d) => uptoBulk d + 1
 end
def uptoSmall : (H : Type) → List (DataW H) → Bool := fun _ ds => decide (uptoBulkAll ds ≤ 1048576)
def OpenSpec.upto (s : _root_.Go.ChangeSpec) : _root_.Go.OpenSpec := { _root_.Go.OpenSpec.ofChange s with cond := some uptoSmall }

/-- 'pigeonholelaw04.WordMerges', WHERE WHAT IT READS IS OF BULK AT MOST 1048576: true; the input reads as it did. -/
def wordMergesUptoRow : OpenClaim := { program := "ytecpgbkmpfijoaa", sum := "ac34889c894d801c920975a423f8b4b9ea6dd1cc2f4d464e6fef1ff096cc6787", func := "pigeonhole/pigeonholelaw04.WordMerges", spec := "wordMerges", apart := false, narrowed := true }
def WordMergesUptoSaid : Prop := wordMergesUptoRow.holds Try.pinned (OpenSpec.upto wordMergesSpec)

/-- 'pigeonholelaw04.WordMatches', WHERE WHAT IT READS IS OF BULK AT MOST 1048576: true; the input reads as it did. -/
def wordMatchesUptoRow : OpenClaim := { program := "ytecpgbkmpfijoaa", sum := "ac34889c894d801c920975a423f8b4b9ea6dd1cc2f4d464e6fef1ff096cc6787", func := "pigeonhole/pigeonholelaw04.WordMatches", spec := "wordMatches", apart := false, narrowed := true }
def WordMatchesUptoSaid : Prop := wordMatchesUptoRow.holds Try.pinned (OpenSpec.upto wordMatchesSpec)

/-- 'pigeonholelaw04.WordOrder', WHERE WHAT IT READS IS OF BULK AT MOST 1048576: true; the input reads as it did. -/
def wordOrderUptoRow : OpenClaim := { program := "ytecpgbkmpfijoaa", sum := "ac34889c894d801c920975a423f8b4b9ea6dd1cc2f4d464e6fef1ff096cc6787", func := "pigeonhole/pigeonholelaw04.WordOrder", spec := "wordOrder", apart := false, narrowed := true }
def WordOrderUptoSaid : Prop := wordOrderUptoRow.holds Try.pinned (OpenSpec.upto wordOrderSpec)

/-- 'pigeonholelaw04.WordBoth', WHERE WHAT IT READS IS OF BULK AT MOST 1048576: true; the input reads as it did. -/
def wordBothUptoRow : OpenClaim := { program := "ytecpgbkmpfijoaa", sum := "ac34889c894d801c920975a423f8b4b9ea6dd1cc2f4d464e6fef1ff096cc6787", func := "pigeonhole/pigeonholelaw04.WordBoth", spec := "wordBoth", apart := false, narrowed := true }
def WordBothUptoSaid : Prop := wordBothUptoRow.holds Try.pinned (OpenSpec.upto wordBothSpec)

/-- 'pigeonholelaw04.WordSome', WHERE WHAT IT READS IS OF BULK AT MOST 1048576: true; the input reads as it did. -/
def wordSomeUptoRow : OpenClaim := { program := "ytecpgbkmpfijoaa", sum := "ac34889c894d801c920975a423f8b4b9ea6dd1cc2f4d464e6fef1ff096cc6787", func := "pigeonhole/pigeonholelaw04.WordSome", spec := "wordSome", apart := false, narrowed := true }
def WordSomeUptoSaid : Prop := wordSomeUptoRow.holds Try.pinned (OpenSpec.upto wordSomeSpec)

/-- 'pigeonholelaw04.WordFree', WHERE WHAT IT READS IS OF BULK AT MOST 1048576: true; the input reads as it did. -/
def wordFreeUptoRow : OpenClaim := { program := "ytecpgbkmpfijoaa", sum := "ac34889c894d801c920975a423f8b4b9ea6dd1cc2f4d464e6fef1ff096cc6787", func := "pigeonhole/pigeonholelaw04.WordFree", spec := "wordFree", apart := false, narrowed := true }
def WordFreeUptoSaid : Prop := wordFreeUptoRow.holds Try.pinned (OpenSpec.upto wordFreeSpec)

/-- 'pigeonholelaw04.WordOf', WHERE WHAT IT READS IS OF BULK AT MOST 1048576: true; the input reads as it did. -/
def wordOfUptoRow : OpenClaim := { program := "ytecpgbkmpfijoaa", sum := "ac34889c894d801c920975a423f8b4b9ea6dd1cc2f4d464e6fef1ff096cc6787", func := "pigeonhole/pigeonholelaw04.WordOf", spec := "wordOf", apart := false, narrowed := true }
def WordOfUptoSaid : Prop := wordOfUptoRow.holds Try.pinned (OpenSpec.upto wordOfSpec)

end Rows
end Go.Proofs.Ytecpgbkmpfijoaa
