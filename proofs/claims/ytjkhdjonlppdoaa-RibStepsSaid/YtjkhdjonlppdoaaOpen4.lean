/- A word that is a law's argument, opened. -/
import Derived.Test.YtjkhdjonlppdoaaOpen
import Derived.Test.YtjkhdjonlppdoaaWord
namespace Go.Proofs.Ytjkhdjonlppdoaa
open Go.RowKit Pg Go.ChangeShapes Go.WideShapes
set_option maxRecDepth 100000

section
variable {H : Type} {enc : TypeId × Value → H} {w : World} {base : Nat} {spare : Nat → Bool} {held : Bool} {fuel : Nat} {cs : List Value} {x : DataW H × List MemPlace}
end
end Go.Proofs.Ytjkhdjonlppdoaa
