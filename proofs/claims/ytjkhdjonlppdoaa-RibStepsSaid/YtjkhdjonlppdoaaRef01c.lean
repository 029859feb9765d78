/- What the reference of layer 1 hands back bit by bit of two addresses: and, or, one of both alone: the contracts over the program. -/
import Derived.Test.YtjkhdjonlppdoaaRef01b
namespace Go.Proofs.Ytjkhdjonlppdoaa
open Go.RowKit Pg

end Go.Proofs.Ytjkhdjonlppdoaa
