/- What the reference of layer 1 hands back bit by bit of two addresses: and, or, one of both alone: the contracts over the program. -/
import Derived.Test.YtdoghlncoinhoaaRef01b
namespace Go.Proofs.Ytdoghlncoinhoaa
open Go.RowKit Pg

end Go.Proofs.Ytdoghlncoinhoaa
