/- The best entry for an address: the contracts of entry.Best, entry.Tell and the reference's. -/
import Derived.Test.YtdlikcdmhgbolaaBest
import Derived.Test.YtdlikcdmhgbolaaEnt
namespace Go.Proofs.Ytdlikcdmhgbolaa
open Go.RowKit Pg

end Go.Proofs.Ytdlikcdmhgbolaa
