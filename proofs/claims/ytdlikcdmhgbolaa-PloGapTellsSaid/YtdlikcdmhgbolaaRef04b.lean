/- The reference's address that a word matches, and what two words are merged to: the contracts over the program. -/
import Derived.Test.YtdlikcdmhgbolaaRef04
namespace Go.Proofs.Ytdlikcdmhgbolaa
open Go.RowKit Pg

theorem quo_two (r : Nat) : ((r : Int) / 2) = ((r / 2 : Nat) : Int) := by omega
end Go.Proofs.Ytdlikcdmhgbolaa
