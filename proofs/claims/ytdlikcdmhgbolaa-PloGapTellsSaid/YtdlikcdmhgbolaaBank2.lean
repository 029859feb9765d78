/- Slots: found, Tell, the reference's Find and Tell. -/
import Derived.Test.YtdlikcdmhgbolaaBank
import Derived.Test.YtdlikcdmhgbolaaRef04c
namespace Pg
open Go
def matchS (a : B) (s : Slot) : Bool := s.v && matchW s.e.x s.e.m a
def tellS (l : List Slot) (a : B) : Int := if idxI (matchS a) l < 0 then 0 else ((l[(idxI (matchS a) l).toNat]?).map (fun s => s.e.act)).getD 0
end Pg
namespace Go.Proofs.Ytdlikcdmhgbolaa
open Go.RowKit Pg

end Go.Proofs.Ytdlikcdmhgbolaa
