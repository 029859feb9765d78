/- What each function of the reference of layer 1 hands back, those that build a row: the contracts over the program. -/
import Derived.Test.YtdlikcdmhgbolaaRef01
import Derived.Test.YtdlikcdmhgbolaaKit1
namespace Go.Proofs.Ytdlikcdmhgbolaa
open Go.RowKit Pg

theorem info_bool : (Try.prog.info? 4).map (fun i => (i.zero, i.size, i.bytes)) = some (some (.bool false), 1, 1) := by kernel_rfl
theorem range_snoc (k : Nat) (f : Nat → Bool) : ((List.range k).map fun i => Value.bool (f i)) ++ [.bool (f k)] = (List.range (k + 1)).map fun i => Value.bool (f i) := by
  rw [List.range_succ, List.map_append]; rfl
theorem range_get (k i : Nat) (f : Nat → Bool) (h : i < k) : ((List.range k).map fun i => Value.bool (f i))[i]? = some (.bool (f i)) := by simp [h]

end Go.Proofs.Ytdlikcdmhgbolaa
