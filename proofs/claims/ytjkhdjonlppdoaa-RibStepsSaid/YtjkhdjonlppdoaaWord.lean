/- What each function of package word hands back: the contracts over the program. -/
import Derived.Test.YtjkhdjonlppdoaaPrefix
import Derived.Test.YtjkhdjonlppdoaaMathW
import Derived.Test.YtjkhdjonlppdoaaKit3
namespace Go.Proofs.Ytjkhdjonlppdoaa
open Go.RowKit Pg

/-- A word as a value. -/
abbrev wv (x m : B) : Value := .agg #[.int .u64 (hi x), .int .u64 (lo x), .int .u64 (hi m), .int .u64 (lo m)]
@[go_sem] theorem eq_addr_zz (d : Nat) (w : World) : (Op.equalIn (d + 2) 25 (.agg #[.int .u64 0, .int .u64 0]) (.agg #[.int .u64 0, .int .u64 0])).run Try.prog w = .ok true w := by
  have h := eq_addr d 0#128 0#128 w
  rwa [decide_eq_true rfl] at h
@[go_sem] theorem eq_pair_zz (d : Nat) (w : World) : (Op.equalIn (d + 2) 24 (.agg #[.int .u64 0, .int .u64 0]) (.agg #[.int .u64 0, .int .u64 0])).run Try.prog w = .ok true w := by
  have h := eq_pair d 0#128 0#128 w
  rwa [decide_eq_true rfl] at h
end Go.Proofs.Ytjkhdjonlppdoaa
