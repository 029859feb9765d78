/- What is kept, as the document has it. -/
import Derived.Test.YtjkhdjonlppdoaaMathK3
import Derived.Test.YtjkhdjonlppdoaaRib5
namespace Pg
open Go
theorem kept_extR (w : World) (p : Regrown) : Kept w (ext w p) := below_ext w p
theorem Own.base {W0 W w : World} {e : TypeId} {k n : Nat} {v : Value} {xs : List Value} (h : Own W w e k v n xs) (hk : Kept W0 W) : Own W0 w e k v n xs := by
  refine ⟨hk.trans h.1, h.2.1, ?_⟩
  rcases h.2.2 with h2 | ⟨g, cap, cur, hv, hg, r⟩
  · exact .inl h2
  · exact .inr ⟨g, cap, cur, hv, Nat.le_trans hk.size hg, r⟩
end Pg
namespace Go.Proofs.Ytjkhdjonlppdoaa
open Go.RowKit Pg

end Go.Proofs.Ytjkhdjonlppdoaa
