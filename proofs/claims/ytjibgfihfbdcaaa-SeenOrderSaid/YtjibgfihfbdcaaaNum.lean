/- Plain functions of this session: what the package seen computes. Elements as pairs, so that this text needs no kind of the claim's. -/
import Derived.IntWalk
import Derived.Laws.BitsLemmas
import Derived.RowKit
namespace Go.Proofs.Ytjibgfihfbdcaaa.Pl
open Go.RowKit
/-- One interval behind an interval that ends at b. -/
def okR1 (b : Option Int) (lo hi : Int) : Bool := decide (1 ≤ lo ∧ lo ≤ hi) && (decide (hi ≤ 1000000000) && (match b with | none => true | some h => decide (wrap64 (h + 1) < lo)))
end Go.Proofs.Ytjibgfihfbdcaaa.Pl
