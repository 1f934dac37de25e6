/- Walk of tegularef47's seen. -/
import Derived.Test.YtcgbnlhloopnfaaRefD
import Derived.BigQuiet
import Derived.Outline
namespace Go.Proofs.Ytcgbnlhloopnfaa
open Go.RowKit

def seenB (os : List Opr) (v : Nat) (ev : Int) (o : Opr) : Bool := ansB o && decide (ev < o.era) && decide (idxN (srcO os o.reg o.val) = (v : Int))

end Go.Proofs.Ytcgbnlhloopnfaa
