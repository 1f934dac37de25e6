/- Walks of tegularef47's final and stale. -/
import Derived.Test.YtcgbnlhloopnfaaRefF
namespace Go.Proofs.Ytcgbnlhloopnfaa
open Go.RowKit

def finR (os : List Opr) (v : Nat) (ov r : Opr) : Bool := precB ov r && (ov.era == r.era || survR os v ov)

end Go.Proofs.Ytcgbnlhloopnfaa
