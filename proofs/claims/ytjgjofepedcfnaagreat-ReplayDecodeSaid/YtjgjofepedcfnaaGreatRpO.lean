/- Walk of tegularef27.Valid. -/
import Derived.Test.YtjgjofepedcfnaaGreatRpN
namespace Go.Proofs.YtjgjofepedcfnaaGreat
open Go.RowKit
end Go.Proofs.YtjgjofepedcfnaaGreat
