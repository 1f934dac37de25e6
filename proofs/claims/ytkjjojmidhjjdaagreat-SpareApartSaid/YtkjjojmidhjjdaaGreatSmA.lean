/- Walk of tegulalaw22.copied. -/
import Derived.Test.YtkjjojmidhjjdaaGreatTwW
namespace Go.Proofs.YtkjjojmidhjjdaaGreat
open Go.RowKit

end Go.Proofs.YtkjjojmidhjjdaaGreat
