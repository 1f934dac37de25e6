/- Numbers and byte strings in bytes, on lists; walks of codec.AppendUint, AppendBytes and of tegularef09.AppendUint, AppendBytes. -/
import Derived.Test.YtjgjofepedcfnaaGreatRpG
namespace Go.Proofs.YtjgjofepedcfnaaGreat
open Go.RowKit
end Go.Proofs.YtjgjofepedcfnaaGreat
