/- Walk of tegularef02.SameInts. -/
import Derived.Test.YteglnekkkhpikaaGreatGTab
namespace Go.Proofs.YteglnekkkhpikaaGreat
open Go.RowKit

end Go.Proofs.YteglnekkkhpikaaGreat
