/- Walks: which rules may be, how much they let grow, by the reference (fretsawref11.Right, Grow). Condition: the rules lie in memory. -/
import Derived.Test.YtonkenlkigfeoaaGreatDoorPk19
import Derived.Deep.CutBlock
namespace Go.Proofs.YtonkenlkigfeoaaGreatDoor
open Go.RowKit Go.Deep
end Go.Proofs.YtonkenlkigfeoaaGreatDoor
