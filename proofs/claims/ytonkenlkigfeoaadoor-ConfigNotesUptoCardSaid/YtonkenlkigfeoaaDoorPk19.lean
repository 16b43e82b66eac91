/- Walks: which rules may be, how much they let grow, by the reference (fretsawref11.Right, Grow). Condition: the rules lie in memory. -/
import Derived.Test.YtonkenlkigfeoaaDoorPk17
import Derived.Deep.CutBlock
namespace Go.Proofs.YtonkenlkigfeoaaDoor
open Go.RowKit Go.Deep
end Go.Proofs.YtonkenlkigfeoaaDoor
