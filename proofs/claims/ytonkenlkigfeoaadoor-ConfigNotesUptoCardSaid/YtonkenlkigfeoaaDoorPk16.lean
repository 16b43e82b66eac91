/- Walks: how a byte is written (the reference's letter, Sign, written). Conditions: a byte. -/
import Derived.Test.YtonkenlkigfeoaaDoorPk10
import Derived.Test.YtonkenlkigfeoaaDoorPk03
import Derived.Deep.LoopGhost
import Derived.Deep.CutBlock
import Derived.Lib.SlBytesConst
namespace Go.Proofs.YtonkenlkigfeoaaDoor
open Go.RowKit
open Go.RowKit
end Go.Proofs.YtonkenlkigfeoaaDoor
