/- Cells of a number, of a text. No conditions. -/
import Derived.Test.YtonkenlkigfeoaaDoorPk04
import Derived.Test.YtonkenlkigfeoaaDoorProg
namespace Go.Proofs.YtonkenlkigfeoaaDoor
open Go.RowKit
def intC (n : Int) : List Value := [.int .i64 n]
def strC (l : List UInt8) : List Value := [.string ⟨l.toArray⟩]
end Go.Proofs.YtonkenlkigfeoaaDoor
