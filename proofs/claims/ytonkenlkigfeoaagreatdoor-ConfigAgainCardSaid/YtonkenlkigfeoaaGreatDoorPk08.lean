/- Cells of a number, of a text. No conditions. -/
import Derived.Test.YtonkenlkigfeoaaGreatDoorPk06
import Derived.Test.YtonkenlkigfeoaaGreatDoorProg
namespace Go.Proofs.YtonkenlkigfeoaaGreatDoor
open Go.RowKit
def intC (n : Int) : List Value := [.int .i64 n]
def strC (l : List UInt8) : List Value := [.string ⟨l.toArray⟩]
end Go.Proofs.YtonkenlkigfeoaaGreatDoor
