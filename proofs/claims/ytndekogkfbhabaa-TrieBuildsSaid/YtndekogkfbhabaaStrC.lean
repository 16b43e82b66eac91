/- Cells of a number, of a text. No conditions. -/
import Derived.Test.YtndekogkfbhabaaOpen
import Derived.Test.YtndekogkfbhabaaProg
namespace Go.Proofs.Ytndekogkfbhabaa
open Go.RowKit
def intC (n : Int) : List Value := [.int .i64 n]
def strC (l : List UInt8) : List Value := [.string ⟨l.toArray⟩]
end Go.Proofs.Ytndekogkfbhabaa
