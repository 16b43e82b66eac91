/- TrieBuilds walked: in what is built of any words each has its number, and no other text has one; others are refused. Conditions: the list can be read. -/
import Derived.Test.YtndekogkfbhabaaTriFewB
import Derived.Test.YtndekogkfbhabaaTriMany
import Derived.Test.YtndekogkfbhabaaStrOpen
namespace Go.Proofs.Ytndekogkfbhabaa
open Go.RowKit
theorem law_TrieBuilds (w : World) (v : Value) (ws : List (List UInt8)) (hrow : RowOf strC 1 w v ws) (s : ByteArray) (_ : s.size ≤ 140737488351232) (a : Int) (ha : I64 a) :
    Calls Try.prog 4 #[v, .string s, .int .i64 a] w fun e w' => e = .returned (.bool true) ∧ Below w.heap.size w w' := by
  by_cases h : ws.length ≤ 2048
  · exact builds_few w v ws hrow h s a ha
  · exact builds_many w v ws hrow (by omega) s a
end Go.Proofs.Ytndekogkfbhabaa
