/- Walk: a word's number in a trie, as the document says (fretsawref16.Number). Conditions: the text is of at most 10^6 bytes; the rows are of ints. -/
import Derived.Test.YtndekogkfbhabaaTrieFind
namespace Go.Proofs.Ytndekogkfbhabaa
open Go.RowKit
section
variable {b1 o1 c1 b2 o2 c2 b3 o3 c3 n : Nat}
end
end Go.Proofs.Ytndekogkfbhabaa
