/- Walk: a number is read, by the reference (Get). Condition: the text is of at most 10^15 bytes. -/
import Derived.Test.YtbomloodllddaaaPk01
import Derived.Deep.RegionWith
namespace Go.Proofs.Ytbomloodllddaaa
open Go.RowKit

end Go.Proofs.Ytbomloodllddaaa
/- Walks: texts with their lengths, by the reference (GetText, PutText). Condition: the texts are of at most 10^15 bytes. -/
namespace Go.Proofs.Ytbomloodllddaaa
open Go.RowKit
end Go.Proofs.Ytbomloodllddaaa
