/- Walks: a number is written (wire.Put, the reference's Put). Condition: it is of 64 bits. -/
import Derived.Test.YtpelngkhipcneaaProg
import Derived.Test.YtpelngkhipcneaaWireSpec
namespace Go.Proofs.Ytpelngkhipcneaa
open Go.RowKit
theorem info_u8 : (Try.prog.info? 5).map (fun i => (i.zero, i.size, i.bytes)) = some (some (.int .u8 0), 1, 1) := by kernel_rfl

end Go.Proofs.Ytpelngkhipcneaa
