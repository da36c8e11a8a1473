/- A byte's type. -/
import Derived.Test.YthjcacnladpbdaaRows
import Derived.Test.YthjcacnladpbdaaKit
namespace Go.Proofs.Ythjcacnladpbdaa
open Go.RowKit

theorem info_u8 : (Try.prog.info? 5).map (fun i => (i.zero, i.size, i.bytes)) = some (some (.int .u8 0), 1, 1) := by kernel_rfl
end Go.Proofs.Ythjcacnladpbdaa
