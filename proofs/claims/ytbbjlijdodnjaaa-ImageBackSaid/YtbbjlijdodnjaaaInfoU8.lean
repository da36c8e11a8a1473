/- A byte's type. -/
import Derived.Test.YtbbjlijdodnjaaaRows
import Derived.Test.YtbbjlijdodnjaaaKit
namespace Go.Proofs.Ytbbjlijdodnjaaa
open Go.RowKit

theorem info_u8 : (Try.prog.info? 5).map (fun i => (i.zero, i.size, i.bytes)) = some (some (.int .u8 0), 1, 1) := by kernel_rfl
end Go.Proofs.Ytbbjlijdodnjaaa
