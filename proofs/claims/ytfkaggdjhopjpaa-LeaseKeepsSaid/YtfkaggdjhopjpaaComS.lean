/- What the program says of ledgers and snapshots. -/
import Derived.Test.YtfkaggdjhopjpaaCom
namespace Go.Proofs.Ytfkaggdjhopjpaa
set_option maxRecDepth 100000
open Go.RowKit

theorem info_Ledger : (Try.prog.info? 26).map (·.size) = some 4 := by kernel_rfl
end Go.Proofs.Ytfkaggdjhopjpaa
