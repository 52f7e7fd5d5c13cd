/- What the program says of ledgers and snapshots. -/
import Derived.Test.YtadkkhbbempaaaaCom
namespace Go.Proofs.Ytadkkhbbempaaaa
set_option maxRecDepth 100000
open Go.RowKit

theorem info_Ledger : (Try.prog.info? 27).map (·.size) = some 4 := by kernel_rfl
theorem info_Shot : (Try.prog.info? 29).map (·.size) = some 7 := by kernel_rfl
end Go.Proofs.Ytadkkhbbempaaaa
