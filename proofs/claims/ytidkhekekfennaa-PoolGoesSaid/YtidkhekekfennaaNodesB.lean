/- Walks over sets of nodes, second part: nodes.Check and the document's Check. -/
import Derived.Test.YtidkhekekfennaaNodes
namespace Go.Proofs.Ytidkhekekfennaa
set_option maxRecDepth 100000
open Go.RowKit

/-- The two answers of a check. -/
def errArg (b : Bool) : Int := if b then 0 else 1

end Go.Proofs.Ytidkhekekfennaa
