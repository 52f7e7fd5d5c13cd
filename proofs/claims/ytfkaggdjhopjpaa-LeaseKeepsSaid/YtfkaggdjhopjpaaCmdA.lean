/- Walks over commands: what may be. -/
import Derived.Test.YtfkaggdjhopjpaaCmd
import Derived.Test.YtfkaggdjhopjpaaOpen
import Derived.Deep.QuietTactic
import Derived.BigQuiet
import Derived.Deep.Draws
namespace Go.Proofs.Ytfkaggdjhopjpaa
set_option maxRecDepth 100000
open Go.RowKit

/-- A command. -/
def cmdV (k n t : Int) (sl : Value) (b q s m : Int) : Value := .agg #[.int .i64 k, .int .i64 n, .int .i64 t, sl, .int .u64 b, .int .u64 q, .int .u64 s, .int .u64 m]
/-- What the fields of a kind but the list must be. -/
def numsOk (k n t b q s m : Int) : Bool :=
  kI k && decide (0 ≤ n) && decide (0 ≤ t) && rightB (hasB (fld k) 110) n 7 && rightB (hasB (fld k) 116) t 65535 && rightB (hasB (fld k) 98) b 18446744073709551615 &&
  rightB (hasB (fld k) 113) q 18446744073709551615 && rightB (hasB (fld k) 115) s 18446744073709551615 && rightB (hasB (fld k) 109) m 18446744073709551615
noncomputable def listOk (k : Int) (l : List Int) : Bool := if hasB (fld k) 108 then decide (IsSet l) else decide (l.length = 0)
def errCmd (b : Bool) : Int := if b then 0 else 40
theorem fld_small (k : Int) : (fld k).size ≤ 140737488351232 := by
  unfold fld
  split
  · decide
  split
  · decide
  split
  · decide
  split <;> decide

end Go.Proofs.Ytfkaggdjhopjpaa
