/- Arguments opened: a slice of bytes that came in. -/
import Derived.Test.YtidkhekekfennaaMem
import Derived.ProofKit
import Derived.OpenShut
import Derived.SizedLaws
import Derived.Lib.SlBytesConst
namespace Go.Proofs.Ytidkhekekfennaa
set_option maxRecDepth 100000
open Go.ChangeShapes Go.WideShapes Go.ChangeAt Go.RowKit

/-- Numbers of a kind, well formed, are in its bounds. -/
theorem wf_u64 {n : Int} (h : (Lit.int .u64 n).wf = true) : 0 ≤ n ∧ n < 18446744073709551616 := by
  have := bounds_u64 h
  omega
theorem wf_i64 {n : Int} (h : (Lit.int .i64 n).wf = true) : -9223372036854775808 ≤ n ∧ n ≤ 9223372036854775807 := bounds_i64 h
theorem nat_u64 {n : Int} (h : (Lit.int .u64 n).wf = true) : ∃ m : Nat, n = m ∧ m < 18446744073709551616 := by
  have := wf_u64 h
  exact ⟨n.toNat, by omega, by omega⟩

/-- What is known of a slice of bytes that came in. -/
def OpenB (W : World) (v : Value) : Prop := ∃ A c l, v = .slice A l.length c ∧ In8 W A c l ∧ l.length ≤ 140737488351232
end Go.Proofs.Ytidkhekekfennaa
