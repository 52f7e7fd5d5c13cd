/-
  No cell of these rows narrows 'for every input' (looked for: loops, veiled, ifaces, maps, wideKeys, modest, calm, conditions, laid).
  DERIVED. THE GIVEN ROWS OF THIS SEAT. 4 by the template 'for every input the law returns true; each argument reads behind the call as it read before'; 0 by the template 'total and deterministic' (their statements: YtfkaggdjhopjpaaTotals.lean).
  GIVEN WITH THE SEED: the statements are not yours to turn. If you find one false, say at which input.
  Laid BY PROGRAM, IN A SANDBOX (cutbox-rows.mjs): the forced cells as the released guide's own fill.sh prints them over the translation 5fbdae95ea8270aa… (all of the seat's roots in one cut). By AI agents, Wed Nov 11 2026. No macro, syntax, notation, axiom, sorry.
-/
import Derived.Test.YtfkaggdjhopjpaaChecked
import GoSem.Claim
import GoSem.ClaimJoined
import GoSem.ClaimMapViews
import Derived.JoinedTies
import Derived.KernelRfl
namespace Go.Proofs.Ytfkaggdjhopjpaa
/- THE CELL 'sum', in the pinned program and in every row, IS THE sha256 OF THE DUMP (.gsa) THAT YtfkaggdjhopjpaaProg.lean LOADS. Nothing in Lean hashes anything: it is a label: what it is worth is what the hold of that sum in a sandbox is worth. -/
noncomputable def Try.pinned : Pinned := { name := "ytfkaggdjhopjpaa", sum := "5fbdae95ea8270aa5a6a356ac5284748d9d604ca3717b356d9e534d78cb828eb", checked := Try.checked }
namespace Rows
def none {H : Type} : Left H := { results := [], args := [] }

/-- 'stopcocklaw17.LeaseComes': WHATEVER THE INPUT: true; the input reads as it did. -/
def leaseComesSpec : ChangeSpec := { name := "leaseComes", fn := fun _ => fun
  | [d1, d2, d3, d4] => { results := [.lit (.bool true)], args := [d1, d2, d3, d4] }
  | _ => none }
def leaseComesRow : OpenClaim := { program := "ytfkaggdjhopjpaa", sum := "5fbdae95ea8270aa5a6a356ac5284748d9d604ca3717b356d9e534d78cb828eb", func := "stopcock/stopcocklaw17.LeaseComes", spec := "leaseComes", plainKeys := false, apart := false }
def LeaseComesSaid : Prop := leaseComesRow.holds Try.pinned (OpenSpec.ofChange leaseComesSpec)

/-- ITS FALSE NEIGHBOUR: 'it returns false'. Refute it at one input. -/
def leaseComesWrong : ChangeSpec := { name := "leaseComes", fn := fun _ => fun
  | [d1, d2, d3, d4] => { results := [.lit (.bool false)], args := [d1, d2, d3, d4] }
  | _ => none }
def LeaseComesWrongFalsely : Prop := leaseComesRow.holds Try.pinned (OpenSpec.ofChange leaseComesWrong)

/-- 'stopcocklaw17.LeaseKeeps': WHATEVER THE INPUT: true; the input reads as it did. -/
def leaseKeepsSpec : ChangeSpec := { name := "leaseKeeps", fn := fun _ => fun
  | [d1, d2] => { results := [.lit (.bool true)], args := [d1, d2] }
  | _ => none }
def leaseKeepsRow : OpenClaim := { program := "ytfkaggdjhopjpaa", sum := "5fbdae95ea8270aa5a6a356ac5284748d9d604ca3717b356d9e534d78cb828eb", func := "stopcock/stopcocklaw17.LeaseKeeps", spec := "leaseKeeps", plainKeys := false, apart := false }
def LeaseKeepsSaid : Prop := leaseKeepsRow.holds Try.pinned (OpenSpec.ofChange leaseKeepsSpec)

/-- ITS FALSE NEIGHBOUR: 'it returns false'. Refute it at one input. -/
def leaseKeepsWrong : ChangeSpec := { name := "leaseKeeps", fn := fun _ => fun
  | [d1, d2] => { results := [.lit (.bool false)], args := [d1, d2] }
  | _ => none }
def LeaseKeepsWrongFalsely : Prop := leaseKeepsRow.holds Try.pinned (OpenSpec.ofChange leaseKeepsWrong)

/-- 'stopcocklaw17.LeaseTrusts': WHATEVER THE INPUT: true; the input reads as it did. -/
def leaseTrustsSpec : ChangeSpec := { name := "leaseTrusts", fn := fun _ => fun
  | [d1, d2] => { results := [.lit (.bool true)], args := [d1, d2] }
  | _ => none }
def leaseTrustsRow : OpenClaim := { program := "ytfkaggdjhopjpaa", sum := "5fbdae95ea8270aa5a6a356ac5284748d9d604ca3717b356d9e534d78cb828eb", func := "stopcock/stopcocklaw17.LeaseTrusts", spec := "leaseTrusts", inPlace := ["slices.overlaps[stopcock/lease.Trust]"], unfollowed := true, recurses := true, plainKeys := false, apart := false }
def LeaseTrustsSaid : Prop := leaseTrustsRow.holds Try.pinned (OpenSpec.ofChange leaseTrustsSpec)

/-- ITS FALSE NEIGHBOUR: 'it returns false'. Refute it at one input. -/
def leaseTrustsWrong : ChangeSpec := { name := "leaseTrusts", fn := fun _ => fun
  | [d1, d2] => { results := [.lit (.bool false)], args := [d1, d2] }
  | _ => none }
def LeaseTrustsWrongFalsely : Prop := leaseTrustsRow.holds Try.pinned (OpenSpec.ofChange leaseTrustsWrong)

/-- 'stopcocklaw17.LeaseSafe': WHATEVER THE INPUT: true; the input reads as it did. -/
def leaseSafeSpec : ChangeSpec := { name := "leaseSafe", fn := fun _ => fun
  | [d1, d2, d3] => { results := [.lit (.bool true)], args := [d1, d2, d3] }
  | _ => none }
def leaseSafeRow : OpenClaim := { program := "ytfkaggdjhopjpaa", sum := "5fbdae95ea8270aa5a6a356ac5284748d9d604ca3717b356d9e534d78cb828eb", func := "stopcock/stopcocklaw17.LeaseSafe", spec := "leaseSafe", inPlace := ["slices.overlaps[stopcock/lease.Trust]"], unfollowed := true, recurses := true, plainKeys := false, apart := false }
def LeaseSafeSaid : Prop := leaseSafeRow.holds Try.pinned (OpenSpec.ofChange leaseSafeSpec)

/-- ITS FALSE NEIGHBOUR: 'it returns false'. Refute it at one input. -/
def leaseSafeWrong : ChangeSpec := { name := "leaseSafe", fn := fun _ => fun
  | [d1, d2, d3] => { results := [.lit (.bool false)], args := [d1, d2, d3] }
  | _ => none }
def LeaseSafeWrongFalsely : Prop := leaseSafeRow.holds Try.pinned (OpenSpec.ofChange leaseSafeWrong)

/- THE SECOND FORM. 'bulk': how many values and letters a reading holds, each counted each time it is reached (what is shared counts as often as it is met; a slice's spare places count too). A statement '..UptoSaid' is the law's where the arguments, and the package variables that the reading takes, are together of bulk at most 1048576: NARROWER than '..Said'. Prove '..Said' where nothing that the law and all that it calls make is longer than what came in: it says more and counts as full. Else prove '..UptoSaid'. A law counts once. -/
mutual
def uptoBulk {H : Type} : DataW H → Nat
  | .lit (.string bytes) => bytes.length + 1
  | .lit _ => 1
  | .nil => 1
  | .ptr d => uptoBulk d + 1
  | .slice elems spare => uptoBulkAll elems + uptoBulkAll spare + 1
  | .agg parts => uptoBulkAll parts + 1
  | .iface _ d => uptoBulk d + 1
  | .map entries => uptoBulkEntries entries + 1
  | .held _ => 1
def uptoBulkAll {H : Type} : List (DataW H) → Nat
  | [] => 0
  | d :: r => uptoBulk d + uptoBulkAll r
def uptoBulkEntries {H : Type} : List (Lit × DataW H) → Nat
  | [] => 0
  | x :: r => uptoBulkEntry x + uptoBulkEntries r
def uptoBulkEntry {H : Type} : Lit × DataW H → Nat
  | (.string bytes, d) => bytes.length + uptoBulk d + 1
  | (_, d) => uptoBulk d + 1
 end
def uptoSmall : (H : Type) → List (DataW H) → Bool := fun _ ds => decide (uptoBulkAll ds ≤ 1048576)
def OpenSpec.upto (s : _root_.Go.ChangeSpec) : _root_.Go.OpenSpec := { _root_.Go.OpenSpec.ofChange s with cond := some uptoSmall }

/-- 'stopcocklaw17.LeaseComes', WHERE WHAT IT READS IS OF BULK AT MOST 1048576: true; the input reads as it did. -/
def leaseComesUptoRow : OpenClaim := { program := "ytfkaggdjhopjpaa", sum := "5fbdae95ea8270aa5a6a356ac5284748d9d604ca3717b356d9e534d78cb828eb", func := "stopcock/stopcocklaw17.LeaseComes", spec := "leaseComes", plainKeys := false, apart := false, narrowed := true }
def LeaseComesUptoSaid : Prop := leaseComesUptoRow.holds Try.pinned (OpenSpec.upto leaseComesSpec)

/-- 'stopcocklaw17.LeaseKeeps', WHERE WHAT IT READS IS OF BULK AT MOST 1048576: true; the input reads as it did. -/
def leaseKeepsUptoRow : OpenClaim := { program := "ytfkaggdjhopjpaa", sum := "5fbdae95ea8270aa5a6a356ac5284748d9d604ca3717b356d9e534d78cb828eb", func := "stopcock/stopcocklaw17.LeaseKeeps", spec := "leaseKeeps", plainKeys := false, apart := false, narrowed := true }
def LeaseKeepsUptoSaid : Prop := leaseKeepsUptoRow.holds Try.pinned (OpenSpec.upto leaseKeepsSpec)

/-- 'stopcocklaw17.LeaseTrusts', WHERE WHAT IT READS IS OF BULK AT MOST 1048576: true; the input reads as it did. -/
def leaseTrustsUptoRow : OpenClaim := { program := "ytfkaggdjhopjpaa", sum := "5fbdae95ea8270aa5a6a356ac5284748d9d604ca3717b356d9e534d78cb828eb", func := "stopcock/stopcocklaw17.LeaseTrusts", spec := "leaseTrusts", inPlace := ["slices.overlaps[stopcock/lease.Trust]"], unfollowed := true, recurses := true, plainKeys := false, apart := false, narrowed := true }
def LeaseTrustsUptoSaid : Prop := leaseTrustsUptoRow.holds Try.pinned (OpenSpec.upto leaseTrustsSpec)

/-- 'stopcocklaw17.LeaseSafe', WHERE WHAT IT READS IS OF BULK AT MOST 1048576: true; the input reads as it did. -/
def leaseSafeUptoRow : OpenClaim := { program := "ytfkaggdjhopjpaa", sum := "5fbdae95ea8270aa5a6a356ac5284748d9d604ca3717b356d9e534d78cb828eb", func := "stopcock/stopcocklaw17.LeaseSafe", spec := "leaseSafe", inPlace := ["slices.overlaps[stopcock/lease.Trust]"], unfollowed := true, recurses := true, plainKeys := false, apart := false, narrowed := true }
def LeaseSafeUptoSaid : Prop := leaseSafeUptoRow.holds Try.pinned (OpenSpec.upto leaseSafeSpec)

end Rows
end Go.Proofs.Ytfkaggdjhopjpaa
