/-
  No cell of these rows narrows 'for every input' (looked for: loops, veiled, ifaces, maps, wideKeys, modest, calm, conditions, laid).
  DERIVED. THE GIVEN ROWS OF THIS SEAT. 6 by the template 'for every input the law returns true; each argument reads behind the call as it read before'; 0 by the template 'total and deterministic' (their statements: YtnpodnieahokjaaTotals.lean).
  GIVEN WITH THE SEED: the statements are not yours to turn. If you find one false, say at which input.
  Laid BY PROGRAM, IN A SANDBOX (cutbox-rows.mjs): the forced cells as the released guide's own fill.sh prints them over the translation 5d70d76e6729c1a4… (all of the seat's roots in one cut). By AI agents, Wed Nov 11 2026. No macro, syntax, notation, axiom, sorry.
-/
import Derived.Test.YtnpodnieahokjaaChecked
import GoSem.Claim
import GoSem.ClaimJoined
import GoSem.ClaimMapViews
import Derived.JoinedTies
import Derived.KernelRfl
namespace Go.Proofs.Ytnpodnieahokjaa
/- THE CELL 'sum', in the pinned program and in every row, IS THE sha256 OF THE DUMP (.gsa) THAT YtnpodnieahokjaaProg.lean LOADS. Nothing in Lean hashes anything: it is a label: what it is worth is what the hold of that sum in a sandbox is worth. -/
noncomputable def Try.pinned : Pinned := { name := "ytnpodnieahokjaa", sum := "5d70d76e6729c1a4de9f3729b7591108613a27fc198b6e718e25d721eb92f177", checked := Try.checked }
namespace Rows
def none {H : Type} : Left H := { results := [], args := [] }

/-- 'stopcocklaw04.CmdChecks': WHATEVER THE INPUT: true; the input reads as it did. -/
def cmdChecksSpec : ChangeSpec := { name := "cmdChecks", fn := fun _ => fun
  | [d] => { results := [.lit (.bool true)], args := [d] }
  | _ => none }
def cmdChecksRow : OpenClaim := { program := "ytnpodnieahokjaa", sum := "5d70d76e6729c1a4de9f3729b7591108613a27fc198b6e718e25d721eb92f177", func := "stopcock/stopcocklaw04.CmdChecks", spec := "cmdChecks", apart := false }
def CmdChecksSaid : Prop := cmdChecksRow.holds Try.pinned (OpenSpec.ofChange cmdChecksSpec)

/-- ITS FALSE NEIGHBOUR: 'it returns false'. Refute it at one input. -/
def cmdChecksWrong : ChangeSpec := { name := "cmdChecks", fn := fun _ => fun
  | [d] => { results := [.lit (.bool false)], args := [d] }
  | _ => none }
def CmdChecksWrongFalsely : Prop := cmdChecksRow.holds Try.pinned (OpenSpec.ofChange cmdChecksWrong)

/-- 'stopcocklaw04.CmdWrites': WHATEVER THE INPUT: true; the input reads as it did. -/
def cmdWritesSpec : ChangeSpec := { name := "cmdWrites", fn := fun _ => fun
  | [d] => { results := [.lit (.bool true)], args := [d] }
  | _ => none }
def cmdWritesRow : OpenClaim := { program := "ytnpodnieahokjaa", sum := "5d70d76e6729c1a4de9f3729b7591108613a27fc198b6e718e25d721eb92f177", func := "stopcock/stopcocklaw04.CmdWrites", spec := "cmdWrites", recurses := true, apart := false }
def CmdWritesSaid : Prop := cmdWritesRow.holds Try.pinned (OpenSpec.ofChange cmdWritesSpec)

/-- ITS FALSE NEIGHBOUR: 'it returns false'. Refute it at one input. -/
def cmdWritesWrong : ChangeSpec := { name := "cmdWrites", fn := fun _ => fun
  | [d] => { results := [.lit (.bool false)], args := [d] }
  | _ => none }
def CmdWritesWrongFalsely : Prop := cmdWritesRow.holds Try.pinned (OpenSpec.ofChange cmdWritesWrong)

/-- 'stopcocklaw04.CmdReads': WHATEVER THE INPUT: true; the input reads as it did. -/
def cmdReadsSpec : ChangeSpec := { name := "cmdReads", fn := fun _ => fun
  | [d] => { results := [.lit (.bool true)], args := [d] }
  | _ => none }
def cmdReadsRow : OpenClaim := { program := "ytnpodnieahokjaa", sum := "5d70d76e6729c1a4de9f3729b7591108613a27fc198b6e718e25d721eb92f177", func := "stopcock/stopcocklaw04.CmdReads", spec := "cmdReads", apart := false }
def CmdReadsSaid : Prop := cmdReadsRow.holds Try.pinned (OpenSpec.ofChange cmdReadsSpec)

/-- ITS FALSE NEIGHBOUR: 'it returns false'. Refute it at one input. -/
def cmdReadsWrong : ChangeSpec := { name := "cmdReads", fn := fun _ => fun
  | [d] => { results := [.lit (.bool false)], args := [d] }
  | _ => none }
def CmdReadsWrongFalsely : Prop := cmdReadsRow.holds Try.pinned (OpenSpec.ofChange cmdReadsWrong)

/-- 'stopcocklaw04.CmdBack': WHATEVER THE INPUT: true; the input reads as it did. -/
def cmdBackSpec : ChangeSpec := { name := "cmdBack", fn := fun _ => fun
  | [d1, d2] => { results := [.lit (.bool true)], args := [d1, d2] }
  | _ => none }
def cmdBackRow : OpenClaim := { program := "ytnpodnieahokjaa", sum := "5d70d76e6729c1a4de9f3729b7591108613a27fc198b6e718e25d721eb92f177", func := "stopcock/stopcocklaw04.CmdBack", spec := "cmdBack", apart := false }
def CmdBackSaid : Prop := cmdBackRow.holds Try.pinned (OpenSpec.ofChange cmdBackSpec)

/-- ITS FALSE NEIGHBOUR: 'it returns false'. Refute it at one input. -/
def cmdBackWrong : ChangeSpec := { name := "cmdBack", fn := fun _ => fun
  | [d1, d2] => { results := [.lit (.bool false)], args := [d1, d2] }
  | _ => none }
def CmdBackWrongFalsely : Prop := cmdBackRow.holds Try.pinned (OpenSpec.ofChange cmdBackWrong)

/-- 'stopcocklaw04.CmdSame': WHATEVER THE INPUT: true; the input reads as it did. -/
def cmdSameSpec : ChangeSpec := { name := "cmdSame", fn := fun _ => fun
  | [d] => { results := [.lit (.bool true)], args := [d] }
  | _ => none }
def cmdSameRow : OpenClaim := { program := "ytnpodnieahokjaa", sum := "5d70d76e6729c1a4de9f3729b7591108613a27fc198b6e718e25d721eb92f177", func := "stopcock/stopcocklaw04.CmdSame", spec := "cmdSame", apart := false }
def CmdSameSaid : Prop := cmdSameRow.holds Try.pinned (OpenSpec.ofChange cmdSameSpec)

/-- ITS FALSE NEIGHBOUR: 'it returns false'. Refute it at one input. -/
def cmdSameWrong : ChangeSpec := { name := "cmdSame", fn := fun _ => fun
  | [d] => { results := [.lit (.bool false)], args := [d] }
  | _ => none }
def CmdSameWrongFalsely : Prop := cmdSameRow.holds Try.pinned (OpenSpec.ofChange cmdSameWrong)

/-- 'stopcocklaw04.CmdCuts': WHATEVER THE INPUT: true; the input reads as it did. -/
def cmdCutsSpec : ChangeSpec := { name := "cmdCuts", fn := fun _ => fun
  | [d] => { results := [.lit (.bool true)], args := [d] }
  | _ => none }
def cmdCutsRow : OpenClaim := { program := "ytnpodnieahokjaa", sum := "5d70d76e6729c1a4de9f3729b7591108613a27fc198b6e718e25d721eb92f177", func := "stopcock/stopcocklaw04.CmdCuts", spec := "cmdCuts", apart := false }
def CmdCutsSaid : Prop := cmdCutsRow.holds Try.pinned (OpenSpec.ofChange cmdCutsSpec)

/-- ITS FALSE NEIGHBOUR: 'it returns false'. Refute it at one input. -/
def cmdCutsWrong : ChangeSpec := { name := "cmdCuts", fn := fun _ => fun
  | [d] => { results := [.lit (.bool false)], args := [d] }
  | _ => none }
def CmdCutsWrongFalsely : Prop := cmdCutsRow.holds Try.pinned (OpenSpec.ofChange cmdCutsWrong)

/- THE SECOND FORM. 'bulk': how many values and letters a reading holds, each counted each time it is reached (what is shared counts as often as it is met; a slice's spare places count too). A statement '..UptoSaid' is the law's where the arguments, and the package variables that the reading takes, are together of bulk at most 1048576: NARROWER than '..Said'. Prove '..Said' where nothing that the law and all that it calls make is longer than what came in: it says more and counts as full. Else prove '..UptoSaid'. A law counts once. -/
mutual
def uptoBulk {H : Type} : DataW H → Nat
  | .lit (.string bytes) => bytes.length + 1
  | .lit _ => 1
  | .nil => 1
  | .ptr d => uptoBulk d + 1
  | .slice elems spare => uptoBulkAll elems + uptoBulkAll spare + 1
  | .agg parts => uptoBulkAll parts + 1
  | .iface _ d => uptoBulk d + 1
  | .map entries => uptoBulkEntries entries + 1
  | .held _ => 1
def uptoBulkAll {H : Type} : List (DataW H) → Nat
  | [] => 0
  | d :: r => uptoBulk d + uptoBulkAll r
def uptoBulkEntries {H : Type} : List (Lit × DataW H) → Nat
  | [] => 0
  | x :: r => uptoBulkEntry x + uptoBulkEntries r
def uptoBulkEntry {H : Type} : Lit × DataW H → Nat
  | (.string bytes, d) => bytes.length + uptoBulk d + 1
  | (_, d) => uptoBulk d + 1
 end
def uptoSmall : (H : Type) → List (DataW H) → Bool := fun _ ds => decide (uptoBulkAll ds ≤ 1048576)
def OpenSpec.upto (s : _root_.Go.ChangeSpec) : _root_.Go.OpenSpec := { _root_.Go.OpenSpec.ofChange s with cond := some uptoSmall }

/-- 'stopcocklaw04.CmdChecks', WHERE WHAT IT READS IS OF BULK AT MOST 1048576: true; the input reads as it did. -/
def cmdChecksUptoRow : OpenClaim := { program := "ytnpodnieahokjaa", sum := "5d70d76e6729c1a4de9f3729b7591108613a27fc198b6e718e25d721eb92f177", func := "stopcock/stopcocklaw04.CmdChecks", spec := "cmdChecks", apart := false, narrowed := true }
def CmdChecksUptoSaid : Prop := cmdChecksUptoRow.holds Try.pinned (OpenSpec.upto cmdChecksSpec)

/-- 'stopcocklaw04.CmdWrites', WHERE WHAT IT READS IS OF BULK AT MOST 1048576: true; the input reads as it did. -/
def cmdWritesUptoRow : OpenClaim := { program := "ytnpodnieahokjaa", sum := "5d70d76e6729c1a4de9f3729b7591108613a27fc198b6e718e25d721eb92f177", func := "stopcock/stopcocklaw04.CmdWrites", spec := "cmdWrites", recurses := true, apart := false, narrowed := true }
def CmdWritesUptoSaid : Prop := cmdWritesUptoRow.holds Try.pinned (OpenSpec.upto cmdWritesSpec)

/-- 'stopcocklaw04.CmdReads', WHERE WHAT IT READS IS OF BULK AT MOST 1048576: true; the input reads as it did. -/
def cmdReadsUptoRow : OpenClaim := { program := "ytnpodnieahokjaa", sum := "5d70d76e6729c1a4de9f3729b7591108613a27fc198b6e718e25d721eb92f177", func := "stopcock/stopcocklaw04.CmdReads", spec := "cmdReads", apart := false, narrowed := true }
def CmdReadsUptoSaid : Prop := cmdReadsUptoRow.holds Try.pinned (OpenSpec.upto cmdReadsSpec)

/-- 'stopcocklaw04.CmdBack', WHERE WHAT IT READS IS OF BULK AT MOST 1048576: true; the input reads as it did. -/
def cmdBackUptoRow : OpenClaim := { program := "ytnpodnieahokjaa", sum := "5d70d76e6729c1a4de9f3729b7591108613a27fc198b6e718e25d721eb92f177", func := "stopcock/stopcocklaw04.CmdBack", spec := "cmdBack", apart := false, narrowed := true }
def CmdBackUptoSaid : Prop := cmdBackUptoRow.holds Try.pinned (OpenSpec.upto cmdBackSpec)

/-- 'stopcocklaw04.CmdSame', WHERE WHAT IT READS IS OF BULK AT MOST 1048576: true; the input reads as it did. -/
def cmdSameUptoRow : OpenClaim := { program := "ytnpodnieahokjaa", sum := "5d70d76e6729c1a4de9f3729b7591108613a27fc198b6e718e25d721eb92f177", func := "stopcock/stopcocklaw04.CmdSame", spec := "cmdSame", apart := false, narrowed := true }
def CmdSameUptoSaid : Prop := cmdSameUptoRow.holds Try.pinned (OpenSpec.upto cmdSameSpec)

/-- 'stopcocklaw04.CmdCuts', WHERE WHAT IT READS IS OF BULK AT MOST 1048576: true; the input reads as it did. -/
def cmdCutsUptoRow : OpenClaim := { program := "ytnpodnieahokjaa", sum := "5d70d76e6729c1a4de9f3729b7591108613a27fc198b6e718e25d721eb92f177", func := "stopcock/stopcocklaw04.CmdCuts", spec := "cmdCuts", apart := false, narrowed := true }
def CmdCutsUptoSaid : Prop := cmdCutsUptoRow.holds Try.pinned (OpenSpec.upto cmdCutsSpec)

end Rows
end Go.Proofs.Ytnpodnieahokjaa
