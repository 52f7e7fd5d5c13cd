/-
  No cell of these rows narrows 'for every input' (looked for: loops, veiled, ifaces, maps, wideKeys, modest, calm, conditions, laid).
  DERIVED. THE GIVEN ROWS OF THIS SEAT. 9 by the template 'for every input the law returns true; each argument reads behind the call as it read before'; 0 by the template 'total and deterministic' (their statements: YtadkkhbbempaaaaTotals.lean).
  GIVEN WITH THE SEED: the statements are not yours to turn. If you find one false, say at which input.
  Laid BY PROGRAM, IN A SANDBOX (cutbox-rows.mjs): the forced cells as the released guide's own fill.sh prints them over the translation 753543d811817ac2… (all of the seat's roots in one cut). By AI agents, Wed Nov 11 2026. No macro, syntax, notation, axiom, sorry.
-/
import Derived.Test.YtadkkhbbempaaaaChecked
import GoSem.Claim
import GoSem.ClaimJoined
import GoSem.ClaimMapViews
import Derived.JoinedTies
import Derived.KernelRfl
namespace Go.Proofs.Ytadkkhbbempaaaa
/- THE CELL 'sum', in the pinned program and in every row, IS THE sha256 OF THE DUMP (.gsa) THAT YtadkkhbbempaaaaProg.lean LOADS. Nothing in Lean hashes anything: it is a label: what it is worth is what the hold of that sum in a sandbox is worth. -/
noncomputable def Try.pinned : Pinned := { name := "ytadkkhbbempaaaa", sum := "753543d811817ac24c1e0542b90fa07e323c82d2eaa43f1629697cc16f98c73f", checked := Try.checked }
namespace Rows
def none {H : Type} : Left H := { results := [], args := [] }

/-- 'stopcocklaw13.HardChecks': WHATEVER THE INPUT: true; the input reads as it did. -/
def hardChecksSpec : ChangeSpec := { name := "hardChecks", fn := fun _ => fun
  | [d] => { results := [.lit (.bool true)], args := [d] }
  | _ => none }
def hardChecksRow : OpenClaim := { program := "ytadkkhbbempaaaa", sum := "753543d811817ac24c1e0542b90fa07e323c82d2eaa43f1629697cc16f98c73f", func := "stopcock/stopcocklaw13.HardChecks", spec := "hardChecks", unfollowed := true, recurses := true, apart := false }
def HardChecksSaid : Prop := hardChecksRow.holds Try.pinned (OpenSpec.ofChange hardChecksSpec)

/-- ITS FALSE NEIGHBOUR: 'it returns false'. Refute it at one input. -/
def hardChecksWrong : ChangeSpec := { name := "hardChecks", fn := fun _ => fun
  | [d] => { results := [.lit (.bool false)], args := [d] }
  | _ => none }
def HardChecksWrongFalsely : Prop := hardChecksRow.holds Try.pinned (OpenSpec.ofChange hardChecksWrong)

/-- 'stopcocklaw13.HardBase': WHATEVER THE INPUT: true; the input reads as it did. -/
def hardBaseSpec : ChangeSpec := { name := "hardBase", fn := fun _ => fun
  | [d] => { results := [.lit (.bool true)], args := [d] }
  | _ => none }
def hardBaseRow : OpenClaim := { program := "ytadkkhbbempaaaa", sum := "753543d811817ac24c1e0542b90fa07e323c82d2eaa43f1629697cc16f98c73f", func := "stopcock/stopcocklaw13.HardBase", spec := "hardBase", unfollowed := true, recurses := true, apart := false }
def HardBaseSaid : Prop := hardBaseRow.holds Try.pinned (OpenSpec.ofChange hardBaseSpec)

/-- ITS FALSE NEIGHBOUR: 'it returns false'. Refute it at one input. -/
def hardBaseWrong : ChangeSpec := { name := "hardBase", fn := fun _ => fun
  | [d] => { results := [.lit (.bool false)], args := [d] }
  | _ => none }
def HardBaseWrongFalsely : Prop := hardBaseRow.holds Try.pinned (OpenSpec.ofChange hardBaseWrong)

/-- 'stopcocklaw13.HardDoes': WHATEVER THE INPUT: true; the input reads as it did. -/
def hardDoesSpec : ChangeSpec := { name := "hardDoes", fn := fun _ => fun
  | [d1, d2] => { results := [.lit (.bool true)], args := [d1, d2] }
  | _ => none }
def hardDoesRow : OpenClaim := { program := "ytadkkhbbempaaaa", sum := "753543d811817ac24c1e0542b90fa07e323c82d2eaa43f1629697cc16f98c73f", func := "stopcock/stopcocklaw13.HardDoes", spec := "hardDoes", unfollowed := true, recurses := true, apart := false }
def HardDoesSaid : Prop := hardDoesRow.holds Try.pinned (OpenSpec.ofChange hardDoesSpec)

/-- ITS FALSE NEIGHBOUR: 'it returns false'. Refute it at one input. -/
def hardDoesWrong : ChangeSpec := { name := "hardDoes", fn := fun _ => fun
  | [d1, d2] => { results := [.lit (.bool false)], args := [d1, d2] }
  | _ => none }
def HardDoesWrongFalsely : Prop := hardDoesRow.holds Try.pinned (OpenSpec.ofChange hardDoesWrong)

/-- 'stopcocklaw13.HardRises': WHATEVER THE INPUT: true; the input reads as it did. -/
def hardRisesSpec : ChangeSpec := { name := "hardRises", fn := fun _ => fun
  | [d1, d2] => { results := [.lit (.bool true)], args := [d1, d2] }
  | _ => none }
def hardRisesRow : OpenClaim := { program := "ytadkkhbbempaaaa", sum := "753543d811817ac24c1e0542b90fa07e323c82d2eaa43f1629697cc16f98c73f", func := "stopcock/stopcocklaw13.HardRises", spec := "hardRises", unfollowed := true, recurses := true, apart := false }
def HardRisesSaid : Prop := hardRisesRow.holds Try.pinned (OpenSpec.ofChange hardRisesSpec)

/-- ITS FALSE NEIGHBOUR: 'it returns false'. Refute it at one input. -/
def hardRisesWrong : ChangeSpec := { name := "hardRises", fn := fun _ => fun
  | [d1, d2] => { results := [.lit (.bool false)], args := [d1, d2] }
  | _ => none }
def HardRisesWrongFalsely : Prop := hardRisesRow.holds Try.pinned (OpenSpec.ofChange hardRisesWrong)

/-- 'stopcocklaw13.HardWrites': WHATEVER THE INPUT: true; the input reads as it did. -/
def hardWritesSpec : ChangeSpec := { name := "hardWrites", fn := fun _ => fun
  | [d] => { results := [.lit (.bool true)], args := [d] }
  | _ => none }
def hardWritesRow : OpenClaim := { program := "ytadkkhbbempaaaa", sum := "753543d811817ac24c1e0542b90fa07e323c82d2eaa43f1629697cc16f98c73f", func := "stopcock/stopcocklaw13.HardWrites", spec := "hardWrites", unfollowed := true, recurses := true, apart := false }
def HardWritesSaid : Prop := hardWritesRow.holds Try.pinned (OpenSpec.ofChange hardWritesSpec)

/-- ITS FALSE NEIGHBOUR: 'it returns false'. Refute it at one input. -/
def hardWritesWrong : ChangeSpec := { name := "hardWrites", fn := fun _ => fun
  | [d] => { results := [.lit (.bool false)], args := [d] }
  | _ => none }
def HardWritesWrongFalsely : Prop := hardWritesRow.holds Try.pinned (OpenSpec.ofChange hardWritesWrong)

/-- 'stopcocklaw13.HardMakes': WHATEVER THE INPUT: true; the input reads as it did. -/
def hardMakesSpec : ChangeSpec := { name := "hardMakes", fn := fun _ => fun
  | [d] => { results := [.lit (.bool true)], args := [d] }
  | _ => none }
def hardMakesRow : OpenClaim := { program := "ytadkkhbbempaaaa", sum := "753543d811817ac24c1e0542b90fa07e323c82d2eaa43f1629697cc16f98c73f", func := "stopcock/stopcocklaw13.HardMakes", spec := "hardMakes", unfollowed := true, recurses := true, apart := false }
def HardMakesSaid : Prop := hardMakesRow.holds Try.pinned (OpenSpec.ofChange hardMakesSpec)

/-- ITS FALSE NEIGHBOUR: 'it returns false'. Refute it at one input. -/
def hardMakesWrong : ChangeSpec := { name := "hardMakes", fn := fun _ => fun
  | [d] => { results := [.lit (.bool false)], args := [d] }
  | _ => none }
def HardMakesWrongFalsely : Prop := hardMakesRow.holds Try.pinned (OpenSpec.ofChange hardMakesWrong)

/-- 'stopcocklaw13.HardReads': WHATEVER THE INPUT: true; the input reads as it did. -/
def hardReadsSpec : ChangeSpec := { name := "hardReads", fn := fun _ => fun
  | [d] => { results := [.lit (.bool true)], args := [d] }
  | _ => none }
def hardReadsRow : OpenClaim := { program := "ytadkkhbbempaaaa", sum := "753543d811817ac24c1e0542b90fa07e323c82d2eaa43f1629697cc16f98c73f", func := "stopcock/stopcocklaw13.HardReads", spec := "hardReads", unfollowed := true, recurses := true, apart := false }
def HardReadsSaid : Prop := hardReadsRow.holds Try.pinned (OpenSpec.ofChange hardReadsSpec)

/-- ITS FALSE NEIGHBOUR: 'it returns false'. Refute it at one input. -/
def hardReadsWrong : ChangeSpec := { name := "hardReads", fn := fun _ => fun
  | [d] => { results := [.lit (.bool false)], args := [d] }
  | _ => none }
def HardReadsWrongFalsely : Prop := hardReadsRow.holds Try.pinned (OpenSpec.ofChange hardReadsWrong)

/-- 'stopcocklaw13.HardBack': WHATEVER THE INPUT: true; the input reads as it did. -/
def hardBackSpec : ChangeSpec := { name := "hardBack", fn := fun _ => fun
  | [d] => { results := [.lit (.bool true)], args := [d] }
  | _ => none }
def hardBackRow : OpenClaim := { program := "ytadkkhbbempaaaa", sum := "753543d811817ac24c1e0542b90fa07e323c82d2eaa43f1629697cc16f98c73f", func := "stopcock/stopcocklaw13.HardBack", spec := "hardBack", unfollowed := true, recurses := true, apart := false }
def HardBackSaid : Prop := hardBackRow.holds Try.pinned (OpenSpec.ofChange hardBackSpec)

/-- ITS FALSE NEIGHBOUR: 'it returns false'. Refute it at one input. -/
def hardBackWrong : ChangeSpec := { name := "hardBack", fn := fun _ => fun
  | [d] => { results := [.lit (.bool false)], args := [d] }
  | _ => none }
def HardBackWrongFalsely : Prop := hardBackRow.holds Try.pinned (OpenSpec.ofChange hardBackWrong)

/-- 'stopcocklaw13.HardSame': WHATEVER THE INPUT: true; the input reads as it did. -/
def hardSameSpec : ChangeSpec := { name := "hardSame", fn := fun _ => fun
  | [d] => { results := [.lit (.bool true)], args := [d] }
  | _ => none }
def hardSameRow : OpenClaim := { program := "ytadkkhbbempaaaa", sum := "753543d811817ac24c1e0542b90fa07e323c82d2eaa43f1629697cc16f98c73f", func := "stopcock/stopcocklaw13.HardSame", spec := "hardSame", unfollowed := true, recurses := true, apart := false }
def HardSameSaid : Prop := hardSameRow.holds Try.pinned (OpenSpec.ofChange hardSameSpec)

/-- ITS FALSE NEIGHBOUR: 'it returns false'. Refute it at one input. -/
def hardSameWrong : ChangeSpec := { name := "hardSame", fn := fun _ => fun
  | [d] => { results := [.lit (.bool false)], args := [d] }
  | _ => none }
def HardSameWrongFalsely : Prop := hardSameRow.holds Try.pinned (OpenSpec.ofChange hardSameWrong)

/- THE SECOND FORM. 'bulk': how many values and letters a reading holds, each counted each time it is reached (what is shared counts as often as it is met; a slice's spare places count too). A statement '..UptoSaid' is the law's where the arguments, and the package variables that the reading takes, are together of bulk at most 1048576: NARROWER than '..Said'. Prove '..Said' where nothing that the law and all that it calls make is longer than what came in: it says more and counts as full. Else prove '..UptoSaid'. A law counts once. -/
mutual
def uptoBulk {H : Type} : DataW H → Nat
  | .lit (.string bytes) => bytes.length + 1
  | .lit _ => 1
  | .nil => 1
  | .ptr d => uptoBulk d + 1
  | .slice elems spare => uptoBulkAll elems + uptoBulkAll spare + 1
  | .agg parts => uptoBulkAll parts + 1
  | .iface _ d => uptoBulk d + 1
  | .map entries => uptoBulkEntries entries + 1
  | .held _ => 1
def uptoBulkAll {H : Type} : List (DataW H) → Nat
  | [] => 0
  | d :: r => uptoBulk d + uptoBulkAll r
def uptoBulkEntries {H : Type} : List (Lit × DataW H) → Nat
  | [] => 0
  | x :: r => uptoBulkEntry x + uptoBulkEntries r
def uptoBulkEntry {H : Type} : Lit × DataW H → Nat
  | (.string bytes, d) => bytes.length + uptoBulk d + 1
  | (_, d) => uptoBulk d + 1
 end
def uptoSmall : (H : Type) → List (DataW H) → Bool := fun _ ds => decide (uptoBulkAll ds ≤ 1048576)
def OpenSpec.upto (s : _root_.Go.ChangeSpec) : _root_.Go.OpenSpec := { _root_.Go.OpenSpec.ofChange s with cond := some uptoSmall }

/-- 'stopcocklaw13.HardChecks', WHERE WHAT IT READS IS OF BULK AT MOST 1048576: true; the input reads as it did. -/
def hardChecksUptoRow : OpenClaim := { program := "ytadkkhbbempaaaa", sum := "753543d811817ac24c1e0542b90fa07e323c82d2eaa43f1629697cc16f98c73f", func := "stopcock/stopcocklaw13.HardChecks", spec := "hardChecks", unfollowed := true, recurses := true, apart := false, narrowed := true }
def HardChecksUptoSaid : Prop := hardChecksUptoRow.holds Try.pinned (OpenSpec.upto hardChecksSpec)

/-- 'stopcocklaw13.HardBase', WHERE WHAT IT READS IS OF BULK AT MOST 1048576: true; the input reads as it did. -/
def hardBaseUptoRow : OpenClaim := { program := "ytadkkhbbempaaaa", sum := "753543d811817ac24c1e0542b90fa07e323c82d2eaa43f1629697cc16f98c73f", func := "stopcock/stopcocklaw13.HardBase", spec := "hardBase", unfollowed := true, recurses := true, apart := false, narrowed := true }
def HardBaseUptoSaid : Prop := hardBaseUptoRow.holds Try.pinned (OpenSpec.upto hardBaseSpec)

/-- 'stopcocklaw13.HardDoes', WHERE WHAT IT READS IS OF BULK AT MOST 1048576: true; the input reads as it did. -/
def hardDoesUptoRow : OpenClaim := { program := "ytadkkhbbempaaaa", sum := "753543d811817ac24c1e0542b90fa07e323c82d2eaa43f1629697cc16f98c73f", func := "stopcock/stopcocklaw13.HardDoes", spec := "hardDoes", unfollowed := true, recurses := true, apart := false, narrowed := true }
def HardDoesUptoSaid : Prop := hardDoesUptoRow.holds Try.pinned (OpenSpec.upto hardDoesSpec)

/-- 'stopcocklaw13.HardRises', WHERE WHAT IT READS IS OF BULK AT MOST 1048576: true; the input reads as it did. -/
def hardRisesUptoRow : OpenClaim := { program := "ytadkkhbbempaaaa", sum := "753543d811817ac24c1e0542b90fa07e323c82d2eaa43f1629697cc16f98c73f", func := "stopcock/stopcocklaw13.HardRises", spec := "hardRises", unfollowed := true, recurses := true, apart := false, narrowed := true }
def HardRisesUptoSaid : Prop := hardRisesUptoRow.holds Try.pinned (OpenSpec.upto hardRisesSpec)

/-- 'stopcocklaw13.HardWrites', WHERE WHAT IT READS IS OF BULK AT MOST 1048576: true; the input reads as it did. -/
def hardWritesUptoRow : OpenClaim := { program := "ytadkkhbbempaaaa", sum := "753543d811817ac24c1e0542b90fa07e323c82d2eaa43f1629697cc16f98c73f", func := "stopcock/stopcocklaw13.HardWrites", spec := "hardWrites", unfollowed := true, recurses := true, apart := false, narrowed := true }
def HardWritesUptoSaid : Prop := hardWritesUptoRow.holds Try.pinned (OpenSpec.upto hardWritesSpec)

/-- 'stopcocklaw13.HardMakes', WHERE WHAT IT READS IS OF BULK AT MOST 1048576: true; the input reads as it did. -/
def hardMakesUptoRow : OpenClaim := { program := "ytadkkhbbempaaaa", sum := "753543d811817ac24c1e0542b90fa07e323c82d2eaa43f1629697cc16f98c73f", func := "stopcock/stopcocklaw13.HardMakes", spec := "hardMakes", unfollowed := true, recurses := true, apart := false, narrowed := true }
def HardMakesUptoSaid : Prop := hardMakesUptoRow.holds Try.pinned (OpenSpec.upto hardMakesSpec)

/-- 'stopcocklaw13.HardReads', WHERE WHAT IT READS IS OF BULK AT MOST 1048576: true; the input reads as it did. -/
def hardReadsUptoRow : OpenClaim := { program := "ytadkkhbbempaaaa", sum := "753543d811817ac24c1e0542b90fa07e323c82d2eaa43f1629697cc16f98c73f", func := "stopcock/stopcocklaw13.HardReads", spec := "hardReads", unfollowed := true, recurses := true, apart := false, narrowed := true }
def HardReadsUptoSaid : Prop := hardReadsUptoRow.holds Try.pinned (OpenSpec.upto hardReadsSpec)

/-- 'stopcocklaw13.HardBack', WHERE WHAT IT READS IS OF BULK AT MOST 1048576: true; the input reads as it did. -/
def hardBackUptoRow : OpenClaim := { program := "ytadkkhbbempaaaa", sum := "753543d811817ac24c1e0542b90fa07e323c82d2eaa43f1629697cc16f98c73f", func := "stopcock/stopcocklaw13.HardBack", spec := "hardBack", unfollowed := true, recurses := true, apart := false, narrowed := true }
def HardBackUptoSaid : Prop := hardBackUptoRow.holds Try.pinned (OpenSpec.upto hardBackSpec)

/-- 'stopcocklaw13.HardSame', WHERE WHAT IT READS IS OF BULK AT MOST 1048576: true; the input reads as it did. -/
def hardSameUptoRow : OpenClaim := { program := "ytadkkhbbempaaaa", sum := "753543d811817ac24c1e0542b90fa07e323c82d2eaa43f1629697cc16f98c73f", func := "stopcock/stopcocklaw13.HardSame", spec := "hardSame", unfollowed := true, recurses := true, apart := false, narrowed := true }
def HardSameUptoSaid : Prop := hardSameUptoRow.holds Try.pinned (OpenSpec.upto hardSameSpec)

end Rows
end Go.Proofs.Ytadkkhbbempaaaa
