/-
  No cell of these rows narrows 'for every input' (looked for: loops, veiled, ifaces, maps, wideKeys, modest, calm, conditions, laid).
  DERIVED. THE GIVEN ROWS OF THIS SEAT. 7 by the template 'for every input the law returns true; each argument reads behind the call as it read before'; 0 by the template 'total and deterministic' (their statements: YthdeappjankmmaaTotals.lean).
  GIVEN WITH THE SEED: the statements are not yours to turn. If you find one false, say at which input.
  Laid BY PROGRAM, IN A SANDBOX (cutbox-rows.mjs): the forced cells as the released guide's own fill.sh prints them over the translation 8ea0190fa65d8d2d… (all of the seat's roots in one cut). By AI agents, Wed Nov 11 2026. No macro, syntax, notation, axiom, sorry.
-/
import Derived.Test.YthdeappjankmmaaChecked
import GoSem.Claim
import GoSem.ClaimJoined
import GoSem.ClaimMapViews
import Derived.JoinedTies
import Derived.KernelRfl
namespace Go.Proofs.Ythdeappjankmmaa
/- THE CELL 'sum', in the pinned program and in every row, IS THE sha256 OF THE DUMP (.gsa) THAT YthdeappjankmmaaProg.lean LOADS. Nothing in Lean hashes anything: it is a label: what it is worth is what the hold of that sum in a sandbox is worth. -/
noncomputable def Try.pinned : Pinned := { name := "ythdeappjankmmaa", sum := "8ea0190fa65d8d2de08dc4515ad5b6b51b936713a9adb9e6e0ec1411d82b4a5b", checked := Try.checked }
namespace Rows
def none {H : Type} : Left H := { results := [], args := [] }

/-- 'stopcocklaw06.ShotMakes': WHATEVER THE INPUT: true; the input reads as it did. -/
def shotMakesSpec : ChangeSpec := { name := "shotMakes", fn := fun _ => fun
  | [d1, d2] => { results := [.lit (.bool true)], args := [d1, d2] }
  | _ => none }
def shotMakesRow : OpenClaim := { program := "ythdeappjankmmaa", sum := "8ea0190fa65d8d2de08dc4515ad5b6b51b936713a9adb9e6e0ec1411d82b4a5b", func := "stopcock/stopcocklaw06.ShotMakes", spec := "shotMakes", apart := false }
def ShotMakesSaid : Prop := shotMakesRow.holds Try.pinned (OpenSpec.ofChange shotMakesSpec)

/-- ITS FALSE NEIGHBOUR: 'it returns false'. Refute it at one input. -/
def shotMakesWrong : ChangeSpec := { name := "shotMakes", fn := fun _ => fun
  | [d1, d2] => { results := [.lit (.bool false)], args := [d1, d2] }
  | _ => none }
def ShotMakesWrongFalsely : Prop := shotMakesRow.holds Try.pinned (OpenSpec.ofChange shotMakesWrong)

/-- 'stopcocklaw06.ShotChecks': WHATEVER THE INPUT: true; the input reads as it did. -/
def shotChecksSpec : ChangeSpec := { name := "shotChecks", fn := fun _ => fun
  | [d] => { results := [.lit (.bool true)], args := [d] }
  | _ => none }
def shotChecksRow : OpenClaim := { program := "ythdeappjankmmaa", sum := "8ea0190fa65d8d2de08dc4515ad5b6b51b936713a9adb9e6e0ec1411d82b4a5b", func := "stopcock/stopcocklaw06.ShotChecks", spec := "shotChecks", unfollowed := true, recurses := true, apart := false }
def ShotChecksSaid : Prop := shotChecksRow.holds Try.pinned (OpenSpec.ofChange shotChecksSpec)

/-- ITS FALSE NEIGHBOUR: 'it returns false'. Refute it at one input. -/
def shotChecksWrong : ChangeSpec := { name := "shotChecks", fn := fun _ => fun
  | [d] => { results := [.lit (.bool false)], args := [d] }
  | _ => none }
def ShotChecksWrongFalsely : Prop := shotChecksRow.holds Try.pinned (OpenSpec.ofChange shotChecksWrong)

/-- 'stopcocklaw06.ShotWrites': WHATEVER THE INPUT: true; the input reads as it did. -/
def shotWritesSpec : ChangeSpec := { name := "shotWrites", fn := fun _ => fun
  | [d] => { results := [.lit (.bool true)], args := [d] }
  | _ => none }
def shotWritesRow : OpenClaim := { program := "ythdeappjankmmaa", sum := "8ea0190fa65d8d2de08dc4515ad5b6b51b936713a9adb9e6e0ec1411d82b4a5b", func := "stopcock/stopcocklaw06.ShotWrites", spec := "shotWrites", unfollowed := true, recurses := true, apart := false }
def ShotWritesSaid : Prop := shotWritesRow.holds Try.pinned (OpenSpec.ofChange shotWritesSpec)

/-- ITS FALSE NEIGHBOUR: 'it returns false'. Refute it at one input. -/
def shotWritesWrong : ChangeSpec := { name := "shotWrites", fn := fun _ => fun
  | [d] => { results := [.lit (.bool false)], args := [d] }
  | _ => none }
def ShotWritesWrongFalsely : Prop := shotWritesRow.holds Try.pinned (OpenSpec.ofChange shotWritesWrong)

/-- 'stopcocklaw06.ShotReads': WHATEVER THE INPUT: true; the input reads as it did. -/
def shotReadsSpec : ChangeSpec := { name := "shotReads", fn := fun _ => fun
  | [d] => { results := [.lit (.bool true)], args := [d] }
  | _ => none }
def shotReadsRow : OpenClaim := { program := "ythdeappjankmmaa", sum := "8ea0190fa65d8d2de08dc4515ad5b6b51b936713a9adb9e6e0ec1411d82b4a5b", func := "stopcock/stopcocklaw06.ShotReads", spec := "shotReads", unfollowed := true, recurses := true, apart := false }
def ShotReadsSaid : Prop := shotReadsRow.holds Try.pinned (OpenSpec.ofChange shotReadsSpec)

/-- ITS FALSE NEIGHBOUR: 'it returns false'. Refute it at one input. -/
def shotReadsWrong : ChangeSpec := { name := "shotReads", fn := fun _ => fun
  | [d] => { results := [.lit (.bool false)], args := [d] }
  | _ => none }
def ShotReadsWrongFalsely : Prop := shotReadsRow.holds Try.pinned (OpenSpec.ofChange shotReadsWrong)

/-- 'stopcocklaw06.ShotBack': WHATEVER THE INPUT: true; the input reads as it did. -/
def shotBackSpec : ChangeSpec := { name := "shotBack", fn := fun _ => fun
  | [d] => { results := [.lit (.bool true)], args := [d] }
  | _ => none }
def shotBackRow : OpenClaim := { program := "ythdeappjankmmaa", sum := "8ea0190fa65d8d2de08dc4515ad5b6b51b936713a9adb9e6e0ec1411d82b4a5b", func := "stopcock/stopcocklaw06.ShotBack", spec := "shotBack", unfollowed := true, recurses := true, apart := false }
def ShotBackSaid : Prop := shotBackRow.holds Try.pinned (OpenSpec.ofChange shotBackSpec)

/-- ITS FALSE NEIGHBOUR: 'it returns false'. Refute it at one input. -/
def shotBackWrong : ChangeSpec := { name := "shotBack", fn := fun _ => fun
  | [d] => { results := [.lit (.bool false)], args := [d] }
  | _ => none }
def ShotBackWrongFalsely : Prop := shotBackRow.holds Try.pinned (OpenSpec.ofChange shotBackWrong)

/-- 'stopcocklaw06.ShotSame': WHATEVER THE INPUT: true; the input reads as it did. -/
def shotSameSpec : ChangeSpec := { name := "shotSame", fn := fun _ => fun
  | [d] => { results := [.lit (.bool true)], args := [d] }
  | _ => none }
def shotSameRow : OpenClaim := { program := "ythdeappjankmmaa", sum := "8ea0190fa65d8d2de08dc4515ad5b6b51b936713a9adb9e6e0ec1411d82b4a5b", func := "stopcock/stopcocklaw06.ShotSame", spec := "shotSame", unfollowed := true, recurses := true, apart := false }
def ShotSameSaid : Prop := shotSameRow.holds Try.pinned (OpenSpec.ofChange shotSameSpec)

/-- ITS FALSE NEIGHBOUR: 'it returns false'. Refute it at one input. -/
def shotSameWrong : ChangeSpec := { name := "shotSame", fn := fun _ => fun
  | [d] => { results := [.lit (.bool false)], args := [d] }
  | _ => none }
def ShotSameWrongFalsely : Prop := shotSameRow.holds Try.pinned (OpenSpec.ofChange shotSameWrong)

/-- 'stopcocklaw06.ShotCuts': WHATEVER THE INPUT: true; the input reads as it did. -/
def shotCutsSpec : ChangeSpec := { name := "shotCuts", fn := fun _ => fun
  | [d1, d2] => { results := [.lit (.bool true)], args := [d1, d2] }
  | _ => none }
def shotCutsRow : OpenClaim := { program := "ythdeappjankmmaa", sum := "8ea0190fa65d8d2de08dc4515ad5b6b51b936713a9adb9e6e0ec1411d82b4a5b", func := "stopcock/stopcocklaw06.ShotCuts", spec := "shotCuts", unfollowed := true, recurses := true, apart := false }
def ShotCutsSaid : Prop := shotCutsRow.holds Try.pinned (OpenSpec.ofChange shotCutsSpec)

/-- ITS FALSE NEIGHBOUR: 'it returns false'. Refute it at one input. -/
def shotCutsWrong : ChangeSpec := { name := "shotCuts", fn := fun _ => fun
  | [d1, d2] => { results := [.lit (.bool false)], args := [d1, d2] }
  | _ => none }
def ShotCutsWrongFalsely : Prop := shotCutsRow.holds Try.pinned (OpenSpec.ofChange shotCutsWrong)

/- THE SECOND FORM. 'bulk': how many values and letters a reading holds, each counted each time it is reached (what is shared counts as often as it is met; a slice's spare places count too). A statement '..UptoSaid' is the law's where the arguments, and the package variables that the reading takes, are together of bulk at most 1048576: NARROWER than '..Said'. Prove '..Said' where nothing that the law and all that it calls make is longer than what came in: it says more and counts as full. Else prove '..UptoSaid'. A law counts once. -/
mutual
def uptoBulk {H : Type} : DataW H → Nat
  | .lit (.string bytes) => bytes.length + 1
  | .lit _ => 1
  | .nil => 1
  | .ptr d => uptoBulk d + 1
  | .slice elems spare => uptoBulkAll elems + uptoBulkAll spare + 1
  | .agg parts => uptoBulkAll parts + 1
  | .iface _ d => uptoBulk d + 1
  | .map entries => uptoBulkEntries entries + 1
  | .held _ => 1
def uptoBulkAll {H : Type} : List (DataW H) → Nat
  | [] => 0
  | d :: r => uptoBulk d + uptoBulkAll r
def uptoBulkEntries {H : Type} : List (Lit × DataW H) → Nat
  | [] => 0
  | x :: r => uptoBulkEntry x + uptoBulkEntries r
def uptoBulkEntry {H : Type} : Lit × DataW H → Nat
  | (.string bytes, d) => bytes.length + uptoBulk d + 1
  | (_, d) => uptoBulk d + 1
 end
def uptoSmall : (H : Type) → List (DataW H) → Bool := fun _ ds => decide (uptoBulkAll ds ≤ 1048576)
def OpenSpec.upto (s : _root_.Go.ChangeSpec) : _root_.Go.OpenSpec := { _root_.Go.OpenSpec.ofChange s with cond := some uptoSmall }

/-- 'stopcocklaw06.ShotMakes', WHERE WHAT IT READS IS OF BULK AT MOST 1048576: true; the input reads as it did. -/
def shotMakesUptoRow : OpenClaim := { program := "ythdeappjankmmaa", sum := "8ea0190fa65d8d2de08dc4515ad5b6b51b936713a9adb9e6e0ec1411d82b4a5b", func := "stopcock/stopcocklaw06.ShotMakes", spec := "shotMakes", apart := false, narrowed := true }
def ShotMakesUptoSaid : Prop := shotMakesUptoRow.holds Try.pinned (OpenSpec.upto shotMakesSpec)

/-- 'stopcocklaw06.ShotChecks', WHERE WHAT IT READS IS OF BULK AT MOST 1048576: true; the input reads as it did. -/
def shotChecksUptoRow : OpenClaim := { program := "ythdeappjankmmaa", sum := "8ea0190fa65d8d2de08dc4515ad5b6b51b936713a9adb9e6e0ec1411d82b4a5b", func := "stopcock/stopcocklaw06.ShotChecks", spec := "shotChecks", unfollowed := true, recurses := true, apart := false, narrowed := true }
def ShotChecksUptoSaid : Prop := shotChecksUptoRow.holds Try.pinned (OpenSpec.upto shotChecksSpec)

/-- 'stopcocklaw06.ShotWrites', WHERE WHAT IT READS IS OF BULK AT MOST 1048576: true; the input reads as it did. -/
def shotWritesUptoRow : OpenClaim := { program := "ythdeappjankmmaa", sum := "8ea0190fa65d8d2de08dc4515ad5b6b51b936713a9adb9e6e0ec1411d82b4a5b", func := "stopcock/stopcocklaw06.ShotWrites", spec := "shotWrites", unfollowed := true, recurses := true, apart := false, narrowed := true }
def ShotWritesUptoSaid : Prop := shotWritesUptoRow.holds Try.pinned (OpenSpec.upto shotWritesSpec)

/-- 'stopcocklaw06.ShotReads', WHERE WHAT IT READS IS OF BULK AT MOST 1048576: true; the input reads as it did. -/
def shotReadsUptoRow : OpenClaim := { program := "ythdeappjankmmaa", sum := "8ea0190fa65d8d2de08dc4515ad5b6b51b936713a9adb9e6e0ec1411d82b4a5b", func := "stopcock/stopcocklaw06.ShotReads", spec := "shotReads", unfollowed := true, recurses := true, apart := false, narrowed := true }
def ShotReadsUptoSaid : Prop := shotReadsUptoRow.holds Try.pinned (OpenSpec.upto shotReadsSpec)

/-- 'stopcocklaw06.ShotBack', WHERE WHAT IT READS IS OF BULK AT MOST 1048576: true; the input reads as it did. -/
def shotBackUptoRow : OpenClaim := { program := "ythdeappjankmmaa", sum := "8ea0190fa65d8d2de08dc4515ad5b6b51b936713a9adb9e6e0ec1411d82b4a5b", func := "stopcock/stopcocklaw06.ShotBack", spec := "shotBack", unfollowed := true, recurses := true, apart := false, narrowed := true }
def ShotBackUptoSaid : Prop := shotBackUptoRow.holds Try.pinned (OpenSpec.upto shotBackSpec)

/-- 'stopcocklaw06.ShotSame', WHERE WHAT IT READS IS OF BULK AT MOST 1048576: true; the input reads as it did. -/
def shotSameUptoRow : OpenClaim := { program := "ythdeappjankmmaa", sum := "8ea0190fa65d8d2de08dc4515ad5b6b51b936713a9adb9e6e0ec1411d82b4a5b", func := "stopcock/stopcocklaw06.ShotSame", spec := "shotSame", unfollowed := true, recurses := true, apart := false, narrowed := true }
def ShotSameUptoSaid : Prop := shotSameUptoRow.holds Try.pinned (OpenSpec.upto shotSameSpec)

/-- 'stopcocklaw06.ShotCuts', WHERE WHAT IT READS IS OF BULK AT MOST 1048576: true; the input reads as it did. -/
def shotCutsUptoRow : OpenClaim := { program := "ythdeappjankmmaa", sum := "8ea0190fa65d8d2de08dc4515ad5b6b51b936713a9adb9e6e0ec1411d82b4a5b", func := "stopcock/stopcocklaw06.ShotCuts", spec := "shotCuts", unfollowed := true, recurses := true, apart := false, narrowed := true }
def ShotCutsUptoSaid : Prop := shotCutsUptoRow.holds Try.pinned (OpenSpec.upto shotCutsSpec)

end Rows
end Go.Proofs.Ythdeappjankmmaa
