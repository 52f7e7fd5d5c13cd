/-
  No cell of these rows narrows 'for every input' (looked for: loops, veiled, ifaces, maps, wideKeys, modest, calm, conditions, laid).
  DERIVED. THE GIVEN ROWS OF THIS SEAT. 9 by the template 'for every input the law returns true; each argument reads behind the call as it read before'; 0 by the template 'total and deterministic' (their statements: YtkapdfaiceiffaaTotals.lean).
  GIVEN WITH THE SEED: the statements are not yours to turn. If you find one false, say at which input.
  Laid BY PROGRAM, IN A SANDBOX (cutbox-rows.mjs): the forced cells as the released guide's own fill.sh prints them over the translation 627f56d96aeea8b0… (all of the seat's roots in one cut). By AI agents, Wed Nov 11 2026. No macro, syntax, notation, axiom, sorry.
-/
import Derived.Test.YtkapdfaiceiffaaChecked
import GoSem.Claim
import GoSem.ClaimJoined
import GoSem.ClaimMapViews
import Derived.JoinedTies
import Derived.KernelRfl
namespace Go.Proofs.Ytkapdfaiceiffaa
/- THE CELL 'sum', in the pinned program and in every row, IS THE sha256 OF THE DUMP (.gsa) THAT YtkapdfaiceiffaaProg.lean LOADS. Nothing in Lean hashes anything: it is a label: what it is worth is what the hold of that sum in a sandbox is worth. -/
noncomputable def Try.pinned : Pinned := { name := "ytkapdfaiceiffaa", sum := "627f56d96aeea8b0635fed7912c9dad5c20482d6fd0bede02215e91dbd98bd98", checked := Try.checked }
namespace Rows
def none {H : Type} : Left H := { results := [], args := [] }

/-- 'stopcocklaw01.OctetReads': WHATEVER THE INPUT: true; the input reads as it did. -/
def octetReadsSpec : ChangeSpec := { name := "octetReads", fn := fun _ => fun
  | [d] => { results := [.lit (.bool true)], args := [d] }
  | _ => none }
def octetReadsRow : OpenClaim := { program := "ytkapdfaiceiffaa", sum := "627f56d96aeea8b0635fed7912c9dad5c20482d6fd0bede02215e91dbd98bd98", func := "stopcock/stopcocklaw01.OctetReads", spec := "octetReads", apart := false }
def OctetReadsSaid : Prop := octetReadsRow.holds Try.pinned (OpenSpec.ofChange octetReadsSpec)

/-- ITS FALSE NEIGHBOUR: 'it returns false'. Refute it at one input. -/
def octetReadsWrong : ChangeSpec := { name := "octetReads", fn := fun _ => fun
  | [d] => { results := [.lit (.bool false)], args := [d] }
  | _ => none }
def OctetReadsWrongFalsely : Prop := octetReadsRow.holds Try.pinned (OpenSpec.ofChange octetReadsWrong)

/-- 'stopcocklaw01.OctetNums': WHATEVER THE INPUT: true; the input reads as it did. -/
def octetNumsSpec : ChangeSpec := { name := "octetNums", fn := fun _ => fun
  | [d] => { results := [.lit (.bool true)], args := [d] }
  | _ => none }
def octetNumsRow : OpenClaim := { program := "ytkapdfaiceiffaa", sum := "627f56d96aeea8b0635fed7912c9dad5c20482d6fd0bede02215e91dbd98bd98", func := "stopcock/stopcocklaw01.OctetNums", spec := "octetNums", recurses := true, apart := false }
def OctetNumsSaid : Prop := octetNumsRow.holds Try.pinned (OpenSpec.ofChange octetNumsSpec)

/-- ITS FALSE NEIGHBOUR: 'it returns false'. Refute it at one input. -/
def octetNumsWrong : ChangeSpec := { name := "octetNums", fn := fun _ => fun
  | [d] => { results := [.lit (.bool false)], args := [d] }
  | _ => none }
def OctetNumsWrongFalsely : Prop := octetNumsRow.holds Try.pinned (OpenSpec.ofChange octetNumsWrong)

/-- 'stopcocklaw01.OctetOrder': WHATEVER THE INPUT: true; the input reads as it did. -/
def octetOrderSpec : ChangeSpec := { name := "octetOrder", fn := fun _ => fun
  | [d1, d2] => { results := [.lit (.bool true)], args := [d1, d2] }
  | _ => none }
def octetOrderRow : OpenClaim := { program := "ytkapdfaiceiffaa", sum := "627f56d96aeea8b0635fed7912c9dad5c20482d6fd0bede02215e91dbd98bd98", func := "stopcock/stopcocklaw01.OctetOrder", spec := "octetOrder", apart := false }
def OctetOrderSaid : Prop := octetOrderRow.holds Try.pinned (OpenSpec.ofChange octetOrderSpec)

/-- ITS FALSE NEIGHBOUR: 'it returns false'. Refute it at one input. -/
def octetOrderWrong : ChangeSpec := { name := "octetOrder", fn := fun _ => fun
  | [d1, d2] => { results := [.lit (.bool false)], args := [d1, d2] }
  | _ => none }
def OctetOrderWrongFalsely : Prop := octetOrderRow.holds Try.pinned (OpenSpec.ofChange octetOrderWrong)

/-- 'stopcocklaw01.OctetTexts': WHATEVER THE INPUT: true; the input reads as it did. -/
def octetTextsSpec : ChangeSpec := { name := "octetTexts", fn := fun _ => fun
  | [d] => { results := [.lit (.bool true)], args := [d] }
  | _ => none }
def octetTextsRow : OpenClaim := { program := "ytkapdfaiceiffaa", sum := "627f56d96aeea8b0635fed7912c9dad5c20482d6fd0bede02215e91dbd98bd98", func := "stopcock/stopcocklaw01.OctetTexts", spec := "octetTexts", recurses := true, apart := false }
def OctetTextsSaid : Prop := octetTextsRow.holds Try.pinned (OpenSpec.ofChange octetTextsSpec)

/-- ITS FALSE NEIGHBOUR: 'it returns false'. Refute it at one input. -/
def octetTextsWrong : ChangeSpec := { name := "octetTexts", fn := fun _ => fun
  | [d] => { results := [.lit (.bool false)], args := [d] }
  | _ => none }
def OctetTextsWrongFalsely : Prop := octetTextsRow.holds Try.pinned (OpenSpec.ofChange octetTextsWrong)

/-- 'stopcocklaw01.OctetReadTexts': WHATEVER THE INPUT: true; the input reads as it did. -/
def octetReadTextsSpec : ChangeSpec := { name := "octetReadTexts", fn := fun _ => fun
  | [d1, d2] => { results := [.lit (.bool true)], args := [d1, d2] }
  | _ => none }
def octetReadTextsRow : OpenClaim := { program := "ytkapdfaiceiffaa", sum := "627f56d96aeea8b0635fed7912c9dad5c20482d6fd0bede02215e91dbd98bd98", func := "stopcock/stopcocklaw01.OctetReadTexts", spec := "octetReadTexts", apart := false }
def OctetReadTextsSaid : Prop := octetReadTextsRow.holds Try.pinned (OpenSpec.ofChange octetReadTextsSpec)

/-- ITS FALSE NEIGHBOUR: 'it returns false'. Refute it at one input. -/
def octetReadTextsWrong : ChangeSpec := { name := "octetReadTexts", fn := fun _ => fun
  | [d1, d2] => { results := [.lit (.bool false)], args := [d1, d2] }
  | _ => none }
def OctetReadTextsWrongFalsely : Prop := octetReadTextsRow.holds Try.pinned (OpenSpec.ofChange octetReadTextsWrong)

/-- 'stopcocklaw01.OctetBack': WHATEVER THE INPUT: true; the input reads as it did. -/
def octetBackSpec : ChangeSpec := { name := "octetBack", fn := fun _ => fun
  | [d1, d2] => { results := [.lit (.bool true)], args := [d1, d2] }
  | _ => none }
def octetBackRow : OpenClaim := { program := "ytkapdfaiceiffaa", sum := "627f56d96aeea8b0635fed7912c9dad5c20482d6fd0bede02215e91dbd98bd98", func := "stopcock/stopcocklaw01.OctetBack", spec := "octetBack", apart := false }
def OctetBackSaid : Prop := octetBackRow.holds Try.pinned (OpenSpec.ofChange octetBackSpec)

/-- ITS FALSE NEIGHBOUR: 'it returns false'. Refute it at one input. -/
def octetBackWrong : ChangeSpec := { name := "octetBack", fn := fun _ => fun
  | [d1, d2] => { results := [.lit (.bool false)], args := [d1, d2] }
  | _ => none }
def OctetBackWrongFalsely : Prop := octetBackRow.holds Try.pinned (OpenSpec.ofChange octetBackWrong)

/-- 'stopcocklaw01.OctetSame': WHATEVER THE INPUT: true; the input reads as it did. -/
def octetSameSpec : ChangeSpec := { name := "octetSame", fn := fun _ => fun
  | [d] => { results := [.lit (.bool true)], args := [d] }
  | _ => none }
def octetSameRow : OpenClaim := { program := "ytkapdfaiceiffaa", sum := "627f56d96aeea8b0635fed7912c9dad5c20482d6fd0bede02215e91dbd98bd98", func := "stopcock/stopcocklaw01.OctetSame", spec := "octetSame", apart := false }
def OctetSameSaid : Prop := octetSameRow.holds Try.pinned (OpenSpec.ofChange octetSameSpec)

/-- ITS FALSE NEIGHBOUR: 'it returns false'. Refute it at one input. -/
def octetSameWrong : ChangeSpec := { name := "octetSame", fn := fun _ => fun
  | [d] => { results := [.lit (.bool false)], args := [d] }
  | _ => none }
def OctetSameWrongFalsely : Prop := octetSameRow.holds Try.pinned (OpenSpec.ofChange octetSameWrong)

/-- 'stopcocklaw01.OctetCuts': WHATEVER THE INPUT: true; the input reads as it did. -/
def octetCutsSpec : ChangeSpec := { name := "octetCuts", fn := fun _ => fun
  | [d] => { results := [.lit (.bool true)], args := [d] }
  | _ => none }
def octetCutsRow : OpenClaim := { program := "ytkapdfaiceiffaa", sum := "627f56d96aeea8b0635fed7912c9dad5c20482d6fd0bede02215e91dbd98bd98", func := "stopcock/stopcocklaw01.OctetCuts", spec := "octetCuts", apart := false }
def OctetCutsSaid : Prop := octetCutsRow.holds Try.pinned (OpenSpec.ofChange octetCutsSpec)

/-- ITS FALSE NEIGHBOUR: 'it returns false'. Refute it at one input. -/
def octetCutsWrong : ChangeSpec := { name := "octetCuts", fn := fun _ => fun
  | [d] => { results := [.lit (.bool false)], args := [d] }
  | _ => none }
def OctetCutsWrongFalsely : Prop := octetCutsRow.holds Try.pinned (OpenSpec.ofChange octetCutsWrong)

/-- 'stopcocklaw01.OctetTextBack': WHATEVER THE INPUT: true; the input reads as it did. -/
def octetTextBackSpec : ChangeSpec := { name := "octetTextBack", fn := fun _ => fun
  | [d1, d2, d3] => { results := [.lit (.bool true)], args := [d1, d2, d3] }
  | _ => none }
def octetTextBackRow : OpenClaim := { program := "ytkapdfaiceiffaa", sum := "627f56d96aeea8b0635fed7912c9dad5c20482d6fd0bede02215e91dbd98bd98", func := "stopcock/stopcocklaw01.OctetTextBack", spec := "octetTextBack", apart := false }
def OctetTextBackSaid : Prop := octetTextBackRow.holds Try.pinned (OpenSpec.ofChange octetTextBackSpec)

/-- ITS FALSE NEIGHBOUR: 'it returns false'. Refute it at one input. -/
def octetTextBackWrong : ChangeSpec := { name := "octetTextBack", fn := fun _ => fun
  | [d1, d2, d3] => { results := [.lit (.bool false)], args := [d1, d2, d3] }
  | _ => none }
def OctetTextBackWrongFalsely : Prop := octetTextBackRow.holds Try.pinned (OpenSpec.ofChange octetTextBackWrong)

/- THE SECOND FORM. 'bulk': how many values and letters a reading holds, each counted each time it is reached (what is shared counts as often as it is met; a slice's spare places count too). A statement '..UptoSaid' is the law's where the arguments, and the package variables that the reading takes, are together of bulk at most 1048576: NARROWER than '..Said'. Prove '..Said' where nothing that the law and all that it calls make is longer than what came in: it says more and counts as full. Else prove '..UptoSaid'. A law counts once. -/
mutual
def uptoBulk {H : Type} : DataW H → Nat
  | .lit (.string bytes) => bytes.length + 1
  | .lit _ => 1
  | .nil => 1
  | .ptr d => uptoBulk d + 1
  | .slice elems spare => uptoBulkAll elems + uptoBulkAll spare + 1
  | .agg parts => uptoBulkAll parts + 1
  | .iface _ d => uptoBulk d + 1
  | .map entries => uptoBulkEntries entries + 1
  | .held _ => 1
def uptoBulkAll {H : Type} : List (DataW H) → Nat
  | [] => 0
  | d :: r => uptoBulk d + uptoBulkAll r
def uptoBulkEntries {H : Type} : List (Lit × DataW H) → Nat
  | [] => 0
  | x :: r => uptoBulkEntry x + uptoBulkEntries r
def uptoBulkEntry {H : Type} : Lit × DataW H → Nat
  | (.string bytes, d) => bytes.length + uptoBulk d + 1
  | (_, d) => uptoBulk d + 1
 end
def uptoSmall : (H : Type) → List (DataW H) → Bool := fun _ ds => decide (uptoBulkAll ds ≤ 1048576)
def OpenSpec.upto (s : _root_.Go.ChangeSpec) : _root_.Go.OpenSpec := { _root_.Go.OpenSpec.ofChange s with cond := some uptoSmall }

/-- 'stopcocklaw01.OctetReads', WHERE WHAT IT READS IS OF BULK AT MOST 1048576: true; the input reads as it did. -/
def octetReadsUptoRow : OpenClaim := { program := "ytkapdfaiceiffaa", sum := "627f56d96aeea8b0635fed7912c9dad5c20482d6fd0bede02215e91dbd98bd98", func := "stopcock/stopcocklaw01.OctetReads", spec := "octetReads", apart := false, narrowed := true }
def OctetReadsUptoSaid : Prop := octetReadsUptoRow.holds Try.pinned (OpenSpec.upto octetReadsSpec)

/-- 'stopcocklaw01.OctetNums', WHERE WHAT IT READS IS OF BULK AT MOST 1048576: true; the input reads as it did. -/
def octetNumsUptoRow : OpenClaim := { program := "ytkapdfaiceiffaa", sum := "627f56d96aeea8b0635fed7912c9dad5c20482d6fd0bede02215e91dbd98bd98", func := "stopcock/stopcocklaw01.OctetNums", spec := "octetNums", recurses := true, apart := false, narrowed := true }
def OctetNumsUptoSaid : Prop := octetNumsUptoRow.holds Try.pinned (OpenSpec.upto octetNumsSpec)

/-- 'stopcocklaw01.OctetOrder', WHERE WHAT IT READS IS OF BULK AT MOST 1048576: true; the input reads as it did. -/
def octetOrderUptoRow : OpenClaim := { program := "ytkapdfaiceiffaa", sum := "627f56d96aeea8b0635fed7912c9dad5c20482d6fd0bede02215e91dbd98bd98", func := "stopcock/stopcocklaw01.OctetOrder", spec := "octetOrder", apart := false, narrowed := true }
def OctetOrderUptoSaid : Prop := octetOrderUptoRow.holds Try.pinned (OpenSpec.upto octetOrderSpec)

/-- 'stopcocklaw01.OctetTexts', WHERE WHAT IT READS IS OF BULK AT MOST 1048576: true; the input reads as it did. -/
def octetTextsUptoRow : OpenClaim := { program := "ytkapdfaiceiffaa", sum := "627f56d96aeea8b0635fed7912c9dad5c20482d6fd0bede02215e91dbd98bd98", func := "stopcock/stopcocklaw01.OctetTexts", spec := "octetTexts", recurses := true, apart := false, narrowed := true }
def OctetTextsUptoSaid : Prop := octetTextsUptoRow.holds Try.pinned (OpenSpec.upto octetTextsSpec)

/-- 'stopcocklaw01.OctetReadTexts', WHERE WHAT IT READS IS OF BULK AT MOST 1048576: true; the input reads as it did. -/
def octetReadTextsUptoRow : OpenClaim := { program := "ytkapdfaiceiffaa", sum := "627f56d96aeea8b0635fed7912c9dad5c20482d6fd0bede02215e91dbd98bd98", func := "stopcock/stopcocklaw01.OctetReadTexts", spec := "octetReadTexts", apart := false, narrowed := true }
def OctetReadTextsUptoSaid : Prop := octetReadTextsUptoRow.holds Try.pinned (OpenSpec.upto octetReadTextsSpec)

/-- 'stopcocklaw01.OctetBack', WHERE WHAT IT READS IS OF BULK AT MOST 1048576: true; the input reads as it did. -/
def octetBackUptoRow : OpenClaim := { program := "ytkapdfaiceiffaa", sum := "627f56d96aeea8b0635fed7912c9dad5c20482d6fd0bede02215e91dbd98bd98", func := "stopcock/stopcocklaw01.OctetBack", spec := "octetBack", apart := false, narrowed := true }
def OctetBackUptoSaid : Prop := octetBackUptoRow.holds Try.pinned (OpenSpec.upto octetBackSpec)

/-- 'stopcocklaw01.OctetSame', WHERE WHAT IT READS IS OF BULK AT MOST 1048576: true; the input reads as it did. -/
def octetSameUptoRow : OpenClaim := { program := "ytkapdfaiceiffaa", sum := "627f56d96aeea8b0635fed7912c9dad5c20482d6fd0bede02215e91dbd98bd98", func := "stopcock/stopcocklaw01.OctetSame", spec := "octetSame", apart := false, narrowed := true }
def OctetSameUptoSaid : Prop := octetSameUptoRow.holds Try.pinned (OpenSpec.upto octetSameSpec)

/-- 'stopcocklaw01.OctetCuts', WHERE WHAT IT READS IS OF BULK AT MOST 1048576: true; the input reads as it did. -/
def octetCutsUptoRow : OpenClaim := { program := "ytkapdfaiceiffaa", sum := "627f56d96aeea8b0635fed7912c9dad5c20482d6fd0bede02215e91dbd98bd98", func := "stopcock/stopcocklaw01.OctetCuts", spec := "octetCuts", apart := false, narrowed := true }
def OctetCutsUptoSaid : Prop := octetCutsUptoRow.holds Try.pinned (OpenSpec.upto octetCutsSpec)

/-- 'stopcocklaw01.OctetTextBack', WHERE WHAT IT READS IS OF BULK AT MOST 1048576: true; the input reads as it did. -/
def octetTextBackUptoRow : OpenClaim := { program := "ytkapdfaiceiffaa", sum := "627f56d96aeea8b0635fed7912c9dad5c20482d6fd0bede02215e91dbd98bd98", func := "stopcock/stopcocklaw01.OctetTextBack", spec := "octetTextBack", apart := false, narrowed := true }
def OctetTextBackUptoSaid : Prop := octetTextBackUptoRow.holds Try.pinned (OpenSpec.upto octetTextBackSpec)

end Rows
end Go.Proofs.Ytkapdfaiceiffaa
