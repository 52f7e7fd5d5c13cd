/-
  NARROWER THAN 'FOR EVERY INPUT', by the rows' own cells (each row's printed sentence says how): OctetSums: laid · OctetBursts: laid.
  DERIVED. THE GIVEN ROWS OF THIS SEAT. 2 by the template 'for every input the law returns true; each argument reads behind the call as it read before'; 0 by the template 'total and deterministic' (their statements: YtkapdfaiceiffaaDoorTotals.lean).
  GIVEN WITH THE SEED: the statements are not yours to turn. If you find one false, say at which input.
  Laid BY PROGRAM, IN A SANDBOX (cutbox-rows.mjs): the forced cells as the released guide's own fill.sh prints them over the translation 04661e5a8d9007cf… (all of the seat's roots in one cut). By AI agents, Wed Nov 11 2026. No macro, syntax, notation, axiom, sorry.
-/
import Derived.Test.YtkapdfaiceiffaaDoorChecked
import GoSem.Claim
import GoSem.ClaimJoined
import GoSem.ClaimMapViews
import Derived.JoinedTies
import Derived.KernelRfl
namespace Go.Proofs.YtkapdfaiceiffaaDoor
/- THE CELL 'sum', in the pinned program and in every row, IS THE sha256 OF THE DUMP (.gsa) THAT YtkapdfaiceiffaaDoorProg.lean LOADS. Nothing in Lean hashes anything: it is a label: what it is worth is what the hold of that sum in a sandbox is worth. -/
noncomputable def Tryd.pinned : Pinned := { name := "ytkapdfaiceiffaadoor", sum := "04661e5a8d9007cf300fcd7a0170756fae4b66204830df80fda0dc64a17b6fd5", checked := Tryd.checked }
namespace Rows
def none {H : Type} : Left H := { results := [], args := [] }

/- WHAT THE LISTED PACKAGE-LEVEL VARIABLES READ AS WHEN THE CALL BEGINS. Each datum BY PROGRAM (the guide's laid-datum.mjs) off the statement by which the dump's own 'gosem.cut.vars' lays the variable. In a bare row this is a premise. The card (YtkapdfaiceiffaaDoorCards.lean) ties it to the program's text. -/
def laid_stopcock_octet_steps {H : Type} : DataW H := .agg [.lit (.int .u32 0), .lit (.int .u32 79764919), .lit (.int .u32 159529838), .lit (.int .u32 222504665), .lit (.int .u32 319059676), .lit (.int .u32 398814059), .lit (.int .u32 445009330), .lit (.int .u32 507990021), .lit (.int .u32 638119352), .lit (.int .u32 583659535), .lit (.int .u32 797628118), .lit (.int .u32 726387553), .lit (.int .u32 890018660), .lit (.int .u32 835552979), .lit (.int .u32 1015980042), .lit (.int .u32 944750013)]

/-- 'stopcocklaw01.OctetSums': WHATEVER THE INPUT: true; the input reads as it did. -/
def octetSumsSpec : ChangeSpec := { name := "octetSums", fn := fun _ => fun
  | [d] => { results := [.lit (.bool true)], args := [d] }
  | _ => none }
def octetSumsRow : OpenClaim := { program := "ytkapdfaiceiffaadoor", sum := "04661e5a8d9007cf300fcd7a0170756fae4b66204830df80fda0dc64a17b6fd5", func := "stopcock/stopcocklaw01.OctetSums", spec := "octetSums", named := ["stopcock/octet.steps"], apart := false, laid := [("stopcock/octet.steps", laid_stopcock_octet_steps)] }
def OctetSumsSaid : Prop := octetSumsRow.holds Tryd.pinned (OpenSpec.ofChange octetSumsSpec)

/-- ITS FALSE NEIGHBOUR: 'it returns false'. Refute it at one input. -/
def octetSumsWrong : ChangeSpec := { name := "octetSums", fn := fun _ => fun
  | [d] => { results := [.lit (.bool false)], args := [d] }
  | _ => none }
def OctetSumsWrongFalsely : Prop := octetSumsRow.holds Tryd.pinned (OpenSpec.ofChange octetSumsWrong)

/-- 'stopcocklaw01.OctetBursts': WHATEVER THE INPUT: true; the input reads as it did. -/
def octetBurstsSpec : ChangeSpec := { name := "octetBursts", fn := fun _ => fun
  | [d1, d2, d3] => { results := [.lit (.bool true)], args := [d1, d2, d3] }
  | _ => none }
def octetBurstsRow : OpenClaim := { program := "ytkapdfaiceiffaadoor", sum := "04661e5a8d9007cf300fcd7a0170756fae4b66204830df80fda0dc64a17b6fd5", func := "stopcock/stopcocklaw01.OctetBursts", spec := "octetBursts", named := ["stopcock/octet.steps"], apart := false, laid := [("stopcock/octet.steps", laid_stopcock_octet_steps)] }
def OctetBurstsSaid : Prop := octetBurstsRow.holds Tryd.pinned (OpenSpec.ofChange octetBurstsSpec)

/-- ITS FALSE NEIGHBOUR: 'it returns false'. Refute it at one input. -/
def octetBurstsWrong : ChangeSpec := { name := "octetBursts", fn := fun _ => fun
  | [d1, d2, d3] => { results := [.lit (.bool false)], args := [d1, d2, d3] }
  | _ => none }
def OctetBurstsWrongFalsely : Prop := octetBurstsRow.holds Tryd.pinned (OpenSpec.ofChange octetBurstsWrong)

/- THE SECOND FORM. 'bulk': how many values and letters a reading holds, each counted each time it is reached (what is shared counts as often as it is met; a slice's spare places count too). A statement '..UptoSaid' is the law's where the arguments, and the package variables that the reading takes, are together of bulk at most 1048576: NARROWER than '..Said'. Prove '..Said' where nothing that the law and all that it calls make is longer than what came in: it says more and counts as full. Else prove '..UptoSaid'. A law counts once. -/
mutual
def uptoBulk {H : Type} : DataW H → Nat
  | .lit (.string bytes) => bytes.length + 1
  | .lit _ => 1
  | .nil => 1
  | .ptr d => uptoBulk d + 1
  | .slice elems spare => uptoBulkAll elems + uptoBulkAll spare + 1
  | .agg parts => uptoBulkAll parts + 1
  | .iface _ d => uptoBulk d + 1
  | .map entries => uptoBulkEntries entries + 1
  | .held _ => 1
def uptoBulkAll {H : Type} : List (DataW H) → Nat
  | [] => 0
  | d :: r => uptoBulk d + uptoBulkAll r
def uptoBulkEntries {H : Type} : List (Lit × DataW H) → Nat
  | [] => 0
  | x :: r => uptoBulkEntry x + uptoBulkEntries r
def uptoBulkEntry {H : Type} : Lit × DataW H → Nat
  | (.string bytes, d) => bytes.length + uptoBulk d + 1
  | (_, d) => uptoBulk d + 1
 end
def uptoSmall : (H : Type) → List (DataW H) → Bool := fun _ ds => decide (uptoBulkAll ds ≤ 1048576)
def OpenSpec.upto (s : _root_.Go.ChangeSpec) : _root_.Go.OpenSpec := { _root_.Go.OpenSpec.ofChange s with cond := some uptoSmall }

/-- 'stopcocklaw01.OctetSums', WHERE WHAT IT READS IS OF BULK AT MOST 1048576: true; the input reads as it did. -/
def octetSumsUptoRow : OpenClaim := { program := "ytkapdfaiceiffaadoor", sum := "04661e5a8d9007cf300fcd7a0170756fae4b66204830df80fda0dc64a17b6fd5", func := "stopcock/stopcocklaw01.OctetSums", spec := "octetSums", named := ["stopcock/octet.steps"], apart := false, laid := [("stopcock/octet.steps", laid_stopcock_octet_steps)], narrowed := true }
def OctetSumsUptoSaid : Prop := octetSumsUptoRow.holds Tryd.pinned (OpenSpec.upto octetSumsSpec)

/-- 'stopcocklaw01.OctetBursts', WHERE WHAT IT READS IS OF BULK AT MOST 1048576: true; the input reads as it did. -/
def octetBurstsUptoRow : OpenClaim := { program := "ytkapdfaiceiffaadoor", sum := "04661e5a8d9007cf300fcd7a0170756fae4b66204830df80fda0dc64a17b6fd5", func := "stopcock/stopcocklaw01.OctetBursts", spec := "octetBursts", named := ["stopcock/octet.steps"], apart := false, laid := [("stopcock/octet.steps", laid_stopcock_octet_steps)], narrowed := true }
def OctetBurstsUptoSaid : Prop := octetBurstsUptoRow.holds Tryd.pinned (OpenSpec.upto octetBurstsSpec)

end Rows
end Go.Proofs.YtkapdfaiceiffaaDoor
