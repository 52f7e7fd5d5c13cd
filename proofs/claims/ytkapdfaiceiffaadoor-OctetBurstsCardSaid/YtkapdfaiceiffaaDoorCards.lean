/-
  DERIVED. GIVEN WITH THE SEED: THE CARDS: each row of YtkapdfaiceiffaaDoorRows.lean that lists a variable, with what it lists TIED to the program's text (the seventh form; the later family's looks); each row that meets fmt, with fmt's text TOLD by the authors' own Lean function (tested against real Go, not proved from fmt's source: count such statements apart). THE CARD IS WHAT COUNTS. Prove the row's statement (the work); the ties are given (YtkapdfaiceiffaaDoorTie.lean); close each card by the builder's one call (the guide's Derived/Test/ToyasCard.lean, 'card_holds'). Laid BY PROGRAM, IN A SANDBOX (cutbox-door.mjs). By AI agents, Wed Nov 11 2026. No macro, syntax, notation, axiom, sorry.
-/
import Derived.Test.YtkapdfaiceiffaaDoorRows
import GoSem.ClaimSeven
namespace Go.Proofs.YtkapdfaiceiffaaDoor
namespace Rows

/-- THE TIED CARD OF 'stopcocklaw01.OctetSums'. -/
def octetSumsCard : Claim7 := { stood := { row := octetSumsRow, standIns := [], harness := (true, "90b2d26b26d304147fd870e9e7a50a3ac81926e9954b8f3633f6413c243397b8"), looks := false }, kinds := [], alts := [], laidByText := true, laidKinds := [.data], laidTests := true, laidLooks := .later }
def OctetSumsCardSaid : Prop := Claim7.holds Tryd.pinned (.plain (OpenSpec.ofChange octetSumsSpec)) octetSumsCard

/-- THE TIED CARD OF 'stopcocklaw01.OctetBursts'. -/
def octetBurstsCard : Claim7 := { stood := { row := octetBurstsRow, standIns := [], harness := (true, "90b2d26b26d304147fd870e9e7a50a3ac81926e9954b8f3633f6413c243397b8"), looks := false }, kinds := [], alts := [], laidByText := true, laidKinds := [.data], laidTests := true, laidLooks := .later }
def OctetBurstsCardSaid : Prop := Claim7.holds Tryd.pinned (.plain (OpenSpec.ofChange octetBurstsSpec)) octetBurstsCard

/-- THE SECOND FORM's CARD OF 'stopcocklaw01.OctetSums'. -/
def octetSumsUptoCard : Claim7 := { stood := { row := octetSumsUptoRow, standIns := [], harness := (true, "90b2d26b26d304147fd870e9e7a50a3ac81926e9954b8f3633f6413c243397b8"), looks := false }, kinds := [], alts := [], laidByText := true, laidKinds := [.data], laidTests := true, laidLooks := .later }
def OctetSumsUptoCardSaid : Prop := Claim7.holds Tryd.pinned (.plain (OpenSpec.upto octetSumsSpec)) octetSumsUptoCard

/-- THE SECOND FORM's CARD OF 'stopcocklaw01.OctetBursts'. -/
def octetBurstsUptoCard : Claim7 := { stood := { row := octetBurstsUptoRow, standIns := [], harness := (true, "90b2d26b26d304147fd870e9e7a50a3ac81926e9954b8f3633f6413c243397b8"), looks := false }, kinds := [], alts := [], laidByText := true, laidKinds := [.data], laidTests := true, laidLooks := .later }
def OctetBurstsUptoCardSaid : Prop := Claim7.holds Tryd.pinned (.plain (OpenSpec.upto octetBurstsSpec)) octetBurstsUptoCard
end Rows
end Go.Proofs.YtkapdfaiceiffaaDoor
