/- A region that draws its order, whose operations only read or call what leaves a class of worlds: one walk of the text's order serves every order. -/
import Derived.Test.YtidkhekekfennaaWd
namespace Go.Proofs.Ytidkhekekfennaa
set_option maxRecDepth 100000
open Go.RowKit

/-- A world of a class. -/
structure InClass (K : World → Prop) where
  w : World
  ok : K w
theorem wp_region_class_lit {P : Program} {id : Nat} {Q : Exit → Act → World → Prop} {a : Act} {w : World} {l : List Oper} (K : World → Prop) (hm : P.follows .mixedOrders = true) (hB : Region.lexB .any l.toArray = true) (h0 : K w.drew)
    (h : wpQuiet P l.toArray (fun w' => ∃ p : InClass K, w' = p.w) (fun a' => ∀ w', (∃ p : InClass K, w' = p.w) → Q .normal a' w') l a) : (Code.region id l.toArray true).wp P Q a w :=
  wp_region_quiet (C := fun w' => ∃ p : InClass K, w' = p.w) hm hB ⟨⟨w.drew, h0⟩, rfl⟩ (by simpa using h)
end Go.Proofs.Ytidkhekekfennaa
