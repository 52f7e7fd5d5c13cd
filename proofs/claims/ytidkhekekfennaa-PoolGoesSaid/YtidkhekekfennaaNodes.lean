/- Walks over sets of nodes: nodes.of, nodes.Check, the document's Check; what they answer is 'setB'. -/
import Derived.Test.YtidkhekekfennaaCom
import Derived.Test.YtidkhekekfennaaMemN
namespace Go.Proofs.Ytidkhekekfennaa
set_option maxRecDepth 100000
open Go.RowKit

/-- The first k of l are numbers from 1 to 7 and rise. -/
def Good (l : List Int) (k : Nat) : Prop := ∀ i (hi : i < l.length), i < k → 1 ≤ l[i] ∧ l[i] ≤ 7 ∧ (0 < i → l[i - 1] < l[i])
/-- A set of nodes. -/
def IsSet (l : List Int) : Prop := 0 < l.length ∧ Good l l.length
noncomputable instance (l : List Int) : Decidable (IsSet l) := Classical.propDecidable _
theorem Good.zero (l : List Int) : Good l 0 := fun _ _ h => by omega
theorem Good.step {l : List Int} {k : Nat} (h : Good l k) (hk : k < l.length) (h1 : 1 ≤ l[k]) (h7 : l[k] ≤ 7) (hr : 0 < k → l[k - 1] < l[k]) : Good l (k + 1) := by
  intro i hi hik
  rcases Nat.lt_or_ge i k with hlt | hge
  · exact h i hi hlt
  · obtain rfl : i = k := by omega
    exact ⟨h1, h7, hr⟩
theorem not_set {l : List Int} {k : Nat} (hk : k < l.length) (h : l[k] < 1 ∨ 7 < l[k] ∨ (0 < k ∧ l[k] ≤ l[k - 1])) : ¬ IsSet l := by
  intro ⟨_, hg⟩
  have := hg k hk hk
  omega

/-- Eight bools in a block of the call's own. -/
def Row8 (w : World) (g : Nat) (t : TypeId) (bs : List Bool) : Prop := bs.length = 8 ∧ Blk w g t (bs.map Value.bool).toArray
theorem Row8.set_ {w : World} {g : Nat} {t : TypeId} {bs : List Bool} (h : Row8 w g t bs) (n : Nat) (b : Bool) : Row8 (w.setCell ⟨g, n, none⟩ (.bool b)) g t (bs.set n b) := by
  refine ⟨by simp [h.1], ?_⟩
  have := h.2.set_ n (.bool b)
  rw [List.map_set]
  simpa using this
theorem Row8.cells {w : World} {g : Nat} {t : TypeId} {bs : List Bool} (h : Row8 w g t bs) : ∃ b0 b1 b2 b3 b4 b5 b6 b7, bs = [b0, b1, b2, b3, b4, b5, b6, b7] ∧
    (w.cell? ⟨g, 0, none⟩ = some (.bool b0) ∧ w.cell? ⟨g, 1, none⟩ = some (.bool b1) ∧ w.cell? ⟨g, 2, none⟩ = some (.bool b2) ∧ w.cell? ⟨g, 3, none⟩ = some (.bool b3) ∧
     w.cell? ⟨g, 4, none⟩ = some (.bool b4) ∧ w.cell? ⟨g, 5, none⟩ = some (.bool b5) ∧ w.cell? ⟨g, 6, none⟩ = some (.bool b6) ∧ w.cell? ⟨g, 7, none⟩ = some (.bool b7)) ∧
    (w.frozen? ⟨g, 0, none⟩ = false ∧ w.frozen? ⟨g, 1, none⟩ = false ∧ w.frozen? ⟨g, 2, none⟩ = false ∧ w.frozen? ⟨g, 3, none⟩ = false ∧
     w.frozen? ⟨g, 4, none⟩ = false ∧ w.frozen? ⟨g, 5, none⟩ = false ∧ w.frozen? ⟨g, 6, none⟩ = false ∧ w.frozen? ⟨g, 7, none⟩ = false) := by
  obtain ⟨hl, hb⟩ := h
  match bs, hl with
  | [b0, b1, b2, b3, b4, b5, b6, b7], _ =>
    refine ⟨b0, b1, b2, b3, b4, b5, b6, b7, rfl, ⟨?_, ?_, ?_, ?_, ?_, ?_, ?_, ?_⟩, hb.frozen 0, hb.frozen 1, hb.frozen 2, hb.frozen 3, hb.frozen 4, hb.frozen 5, hb.frozen 6, hb.frozen 7⟩
    all_goals exact (hb.cell _).trans rfl
theorem below_row8 {w wr : World} {g : Nat} (hB : Below g w wr) (b0 b1 b2 b3 b4 b5 b6 b7 : Bool) : Below g w ((((((((wr.setCell ⟨g, 0, none⟩ (.bool b0)).setCell ⟨g, 1, none⟩ (.bool b1)).setCell ⟨g, 2, none⟩ (.bool b2)).setCell ⟨g, 3, none⟩ (.bool b3)).setCell ⟨g, 4, none⟩ (.bool b4)).setCell ⟨g, 5, none⟩ (.bool b5)).setCell ⟨g, 6, none⟩ (.bool b6)).setCell ⟨g, 7, none⟩ (.bool b7)) := by
  exact ((((((((hB.setCell (p := ⟨g, 0, none⟩) (Nat.le_refl _) _).setCell (p := ⟨g, 1, none⟩) (Nat.le_refl _) _).setCell (p := ⟨g, 2, none⟩) (Nat.le_refl _) _).setCell (p := ⟨g, 3, none⟩) (Nat.le_refl _) _).setCell (p := ⟨g, 4, none⟩) (Nat.le_refl _) _).setCell (p := ⟨g, 5, none⟩) (Nat.le_refl _) _).setCell (p := ⟨g, 6, none⟩) (Nat.le_refl _) _).setCell (p := ⟨g, 7, none⟩) (Nat.le_refl _) _)
theorem below_row8_at {w wr : World} {g k : Nat} (hB : Below g w wr) (hk : g ≤ k) (b0 b1 b2 b3 b4 b5 b6 b7 : Bool) : Below g w ((((((((wr.setCell ⟨k, 0, none⟩ (.bool b0)).setCell ⟨k, 1, none⟩ (.bool b1)).setCell ⟨k, 2, none⟩ (.bool b2)).setCell ⟨k, 3, none⟩ (.bool b3)).setCell ⟨k, 4, none⟩ (.bool b4)).setCell ⟨k, 5, none⟩ (.bool b5)).setCell ⟨k, 6, none⟩ (.bool b6)).setCell ⟨k, 7, none⟩ (.bool b7)) :=
  ((((((((hB.setCell (p := ⟨k, 0, none⟩) hk _).setCell (p := ⟨k, 1, none⟩) hk _).setCell (p := ⟨k, 2, none⟩) hk _).setCell (p := ⟨k, 3, none⟩) hk _).setCell (p := ⟨k, 4, none⟩) hk _).setCell (p := ⟨k, 5, none⟩) hk _).setCell (p := ⟨k, 6, none⟩) hk _).setCell (p := ⟨k, 7, none⟩) hk _)
theorem row8_all {w : World} {g : Nat} {t : TypeId} {bs : List Bool} (h : Row8 w g t bs) (b0 b1 b2 b3 b4 b5 b6 b7 : Bool) : ∃ bs', Row8 ((((((((w.setCell ⟨g, 0, none⟩ (.bool b0)).setCell ⟨g, 1, none⟩ (.bool b1)).setCell ⟨g, 2, none⟩ (.bool b2)).setCell ⟨g, 3, none⟩ (.bool b3)).setCell ⟨g, 4, none⟩ (.bool b4)).setCell ⟨g, 5, none⟩ (.bool b5)).setCell ⟨g, 6, none⟩ (.bool b6)).setCell ⟨g, 7, none⟩ (.bool b7)) g t bs' := ⟨_, ((((((((h.set_ 0 b0).set_ 1 b1).set_ 2 b2).set_ 3 b3).set_ 4 b4).set_ 5 b5).set_ 6 b6).set_ 7 b7)⟩
/-- Eight bools as one value. -/
def Agg8 (v : Value) : Prop := ∃ b0 b1 b2 b3 b4 b5 b6 b7, v = .agg #[.bool b0, .bool b1, .bool b2, .bool b3, .bool b4, .bool b5, .bool b6, .bool b7]
theorem Row8.at_ {w : World} {g : Nat} {t : TypeId} {bs : List Bool} (h : Row8 w g t bs) (n : Nat) (hn : n < 8) : ∃ b, w.cell? ⟨g, n, none⟩ = some (.bool b) := by
  have hl := h.1
  refine ⟨bs[n], ?_⟩
  rw [h.2.cell]
  simp [show n < bs.length by omega]

end Go.Proofs.Ytidkhekekfennaa
