/- slices.Clone of a list of numbers. -/
import Derived.Test.YtfkaggdjhopjpaaSame3
import Derived.Lib.SliceRun
namespace Go.Proofs.Ytfkaggdjhopjpaa
set_option maxRecDepth 100000
open Go.RowKit

theorem own_empty (W : World) (base : Nat) (e : TypeId) (hb : base ≤ W.heap.size) : (W.alloc (.cells #[] e)).ownsRow base e 1 (.slice (some ⟨W.heap.size, 0, none⟩) 0 0) 0 [] :=
  ⟨by simp, .inr ⟨W.heap.size, 0, #[], rfl, hb, heap_alloc_new W _, by simp, by unfold maxLen; omega, by simp, by simp⟩⟩
/-- A copy: its cells are the call's own. -/
structure Cop (w w' : World) (A : Option Addr) (c : Nat) (l : List Int) : Prop where
  inn : InN .i64 w' A c l
  own : ∀ b, (Value.slice A l.length c).ownBlock = some b → w.heap.size ≤ b
theorem Cop.of_own {w w' : World} {base : Nat} {v : Value} {l : List Int} (h : OwnN .i64 3 w' base v l) (hb : w.heap.size ≤ base) (hl : Wfs .i64 l) (hs : l.length ≤ 140737488355328) : ∃ A c, v = .slice A l.length c ∧ Cop w w' A c l := by
  obtain ⟨A, c, rfl, hin⟩ := InN.own h hl hs
  exact ⟨A, c, rfl, hin, fun b e => Nat.le_trans hb (World.ownsRow.lt h b e).1⟩

end Go.Proofs.Ytfkaggdjhopjpaa
