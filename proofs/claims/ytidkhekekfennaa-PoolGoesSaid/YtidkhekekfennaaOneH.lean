/- append of one struct, in a region that keeps its order. -/
import Derived.Test.YtidkhekekfennaaRows5
namespace Go.Proofs.Ytidkhekekfennaa
set_option maxRecDepth 100000
open Go.RowKit

/-- append(v, x) of one struct, in a region that keeps its order. -/
theorem wpList_oneH {α : Type} {f : α → List Value} {s bytes : Nat} {T E : TypeId} {z0 : Value} {W : World} (hT : Try.prog.underlying T = some (.slice E)) (hinfo : (Try.prog.info? E).map (fun i => (i.zero, i.size, i.bytes)) = some (some z0, s, bytes)) (hz : z0.cells.size = s) (hs0 : 0 < s) (hfl : ∀ x, (f x).length = s) (hone : ∀ x, ∀ u ∈ f x, u.oneCell' = true)
    {ops : Array Oper} {rest : List Oper} {o : Oper} {a : Act} {Q : Exit → Act → World → Prop} {cs : Array Value} (base : Nat) (hgd : o.guard = none) (sx x : Operand)
    (ho : o.op = .call { callee := .builtin .append, args := #[sx, x], argTypes := #[T, T] })
    (v : Value) (l : List α) (y : α) (hs : a.eval sx = v) (hcs : cs = (f y).toArray) (hx : a.eval x = .slice (some ⟨W.heap.size, 0, none⟩) 1 1) (HO : W.ownsRow base E s v l.length (l.flatMap f)) (hbase : base ≤ W.heap.size) (hl : (l.length + 1) * bytes ≤ 140737488355328) (hb1 : 1 ≤ bytes)
    (h : ∀ v1 w1, w1.ownsRow base E s v1 (l ++ [y]).length ((l ++ [y]).flatMap f) → W.grownBy w1 v.ownBlock → (v1.ownBlock = v.ownBlock ∨ ∃ b, v1.ownBlock = some b ∧ W.heap.size ≤ b) → wpList Try.prog ops Q rest (a.put o.dst v1) w1) :
    wpList Try.prog ops Q (o :: rest) a (W.alloc (.cells cs E)) := by
  have hr : Reads (W.alloc (.cells cs E)) (W.heap.size + 1) s (some ⟨W.heap.size, 0, none⟩) 1 (f y) := by
    subst hcs
    refine ⟨by rw [hfl, Nat.one_mul], fun _ => ⟨W.heap.size, 0, rfl, by omega, fun j u hu => ?_⟩⟩
    rw [Nat.zero_add, World.cell?_alloc_mark]
    simpa using hu
  obtain ⟨i0, hi, hz0, hz1, hz2⟩ := info_parts hinfo
  have hO := World.ownsRow.alloc HO (.cells cs E)
  have hlen : l.length + 1 ≤ (l.length + 1) * bytes := Nat.le_mul_of_pos_right _ hb1
  refine wpList_append_any _ hgd sx x T ho base E i0 z0 s bytes hT hi hz0 hz1 hz2 hz hs0 v l.length (l.flatMap f) hs hO (W.heap.size + 1) _ _ _ (f y) hx hr (hone y) (by simp only [maxLen]; omega) hl (by simp; omega) ?_
  intro v1 w1 ho1 hg hat
  refine h v1 w1 ?_ (World.grownBy.trans (World.grownBy_alloc W _ _) hg) ?_
  · rw [List.length_append, List.length_singleton, List.flatMap_append, List.flatMap_singleton]
    exact ho1
  · rcases hat with hat | hat
    · exact .inl hat
    · exact .inr ⟨_, hat, by simp⟩
end Go.Proofs.Ytidkhekekfennaa
