/- Structs within structs: many cells of a block set from a place on; whole structs read behind a guard. -/
import Derived.Test.YtidkhekekfennaaSets
import Derived.BigFrame
namespace Go.Proofs.Ytidkhekekfennaa
set_option maxRecDepth 100000
open Go.RowKit

def midL : List Value → Nat → List Value → List Value
  | l, _, [] => l
  | l, o, v :: vs => midL (l.set o v) (o + 1) vs
theorem Blk.mid {w : World} {g : Nat} {T : TypeId} {l : List Value} (h : Blk w g T l.toArray) (vs : List Value) (o : Nat) : Blk (w.setCells g o vs) g T (midL l o vs).toArray := by
  induction vs generalizing w l o with
  | nil => exact h
  | cons v vs ih => exact ih (h.setL o v) (o + 1)
theorem mid_any {w : World} {q : Nat} (P : World → Prop) (h : P w) (hs : ∀ (j : Nat) (W : World) (u : Value), P W → P (W.setCell ⟨q, j, none⟩ u)) (vs : List Value) (o : Nat) : P (w.setCells q o vs) := by
  induction vs generalizing w o with
  | nil => exact h
  | cons v vs ih => exact ih (hs o w v h) (o + 1)
theorem Blk.midFar {w : World} {g q : Nat} {T : TypeId} {cs : Array Value} (h : Blk w g T cs) (hne : g ≠ q) (vs : List Value) (o : Nat) : Blk (w.setCells q o vs) g T cs :=
  mid_any (fun W => Blk W g T cs) h (fun j _ u k => k.far (p := ⟨q, j, none⟩) hne u) vs o
theorem mid_below {w W : World} {B q : Nat} (h : Below B w W) (hB : B ≤ q) (vs : List Value) (o : Nat) : Below B w (W.setCells q o vs) :=
  mid_any (fun X => Below B w X) h (fun j _ u k => k.setCell (p := ⟨q, j, none⟩) hB u) vs o
theorem mid_grown {w : World} (q : Nat) (vs : List Value) (o : Nat) : w.grownBy (w.setCells q o vs) (some q) :=
  mid_any (fun X => w.grownBy X (some q)) (World.grownBy.refl _ _) (fun j _ u k => only_setCell (p := ⟨q, j, none⟩) k (.inl rfl) u) vs o
theorem mid_size (w : World) (q : Nat) (vs : List Value) (o : Nat) : (w.setCells q o vs).heap.size = w.heap.size :=
  mid_any (fun X => X.heap.size = w.heap.size) rfl (fun j _ u k => by simp [World.setCell, k]) vs o
/-- A block's cells are there, and may be written. -/
theorem Blk.there {w : World} {g : Nat} {T : TypeId} {cs : Array Value} (h : Blk w g T cs) (o n : Nat) (hn : o + n ≤ cs.size) : w.there g o n := fun j hj => by
  refine ⟨?_, h.frozen _⟩
  rw [h.cell, Array.getElem?_eq_getElem (by omega)]
  rfl
theorem wpList_load_want {P : Program} {ops : Array Oper} {rest : List Oper} {o : Oper} {a : Act} {w : World} {Q : Exit → Act → World → Prop} (hw : Region.wanted o (yielded ops a.tmps) = true) (ty : TypeId) (x : Operand) (ho : o.op = .load ty x)
    (g : Nat) (hx : a.eval x = .pointer (some ⟨g, 0, none⟩)) (t : TypeId) (cells : Array Value) (hb : Blk w g t cells) (d : TypeDesc) (hu : P.underlying ty = some d) (hd : d.isRow = true) (hi : (P.info? ty).map (·.size) = some cells.size)
    (h : wpList P ops Q rest (a.put o.dst (.agg cells)) w) : wpList P ops Q (o :: rest) a w :=
  BigFrame.wpList_want hw fun _ hK => wp_load_row ty x ho g hx t cells hb d hu hd hi (hK _ _ h)
/-- A part of a block read. -/
theorem wp_load_part {P : Program} {o : Oper} {a : Act} {w : World} {K : Act → World → Prop} {Q : Exit → Act → World → Prop} (ty : TypeId) (x : Operand) (ho : o.op = .load ty x)
    (g f : Nat) (hx : a.eval x = .pointer (some ⟨g, f, none⟩)) (t : TypeId) (cells : Array Value) (hb : Blk w g t cells) (part : Array Value) (hp : ∀ j v, part[j]? = some v → cells[f + j]? = some v) (d : TypeDesc) (hu : P.underlying ty = some d) (hd : d.isRow = true) (hi : (P.info? ty).map (·.size) = some part.size)
    (h : K (a.put o.dst (.agg part)) w) : o.wp P a w K Q := by
  have hl : (loadVar ty ⟨g, f, none⟩).run P w = .ok (.agg part) w := by
    have := run_loadVar_mid (P := P) w g f ty part.toList d (fun j v hj => by rw [hb.cell]; exact hp j v (by simpa using hj)) hu hd (by simpa using hi)
    simpa using this
  unfold Oper.wp execOp
  simp only [ho, hx, Instr.loadAt, Instr.sureAddr, Sem.run_bind, Sem.run_pure, Result.andThen_ok, hl]
  exact h
end Go.Proofs.Ytidkhekekfennaa
