/- Many cells of a block set. -/
import Derived.Test.YtidkhekekfennaaCom
import Derived.Laws.Tables
import Derived.Deep.MidRow
namespace Go.Proofs.Ytidkhekekfennaa
set_option maxRecDepth 100000
open Go.RowKit

def setsW (w : World) (g : Nat) (ps : List (Nat × Value)) : World := ps.foldl (fun w p => w.setCell ⟨g, p.1, none⟩ p.2) w
theorem setsW_any {w : World} {q : Nat} (P : World → Prop) (h : P w) (hs : ∀ (j : Nat) (W : World) (u : Value), P W → P (W.setCell ⟨q, j, none⟩ u)) (ps : List (Nat × Value)) : P (setsW w q ps) := by
  induction ps generalizing w with
  | nil => exact h
  | cons p ps ih => exact ih (hs p.1 w p.2 h)
theorem setsW_blk {w : World} {g : Nat} {T : TypeId} {l : List Value} (h : Blk w g T l.toArray) (ps : List (Nat × Value)) : Blk (setsW w g ps) g T (ps.foldl (fun c p => c.set p.1 p.2) l).toArray := by
  induction ps generalizing w l with
  | nil => exact h
  | cons p ps ih => exact ih (h.setL p.1 p.2)
theorem setsW_far {w : World} {g q : Nat} {T : TypeId} {cs : Array Value} (h : Blk w g T cs) (hne : g ≠ q) (ps : List (Nat × Value)) : Blk (setsW w q ps) g T cs :=
  setsW_any (fun W => Blk W g T cs) h (fun j _ u k => k.far (p := ⟨q, j, none⟩) hne u) ps
theorem setsW_below {w W : World} {B q : Nat} (h : Below B w W) (hB : B ≤ q) (ps : List (Nat × Value)) : Below B w (setsW W q ps) :=
  setsW_any (fun X => Below B w X) h (fun j _ u k => k.setCell (p := ⟨q, j, none⟩) hB u) ps
theorem setsW_size (w : World) (q : Nat) (ps : List (Nat × Value)) : (setsW w q ps).heap.size = w.heap.size :=
  setsW_any (fun X => X.heap.size = w.heap.size) rfl (fun j _ u k => by simp [World.setCell, k]) ps
/-! ### A whole row stored -/
theorem Blk.row {w : World} {g : Nat} {T : TypeId} {old cs : Array Value} (h : Blk w g T old) : Blk (w.setRow g cs) g T cs := setRow_heap w g old cs T (0, 0) h
theorem row_block {w : World} {q : Nat} {cs : Array Value} (g : Nat) (hne : g ≠ q) : (w.setRow q cs).heap[g]? = w.heap[g]? := by
  simp only [World.setRow]
  rw [Array.getElem?_modify, if_neg (fun e => hne e.symm)]
theorem Blk.rowFar {w : World} {g q : Nat} {T : TypeId} {old cs : Array Value} (h : Blk w g T old) (hne : g ≠ q) : Blk (w.setRow q cs) g T old := (row_block g hne).trans h
theorem row_below {B : Nat} {w W : World} (h : Below B w W) {q : Nat} (hq : B ≤ q) (cs : Array Value) : Below B w (W.setRow q cs) :=
  ⟨h.os, h.tape, h.output, by simpa [World.setRow] using h.size, fun i hi => (row_block i (by omega)).trans (h.block i hi)⟩
theorem row_grown {w : World} (q : Nat) (cs : Array Value) : w.grownBy (w.setRow q cs) (some q) :=
  ⟨rfl, rfl, rfl, by simp [World.setRow], fun i _ hne => row_block i (fun e => hne (by rw [e]))⟩
/-! ### A whole struct read -/
theorem wp_load_row {P : Program} {o : Oper} {a : Act} {w : World} {K : Act → World → Prop} {Q : Exit → Act → World → Prop} (ty : TypeId) (x : Operand) (ho : o.op = .load ty x)
    (g : Nat) (hx : a.eval x = .pointer (some ⟨g, 0, none⟩)) (t : TypeId) (cells : Array Value) (hb : Blk w g t cells) (d : TypeDesc) (hu : P.underlying ty = some d) (hd : d.isRow = true) (hi : (P.info? ty).map (·.size) = some cells.size)
    (h : K (a.put o.dst (.agg cells)) w) : o.wp P a w K Q := by
  have hl : (loadVar ty ⟨g, 0, none⟩).run P w = .ok (.agg cells) w := by
    have := run_loadVar_mid (P := P) w g 0 ty cells.toList d (fun j v hj => by rw [Nat.zero_add, hb.cell]; simpa using hj) hu hd (by simpa using hi)
    simpa using this
  unfold Oper.wp execOp
  simp only [ho, hx, Instr.loadAt, Instr.sureAddr, Sem.run_bind, Sem.run_pure, Result.andThen_ok, hl]
  exact h
theorem wpList_load_row {P : Program} {ops : Array Oper} {rest : List Oper} {o : Oper} {a : Act} {w : World} {Q : Exit → Act → World → Prop} (hgd : o.guard = none) (ty : TypeId) (x : Operand) (ho : o.op = .load ty x)
    (g : Nat) (hx : a.eval x = .pointer (some ⟨g, 0, none⟩)) (t : TypeId) (cells : Array Value) (hb : Blk w g t cells) (d : TypeDesc) (hu : P.underlying ty = some d) (hd : d.isRow = true) (hi : (P.info? ty).map (·.size) = some cells.size)
    (h : wpList P ops Q rest (a.put o.dst (.agg cells)) w) : wpList P ops Q (o :: rest) a w :=
  wpList_plain hgd fun _ hK => wp_load_row ty x ho g hx t cells hb d hu hd hi (hK _ _ h)
theorem yields_row {P : Program} {ops : Array Oper} {S : World → Prop} {op : Oper} {a : Act} (hw : Region.wanted op (yielded ops a.tmps) = true) (ty : TypeId) (x : Operand) (ho : op.op = .load ty x)
    (g : Nat) (hx : a.eval x = .pointer (some ⟨g, 0, none⟩)) (t : TypeId) (cells : Array Value) (hS : ∀ w, S w → Blk w g t cells) (d : TypeDesc)
    (hu : P.underlying ty = some d) (hd : d.isRow = true) (hi : (P.info? ty).map (·.size) = some cells.size) : YieldsIf P ops S op (.agg cells) a := by
  have h := yieldsIf_load_mid (P := P) (ops := ops) (S := S) (op := op) (a := a) hw ty x ho g 0 hx cells.toList d (fun w hw' j v hj => by rw [Nat.zero_add, (hS w hw').cell]; simpa using hj) hu hd (by simpa using hi)
  simpa using h
theorem from_row {P : Program} {w : World} {g : Nat} {t : TypeId} {cells : Array Value} (hb : Blk w g t cells) (n : Nat) (hn : cells.size = n) : (loadCellsFrom ⟨g, 0, none⟩ 0 n #[]).run P w = .ok cells w := by
  subst hn
  have := run_loadCells_list (P := P) w ⟨g, 0, none⟩ cells.toList (fun j v hv => by rw [add_plain, Nat.zero_add, hb.cell]; simpa using hv)
  simpa [loadCells] using this
theorem at_row {P : Program} {w : World} {g : Nat} {ty t : TypeId} {cells : Array Value} (hb : Blk w g t cells) {d : TypeDesc} (hu : P.underlying ty = some d) (hd : d.isRow = true) (hi : (P.info? ty).map (·.size) = some cells.size) :
    (Instr.loadAt ty (.pointer (some ⟨g, 0, none⟩))).run P w = .ok (.agg cells) w := by
  have := run_loadAt_mid (P := P) w g 0 ty cells.toList d (fun j v hj => by rw [Nat.zero_add, hb.cell]; simpa using hj) hu hd (by simpa using hi)
  simpa using this
theorem step_load_row {P : Program} {ops : Array Oper} {o : Oper} {a : Act} {w : World} {K : Act → World → Prop} {Q : Exit → Act → World → Prop} {E : Prop} (hgd : o.guard = none) (ty : TypeId) (x : Operand) (ho : o.op = .load ty x)
    (g : Nat) (hx : a.eval x = .pointer (some ⟨g, 0, none⟩)) (t : TypeId) (cells : Array Value) (hb : Blk w g t cells) (d : TypeDesc) (hu : P.underlying ty = some d) (hd : d.isRow = true) (hi : (P.info? ty).map (·.size) = some cells.size)
    (h : K (a.put o.dst (.agg cells)) w) : if Region.wanted o (yielded ops a.tmps) = true then Oper.wp P o a w K Q else E := by
  have hw : Region.wanted o (yielded ops a.tmps) = true := by simp [Region.wanted, hgd]
  rw [if_pos hw]
  exact wp_load_row ty x ho g hx t cells hb d hu hd hi h
theorem step_store_row {P : Program} {ops : Array Oper} {o : Oper} {a : Act} {w : World} {K : Act → World → Prop} {Q : Exit → Act → World → Prop} {E : Prop} (hgd : o.guard = none) (ty : TypeId) (x y : Operand) (ho : o.op = .store ty x y)
    (g : Nat) (cells : Array Value) (hx : a.eval x = .pointer (some ⟨g, 0, none⟩)) (hy : a.eval y = .agg cells)
    (t : TypeId) (old : Array Value) (hg : Blk w g t old) (hi : (P.info? ty).map (·.size) = some cells.size) (hold : old.size = cells.size) (h1 : cells.all (·.oneCell') = true)
    (h : K (a.put o.dst undef) (w.setRow g cells)) : if Region.wanted o (yielded ops a.tmps) = true then Oper.wp P o a w K Q else E := by
  have hw : Region.wanted o (yielded ops a.tmps) = true := by simp [Region.wanted, hgd]
  rw [if_pos hw]
  exact wp_store_row ty x y ho g cells hx hy t old hg hi hold h1 h
theorem row_size (w : World) (q : Nat) (cs : Array Value) : (w.setRow q cs).heap.size = w.heap.size := by simp [World.setRow]
end Go.Proofs.Ytidkhekekfennaa
