/- Walks over snapshots: a new snapshot, by the code and by the document. -/
import Derived.Test.YtfkaggdjhopjpaaClone
import Derived.Deep.RegionLaw
namespace Go.Proofs.Ytfkaggdjhopjpaa
set_option maxRecDepth 100000
open Go.RowKit

theorem step_copyI {ops : Array Oper} {o : Oper} {a : Act} {K : Act → World → Prop} {Q : Exit → Act → World → Prop} {E : Prop} {W : World} (base : Nat) (hgd : o.guard = none) (s x : Operand)
    (ho : o.op = .call { callee := .builtin .append, args := #[s, x], argTypes := #[37, 37] })
    (hs : a.eval s = .slice none 0 0) (A : Option Addr) (c : Nat) (l : List Int) (hx : a.eval x = .slice A l.length c) (hin : InN .i64 W A c l) (hbase : base ≤ W.heap.size) (hl : l.length ≤ 17592186043904)
    (h : ∀ v1 w1, OwnN .i64 3 w1 base v1 l → Below base W w1 → K (a.put o.dst v1) w1) :
    if Region.wanted o (yielded ops a.tmps) = true then Oper.wp Try.prog o a W K Q else E := by
  obtain ⟨i0, hi, hz0, hz1, hz2⟩ := info_parts info_int
  refine step_append_any _ hgd s x 37 ho base 3 i0 (.int .i64 0) 1 8 Try.underlying37 hi hz0 hz1 hz2 rfl (by omega) (.slice none 0 0) 0 [] hs (own_nil _ _ _ _) W.heap.size A l.length c (nums .i64 l) hx hin.reads (nums_one_cell .i64 l) (by simp only [maxLen]; omega) (by omega) hbase ?_
  intro v1 w1 ho1 hg _
  refine h v1 w1 (by simpa [OwnN] using ho1) ((Below.refl base W).grown hg hbase (fun k e => by simp [Value.ownBlock] at e))

def shotV (i t : Int) (sl : Value) (lim nxt : Int) : Value := .agg #[.int .u64 i, .int .u64 t, sl, .int .i64 lim, .int .u64 nxt, .slice none 0 0, .slice none 0 0]
def shotCells (i t : Int) (sl : Value) (lim nxt : Int) : Array Value := #[.int .u64 i, .int .u64 t, sl, .int .i64 lim, .int .u64 nxt, .slice none 0 0, .slice none 0 0]
structure ShotAt (w : World) (g : Nat) (i t : Int) (sl : Value) (lim nxt : Int) : Prop where
  z0 : w.cell? ⟨g, 0, none⟩ = some (.int .u64 i)
  z1 : w.cell? ⟨g, 1, none⟩ = some (.int .u64 t)
  z2 : w.cell? ⟨g, 2, none⟩ = some sl
  z3 : w.cell? ⟨g, 3, none⟩ = some (.int .i64 lim)
  z4 : w.cell? ⟨g, 4, none⟩ = some (.int .u64 nxt)
  z5 : w.cell? ⟨g, 5, none⟩ = some (.slice none 0 0)
  z6 : w.cell? ⟨g, 6, none⟩ = some (.slice none 0 0)
theorem Blk.shot {w : World} {g : Nat} {T : TypeId} {i t : Int} {sl : Value} {lim nxt : Int} (h : Blk w g T (shotCells i t sl lim nxt)) : ShotAt w g i t sl lim nxt := by
  constructor <;> (rw [h.cell]; rfl)
structure LedgerAt (w : World) (g : Nat) (lim nxt : Int) : Prop where
  q0 : w.cell? ⟨g, 0, none⟩ = some (.int .i64 lim)
  q1 : w.cell? ⟨g, 1, none⟩ = some (.int .u64 nxt)
  q2 : w.cell? ⟨g, 2, none⟩ = some (.slice none 0 0)
  q3 : w.cell? ⟨g, 3, none⟩ = some (.slice none 0 0)
def ledgerCells (lim nxt : Int) : Array Value := #[.int .i64 lim, .int .u64 nxt, .slice none 0 0, .slice none 0 0]
theorem Blk.ledger {w : World} {g : Nat} {T : TypeId} {lim nxt : Int} (h : Blk w g T (ledgerCells lim nxt)) : LedgerAt w g lim nxt := by
  constructor <;> (rw [h.cell]; rfl)
theorem Blk.set7 {w : World} {g : Nat} {T : TypeId} {v0 v1 v2 v3 v4 v5 v6 : Value} (h : Blk w g T #[v0, v1, v2, v3, v4, v5, v6]) (u0 u1 u2 u3 u4 u5 u6 : Value) :
    Blk (((((((w.setCell ⟨g, 0, none⟩ u0).setCell ⟨g, 1, none⟩ u1).setCell ⟨g, 2, none⟩ u2).setCell ⟨g, 3, none⟩ u3).setCell ⟨g, 4, none⟩ u4).setCell ⟨g, 5, none⟩ u5).setCell ⟨g, 6, none⟩ u6) g T #[u0, u1, u2, u3, u4, u5, u6] :=
  (((((((h.setL 0 u0).setL 1 u1).setL 2 u2).setL 3 u3).setL 4 u4).setL 5 u5).setL 6 u6)
theorem Cop.far {w w' : World} {A : Option Addr} {c : Nat} {l : List Int} (h : Cop w w' A c l) {g : Nat} (hg : g < w.heap.size) (i : Nat) (u : Value) : Cop w (w'.setCell ⟨g, i, none⟩ u) A c l :=
  ⟨InN.far (n := l.length) h.inn (fun b hb => by have := h.own b hb; show g ≠ b; omega) u, h.own⟩

theorem Cop.mono {w w1 w' : World} {A : Option Addr} {c : Nat} {l : List Int} (h : Cop w1 w' A c l) (hw : w.heap.size ≤ w1.heap.size) : Cop w w' A c l := ⟨h.inn, fun b e => Nat.le_trans hw (h.own b e)⟩
end Go.Proofs.Ytfkaggdjhopjpaa
