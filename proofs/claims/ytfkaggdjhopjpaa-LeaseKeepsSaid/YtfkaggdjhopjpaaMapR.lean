/- Rows that a keeper knows: a map keyed by a struct, in memory. -/
import Derived.Test.YtfkaggdjhopjpaaLedM
import Derived.DeepKeys4
namespace Go.Proofs.Ytfkaggdjhopjpaa
set_option maxRecDepth 100000
open Go.RowKit Go.Maps

/-- What a row of Held is known by. -/
structure Rw where
  tok : Int
  ser : Int
  stp : Int
structure Rw.Wf (r : Rw) : Prop where
  tok : (Lit.int .i64 r.tok).wf = true
  ser : (Lit.int .u64 r.ser).wf = true
  stp : (Lit.int .u64 r.stp).wf = true
noncomputable instance : DecidableEq Rw := fun _ _ => Classical.propDecidable _
def Hd.rw (h : Hd) : Rw := ⟨h.tok, h.ser, h.stp⟩
def rwV (r : Rw) : Value := .agg #[.int .i64 r.tok, .int .u64 r.ser, .int .u64 r.stp]
def rwC (r : Rw) : List Value := [.int .i64 r.tok, .int .u64 r.ser, .int .u64 r.stp]
def rwA (r : Rw) : Array Value := #[.int .i64 r.tok, .int .u64 r.ser, .int .u64 r.stp]
theorem rwC_len (r : Rw) : (rwC r).length = 3 := rfl
def rwK (r : Rw) : Lit := .string (keyBytes [.int .i64 r.tok, .int .u64 r.ser, .int .u64 r.stp])
theorem laidR : laidOutB Try.prog = true := by kernel_rfl
theorem rowR : (103 : TypeId) < Try.prog.types.size := of_decide_eq_true (by kernel_rfl)
theorem wideR : (match Try.prog.underlying 103 with | some (.array _ _) | some (.struct _) => true | _ => false) = true := by rw [Try.underlying103]
theorem lawR : Keyed Try.prog 103 := Keyed.of_law (deep_law_laid laidR (m := 2) (by omega) rowR (by kernel_rfl) wideR)
theorem c_row : Try.prog.cellsOf 103 = 3 := by kernel_rfl
theorem c_int_ : Try.prog.cellsOf 3 = 1 := by kernel_rfl
theorem c_u64_ : Try.prog.cellsOf 22 = 1 := by kernel_rfl
theorem keyT : Try.prog.keyType 103 = true := by kernel_rfl
theorem szT : ∃ n, Try.prog.types.size + 1 = n + 2 := ⟨Try.prog.types.size - 1, by have := rowR; have h : (103 : Nat) < Try.prog.types.size := rowR; omega⟩
theorem key_rw {r : Rw} (h : r.Wf) : keyOf Try.prog 103 (rwV r) = some (rwK r) := by
  obtain ⟨n, hn⟩ := szT
  unfold keyOf
  rw [Try.underlying103]
  have hf : (rwV r).formed Try.prog 103 = true := by simp [rwV, Value.formed, Try.underlying103, c_row]
  simp only [keyT, hf, Bool.and_self, if_true, hn]
  simp [Program.keyLits, Try.underlying103, rwV, Value.cells, c_row, c_int_, c_u64_, Try.underlying3, Try.underlying22, h.tok, h.ser, h.stp, rwK]
theorem rwK_inj {r s : Rw} (h : r.Wf) (k : s.Wf) (e : rwK r = rwK s) : r = s := by
  have := lawR.inj (key_rw h) (by rw [e]; exact key_rw k)
  obtain ⟨a, b, c⟩ := r
  obtain ⟨a', b', c'⟩ := s
  simp [rwV] at this
  obtain ⟨rfl, rfl, rfl⟩ := this
  rfl
/-- Block M is a map of at most n entries that holds f. -/
def MapF (w : World) (M n : Nat) (f : Rw → Option Int) : Prop :=
  ∃ D : DataW Unit, w.ownsMap Try.prog 103 (plainElem Try.prog 2) M n D ∧ ∀ r : Rw, r.Wf → Maps.has D (rwK r) = (f r).isSome ∧ D.atKey (rwK r) (.lit (.int .i64 0)) = .lit (.int .i64 ((f r).getD 0))
theorem MapF.made (w : World) : MapF (w.alloc (.map #[] 0)) w.heap.size 0 (fun _ => none) := ⟨_, World.ownsMap_made _ _ _ _, fun _ _ => ⟨rfl, rfl⟩⟩
section
variable {w w' : World} {M n : Nat} {f : Rw → Option Int}
theorem MapF.kept {row : Option Nat} (h : MapF w M n f) (hg : w.grownBy w' row) (hne : some M ≠ row) : MapF w' M n f := by
  obtain ⟨D, h1, h2⟩ := h
  exact ⟨D, h1.kept hg hne, h2⟩
theorem MapF.alloc (h : MapF w M n f) (o : Obj) : MapF (w.alloc o) M n f := by
  obtain ⟨D, h1, h2⟩ := h
  exact ⟨D, h1.alloc o, h2⟩
theorem MapF.lt (h : MapF w M n f) : M < w.heap.size := by
  obtain ⟨D, h1, _⟩ := h
  exact h1.lt
theorem MapF.mono (h : MapF w M n f) {n' : Nat} (hn : n ≤ n') : MapF w M n' f := by
  obtain ⟨D, h1, h2⟩ := h
  exact ⟨D, h1.mono hn, h2⟩
theorem MapF.setCell (h : MapF w M n f) {a : Addr} (ha : M ≠ a.block) (u : Value) : MapF (w.setCell a u) M n f := by
  obtain ⟨D, h1, h2⟩ := h
  exact ⟨D, h1.setCell ha u, h2⟩
theorem MapF.below {B : Nat} (h : MapF w M n f) (hb : Below B w w') (hM : M < B) : MapF w' M n f := by
  obtain ⟨D, ⟨es, clock, hb1, h3⟩, h2⟩ := h
  exact ⟨D, ⟨es, clock, (hb.block M hM).trans hb1, h3⟩, h2⟩
theorem zero64 (w : World) : (zeroValue 2).run Try.prog w = .ok (.int .i64 0) w := by kernel_rfl
theorem MapF.look_ok (h : MapF w M n f) {r : Rw} (hr : r.Wf) :
    (Instr.lookup 96 (.map (some M)) (rwV r) true).run Try.prog w = .ok (.tuple #[.int .i64 ((f r).getD 0), .bool (f r).isSome]) w := by
  obtain ⟨D, h1, h2⟩ := h
  obtain ⟨v, ps, hrun, hv⟩ := h1.look_ok lawR Try.underlying96 (zero64 w) (plainElem_int Try.underlying2 (by decide)) (key_rw hr)
  obtain ⟨c, rfl, hc, _⟩ := plainElem_int_inv Try.underlying2 hv
  rw [hrun, (h2 r hr).1]
  have hc := congrArg Prod.fst hc
  simp only [(h2 r hr).2] at hc
  injection hc with hc
  injection hc with _ hc
  rw [hc]
theorem MapF.look (h : MapF w M n f) {r : Rw} (hr : r.Wf) :
    (Instr.lookup 96 (.map (some M)) (rwV r) false).run Try.prog w = .ok (.int .i64 ((f r).getD 0)) w := by
  obtain ⟨D, h1, h2⟩ := h
  obtain ⟨c, hrun, hat, _⟩ := h1.lookup_int lawR Try.underlying96 Try.underlying2 (zero64 w) (key_rw hr)
  rw [(h2 r hr).2] at hat
  injection hat with hat
  injection hat with _ hat
  rw [hat]
  exact hrun
theorem MapF.upd (h : MapF w M n f) {r : Rw} (hr : r.Wf) (hn : n < maxLen) {v : Int} (hv : (Lit.int .i64 v).wf = true) :
    ∃ w', (Instr.mapUpdate 96 (.map (some M)) (rwV r) (.int .i64 v)).run Try.prog w = .ok () w' ∧ MapF w' M (n + 1) (fun x => if x = r then some v else f x) ∧ w.grownBy w' (some M) := by
  obtain ⟨D, h1, h2⟩ := h
  obtain ⟨w', hrun, h3, h4⟩ := h1.update lawR Try.underlying96 hn (key_rw hr) (plainElem_int Try.underlying2 hv)
  refine ⟨w', hrun, ⟨_, h3, fun x hx => ?_⟩, h4⟩
  dsimp only
  by_cases he : x = r
  · subst he
    rw [if_pos rfl, atKey_put_same h1.isMap (show Go.WideAt.IsKeyLit (rwK x) from trivial), has_put_same h1.isMap (show Go.WideAt.IsKeyLit (rwK x) from trivial)]
    exact ⟨rfl, rfl⟩
  · have hne : rwK x ≠ rwK r := fun e => he (rwK_inj hx hr e)
    rw [if_neg he, atKey_put_other hne, has_put_other hne]
    exact h2 x hx
theorem look_none (w : World) {r : Rw} (hr : r.Wf) :
    (Instr.lookup 96 (.map none) (rwV r) true).run Try.prog w = .ok (.tuple #[.int .i64 0, .bool false]) w := by
  have := Maps.look_nil (w := w) true lawR Try.underlying96 (zero64 w) (key_rw hr)
  exact this
end
end Go.Proofs.Ytfkaggdjhopjpaa
