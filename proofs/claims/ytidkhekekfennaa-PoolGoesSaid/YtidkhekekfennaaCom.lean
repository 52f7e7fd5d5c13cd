/- What the program says of int; a block's cell set; a function's result that lies in a cell. -/
import Derived.Test.YtidkhekekfennaaProg
import Derived.Test.YtidkhekekfennaaWd
namespace Go.Proofs.Ytidkhekekfennaa
set_option maxRecDepth 100000
open Go.RowKit

theorem info_int : (Try.prog.info? 3).map (fun i => (i.zero, i.size, i.bytes)) = some (some (.int .i64 0), 1, 8) := by kernel_rfl
theorem Blk.setL {w : World} {g : Nat} {T : TypeId} {l : List Value} (h : Blk w g T l.toArray) (i : Nat) (u : Value) : Blk (w.setCell ⟨g, i, none⟩ u) g T (l.set i u).toArray := by
  have := h.set_ i u
  rwa [List.setIfInBounds_toArray] at this
theorem results_cell1 {fn : Func} {t : Tmp} {ty : TypeId} (h : fn.results = #[.cell t ty]) {tmps : Array Value} {P : Program} {w : World} {a : Addr} {v : Value} (ha : tmps.getD t undef = .pointer (some a)) (hl : (loadVar ty a).run P w = .ok v w) :
    (results fn tmps).run P w = .ok v w := by
  have ha2 : tmps[t]?.getD undef = .pointer (some a) := by simpa using ha
  have e : (asAddr (.pointer (some a))).run P w = .ok a w := rfl
  simp [results, h, ha2, e, hl]
theorem results_cell {fn : Func} {t u : Tmp} {ty : TypeId} (h : fn.results = #[.cell t ty, .tmp u]) {tmps : Array Value} {P : Program} {w : World} {a : Addr} {v : Value} (ha : tmps.getD t undef = .pointer (some a)) (hl : (loadVar ty a).run P w = .ok v w) :
    (results fn tmps).run P w = .ok (.tuple #[v, tmps.getD u undef]) w := by
  have ha2 : tmps[t]?.getD undef = .pointer (some a) := by simpa using ha
  have e : (asAddr (.pointer (some a))).run P w = .ok a w := rfl
  simp [results, h, ha2, e, hl]
theorem results_cell2 {fn : Func} {t u : Tmp} {ty : TypeId} (h : fn.results = #[.cell t ty, .tmp u]) {tmps : Array Value} {P : Program} {w : World} {a : Addr} {v : Value} (ha : tmps.getD t undef = .pointer (some a)) (hl : (loadVar ty a).run P w = .ok v w) :
    (results fn tmps).run P w = .ok (.tuple #[v, tmps.getD u undef]) w := results_cell h ha hl
end Go.Proofs.Ytidkhekekfennaa
