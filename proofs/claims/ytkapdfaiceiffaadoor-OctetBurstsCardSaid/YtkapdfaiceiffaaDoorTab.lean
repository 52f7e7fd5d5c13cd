/- The row's list gives the table. -/
import Derived.Test.YtkapdfaiceiffaaDoorRows
import Derived.Test.YtkapdfaiceiffaaDoorSum
import Derived.Lib.LaidTab
namespace Go.Proofs.YtkapdfaiceiffaaDoor
open Go.RowKit

theorem g_steps : Tryd.prog.globalNamed "stopcock/octet.steps" = some 0 := by kernel_rfl
theorem g_steps_type : (Tryd.prog.globals[0]?).map (·.type) = some 28 := by kernel_rfl
theorem cells_tab : Tryd.prog.cellsOf 28 = 16 := by kernel_rfl
theorem cells_u32 : Tryd.prog.cellsOf 23 = 1 := by kernel_rfl
theorem tab_laid {W : World} (h : laidMetH Tryd.prog [("stopcock/octet.steps", Rows.laid_stopcock_octet_steps)] W) : Tab W := by
  have ht : Lib.TabIs Tryd.prog W "stopcock/octet.steps" .u32 tab :=
    Lib.tabIs_of_head (rest := []) g_steps g_steps_type Tryd.underlying28 Tryd.underlying23 cells_u32 cells_tab h
  intro i hi
  have hl : i < tab.length := hi
  have := ht.cell g_steps i hl
  rw [this, List.getD_eq_getElem?_getD, List.getElem?_eq_getElem hl]
end Go.Proofs.YtkapdfaiceiffaaDoor
