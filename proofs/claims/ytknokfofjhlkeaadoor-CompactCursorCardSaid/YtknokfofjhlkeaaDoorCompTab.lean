/- The listed table, out of the row's condition. -/
import Derived.Test.YtknokfofjhlkeaaDoorComp
import Derived.LaidMore
import Derived.Stop.Joined
import Derived.Lib.LaidTab
namespace Go.Proofs.YtknokfofjhlkeaaDoor
open Go.RowKit
set_option linter.unusedVariables false

theorem gTab : Tryd.prog.globalNamed "hatchway/compact.behind" = some 0 := by kernel_rfl
theorem gTabType : (Tryd.prog.globals[0]?).map (·.type) = some 46 := by kernel_rfl
theorem gTabCells : Tryd.prog.cellsOf 46 = 3 := by kernel_rfl
theorem intCells : Tryd.prog.cellsOf 3 = 1 := by kernel_rfl
theorem tab_of_laid {W : World} (h : laidMetH Tryd.prog [("hatchway/compact.behind", Rows.laid_hatchway_compact_behind)] W) : Tab W := by
  rw [MakeChecks.laidMetH_plain _ _ _ (by kernel_rfl)] at h
  have hT := Lib.tabIs_of_head (k := .i64) (zs := [2, 4, 8]) gTab gTabType Tryd.underlying46 Tryd.underlying3 intCells gTabCells h
  exact ⟨hT.cell gTab 0 (by decide), hT.cell gTab 1 (by decide), hT.cell gTab 2 (by decide)⟩
end Go.Proofs.YtknokfofjhlkeaaDoor
