/- The listed table of the sizes, out of the row's condition. -/
import Derived.Test.YtopfpfpefljkkaaDoorRows
import Derived.Test.YtopfpfpefljkkaaDoorTypeKind
import Derived.LaidMore
import Derived.Stop.Joined
import Derived.Lib.LaidTab
namespace Go.Proofs.YtopfpfpefljkkaaDoor
open Go.RowKit
set_option linter.unusedVariables false

theorem gTab : Tryd.prog.globalNamed "hatchway/schema.uintSizes" = some 0 := by kernel_rfl
theorem gTabType : (Tryd.prog.globals[0]?).map (·.type) = some 71 := by kernel_rfl
theorem gTabCells : Tryd.prog.cellsOf 71 = 4 := by kernel_rfl
theorem intCells : Tryd.prog.cellsOf 3 = 1 := by kernel_rfl
theorem tabU_of_laid {W : World} (h : laidMetH Tryd.prog [("hatchway/schema.uintSizes", Rows.laid_hatchway_schema_uintSizes)] W) : TabU W := by
  rw [MakeChecks.laidMetH_plain _ _ _ (by kernel_rfl)] at h
  have hT := Lib.tabIs_of_head (k := .i64) (zs := [1, 2, 4, 8]) gTab gTabType Tryd.underlying71 Tryd.underlying3 intCells gTabCells h
  intro i hi
  have hc := hT.cell gTab i (by simpa using hi)
  rw [hc]
  have : i = 0 ∨ i = 1 ∨ i = 2 ∨ i = 3 := by omega
  rcases this with rfl | rfl | rfl | rfl <;> rfl
end Go.Proofs.YtopfpfpefljkkaaDoor
