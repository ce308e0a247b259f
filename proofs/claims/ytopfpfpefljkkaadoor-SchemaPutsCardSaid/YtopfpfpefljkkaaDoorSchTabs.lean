/- The listed tables (the sizes, the powers of ten), out of the row's condition. -/
import Derived.Test.YtopfpfpefljkkaaDoorRows
import Derived.Test.YtopfpfpefljkkaaDoorTypeKind
import Derived.Test.YtopfpfpefljkkaaDoorWrite
import Derived.LaidMore
import Derived.Stop.Joined
import Derived.Lib.LaidTab
namespace Go.Proofs.YtopfpfpefljkkaaDoor
open Go.RowKit
set_option linter.unusedVariables false

/-- A table that stands anywhere on the list. -/
theorem tab_of_vars {P : Program} {W : World} {name : String} {k : IntKind} {zs : List Int} {g : Nat} {t e : TypeId} {n : Nat}
    (hg : P.globalNamed name = some g) (hty : (P.globals[g]?).map (·.type) = some t) (ht : P.underlying t = some (.array n e)) (he : P.underlying e = some (.int k)) (hce : P.cellsOf e = 1) (hct : P.cellsOf t = n) :
    ∀ {l : List (String × DataW Unit)} {ps : List MemPlace}, DataW.LaidVars P W l ps → (name, Lib.tabData k zs) ∈ l → Lib.TabIs P W name k zs
  | [], _, _, h => by cases h
  | (m, d) :: l, ps, hl, h => by
    obtain ⟨g', t', cs, fuel, p, q, hg', ht', hvar, hd, hr, _⟩ := hl
    rcases List.mem_cons.1 h with h | h
    · obtain ⟨rfl, rfl⟩ := Prod.mk.inj h
      obtain rfl := Option.some.inj (hg.symm.trans hg')
      obtain rfl := Option.some.inj (hty.symm.trans ht')
      unfold Lib.TabIs
      rw [hvar, ← Lib.cells_of_tab ht he hce hct hd]
    · exact tab_of_vars hg hty ht he hce hct hr h

theorem gTab2 : Tryd.prog.globalNamed "hatchway/schema.uintSizes" = some 0 := by kernel_rfl
theorem gTab2Type : (Tryd.prog.globals[0]?).map (·.type) = some 71 := by kernel_rfl
theorem gTab2Cells : Tryd.prog.cellsOf 71 = 4 := by kernel_rfl
theorem intCells2 : Tryd.prog.cellsOf 3 = 1 := by kernel_rfl
theorem gPow : Tryd.prog.globalNamed "internal/strconv.uint64pow10" = some 1 := by kernel_rfl
theorem gPowType : (Tryd.prog.globals[1]?).map (·.type) = some 80 := by kernel_rfl
theorem gPowCells : Tryd.prog.cellsOf 80 = 20 := by kernel_rfl
theorem uint64Cells : Tryd.prog.cellsOf 73 = 1 := by kernel_rfl
theorem tabs_of_laid {W : World} (h : laidMetH Tryd.prog [("math/bits.deBruijn32tab", Rows.laid_math_bits_deBruijn32tab), ("math/bits.deBruijn64tab", Rows.laid_math_bits_deBruijn64tab), ("internal/strconv.uint64pow10", Rows.laid_internal_strconv_uint64pow10), ("hatchway/schema.uintSizes", Rows.laid_hatchway_schema_uintSizes)] W) : TabU W ∧ TabS W := by
  rw [MakeChecks.laidMetH_plain _ _ _ (by kernel_rfl)] at h
  obtain ⟨ps, hv, _⟩ := h
  have e1 : (Rows.laid_hatchway_schema_uintSizes : DataW Unit) = Lib.tabData .i64 [1, 2, 4, 8] := rfl
  have e2 : (Rows.laid_internal_strconv_uint64pow10 : DataW Unit) = Lib.tabData .u64 Lib.pow10Tab := rfl
  have hT := tab_of_vars (zs := [1, 2, 4, 8]) gTab2 gTab2Type Tryd.underlying71 Tryd.underlying3 intCells2 gTab2Cells hv (by rw [← e1]; simp)
  have hP := tab_of_vars (zs := Lib.pow10Tab) gPow gPowType Tryd.underlying80 Tryd.underlying73 uint64Cells gPowCells hv (by rw [← e2]; simp)
  refine ⟨?_, hP⟩
  intro i hi
  have hc := hT.cell gTab2 i (by simpa using hi)
  rw [hc]
  have : i = 0 ∨ i = 1 ∨ i = 2 ∨ i = 3 := by omega
  rcases this with rfl | rfl | rfl | rfl <;> rfl
end Go.Proofs.YtopfpfpefljkkaaDoor
