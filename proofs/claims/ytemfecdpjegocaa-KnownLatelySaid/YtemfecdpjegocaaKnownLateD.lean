/- Plain: ten of the sums of the bodies of KnownLately. -/
import Derived.Test.YtemfecdpjegocaaKnownLateBase
namespace Go.Proofs.Ytemfecdpjegocaa

theorem late_at_30 : four (lateT 30) = 4030541211 := by decide +kernel
theorem late_at_31 : four (lateT 31) = 3561779639 := by decide +kernel
theorem late_at_32 : four (lateT 32) = 1277538799 := by decide +kernel
theorem late_at_33 : four (lateT 33) = 3874845422 := by decide +kernel
theorem late_at_34 : four (lateT 34) = 2711969164 := by decide +kernel
theorem late_at_35 : four (lateT 35) = 1912763248 := by decide +kernel
theorem late_at_36 : four (lateT 36) = 3775065173 := by decide +kernel
theorem late_at_37 : four (lateT 37) = 2627737169 := by decide +kernel
theorem late_at_38 : four (lateT 38) = 8762271 := by decide +kernel
theorem late_at_39 : four (lateT 39) = 1539767694 := by decide +kernel
theorem late_30 (i : Nat) (h1 : 30 ≤ i) (h2 : i < 40) : four (lateT i) = ([4030541211, 3561779639, 1277538799, 3874845422, 2711969164, 1912763248, 3775065173, 2627737169, 8762271, 1539767694] : List Nat).getD (i - 30) 0 := by
  have h : i = 30 ∨ i = 31 ∨ i = 32 ∨ i = 33 ∨ i = 34 ∨ i = 35 ∨ i = 36 ∨ i = 37 ∨ i = 38 ∨ i = 39 := by omega
  rcases h with rfl | rfl | rfl | rfl | rfl | rfl | rfl | rfl | rfl | rfl
  · exact late_at_30.trans (by decide)
  · exact late_at_31.trans (by decide)
  · exact late_at_32.trans (by decide)
  · exact late_at_33.trans (by decide)
  · exact late_at_34.trans (by decide)
  · exact late_at_35.trans (by decide)
  · exact late_at_36.trans (by decide)
  · exact late_at_37.trans (by decide)
  · exact late_at_38.trans (by decide)
  · exact late_at_39.trans (by decide)
end Go.Proofs.Ytemfecdpjegocaa
