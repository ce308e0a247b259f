/- Plain: ten of the sums of the bodies of KnownLately. -/
import Derived.Test.YtemfecdpjegocaaKnownLateBase
namespace Go.Proofs.Ytemfecdpjegocaa

theorem late_at_10 : four (lateT 10) = 3592130009 := by decide +kernel
theorem late_at_11 : four (lateT 11) = 2823416956 := by decide +kernel
theorem late_at_12 : four (lateT 12) = 2147897222 := by decide +kernel
theorem late_at_13 : four (lateT 13) = 1241578500 := by decide +kernel
theorem late_at_14 : four (lateT 14) = 680306180 := by decide +kernel
theorem late_at_15 : four (lateT 15) = 2753924459 := by decide +kernel
theorem late_at_16 : four (lateT 16) = 2997087119 := by decide +kernel
theorem late_at_17 : four (lateT 17) = 1075931128 := by decide +kernel
theorem late_at_18 : four (lateT 18) = 2600876729 := by decide +kernel
theorem late_at_19 : four (lateT 19) = 3502970154 := by decide +kernel
theorem late_10 (i : Nat) (h1 : 10 ≤ i) (h2 : i < 20) : four (lateT i) = ([3592130009, 2823416956, 2147897222, 1241578500, 680306180, 2753924459, 2997087119, 1075931128, 2600876729, 3502970154] : List Nat).getD (i - 10) 0 := by
  have h : i = 10 ∨ i = 11 ∨ i = 12 ∨ i = 13 ∨ i = 14 ∨ i = 15 ∨ i = 16 ∨ i = 17 ∨ i = 18 ∨ i = 19 := by omega
  rcases h with rfl | rfl | rfl | rfl | rfl | rfl | rfl | rfl | rfl | rfl
  · exact late_at_10.trans (by decide)
  · exact late_at_11.trans (by decide)
  · exact late_at_12.trans (by decide)
  · exact late_at_13.trans (by decide)
  · exact late_at_14.trans (by decide)
  · exact late_at_15.trans (by decide)
  · exact late_at_16.trans (by decide)
  · exact late_at_17.trans (by decide)
  · exact late_at_18.trans (by decide)
  · exact late_at_19.trans (by decide)
end Go.Proofs.Ytemfecdpjegocaa
