/- Plain: ten of the sums of the bodies of KnownLately. -/
import Derived.Test.YtemfecdpjegocaaKnownLateBase
namespace Go.Proofs.Ytemfecdpjegocaa

theorem late_at_40 : four (lateT 40) = 1086143928 := by decide +kernel
theorem late_at_41 : four (lateT 41) = 3075704468 := by decide +kernel
theorem late_at_42 : four (lateT 42) = 1443693359 := by decide +kernel
theorem late_at_43 : four (lateT 43) = 2674703105 := by decide +kernel
theorem late_at_44 : four (lateT 44) = 2071098077 := by decide +kernel
theorem late_at_45 : four (lateT 45) = 391677488 := by decide +kernel
theorem late_at_46 : four (lateT 46) = 1349511834 := by decide +kernel
theorem late_at_47 : four (lateT 47) = 3779040052 := by decide +kernel
theorem late_at_48 : four (lateT 48) = 4288417062 := by decide +kernel
theorem late_at_49 : four (lateT 49) = 971867397 := by decide +kernel
theorem late_40 (i : Nat) (h1 : 40 ≤ i) (h2 : i < 50) : four (lateT i) = ([1086143928, 3075704468, 1443693359, 2674703105, 2071098077, 391677488, 1349511834, 3779040052, 4288417062, 971867397] : List Nat).getD (i - 40) 0 := by
  have h : i = 40 ∨ i = 41 ∨ i = 42 ∨ i = 43 ∨ i = 44 ∨ i = 45 ∨ i = 46 ∨ i = 47 ∨ i = 48 ∨ i = 49 := by omega
  rcases h with rfl | rfl | rfl | rfl | rfl | rfl | rfl | rfl | rfl | rfl
  · exact late_at_40.trans (by decide)
  · exact late_at_41.trans (by decide)
  · exact late_at_42.trans (by decide)
  · exact late_at_43.trans (by decide)
  · exact late_at_44.trans (by decide)
  · exact late_at_45.trans (by decide)
  · exact late_at_46.trans (by decide)
  · exact late_at_47.trans (by decide)
  · exact late_at_48.trans (by decide)
  · exact late_at_49.trans (by decide)
end Go.Proofs.Ytemfecdpjegocaa
