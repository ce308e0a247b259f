/- Plain: ten of the sums of the bodies of KnownLately. -/
import Derived.Test.YtemfecdpjegocaaKnownLateBase
namespace Go.Proofs.Ytemfecdpjegocaa

theorem late_at_70 : four (lateT 70) = 4276741222 := by decide +kernel
theorem late_at_71 : four (lateT 71) = 407148270 := by decide +kernel
theorem late_at_72 : four (lateT 72) = 2739045871 := by decide +kernel
theorem late_at_73 : four (lateT 73) = 3724488693 := by decide +kernel
theorem late_at_74 : four (lateT 74) = 1217388455 := by decide +kernel
theorem late_at_75 : four (lateT 75) = 41054203 := by decide +kernel
theorem late_at_76 : four (lateT 76) = 3194748216 := by decide +kernel
theorem late_at_77 : four (lateT 77) = 3480860107 := by decide +kernel
theorem late_at_78 : four (lateT 78) = 312184290 := by decide +kernel
theorem late_at_79 : four (lateT 79) = 235797896 := by decide +kernel
theorem late_70 (i : Nat) (h1 : 70 ≤ i) (h2 : i < 80) : four (lateT i) = ([4276741222, 407148270, 2739045871, 3724488693, 1217388455, 41054203, 3194748216, 3480860107, 312184290, 235797896] : List Nat).getD (i - 70) 0 := by
  have h : i = 70 ∨ i = 71 ∨ i = 72 ∨ i = 73 ∨ i = 74 ∨ i = 75 ∨ i = 76 ∨ i = 77 ∨ i = 78 ∨ i = 79 := by omega
  rcases h with rfl | rfl | rfl | rfl | rfl | rfl | rfl | rfl | rfl | rfl
  · exact late_at_70.trans (by decide)
  · exact late_at_71.trans (by decide)
  · exact late_at_72.trans (by decide)
  · exact late_at_73.trans (by decide)
  · exact late_at_74.trans (by decide)
  · exact late_at_75.trans (by decide)
  · exact late_at_76.trans (by decide)
  · exact late_at_77.trans (by decide)
  · exact late_at_78.trans (by decide)
  · exact late_at_79.trans (by decide)
end Go.Proofs.Ytemfecdpjegocaa
