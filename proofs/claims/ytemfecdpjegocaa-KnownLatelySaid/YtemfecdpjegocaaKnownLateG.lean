/- Plain: ten of the sums of the bodies of KnownLately. -/
import Derived.Test.YtemfecdpjegocaaKnownLateBase
namespace Go.Proofs.Ytemfecdpjegocaa

theorem late_at_60 : four (lateT 60) = 2728704015 := by decide +kernel
theorem late_at_61 : four (lateT 61) = 206354368 := by decide +kernel
theorem late_at_62 : four (lateT 62) = 2292492117 := by decide +kernel
theorem late_at_63 : four (lateT 63) = 2513094661 := by decide +kernel
theorem late_at_64 : four (lateT 64) = 56472927 := by decide +kernel
theorem late_at_65 : four (lateT 65) = 1746738036 := by decide +kernel
theorem late_at_66 : four (lateT 66) = 3183791115 := by decide +kernel
theorem late_at_67 : four (lateT 67) = 133754706 := by decide +kernel
theorem late_at_68 : four (lateT 68) = 1497096963 := by decide +kernel
theorem late_at_69 : four (lateT 69) = 1151435643 := by decide +kernel
theorem late_60 (i : Nat) (h1 : 60 ≤ i) (h2 : i < 70) : four (lateT i) = ([2728704015, 206354368, 2292492117, 2513094661, 56472927, 1746738036, 3183791115, 133754706, 1497096963, 1151435643] : List Nat).getD (i - 60) 0 := by
  have h : i = 60 ∨ i = 61 ∨ i = 62 ∨ i = 63 ∨ i = 64 ∨ i = 65 ∨ i = 66 ∨ i = 67 ∨ i = 68 ∨ i = 69 := by omega
  rcases h with rfl | rfl | rfl | rfl | rfl | rfl | rfl | rfl | rfl | rfl
  · exact late_at_60.trans (by decide)
  · exact late_at_61.trans (by decide)
  · exact late_at_62.trans (by decide)
  · exact late_at_63.trans (by decide)
  · exact late_at_64.trans (by decide)
  · exact late_at_65.trans (by decide)
  · exact late_at_66.trans (by decide)
  · exact late_at_67.trans (by decide)
  · exact late_at_68.trans (by decide)
  · exact late_at_69.trans (by decide)
end Go.Proofs.Ytemfecdpjegocaa
