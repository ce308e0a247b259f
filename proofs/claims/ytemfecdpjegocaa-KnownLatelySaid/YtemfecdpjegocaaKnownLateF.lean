/- Plain: ten of the sums of the bodies of KnownLately. -/
import Derived.Test.YtemfecdpjegocaaKnownLateBase
namespace Go.Proofs.Ytemfecdpjegocaa

theorem late_at_50 : four (lateT 50) = 1556240735 := by decide +kernel
theorem late_at_51 : four (lateT 51) = 2768025029 := by decide +kernel
theorem late_at_52 : four (lateT 52) = 993282322 := by decide +kernel
theorem late_at_53 : four (lateT 53) = 2638900256 := by decide +kernel
theorem late_at_54 : four (lateT 54) = 2501893059 := by decide +kernel
theorem late_at_55 : four (lateT 55) = 2031713917 := by decide +kernel
theorem late_at_56 : four (lateT 56) = 2389436509 := by decide +kernel
theorem late_at_57 : four (lateT 57) = 11623731 := by decide +kernel
theorem late_at_58 : four (lateT 58) = 2160571572 := by decide +kernel
theorem late_at_59 : four (lateT 59) = 2891599910 := by decide +kernel
theorem late_50 (i : Nat) (h1 : 50 ≤ i) (h2 : i < 60) : four (lateT i) = ([1556240735, 2768025029, 993282322, 2638900256, 2501893059, 2031713917, 2389436509, 11623731, 2160571572, 2891599910] : List Nat).getD (i - 50) 0 := by
  have h : i = 50 ∨ i = 51 ∨ i = 52 ∨ i = 53 ∨ i = 54 ∨ i = 55 ∨ i = 56 ∨ i = 57 ∨ i = 58 ∨ i = 59 := by omega
  rcases h with rfl | rfl | rfl | rfl | rfl | rfl | rfl | rfl | rfl | rfl
  · exact late_at_50.trans (by decide)
  · exact late_at_51.trans (by decide)
  · exact late_at_52.trans (by decide)
  · exact late_at_53.trans (by decide)
  · exact late_at_54.trans (by decide)
  · exact late_at_55.trans (by decide)
  · exact late_at_56.trans (by decide)
  · exact late_at_57.trans (by decide)
  · exact late_at_58.trans (by decide)
  · exact late_at_59.trans (by decide)
end Go.Proofs.Ytemfecdpjegocaa
