/- Plain: ten of the sums of the bodies of KnownLately. -/
import Derived.Test.YtemfecdpjegocaaKnownLateBase
namespace Go.Proofs.Ytemfecdpjegocaa

theorem late_at_0 : four (lateT 0) = 3125268601 := by decide +kernel
theorem late_at_1 : four (lateT 1) = 280908316 := by decide +kernel
theorem late_at_2 : four (lateT 2) = 226659506 := by decide +kernel
theorem late_at_3 : four (lateT 3) = 3755196227 := by decide +kernel
theorem late_at_4 : four (lateT 4) = 864451110 := by decide +kernel
theorem late_at_5 : four (lateT 5) = 901249727 := by decide +kernel
theorem late_at_6 : four (lateT 6) = 4070923971 := by decide +kernel
theorem late_at_7 : four (lateT 7) = 1077310150 := by decide +kernel
theorem late_at_8 : four (lateT 8) = 2130426794 := by decide +kernel
theorem late_at_9 : four (lateT 9) = 407899184 := by decide +kernel
theorem late_0 (i : Nat) (h1 : 0 ≤ i) (h2 : i < 10) : four (lateT i) = ([3125268601, 280908316, 226659506, 3755196227, 864451110, 901249727, 4070923971, 1077310150, 2130426794, 407899184] : List Nat).getD (i - 0) 0 := by
  have h : i = 0 ∨ i = 1 ∨ i = 2 ∨ i = 3 ∨ i = 4 ∨ i = 5 ∨ i = 6 ∨ i = 7 ∨ i = 8 ∨ i = 9 := by omega
  rcases h with rfl | rfl | rfl | rfl | rfl | rfl | rfl | rfl | rfl | rfl
  · exact late_at_0.trans (by decide)
  · exact late_at_1.trans (by decide)
  · exact late_at_2.trans (by decide)
  · exact late_at_3.trans (by decide)
  · exact late_at_4.trans (by decide)
  · exact late_at_5.trans (by decide)
  · exact late_at_6.trans (by decide)
  · exact late_at_7.trans (by decide)
  · exact late_at_8.trans (by decide)
  · exact late_at_9.trans (by decide)
end Go.Proofs.Ytemfecdpjegocaa
