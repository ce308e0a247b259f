/- Plain: ten of the sums of the bodies of KnownLately. -/
import Derived.Test.YtemfecdpjegocaaKnownLateBase
namespace Go.Proofs.Ytemfecdpjegocaa

theorem late_at_20 : four (lateT 20) = 431513387 := by decide +kernel
theorem late_at_21 : four (lateT 21) = 1516961534 := by decide +kernel
theorem late_at_22 : four (lateT 22) = 449657214 := by decide +kernel
theorem late_at_23 : four (lateT 23) = 226831229 := by decide +kernel
theorem late_at_24 : four (lateT 24) = 1957952742 := by decide +kernel
theorem late_at_25 : four (lateT 25) = 578521429 := by decide +kernel
theorem late_at_26 : four (lateT 26) = 3143567963 := by decide +kernel
theorem late_at_27 : four (lateT 27) = 661105972 := by decide +kernel
theorem late_at_28 : four (lateT 28) = 2125191461 := by decide +kernel
theorem late_at_29 : four (lateT 29) = 2295900204 := by decide +kernel
theorem late_20 (i : Nat) (h1 : 20 ≤ i) (h2 : i < 30) : four (lateT i) = ([431513387, 1516961534, 449657214, 226831229, 1957952742, 578521429, 3143567963, 661105972, 2125191461, 2295900204] : List Nat).getD (i - 20) 0 := by
  have h : i = 20 ∨ i = 21 ∨ i = 22 ∨ i = 23 ∨ i = 24 ∨ i = 25 ∨ i = 26 ∨ i = 27 ∨ i = 28 ∨ i = 29 := by omega
  rcases h with rfl | rfl | rfl | rfl | rfl | rfl | rfl | rfl | rfl | rfl
  · exact late_at_20.trans (by decide)
  · exact late_at_21.trans (by decide)
  · exact late_at_22.trans (by decide)
  · exact late_at_23.trans (by decide)
  · exact late_at_24.trans (by decide)
  · exact late_at_25.trans (by decide)
  · exact late_at_26.trans (by decide)
  · exact late_at_27.trans (by decide)
  · exact late_at_28.trans (by decide)
  · exact late_at_29.trans (by decide)
end Go.Proofs.Ytemfecdpjegocaa
