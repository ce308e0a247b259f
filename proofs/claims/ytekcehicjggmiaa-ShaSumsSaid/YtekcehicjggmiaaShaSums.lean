/- The walk of ShaSums. -/
import Derived.Test.YtekcehicjggmiaaShaAlive
import Derived.Test.YtekcehicjggmiaaShaDocSum
namespace Go.Proofs.Ytekcehicjggmiaa
open Go.RowKit Go.Shelf
set_option linter.unusedVariables false

set_option maxRecDepth 100000 in
theorem sha_sums_far (s : ByteArray) (w : World) (h0 : s.size ≤ maxLen) (h : 700 < s.size) : Calls Try.prog 3 #[.string s] w fun e w' => e = .returned (.bool true) ∧ Below w.heap.size w w' := by
  unfold maxLen at h0
  have h1 : decide (700 < (s.size : Int)) = true := by simp; omega
  clear h
  go_enter Try.func3, Try.ntmps3
  go_wp2_with fail
  refine (sha_alive _).mono ?_
  rintro e w1 ⟨rfl, hb1⟩
  go_wp2_with fail
  go_returns
  exact ⟨rfl, hb1⟩

set_option maxRecDepth 100000 in
theorem sha_sums_near (s : ByteArray) (w : World) (h : s.size ≤ 700) : Calls Try.prog 3 #[.string s] w fun e w' => e = .returned (.bool true) ∧ Below w.heap.size w w' := by
  have c1 := fun w => sha_sum s w (by omega)
  have c2 := fun w => ref_key w
  have c3 := fun w => ref_sum s w (by omega)
  generalize (⟨(sumN s.data.toList).toArray⟩ : ByteArray) = T at *
  generalize kA keyN = KA at *
  have C1 := Lib.hid c1
  have C2 := Lib.hid c2
  have C3 := Lib.hid c3
  clear c1 c2 c3
  have h1 : decide (700 < (s.size : Int)) = false := by simp; omega
  go_enter Try.func3, Try.ntmps3
  go_wp2_with fail
  refine (sha_alive _).mono ?_
  rintro e w1 ⟨rfl, hb1⟩
  go_wp2_with fail
  refine (C1.out _).mono ?_
  rintro e w2 ⟨rfl, hb2⟩
  go_wp2_with fail
  refine (C2.out _).mono ?_
  rintro e w3 ⟨rfl, hb3⟩
  go_wp2_with fail
  refine (C3.out _).mono ?_
  rintro e w4 ⟨rfl, hb4⟩
  go_wp2_with fail
  go_returns
  exact ⟨rfl, hb1.trans ((hb2.trans ((hb3.trans (hb4.mono hb3.size)).mono hb2.size)).mono hb1.size)⟩

theorem sha_sums (s : ByteArray) (w : World) (h0 : s.size ≤ maxLen) : Calls Try.prog 3 #[.string s] w fun e w' => e = .returned (.bool true) ∧ Below w.heap.size w w' := by
  by_cases h : 700 < s.size
  · exact sha_sums_far s w h0 h
  · exact sha_sums_near s w (by omega)
end Go.Proofs.Ytekcehicjggmiaa
