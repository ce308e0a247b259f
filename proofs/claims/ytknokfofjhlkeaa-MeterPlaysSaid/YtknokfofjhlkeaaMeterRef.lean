/- The document's meter. -/
import Derived.Test.YtknokfofjhlkeaaMeterCalls
namespace Go.Proofs.Ytknokfofjhlkeaa
open Go.RowKit
set_option linter.unusedVariables false

def MS.agg (m : MS) : Value := .agg m.cs

set_option maxRecDepth 100000 in
theorem ref_meter_new (n : Int) (w : World) :
    Calls Try.prog 33 #[.int .i64 n] w fun e w' => e = .returned (MS.new n).agg ∧ Below w.heap.size w w' := by
  by_cases h : n < 0
  · have e : MS.new n = ⟨0, 0, 0, 0⟩ := by unfold MS.new; rw [if_pos h]
    rw [e]
    clear e
    go_enter Try.func33, Try.ntmps33
    go_wp2
    go_returns
    exact ⟨rfl, by go_grown⟩
  · have e : MS.new n = ⟨n, 0, 0, 0⟩ := by unfold MS.new; rw [if_neg h]
    rw [e]
    clear e
    go_enter Try.func33, Try.ntmps33
    go_wp2
    go_returns
    exact ⟨rfl, by go_grown⟩

set_option maxRecDepth 100000 in
theorem ref_meter_clear (m : MS) (w : World) :
    Calls Try.prog 36 #[m.agg] w fun e w' => e = .returned m.clear.agg ∧ Below w.heap.size w w' := by
  obtain ⟨mo, us, ta, to⟩ := m
  show Calls Try.prog 36 #[.agg #[.int .i64 mo, .int .i64 us, .int .i64 ta, .int .i64 to]] w _
  go_enter Try.func36, Try.ntmps36
  go_wp2
  go_returns
  exact ⟨rfl, by go_grown⟩

set_option maxRecDepth 100000 in
set_option maxHeartbeats 400000 in
theorem ref_meter_give (m : MS) (n : Int) (w : World) (hm : m.Ok) :
    Calls Try.prog 34 #[m.agg, .int .i64 n] w fun e w' => e = .returned (.tuple #[(m.give n).1.agg, .int .i64 (m.give n).2]) ∧ Below w.heap.size w w' := by
  obtain ⟨mo, us, ta, to⟩ := m
  obtain ⟨a, b', c, d, e', f⟩ := hm
  simp only at a b' c d e' f
  show Calls Try.prog 34 #[.agg #[.int .i64 mo, .int .i64 us, .int .i64 ta, .int .i64 to], .int .i64 n] w _
  by_cases hn : n < 0
  · have e : MS.give ⟨mo, us, ta, to⟩ n = (⟨mo, us, ta, to⟩, 1) := if_pos hn
    rw [e]
    clear e
    go_enter Try.func34, Try.ntmps34
    go_wp2
    go_returns
    exact ⟨rfl, by go_grown⟩
  · have hn' : decide (n < 0) = false := by simpa using hn
    by_cases h1 : us < n
    · have e : MS.give ⟨mo, us, ta, to⟩ n = (⟨mo, us, ta, to⟩, 1) := by unfold MS.give; rw [if_neg hn, if_pos h1]
      rw [e]
      clear e
      go_enter Try.func34, Try.ntmps34
      go_wp2
      go_returns
      exact ⟨rfl, by go_grown⟩
    · have e : MS.give ⟨mo, us, ta, to⟩ n = (⟨mo, us - n, ta, to⟩, 0) := by unfold MS.give maxI; rw [if_neg hn, if_neg h1]; simp only []; rw [if_neg (by omega)]
      rw [e]
      have h1' : decide (us < n) = false := by simpa using h1
      clear e
      go_enter Try.func34, Try.ntmps34
      go_wp2
      go_returns
      exact ⟨rfl, by go_grown⟩

set_option maxRecDepth 100000 in
set_option maxHeartbeats 800000 in
theorem ref_meter_take (m : MS) (n : Int) (w : World) (hm : m.Ok) (hn64 : n ≤ 9223372036854775807) :
    Calls Try.prog 37 #[m.agg, .int .i64 n] w fun e w' => e = .returned (.tuple #[(m.take n).1.agg, .int .i64 (m.take n).2]) ∧ Below w.heap.size w w' := by
  obtain ⟨mo, us, ta, to⟩ := m
  obtain ⟨a, b', c, d, e', f⟩ := hm
  simp only at a b' c d e' f
  show Calls Try.prog 37 #[.agg #[.int .i64 mo, .int .i64 us, .int .i64 ta, .int .i64 to], .int .i64 n] w _
  by_cases hn : n < 0
  · have e : MS.take ⟨mo, us, ta, to⟩ n = (⟨mo, us, ta, to⟩, 1) := if_pos hn
    rw [e]
    clear e
    go_enter Try.func37, Try.ntmps37
    go_wp2
    go_returns
    exact ⟨rfl, by go_grown⟩
  · have hn' : decide (n < 0) = false := by simpa using hn
    have hn0 : 0 ≤ n := by omega
    by_cases h1 : mo < us + n
    · have e : MS.take ⟨mo, us, ta, to⟩ n = (⟨mo, us, ta, to⟩, 5) := by unfold MS.take; rw [if_neg hn, if_pos (.inl (by simp only []; omega))]
      rw [e]
      clear e
      go_enter Try.func37, Try.ntmps37
      go_wp2
      go_returns
      exact ⟨rfl, by go_grown⟩
    · have h1' : decide (mo < us + n) = false := by simpa using h1
      by_cases h2 : 9223372036854775807 < ta + n
      · have e : MS.take ⟨mo, us, ta, to⟩ n = (⟨mo, us, ta, to⟩, 5) := by unfold MS.take; rw [if_neg hn, if_pos (.inr (by simp only []; omega))]
        rw [e]
        clear e
        go_enter Try.func37, Try.ntmps37
        go_wp2
        go_returns
        exact ⟨rfl, by go_grown⟩
      · have h2' : decide (9223372036854775807 < ta + n) = false := by simpa using h2
        have e : MS.take ⟨mo, us, ta, to⟩ n = (⟨mo, us + n, ta + n, maxI to (us + n)⟩, 0) := by unfold MS.take; rw [if_neg hn, if_neg (by simp only []; omega)]
        by_cases h3 : to < us + n
        · rw [e]
          have e3 : maxI to (us + n) = us + n := if_pos h3
          rw [e3]
          clear e e3
          go_enter Try.func37, Try.ntmps37
          go_wp2
          go_returns
          exact ⟨rfl, by go_grown⟩
        · rw [e]
          have e3 : maxI to (us + n) = to := if_neg h3
          rw [e3]
          have h3' : decide (to < us + n) = false := by simpa using h3
          clear e e3
          go_enter Try.func37, Try.ntmps37
          go_wp2
          go_returns
          exact ⟨rfl, by go_grown⟩
end Go.Proofs.Ytknokfofjhlkeaa
