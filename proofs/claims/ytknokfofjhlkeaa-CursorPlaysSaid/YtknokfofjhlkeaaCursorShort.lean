/- The walk of CursorShort. -/
import Derived.Test.YtknokfofjhlkeaaCursorWhole
import Derived.Deep.RegionWith
namespace Go.Proofs.Ytknokfofjhlkeaa
open Go.RowKit
set_option linter.unusedVariables false

theorem take_bad {s : ByteArray} {p : Nat} {f n : Int} (h : f ≠ 0) : RS.take ⟨s, p, f⟩ n = (⟨s, p, f⟩, nostr) := by unfold RS.take; rw [if_neg h]
theorem byte_bad {s : ByteArray} {p : Nat} {f : Int} (h : f ≠ 0) : RS.byte ⟨s, p, f⟩ = (⟨s, p, f⟩, 0) := by unfold RS.byte; rw [if_neg h]
theorem take_neg' {s : ByteArray} {p : Nat} {n : Int} (h : n < 0) : RS.take ⟨s, p, 0⟩ n = (⟨s, p, 1⟩, nostr) := by unfold RS.take; rw [if_pos rfl, if_pos h]
theorem take_over' {s : ByteArray} {p : Nat} {n : Int} (h0 : ¬ n < 0) (h : (s.size : Int) - p < n) : RS.take ⟨s, p, 0⟩ n = (⟨s, p, 2⟩, nostr) := by unfold RS.take; rw [if_pos rfl, if_neg h0, if_pos h]

set_option maxRecDepth 100000 in
set_option maxHeartbeats 1000000 in
theorem cursor_short (s : ByteArray) (c n th : Int) (w : World) (hs : s.size ≤ maxLen) (hc : (Lit.int .u8 c).wf = true) (hn : (Lit.int .i64 n).wf = true) (hth : (Lit.int .i64 th).wf = true) :
    Calls Try.prog 8 #[.string s, .int .u8 c, .int .i64 n, .int .i64 th] w fun e w' => e = .returned (.bool true) ∧ Below w.heap.size w w' := by
  unfold maxLen at hs
  obtain ⟨hc0, hc1⟩ := u8w hc
  obtain ⟨hn0, hn1⟩ := i64w hn
  clear hc hn hth
  by_cases hl : 1000 < s.size
  · go_enter Try.func8, Try.ntmps8
    go_wp2_with fail
    refine (cursor_alive _).mono ?_
    rintro e w1 ⟨rfl, hb⟩
    go_wp2_with fail
    go_returns
    exact ⟨rfl, hb⟩
  obtain ⟨k, hk⟩ : ∃ k : Nat, (if (s.size : Int) < c then (s.size : Int) else c) = (k : Int) := ⟨(if (s.size : Int) < c then (s.size : Int) else c).toNat, by split <;> omega⟩
  have hks : k ≤ s.size := by split at hk <;> omega
  have e1 : RS.take (RS.of s) k = (⟨s, k, 0⟩, s.extract 0 k) := by
    have := take_in (s := s) (p := 0) (m := k) (by omega)
    simpa [RS.of] using this
  have o0 : (RS.of s).Ok := ⟨Nat.zero_le _, hs⟩
  have o1 : (RS.mk s k 0).Ok := ⟨hks, hs⟩
  have t1 := fun b w h => cursor_take b (RS.of s) k w o0 h
  rw [e1] at t1
  have T1 := Lib.hid t1
  clear t1 e1
  by_cases hin : 0 ≤ n ∧ n ≤ (s.size : Int) - k
  · obtain ⟨hi0, hi1⟩ := hin
    obtain ⟨m, rfl⟩ : ∃ m : Nat, n = m := ⟨n.toNat, by omega⟩
    have hkm : k + m ≤ s.size := by omega
    have g1 : decide ((0 : Int) ≤ (m : Int)) = true := by simp
    have t2 := fun b w h => cursor_take b ⟨s, k, 0⟩ m w o1 h
    rw [take_in hkm] at t2
    have T2 := Lib.hid t2
    have hsum : IntKind.i64.wrap ((k : Int) + m) = ((k + m : Nat) : Int) := by rw [IntWalk.i64_in _ ⟨by omega, by omega⟩]; omega
    clear t2
    go_enter Try.func8, Try.ntmps8
    go_wp2_with fail
    refine (cursor_alive _).mono ?_
    rintro e w1 ⟨rfl, hb⟩
    go_wp2_with fail
    refine (cursor_read _ _).mono ?_
    rintro e w2 ⟨rfl, hb2, hsz, hR⟩
    have hsz1 := hb.size
    have hB2 : Below w.heap.size w w2 := hb.trans (hb2.mono hb.size)
    have hw2 := hB2.size
    generalize w1.heap.size = br at *
    clear hb2 hb
    go_wp2_with fail
    clear hk
    refine (T1.out _ _ hR).mono ?_
    rintro e w3 ⟨rfl, u3, hI3⟩
    go_wp2_with fail
    have hI3' : IsR w3.drew br ⟨s, k, 0⟩ := hI3
    go_region_with ((first | (go_at_call 28; refine (T2.out _ _ hI3').mono ?_; rintro e w4 ⟨rfl, u4, hI4⟩) | (go_at_call 31; refine (cursor_fault br _ _ hI4).mono ?_; rintro e w' ⟨rfl, rfl⟩)))
    all_goals
      go_wp2_with fail
      go_returns
      exact ⟨rfl, (u3.drew.trans u4).below hB2 hsz1 hw2⟩
  by_cases hng : n < 0
  · have g0 : decide (0 ≤ n) = false := by simp; omega
    have t2 := fun b w h => cursor_take b ⟨s, k, 0⟩ n w o1 h
    have t3 := fun b w h => cursor_take b ⟨s, k, 1⟩ th w ⟨hks, hs⟩ h
    have t4 := fun b w h => cursor_all b ⟨s, k, 1⟩ w ⟨hks, hs⟩ h
    have t5 := fun b w h => cursor_byte b ⟨s, k, 1⟩ w ⟨hks, hs⟩ h
    rw [take_neg' hng] at t2
    rw [take_bad (by decide)] at t3
    simp only [take_bad (show (1 : Int) ≠ 0 by decide)] at t4
    rw [byte_bad (by decide)] at t5
    have T2 := Lib.hid t2
    have T3 := Lib.hid t3
    have T4 := Lib.hid t4
    have T5 := Lib.hid t5
    clear t2 t3 t4 t5
    go_enter Try.func8, Try.ntmps8
    go_wp2_with fail
    refine (cursor_alive _).mono ?_
    rintro e w1 ⟨rfl, hb⟩
    go_wp2_with fail
    refine (cursor_read _ _).mono ?_
    rintro e w2 ⟨rfl, hb2, hsz, hR⟩
    have hsz1 := hb.size
    have hB2 : Below w.heap.size w w2 := hb.trans (hb2.mono hb.size)
    have hw2 := hB2.size
    generalize w1.heap.size = br at *
    clear hb2 hb
    go_wp2_with fail
    clear hk
    refine (T1.out _ _ hR).mono ?_
    rintro e w3 ⟨rfl, u3, hI3⟩
    go_wp2_with fail
    refine (T2.out _ _ hI3).mono ?_
    rintro e w4 ⟨rfl, u4, hI4⟩
    go_wp2_with fail
    refine (cursor_fault br _ _ hI4).mono ?_
    rintro e w' ⟨rfl, rfl⟩
    simp only []
    go_wp2_with fail
    refine (T3.out _ _ hI4).mono ?_
    rintro e w5 ⟨rfl, u5, hI5⟩
    go_wp2_with fail
    refine (T4.out _ _ hI5).mono ?_
    rintro e w6 ⟨rfl, u6, hI6⟩
    go_wp2_with fail
    refine (T5.out _ _ hI6).mono ?_
    rintro e w7 ⟨rfl, u7, hI7⟩
    go_wp2_with fail
    refine (cursor_fault br _ _ hI7).mono ?_
    rintro e w' ⟨rfl, rfl⟩
    simp only []
    go_wp2_with fail
    refine (cursor_at br _ _ hI7).mono ?_
    rintro e w' ⟨rfl, rfl⟩
    simp only []
    go_wp2_with fail
    go_returns
    exact ⟨rfl, ((((u3.trans u4).trans u5).trans u6).trans u7).below hB2 hsz1 hw2⟩
  · have g0 : decide (0 ≤ n) = true := by simp; omega
    have g1 : decide (n ≤ (s.size : Int) - k) = false := by simp; omega
    have g2 : decide (n < 0) = false := by simp; omega
    have h0 : 0 ≤ n := by omega
    have h2 : (s.size : Int) - k < n := by omega
    have t2 := fun b w h => cursor_take b ⟨s, k, 0⟩ n w o1 h
    have t3 := fun b w h => cursor_take b ⟨s, k, 2⟩ th w ⟨hks, hs⟩ h
    have t4 := fun b w h => cursor_all b ⟨s, k, 2⟩ w ⟨hks, hs⟩ h
    have t5 := fun b w h => cursor_byte b ⟨s, k, 2⟩ w ⟨hks, hs⟩ h
    rw [take_over' hng (by omega)] at t2
    rw [take_bad (by decide)] at t3
    simp only [take_bad (show (2 : Int) ≠ 0 by decide)] at t4
    rw [byte_bad (by decide)] at t5
    have T2 := Lib.hid t2
    have T3 := Lib.hid t3
    have T4 := Lib.hid t4
    have T5 := Lib.hid t5
    clear t2 t3 t4 t5
    go_enter Try.func8, Try.ntmps8
    go_wp2_with fail
    refine (cursor_alive _).mono ?_
    rintro e w1 ⟨rfl, hb⟩
    go_wp2_with fail
    refine (cursor_read _ _).mono ?_
    rintro e w2 ⟨rfl, hb2, hsz, hR⟩
    have hsz1 := hb.size
    have hB2 : Below w.heap.size w w2 := hb.trans (hb2.mono hb.size)
    have hw2 := hB2.size
    generalize w1.heap.size = br at *
    clear hb2 hb
    go_wp2_with fail
    clear hk
    refine (T1.out _ _ hR).mono ?_
    rintro e w3 ⟨rfl, u3, hI3⟩
    go_wp2_with fail
    refine (T2.out _ _ hI3).mono ?_
    rintro e w4 ⟨rfl, u4, hI4⟩
    go_wp2_with fail
    refine (cursor_fault br _ _ hI4).mono ?_
    rintro e w' ⟨rfl, rfl⟩
    simp only []
    go_wp2_with fail
    refine (T3.out _ _ hI4).mono ?_
    rintro e w5 ⟨rfl, u5, hI5⟩
    go_wp2_with fail
    refine (T4.out _ _ hI5).mono ?_
    rintro e w6 ⟨rfl, u6, hI6⟩
    go_wp2_with fail
    refine (T5.out _ _ hI6).mono ?_
    rintro e w7 ⟨rfl, u7, hI7⟩
    go_wp2_with fail
    refine (cursor_fault br _ _ hI7).mono ?_
    rintro e w' ⟨rfl, rfl⟩
    simp only []
    go_wp2_with fail
    refine (cursor_at br _ _ hI7).mono ?_
    rintro e w' ⟨rfl, rfl⟩
    simp only []
    go_wp2_with fail
    go_returns
    exact ⟨rfl, ((((u3.trans u4).trans u5).trans u6).trans u7).below hB2 hsz1 hw2⟩
end Go.Proofs.Ytknokfofjhlkeaa
