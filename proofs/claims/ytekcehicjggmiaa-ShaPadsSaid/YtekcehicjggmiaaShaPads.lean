/- The walk of ShaPads. -/
import Derived.Test.YtekcehicjggmiaaShaAlive
import Derived.Test.YtekcehicjggmiaaShaRefPad
import Derived.WalkLawsBesides
namespace Go.Proofs.Ytekcehicjggmiaa
open Go.RowKit Go.Shelf
set_option linter.unusedVariables false

set_option maxRecDepth 100000 in
theorem sha_pads_bad (n : Int) (w : World) (hn : n < 0 ∨ 1099511627776 < n) :
    Calls Try.prog 4 #[.int .i64 n] w fun e w' => e = .returned (.bool true) ∧ Below w.heap.size w w' := by
  have c1 := Lib.hid (fun w => sha_pad_bad n w hn)
  have hb : (decide (n < 0) = true) ∨ (decide (n < 0) = false ∧ decide (1099511627776 < n) = true) := by
    by_cases h : n < 0
    · exact .inl (by simpa using h)
    · exact .inr ⟨by simpa using h, by simp; omega⟩
  clear hn
  rcases hb with h0 | ⟨h0, h1⟩
  all_goals
    go_enter Try.func4, Try.ntmps4
    go_wp2_with fail
    refine (sha_alive _).mono ?_
    rintro e w1 ⟨rfl, hb1⟩
    go_wp2_with fail
    refine (c1.out _).mono ?_
    rintro e w' ⟨rfl, rfl⟩
    go_wp2_with fail
    go_returns
    exact ⟨rfl, hb1⟩

set_option maxRecDepth 100000 in
set_option maxHeartbeats 400000 in
theorem sha_pads_ok (n : Nat) (w : World) (hn : n ≤ 1099511627776) :
    Calls Try.prog 4 #[.int .i64 n] w fun e w' => e = .returned (.bool true) ∧ Below w.heap.size w w' := by
  have c1 := fun w => sha_pad n w hn
  have c2 := fun w => ref_pad n w hn
  have hl : (⟨(padN n).toArray⟩ : ByteArray).size = 9 + (64 - (n + 9) % 64) % 64 := by rw [size_mk, padN_length]
  generalize (⟨(padN n).toArray⟩ : ByteArray) = S at *
  have h0 : decide ((n : Int) < 0) = false := by simp
  have h1 : decide (1099511627776 < (n : Int)) = false := by simp; omega
  have t1 : ((((n : Int) + (S.size : Int)) % 64) == 0) = true := by rw [hl, beq_iff_eq]; omega
  have t2 : decide ((9 : Int) ≤ (S.size : Int)) = true := by rw [hl, decide_eq_true_iff]; omega
  have t3 : decide ((S.size : Int) ≤ 72) = true := by rw [hl, decide_eq_true_iff]; omega
  have hs72 : S.size ≤ 72 := by omega
  have hs9 : 9 ≤ S.size := by omega
  have C1 := Lib.hid c1
  have C2 := Lib.hid c2
  clear c1 c2 hl
  go_enter Try.func4, Try.ntmps4
  go_wp2_with fail
  refine (sha_alive _).mono ?_
  rintro e w1 ⟨rfl, hb1⟩
  go_wp2_with fail
  refine (C1.out _).mono ?_
  rintro e w2 ⟨rfl, hb2⟩
  go_wp2_with fail
  refine (C2.out _).mono ?_
  rintro e w3 ⟨rfl, hb3⟩
  go_wp2_with fail
  go_returns
  exact ⟨rfl, hb1.trans ((hb2.mono hb1.size).trans (hb3.mono (Nat.le_trans hb1.size hb2.size)))⟩

theorem sha_pads (n : Int) (w : World) (h : (Lit.int .i64 n).wf = true) :
    Calls Try.prog 4 #[.int .i64 n] w fun e w' => e = .returned (.bool true) ∧ Below w.heap.size w w' := by
  by_cases c : n < 0 ∨ 1099511627776 < n
  · exact sha_pads_bad n w c
  · obtain ⟨m, rfl⟩ : ∃ m : Nat, n = m := ⟨n.toNat, by omega⟩
    exact sha_pads_ok m w (by omega)
end Go.Proofs.Ytekcehicjggmiaa
