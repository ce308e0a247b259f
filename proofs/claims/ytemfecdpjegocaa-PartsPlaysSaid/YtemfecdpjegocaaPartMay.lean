/- parts.may, ref30.May. -/
import Derived.Test.YtemfecdpjegocaaChecked
import Derived.Test.YtemfecdpjegocaaObj
import Derived.Test.YtemfecdpjegocaaTail
import Derived.Lib.Strings
import Derived.WalkSpells
import Derived.Deep.Cut
namespace Go.Proofs.Ytemfecdpjegocaa
open Go.RowKit
set_option linter.unusedVariables false
set_option linter.unusedSimpArgs false

theorem i64_of_wf' {x : Int} (h : (Lit.int .i64 x).wf = true) : -9223372036854775808 ≤ x ∧ x ≤ 9223372036854775807 := by
  simpa [Lit.wf, IntKind.min, IntKind.max, IntKind.signed, IntKind.bits] using h
/-- A part. -/
structure Pt where
  id : Int
  n : Int
  of_ : Int
  text : ByteArray
def Pt.cs (p : Pt) : Array Value := #[.int .i64 p.id, .int .i64 p.n, .int .i64 p.of_, .string p.text]
def Pt.wf (p : Pt) : Prop := (Lit.int .i64 p.id).wf = true ∧ (Lit.int .i64 p.n).wf = true ∧ (Lit.int .i64 p.of_).wf = true ∧ p.text.size ≤ maxLen
def mayP (p : Pt) : Prop := (0 ≤ p.id ∧ p.id ≤ 2147483647) ∧ (1 ≤ p.of_ ∧ p.of_ ≤ 1024) ∧ (0 ≤ p.n ∧ p.n ≤ p.of_ - 1) ∧ p.text.size ≤ 65536 ∧ (p.of_ = 1 ∨ p.text.size ≠ 0)
instance (p : Pt) : Decidable (mayP p) := by unfold mayP; infer_instance
def inB (n a b : Int) : Bool := decide (a ≤ n) && decide (n ≤ b)
theorem inB_true {n a b : Int} (h : a ≤ n ∧ n ≤ b) : inB n a b = true := by unfold inB; simp; exact h
theorem inB_false {n a b : Int} (h : ¬ (a ≤ n ∧ n ≤ b)) : inB n a b = false := by unfold inB; rw [Bool.eq_false_iff]; intro hh; simp at hh; exact h hh

set_option maxRecDepth 100000 in
theorem may_within (n a b : Int) (w : World) : Calls Try.prog 68 #[.int .i64 n, .int .i64 a, .int .i64 b] w fun en w' => en = .returned (.bool (inB n a b)) ∧ w' = w := by
  unfold inB
  by_cases c1 : a ≤ n
  · have d1 : decide (a ≤ n) = true := by simp; exact c1
    by_cases c2 : n ≤ b
    · have d2 : decide (n ≤ b) = true := by simp; exact c2
      go_enter Try.func68, Try.ntmps68
      go_wp2_with fail
      go_returns
      exact ⟨by simp [c1, c2], rfl⟩
    · have d2 : decide (n ≤ b) = false := by simp; omega
      go_enter Try.func68, Try.ntmps68
      go_wp2_with fail
      go_returns
      exact ⟨by simp [c1, c2], rfl⟩
  · have d1 : decide (a ≤ n) = false := by simp; omega
    go_enter Try.func68, Try.ntmps68
    go_wp2_with fail
    go_returns
    exact ⟨by simp [c1], rfl⟩

theorem ret_may {p : Pt} {bb : Bool} (H : Hid (decide (mayP p) = bb)) {b : Bool} (h : decide (mayP p) = b) : Ending.returned (.bool b) = .returned (.bool bb) := by rw [← h, H.out]
theorem nonempty_beq (T : ByteArray) : (T.toList == ([] : List UInt8)) = decide (T.size = 0) := by
  rw [Lib.toList_data, Bool.eq_iff_iff, beq_iff_eq, decide_eq_true_iff]
  constructor
  · intro h
    show T.data.size = 0
    rw [← Array.length_toList, h]; rfl
  · intro h
    apply List.eq_nil_of_length_eq_zero
    rw [Array.length_toList]; exact h

set_option maxRecDepth 100000 in
set_option maxHeartbeats 1000000 in
theorem parts_may (p : Pt) (w : World) (hwf : p.wf) : Calls Try.prog 51 #[.agg p.cs] w fun en w' => en = .returned (.bool (decide (mayP p))) ∧ Below w.heap.size w w' := by
  obtain ⟨i, n, o, T⟩ := p
  obtain ⟨hi, hn, ho, hT⟩ := hwf
  obtain ⟨hi1, hi2⟩ := i64_of_wf' hi
  obtain ⟨hn1, hn2⟩ := i64_of_wf' hn
  obtain ⟨ho1, ho2⟩ := i64_of_wf' ho
  have hbe := nonempty_beq T
  have CW := Lib.hid (fun n a b w => may_within n a b w)
  have hB : Hid (Below w.heap.size w (w.alloc (.cells #[.int .i64 i, .int .i64 n, .int .i64 o, .string T] 33))) := (Below.refl _ _).alloc (Nat.le_refl _) _
  have hblk := Blk.new w #[.int .i64 i, .int .i64 n, .int .i64 o, .string T] 33
  obtain ⟨bb, hbb⟩ : ∃ bb, decide (mayP ⟨i, n, o, T⟩) = bb := ⟨_, rfl⟩
  rw [hbb]
  have HBB := Lib.hid hbb
  clear hbb
  simp only [Pt.cs]
  simp only at hi1 hi2 hn1 hn2 ho1 ho2 hT
  unfold maxLen at hT
  clear hi hn ho hblk
  go_enter Try.func51, Try.ntmps51
  go_wp2_with fail
  refine (CW.out _ _ _ _).mono ?_
  rintro e w1 ⟨rfl, rfl⟩
  by_cases c1 : 0 ≤ i ∧ i ≤ 2147483647
  case neg =>
    rw [inB_false c1]
    go_wp2_with fail
    go_returns
    exact ⟨ret_may HBB (decide_eq_false fun h => c1 h.1), hB.out⟩
  rw [inB_true c1]
  go_wp2_with fail
  refine (CW.out _ _ _ _).mono ?_
  rintro e w1 ⟨rfl, rfl⟩
  by_cases c2 : 1 ≤ o ∧ o ≤ 1024
  case neg =>
    rw [inB_false c2]
    go_wp2_with fail
    go_returns
    exact ⟨ret_may HBB (decide_eq_false fun h => c2 h.2.1), hB.out⟩
  rw [inB_true c2]
  have ho3 : 1 ≤ o := c2.1
  have ho4 : o ≤ 1024 := c2.2
  go_wp2_with fail
  refine (CW.out _ _ _ _).mono ?_
  rintro e w1 ⟨rfl, rfl⟩
  by_cases c3 : 0 ≤ n ∧ n ≤ o - 1
  case neg =>
    rw [inB_false c3]
    go_wp2_with fail
    go_returns
    exact ⟨ret_may HBB (decide_eq_false fun h => c3 h.2.2.1), hB.out⟩
  rw [inB_true c3]
  have H := Lib.hid (And.intro c1 (And.intro c2 c3))
  clear c1 c2 c3
  by_cases c4 : T.size ≤ 65536
  case neg =>
    have d4 : decide ((T.size : Int) ≤ 65536) = false := by simp; omega
    go_wp2_with fail
    go_returns
    exact ⟨ret_may HBB (decide_eq_false fun h => c4 h.2.2.2.1), hB.out⟩
  have d4 : decide ((T.size : Int) ≤ 65536) = true := by simp; omega
  by_cases c5 : o = 1
  · subst c5
    go_wp2_with fail
    go_returns
    exact ⟨ret_may HBB (decide_eq_true ⟨H.out.1, H.out.2.1, H.out.2.2, c4, .inl rfl⟩), hB.out⟩
  · have d5 : (o == 1) = false := by rw [beq_eq_false_iff_ne]; exact c5
    by_cases c6 : T.size = 0
    · rw [decide_eq_true c6] at hbe
      go_wp2_with fail
      go_returns
      exact ⟨ret_may HBB (decide_eq_false fun h => h.2.2.2.2.elim c5 fun h => h c6), hB.out⟩
    · rw [decide_eq_false c6] at hbe
      go_wp2_with fail
      go_returns
      exact ⟨ret_may HBB (decide_eq_true ⟨H.out.1, H.out.2.1, H.out.2.2, c4, .inr c6⟩), hB.out⟩

set_option maxRecDepth 100000 in
set_option maxHeartbeats 2000000 in
theorem ref_may (p : Pt) (w : World) (hwf : p.wf) : Calls Try.prog 32 #[.agg p.cs] w fun en w' => en = .returned (.bool (decide (mayP p))) ∧ Below w.heap.size w w' := by
  obtain ⟨i, n, o, T⟩ := p
  obtain ⟨hi, hn, ho, hT⟩ := hwf
  obtain ⟨hi1, hi2⟩ := i64_of_wf' hi
  obtain ⟨hn1, hn2⟩ := i64_of_wf' hn
  obtain ⟨ho1, ho2⟩ := i64_of_wf' ho
  have hB : Hid (Below w.heap.size w (w.alloc (.cells #[.int .i64 i, .int .i64 n, .int .i64 o, .string T] 31))) := (Below.refl _ _).alloc (Nat.le_refl _) _
  obtain ⟨bb, hbb⟩ : ∃ bb, decide (mayP ⟨i, n, o, T⟩) = bb := ⟨_, rfl⟩
  rw [hbb]
  have HBB := Lib.hid hbb
  clear hbb
  simp only [Pt.cs]
  simp only at hi1 hi2 hn1 hn2 ho1 ho2 hT
  unfold maxLen at hT
  clear hi hn ho
  by_cases c0 : 0 ≤ i
  case neg =>
    have d0 : decide ((0 : Int) ≤ i) = false := by simp; omega
    have hF : Hid (¬ mayP ⟨i, n, o, T⟩) := by unfold Hid mayP; simp only; omega
    clear c0
    go_enter Try.func32, Try.ntmps32
    go_wp2_with fail
    go_returns
    exact ⟨ret_may HBB (decide_eq_false hF.out), hB.out⟩
  have d0 : decide ((0 : Int) ≤ i) = true := by simp; omega
  by_cases c1 : i ≤ 2147483647
  case neg =>
    have d1 : decide (i ≤ 2147483647) = false := by simp; omega
    have hF : Hid (¬ mayP ⟨i, n, o, T⟩) := by unfold Hid mayP; simp only; omega
    clear c0 c1
    go_enter Try.func32, Try.ntmps32
    go_wp2_with fail
    go_returns
    exact ⟨ret_may HBB (decide_eq_false hF.out), hB.out⟩
  have d1 : decide (i ≤ 2147483647) = true := by simp; omega
  by_cases c2 : 1 ≤ o
  case neg =>
    have d2 : decide ((1 : Int) ≤ o) = false := by simp; omega
    have hF : Hid (¬ mayP ⟨i, n, o, T⟩) := by unfold Hid mayP; simp only; omega
    clear c0 c1 c2
    go_enter Try.func32, Try.ntmps32
    go_wp2_with fail
    go_returns
    exact ⟨ret_may HBB (decide_eq_false hF.out), hB.out⟩
  have d2 : decide ((1 : Int) ≤ o) = true := by simp; omega
  by_cases c3 : o ≤ 1024
  case neg =>
    have d3 : decide (o ≤ 1024) = false := by simp; omega
    have hF : Hid (¬ mayP ⟨i, n, o, T⟩) := by unfold Hid mayP; simp only; omega
    clear c0 c1 c2 c3
    go_enter Try.func32, Try.ntmps32
    go_wp2_with fail
    go_returns
    exact ⟨ret_may HBB (decide_eq_false hF.out), hB.out⟩
  have d3 : decide (o ≤ 1024) = true := by simp; omega
  by_cases c4 : 0 ≤ n
  case neg =>
    have d4 : decide ((0 : Int) ≤ n) = false := by simp; omega
    have hF : Hid (¬ mayP ⟨i, n, o, T⟩) := by unfold Hid mayP; simp only; omega
    clear c0 c1 c2 c3 c4
    go_enter Try.func32, Try.ntmps32
    go_wp2_with fail
    go_returns
    exact ⟨ret_may HBB (decide_eq_false hF.out), hB.out⟩
  have d4 : decide ((0 : Int) ≤ n) = true := by simp; omega
  by_cases c5 : n < o
  case neg =>
    have d5 : decide (n < o) = false := by simp; omega
    have hF : Hid (¬ mayP ⟨i, n, o, T⟩) := by unfold Hid mayP; simp only; omega
    clear c0 c1 c2 c3 c4 c5
    go_enter Try.func32, Try.ntmps32
    go_wp2_with fail
    go_returns
    exact ⟨ret_may HBB (decide_eq_false hF.out), hB.out⟩
  have d5 : decide (n < o) = true := by simp; omega
  by_cases c6 : T.size ≤ 65536
  case neg =>
    have d6 : decide ((T.size : Int) ≤ 65536) = false := by simp; omega
    have hF : Hid (¬ mayP ⟨i, n, o, T⟩) := by unfold Hid mayP; simp only; omega
    clear c0 c1 c2 c3 c4 c5 c6
    go_enter Try.func32, Try.ntmps32
    go_wp2_with fail
    go_returns
    exact ⟨ret_may HBB (decide_eq_false hF.out), hB.out⟩
  have d6 : decide ((T.size : Int) ≤ 65536) = true := by simp; omega
  have HH := Lib.hid (And.intro (And.intro c0 c1) (And.intro (And.intro c2 c3) (And.intro (And.intro c4 (Int.le_sub_one_of_lt c5)) c6)))
  clear c0 c1 c2 c3 c4 c5 c6
  by_cases c7 : T = ByteArray.empty
  · subst c7
    by_cases c8 : o = 1
    · subst c8
      go_enter Try.func32, Try.ntmps32
      go_wp2_with fail
      go_returns
      exact ⟨ret_may HBB (decide_eq_true ⟨HH.out.1, HH.out.2.1, HH.out.2.2.1, HH.out.2.2.2, .inl rfl⟩), hB.out⟩
    · have d8 : (o == 1) = false := by rw [beq_eq_false_iff_ne]; exact c8
      go_enter Try.func32, Try.ntmps32
      go_wp2_with fail
      go_returns
      refine ⟨ret_may HBB (decide_eq_false ?_), hB.out⟩
      rintro ⟨_, _, _, _, h | h⟩
      · exact c8 h
      · exact h rfl
  · have hs : T.size ≠ 0 := fun h => c7 (by apply ByteArray.ext; exact Array.eq_empty_of_size_eq_zero h)
    have d7 : decide (0 < (T.size : Int)) = true := by simp; omega
    have hp : 0 < T.size := by omega
    have HS := Lib.hid hs
    clear hs
    go_enter Try.func32, Try.ntmps32
    go_wp2_with fail
    go_returns
    exact ⟨ret_may HBB (decide_eq_true ⟨HH.out.1, HH.out.2.1, HH.out.2.2.1, HH.out.2.2.2, .inr HS.out⟩), hB.out⟩
end Go.Proofs.Ytemfecdpjegocaa
