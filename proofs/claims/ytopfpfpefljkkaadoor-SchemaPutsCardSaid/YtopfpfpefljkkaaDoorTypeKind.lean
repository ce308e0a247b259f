/- Package schema: whether a type is right by its kind. -/
import Derived.Test.YtopfpfpefljkkaaDoorTypeDoc3
namespace Go.Proofs.YtopfpfpefljkkaaDoor
open Go.RowKit
set_option linter.unusedVariables false
set_option linter.unusedSimpArgs false

/-- The sizes of numbers, as the program's text lays them. -/
def uintN : Nat → Nat := fun i => [1, 2, 4, 8].getD i 0
def TabU (w : World) : Prop := ∀ i, i < 4 → w.cell? ⟨0, i, none⟩ = some (.int .i64 (uintN i : Nat))
theorem TabU.lt {w : World} (h : TabU w) : 0 < w.heap.size := by
  rcases Nat.lt_or_ge 0 w.heap.size with h' | h'
  · exact h'
  · have := h 0 (by decide)
    simp [World.cell?, Array.getElem?_eq_none h'] at this
theorem TabU.below {w w' : World} {B : Nat} (h : TabU w) (hb : Below B w w') (hB : 0 < B) : TabU w' := fun i hi => (hb.cell (p := ⟨_, i, none⟩) hB).trans (h i hi)
theorem TabU.upd {w w' : World} {b : Nat} (h : TabU w) (hb : Upd b w w') (hB : 0 ≠ b) : TabU w' := fun i hi => by
  rw [World.cell?_of_block (w := w) (hb.block _ h.lt (by simpa using hB))]; exact h i hi

theorem usz_ix0 (W : World) : Sem.run Tryd.prog (Instr.index 71 (.agg #[.int .i64 1, .int .i64 2, .int .i64 4, .int .i64 8]) (.int .i64 0)) W = .ok (.int .i64 1) W := rfl
theorem usz_ix1 (W : World) : Sem.run Tryd.prog (Instr.index 71 (.agg #[.int .i64 1, .int .i64 2, .int .i64 4, .int .i64 8]) (.int .i64 1)) W = .ok (.int .i64 2) W := rfl
theorem usz_ix2 (W : World) : Sem.run Tryd.prog (Instr.index 71 (.agg #[.int .i64 1, .int .i64 2, .int .i64 4, .int .i64 8]) (.int .i64 2)) W = .ok (.int .i64 4) W := rfl
theorem usz_ix3 (W : World) : Sem.run Tryd.prog (Instr.index 71 (.agg #[.int .i64 1, .int .i64 2, .int .i64 4, .int .i64 8]) (.int .i64 3)) W = .ok (.int .i64 8) W := rfl
set_option maxRecDepth 100000 in
theorem prog_usize (z : Int) (w : World) (hT : TabU w) :
    Calls Tryd.prog 44 #[.int .i64 z] w fun e w' => e = .returned (.bool (decide (z = 1 ∨ z = 2 ∨ z = 4 ∨ z = 8))) ∧ w = w' := by
  have t0 := hT 0 (by decide)
  have t1 := hT 1 (by decide)
  have t2 := hT 2 (by decide)
  have t3 := hT 3 (by decide)
  simp only [uintN] at t0 t1 t2 t3
  clear hT
  go_enter Tryd.func44, Tryd.ntmps44
  go_wp2_with fail
  go_loopw [4, 6] (fun _ iv wi => ∃ k : Nat, iv = .int .i64 k ∧ k ≤ 4 ∧ Hid (∀ i, i < k → z ≠ (uintN i : Nat)) ∧ wi = w) (fun _ iv _ => 4 - (intOf iv).toNat)
  case atStart => exact ⟨0, rfl, by omega, Lib.hid (fun i hi => by omega), rfl⟩
  case round =>
    obtain ⟨k, rfl, hk, HN, rfl⟩ := hrel
    have hk5 : k = 0 ∨ k = 1 ∨ k = 2 ∨ k = 3 ∨ k = 4 := by omega
    rcases hk5 with rfl | rfl | rfl | rfl | rfl
    case inr.inr.inr.inr =>
      go_wp2_with fail
      go_returns
      refine ⟨?_, rfl⟩
      have q := HN.out
      have q0 := q 0 (by decide)
      have q1 := q 1 (by decide)
      have q2 := q 2 (by decide)
      have q3 := q 3 (by decide)
      simp [uintN] at q0 q1 q2 q3
      rw [decide_eq_false (by omega)]; rfl
    · have hix := usz_ix0 wr
      rcases eqOr z 1 with ⟨z0, Z0⟩ | ⟨z0, Z0⟩
      · go_wp2_with fail
        go_returns
        refine ⟨?_, rfl⟩
        rw [decide_eq_true (by have := Z0.out; omega)]; rfl
      · go_wp2_with fail
        go_roundw
        case rel => exact ⟨1, rfl, by omega, Lib.hid (fun i hi => by
          rcases Nat.lt_or_ge i 0 with h | h
          · exact HN.out i h
          · obtain rfl : i = 0 := by omega
            exact Z0.out), by first | trivial | rfl⟩
        case measure => simp [intOf]
    · have hix := usz_ix1 wr
      rcases eqOr z 2 with ⟨z0, Z0⟩ | ⟨z0, Z0⟩
      · go_wp2_with fail
        go_returns
        refine ⟨?_, rfl⟩
        rw [decide_eq_true (by have := Z0.out; omega)]; rfl
      · go_wp2_with fail
        go_roundw
        case rel => exact ⟨2, rfl, by omega, Lib.hid (fun i hi => by
          rcases Nat.lt_or_ge i 1 with h | h
          · exact HN.out i h
          · obtain rfl : i = 1 := by omega
            exact Z0.out), by first | trivial | rfl⟩
        case measure => simp [intOf]
    · have hix := usz_ix2 wr
      rcases eqOr z 4 with ⟨z0, Z0⟩ | ⟨z0, Z0⟩
      · go_wp2_with fail
        go_returns
        refine ⟨?_, rfl⟩
        rw [decide_eq_true (by have := Z0.out; omega)]; rfl
      · go_wp2_with fail
        go_roundw
        case rel => exact ⟨3, rfl, by omega, Lib.hid (fun i hi => by
          rcases Nat.lt_or_ge i 2 with h | h
          · exact HN.out i h
          · obtain rfl : i = 2 := by omega
            exact Z0.out), by first | trivial | rfl⟩
        case measure => simp [intOf]
    · have hix := usz_ix3 wr
      rcases eqOr z 8 with ⟨z0, Z0⟩ | ⟨z0, Z0⟩
      · go_wp2_with fail
        go_returns
        refine ⟨?_, rfl⟩
        rw [decide_eq_true (by have := Z0.out; omega)]; rfl
      · go_wp2_with fail
        go_roundw
        case rel => exact ⟨4, rfl, by omega, Lib.hid (fun i hi => by
          rcases Nat.lt_or_ge i 3 with h | h
          · exact HN.out i h
          · obtain rfl : i = 3 := by omega
            exact Z0.out), by first | trivial | rfl⟩
        case measure => simp [intOf]
set_option maxRecDepth 100000 in
theorem prog_sized (lo hi z : Int) (g : Nat) (w : World) (c1 : w.cell? ⟨g, 1, none⟩ = some (.int .i64 z)) :
    Calls Tryd.prog 43 #[.int .i64 lo, .int .i64 hi, .pointer (some ⟨g, 0, none⟩)] w fun e w' => e = .returned (.bool (decide (lo ≤ z ∧ z ≤ hi))) ∧ w = w' := by
  have a1 := leOr lo z
  have a2 := leOr z hi
  rcases a1 with ⟨a1, A1⟩ | ⟨a1, A1⟩ <;> rcases a2 with ⟨a2, A2⟩ | ⟨a2, A2⟩
  all_goals
    go_enter Tryd.func43, Tryd.ntmps43
    go_wp2_with fail
    go_returns
    refine ⟨?_, rfl⟩
    have q1 := A1.out
    have q2 := A2.out
    first
      | (rw [decide_eq_true (show lo ≤ z ∧ z ≤ hi by omega)]; rfl)
      | (rw [decide_eq_false (show ¬ (lo ≤ z ∧ z ≤ hi) by omega)]; rfl)

set_option maxRecDepth 100000 in
set_option maxHeartbeats 2000000 in
theorem prog_fits (a : TL) (oa : Option Addr) (M cap : Nat) (w : World) (hT : TabU w) :
    Calls Tryd.prog 40 #[.agg #[.int .i64 a.kind, .int .i64 a.size, .slice oa M cap, .int .i64 a.tail]] w fun e w' => e = .returned (.bool (rightK a M)) ∧ Below w.heap.size w w' := by
  obtain ⟨kind, size, tail⟩ := a
  obtain ⟨g, hg⟩ : ∃ g, w.heap.size = g := ⟨_, rfl⟩
  have HW : Hid (∀ W, w.alloc (.cells #[.int .i64 kind, .int .i64 size, .slice oa M cap, .int .i64 tail] 24) = W → Below g w W ∧ TabU W ∧ Blk W g #[.int .i64 kind, .int .i64 size, .slice oa M cap, .int .i64 tail] 24) := Lib.hid fun W h => by
    subst h
    have hal := (Below.refl w.heap.size w).alloc (Nat.le_refl _) (.cells #[.int .i64 kind, .int .i64 size, .slice oa M cap, .int .i64 tail] 24)
    exact ⟨hg ▸ hal, hT.below hal hT.lt, hg ▸ Blk.new w _ _⟩
  rw [hg]
  clear hT
  simp only
  go_enter Tryd.func40, Tryd.ntmps40
  go_upto_region 1 with fail
  generalize w.alloc (.cells #[.int .i64 kind, .int .i64 size, .slice oa M cap, .int .i64 tail] 24) = w1 at *
  obtain ⟨hb1, ht1, hB⟩ := HW.out _ rfl
  have c0 : w1.cell? ⟨g, 0, none⟩ = some (.int .i64 kind) := hB.cell 0
  have c1 : w1.cell? ⟨g, 1, none⟩ = some (.int .i64 size) := hB.cell 1
  have c2 : w1.cell? ⟨g, 2, none⟩ = some (.slice oa M cap) := hB.cell 2
  have c3 : w1.cell? ⟨g, 3, none⟩ = some (.int .i64 tail) := hB.cell 3
  have H1 := Lib.hid hb1
  have HT := Lib.hid ht1
  have CU := Lib.hid (prog_usize size w1 ht1)
  clear HW hb1 ht1 hB
  have e0 := eqOr (M : Int) 0
  have e1 := eqOr (M : Int) 1
  have t0 := eqOr tail 0
  have m16 := leOr (M : Int) 16
  have tg := leOr 0 tail
  have tl := leOr tail (M : Int)
  have CS := Lib.hid (fun lo hi => prog_sized lo hi size g w1 c1)
  go_upto_region 2 with fail
  go_cut [4] (fun pv wx => pv = .bool (decide ((M : Int) = 0 ∧ tail = 0)) ∧ wx = w1)
  case first =>
    clear m16 tg tl e1
    rcases e0 with ⟨e0, E0⟩ | ⟨e0, E0⟩ <;> rcases t0 with ⟨t0, T0⟩ | ⟨t0, T0⟩
    all_goals
      go_wp2_with fail
      go_meet
      refine ⟨congrArg Value.bool ?_, rfl⟩
      have q1 := E0.out
      have q2 := T0.out
      first
        | (rw [decide_eq_true (show (M : Int) = 0 ∧ tail = 0 by omega)])
        | (rw [decide_eq_false (show ¬ ((M : Int) = 0 ∧ tail = 0) by omega)])
  case rest =>
  obtain ⟨rfl, rfl⟩ := hcut
  clear e0
  obtain ⟨p, hp⟩ : ∃ p, decide ((M : Int) = 0 ∧ tail = 0) = p := ⟨_, rfl⟩
  have HPT : Hid (p = true → (M : Int) = 0 ∧ tail = 0) := Lib.hid fun h => by rw [h] at hp; exact of_decide_eq_true hp
  have HPF : Hid (p = false → ¬ ((M : Int) = 0 ∧ tail = 0)) := Lib.hid fun h => by rw [h] at hp; exact of_decide_eq_false hp
  rw [hp]
  clear hp
  rcases kindOr kind with rfl | rfl | rfl | rfl | rfl | ⟨k1, k2, k3, k4, k5, HK⟩
  · cases p
    · go_wp2_with fail
      go_returns
      refine ⟨congrArg (fun b => Ending.returned (.bool b)) ?_, H1.out⟩
      have q1 := HPF.out (by trivial)
      unfold rightK; symm; first | (apply decide_eq_true; dsimp only; omega) | (apply decide_eq_false; dsimp only; omega)
    · go_wp2_with fail
      refine (CU.out).mono ?_
      rintro e w2 ⟨rfl, rfl⟩
      go_wp2_with fail
      go_returns
      refine ⟨congrArg (fun b => Ending.returned (.bool b)) ?_, H1.out⟩
      have q1 := HPT.out (by trivial)
      unfold rightK; dsimp only; rw [Bool.eq_iff_iff]; simp only [Bool.and_eq_true, Bool.or_eq_true, decide_eq_true_eq, false_and, true_and, false_or, or_false]; omega
  · have CS1 := Lib.hid (CS.out 1 65536)
    cases p
    · go_wp2_with fail
      go_returns
      refine ⟨congrArg (fun b => Ending.returned (.bool b)) ?_, H1.out⟩
      have q1 := HPF.out (by trivial)
      unfold rightK; symm; first | (apply decide_eq_true; dsimp only; omega) | (apply decide_eq_false; dsimp only; omega)
    · go_wp2_with fail
      refine (CS1.out).mono ?_
      rintro e w2 ⟨rfl, rfl⟩
      go_wp2_with fail
      go_returns
      refine ⟨congrArg (fun b => Ending.returned (.bool b)) ?_, H1.out⟩
      have q1 := HPT.out (by trivial)
      unfold rightK; dsimp only; rw [Bool.eq_iff_iff]; simp only [Bool.and_eq_true, Bool.or_eq_true, decide_eq_true_eq, false_and, true_and, false_or, or_false]; omega
  · have CS1 := Lib.hid (CS.out 0 65536)
    cases p
    · go_wp2_with fail
      go_returns
      refine ⟨congrArg (fun b => Ending.returned (.bool b)) ?_, H1.out⟩
      have q1 := HPF.out (by trivial)
      unfold rightK; symm; first | (apply decide_eq_true; dsimp only; omega) | (apply decide_eq_false; dsimp only; omega)
    · go_wp2_with fail
      refine (CS1.out).mono ?_
      rintro e w2 ⟨rfl, rfl⟩
      go_wp2_with fail
      go_returns
      refine ⟨congrArg (fun b => Ending.returned (.bool b)) ?_, H1.out⟩
      have q1 := HPT.out (by trivial)
      unfold rightK; dsimp only; rw [Bool.eq_iff_iff]; simp only [Bool.and_eq_true, Bool.or_eq_true, decide_eq_true_eq, false_and, true_and, false_or, or_false]; omega
  · have CS1 := Lib.hid (CS.out 0 1024)
    rcases e1 with ⟨e1, E1⟩ | ⟨e1, E1⟩ <;> rcases t0 with ⟨t0, T0⟩ | ⟨t0, T0⟩
    · go_wp2_with fail
      refine (CS1.out).mono ?_
      rintro e w2 ⟨rfl, rfl⟩
      go_wp2_with fail
      go_returns
      refine ⟨congrArg (fun b => Ending.returned (.bool b)) ?_, H1.out⟩
      have q1 := E1.out
      have q2 := T0.out
      unfold rightK; dsimp only; rw [Bool.eq_iff_iff]; simp only [Bool.and_eq_true, Bool.or_eq_true, decide_eq_true_eq, false_and, true_and, false_or, or_false]; omega
    all_goals
      go_wp2_with fail
      go_returns
      refine ⟨congrArg (fun b => Ending.returned (.bool b)) ?_, H1.out⟩
      have q1 := E1.out
      have q2 := T0.out
      unfold rightK; symm; first | (apply decide_eq_true; dsimp only; omega) | (apply decide_eq_false; dsimp only; omega)
  · rcases eqOr size 0 with ⟨z0, Z0⟩ | ⟨z0, Z0⟩
    · have CS0 : Hid (Calls Tryd.prog 43 #[.int .i64 0, .int .i64 0, .pointer (some ⟨g, 0, none⟩)] wc fun e w' => e = .returned (.bool true) ∧ wc = w') := Lib.hid (by
        have h := CS.out 0 0
        rwa [decide_eq_true (show 0 ≤ size ∧ size ≤ 0 by have := Z0.out; omega)] at h)
      rcases m16 with ⟨m16, M16⟩ | ⟨m16, M16⟩ <;> rcases tg with ⟨tg, TG⟩ | ⟨tg, TG⟩ <;> rcases tl with ⟨tl, TL'⟩ | ⟨tl, TL'⟩
      all_goals
        go_wp2_with fail
        refine (CS0.out).mono ?_
        rintro e w2 ⟨rfl, rfl⟩
        go_wp2_with fail
        go_returns
        refine ⟨congrArg (fun b => Ending.returned (.bool b)) ?_, H1.out⟩
        have q1 := Z0.out
        have q2 := M16.out
        have q3 := TG.out
        have q4 := TL'.out
        unfold rightK; symm; first | (apply decide_eq_true; dsimp only; omega) | (apply decide_eq_false; dsimp only; omega)
    · have CS0 : Hid (Calls Tryd.prog 43 #[.int .i64 0, .int .i64 0, .pointer (some ⟨g, 0, none⟩)] wc fun e w' => e = .returned (.bool false) ∧ wc = w') := Lib.hid (by
        have h := CS.out 0 0
        rwa [decide_eq_false (show ¬ (0 ≤ size ∧ size ≤ 0) by have := Z0.out; omega)] at h)
      go_wp2_with fail
      refine (CS0.out).mono ?_
      rintro e w2 ⟨rfl, rfl⟩
      go_wp2_with fail
      go_returns
      refine ⟨congrArg (fun b => Ending.returned (.bool b)) ?_, H1.out⟩
      have q1 := Z0.out
      unfold rightK; symm; first | (apply decide_eq_true; dsimp only; omega) | (apply decide_eq_false; dsimp only; omega)
  · go_wp2_with fail
    go_returns
    refine ⟨congrArg (fun b => Ending.returned (.bool b)) ?_, H1.out⟩
    have q1 := HK.out
    unfold rightK; symm; first | (apply decide_eq_true; dsimp only; omega) | (apply decide_eq_false; dsimp only; omega)
end Go.Proofs.YtopfpfpefljkkaaDoor
