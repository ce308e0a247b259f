/- A nil board; limits that are not right. -/
import Derived.Test.YtemfecdpjegocaaDoorPlaysProg
import Derived.Test.YtemfecdpjegocaaDoorScoreBans
namespace Go.Proofs.YtemfecdpjegocaaDoor
open Go.RowKit Go.Maps
set_option linter.unusedVariables false
set_option linter.unusedSimpArgs false

set_option maxRecDepth 100000 in
theorem nil_fault (s : ByteArray) (now e : Int) (w : World) : Calls Tryd.prog 9 #[.pointer none, .string s, .int .i64 now, .int .i64 e] w fun en w' => en = .returned (.int .i64 0) ∧ w' = w := by
  go_enter Tryd.func9, Tryd.ntmps9
  go_wp2_with fail
  go_returns
  exact ⟨rfl, rfl⟩
set_option maxRecDepth 100000 in
theorem nil_score (s : ByteArray) (now : Int) (w : World) : Calls Tryd.prog 10 #[.pointer none, .string s, .int .i64 now] w fun en w' => en = .returned (.int .i64 0) ∧ w' = w := by
  go_enter Tryd.func10, Tryd.ntmps10
  go_wp2_with fail
  go_returns
  exact ⟨rfl, rfl⟩
set_option maxRecDepth 100000 in
theorem nil_until (s : ByteArray) (w : World) : Calls Tryd.prog 13 #[.pointer none, .string s] w fun en w' => en = .returned (.int .i64 0) ∧ w' = w := by
  go_enter Tryd.func13, Tryd.ntmps13
  go_wp2_with fail
  go_returns
  exact ⟨rfl, rfl⟩
set_option maxRecDepth 100000 in
theorem nil_banned (s : ByteArray) (w : World) : Calls Tryd.prog 12 #[.pointer none, .string s, .int .i64 0] w fun en w' => en = .returned (.bool false) ∧ w' = w := by
  have CC := Lib.hid (score_clamp 0 w)
  have CU := Lib.hid (nil_until s w)
  have e0 : ((clampN 0 : Nat) : Int) = 0 := by decide
  rw [e0] at CC
  go_enter Tryd.func12, Tryd.ntmps12
  go_wp2_with fail
  refine CC.out.mono ?_
  rintro en w1 ⟨rfl, rfl⟩
  go_wp2_with fail
  refine CU.out.mono ?_
  rintro en w2 ⟨rfl, rfl⟩
  go_wp2_with fail
  go_returns
  exact ⟨rfl, rfl⟩
set_option maxRecDepth 100000 in
theorem nil_sweep (now : Int) (w : World) : Calls Tryd.prog 14 #[.pointer none, .int .i64 now] w fun en w' => en = .returned (.int .i64 0) ∧ Below w.heap.size w w' := by
  obtain ⟨g, hg⟩ : ∃ g, w.heap.size = g := ⟨_, rfl⟩
  have HW : Hid (∀ W, (w.alloc (.cells #[.pointer none] 26)).alloc (.cells #[.int .i64 now] 2) = W → Below g w W ∧ Blk W g #[.pointer none] 26) := fun W hW => by
    subst hW
    exact ⟨((Below.refl _ _).alloc (by omega) _).alloc (by simp; omega) _, (hg ▸ Blk.new w _ _).alloc _⟩
  go_enter Tryd.func14, Tryd.ntmps14
  go_wp2_with fail
  go_returns
  exact ⟨rfl, hg ▸ (HW.out _ rfl).1⟩
set_option maxRecDepth 100000 in
theorem nil_peers (w : World) : Calls Tryd.prog 15 #[.pointer none] w fun en w' => en = .returned (.slice none 0 0) ∧ w' = w := by
  go_enter Tryd.func15, Tryd.ntmps15
  go_wp2_with fail
  go_returns
  exact ⟨rfl, rfl⟩
set_option maxRecDepth 100000 in
theorem score_new_bad (L H N : Int) (w : World) (h : ¬ RightI L H N) : Calls Tryd.prog 8 #[.int .i64 L, .int .i64 H, .int .i64 N] w fun en w' => en = .returned (.tuple #[.pointer none, .int .i64 1]) ∧ w' = w := by
  have hc : decide (L < 1) = true ∨ (decide (L < 1) = false ∧ decide (1000000 < L) = true) ∨ (decide (L < 1) = false ∧ decide (1000000 < L) = false ∧ decide (H < 1) = true) ∨
      (decide (L < 1) = false ∧ decide (1000000 < L) = false ∧ decide (H < 1) = false ∧ decide (1099511627776 < H) = true) ∨ (decide (L < 1) = false ∧ decide (1000000 < L) = false ∧ decide (H < 1) = false ∧ decide (1099511627776 < H) = false ∧ decide (N < 1) = true) ∨
      (decide (L < 1) = false ∧ decide (1000000 < L) = false ∧ decide (H < 1) = false ∧ decide (1099511627776 < H) = false ∧ decide (N < 1) = false ∧ decide (1099511627776 < N) = true) := by
    unfold RightI at h
    simp only [decide_eq_true_eq, decide_eq_false_iff_not]
    omega
  clear h
  rcases hc with g1 | ⟨g1, g2⟩ | ⟨g1, g2, g3⟩ | ⟨g1, g2, g3, g4⟩ | ⟨g1, g2, g3, g4, g5⟩ | ⟨g1, g2, g3, g4, g5, g6⟩
  all_goals
    go_enter Tryd.func8, Tryd.ntmps8
    go_wp2_with fail
    go_ret2
    exact ⟨rfl, rfl⟩

/-- The acts that came in: kind, peer, time, error. -/
def IsSActs (w : World) (a : Option Addr) (len : Nat) : Prop := len ≤ maxLen ∧ ∀ i, i < len → ∃ b off K y n E, a = some ⟨b, off, none⟩ ∧ b < w.heap.size ∧
  w.cell? ⟨b, off + i * 4, none⟩ = some (.int .u8 K) ∧ (Lit.int .u8 K).wf = true ∧ w.cell? ⟨b, off + i * 4 + 1, none⟩ = some (.string y) ∧ y.size ≤ maxLen ∧
  w.cell? ⟨b, off + i * 4 + 2, none⟩ = some (.int .i64 n) ∧ (Lit.int .i64 n).wf = true ∧ w.cell? ⟨b, off + i * 4 + 3, none⟩ = some (.int .i64 E) ∧ (Lit.int .i64 E).wf = true

set_option maxRecDepth 100000 in
theorem score_plays_far {w : World} {ao : Option Addr} {len cap : Nat} (L H N : Int) (hT : TabP w) (hl : len ≤ maxLen) (h : 80 < len) :
    Calls Tryd.prog 5 #[.int .i64 L, .int .i64 H, .int .i64 N, .slice ao len cap] w fun e w' => e = .returned (.bool true) ∧ Below w.heap.size w w' := by
  have d0 : decide (80 < (len : Int)) = true := by simp; omega
  unfold maxLen at hl
  go_enter Tryd.func5, Tryd.ntmps5
  go_wp2_with fail
  refine (score_alive _ hT).mono ?_
  rintro e w1 ⟨rfl, hb1⟩
  go_wp2_with fail
  go_returns
  exact ⟨rfl, hb1⟩

set_option maxRecDepth 100000 in
set_option maxHeartbeats 1000000 in
theorem score_plays_bad {w : World} {ao : Option Addr} {len cap : Nat} (L H N : Int) (hT : TabP w) (h : ¬ 80 < len) (hr : ¬ RightI L H N) :
    Calls Tryd.prog 5 #[.int .i64 L, .int .i64 H, .int .i64 N, .slice ao len cap] w fun e w' => e = .returned (.bool true) ∧ Below w.heap.size w w' := by
  have d0 : decide (80 < (len : Int)) = false := by simp; omega
  have CN := Lib.hid (fun w => score_new_bad L H N w hr)
  have CR := Lib.hid (fun w => ref_wrong L H N w hr)
  have CF := Lib.hid (fun w => nil_fault ⟨#[97]⟩ 0 3 w)
  have CS := Lib.hid (fun w => nil_score ⟨#[97]⟩ 0 w)
  have CB := Lib.hid (fun w => nil_banned ⟨#[97]⟩ w)
  have CU := Lib.hid (fun w => nil_until ⟨#[97]⟩ w)
  have CW := Lib.hid (fun w => nil_sweep 0 w)
  have CP := Lib.hid (fun w => nil_peers w)
  clear hr
  go_enter Tryd.func5, Tryd.ntmps5
  go_wp2_with fail
  refine (score_alive _ hT).mono ?_
  rintro e w1 ⟨rfl, hb1⟩
  have HB := Lib.hid hb1
  clear hb1
  go_wp2_with fail
  refine (CN.out _).mono ?_
  rintro e w2 ⟨rfl, rfl⟩
  go_wp2_with fail
  refine (CR.out _).mono ?_
  rintro e w3 ⟨rfl, rfl⟩
  go_wp2_with fail
  refine (CF.out _).mono ?_
  rintro e w4 ⟨rfl, rfl⟩
  go_wp2_with fail
  refine (CS.out _).mono ?_
  rintro e w5 ⟨rfl, rfl⟩
  go_wp2_with fail
  refine (CB.out _).mono ?_
  rintro e w6 ⟨rfl, rfl⟩
  go_wp2_with fail
  refine (CU.out _).mono ?_
  rintro e w7 ⟨rfl, rfl⟩
  go_wp2_with fail
  refine (CW.out _).mono ?_
  rintro e w8 ⟨rfl, hb⟩
  have HB8 : Hid (Below w.heap.size w w8) := HB.out.trans (hb.mono HB.out.size)
  clear hb
  go_wp2_with fail
  refine (CP.out _).mono ?_
  rintro e w9 ⟨rfl, rfl⟩
  go_wp2_with fail
  go_returns
  exact ⟨rfl, HB8.out⟩
end Go.Proofs.YtemfecdpjegocaaDoor
