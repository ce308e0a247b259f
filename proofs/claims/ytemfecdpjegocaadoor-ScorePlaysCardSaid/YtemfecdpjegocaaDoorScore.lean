/- The walks of package score. -/
import Derived.Test.YtemfecdpjegocaaDoorChecked
import Derived.Test.YtemfecdpjegocaaDoorScorePlain
import Derived.Test.YtemfecdpjegocaaDoorPMap
import Derived.Test.YtemfecdpjegocaaDoorTail
import Derived.WalkSpells
namespace Go.Proofs.YtemfecdpjegocaaDoor
open Go.RowKit
set_option linter.unusedVariables false
set_option linter.unusedSimpArgs false

theorem pts_types : PTypes Tryd.prog 56 9 60 := ⟨Tryd.underlying56, Tryd.underlying9, fun _ => by kernel_rfl⟩

/-- The table of the points. -/
def TabP (w : World) : Prop := ∀ i, i < 13 → w.cell? ⟨0, i, none⟩ = some (.int .i64 (ptsN i : Nat))
theorem TabP.lt {w : World} (h : TabP w) : 0 < w.heap.size := by
  rcases Nat.lt_or_ge 0 w.heap.size with h' | h'
  · exact h'
  · have := h 0 (by omega)
    simp [World.cell?, Array.getElem?_eq_none h'] at this
theorem TabP.below {w w' : World} {B : Nat} (h : TabP w) (hb : Below B w w') (hB : 0 < B) : TabP w' := fun i hi => (hb.cell (p := ⟨_, i, none⟩) hB).trans (h i hi)

set_option maxRecDepth 100000 in
theorem score_points (e : Nat) (he : e < 13) (w : World) (hT : TabP w) : Calls Tryd.prog 21 #[.int .i64 e] w fun en w' => en = .returned (.int .i64 (ptsN e : Nat)) ∧ w = w' := by
  have h1 := hT e he
  have d0 : decide ((e : Int) < 0) = false := by simp
  have d1 : decide (13 ≤ (e : Int)) = false := by simp; omega
  generalize ptsN e = z at *
  clear hT
  go_enter Tryd.func21, Tryd.ntmps21
  go_wp2_with fail
  go_returns
  exact ⟨rfl, rfl⟩

set_option maxRecDepth 100000 in
theorem score_clamp (now : Int) (w : World) : Calls Tryd.prog 23 #[.int .i64 now] w fun en w' => en = .returned (.int .i64 (clampN now : Nat)) ∧ w = w' := by
  have hc : (clampN now : Int) = if now < 0 then 0 else if 2305843009213693952 < now then 2305843009213693952 else now := by
    unfold clampN; split
    · rfl
    · split
      · rfl
      · omega
  go_enter Tryd.func23, Tryd.ntmps23
  go_wp2_with fail
  all_goals
    go_returns
    exact ⟨rfl, rfl⟩

set_option maxRecDepth 100000 in
theorem score_at (bb ba H pts at_ now : Nat) (w : World) (hH : 1 ≤ H) (hp : pts ≤ 2000000) (ha : at_ ≤ 2305843009213693952) (hn : now ≤ 2305843009213693952)
    (c0 : w.cell? ⟨ba, 0, none⟩ = some (.int .i64 pts)) (c1 : w.cell? ⟨ba, 1, none⟩ = some (.int .i64 at_)) (c2 : w.cell? ⟨bb, 1, none⟩ = some (.int .i64 H)) :
    Calls Tryd.prog 24 #[.pointer (some ⟨bb, 0, none⟩), .pointer (some ⟨ba, 0, none⟩), .int .i64 now] w fun en w' => en = .returned (.int .i64 (pAt H pts at_ now : Nat)) ∧ ∃ n, w' = w.drewN n := by
  by_cases h : now ≤ at_
  · have e1 : pAt H pts at_ now = pts := by unfold pAt; rw [if_pos h]
    rw [e1]
    go_enter Tryd.func24, Tryd.ntmps24
    go_wp2_with fail
    go_returns
    exact ⟨rfl, 0, rfl⟩
  · have e1 : pAt H pts at_ now = pts / 2 ^ halfN H (now - at_) := by unfold pAt; rw [if_neg h]
    obtain ⟨q, hq⟩ : ∃ q, q = (now - at_) / H := ⟨_, rfl⟩
    obtain ⟨m, hm⟩ : ∃ m, m = halfN H (now - at_) := ⟨_, rfl⟩
    have hm1 : (q ≤ 62 ∧ m = q) ∨ (62 < q ∧ m = 62) := by
      rw [hm, hq]; unfold halfN; split <;> omega
    have hq1 : ((now : Int) - (at_ : Int)) / (H : Int) = (q : Int) := by
      rw [hq, show (now : Int) - (at_ : Int) = ((now - at_ : Nat) : Int) by omega, Int.natCast_ediv]
    rw [e1, ← hm]
    clear e1 hm hq
    have p62 : (2 : Int) ^ 62 = 4611686018427387904 := by decide
    rcases hm1 with ⟨h62, rfl⟩ | ⟨h62, rfl⟩
    · go_enter Tryd.func24, Tryd.ntmps24
      go_wp2_with fail
      go_quiet (fail)
      go_wp2_with fail
      go_returns
      exact ⟨rfl, _, rfl⟩
    · go_enter Tryd.func24, Tryd.ntmps24
      go_wp2_with fail
      go_quiet (fail)
      go_wp2_with fail
      go_returns
      exact ⟨rfl, _, rfl⟩

def accV (a : Acc) : Array Value := #[.int .i64 (a.pts : Nat), .int .i64 (a.at_ : Nat), .int .i64 (a.til : Nat)]
/-- The board in memory. -/
structure BoardAt (B bb bm n sz L H N : Nat) (w0 w : World) (acc : List UInt8 → Option Acc) : Prop where
  bd : Blk w bb #[.int .i64 L, .int .i64 H, .int .i64 N, .map (some bm)] 58
  mp : PMap Tryd.prog 9 w bm n sz (fun k => (acc k).map Acc.blk)
  ac : ∀ k a, acc k = some a → (Blk w a.blk (accV a) 62 ∧ B ≤ a.blk ∧ a.blk ≠ bb ∧ a.blk ≠ bm) ∧ a.pts ≤ 1000000 ∧ a.at_ ≤ 2305843009213693952 ∧ a.til ≤ 4611686018427387904
  inj : ∀ k k' a a', acc k = some a → acc k' = some a' → a.blk = a'.blk → k = k'
  below : Below B w0 w
  hb : B ≤ bb ∧ B ≤ bm ∧ bb ≠ bm
  lim : L ≤ 1000000 ∧ 1 ≤ H ∧ H ≤ 1099511627776 ∧ N ≤ 1099511627776
  kp : ∀ (b : Nat) (cs : Array Value) (t : TypeId), Blk w0 b cs t → t ≠ 62 → Blk w b cs t

theorem BoardAt.drewN {B bb bm n sz L H N : Nat} {w0 w : World} {acc : List UInt8 → Option Acc} (h : BoardAt B bb bm n sz L H N w0 w acc) (k : Nat) : BoardAt B bb bm n sz L H N w0 (w.drewN k) acc :=
  ⟨h.bd, h.mp, h.ac, h.inj, ⟨h.below.os, h.below.tape, h.below.output, h.below.size, h.below.block⟩, h.hb, h.lim, h.kp⟩
def scoreN (H : Nat) (acc : List UInt8 → Option Acc) (s : List UInt8) (now : Nat) : Nat := match acc s with | none => 0 | some a => pAt H a.pts a.at_ now
def untilN (acc : List UInt8 → Option Acc) (s : List UInt8) : Nat := match acc s with | none => 0 | some a => a.til

set_option maxRecDepth 100000 in
theorem score_score {B bb bm n sz L H N : Nat} {w0 w : World} {acc : List UInt8 → Option Acc} (h : BoardAt B bb bm n sz L H N w0 w acc) (s : ByteArray) (hs : s.size ≤ maxLen) (now : Int) :
    Calls Tryd.prog 10 #[.pointer (some ⟨bb, 0, none⟩), .string s, .int .i64 now] w fun en w' => en = .returned (.int .i64 (scoreN H acc s.data.toList (clampN now) : Nat)) ∧ ∃ k, w' = w.drewN k := by
  have hl := h.mp.look pts_types s hs
  have c3 : w.cell? ⟨bb, 3, none⟩ = some (.map (some bm)) := h.bd.cell 3
  have c1 : w.cell? ⟨bb, 1, none⟩ = some (.int .i64 H) := h.bd.cell 1
  have CC := Lib.hid (fun w => score_clamp now w)
  have hcl := clampN_le now
  generalize clampN now = t at *
  unfold scoreN
  cases ha : acc s.data.toList with
  | none =>
    rw [ha] at hl
    simp only [Option.map_none, pv] at hl ⊢
    go_enter Tryd.func10, Tryd.ntmps10
    go_wp2_with fail
    go_returns
    exact ⟨rfl, 0, rfl⟩
  | some a =>
    rw [ha] at hl
    simp only [Option.map_some, pv] at hl ⊢
    obtain ⟨⟨hk, _, _, _⟩, hp, ht, _⟩ := h.ac _ a ha
    have k0 : w.cell? ⟨a.blk, 0, none⟩ = some (.int .i64 (a.pts : Nat)) := hk.cell 0
    have k1 : w.cell? ⟨a.blk, 1, none⟩ = some (.int .i64 (a.at_ : Nat)) := hk.cell 1
    have CA := Lib.hid (score_at bb a.blk H a.pts a.at_ t w h.lim.2.1 (by omega) ht hcl k0 k1 c1)
    clear k0 k1 c1
    go_enter Tryd.func10, Tryd.ntmps10
    go_wp2_with fail
    refine (CC.out _).mono ?_
    rintro e w1 ⟨rfl, rfl⟩
    go_wp2_with fail
    refine CA.out.mono ?_
    rintro e w1 ⟨rfl, k, rfl⟩
    go_wp2_with fail
    go_returns
    exact ⟨rfl, k, rfl⟩

set_option maxRecDepth 100000 in
theorem score_until {B bb bm n sz L H N : Nat} {w0 w : World} {acc : List UInt8 → Option Acc} (h : BoardAt B bb bm n sz L H N w0 w acc) (s : ByteArray) (hs : s.size ≤ maxLen) :
    Calls Tryd.prog 13 #[.pointer (some ⟨bb, 0, none⟩), .string s] w fun en w' => en = .returned (.int .i64 (untilN acc s.data.toList : Nat)) ∧ w' = w := by
  have hl := h.mp.look pts_types s hs
  have c3 : w.cell? ⟨bb, 3, none⟩ = some (.map (some bm)) := h.bd.cell 3
  unfold untilN
  cases ha : acc s.data.toList with
  | none =>
    rw [ha] at hl
    simp only [Option.map_none, pv] at hl ⊢
    go_enter Tryd.func13, Tryd.ntmps13
    go_wp2_with fail
    go_returns
    exact ⟨rfl, rfl⟩
  | some a =>
    rw [ha] at hl
    simp only [Option.map_some, pv] at hl ⊢
    obtain ⟨⟨hk, _, _, _⟩, hp, ht, _⟩ := h.ac _ a ha
    have k2 : w.cell? ⟨a.blk, 2, none⟩ = some (.int .i64 (a.til : Nat)) := hk.cell 2
    go_enter Tryd.func13, Tryd.ntmps13
    go_wp2_with fail
    go_returns
    exact ⟨rfl, rfl⟩

set_option maxRecDepth 100000 in
theorem score_banned {B bb bm n sz L H N : Nat} {w0 w : World} {acc : List UInt8 → Option Acc} (h : BoardAt B bb bm n sz L H N w0 w acc) (s : ByteArray) (hs : s.size ≤ maxLen) (now : Int) :
    Calls Tryd.prog 12 #[.pointer (some ⟨bb, 0, none⟩), .string s, .int .i64 now] w fun en w' => en = .returned (.bool (decide (clampN now < untilN acc s.data.toList))) ∧ w' = w := by
  have CC := Lib.hid (score_clamp now w)
  have CU := Lib.hid (score_until h s hs)
  generalize clampN now = t at *
  generalize untilN acc s.data.toList = u at *
  go_enter Tryd.func12, Tryd.ntmps12
  go_wp2_with fail
  refine CC.out.mono ?_
  rintro e w1 ⟨rfl, rfl⟩
  go_wp2_with fail
  refine CU.out.mono ?_
  rintro e w1 ⟨rfl, rfl⟩
  go_wp2_with fail
  go_returns
  exact ⟨by simp, rfl⟩
end Go.Proofs.YtemfecdpjegocaaDoor
