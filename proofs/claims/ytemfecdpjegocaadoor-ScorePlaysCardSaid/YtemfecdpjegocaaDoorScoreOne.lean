/- A board of one peer; alive, ref29.Right, ref29.Points. -/
import Derived.Test.YtemfecdpjegocaaDoorScoreFault
namespace Go.Proofs.YtemfecdpjegocaaDoor
open Go.RowKit
set_option linter.unusedVariables false
set_option linter.unusedSimpArgs false

abbrev PS := Option (Nat × Nat × Nat)
def IsOnly (acc : List UInt8 → Option Acc) : PS → Prop
  | none => acc = fun _ => none
  | some (p, a, u) => ∃ b, acc = putA (fun _ => none) [97] ⟨b, p, a, u⟩
def OB (B bb n L H N : Nat) (w0 w : World) (st : PS) : Prop := ∃ bm sz acc, BoardAt B bb bm n sz L H N w0 w acc ∧ IsOnly acc st
def scoreS (H : Nat) (st : PS) (t : Nat) : Nat := match st with | none => 0 | some (p, a, _) => pAt H p a t
def untilS (st : PS) : Nat := match st with | none => 0 | some (_, _, u) => u
def faultS (L H N : Nat) (st : PS) (t e : Nat) : PS × Nat :=
  if ptsN e = 0 then (st, scoreS H st t)
  else
    let (p, a, u) := st.getD (0, t, 0)
    if L ≤ pAt H p a t + ptsN e then (some (0, max a t, max u (max a t + N)), 0) else (some (pAt H p a t + ptsN e, max a t, u), pAt H p a t + ptsN e)
theorem OB.below {B bb n L H N : Nat} {w0 w : World} {st : PS} (h : OB B bb n L H N w0 w st) : Below B w0 w := let ⟨_, _, _, h, _⟩ := h; h.below
theorem OB.lt {B bb n L H N : Nat} {w0 w : World} {st : PS} (h : OB B bb n L H N w0 w st) : B ≤ bb ∧ bb < w.heap.size := let ⟨_, _, _, h, _⟩ := h; ⟨h.hb.1, h.bd.lt⟩
theorem IsOnly.score {acc : List UInt8 → Option Acc} {st : PS} (h : IsOnly acc st) (H t : Nat) : scoreN H acc [97] t = scoreS H st t := by
  cases st with
  | none => subst h; rfl
  | some x => obtain ⟨p, a, u⟩ := x; obtain ⟨b, rfl⟩ := h; unfold scoreN scoreS; rw [putA_same]
theorem IsOnly.til {acc : List UInt8 → Option Acc} {st : PS} (h : IsOnly acc st) : untilN acc [97] = untilS st := by
  cases st with
  | none => subst h; rfl
  | some x => obtain ⟨p, a, u⟩ := x; obtain ⟨b, rfl⟩ := h; unfold untilN untilS; rw [putA_same]
theorem IsOnly.other {acc : List UInt8 → Option Acc} {st : PS} (h : IsOnly acc st) : untilN acc [98] = 0 := by
  cases st with
  | none => subst h; rfl
  | some x => obtain ⟨p, a, u⟩ := x; obtain ⟨b, rfl⟩ := h; rfl
def txtA : ByteArray := ⟨#[97]⟩
def txtB : ByteArray := ⟨#[98]⟩

theorem ob_score {B bb n L H N : Nat} {w0 w : World} {st : PS} (h : OB B bb n L H N w0 w st) (now : Int) :
    Calls Tryd.prog 10 #[.pointer (some ⟨bb, 0, none⟩), .string ⟨#[97]⟩, .int .i64 now] w fun en w' => en = .returned (.int .i64 (scoreS H st (clampN now) : Nat)) ∧ OB B bb n L H N w0 w' st := by
  obtain ⟨bm, sz, acc, h, ho⟩ := h
  refine (score_score h ⟨#[97]⟩ (by decide) now).mono ?_
  rintro e w' ⟨rfl, k, rfl⟩
  exact ⟨by rw [show (⟨#[97]⟩ : ByteArray).data.toList = [97] from rfl, ho.score], bm, sz, acc, h.drewN k, ho⟩
theorem ob_until {B bb n L H N : Nat} {w0 w : World} {st : PS} (h : OB B bb n L H N w0 w st) :
    Calls Tryd.prog 13 #[.pointer (some ⟨bb, 0, none⟩), .string ⟨#[97]⟩] w fun en w' => en = .returned (.int .i64 (untilS st : Nat)) ∧ w' = w := by
  obtain ⟨bm, sz, acc, h, ho⟩ := h
  refine (score_until h ⟨#[97]⟩ (by decide)).mono ?_
  rintro e w' ⟨rfl, rfl⟩
  exact ⟨by rw [show (⟨#[97]⟩ : ByteArray).data.toList = [97] from rfl, ho.til], rfl⟩
theorem ob_banned {B bb n L H N : Nat} {w0 w : World} {st : PS} (h : OB B bb n L H N w0 w st) (now : Int) :
    Calls Tryd.prog 12 #[.pointer (some ⟨bb, 0, none⟩), .string ⟨#[97]⟩, .int .i64 now] w fun en w' => en = .returned (.bool (decide (clampN now < untilS st))) ∧ w' = w := by
  obtain ⟨bm, sz, acc, h, ho⟩ := h
  refine (score_banned h ⟨#[97]⟩ (by decide) now).mono ?_
  rintro e w' ⟨rfl, rfl⟩
  exact ⟨by rw [show (⟨#[97]⟩ : ByteArray).data.toList = [97] from rfl, ho.til], rfl⟩
theorem ob_bannedB {B bb n L H N : Nat} {w0 w : World} {st : PS} (h : OB B bb n L H N w0 w st) (now : Int) :
    Calls Tryd.prog 12 #[.pointer (some ⟨bb, 0, none⟩), .string ⟨#[98]⟩, .int .i64 now] w fun en w' => en = .returned (.bool false) ∧ w' = w := by
  obtain ⟨bm, sz, acc, h, ho⟩ := h
  refine (score_banned h ⟨#[98]⟩ (by decide) now).mono ?_
  rintro e w' ⟨rfl, rfl⟩
  exact ⟨by rw [show (⟨#[98]⟩ : ByteArray).data.toList = [98] from rfl, ho.other]; simp, rfl⟩

set_option maxRecDepth 100000 in
theorem score_fault_zero {B bb n L H N : Nat} {w0 w : World} {st : PS} (h : OB B bb n L H N w0 w st) (now : Int) (e : Nat) (he : e < 13) (hT : TabP w) (hz : ptsN e = 0) :
    Calls Tryd.prog 9 #[.pointer (some ⟨bb, 0, none⟩), .string ⟨#[97]⟩, .int .i64 now, .int .i64 e] w fun en w' => en = .returned (.int .i64 (scoreS H st (clampN now) : Nat)) ∧ OB B bb n L H N w0 w' st := by
  have CP := Lib.hid (score_points e he w hT)
  have CS := Lib.hid (ob_score h now)
  rw [hz] at CP
  clear hT h hz
  go_enter Tryd.func9, Tryd.ntmps9
  go_wp2_with fail
  refine CP.out.mono ?_
  rintro en w1 ⟨rfl, rfl⟩
  go_wp2_with fail
  refine CS.out.mono ?_
  rintro en w1 ⟨rfl, hb⟩
  go_wp2_with fail
  go_returns
  exact ⟨rfl, hb⟩
theorem ob_mono {B bb n m L H N : Nat} {w0 w : World} {st : PS} (h : OB B bb n L H N w0 w st) (hm : n ≤ m) : OB B bb m L H N w0 w st := by
  obtain ⟨bm, sz, acc, ⟨h1, ⟨D, hD, r⟩, h3, h4, h5, h6, h7, h8⟩, ho⟩ := h
  exact ⟨bm, sz, acc, ⟨h1, ⟨D, hD.mono hm, r⟩, h3, h4, h5, h6, h7, h8⟩, ho⟩
theorem ob_fault {B bb n L H N : Nat} {w0 w : World} {st : PS} (h : OB B bb n L H N w0 w st) (now : Int) (e : Nat) (he : e < 13) (hT : TabP w) (hn : n < maxLen) :
    Calls Tryd.prog 9 #[.pointer (some ⟨bb, 0, none⟩), .string ⟨#[97]⟩, .int .i64 now, .int .i64 e] w fun en w' => en = .returned (.int .i64 ((faultS L H N st (clampN now) e).2 : Nat)) ∧ OB B bb (n + 1) L H N w0 w' (faultS L H N st (clampN now) e).1 := by
  by_cases hz : ptsN e = 0
  · have hf : faultS L H N st (clampN now) e = (st, scoreS H st (clampN now)) := by unfold faultS; rw [if_pos hz]
    rw [hf]
    exact (score_fault_zero h now e he hT hz).mono fun en w' ⟨h1, h2⟩ => ⟨h1, ob_mono h2 (Nat.le_succ _)⟩
  · have hk : (⟨#[97]⟩ : ByteArray).data.toList = [97] := rfl
    obtain ⟨bm, sz, acc, h, ho⟩ := h
    cases st with
    | none =>
      have ho' : acc = fun _ => none := ho
      have ha : acc (⟨#[97]⟩ : ByteArray).data.toList = none := by rw [ho']
      refine (score_fault_new h ⟨#[97]⟩ (by decide) now e he hT (by omega) hn ha).mono ?_
      rintro en w' ⟨n', sz', a0, ⟨h1, h2, h3⟩, rfl, hle, hb⟩
      have hf : (faultS L H N none (clampN now) e).2 = (faultA L H N a0 (clampN now) (ptsN e)).pts ∧ (faultS L H N none (clampN now) e).1 = some ((faultA L H N a0 (clampN now) (ptsN e)).pts, (faultA L H N a0 (clampN now) (ptsN e)).at_, (faultA L H N a0 (clampN now) (ptsN e)).til) := by
        unfold faultS faultA
        rw [if_neg hz, h1, h2, h3]
        simp only [Option.getD_none]
        split <;> exact ⟨rfl, rfl⟩
      rw [hf.1, hf.2]
      refine ⟨rfl, ob_mono ⟨bm, sz', _, hb, (faultA L H N a0 (clampN now) (ptsN e)).blk, ?_⟩ hle⟩
      rw [ho', hk]
    | some x =>
      obtain ⟨p, a, u⟩ := x
      obtain ⟨b, ho'⟩ := ho
      have ha : acc (⟨#[97]⟩ : ByteArray).data.toList = some ⟨b, p, a, u⟩ := by rw [ho', hk, putA_same]
      refine (score_fault_old h ⟨#[97]⟩ (by decide) now e he hT (by omega) hn _ ha).mono ?_
      rintro en w' ⟨n', sz', a0, rfl, rfl, hle, hb⟩
      have hf : (faultS L H N (some (p, a, u)) (clampN now) e).2 = (faultA L H N ⟨b, p, a, u⟩ (clampN now) (ptsN e)).pts ∧ (faultS L H N (some (p, a, u)) (clampN now) e).1 = some ((faultA L H N ⟨b, p, a, u⟩ (clampN now) (ptsN e)).pts, (faultA L H N ⟨b, p, a, u⟩ (clampN now) (ptsN e)).at_, (faultA L H N ⟨b, p, a, u⟩ (clampN now) (ptsN e)).til) := by
        unfold faultS faultA
        rw [if_neg hz]
        simp only [Option.getD_some]
        split <;> exact ⟨rfl, rfl⟩
      rw [hf.1, hf.2]
      refine ⟨rfl, ob_mono ⟨bm, sz', _, hb, (faultA L H N ⟨b, p, a, u⟩ (clampN now) (ptsN e)).blk, ?_⟩ hle⟩
      rw [ho', hk, putA_twice]
theorem ob_new (L H N : Nat) (w : World) (h1 : 1 ≤ L ∧ L ≤ 1000000) (h2 : 1 ≤ H ∧ H ≤ 1099511627776) (h3 : 1 ≤ N ∧ N ≤ 1099511627776) :
    Calls Tryd.prog 8 #[.int .i64 L, .int .i64 H, .int .i64 N] w fun en w' => en = .returned (.tuple #[.pointer (some ⟨w.heap.size + 1, 0, none⟩), .int .i64 0]) ∧ OB w.heap.size (w.heap.size + 1) 0 L H N w w' none :=
  (score_new L H N w h1 h2 h3).mono fun en w' ⟨h1, h2⟩ => ⟨h1, _, _, _, h2, rfl⟩

theorem al1 : faultS 100 10 60 none (clampN 0) 3 = (some (20, 0, 0), 20) := by decide
theorem al2 : scoreS 10 (some (20, 0, 0)) (clampN 10) = 10 := by decide
theorem al3 : faultS 100 10 60 (some (20, 0, 0)) (clampN 10) 9 = (some (0, 10, 70), 0) := by decide

set_option maxRecDepth 100000 in
theorem score_alive (w : World) (hT : TabP w) : Calls Tryd.prog 6 #[] w fun e w' => e = .returned (.bool true) ∧ Below w.heap.size w w' := by
  obtain ⟨B, hB⟩ : ∃ B, w.heap.size = B := ⟨_, rfl⟩
  have hg := hT.lt
  have CN := Lib.hid (ob_new 100 10 60 w (by decide) (by decide) (by decide))
  rw [hB] at hg CN ⊢
  have HT := Lib.hid hT
  clear hT
  go_enter Tryd.func6, Tryd.ntmps6
  go_wp2_with fail
  refine CN.out.mono ?_
  rintro e w1 ⟨rfl, ob1⟩
  have OB1 := Lib.hid ob1
  clear ob1
  have c1 := ob_fault OB1.out 0 3 (by decide) (HT.out.below OB1.out.below hg) (by decide)
  rw [al1] at c1
  have C1 := Lib.hid c1
  clear c1
  go_wp2_with fail
  refine C1.out.mono ?_
  rintro e w2 ⟨rfl, ob2⟩
  have OB2 := Lib.hid ob2
  clear ob2
  have c2 := ob_score OB2.out 10
  rw [al2] at c2
  have C2 := Lib.hid c2
  clear c2
  go_wp2_with fail
  refine C2.out.mono ?_
  rintro e w3 ⟨rfl, ob3⟩
  have OB3 := Lib.hid ob3
  clear ob3
  have c3 := ob_fault OB3.out 10 9 (by decide) (HT.out.below OB3.out.below hg) (by decide)
  rw [al3] at c3
  have C3 := Lib.hid c3
  clear c3
  go_wp2_with fail
  refine C3.out.mono ?_
  rintro e w4 ⟨rfl, ob4⟩
  have OB4 := Lib.hid ob4
  clear ob4
  have c4 := ob_banned OB4.out 69
  have c5 := ob_banned OB4.out 70
  rw [show decide (clampN 69 < untilS (some (0, 10, 70))) = true by decide] at c4
  rw [show decide (clampN 70 < untilS (some (0, 10, 70))) = false by decide] at c5
  have C4 := Lib.hid c4
  have C5 := Lib.hid c5
  clear c4 c5
  go_wp2_with fail
  refine C4.out.mono ?_
  rintro e w5 ⟨rfl, rfl⟩
  go_wp2_with fail
  refine C5.out.mono ?_
  rintro e w5 ⟨rfl, rfl⟩
  go_wp2_with fail
  go_returns
  exact ⟨rfl, OB4.out.below⟩
end Go.Proofs.YtemfecdpjegocaaDoor
