/- What the program does with a board, told by the document's peers. -/
import Derived.Test.YtemfecdpjegocaaDoorPlaysRel
namespace Go.Proofs.YtemfecdpjegocaaDoor
open Go.RowKit Go.Maps
set_option linter.unusedVariables false
set_option linter.unusedSimpArgs false

/-- What a call of the program keeps. -/
structure Kept (B : Nat) (w w' : World) : Prop where
  below : Below B w w'
  kp : ∀ (b : Nat) (cs : Array Value) (t : TypeId), Blk w b cs t → t ≠ 62 → Blk w' b cs t
theorem Kept.of {B : Nat} {w w' : World} (hb : Below w.heap.size w w') (hB : B ≤ w.heap.size) : Kept B w w' :=
  ⟨hb.mono hB, fun b cs t h _ => Below.blk hb h h.lt⟩
theorem Kept.same {B : Nat} {w w' : World} (h : w' = w) : Kept B w w' := h ▸ ⟨Below.refl _ _, fun _ _ _ h _ => h⟩
theorem QV.keptB {B : Nat} {w w' : World} {v : Value} {K : List Pr} (h : QV w v K) (hk : Kept B w w') : QV w' v K := by
  rcases h with ⟨h1, h2⟩ | ⟨g, cap, cs, h1, h2, h3⟩
  · exact .inl ⟨h1, h2⟩
  · exact .inr ⟨g, cap, cs, h1, hk.kp _ _ _ h2 (by decide), h3⟩
def RelB (B bb n L H N : Nat) (w : World) (K : List Pr) : Prop := ∃ bm sz acc, BoardAt B bb bm n sz L H N w w acc ∧ RelQ acc K
theorem RelB.lt {B bb n L H N : Nat} {w : World} {K : List Pr} (h : RelB B bb n L H N w K) : B ≤ bb ∧ bb < w.heap.size := let ⟨_, _, _, h, _⟩ := h; ⟨h.hb.1, h.bd.lt⟩
theorem RelB.more {B bb n m L H N : Nat} {w : World} {K : List Pr} (h : RelB B bb n L H N w K) (hm : n ≤ m) : RelB B bb m L H N w K := let ⟨_, _, _, h, r⟩ := h; ⟨_, _, _, h.more hm, r⟩
theorem RelB.after {B bb n L H N : Nat} {w w' : World} {K : List Pr} (h : RelB B bb n L H N w K) (hb : Below w.heap.size w w') : RelB B bb n L H N w' K := let ⟨_, _, _, h, r⟩ := h; ⟨_, _, _, (h.after hb).here, r⟩
theorem RelB.ofB {B bb bm n sz L H N : Nat} {w0 w : World} {acc : List UInt8 → Option Acc} {K : List Pr} (h : BoardAt B bb bm n sz L H N w0 w acc) (hr : RelQ acc K) : RelB B bb n L H N w K ∧ Kept B w0 w := ⟨⟨_, _, _, h.here, hr⟩, ⟨h.below, h.kp⟩⟩

theorem plays_score {B bb n L H N : Nat} {w : World} {K : List Pr} (h : RelB B bb n L H N w K) (s : ByteArray) (hs : s.size ≤ 100) (now : Int) :
    Calls Tryd.prog 10 #[.pointer (some ⟨bb, 0, none⟩), .string s, .int .i64 now] w fun en w' => en = .returned (.int .i64 (scoreQ H K s (clampN now) : Nat)) ∧ ∃ k, w' = w.drewN k := by
  obtain ⟨bm, sz, acc, h, r⟩ := h
  refine (score_score h s (by unfold maxLen; omega) now).mono ?_
  rintro e w' ⟨rfl, k, rfl⟩
  exact ⟨by rw [← r.score]; rfl, k, rfl⟩
theorem plays_until {B bb n L H N : Nat} {w : World} {K : List Pr} (h : RelB B bb n L H N w K) (s : ByteArray) (hs : s.size ≤ 100) :
    Calls Tryd.prog 13 #[.pointer (some ⟨bb, 0, none⟩), .string s] w fun en w' => en = .returned (.int .i64 (tilQ K s : Nat)) ∧ w' = w := by
  obtain ⟨bm, sz, acc, h, r⟩ := h
  refine (score_until h s (by unfold maxLen; omega)).mono ?_
  rintro e w' ⟨rfl, rfl⟩
  exact ⟨by rw [← r.til]; rfl, rfl⟩
theorem plays_banned {B bb n L H N : Nat} {w : World} {K : List Pr} (h : RelB B bb n L H N w K) (s : ByteArray) (hs : s.size ≤ 100) (now : Int) :
    Calls Tryd.prog 12 #[.pointer (some ⟨bb, 0, none⟩), .string s, .int .i64 now] w fun en w' => en = .returned (.bool (decide (clampN now < tilQ K s))) ∧ w' = w := by
  obtain ⟨bm, sz, acc, h, r⟩ := h
  refine (score_banned h s (by unfold maxLen; omega) now).mono ?_
  rintro e w' ⟨rfl, rfl⟩
  exact ⟨by rw [← r.til]; rfl, rfl⟩
theorem plays_sweep {B bb n L H N : Nat} {w : World} {K : List Pr} (h : RelB B bb n L H N w K) (now : Int) (hn : n ≤ 100000) :
    Calls Tryd.prog 14 #[.pointer (some ⟨bb, 0, none⟩), .int .i64 now] w fun en w' => en = .returned (.int .i64 ((K.length : Int) - ((K.filter (keepQ H (clampN now))).length : Int))) ∧ RelB B bb n L H N w' (K.filter (keepQ H (clampN now))) ∧ Kept B w w' := by
  obtain ⟨bm, sz, acc, h, r⟩ := h
  have hz := h.sz_eq r
  refine (score_sweep h now hn).mono ?_
  rintro e w' ⟨sz', rfl, hb⟩
  have r' := r.swept H (clampN now)
  have hz' := hb.sz_eq r'
  exact ⟨by rw [hz, hz'], RelB.ofB hb r'⟩
theorem plays_peers {B bb n L H N : Nat} {w : World} {K : List Pr} (h : RelB B bb n L H N w K) (hn : n ≤ 100000) :
    Calls Tryd.prog 15 #[.pointer (some ⟨bb, 0, none⟩)] w (PeersPost (K.map nm) w) := by
  obtain ⟨bm, sz, acc, h, r⟩ := h
  exact score_peers h hn r.nd r.keys

theorem Same.fault {p : Pr} {a : Acc} (h : Same p a) (L H N t more : Nat) : Same (faultPr L H N p t more) (faultA L H N a t more) := by
  obtain ⟨h1, h2, h3⟩ := h
  unfold Same faultPr faultA
  rw [h1, h2, h3]
  split <;> exact ⟨rfl, rfl, rfl⟩
theorem faultPr_name (L H N : Nat) (p : Pr) (t more : Nat) : (faultPr L H N p t more).name = p.name := by unfold faultPr; split <;> rfl

set_option maxRecDepth 100000 in
theorem plays_fault_zero {B bb n L H N : Nat} {w : World} {K : List Pr} (h : RelB B bb n L H N w K) (hT : TabP w) (s : ByteArray) (hs : s.size ≤ 100) (now e : Int) (hw : (Lit.int .i64 e).wf = true) (hz : ptsZ e = 0) :
    Calls Tryd.prog 9 #[.pointer (some ⟨bb, 0, none⟩), .string s, .int .i64 now, .int .i64 e] w fun en w' => en = .returned (.int .i64 (scoreQ H K s (clampN now) : Nat)) ∧ ∃ k, w' = w.drewN k := by
  have CP := Lib.hid (score_points_any e hw w hT)
  have CS := Lib.hid (plays_score h s hs now)
  rw [hz] at CP
  clear hT h hz hw
  go_enter Tryd.func9, Tryd.ntmps9
  go_wp2_with fail
  refine CP.out.mono ?_
  rintro en w1 ⟨rfl, rfl⟩
  go_wp2_with fail
  refine CS.out.mono ?_
  rintro en w1 ⟨rfl, hb⟩
  go_wp2_with fail
  go_returns
  exact ⟨rfl, hb⟩
theorem plays_fault {B bb n L H N : Nat} {w : World} {K : List Pr} (h : RelB B bb n L H N w K) (hT : TabP w) (s : ByteArray) (hs : s.size ≤ 100) (now e : Int) (hw : (Lit.int .i64 e).wf = true) (hn : n ≤ 100000) :
    Calls Tryd.prog 9 #[.pointer (some ⟨bb, 0, none⟩), .string s, .int .i64 now, .int .i64 e] w fun en w' => en = .returned (.int .i64 ((faultQ L H N K s (clampN now) e).2 : Nat)) ∧ RelB B bb (n + 1) L H N w' (faultQ L H N K s (clampN now) e).1 ∧ Kept B w w' := by
  by_cases hz : ptsZ e = 0
  · have hf : faultQ L H N K s (clampN now) e = (K, scoreQ H K s (clampN now)) := by unfold faultQ; rw [if_pos hz]
    rw [hf]
    refine (plays_fault_zero h hT s hs now e hw hz).mono ?_
    rintro en w' ⟨rfl, k, rfl⟩
    obtain ⟨bm, sz, acc, h, r⟩ := h
    exact ⟨rfl, (RelB.ofB ((h.drewN k).more (Nat.le_succ _)) r)⟩
  · have he : 0 ≤ e ∧ e < 13 := by
      rcases Classical.em (0 ≤ e ∧ e < 13) with h | h
      · exact h
      · exact absurd (by unfold ptsZ; rw [if_neg h]) hz
    obtain ⟨m, rfl⟩ : ∃ m : Nat, e = m := ⟨e.toNat, by omega⟩
    have hpz : ptsZ (m : Int) = ptsN m := by unfold ptsZ; rw [if_pos he]; rfl
    have hf : faultQ L H N K s (clampN now) m = ((withQ K s (clampN now)).set (idxQ K s) (faultPr L H N ((withQ K s (clampN now))[idxQ K s]'(withQ_idx K s (clampN now))) (clampN now) (ptsN m)), (faultPr L H N ((withQ K s (clampN now))[idxQ K s]'(withQ_idx K s (clampN now))) (clampN now) (ptsN m)).pts) := by
      unfold faultQ; rw [if_neg hz]; simp only [hpz]
    rw [hf]
    rw [hpz] at hz
    obtain ⟨bm, sz, acc, h, r⟩ := h
    have hi := withQ_idx K s (clampN now)
    by_cases c : idxQ K s < K.length
    · obtain ⟨a, ha, hsm⟩ := r.at_idx c
      have hq : (withQ K s (clampN now))[idxQ K s] = K[idxQ K s] := by
        have e : withQ K s (clampN now) = K := by unfold withQ; rw [if_pos c]
        simp only [e]
      rw [hq]
      refine (score_fault_old h s (by unfold maxLen; omega) now m (by omega) hT (by omega) (by unfold maxLen; omega) a ha).mono ?_
      rintro en w' ⟨n', sz', a0, rfl, rfl, hle, hb⟩
      have hsf := hsm.fault L H N (clampN now) (ptsN m)
      have r' := r.put s (clampN now) (by rw [faultPr_name]; exact idxQ_lt c) hsf
      exact ⟨by rw [hsf.1], RelB.ofB (hb.more hle) r'⟩
    · have hq : (withQ K s (clampN now))[idxQ K s] = ⟨s, 0, clampN now, 0⟩ := by
        have e : withQ K s (clampN now) = K ++ [⟨s, 0, clampN now, 0⟩] := by unfold withQ; rw [if_neg c]
        have e2 : idxQ K s = K.length := by have := idxQ_le K s; omega
        simp only [e, e2]
        rw [List.getElem_append_right (Nat.le_refl _)]
        simp only [Nat.sub_self, List.getElem_cons_zero]
      rw [hq]
      refine (score_fault_new h s (by unfold maxLen; omega) now m (by omega) hT (by omega) (by unfold maxLen; omega) ((r.none_iff s).2 c)).mono ?_
      rintro en w' ⟨n', sz', a0, ⟨h1, h2, h3⟩, rfl, hle, hb⟩
      have hsm : Same ⟨s, 0, clampN now, 0⟩ a0 := ⟨h1.symm, h2.symm, h3.symm⟩
      have hsf := hsm.fault L H N (clampN now) (ptsN m)
      have r' := r.put s (clampN now) (p := faultPr L H N ⟨s, 0, clampN now, 0⟩ (clampN now) (ptsN m)) (by rw [faultPr_name]) hsf
      exact ⟨by rw [hsf.1], RelB.ofB (hb.more hle) r'⟩
theorem plays_new (L H N : Nat) (w : World) (h1 : 1 ≤ L ∧ L ≤ 1000000) (h2 : 1 ≤ H ∧ H ≤ 1099511627776) (h3 : 1 ≤ N ∧ N ≤ 1099511627776) :
    Calls Tryd.prog 8 #[.int .i64 L, .int .i64 H, .int .i64 N] w fun en w' => en = .returned (.tuple #[.pointer (some ⟨w.heap.size + 1, 0, none⟩), .int .i64 0]) ∧ RelB w.heap.size (w.heap.size + 1) 0 L H N w' [] ∧ Kept w.heap.size w w' :=
  (score_new L H N w h1 h2 h3).mono fun en w' ⟨h1, h2⟩ => ⟨h1, RelB.ofB h2 RelQ.nil⟩

/-- The document's peers stay small. -/
theorem InvQ.fault {K : List Pr} (h : InvQ K) {L H N : Nat} (hL : L ≤ 1000000) (hN : N ≤ 1099511627776) (hk : K.length ≤ 999) (s : ByteArray) (hs : s.size ≤ 100) (t : Nat) (ht : t ≤ 2305843009213693952) (e : Int)
    (hcap : ∀ p ∈ K, p.pts + 1 ≤ L ∨ p.pts = 0) (hL1 : 1 ≤ L) (hU : ∀ p ∈ K, p.til ≤ 2305843009213693952 + 1099511627776) :
    InvQ (faultQ L H N K s t e).1 ∧ (∀ p ∈ (faultQ L H N K s t e).1, p.pts + 1 ≤ L ∨ p.pts = 0) ∧ (∀ p ∈ (faultQ L H N K s t e).1, p.til ≤ 2305843009213693952 + 1099511627776) ∧ (faultQ L H N K s t e).1.length ≤ K.length + 1 := by
  unfold faultQ
  by_cases hz : ptsZ e = 0
  · rw [if_pos hz]; exact ⟨h, hcap, hU, Nat.le_succ _⟩
  · rw [if_neg hz]
    have hi := withQ_idx K s t
    have hlen : (withQ K s t).length ≤ K.length + 1 := by unfold withQ; split <;> simp
    have hall : ∀ p ∈ withQ K s t, (p.pts ≤ 1000000 ∧ p.at_ ≤ 2305843009213693952 ∧ p.til ≤ 4611686018427387904 ∧ p.name.size ≤ 100) ∧ (p.pts + 1 ≤ L ∨ p.pts = 0) ∧ p.til ≤ 2305843009213693952 + 1099511627776 := by
      unfold withQ
      split
      · exact fun p hp => ⟨h.ok p hp, hcap p hp, hU p hp⟩
      · intro p hp
        rcases List.mem_append.1 hp with hp | hp
        · exact ⟨h.ok p hp, hcap p hp, hU p hp⟩
        · rw [List.mem_singleton.1 hp]
          exact ⟨⟨Nat.zero_le _, ht, Nat.zero_le _, hs⟩, .inr rfl, Nat.zero_le _⟩
    simp only
    have hp := hall _ (List.getElem_mem hi)
    generalize (withQ K s t)[idxQ K s] = q at hp ⊢
    have hnew : ((faultPr L H N q t (ptsZ e)).pts ≤ 1000000 ∧ (faultPr L H N q t (ptsZ e)).at_ ≤ 2305843009213693952 ∧ (faultPr L H N q t (ptsZ e)).til ≤ 4611686018427387904 ∧ (faultPr L H N q t (ptsZ e)).name.size ≤ 100) ∧ ((faultPr L H N q t (ptsZ e)).pts + 1 ≤ L ∨ (faultPr L H N q t (ptsZ e)).pts = 0) ∧ (faultPr L H N q t (ptsZ e)).til ≤ 2305843009213693952 + 1099511627776 := by
      obtain ⟨⟨a1, a2, a3, a4⟩, a5, a6⟩ := hp
      unfold faultPr
      split
      · exact ⟨⟨Nat.zero_le _, by simp only; omega, by simp only; omega, a4⟩, .inr rfl, by simp only; omega⟩
      · exact ⟨⟨by simp only; omega, by simp only; omega, a3, a4⟩, .inl (by simp only; omega), a6⟩
    have hmem : ∀ p ∈ (withQ K s t).set (idxQ K s) (faultPr L H N q t (ptsZ e)), (p.pts ≤ 1000000 ∧ p.at_ ≤ 2305843009213693952 ∧ p.til ≤ 4611686018427387904 ∧ p.name.size ≤ 100) ∧ (p.pts + 1 ≤ L ∨ p.pts = 0) ∧ p.til ≤ 2305843009213693952 + 1099511627776 := by
      intro p hp
      rcases List.mem_or_eq_of_mem_set hp with hp | rfl
      · exact hall p hp
      · exact hnew
    exact ⟨⟨by rw [List.length_set]; omega, fun p hp => (hmem p hp).1⟩, fun p hp => (hmem p hp).2.1, fun p hp => (hmem p hp).2.2, by rw [List.length_set]; exact hlen⟩
end Go.Proofs.YtemfecdpjegocaaDoor
