/- The document's board: Score, Banned. -/
import Derived.Test.YtemfecdpjegocaaDoorPeerRef
namespace Go.Proofs.YtemfecdpjegocaaDoor
open Go.RowKit Go.Maps
set_option linter.unusedVariables false
set_option linter.unusedSimpArgs false

def getQ (K : List Pr) (s : ByteArray) : Option Pr := K[idxQ K s]?
def scoreQ (H : Nat) (K : List Pr) (s : ByteArray) (t : Nat) : Nat := match getQ K s with | none => 0 | some p => pAt H p.pts p.at_ t
def tilQ (K : List Pr) (s : ByteArray) : Nat := match getQ K s with | none => 0 | some p => p.til
/-- What holds of the peers. -/
structure InvQ (K : List Pr) : Prop where
  len : K.length ≤ 1000
  ok : ∀ p ∈ K, p.pts ≤ 1000000 ∧ p.at_ ≤ 2305843009213693952 ∧ p.til ≤ 4611686018427387904 ∧ p.name.size ≤ 100

set_option maxRecDepth 100000 in
set_option maxHeartbeats 1000000 in
theorem doc_score {L H N : Nat} {v : Value} {K : List Pr} {w : World} (h : QV w v K) (hK : InvQ K) (hH : 1 ≤ H ∧ H ≤ 1099511627776) (s : ByteArray) (hs : s.size ≤ 100) (now : Int) :
    Calls Tryd.prog 16 #[.agg #[.int .i64 L, .int .i64 H, .int .i64 N, v], .string s, .int .i64 now] w fun en w' => en = .returned (.int .i64 (scoreQ H K s (clampN now) : Nat)) ∧ Below w.heap.size w w' := by
  obtain ⟨ao, cap, rfl⟩ := h.slice
  obtain ⟨g, hg⟩ : ∃ g, w.heap.size = g := ⟨_, rfl⟩
  have HW : Hid (∀ W, w.alloc (.cells #[.int .i64 L, .int .i64 H, .int .i64 N, .slice ao K.length cap] 43) = W → Below g w W ∧ Blk W g #[.int .i64 L, .int .i64 H, .int .i64 N, .slice ao K.length cap] 43 ∧ QV W (.slice ao K.length cap) K) := fun W hW => by
    subst hW
    have hal := (Below.refl w.heap.size w).alloc (Nat.le_refl _) (.cells #[.int .i64 L, .int .i64 H, .int .i64 N, .slice ao K.length cap] 43)
    exact ⟨hg ▸ hal, hg ▸ Blk.new w _ _, h.below hal⟩
  have CF := Lib.hid (fun W (hq : QV W (.slice ao K.length cap) K) => doc_find (L := L) (H := H) (N := N) hq (by have := hK.len; omega) s (fun p hp => by have := (hK.ok p hp).2.2.2; omega) (by omega))
  have HK := Lib.hid hK
  have hl := hK.len
  clear h hK
  obtain ⟨M, hM⟩ : ∃ M, K.length = M := ⟨_, rfl⟩
  have HMM := Lib.hid hM
  rw [hM] at HW CF hl ⊢
  clear hM
  go_enter Tryd.func16, Tryd.ntmps16
  go_upto_region 1 with fail
  generalize w.alloc (.cells #[.int .i64 L, .int .i64 H, .int .i64 N, .slice ao M cap] 43) = w1 at *
  obtain ⟨hb1, k1, hq1⟩ := HW.out _ rfl
  have HB1 := Lib.hid hb1
  have HQ1 := Lib.hid hq1
  have HK1 := Lib.hid k1
  have x0 : w1.cell? ⟨g, 0, none⟩ = some (.int .i64 L) := k1.cell 0
  have x1 : w1.cell? ⟨g, 1, none⟩ = some (.int .i64 H) := k1.cell 1
  have x2 : w1.cell? ⟨g, 2, none⟩ = some (.int .i64 N) := k1.cell 2
  have x3 : w1.cell? ⟨g, 3, none⟩ = some (.slice ao M cap) := k1.cell 3
  clear HW hb1 k1 hq1
  go_wp2_with fail
  refine (CF.out _ HQ1.out).mono ?_
  rintro e w2 ⟨rfl, hb2⟩
  have HB2 : Hid (Below g w w2) := HB1.out.trans (hb2.mono (by have := HB1.out.size; omega))
  have HK2 := Lib.hid (Below.blk hb2 HK1.out HK1.out.lt)
  have HQ2 := Lib.hid (HQ1.out.below hb2)
  have hgl := HK2.out.lt
  clear hb2 HB1 HK1 HQ1 x0 x1 x2 x3 CF
  unfold findZ
  by_cases c : idxQ K s < K.length
  · rw [if_pos c]
    have hsc : scoreQ H K s (clampN now) = pAt H K[idxQ K s].pts K[idxQ K s].at_ (clampN now) := by unfold scoreQ getQ; rw [List.getElem?_eq_getElem c]
    have HSC := Lib.hid hsc
    have hok := HK.out.ok _ (List.getElem_mem c)
    have cAt := fun ao' (hao : ao' = ao) W => doc_at L H N ao' M cap K[idxQ K s] now W hH hok.1 hok.2.1
    have CAT := Lib.hid (cAt ao rfl)
    have hq2 := HQ2.out
    rw [← HMM.out] at hq2
    obtain ⟨gb, hao, hlb, y0, y1, y2, y3⟩ := hq2.at_ c
    have hbd : Hid (∀ x : Fut w2, x.at_.cell? ⟨gb, idxQ K s * 4, none⟩ = some (.string K[idxQ K s].name) ∧ x.at_.cell? ⟨gb, idxQ K s * 4 + 1, none⟩ = some (.int .i64 K[idxQ K s].pts) ∧ x.at_.cell? ⟨gb, idxQ K s * 4 + 2, none⟩ = some (.int .i64 K[idxQ K s].at_) ∧ x.at_.cell? ⟨gb, idxQ K s * 4 + 3, none⟩ = some (.int .i64 K[idxQ K s].til)) := fun x =>
      ⟨(x.is.cell (p := ⟨gb, _, none⟩) hlb).trans y0, (x.is.cell (p := ⟨gb, _, none⟩) hlb).trans y1, (x.is.cell (p := ⟨gb, _, none⟩) hlb).trans y2, (x.is.cell (p := ⟨gb, _, none⟩) hlb).trans y3⟩
    have hil : idxQ K s < M := by rw [← HMM.out]; exact c
    clear hsc hok cAt hq2 y0 y1 y2 y3
    generalize pAt H K[idxQ K s].pts K[idxQ K s].at_ (clampN now) = R at *
    generalize K[idxQ K s] = q at *
    obtain ⟨qn, qp, qa, qu⟩ := q
    simp only [Pr.cs] at CAT hbd
    generalize idxQ K s = i at *
    subst hao
    have z0 := fun x : Fut w2 => (hbd.out x).1
    have z1 := fun x : Fut w2 => (hbd.out x).2.1
    have z2 := fun x : Fut w2 => (hbd.out x).2.2.1
    have z3 := fun x : Fut w2 => (hbd.out x).2.2.2
    have u0 := fun x : Fut w2 => (Below.blk x.is HK2.out hgl).cell 0
    have u1 := fun x : Fut w2 => (Below.blk x.is HK2.out hgl).cell 1
    have u2 := fun x : Fut w2 => (Below.blk x.is HK2.out hgl).cell 2
    have u3 := fun x : Fut w2 => (Below.blk x.is HK2.out hgl).cell 3
    simp at u0 u1 u2 u3
    go_wp2_with fail
    refine wp_region_after (by kernel_rfl) (by kernel_rfl) ?_
    repeat (go_big_quiet_step (fail))
    go_big_quiet_step (exact Calls.after (CAT.out _))
    repeat (go_big_quiet_step (fail))
    refine wpQuiet_nil ?_
    intro x
    have HBX : Hid (Below g w x.at_) := HB2.out.trans (x.is.mono (by omega))
    clear z0 z1 z2 z3 u0 u1 u2 u3 hbd
    go_wp2_with fail
    go_returns
    exact ⟨by rw [HSC.out]; rfl, hg ▸ HBX.out⟩
  · rw [if_neg c]
    have HSC : Hid (scoreQ H K s (clampN now) = 0) := by unfold Hid scoreQ getQ; rw [List.getElem?_eq_none (by omega)]
    clear c
    go_wp2_with fail
    go_returns
    exact ⟨by rw [HSC.out]; rfl, hg ▸ HB2.out⟩

set_option maxRecDepth 100000 in
set_option maxHeartbeats 1000000 in
theorem doc_banned {L H N : Nat} {v : Value} {K : List Pr} {w : World} (h : QV w v K) (hK : InvQ K) (hH : 1 ≤ H ∧ H ≤ 1099511627776) (s : ByteArray) (hs : s.size ≤ 100) (now : Int) :
    Calls Tryd.prog 17 #[.agg #[.int .i64 L, .int .i64 H, .int .i64 N, v], .string s, .int .i64 now] w fun en w' => en = .returned (.bool (decide (clampN now < tilQ K s))) ∧ Below w.heap.size w w' := by
  obtain ⟨ao, cap, rfl⟩ := h.slice
  obtain ⟨g, hg⟩ : ∃ g, w.heap.size = g := ⟨_, rfl⟩
  have HW : Hid (∀ W, w.alloc (.cells #[.int .i64 L, .int .i64 H, .int .i64 N, .slice ao K.length cap] 43) = W → Below g w W ∧ Blk W g #[.int .i64 L, .int .i64 H, .int .i64 N, .slice ao K.length cap] 43 ∧ QV W (.slice ao K.length cap) K) := fun W hW => by
    subst hW
    have hal := (Below.refl w.heap.size w).alloc (Nat.le_refl _) (.cells #[.int .i64 L, .int .i64 H, .int .i64 N, .slice ao K.length cap] 43)
    exact ⟨hg ▸ hal, hg ▸ Blk.new w _ _, h.below hal⟩
  have CF := Lib.hid (fun W (hq : QV W (.slice ao K.length cap) K) => doc_find (L := L) (H := H) (N := N) hq (by have := hK.len; omega) s (fun p hp => by have := (hK.ok p hp).2.2.2; omega) (by omega))
  have HK := Lib.hid hK
  have hl := hK.len
  clear h hK
  obtain ⟨M, hM⟩ : ∃ M, K.length = M := ⟨_, rfl⟩
  have HMM := Lib.hid hM
  rw [hM] at HW CF hl ⊢
  clear hM
  go_enter Tryd.func17, Tryd.ntmps17
  go_upto_region 1 with fail
  generalize w.alloc (.cells #[.int .i64 L, .int .i64 H, .int .i64 N, .slice ao M cap] 43) = w1 at *
  obtain ⟨hb1, k1, hq1⟩ := HW.out _ rfl
  have HB1 := Lib.hid hb1
  have HQ1 := Lib.hid hq1
  have HK1 := Lib.hid k1
  have x0 : w1.cell? ⟨g, 0, none⟩ = some (.int .i64 L) := k1.cell 0
  have x1 : w1.cell? ⟨g, 1, none⟩ = some (.int .i64 H) := k1.cell 1
  have x2 : w1.cell? ⟨g, 2, none⟩ = some (.int .i64 N) := k1.cell 2
  have x3 : w1.cell? ⟨g, 3, none⟩ = some (.slice ao M cap) := k1.cell 3
  clear HW hb1 k1 hq1
  go_wp2_with fail
  refine (CF.out _ HQ1.out).mono ?_
  rintro e w2 ⟨rfl, hb2⟩
  have HB2 : Hid (Below g w w2) := HB1.out.trans (hb2.mono (by have := HB1.out.size; omega))
  have HK2 := Lib.hid (Below.blk hb2 HK1.out HK1.out.lt)
  have HQ2 := Lib.hid (HQ1.out.below hb2)
  have hgl := HK2.out.lt
  clear hb2 HB1 HK1 HQ1 x0 x1 x2 x3 CF
  unfold findZ
  by_cases c : idxQ K s < K.length
  · rw [if_pos c]
    have hsc : tilQ K s = K[idxQ K s].til := by unfold tilQ getQ; rw [List.getElem?_eq_getElem c]
    have HSC := Lib.hid hsc
    have hok := HK.out.ok _ (List.getElem_mem c)
    have CC := Lib.hid (fun W => (doc_clip now W).mono fun e w' (hh : e = _ ∧ w' = W) => (And.intro hh.1 (by rw [hh.2]; exact Below.refl _ _) : e = _ ∧ Below W.heap.size W w'))
    have hcl := clampN_le now
    have hq2 := HQ2.out
    rw [← HMM.out] at hq2
    obtain ⟨gb, hao, hlb, y0, y1, y2, y3⟩ := hq2.at_ c
    have z3 : ∀ x : Fut w2, x.at_.cell? ⟨gb, idxQ K s * 4 + 3, none⟩ = some (.int .i64 K[idxQ K s].til) := fun x => (x.is.cell (p := ⟨gb, _, none⟩) hlb).trans y3
    have hil : idxQ K s < M := by rw [← HMM.out]; exact c
    have hge : decide (0 ≤ ((idxQ K s : Nat) : Int)) = true := by simp
    clear hsc hq2 y0 y1 y2 y3
    have htl := hok.2.2.1
    clear hok
    generalize K[idxQ K s] = q at *
    obtain ⟨qn, qp, qa, qu⟩ := q
    simp only at z3 HSC htl
    obtain ⟨t, ht⟩ : ∃ t, clampN now = t := ⟨_, rfl⟩
    have HT : Hid (decide (clampN now < tilQ K s) = decide (t < qu)) := by rw [HSC.out, ht]; rfl
    rw [ht] at CC hcl
    clear ht
    generalize idxQ K s = i at *
    subst hao
    have u3 := fun x : Fut w2 => (Below.blk x.is HK2.out hgl).cell 3
    simp at u3
    go_wp2_with fail
    refine wp_region_after (by kernel_rfl) (by kernel_rfl) ?_
    repeat (go_big_quiet_step (fail))
    go_big_quiet_step (exact Calls.after (CC.out _))
    repeat (go_big_quiet_step (fail))
    refine wpQuiet_nil ?_
    intro x
    have HBX : Hid (Below g w x.at_) := HB2.out.trans (x.is.mono (by omega))
    clear z3 u3
    go_wp2_with fail
    go_returns
    exact ⟨by rw [HT.out]; rfl, hg ▸ HBX.out⟩
  · rw [if_neg c]
    have HSC : Hid (decide (clampN now < tilQ K s) = false) := by unfold Hid tilQ getQ; rw [List.getElem?_eq_none (by omega)]; simp
    clear c
    go_wp2_with fail
    refine wp_region_after (by kernel_rfl) (by kernel_rfl) ?_
    repeat (go_big_quiet_step (fail))
    refine wpQuiet_nil ?_
    intro x
    have HBX : Hid (Below g w x.at_) := HB2.out.trans (x.is.mono (by omega))
    go_wp2_with fail
    go_returns
    exact ⟨by rw [HSC.out]; rfl, hg ▸ HBX.out⟩
end Go.Proofs.YtemfecdpjegocaaDoor
