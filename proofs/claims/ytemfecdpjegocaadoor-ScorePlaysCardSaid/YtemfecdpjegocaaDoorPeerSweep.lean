/- The document's board: Sweep; the points of any error. -/
import Derived.Test.YtemfecdpjegocaaDoorPeerRef2
namespace Go.Proofs.YtemfecdpjegocaaDoor
open Go.RowKit Go.Maps
set_option linter.unusedVariables false
set_option linter.unusedSimpArgs false

def ptsZ (e : Int) : Nat := if 0 ≤ e ∧ e < 13 then ptsN e.toNat else 0
set_option maxRecDepth 100000 in
theorem ref_points_any (e : Int) (w : World) : Calls Tryd.prog 11 #[.int .i64 e] w fun en w' => en = .returned (.int .i64 (ptsZ e : Nat)) ∧ w' = w := by
  by_cases h : 0 ≤ e ∧ e < 13
  · obtain ⟨n, rfl⟩ : ∃ n : Nat, e = n := ⟨e.toNat, by omega⟩
    have : ptsZ (n : Int) = ptsN n := by unfold ptsZ; rw [if_pos h]; rfl
    rw [this]
    exact ref_points n (by omega) w
  · have hz : ptsZ e = 0 := by unfold ptsZ; rw [if_neg h]
    rw [hz]
    have e1 : (e == (3 : Int)) = false := by rw [beq_eq_false_iff_ne]; omega
    have e2 : (e == (12 : Int)) = false := by rw [beq_eq_false_iff_ne]; omega
    have e3 : (e == (4 : Int)) = false := by rw [beq_eq_false_iff_ne]; omega
    have e4 : (e == (5 : Int)) = false := by rw [beq_eq_false_iff_ne]; omega
    have e5 : (e == (6 : Int)) = false := by rw [beq_eq_false_iff_ne]; omega
    have e6 : (e == (9 : Int)) = false := by rw [beq_eq_false_iff_ne]; omega
    have e7 : (e == (10 : Int)) = false := by rw [beq_eq_false_iff_ne]; omega
    have e8 : (e == (11 : Int)) = false := by rw [beq_eq_false_iff_ne]; omega
    clear h hz
    go_enter Tryd.func11, Tryd.ntmps11
    go_wp2_with fail
    go_returns
    exact ⟨rfl, rfl⟩
set_option maxRecDepth 100000 in
theorem score_points_any (e : Int) (hw : (Lit.int .i64 e).wf = true) (w : World) (hT : TabP w) : Calls Tryd.prog 21 #[.int .i64 e] w fun en w' => en = .returned (.int .i64 (ptsZ e : Nat)) ∧ w = w' := by
  by_cases h : 0 ≤ e ∧ e < 13
  · obtain ⟨n, rfl⟩ : ∃ n : Nat, e = n := ⟨e.toNat, by omega⟩
    have : ptsZ (n : Int) = ptsN n := by unfold ptsZ; rw [if_pos h]; rfl
    rw [this]
    exact score_points n (by omega) w hT
  · have hz : ptsZ e = 0 := by unfold ptsZ; rw [if_neg h]
    rw [hz]
    have hd : decide (e < 0) = true ∨ (decide (e < 0) = false ∧ decide ((13 : Int) ≤ e) = true) := by
      by_cases c : e < 0
      · exact .inl (by simp; exact c)
      · exact .inr ⟨by simp; omega, by simp; omega⟩
    have hb : -9223372036854775808 ≤ e ∧ e ≤ 9223372036854775807 := by simpa [Lit.wf, IntKind.min, IntKind.max, IntKind.signed, IntKind.bits] using hw
    obtain ⟨hb1, hb2⟩ := hb
    clear h hz hw hT
    rcases hd with d1 | ⟨d1, d2⟩
    all_goals
      go_enter Tryd.func21, Tryd.ntmps21
      go_wp2_with fail
      go_returns
      exact ⟨rfl, rfl⟩

/-- Does a peer stay? -/
def keepQ (H t : Nat) (p : Pr) : Bool := decide (0 < pAt H p.pts p.at_ t) || decide (t < p.til)
theorem sweep_take (f : Pr → Bool) (K : List Pr) (i : Nat) (h : i < K.length) : (K.take (i + 1)).filter f = if f K[i] then (K.take i).filter f ++ [K[i]] else (K.take i).filter f := by
  rw [← List.take_append_getElem h, List.filter_append]
  simp only [List.filter_cons, List.filter_nil]
  split <;> simp_all
def SweepQPost (L H N : Nat) (K : List Pr) (t : Nat) (w : World) (en : Ending) (w' : World) : Prop :=
  ∃ v', en = .returned (.tuple #[.agg #[.int .i64 L, .int .i64 H, .int .i64 N, v'], .int .i64 ((K.length : Int) - ((K.filter (keepQ H t)).length : Int))]) ∧ QV w' v' (K.filter (keepQ H t)) ∧ Below w.heap.size w w' ∧ ∀ b, v'.ownBlock = some b → w.heap.size ≤ b

set_option maxRecDepth 100000 in
set_option maxHeartbeats 2000000 in
theorem doc_sweep {L H N : Nat} {v : Value} {K : List Pr} {w : World} (h : QV w v K) (hK : InvQ K) (hH : 1 ≤ H ∧ H ≤ 1099511627776) (now : Int) :
    Calls Tryd.prog 18 #[.agg #[.int .i64 L, .int .i64 H, .int .i64 N, v], .int .i64 now] w (SweepQPost L H N K (clampN now) w) := by
  obtain ⟨ao, cap, rfl⟩ := h.slice
  obtain ⟨g, hg⟩ : ∃ g, w.heap.size = g := ⟨_, rfl⟩
  obtain ⟨B, hB⟩ : ∃ B, g + 2 = B := ⟨_, rfl⟩
  have hl := hK.len
  have HK := Lib.hid hK
  have CC := Lib.hid (fun W => (doc_clip now W).mono fun e w' (hh : e = _ ∧ w' = W) => (And.intro hh.1 (by rw [hh.2]; exact Below.refl _ _) : e = _ ∧ Below W.heap.size W w'))
  have hcl := clampN_le now
  obtain ⟨t, ht⟩ : ∃ t, clampN now = t := ⟨_, rfl⟩
  have CA : Hid (∀ ao' n' cap' (p : Pr) W, p.pts ≤ 1000000 → p.at_ ≤ 2305843009213693952 → Calls Tryd.prog 29 #[.agg #[.int .i64 L, .int .i64 H, .int .i64 N, .slice ao' n' cap'], .agg p.cs, .int .i64 now] W fun en w' => en = .returned (.int .i64 (pAt H p.pts p.at_ t : Nat)) ∧ Below W.heap.size W w') := fun ao' n' cap' p W h1 h2 => by
    have := doc_at L H N ao' n' cap' p now W hH h1 h2; rwa [ht] at this
  rw [ht] at CC hcl ⊢
  clear ht
  have HW : Hid (∀ W2, (w.alloc (.cells #[.int .i64 L, .int .i64 H, .int .i64 N, .slice ao K.length cap] 43)).alloc (.cells #[.int .i64 0, .int .i64 0, .int .i64 0, .slice none 0 0] 43) = W2 →
      Below g w W2 ∧ Blk W2 g #[.int .i64 L, .int .i64 H, .int .i64 N, .slice ao K.length cap] 43 ∧ Blk W2 (g + 1) #[.int .i64 0, .int .i64 0, .int .i64 0, .slice none 0 0] 43 ∧ QV W2 (.slice ao K.length cap) K ∧ W2.heap.size = B) := fun W2 hW => by
    subst hW
    have h2 := Blk.new (w.alloc (.cells #[.int .i64 L, .int .i64 H, .int .i64 N, .slice ao K.length cap] 43)) #[.int .i64 0, .int .i64 0, .int .i64 0, .slice none 0 0] 43
    rw [World.size_alloc, hg] at h2
    exact ⟨((Below.refl _ _).alloc (by omega) _).alloc (by simp; omega) _, (hg ▸ Blk.new w _ _).alloc _, h2, (h.below ((Below.refl _ _).alloc (Nat.le_refl _) _)).below ((Below.refl _ _).alloc (Nat.le_refl _) _), by simp; omega⟩
  obtain ⟨M, hM⟩ : ∃ M, K.length = M := ⟨_, rfl⟩
  have HF : Hid (∀ v' W, QV W v' (K.filter (keepQ H t)) → Below g w W → (∀ b, v'.ownBlock = some b → g ≤ b) → SweepQPost L H N K t w (.returned (.tuple #[.agg #[.int .i64 L, .int .i64 H, .int .i64 N, v'], .int .i64 ((M : Int) - ((K.filter (keepQ H t)).length : Int))])) W) := fun v' W h1 h2 h3 => ⟨v', by rw [hM], h1, hg ▸ h2, fun b hb => hg ▸ h3 b hb⟩
  rw [hM] at HW hl ⊢
  have HM := Lib.hid hM
  clear h hK hM
  go_enter Tryd.func18, Tryd.ntmps18
  go_wp2_with fail
  generalize (w.alloc (.cells #[.int .i64 L, .int .i64 H, .int .i64 N, .slice ao M cap] 43)).alloc (.cells #[.int .i64 0, .int .i64 0, .int .i64 0, .slice none 0 0] 43) = w1 at *
  have H1 := Lib.hid (HW.out _ rfl)
  clear HW
  go_loopw [6, 7] (fun lv iv wi => ∃ k : Nat, iv = .int .i64 k ∧ k ≤ M ∧ Hid (OwnQ wi B 53 lv ((K.take k).filter (keepQ H t))) ∧ Hid (Below B w1 wi)) (fun _ iv _ => M - (intOf iv).toNat)
  case atStart => exact ⟨0, rfl, by omega, OwnQ.nil _ _ _, Below.refl _ _⟩
  case round =>
    obtain ⟨k, rfl, hk, hown, hbe⟩ := hrel
    have hgB : g < w1.heap.size ∧ g + 1 < w1.heap.size := by have := H1.out.2.2.2.2; omega
    have b0 : wr.cell? ⟨g, 0, none⟩ = some (.int .i64 L) := (Below.blk hbe.out H1.out.2.1 (by omega)).cell 0
    have b1 : wr.cell? ⟨g, 1, none⟩ = some (.int .i64 H) := (Below.blk hbe.out H1.out.2.1 (by omega)).cell 1
    have b2 : wr.cell? ⟨g, 2, none⟩ = some (.int .i64 N) := (Below.blk hbe.out H1.out.2.1 (by omega)).cell 2
    have b3 : wr.cell? ⟨g, 3, none⟩ = some (.slice ao M cap) := (Below.blk hbe.out H1.out.2.1 (by omega)).cell 3
    have hBr : B ≤ wr.heap.size := by have := hbe.out.size; have := H1.out.2.2.2.2; omega
    obtain ⟨lo, lc, hlv⟩ := hown.out.qv.slice
    subst hlv
    by_cases c : k < M
    · have c' : k < K.length := by rw [HM.out]; exact c
      have hq := H1.out.2.2.2.1
      rw [← HM.out] at hq
      obtain ⟨gb, rfl, hlb, x0, x1, x2, x3⟩ := hq.at_ c'
      have hlb2 : gb < B := by have := H1.out.2.2.2.2; omega
      have y0 := (hbe.out.cell (p := ⟨gb, k * 4, none⟩) hlb2).trans x0
      have y1 := (hbe.out.cell (p := ⟨gb, k * 4 + 1, none⟩) hlb2).trans x1
      have y2 := (hbe.out.cell (p := ⟨gb, k * 4 + 2, none⟩) hlb2).trans x2
      have y3 := (hbe.out.cell (p := ⟨gb, k * 4 + 3, none⟩) hlb2).trans x3
      have hst := sweep_take (keepQ H t) K k c'
      have hok := HK.out.ok _ (List.getElem_mem c')
      have hln : ((K.take k).filter (keepQ H t)).length ≤ 1000 := by
        have := List.length_filter_le (keepQ H t) (K.take k)
        rw [List.length_take] at this
        omega
      clear hq x0 x1 x2 x3
      generalize K[k] = q at *
      obtain ⟨qn, qp, qa, qu⟩ := q
      have hca := fun ao' n' cap' W => CA.out ao' n' cap' ⟨qn, qp, qa, qu⟩ W hok.1 hok.2.1
      have htl := hok.2.2.1
      simp only [Pr.cs] at y0 y1 y2 y3 hca htl
      have HCA := Lib.hid hca
      have HST := Lib.hid hst
      have HKQ : Hid (keepQ H t ⟨qn, qp, qa, qu⟩ = (decide (0 < pAt H qp qa t) || decide (t < qu))) := rfl
      clear hca hst hok
      generalize pAt H qp qa t = pz at *
      go_upto_region 6 with fail
      have HWQ : Hid (∀ W, wr.alloc (.cells #[.string qn, .int .i64 qp, .int .i64 qa, .int .i64 qu] 53) = W → OwnQ W B 53 (.slice lo ((K.take k).filter (keepQ H t)).length lc) ((K.take k).filter (keepQ H t)) ∧ Below B w1 W ∧ Blk W wr.heap.size #[.string qn, .int .i64 qp, .int .i64 qa, .int .i64 qu] 53 ∧ B ≤ W.heap.size ∧ Blk W g #[.int .i64 L, .int .i64 H, .int .i64 N, .slice (some ⟨gb, 0, none⟩) M cap] 43) := fun W hW => by
        subst hW
        have hal := (Below.refl wr.heap.size wr).alloc (Nat.le_refl _) (.cells #[.string qn, .int .i64 qp, .int .i64 qa, .int .i64 qu] 53)
        have hbk := Below.blk hbe.out H1.out.2.1 (by omega)
        exact ⟨hown.out.below hal, hbe.out.trans (hal.mono hBr), Blk.new _ _ _, by rw [World.size_alloc]; omega, Below.blk hal hbk hbk.lt⟩
      generalize wr.alloc (.cells #[.string qn, .int .i64 qp, .int .i64 qa, .int .i64 qu] 53) = wq at *
      obtain ⟨o1, o2, o3, o4, o5⟩ := HWQ.out _ rfl
      have HOWN := Lib.hid o1
      have HBE := Lib.hid o2
      have HBP := Lib.hid o3
      have HBG := Lib.hid o5
      have hpl := o3.lt
      have hgl := o5.lt
      clear HWQ o1 o2 o3 o5 hown hbe b0 b1 b2 b3 y0 y1 y2 y3
      generalize wr.heap.size = bp at *
      have z0 := fun x : Fut wq => (Below.blk x.is HBP.out hpl).cell 0
      have z1 := fun x : Fut wq => (Below.blk x.is HBP.out hpl).cell 1
      have z2 := fun x : Fut wq => (Below.blk x.is HBP.out hpl).cell 2
      have z3 := fun x : Fut wq => (Below.blk x.is HBP.out hpl).cell 3
      have u0 := fun x : Fut wq => (Below.blk x.is HBG.out hgl).cell 0
      have u1 := fun x : Fut wq => (Below.blk x.is HBG.out hgl).cell 1
      have u2 := fun x : Fut wq => (Below.blk x.is HBG.out hgl).cell 2
      have u3 := fun x : Fut wq => (Below.blk x.is HBG.out hgl).cell 3
      simp at z0 z1 z2 z3 u0 u1 u2 u3
      have hcase : (decide (0 < pz) = true ∧ keepQ H t ⟨qn, qp, qa, qu⟩ = true) ∨ (decide (0 < pz) = false ∧ decide (t < qu) = true ∧ keepQ H t ⟨qn, qp, qa, qu⟩ = true) ∨ (decide (0 < pz) = false ∧ decide (t < qu) = false ∧ keepQ H t ⟨qn, qp, qa, qu⟩ = false) := by
        rw [HKQ.out]
        by_cases c1 : 0 < pz
        · exact .inl ⟨by simp; omega, by simp [c1]⟩
        · by_cases c2 : t < qu
          · exact .inr (.inl ⟨by simp; omega, by simp [c2], by simp [c2]⟩)
          · exact .inr (.inr ⟨by simp; omega, by simp; omega, by simp [c1, c2]⟩)
      clear HKQ
      rcases hcase with ⟨d1, hk3⟩ | ⟨d1, d2, hk3⟩ | ⟨d1, d2, hk3⟩
      · have HNX : Hid ((K.take (k + 1)).filter (keepQ H t) = (K.take k).filter (keepQ H t) ++ [⟨qn, qp, qa, qu⟩]) := by unfold Hid; rw [HST.out, if_pos hk3]
        clear hk3 HST
        go_wp2_with fail
        refine wp_region_after (by kernel_rfl) (by kernel_rfl) ?_
        repeat (go_big_quiet_step (fail))
        go_big_quiet_step (exact Calls.after (HCA.out _ _ _ _))
        repeat (go_big_quiet_step (fail))
        refine wpQuiet_nil ?_
        intro x
        have HO5 := Lib.hid (HOWN.out.below x.is)
        have HB5 : Hid (Below B w1 x.at_) := HBE.out.trans (x.is.mono o4)
        have HP5 := Lib.hid (Below.blk x.is HBP.out hpl)
        have hB5 : B ≤ x.at_.heap.size := Nat.le_trans o4 x.is.size
        clear z0 z1 z2 z3 u0 u1 u2 u3
        generalize x.at_ = w5 at *
        have q0 : w5.cell? ⟨bp, 0, none⟩ = some (.string qn) := HP5.out.cell 0
        have q1 : w5.cell? ⟨bp, 1, none⟩ = some (.int .i64 qp) := HP5.out.cell 1
        have q2 : w5.cell? ⟨bp, 2, none⟩ = some (.int .i64 qa) := HP5.out.cell 2
        have q3 : w5.cell? ⟨bp, 3, none⟩ = some (.int .i64 qu) := HP5.out.cell 3
        go_wp2_with (at_builtin; refine append_peer peer_types rfl (.tmp 34) (.tmp 36) rfl B _ ((K.take k).filter (keepQ H t)) ⟨qn, qp, qa, qu⟩ w5 _ rfl rfl HO5.out rfl (by omega) hB5 ?_; intro v2 w2 hown2 hb2 hsz2)
        go_roundw
        case rel => exact ⟨k + 1, by go_num, by omega, by rw [HNX.out]; exact hown2, HB5.out.trans hb2⟩
        case measure => simp [intOf]; omega
      · have HNX : Hid ((K.take (k + 1)).filter (keepQ H t) = (K.take k).filter (keepQ H t) ++ [⟨qn, qp, qa, qu⟩]) := by unfold Hid; rw [HST.out, if_pos hk3]
        clear hk3 HST
        go_wp2_with fail
        refine wp_region_after (by kernel_rfl) (by kernel_rfl) ?_
        repeat (go_big_quiet_step (fail))
        go_big_quiet_step (exact Calls.after (HCA.out _ _ _ _))
        repeat (go_big_quiet_step (fail))
        go_big_quiet_step (exact Calls.after (CC.out _))
        repeat (go_big_quiet_step (fail))
        refine wpQuiet_nil ?_
        intro x
        have HO5 := Lib.hid (HOWN.out.below x.is)
        have HB5 : Hid (Below B w1 x.at_) := HBE.out.trans (x.is.mono o4)
        have HP5 := Lib.hid (Below.blk x.is HBP.out hpl)
        have hB5 : B ≤ x.at_.heap.size := Nat.le_trans o4 x.is.size
        clear z0 z1 z2 z3 u0 u1 u2 u3
        generalize x.at_ = w5 at *
        have q0 : w5.cell? ⟨bp, 0, none⟩ = some (.string qn) := HP5.out.cell 0
        have q1 : w5.cell? ⟨bp, 1, none⟩ = some (.int .i64 qp) := HP5.out.cell 1
        have q2 : w5.cell? ⟨bp, 2, none⟩ = some (.int .i64 qa) := HP5.out.cell 2
        have q3 : w5.cell? ⟨bp, 3, none⟩ = some (.int .i64 qu) := HP5.out.cell 3
        go_wp2_with (at_builtin; refine append_peer peer_types rfl (.tmp 34) (.tmp 36) rfl B _ ((K.take k).filter (keepQ H t)) ⟨qn, qp, qa, qu⟩ w5 _ rfl rfl HO5.out rfl (by omega) hB5 ?_; intro v2 w2 hown2 hb2 hsz2)
        go_roundw
        case rel => exact ⟨k + 1, by go_num, by omega, by rw [HNX.out]; exact hown2, HB5.out.trans hb2⟩
        case measure => simp [intOf]; omega
      · have HNX : Hid ((K.take (k + 1)).filter (keepQ H t) = (K.take k).filter (keepQ H t)) := by unfold Hid; rw [HST.out, if_neg (by rw [hk3]; decide)]
        clear hk3 HST
        go_wp2_with fail
        refine wp_region_after (by kernel_rfl) (by kernel_rfl) ?_
        repeat (go_big_quiet_step (fail))
        go_big_quiet_step (exact Calls.after (HCA.out _ _ _ _))
        repeat (go_big_quiet_step (fail))
        go_big_quiet_step (exact Calls.after (CC.out _))
        repeat (go_big_quiet_step (fail))
        refine wpQuiet_nil ?_
        intro x
        have HO5 := Lib.hid (HOWN.out.below x.is)
        have HB5 : Hid (Below B w1 x.at_) := HBE.out.trans (x.is.mono o4)
        clear z0 z1 z2 z3 u0 u1 u2 u3
        generalize x.at_ = w5 at *
        go_wp2_with fail
        go_roundw
        case rel => exact ⟨k + 1, by go_num, by omega, by rw [HNX.out]; exact HO5, HB5⟩
        case measure => simp [intOf]; omega
    · obtain rfl : k = M := by omega
      have hln : ((K.take k).filter (keepQ H t)).length ≤ 1000 := by
        have := List.length_filter_le (keepQ H t) (K.take k)
        rw [List.length_take] at this
        omega
      have htk : K.take k = K := by rw [← HM.out, List.take_length]
      rw [htk] at hown hln ⊢
      obtain ⟨R, hR⟩ : ∃ R, (K.filter (keepQ H t)).length = R := ⟨_, rfl⟩
      rw [hR] at hown hln HF ⊢
      have HK1 := Lib.hid (Below.blk hbe.out H1.out.2.1 (by omega))
      have HK2 := Lib.hid (Below.blk hbe.out H1.out.2.2.1 (by omega))
      have HOWN := Lib.hid hown
      have HBE := Lib.hid hbe
      have f2 := fun i => HK1.out.free i
      have f3 := fun i => HK2.out.free i
      have c0 : wr.cell? ⟨g + 1, 0, none⟩ = some (.int .i64 0) := HK2.out.cell 0
      have c1 : wr.cell? ⟨g + 1, 1, none⟩ = some (.int .i64 0) := HK2.out.cell 1
      have c2 : wr.cell? ⟨g + 1, 2, none⟩ = some (.int .i64 0) := HK2.out.cell 2
      have c3 : wr.cell? ⟨g + 1, 3, none⟩ = some (.slice none 0 0) := HK2.out.cell 3
      clear hown hbe
      go_wp2_with fail
      have e1 := ((((HK2.out.setOther (a := ⟨g, 3, none⟩) (by simp) (.slice lo R lc)).set 0 (.int .i64 L)).set 1 (.int .i64 H)).set 2 (.int .i64 N)).set 3 (.slice lo R lc)
      simp only [List.setIfInBounds_toArray, List.set_cons_zero, List.set_cons_succ] at e1
      have e2 : Below g w (((((wr.setCell ⟨g, 3, none⟩ (.slice lo R lc)).setCell ⟨g + 1, 0, none⟩ (.int .i64 L)).setCell ⟨g + 1, 1, none⟩ (.int .i64 H)).setCell ⟨g + 1, 2, none⟩ (.int .i64 N)).setCell ⟨g + 1, 3, none⟩ (.slice lo R lc)) :=
        (((((H1.out.1.trans (HBE.out.mono (by omega))).setCell (by simp) _).setCell (by simp) _).setCell (by simp) _).setCell (by simp) _).setCell (by simp) _
      have e3 : ∀ b, B ≤ b → (((((wr.setCell ⟨g, 3, none⟩ (.slice lo R lc)).setCell ⟨g + 1, 0, none⟩ (.int .i64 L)).setCell ⟨g + 1, 1, none⟩ (.int .i64 H)).setCell ⟨g + 1, 2, none⟩ (.int .i64 N)).setCell ⟨g + 1, 3, none⟩ (.slice lo R lc)).heap[b]? = wr.heap[b]? := fun b hb => by
        rw [Below.heap_setCell _ _ _ _ (by simp; omega), Below.heap_setCell _ _ _ _ (by simp; omega), Below.heap_setCell _ _ _ _ (by simp; omega), Below.heap_setCell _ _ _ _ (by simp; omega), Below.heap_setCell _ _ _ _ (by simp; omega)]
      generalize ((((wr.setCell ⟨g, 3, none⟩ (.slice lo R lc)).setCell ⟨g + 1, 0, none⟩ (.int .i64 L)).setCell ⟨g + 1, 1, none⟩ (.int .i64 H)).setCell ⟨g + 1, 2, none⟩ (.int .i64 N)).setCell ⟨g + 1, 3, none⟩ (.slice lo R lc) = WF at *
      have d0 := e1.cell 0
      have d1 := e1.cell 1
      have d2 := e1.cell 2
      have d3 := e1.cell 3
      simp at d0 d1 d2 d3
      have e4 : OwnQ WF B 53 (.slice lo R lc) (K.filter (keepQ H t)) := HOWN.out.kept fun b hb => e3 b (HOWN.out.block b hb).1
      refine bodyPost_ret (v := .tuple #[.agg #[.int .i64 L, .int .i64 H, .int .i64 N, .slice lo R lc], .int .i64 ((k : Int) - (R : Int))]) (by simp [results, Tryd.results18, go_sem, d0, d1, d2, d3]) rfl ?_
      exact HF.out _ _ e4.qv e2 (fun b hb => by have := (HOWN.out.block b hb).1; omega)
end Go.Proofs.YtemfecdpjegocaaDoor
