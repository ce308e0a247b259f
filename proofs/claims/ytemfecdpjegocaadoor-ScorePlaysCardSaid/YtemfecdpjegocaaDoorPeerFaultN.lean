/- The Fault of a peer that does not stand yet, as the document has it: printed by peerfault.py. -/
import Derived.Test.YtemfecdpjegocaaDoorPeerFault
namespace Go.Proofs.YtemfecdpjegocaaDoor
open Go.RowKit Go.Maps
set_option linter.unusedVariables false
set_option linter.unusedSimpArgs false

set_option maxRecDepth 100000 in
set_option maxHeartbeats 8000000 in
theorem doc_fault_new {L H N : Nat} {v : Value} {K : List Pr} {w : World} (h : QV w v K) (hK : InvQ K) (hL : L ≤ 1000000) (hH : 1 ≤ H ∧ H ≤ 1099511627776) (hN : N ≤ 1099511627776) (s : ByteArray) (hs : s.size ≤ 100) (now e : Int) (hz : ptsZ e ≠ 0) (c : ¬ idxQ K s < K.length) :
    Calls Tryd.prog 19 #[.agg #[.int .i64 L, .int .i64 H, .int .i64 N, v], .string s, .int .i64 now, .int .i64 e] w (FaultQPost L H N K s (clampN now) e v w) := by
  obtain ⟨ao, cap, rfl⟩ := h.slice
  obtain ⟨g, hg⟩ : ∃ g, w.heap.size = g := ⟨_, rfl⟩
  obtain ⟨B, hB⟩ : ∃ B, g + 2 = B := ⟨_, rfl⟩
  have hcl := clampN_le now
  obtain ⟨t, ht⟩ : ∃ t, clampN now = t := ⟨_, rfl⟩
  have HF : Hid (∀ (hx : idxQ K s < (withQ K s t).length) v' W, QV W v' ((withQ K s t).set (idxQ K s) (faultPr L H N ((withQ K s t)[idxQ K s]'hx) t (ptsZ e))) → Below g w W → (∀ b, v'.ownBlock = some b → g ≤ b) →
      FaultQPost L H N K s t e (.slice ao K.length cap) w (.returned (.tuple #[.agg #[.int .i64 L, .int .i64 H, .int .i64 N, v'], .int .i64 ((faultPr L H N ((withQ K s t)[idxQ K s]'hx) t (ptsZ e)).pts : Nat)])) W) := fun hx v' W h1 h2 h3 => by
    have he : faultQ L H N K s t e = ((withQ K s t).set (idxQ K s) (faultPr L H N ((withQ K s t)[idxQ K s]'(withQ_idx K s t)) t (ptsZ e)), (faultPr L H N ((withQ K s t)[idxQ K s]'(withQ_idx K s t)) t (ptsZ e)).pts) := by unfold faultQ; rw [if_neg hz]
    refine ⟨v', ?_, ?_, hg ▸ h2, fun b hb => .inr (hg ▸ h3 b hb)⟩
    · rw [he]
    · rw [he]; exact h1
  have HW : Hid (∀ W2, (w.alloc (.cells #[.int .i64 L, .int .i64 H, .int .i64 N, .slice ao K.length cap] 43)).alloc (.cells #[.int .i64 0, .int .i64 0, .int .i64 0, .slice none 0 0] 43) = W2 →
      Below g w W2 ∧ Blk W2 g #[.int .i64 L, .int .i64 H, .int .i64 N, .slice ao K.length cap] 43 ∧ Blk W2 (g + 1) #[.int .i64 0, .int .i64 0, .int .i64 0, .slice none 0 0] 43 ∧ QV W2 (.slice ao K.length cap) K ∧ W2.heap.size = B) := fun W2 hW => by
    subst hW
    have h2 := Blk.new (w.alloc (.cells #[.int .i64 L, .int .i64 H, .int .i64 N, .slice ao K.length cap] 43)) #[.int .i64 0, .int .i64 0, .int .i64 0, .slice none 0 0] 43
    rw [World.size_alloc, hg] at h2
    exact ⟨((Below.refl _ _).alloc (by omega) _).alloc (by simp; omega) _, (hg ▸ Blk.new w _ _).alloc _, h2, (h.below ((Below.refl _ _).alloc (Nat.le_refl _) _)).below ((Below.refl _ _).alloc (Nat.le_refl _) _), by simp; omega⟩
  have CP := Lib.hid (fun W => ref_points_any e W)
  have CC := Lib.hid (fun W => doc_clip now W)
  have CF := Lib.hid (fun W (hq : QV W (.slice ao K.length cap) K) => doc_find (L := L) (H := H) (N := N) hq (by have := hK.len; omega) s (fun p hp => by have := (hK.ok p hp).2.2.2; omega) (by omega))
  have HK := Lib.hid hK
  have hl := hK.len
  have hmz : ((ptsZ e : Int) == 0) = false := by simp; exact hz
  have hml : ptsZ e ≤ 100 := by unfold ptsZ; split; exact ptsN_le _; omega
  rw [ht] at CC hcl ⊢
  obtain ⟨M, hM⟩ : ∃ M, K.length = M := ⟨_, rfl⟩
  have HM := Lib.hid hM
  have HX := Lib.hid (And.intro (withQ_idx K s t) (idxQ_le K s))
  rw [hM] at HF HW CF hl ⊢
  generalize ptsZ e = more at *
  clear h hK hM hz
  go_enter Tryd.func19, Tryd.ntmps19
  go_wp2_with fail
  generalize (w.alloc (.cells #[.int .i64 L, .int .i64 H, .int .i64 N, .slice ao M cap] 43)).alloc (.cells #[.int .i64 0, .int .i64 0, .int .i64 0, .slice none 0 0] 43) = w1 at *
  have H1 := Lib.hid (HW.out _ rfl)
  clear HW
  refine (CP.out _).mono ?_
  rintro en w2 ⟨rfl, rfl⟩
  have hsz2 := H1.out.2.2.2.2
  have b3 : (w2.alloc (.cells #[] 53)).cell? ⟨g, 3, none⟩ = some (.slice ao M cap) := (Blk.alloc H1.out.2.1 _).cell 3
  have ho0 : OwnQ (w2.alloc (.cells #[] 53)) B 53 (.slice (some ⟨B, 0, none⟩) 0 0) [] := hsz2 ▸ ⟨by simp [rcells], .inr ⟨w2.heap.size, 0, #[], rfl, by omega, heap_alloc_new w2 _, Nat.le_refl _, by unfold maxLen; omega, rfl, rfl⟩⟩
  have hq0 : QV (w2.alloc (.cells #[] 53)) (.slice ao M cap) K := H1.out.2.2.2.1.below ((Below.refl _ _).alloc (Nat.le_refl _) _)
  have HO := Lib.hid (And.intro ho0 hq0)
  clear ho0 hq0
  go_upto_region 4 with (at_builtin; refine wpList_append_qv peer_types rfl (.tmp 21) (.tmp 23) rfl (B := B) (L := []) (M := K) rfl HO.out.1 rfl HO.out.2 (by rw [HM.out]; simp; omega) (by rw [World.size_alloc]; omega) ?_; intro v3 w3 hown3 hb3; rw [List.nil_append] at hown3)
  have HB3 : Hid (Below B w2 w3) := ((Below.refl _ _).alloc (by omega) _).trans hb3
  have HOWN3 := Lib.hid hown3
  obtain ⟨lo, lc, hlv⟩ := hown3.qv.slice
  rw [HM.out] at hlv
  subst hlv
  have HBG3 := Lib.hid (Below.blk HB3.out H1.out.2.1 (by omega))
  have HBR3 := Lib.hid (Below.blk HB3.out H1.out.2.2.1 (by omega))
  have HQV3 : Hid (QV w3 (.slice ao M cap) K) := H1.out.2.2.2.1.below (HB3.out.mono (by omega))
  have HBL3 : Hid (Below g w w3) := H1.out.1.trans (HB3.out.mono (by omega))
  have hB3 : B ≤ w3.heap.size := by have := HB3.out.size; omega
  clear hown3 hb3 HO b3
  have b0 : w3.cell? ⟨g, 0, none⟩ = some (.int .i64 L) := HBG3.out.cell 0
  have b1 : w3.cell? ⟨g, 1, none⟩ = some (.int .i64 H) := HBG3.out.cell 1
  have b2 : w3.cell? ⟨g, 2, none⟩ = some (.int .i64 N) := HBG3.out.cell 2
  have b3 : w3.cell? ⟨g, 3, none⟩ = some (.slice ao M cap) := HBG3.out.cell 3
  go_wp2_with fail
  refine (CF.out _ HQV3.out).mono ?_
  rintro en w4 ⟨rfl, hb4⟩
  have HBG := Lib.hid (Below.blk hb4 HBG3.out HBG3.out.lt)
  have HBR := Lib.hid (Below.blk hb4 HBR3.out HBR3.out.lt)
  have HBL : Hid (Below g w w4) := HBL3.out.trans (hb4.mono (by omega))
  have HOWN := Lib.hid (HOWN3.out.below hb4)
  have hB4 : B ≤ w4.heap.size := by have := hb4.size; omega
  clear hb4 HBG3 HBR3 HBL3 HOWN3 HQV3 HB3 H1 b0 b1 b2 b3 hB3 w3
  have hix := idxQ_le K s
  rw [HM.out] at hix
  unfold findZ
  rw [if_neg c]
  have hwq : withQ K s t = K ++ [⟨s, 0, t, 0⟩] := by unfold withQ; rw [if_neg c]
  have hix2 : idxQ K s = M := by rw [HM.out] at c; omega
  have HWQ := Lib.hid hwq
  clear hwq
  go_upto_region 7 with fail
  have hb4x := hB4
  go_wp2_with fail
  refine (CC.out _).mono ?_
  rintro en w4' ⟨rfl, rfl⟩
  go_upto_region 8 with (at_builtin; refine append_peer peer_types rfl (.tmp 32) (.tmp 37) rfl B (.slice lo M lc) K ⟨s, 0, t, 0⟩ w4' _ rfl rfl HOWN.out rfl (by omega) hB4 ?_; intro v5 w5 hown5 hb5 hsz5)
  have hwl : (K ++ [(⟨s, 0, t, 0⟩ : Pr)]).length = M + 1 := by rw [List.length_append, HM.out]; rfl
  obtain ⟨gl, lc2, hv1, hgl, hpb⟩ := PB.of_own hown5 (by omega)
  rw [hwl] at hv1
  subst hv1
  have hwq := HWQ.out
  rw [← hwq] at hpb hwl
  have HPB := Lib.hid hpb
  obtain ⟨M1, hM1⟩ : ∃ M1, M + 1 = M1 := ⟨_, rfl⟩
  rw [hM1] at hwl
  rw [hM1]
  have hN1 := hwl
  have HOK : Hid (∀ p ∈ withQ K s t, p.pts ≤ 1000000 ∧ p.at_ ≤ 2305843009213693952 ∧ p.til ≤ 4611686018427387904) := by
    rw [hwq]
    intro p hp
    rcases List.mem_append.1 hp with hp | hp
    · exact ⟨(HK.out.ok p hp).1, (HK.out.ok p hp).2.1, (HK.out.ok p hp).2.2.1⟩
    · obtain rfl := List.mem_singleton.1 hp
      exact ⟨Nat.zero_le _, hcl, Nat.zero_le _⟩
  have hlc : M1 ≤ 1001 := by omega
  have hi : idxQ K s < (withQ K s t).length := HX.out.1
  have hi2 : idxQ K s < M1 := hN1 ▸ hi
  have HBGo := HBG
  have HBRo := HBR
  have HBLo := HBL
  clear HBG HBR HBL
  have HBG := Lib.hid (Below.blk hb5 HBGo.out (by omega))
  have HBR := Lib.hid (Below.blk hb5 HBRo.out (by omega))
  have HBL : Hid (Below g w w5) := HBLo.out.trans (hb5.mono (by omega))
  have hB5 : B ≤ w5.heap.size := by have := hb5.size; omega
  clear HBGo HBRo HBLo hb5 hB4 hb4x hsz5 hown5 hwl HWQ HOWN
  have HOWN : True := trivial
  have hB4 := hB5
  clear hB5
  have eM : ((M : Nat) : Int) = ((idxQ K s : Nat) : Int) := by rw [hix2]
  rw [eM]
  clear eM hix2
  have HN1 := Lib.hid hN1
  have HFF := Lib.hid (HF.out hi)
  clear hpb hwq HF HOWN HX hix hN1 c
  generalize idxQ K s = i at *
  generalize withQ K s t = l1 at *
  obtain ⟨y0, y1, y2, y3⟩ := HPB.out.at_ hi
  have HQOK := Lib.hid (HOK.out _ (List.getElem_mem hi))
  obtain ⟨q, hq⟩ : ∃ q, l1[i] = q := ⟨_, rfl⟩
  rw [hq] at y0 y1 y2 y3 HQOK HFF
  have HQ := Lib.hid hq
  clear hq
  obtain ⟨qn, qp, qa, qu⟩ := q
  simp only at y0 y1 y2 y3
  go_upto_region 9 with fail
  have HW6 : Hid (∀ W, w5.alloc (.cells #[.string qn, .int .i64 qp, .int .i64 qa, .int .i64 qu] 53) = W → PB W gl l1 ∧ Blk W w5.heap.size #[.string qn, .int .i64 qp, .int .i64 qa, .int .i64 qu] 53 ∧ Blk W g #[.int .i64 L, .int .i64 H, .int .i64 N, .slice ao M cap] 43 ∧ Blk W (g + 1) #[.int .i64 0, .int .i64 0, .int .i64 0, .slice none 0 0] 43 ∧ Below g w W ∧ gl < w5.heap.size ∧ g + 1 < w5.heap.size) := fun W hW => by
    subst hW
    have hal := (Below.refl w5.heap.size w5).alloc (Nat.le_refl _) (.cells #[.string qn, .int .i64 qp, .int .i64 qa, .int .i64 qu] 53)
    exact ⟨HPB.out.below hal, Blk.new _ _ _, Below.blk hal HBG.out HBG.out.lt, Below.blk hal HBR.out HBR.out.lt, HBL.out.trans (hal.mono (by have := HBG.out.lt; omega)), HPB.out.lt, HBR.out.lt⟩
  generalize w5.alloc (.cells #[.string qn, .int .i64 qp, .int .i64 qa, .int .i64 qu] 53) = w6 at *
  obtain ⟨o1, o2, o3, o4, o5, o6, o7⟩ := HW6.out _ rfl
  have HPB6 := Lib.hid o1
  have HBP6 := Lib.hid o2
  have HBG6 := Lib.hid o3
  have HBR6 := Lib.hid o4
  have HBL6 := Lib.hid o5
  clear HW6 o1 o2 o3 o4 o5 HPB HBG HBR HBL y0 y1 y2 y3
  generalize w5.heap.size = bp at *
  have b0 : w6.cell? ⟨g, 0, none⟩ = some (.int .i64 L) := HBG6.out.cell 0
  have b1 : w6.cell? ⟨g, 1, none⟩ = some (.int .i64 H) := HBG6.out.cell 1
  have b2 : w6.cell? ⟨g, 2, none⟩ = some (.int .i64 N) := HBG6.out.cell 2
  have b3 : w6.cell? ⟨g, 3, none⟩ = some (.slice ao M cap) := HBG6.out.cell 3
  have p0 : w6.cell? ⟨bp, 0, none⟩ = some (.string qn) := HBP6.out.cell 0
  have p1 : w6.cell? ⟨bp, 1, none⟩ = some (.int .i64 qp) := HBP6.out.cell 1
  have p2 : w6.cell? ⟨bp, 2, none⟩ = some (.int .i64 qa) := HBP6.out.cell 2
  have p3 : w6.cell? ⟨bp, 3, none⟩ = some (.int .i64 qu) := HBP6.out.cell 3
  have CAT := Lib.hid (doc_at L H N ao M cap ⟨qn, qp, qa, qu⟩ now w6 hH HQOK.out.1 HQOK.out.2.1)
  rw [ht] at CAT
  simp only [Pr.cs] at CAT
  have HFP := Lib.hid (faultPr_eq L H N ⟨qn, qp, qa, qu⟩ t more)
  have hpz := pAt_le H qp qa t
  simp only at HFP
  generalize pAt H qp qa t = pz at *
  have hqp : qp ≤ 1000000 := HQOK.out.1
  have hqa : qa ≤ 2305843009213693952 := HQOK.out.2.1
  have hqu : qu ≤ 4611686018427387904 := HQOK.out.2.2
  go_wp2_with fail
  refine CAT.out.mono ?_
  rintro en w7 ⟨rfl, hb7⟩
  have HBP7 := Lib.hid (Below.blk hb7 HBP6.out HBP6.out.lt)
  have HBG7 := Lib.hid (Below.blk hb7 HBG6.out HBG6.out.lt)
  have HBR7 := Lib.hid (Below.blk hb7 HBR6.out HBR6.out.lt)
  have HPB7 := Lib.hid (HPB6.out.below hb7)
  have HBL7 : Hid (Below g w w7) := HBL6.out.trans (hb7.mono (by have := HBG6.out.lt; omega))
  clear hb7 HBP6 HBG6 HBR6 HPB6 HBL6 CAT b0 b1 b2 b3 p0 p1 p2 p3
  have b0 : w7.cell? ⟨g, 0, none⟩ = some (.int .i64 L) := HBG7.out.cell 0
  have b1 : w7.cell? ⟨g, 1, none⟩ = some (.int .i64 H) := HBG7.out.cell 1
  have b2 : w7.cell? ⟨g, 2, none⟩ = some (.int .i64 N) := HBG7.out.cell 2
  have b3 : w7.cell? ⟨g, 3, none⟩ = some (.slice ao M cap) := HBG7.out.cell 3
  have p0 : w7.cell? ⟨bp, 0, none⟩ = some (.string qn) := HBP7.out.cell 0
  have p1 : w7.cell? ⟨bp, 1, none⟩ = some (.int .i64 qp) := HBP7.out.cell 1
  have p2 : w7.cell? ⟨bp, 2, none⟩ = some (.int .i64 qa) := HBP7.out.cell 2
  have p3 : w7.cell? ⟨bp, 3, none⟩ = some (.int .i64 qu) := HBP7.out.cell 3
  have fp := fun j => HBP7.out.free j
  go_wp2_with fail
  refine (CP.out _).mono ?_
  rintro en w8 ⟨rfl, rfl⟩
  go_upto_region 10 with fail
  obtain ⟨P1, hP1⟩ : ∃ P1, pz + more = P1 := ⟨_, rfl⟩
  have eP1 : (pz : Int) + (more : Int) = (P1 : Int) := by rw [← hP1]; simp
  rw [hP1] at HFP
  rw [eP1]
  have HBP8 := Lib.hid (HBP7.out.set 1 (.int .i64 (P1 : Int)))
  have HBG8 := Lib.hid (HBG7.out.setOther (a := ⟨bp, 1, none⟩) (by simp; omega) (.int .i64 (P1 : Int)))
  have HBR8 := Lib.hid (HBR7.out.setOther (a := ⟨bp, 1, none⟩) (by simp; omega) (.int .i64 (P1 : Int)))
  have HPB8 : Hid (PB (w8.setCell ⟨bp, 1, none⟩ (.int .i64 (P1 : Int))) gl l1) := HPB7.out.kept (Below.heap_setCell _ _ _ _ (by simp; omega))
  have HBL8 : Hid (Below g w (w8.setCell ⟨bp, 1, none⟩ (.int .i64 (P1 : Int)))) := HBL7.out.setCell (by simp; omega) _
  simp only [List.setIfInBounds_toArray, List.set_cons_zero, List.set_cons_succ] at HBP8
  generalize w8.setCell ⟨bp, 1, none⟩ (.int .i64 (P1 : Int)) = w9 at *
  clear HBP7 HBG7 HBR7 HPB7 HBL7 b0 b1 b2 b3 p0 p1 p2 p3 fp w8 eP1
  have HS9 : Hid (FSt g gl bp w l1 #[.int .i64 L, .int .i64 H, .int .i64 N, .slice ao M cap] #[.string qn, .int .i64 P1, .int .i64 qa, .int .i64 qu] w9) := ⟨HPB8.out, HBP8.out, HBG8.out, HBR8.out, HBL8.out, by omega, o6⟩
  clear HPB8 HBP8 HBG8 HBR8 HBL8
  have p2 : w9.cell? ⟨bp, 2, none⟩ = some (.int .i64 qa) := HS9.out.pr.cell 2
  refine wp_region_quiet_lit (by kernel_rfl) (by kernel_rfl) ?_
  go_big_quiet_step (fail)
  go_big_quiet_step (exact Calls.quiet_of_same (CC.out _))
  repeat (go_big_quiet_step (fail))
  refine wpQuiet_nil ?_
  rintro _ ⟨nq, rfl⟩
  have HSA := Lib.hid (HS9.out.drewN nq)
  clear HS9 p2
  generalize w9.drewN nq = wa at *
  by_cases ca : qa < t
  · have da : decide (qa < t) = true := by simp; omega
    have fp := fun j => HSA.out.pr.free j
    have p2 : wa.cell? ⟨bp, 2, none⟩ = some (.int .i64 qa) := HSA.out.pr.cell 2
    go_wp2_with fail
    refine (CC.out _).mono ?_
    rintro en wa2 ⟨rfl, rfl⟩
    go_upto_region 12 with fail
    have hsd := HSA.out.set 2 (.int .i64 t)
    simp only [List.setIfInBounds_toArray, List.set_cons_zero, List.set_cons_succ] at hsd
    have HSd := Lib.hid hsd
    clear hsd HSA fp p2
    generalize wa2.setCell ⟨bp, 2, none⟩ (.int .i64 t) = wd at *
    have p1 : wd.cell? ⟨bp, 1, none⟩ = some (.int .i64 P1) := HSd.out.pr.cell 1
    have b0 : wd.cell? ⟨g, 0, none⟩ = some (.int .i64 L) := HSd.out.bd.cell 0
    by_cases cl : L ≤ P1
    · have dl : decide (L ≤ P1) = true := by simp; omega
      have fp := fun j => HSd.out.pr.free j
      go_upto_region 14 with fail
      have hsb := HSd.out.set 1 (.int .i64 0)
      simp only [List.setIfInBounds_toArray, List.set_cons_zero, List.set_cons_succ] at hsb
      have HSb := Lib.hid hsb
      clear hsb HSd p1 b0 fp
      generalize wd.setCell ⟨bp, 1, none⟩ (.int .i64 0) = wb at *
      have p2 : wb.cell? ⟨bp, 2, none⟩ = some (.int .i64 t) := HSb.out.pr.cell 2
      have p3 : wb.cell? ⟨bp, 3, none⟩ = some (.int .i64 qu) := HSb.out.pr.cell 3
      have b2 : wb.cell? ⟨g, 2, none⟩ = some (.int .i64 N) := HSb.out.bd.cell 2
      obtain ⟨Z, hZ⟩ : ∃ Z, t + N = Z := ⟨_, rfl⟩
      have eZ : IntKind.i64.wrap ((t : Int) + (N : Int)) = (Z : Int) := by rw [← hZ, IntWalk.i64_in _ (by omega)]; simp
      by_cases cg : qu < Z
      · have dg : decide (qu < Z) = true := by simp; omega
        have fp := fun j => HSb.out.pr.free j
        go_upto_region 16 with fail
        have hsc := HSb.out.set 3 (.int .i64 Z)
        simp only [List.setIfInBounds_toArray, List.set_cons_zero, List.set_cons_succ] at hsc
        have HSc := Lib.hid hsc
        clear hsc HSb p2 p3 b2 fp eZ
        generalize wb.setCell ⟨bp, 3, none⟩ (.int .i64 Z) = wc at *
        have HFN : Hid (faultPr L H N ⟨qn, qp, qa, qu⟩ t more = ⟨qn, 0, t, Z⟩) := by unfold Hid; rw [HFP.out, if_pos cl]; exact (Pr.mk.injEq ..).mpr ⟨rfl, by omega, by omega, by omega⟩
        have p0 : wc.cell? ⟨bp, 0, none⟩ = some (.string qn) := HSc.out.pr.cell 0
        have p1 : wc.cell? ⟨bp, 1, none⟩ = some (.int .i64 0) := HSc.out.pr.cell 1
        have p2 : wc.cell? ⟨bp, 2, none⟩ = some (.int .i64 t) := HSc.out.pr.cell 2
        have p3 : wc.cell? ⟨bp, 3, none⟩ = some (.int .i64 Z) := HSc.out.pr.cell 3
        have fgl := fun j => HSc.out.pb.free j
        obtain ⟨y0, y1, y2, y3⟩ := HSc.out.pb.at_ hi
        go_upto_region 17 with fail
        have HSe := Lib.hid (HSc.out.set4 hi qn 0 t Z)
        clear p0 p1 p2 p3 y0 y1 y2 y3 fgl
        generalize ((((wc.setCell ⟨gl, i * 4, none⟩ (.string qn)).setCell ⟨gl, i * 4 + 1, none⟩ (.int .i64 0)).setCell ⟨gl, i * 4 + 2, none⟩ (.int .i64 t)).setCell ⟨gl, i * 4 + 3, none⟩ (.int .i64 Z)) = we at *
        clear HSc
        have fb := fun j => HSe.out.bd.free j
        have b3 : we.cell? ⟨g, 3, none⟩ = some (.slice ao M cap) := HSe.out.bd.cell 3
        go_upto_region 18 with fail
        have hsf := HSe.out.setB 3 (.slice (some ⟨gl, 0, none⟩) M1 lc2)
        simp only [List.setIfInBounds_toArray, List.set_cons_zero, List.set_cons_succ] at hsf
        have HSf := Lib.hid hsf
        clear hsf HSe fb b3
        generalize we.setCell ⟨g, 3, none⟩ (.slice (some ⟨gl, 0, none⟩) M1 lc2) = wf at *
        have b0 : wf.cell? ⟨g, 0, none⟩ = some (.int .i64 L) := HSf.out.bd.cell 0
        have b1 : wf.cell? ⟨g, 1, none⟩ = some (.int .i64 H) := HSf.out.bd.cell 1
        have b2 : wf.cell? ⟨g, 2, none⟩ = some (.int .i64 N) := HSf.out.bd.cell 2
        have b3 : wf.cell? ⟨g, 3, none⟩ = some (.slice (some ⟨gl, 0, none⟩) M1 lc2) := HSf.out.bd.cell 3
        have p1 : wf.cell? ⟨bp, 1, none⟩ = some (.int .i64 0) := HSf.out.pr.cell 1
        have fr := fun j => HSf.out.rs.free j
        have c0 : wf.cell? ⟨g + 1, 0, none⟩ = some (.int .i64 0) := HSf.out.rs.cell 0
        have c1 : wf.cell? ⟨g + 1, 1, none⟩ = some (.int .i64 0) := HSf.out.rs.cell 1
        have c2 : wf.cell? ⟨g + 1, 2, none⟩ = some (.int .i64 0) := HSf.out.rs.cell 2
        have c3 : wf.cell? ⟨g + 1, 3, none⟩ = some (.slice none 0 0) := HSf.out.rs.cell 3
        go_big_region
        go_wp2_with fail
        obtain ⟨e1, e2, e3⟩ := set4b HSf.out.rs HSf.out.bw (by omega) (.int .i64 L) (.int .i64 H) (.int .i64 N) (.slice (some ⟨gl, 0, none⟩) M1 lc2)
        generalize (((wf.setCell ⟨g + 1, 0, none⟩ (.int .i64 L)).setCell ⟨g + 1, 1, none⟩ (.int .i64 H)).setCell ⟨g + 1, 2, none⟩ (.int .i64 N)).setCell ⟨g + 1, 3, none⟩ (.slice (some ⟨gl, 0, none⟩) M1 lc2) = WF at *
        have hq := (PB.kept (w' := WF.drew) (HSf.out.pb.kept (e3 gl (by omega))) rfl).qv (cap := lc2)
        rw [List.length_set, HN1.out] at hq
        have e2 : Below g w WF.drew := ⟨e2.os, e2.tape, e2.output, e2.size, e2.block⟩
        have hfin := HFF.out (.slice (some ⟨gl, 0, none⟩) M1 lc2) WF.drew (by rw [HFN.out]; exact hq) e2 (fun b hb => by cases hb; show g ≤ gl; omega)
        rw [HFN.out] at hfin
        have e1 := e1.drew
        clear e3 hq
        generalize WF.drew = WG at *
        have d0 := e1.cell 0
        have d1 := e1.cell 1
        have d2 := e1.cell 2
        have d3 := e1.cell 3
        simp at d0 d1 d2 d3
        refine bodyPost_ret (v := .tuple #[.agg #[.int .i64 L, .int .i64 H, .int .i64 N, .slice (some ⟨gl, 0, none⟩) M1 lc2], .int .i64 ((0 : Nat) : Int)]) (by simp [results, Tryd.results19, go_sem, d0, d1, d2, d3]) rfl ?_
        exact hfin
      · have dg : decide (qu < Z) = false := by simp; omega
        go_upto_region 16 with fail
        clear p2 p3 b2 eZ
        have HFN : Hid (faultPr L H N ⟨qn, qp, qa, qu⟩ t more = ⟨qn, 0, t, qu⟩) := by unfold Hid; rw [HFP.out, if_pos cl]; exact (Pr.mk.injEq ..).mpr ⟨rfl, by omega, by omega, by omega⟩
        have p0 : wb.cell? ⟨bp, 0, none⟩ = some (.string qn) := HSb.out.pr.cell 0
        have p1 : wb.cell? ⟨bp, 1, none⟩ = some (.int .i64 0) := HSb.out.pr.cell 1
        have p2 : wb.cell? ⟨bp, 2, none⟩ = some (.int .i64 t) := HSb.out.pr.cell 2
        have p3 : wb.cell? ⟨bp, 3, none⟩ = some (.int .i64 qu) := HSb.out.pr.cell 3
        have fgl := fun j => HSb.out.pb.free j
        obtain ⟨y0, y1, y2, y3⟩ := HSb.out.pb.at_ hi
        go_upto_region 17 with fail
        have HSe := Lib.hid (HSb.out.set4 hi qn 0 t qu)
        clear p0 p1 p2 p3 y0 y1 y2 y3 fgl
        generalize ((((wb.setCell ⟨gl, i * 4, none⟩ (.string qn)).setCell ⟨gl, i * 4 + 1, none⟩ (.int .i64 0)).setCell ⟨gl, i * 4 + 2, none⟩ (.int .i64 t)).setCell ⟨gl, i * 4 + 3, none⟩ (.int .i64 qu)) = we at *
        clear HSb
        have fb := fun j => HSe.out.bd.free j
        have b3 : we.cell? ⟨g, 3, none⟩ = some (.slice ao M cap) := HSe.out.bd.cell 3
        go_upto_region 18 with fail
        have hsf := HSe.out.setB 3 (.slice (some ⟨gl, 0, none⟩) M1 lc2)
        simp only [List.setIfInBounds_toArray, List.set_cons_zero, List.set_cons_succ] at hsf
        have HSf := Lib.hid hsf
        clear hsf HSe fb b3
        generalize we.setCell ⟨g, 3, none⟩ (.slice (some ⟨gl, 0, none⟩) M1 lc2) = wf at *
        have b0 : wf.cell? ⟨g, 0, none⟩ = some (.int .i64 L) := HSf.out.bd.cell 0
        have b1 : wf.cell? ⟨g, 1, none⟩ = some (.int .i64 H) := HSf.out.bd.cell 1
        have b2 : wf.cell? ⟨g, 2, none⟩ = some (.int .i64 N) := HSf.out.bd.cell 2
        have b3 : wf.cell? ⟨g, 3, none⟩ = some (.slice (some ⟨gl, 0, none⟩) M1 lc2) := HSf.out.bd.cell 3
        have p1 : wf.cell? ⟨bp, 1, none⟩ = some (.int .i64 0) := HSf.out.pr.cell 1
        have fr := fun j => HSf.out.rs.free j
        have c0 : wf.cell? ⟨g + 1, 0, none⟩ = some (.int .i64 0) := HSf.out.rs.cell 0
        have c1 : wf.cell? ⟨g + 1, 1, none⟩ = some (.int .i64 0) := HSf.out.rs.cell 1
        have c2 : wf.cell? ⟨g + 1, 2, none⟩ = some (.int .i64 0) := HSf.out.rs.cell 2
        have c3 : wf.cell? ⟨g + 1, 3, none⟩ = some (.slice none 0 0) := HSf.out.rs.cell 3
        go_big_region
        go_wp2_with fail
        obtain ⟨e1, e2, e3⟩ := set4b HSf.out.rs HSf.out.bw (by omega) (.int .i64 L) (.int .i64 H) (.int .i64 N) (.slice (some ⟨gl, 0, none⟩) M1 lc2)
        generalize (((wf.setCell ⟨g + 1, 0, none⟩ (.int .i64 L)).setCell ⟨g + 1, 1, none⟩ (.int .i64 H)).setCell ⟨g + 1, 2, none⟩ (.int .i64 N)).setCell ⟨g + 1, 3, none⟩ (.slice (some ⟨gl, 0, none⟩) M1 lc2) = WF at *
        have hq := (PB.kept (w' := WF.drew) (HSf.out.pb.kept (e3 gl (by omega))) rfl).qv (cap := lc2)
        rw [List.length_set, HN1.out] at hq
        have e2 : Below g w WF.drew := ⟨e2.os, e2.tape, e2.output, e2.size, e2.block⟩
        have hfin := HFF.out (.slice (some ⟨gl, 0, none⟩) M1 lc2) WF.drew (by rw [HFN.out]; exact hq) e2 (fun b hb => by cases hb; show g ≤ gl; omega)
        rw [HFN.out] at hfin
        have e1 := e1.drew
        clear e3 hq
        generalize WF.drew = WG at *
        have d0 := e1.cell 0
        have d1 := e1.cell 1
        have d2 := e1.cell 2
        have d3 := e1.cell 3
        simp at d0 d1 d2 d3
        refine bodyPost_ret (v := .tuple #[.agg #[.int .i64 L, .int .i64 H, .int .i64 N, .slice (some ⟨gl, 0, none⟩) M1 lc2], .int .i64 ((0 : Nat) : Int)]) (by simp [results, Tryd.results19, go_sem, d0, d1, d2, d3]) rfl ?_
        exact hfin
    · have dl : decide (L ≤ P1) = false := by simp; omega
      go_upto_region 16 with fail
      clear p1 b0
      have HFN : Hid (faultPr L H N ⟨qn, qp, qa, qu⟩ t more = ⟨qn, P1, t, qu⟩) := by unfold Hid; rw [HFP.out, if_neg cl]; exact (Pr.mk.injEq ..).mpr ⟨rfl, by omega, by omega, by omega⟩
      have p0 : wd.cell? ⟨bp, 0, none⟩ = some (.string qn) := HSd.out.pr.cell 0
      have p1 : wd.cell? ⟨bp, 1, none⟩ = some (.int .i64 P1) := HSd.out.pr.cell 1
      have p2 : wd.cell? ⟨bp, 2, none⟩ = some (.int .i64 t) := HSd.out.pr.cell 2
      have p3 : wd.cell? ⟨bp, 3, none⟩ = some (.int .i64 qu) := HSd.out.pr.cell 3
      have fgl := fun j => HSd.out.pb.free j
      obtain ⟨y0, y1, y2, y3⟩ := HSd.out.pb.at_ hi
      go_upto_region 17 with fail
      have HSe := Lib.hid (HSd.out.set4 hi qn P1 t qu)
      clear p0 p1 p2 p3 y0 y1 y2 y3 fgl
      generalize ((((wd.setCell ⟨gl, i * 4, none⟩ (.string qn)).setCell ⟨gl, i * 4 + 1, none⟩ (.int .i64 P1)).setCell ⟨gl, i * 4 + 2, none⟩ (.int .i64 t)).setCell ⟨gl, i * 4 + 3, none⟩ (.int .i64 qu)) = we at *
      clear HSd
      have fb := fun j => HSe.out.bd.free j
      have b3 : we.cell? ⟨g, 3, none⟩ = some (.slice ao M cap) := HSe.out.bd.cell 3
      go_upto_region 18 with fail
      have hsf := HSe.out.setB 3 (.slice (some ⟨gl, 0, none⟩) M1 lc2)
      simp only [List.setIfInBounds_toArray, List.set_cons_zero, List.set_cons_succ] at hsf
      have HSf := Lib.hid hsf
      clear hsf HSe fb b3
      generalize we.setCell ⟨g, 3, none⟩ (.slice (some ⟨gl, 0, none⟩) M1 lc2) = wf at *
      have b0 : wf.cell? ⟨g, 0, none⟩ = some (.int .i64 L) := HSf.out.bd.cell 0
      have b1 : wf.cell? ⟨g, 1, none⟩ = some (.int .i64 H) := HSf.out.bd.cell 1
      have b2 : wf.cell? ⟨g, 2, none⟩ = some (.int .i64 N) := HSf.out.bd.cell 2
      have b3 : wf.cell? ⟨g, 3, none⟩ = some (.slice (some ⟨gl, 0, none⟩) M1 lc2) := HSf.out.bd.cell 3
      have p1 : wf.cell? ⟨bp, 1, none⟩ = some (.int .i64 P1) := HSf.out.pr.cell 1
      have fr := fun j => HSf.out.rs.free j
      have c0 : wf.cell? ⟨g + 1, 0, none⟩ = some (.int .i64 0) := HSf.out.rs.cell 0
      have c1 : wf.cell? ⟨g + 1, 1, none⟩ = some (.int .i64 0) := HSf.out.rs.cell 1
      have c2 : wf.cell? ⟨g + 1, 2, none⟩ = some (.int .i64 0) := HSf.out.rs.cell 2
      have c3 : wf.cell? ⟨g + 1, 3, none⟩ = some (.slice none 0 0) := HSf.out.rs.cell 3
      go_big_region
      go_wp2_with fail
      obtain ⟨e1, e2, e3⟩ := set4b HSf.out.rs HSf.out.bw (by omega) (.int .i64 L) (.int .i64 H) (.int .i64 N) (.slice (some ⟨gl, 0, none⟩) M1 lc2)
      generalize (((wf.setCell ⟨g + 1, 0, none⟩ (.int .i64 L)).setCell ⟨g + 1, 1, none⟩ (.int .i64 H)).setCell ⟨g + 1, 2, none⟩ (.int .i64 N)).setCell ⟨g + 1, 3, none⟩ (.slice (some ⟨gl, 0, none⟩) M1 lc2) = WF at *
      have hq := (PB.kept (w' := WF.drew) (HSf.out.pb.kept (e3 gl (by omega))) rfl).qv (cap := lc2)
      rw [List.length_set, HN1.out] at hq
      have e2 : Below g w WF.drew := ⟨e2.os, e2.tape, e2.output, e2.size, e2.block⟩
      have hfin := HFF.out (.slice (some ⟨gl, 0, none⟩) M1 lc2) WF.drew (by rw [HFN.out]; exact hq) e2 (fun b hb => by cases hb; show g ≤ gl; omega)
      rw [HFN.out] at hfin
      have e1 := e1.drew
      clear e3 hq
      generalize WF.drew = WG at *
      have d0 := e1.cell 0
      have d1 := e1.cell 1
      have d2 := e1.cell 2
      have d3 := e1.cell 3
      simp at d0 d1 d2 d3
      refine bodyPost_ret (v := .tuple #[.agg #[.int .i64 L, .int .i64 H, .int .i64 N, .slice (some ⟨gl, 0, none⟩) M1 lc2], .int .i64 ((P1 : Nat) : Int)]) (by simp [results, Tryd.results19, go_sem, d0, d1, d2, d3]) rfl ?_
      exact hfin
  · have da : decide (qa < t) = false := by simp; omega
    go_upto_region 12 with fail
    have p1 : wa.cell? ⟨bp, 1, none⟩ = some (.int .i64 P1) := HSA.out.pr.cell 1
    have b0 : wa.cell? ⟨g, 0, none⟩ = some (.int .i64 L) := HSA.out.bd.cell 0
    by_cases cl : L ≤ P1
    · have dl : decide (L ≤ P1) = true := by simp; omega
      have fp := fun j => HSA.out.pr.free j
      go_upto_region 14 with fail
      have hsb := HSA.out.set 1 (.int .i64 0)
      simp only [List.setIfInBounds_toArray, List.set_cons_zero, List.set_cons_succ] at hsb
      have HSb := Lib.hid hsb
      clear hsb HSA p1 b0 fp
      generalize wa.setCell ⟨bp, 1, none⟩ (.int .i64 0) = wb at *
      have p2 : wb.cell? ⟨bp, 2, none⟩ = some (.int .i64 qa) := HSb.out.pr.cell 2
      have p3 : wb.cell? ⟨bp, 3, none⟩ = some (.int .i64 qu) := HSb.out.pr.cell 3
      have b2 : wb.cell? ⟨g, 2, none⟩ = some (.int .i64 N) := HSb.out.bd.cell 2
      obtain ⟨Z, hZ⟩ : ∃ Z, qa + N = Z := ⟨_, rfl⟩
      have eZ : IntKind.i64.wrap ((qa : Int) + (N : Int)) = (Z : Int) := by rw [← hZ, IntWalk.i64_in _ (by omega)]; simp
      by_cases cg : qu < Z
      · have dg : decide (qu < Z) = true := by simp; omega
        have fp := fun j => HSb.out.pr.free j
        go_upto_region 16 with fail
        have hsc := HSb.out.set 3 (.int .i64 Z)
        simp only [List.setIfInBounds_toArray, List.set_cons_zero, List.set_cons_succ] at hsc
        have HSc := Lib.hid hsc
        clear hsc HSb p2 p3 b2 fp eZ
        generalize wb.setCell ⟨bp, 3, none⟩ (.int .i64 Z) = wc at *
        have HFN : Hid (faultPr L H N ⟨qn, qp, qa, qu⟩ t more = ⟨qn, 0, qa, Z⟩) := by unfold Hid; rw [HFP.out, if_pos cl]; exact (Pr.mk.injEq ..).mpr ⟨rfl, by omega, by omega, by omega⟩
        have p0 : wc.cell? ⟨bp, 0, none⟩ = some (.string qn) := HSc.out.pr.cell 0
        have p1 : wc.cell? ⟨bp, 1, none⟩ = some (.int .i64 0) := HSc.out.pr.cell 1
        have p2 : wc.cell? ⟨bp, 2, none⟩ = some (.int .i64 qa) := HSc.out.pr.cell 2
        have p3 : wc.cell? ⟨bp, 3, none⟩ = some (.int .i64 Z) := HSc.out.pr.cell 3
        have fgl := fun j => HSc.out.pb.free j
        obtain ⟨y0, y1, y2, y3⟩ := HSc.out.pb.at_ hi
        go_upto_region 17 with fail
        have HSe := Lib.hid (HSc.out.set4 hi qn 0 qa Z)
        clear p0 p1 p2 p3 y0 y1 y2 y3 fgl
        generalize ((((wc.setCell ⟨gl, i * 4, none⟩ (.string qn)).setCell ⟨gl, i * 4 + 1, none⟩ (.int .i64 0)).setCell ⟨gl, i * 4 + 2, none⟩ (.int .i64 qa)).setCell ⟨gl, i * 4 + 3, none⟩ (.int .i64 Z)) = we at *
        clear HSc
        have fb := fun j => HSe.out.bd.free j
        have b3 : we.cell? ⟨g, 3, none⟩ = some (.slice ao M cap) := HSe.out.bd.cell 3
        go_upto_region 18 with fail
        have hsf := HSe.out.setB 3 (.slice (some ⟨gl, 0, none⟩) M1 lc2)
        simp only [List.setIfInBounds_toArray, List.set_cons_zero, List.set_cons_succ] at hsf
        have HSf := Lib.hid hsf
        clear hsf HSe fb b3
        generalize we.setCell ⟨g, 3, none⟩ (.slice (some ⟨gl, 0, none⟩) M1 lc2) = wf at *
        have b0 : wf.cell? ⟨g, 0, none⟩ = some (.int .i64 L) := HSf.out.bd.cell 0
        have b1 : wf.cell? ⟨g, 1, none⟩ = some (.int .i64 H) := HSf.out.bd.cell 1
        have b2 : wf.cell? ⟨g, 2, none⟩ = some (.int .i64 N) := HSf.out.bd.cell 2
        have b3 : wf.cell? ⟨g, 3, none⟩ = some (.slice (some ⟨gl, 0, none⟩) M1 lc2) := HSf.out.bd.cell 3
        have p1 : wf.cell? ⟨bp, 1, none⟩ = some (.int .i64 0) := HSf.out.pr.cell 1
        have fr := fun j => HSf.out.rs.free j
        have c0 : wf.cell? ⟨g + 1, 0, none⟩ = some (.int .i64 0) := HSf.out.rs.cell 0
        have c1 : wf.cell? ⟨g + 1, 1, none⟩ = some (.int .i64 0) := HSf.out.rs.cell 1
        have c2 : wf.cell? ⟨g + 1, 2, none⟩ = some (.int .i64 0) := HSf.out.rs.cell 2
        have c3 : wf.cell? ⟨g + 1, 3, none⟩ = some (.slice none 0 0) := HSf.out.rs.cell 3
        go_big_region
        go_wp2_with fail
        obtain ⟨e1, e2, e3⟩ := set4b HSf.out.rs HSf.out.bw (by omega) (.int .i64 L) (.int .i64 H) (.int .i64 N) (.slice (some ⟨gl, 0, none⟩) M1 lc2)
        generalize (((wf.setCell ⟨g + 1, 0, none⟩ (.int .i64 L)).setCell ⟨g + 1, 1, none⟩ (.int .i64 H)).setCell ⟨g + 1, 2, none⟩ (.int .i64 N)).setCell ⟨g + 1, 3, none⟩ (.slice (some ⟨gl, 0, none⟩) M1 lc2) = WF at *
        have hq := (PB.kept (w' := WF.drew) (HSf.out.pb.kept (e3 gl (by omega))) rfl).qv (cap := lc2)
        rw [List.length_set, HN1.out] at hq
        have e2 : Below g w WF.drew := ⟨e2.os, e2.tape, e2.output, e2.size, e2.block⟩
        have hfin := HFF.out (.slice (some ⟨gl, 0, none⟩) M1 lc2) WF.drew (by rw [HFN.out]; exact hq) e2 (fun b hb => by cases hb; show g ≤ gl; omega)
        rw [HFN.out] at hfin
        have e1 := e1.drew
        clear e3 hq
        generalize WF.drew = WG at *
        have d0 := e1.cell 0
        have d1 := e1.cell 1
        have d2 := e1.cell 2
        have d3 := e1.cell 3
        simp at d0 d1 d2 d3
        refine bodyPost_ret (v := .tuple #[.agg #[.int .i64 L, .int .i64 H, .int .i64 N, .slice (some ⟨gl, 0, none⟩) M1 lc2], .int .i64 ((0 : Nat) : Int)]) (by simp [results, Tryd.results19, go_sem, d0, d1, d2, d3]) rfl ?_
        exact hfin
      · have dg : decide (qu < Z) = false := by simp; omega
        go_upto_region 16 with fail
        clear p2 p3 b2 eZ
        have HFN : Hid (faultPr L H N ⟨qn, qp, qa, qu⟩ t more = ⟨qn, 0, qa, qu⟩) := by unfold Hid; rw [HFP.out, if_pos cl]; exact (Pr.mk.injEq ..).mpr ⟨rfl, by omega, by omega, by omega⟩
        have p0 : wb.cell? ⟨bp, 0, none⟩ = some (.string qn) := HSb.out.pr.cell 0
        have p1 : wb.cell? ⟨bp, 1, none⟩ = some (.int .i64 0) := HSb.out.pr.cell 1
        have p2 : wb.cell? ⟨bp, 2, none⟩ = some (.int .i64 qa) := HSb.out.pr.cell 2
        have p3 : wb.cell? ⟨bp, 3, none⟩ = some (.int .i64 qu) := HSb.out.pr.cell 3
        have fgl := fun j => HSb.out.pb.free j
        obtain ⟨y0, y1, y2, y3⟩ := HSb.out.pb.at_ hi
        go_upto_region 17 with fail
        have HSe := Lib.hid (HSb.out.set4 hi qn 0 qa qu)
        clear p0 p1 p2 p3 y0 y1 y2 y3 fgl
        generalize ((((wb.setCell ⟨gl, i * 4, none⟩ (.string qn)).setCell ⟨gl, i * 4 + 1, none⟩ (.int .i64 0)).setCell ⟨gl, i * 4 + 2, none⟩ (.int .i64 qa)).setCell ⟨gl, i * 4 + 3, none⟩ (.int .i64 qu)) = we at *
        clear HSb
        have fb := fun j => HSe.out.bd.free j
        have b3 : we.cell? ⟨g, 3, none⟩ = some (.slice ao M cap) := HSe.out.bd.cell 3
        go_upto_region 18 with fail
        have hsf := HSe.out.setB 3 (.slice (some ⟨gl, 0, none⟩) M1 lc2)
        simp only [List.setIfInBounds_toArray, List.set_cons_zero, List.set_cons_succ] at hsf
        have HSf := Lib.hid hsf
        clear hsf HSe fb b3
        generalize we.setCell ⟨g, 3, none⟩ (.slice (some ⟨gl, 0, none⟩) M1 lc2) = wf at *
        have b0 : wf.cell? ⟨g, 0, none⟩ = some (.int .i64 L) := HSf.out.bd.cell 0
        have b1 : wf.cell? ⟨g, 1, none⟩ = some (.int .i64 H) := HSf.out.bd.cell 1
        have b2 : wf.cell? ⟨g, 2, none⟩ = some (.int .i64 N) := HSf.out.bd.cell 2
        have b3 : wf.cell? ⟨g, 3, none⟩ = some (.slice (some ⟨gl, 0, none⟩) M1 lc2) := HSf.out.bd.cell 3
        have p1 : wf.cell? ⟨bp, 1, none⟩ = some (.int .i64 0) := HSf.out.pr.cell 1
        have fr := fun j => HSf.out.rs.free j
        have c0 : wf.cell? ⟨g + 1, 0, none⟩ = some (.int .i64 0) := HSf.out.rs.cell 0
        have c1 : wf.cell? ⟨g + 1, 1, none⟩ = some (.int .i64 0) := HSf.out.rs.cell 1
        have c2 : wf.cell? ⟨g + 1, 2, none⟩ = some (.int .i64 0) := HSf.out.rs.cell 2
        have c3 : wf.cell? ⟨g + 1, 3, none⟩ = some (.slice none 0 0) := HSf.out.rs.cell 3
        go_big_region
        go_wp2_with fail
        obtain ⟨e1, e2, e3⟩ := set4b HSf.out.rs HSf.out.bw (by omega) (.int .i64 L) (.int .i64 H) (.int .i64 N) (.slice (some ⟨gl, 0, none⟩) M1 lc2)
        generalize (((wf.setCell ⟨g + 1, 0, none⟩ (.int .i64 L)).setCell ⟨g + 1, 1, none⟩ (.int .i64 H)).setCell ⟨g + 1, 2, none⟩ (.int .i64 N)).setCell ⟨g + 1, 3, none⟩ (.slice (some ⟨gl, 0, none⟩) M1 lc2) = WF at *
        have hq := (PB.kept (w' := WF.drew) (HSf.out.pb.kept (e3 gl (by omega))) rfl).qv (cap := lc2)
        rw [List.length_set, HN1.out] at hq
        have e2 : Below g w WF.drew := ⟨e2.os, e2.tape, e2.output, e2.size, e2.block⟩
        have hfin := HFF.out (.slice (some ⟨gl, 0, none⟩) M1 lc2) WF.drew (by rw [HFN.out]; exact hq) e2 (fun b hb => by cases hb; show g ≤ gl; omega)
        rw [HFN.out] at hfin
        have e1 := e1.drew
        clear e3 hq
        generalize WF.drew = WG at *
        have d0 := e1.cell 0
        have d1 := e1.cell 1
        have d2 := e1.cell 2
        have d3 := e1.cell 3
        simp at d0 d1 d2 d3
        refine bodyPost_ret (v := .tuple #[.agg #[.int .i64 L, .int .i64 H, .int .i64 N, .slice (some ⟨gl, 0, none⟩) M1 lc2], .int .i64 ((0 : Nat) : Int)]) (by simp [results, Tryd.results19, go_sem, d0, d1, d2, d3]) rfl ?_
        exact hfin
    · have dl : decide (L ≤ P1) = false := by simp; omega
      go_upto_region 16 with fail
      clear p1 b0
      have HFN : Hid (faultPr L H N ⟨qn, qp, qa, qu⟩ t more = ⟨qn, P1, qa, qu⟩) := by unfold Hid; rw [HFP.out, if_neg cl]; exact (Pr.mk.injEq ..).mpr ⟨rfl, by omega, by omega, by omega⟩
      have p0 : wa.cell? ⟨bp, 0, none⟩ = some (.string qn) := HSA.out.pr.cell 0
      have p1 : wa.cell? ⟨bp, 1, none⟩ = some (.int .i64 P1) := HSA.out.pr.cell 1
      have p2 : wa.cell? ⟨bp, 2, none⟩ = some (.int .i64 qa) := HSA.out.pr.cell 2
      have p3 : wa.cell? ⟨bp, 3, none⟩ = some (.int .i64 qu) := HSA.out.pr.cell 3
      have fgl := fun j => HSA.out.pb.free j
      obtain ⟨y0, y1, y2, y3⟩ := HSA.out.pb.at_ hi
      go_upto_region 17 with fail
      have HSe := Lib.hid (HSA.out.set4 hi qn P1 qa qu)
      clear p0 p1 p2 p3 y0 y1 y2 y3 fgl
      generalize ((((wa.setCell ⟨gl, i * 4, none⟩ (.string qn)).setCell ⟨gl, i * 4 + 1, none⟩ (.int .i64 P1)).setCell ⟨gl, i * 4 + 2, none⟩ (.int .i64 qa)).setCell ⟨gl, i * 4 + 3, none⟩ (.int .i64 qu)) = we at *
      clear HSA
      have fb := fun j => HSe.out.bd.free j
      have b3 : we.cell? ⟨g, 3, none⟩ = some (.slice ao M cap) := HSe.out.bd.cell 3
      go_upto_region 18 with fail
      have hsf := HSe.out.setB 3 (.slice (some ⟨gl, 0, none⟩) M1 lc2)
      simp only [List.setIfInBounds_toArray, List.set_cons_zero, List.set_cons_succ] at hsf
      have HSf := Lib.hid hsf
      clear hsf HSe fb b3
      generalize we.setCell ⟨g, 3, none⟩ (.slice (some ⟨gl, 0, none⟩) M1 lc2) = wf at *
      have b0 : wf.cell? ⟨g, 0, none⟩ = some (.int .i64 L) := HSf.out.bd.cell 0
      have b1 : wf.cell? ⟨g, 1, none⟩ = some (.int .i64 H) := HSf.out.bd.cell 1
      have b2 : wf.cell? ⟨g, 2, none⟩ = some (.int .i64 N) := HSf.out.bd.cell 2
      have b3 : wf.cell? ⟨g, 3, none⟩ = some (.slice (some ⟨gl, 0, none⟩) M1 lc2) := HSf.out.bd.cell 3
      have p1 : wf.cell? ⟨bp, 1, none⟩ = some (.int .i64 P1) := HSf.out.pr.cell 1
      have fr := fun j => HSf.out.rs.free j
      have c0 : wf.cell? ⟨g + 1, 0, none⟩ = some (.int .i64 0) := HSf.out.rs.cell 0
      have c1 : wf.cell? ⟨g + 1, 1, none⟩ = some (.int .i64 0) := HSf.out.rs.cell 1
      have c2 : wf.cell? ⟨g + 1, 2, none⟩ = some (.int .i64 0) := HSf.out.rs.cell 2
      have c3 : wf.cell? ⟨g + 1, 3, none⟩ = some (.slice none 0 0) := HSf.out.rs.cell 3
      go_big_region
      go_wp2_with fail
      obtain ⟨e1, e2, e3⟩ := set4b HSf.out.rs HSf.out.bw (by omega) (.int .i64 L) (.int .i64 H) (.int .i64 N) (.slice (some ⟨gl, 0, none⟩) M1 lc2)
      generalize (((wf.setCell ⟨g + 1, 0, none⟩ (.int .i64 L)).setCell ⟨g + 1, 1, none⟩ (.int .i64 H)).setCell ⟨g + 1, 2, none⟩ (.int .i64 N)).setCell ⟨g + 1, 3, none⟩ (.slice (some ⟨gl, 0, none⟩) M1 lc2) = WF at *
      have hq := (PB.kept (w' := WF.drew) (HSf.out.pb.kept (e3 gl (by omega))) rfl).qv (cap := lc2)
      rw [List.length_set, HN1.out] at hq
      have e2 : Below g w WF.drew := ⟨e2.os, e2.tape, e2.output, e2.size, e2.block⟩
      have hfin := HFF.out (.slice (some ⟨gl, 0, none⟩) M1 lc2) WF.drew (by rw [HFN.out]; exact hq) e2 (fun b hb => by cases hb; show g ≤ gl; omega)
      rw [HFN.out] at hfin
      have e1 := e1.drew
      clear e3 hq
      generalize WF.drew = WG at *
      have d0 := e1.cell 0
      have d1 := e1.cell 1
      have d2 := e1.cell 2
      have d3 := e1.cell 3
      simp at d0 d1 d2 d3
      refine bodyPost_ret (v := .tuple #[.agg #[.int .i64 L, .int .i64 H, .int .i64 N, .slice (some ⟨gl, 0, none⟩) M1 lc2], .int .i64 ((P1 : Nat) : Int)]) (by simp [results, Tryd.results19, go_sem, d0, d1, d2, d3]) rfl ?_
      exact hfin
end Go.Proofs.YtemfecdpjegocaaDoor
