/- Add of the joiner, where the body is not there. -/
import Derived.Test.YtemfecdpjegocaaJAdd
namespace Go.Proofs.Ytemfecdpjegocaa
open Go.RowKit Go.Maps
set_option linter.unusedVariables false
set_option linter.unusedSimpArgs false

section
variable {B bj bb bo n : Nat} {f : Int → Nat} {most open_ : Int} {w w' : World} {L : List Pt} {p : Pt}
/-- A part of a body that was not there. -/
theorem JAt.fresh {c : Nat} (h : JAt B bj bb bo n f most open_ w L) (hm : mayP p) (hin : p.id ∉ idsL L) (hc : B ≤ c ∧ c ≠ bj ∧ c ≠ bb ∧ c ≠ bo ∧ ∀ j ∈ idsL L, f j ≠ c)
    (h1 : Blk w' bj #[.int .i64 most, .int .i64 open_, .int .i64 (usedL L + p.text.size : Nat), .map (some bb), .map (some bo)] 123)
    (h2 : LMap kI mapElems w' bb (n + 1) ((p.id, some c) :: ((idsL L).map fun i => (i, some (f i))).filter fun q => q.1 != p.id))
    (h3 : LMap kI (intElems .i64) w' bo (n + 1) ((p.id, p.of_) :: ((idsL L).map fun i => (i, ofL L i)).filter fun q => q.1 != p.id))
    (h4 : LMap kI strElems w' c (n + 1) [(p.n, p.text)])
    (h5 : ∀ j ∈ idsL L, w'.heap[f j]? = w.heap[f j]?) : JAt B bj bb bo (n + 1) (fun j => if j = p.id then c else f j) most open_ w' (L ++ [p]) := by
  have hids : idsL (L ++ [p]) = idsL L ++ [p.id] := by rw [idsL_snoc]; unfold addId; rw [if_neg hin]
  have hne : ∀ j, j ∈ idsL L → j ≠ p.id := fun j hj e => hin (e ▸ hj)
  have hcase : ∀ j, j ∈ idsL (L ++ [p]) → (j ∈ idsL L ∧ (if j = p.id then c else f j) = f j) ∨ (j = p.id ∧ (if j = p.id then c else f j) = c) := fun j hj => by
    rw [hids] at hj
    rcases List.mem_append.1 hj with hj | hj
    · exact .inl ⟨hj, if_neg (hne j hj)⟩
    · simp at hj; exact .inr ⟨hj, if_pos hj⟩
  have hfm : ∀ {X : Type} (g : Int → X), ((idsL L).map fun i => (i, g i)).filter (fun q => q.1 != p.id) = (idsL L).map fun i => (i, g i) := fun g => by
    rw [filter_ids, List.filter_eq_self.2]
    intro j hj; simp [hne j hj]
  refine ⟨by rw [usedL_snoc]; exact h1, ?_, ?_, fun i hi => ?_, h.ne, fun i hi => ?_, fun i hi j hj e => ?_, ⟨h.lo.1, h.lo.2.1, h.lo.2.2.1, fun i hi => ?_⟩, fun q hq => ?_, fun q hq => ?_⟩
  · rw [hfm] at h2
    rw [hids, List.map_append]
    have e : (idsL L).map (fun i => (i, some (if i = p.id then c else f i))) = (idsL L).map fun i => (i, some (f i)) := List.map_congr_left fun i hi => by rw [if_neg (hne i hi)]
    rw [e]
    have e2 : [p.id].map (fun i => (i, some (if i = p.id then c else f i))) = [(p.id, some c)] := by simp
    rw [e2]
    exact h2.perm (List.perm_append_singleton _ _).symm
  · rw [hfm] at h3
    rw [hids, List.map_append]
    have e : (idsL L).map (fun i => (i, ofL (L ++ [p]) i)) = (idsL L).map fun i => (i, ofL L i) := List.map_congr_left fun i hi => by rw [ofL_snoc, if_pos hi]
    rw [e]
    have e2 : [p.id].map (fun i => (i, ofL (L ++ [p]) i)) = [(p.id, p.of_)] := by simp [ofL_snoc, hin]
    rw [e2]
    exact h3.perm (List.perm_append_singleton _ _).symm
  · rcases hcase i hi with ⟨hi, e⟩ | ⟨rfl, e⟩
    · show LMap kI strElems w' (if i = p.id then c else f i) (n + 1) _
      rw [e, partsOf_snoc, if_neg (Ne.symm (hne i hi))]
      exact ((h.ps i hi).block (h5 i hi)).up (Nat.le_succ _)
    · show LMap kI strElems w' (if p.id = p.id then c else f p.id) (n + 1) _
      rw [e, partsOf_snoc, if_pos rfl, partsOf_none L hin]
      exact h4
  · rcases hcase i hi with ⟨hi, e⟩ | ⟨rfl, e⟩
    · show (if i = p.id then c else f i) ≠ bj ∧ (if i = p.id then c else f i) ≠ bb ∧ (if i = p.id then c else f i) ≠ bo
      rw [e]; exact h.nf i hi
    · show (if p.id = p.id then c else f p.id) ≠ bj ∧ (if p.id = p.id then c else f p.id) ≠ bb ∧ (if p.id = p.id then c else f p.id) ≠ bo
      rw [e]; exact ⟨hc.2.1, hc.2.2.1, hc.2.2.2.1⟩
  · have e' : (if i = p.id then c else f i) = (if j = p.id then c else f j) := e
    rcases hcase i hi with ⟨hi', e1⟩ | ⟨hi', e1⟩ <;> rcases hcase j hj with ⟨hj', e2⟩ | ⟨hj', e2⟩
    · rw [e1, e2] at e'; exact h.inj i hi' j hj' e'
    · rw [e1, e2] at e'; exact absurd e' (hc.2.2.2.2 i hi')
    · rw [e1, e2] at e'; exact absurd e'.symm (hc.2.2.2.2 j hj')
    · rw [hi', hj']
  · show B ≤ if i = p.id then c else f i
    rcases hcase i hi with ⟨hi, e⟩ | ⟨hi, e⟩
    · rw [e]; exact h.lo.2.2.2 i hi
    · rw [e]; exact hc.1
  · rcases List.mem_append.1 hq with hq | hq
    · exact h.may q hq
    · simp at hq; subst hq; exact hm
  · rcases List.mem_append.1 hq with hq | hq
    · rw [ofL_snoc, if_pos ((mem_idsL L _).2 ⟨q, hq, rfl⟩)]; exact h.of1 q hq
    · simp at hq; subst hq
      rw [ofL_snoc, if_neg hin, if_pos rfl]
end

set_option maxRecDepth 100000 in
set_option maxHeartbeats 2000000 in
theorem add_new {B bj bb bo n : Nat} {f : Int → Nat} {most open_ : Int} {w : World} {L : List Pt} (h : JAt B bj bb bo n f most open_ w L) (p : Pt) (hwf : p.wf) (hm : mayP p) (hin : p.id ∉ idsL L) (hub : usedL L ≤ 1099511627776) (hmost : 0 ≤ most ∧ most ≤ 1099511627776) (hnn : n ≤ 100000) :
    Calls Try.prog 37 #[.pointer (some ⟨bj, 0, none⟩), .agg p.cs] w (AddJPost B bj bb bo n f most open_ L p w) := by
  obtain ⟨i, pn, o, T⟩ := p
  obtain ⟨⟨hi0, hi1⟩, ⟨ho0, ho1⟩, ⟨hn0, hn1⟩, hT, _⟩ := id hm
  simp only at hi0 hi1 ho0 ho1 hn0 hn1 hT hin
  have CM := Lib.hid (fun w => may_is ⟨i, pn, o, T⟩ hwf (decide_eq_true hm) w)
  obtain ⟨g, hg⟩ : ∃ g, w.heap.size = g := ⟨_, rfl⟩
  have HA1 := Lib.hid (AddM.first h ⟨i, pn, o, T⟩)
  rw [hg] at HA1
  obtain ⟨U, hU⟩ : ∃ U, usedL L = U := ⟨_, rfl⟩
  have hki : Hid (kI.ok i) := okI ⟨hi0, hi1⟩
  have hkn : Hid (kI.ok pn) := okI ⟨hn0, by omega⟩
  have HM := Lib.hid hm
  have H := Lib.hid h
  have HIN := Lib.hid hin
  have hub' : U ≤ 1099511627776 := by omega
  have hTm : T.size ≤ 1000000 := by omega
  simp only [Pt.cs] at CM ⊢
  clear h hm hwf hT hi0 hi1 hn0 hn1 ho0
  have HBOD : Hid (∀ W, AddM B bj bb bo n f most open_ w L ⟨i, pn, o, T⟩ g W → BodyV W none n []) := fun W hW => .inl ⟨rfl, rfl⟩
  have HBD : Hid (∀ W, AddM B bj bb bo n f most open_ w L ⟨i, pn, o, T⟩ g W → (Instr.lookup 120 (.map (some bb)) (.int .i64 i) true).run Try.prog W = .ok (.tuple #[.map none, .bool false]) W) := fun W hW => by
    have := hW.bodies hki.out
    simp only at this
    rw [if_neg HIN.out, decide_eq_false HIN.out] at this; exact this
  obtain ⟨M, hM⟩ : ∃ M, (idsL L).length = M := ⟨_, rfl⟩
  have HLN : Hid (∀ W, AddM B bj bb bo n f most open_ w L ⟨i, pn, o, T⟩ g W → ∀ ty, (Builtin.len_ #[120] ty #[.map (some bb)]).run Try.prog W = .ok (.int .i64 (M : Nat)) W) := fun W hW ty => hM ▸ hW.len ty
  have hPN : Hid (partsOf L i = []) := partsOf_none L HIN.out
  have hMm := Lib.hid hM
  clear hin hM
  go_enter Try.func37, Try.ntmps37
  go_wp2_with fail
  refine (CM.out _).mono ?_
  rintro e w2 ⟨rfl, hb2⟩
  have hA2 := Lib.hid (HA1.out.below hb2)
  clear hb2 HA1
  have g0_w2 : w2.cell? ⟨g, 0, none⟩ = some (.int .i64 i) := hA2.out.blk.cell 0
  have g1_w2 : w2.cell? ⟨g, 1, none⟩ = some (.int .i64 pn) := hA2.out.blk.cell 1
  have g2_w2 : w2.cell? ⟨g, 2, none⟩ = some (.int .i64 o) := hA2.out.blk.cell 2
  have g3_w2 : w2.cell? ⟨g, 3, none⟩ = some (.string T) := hA2.out.blk.cell 3
  have j0_w2 : w2.cell? ⟨bj, 0, none⟩ = some (.int .i64 most) := hA2.out.j.bd.cell 0
  have j1_w2 : w2.cell? ⟨bj, 1, none⟩ = some (.int .i64 open_) := hA2.out.j.bd.cell 1
  have j2_w2 : w2.cell? ⟨bj, 2, none⟩ = some (.int .i64 (U : Nat)) := hU ▸ hA2.out.j.bd.cell 2
  have j3_w2 : w2.cell? ⟨bj, 3, none⟩ = some (.map (some bb)) := hA2.out.j.bd.cell 3
  have j4_w2 : w2.cell? ⟨bj, 4, none⟩ = some (.map (some bo)) := hA2.out.j.bd.cell 4
  have hl3 : ∀ k, (Instr.lookup 120 (.map (some bb)) (.int .i64 i) true).run Try.prog (w2.drewN k) = .ok (.tuple #[.map none, .bool false]) (w2.drewN k) := fun k => HBD.out _ (hA2.out.drewN k)
  go_wp2_with fail
  go_quiet (fail)
  have hA3 := Lib.hid (hA2.out.drewN nq)
  clear hA2
  clear g0_w2 g1_w2 g2_w2 g3_w2 j0_w2 j1_w2 j2_w2 j3_w2 j4_w2
  generalize w2.drewN nq = w3 at *
  clear hl3
  have g0_w3 : w3.cell? ⟨g, 0, none⟩ = some (.int .i64 i) := hA3.out.blk.cell 0
  have g1_w3 : w3.cell? ⟨g, 1, none⟩ = some (.int .i64 pn) := hA3.out.blk.cell 1
  have g2_w3 : w3.cell? ⟨g, 2, none⟩ = some (.int .i64 o) := hA3.out.blk.cell 2
  have g3_w3 : w3.cell? ⟨g, 3, none⟩ = some (.string T) := hA3.out.blk.cell 3
  have j0_w3 : w3.cell? ⟨bj, 0, none⟩ = some (.int .i64 most) := hA3.out.j.bd.cell 0
  have j1_w3 : w3.cell? ⟨bj, 1, none⟩ = some (.int .i64 open_) := hA3.out.j.bd.cell 1
  have j2_w3 : w3.cell? ⟨bj, 2, none⟩ = some (.int .i64 (U : Nat)) := hU ▸ hA3.out.j.bd.cell 2
  have j3_w3 : w3.cell? ⟨bj, 3, none⟩ = some (.map (some bb)) := hA3.out.j.bd.cell 3
  have j4_w3 : w3.cell? ⟨bj, 4, none⟩ = some (.map (some bo)) := hA3.out.j.bd.cell 4

  have hl4 : (Instr.lookup 124 (.map none) (.int .i64 pn) true).run Try.prog w3 = .ok (.tuple #[.string ByteArray.empty, .bool false]) w3 := (HBOD.out _ hA3.out).look_ok hkn.out
  go_wp2_with fail
  go_quiet (fail)
  have hA4 := Lib.hid (hA3.out.drewN nq)
  clear hA3
  clear g0_w3 g1_w3 g2_w3 g3_w3 j0_w3 j1_w3 j2_w3 j3_w3 j4_w3
  generalize w3.drewN nq = w4 at *
  clear hl4
  have g0_w4 : w4.cell? ⟨g, 0, none⟩ = some (.int .i64 i) := hA4.out.blk.cell 0
  have g1_w4 : w4.cell? ⟨g, 1, none⟩ = some (.int .i64 pn) := hA4.out.blk.cell 1
  have g2_w4 : w4.cell? ⟨g, 2, none⟩ = some (.int .i64 o) := hA4.out.blk.cell 2
  have g3_w4 : w4.cell? ⟨g, 3, none⟩ = some (.string T) := hA4.out.blk.cell 3
  have j0_w4 : w4.cell? ⟨bj, 0, none⟩ = some (.int .i64 most) := hA4.out.j.bd.cell 0
  have j1_w4 : w4.cell? ⟨bj, 1, none⟩ = some (.int .i64 open_) := hA4.out.j.bd.cell 1
  have j2_w4 : w4.cell? ⟨bj, 2, none⟩ = some (.int .i64 (U : Nat)) := hU ▸ hA4.out.j.bd.cell 2
  have j3_w4 : w4.cell? ⟨bj, 3, none⟩ = some (.map (some bb)) := hA4.out.j.bd.cell 3
  have j4_w4 : w4.cell? ⟨bj, 4, none⟩ = some (.map (some bo)) := hA4.out.j.bd.cell 4

  have hln4 : ∀ k ty, (Builtin.len_ #[120] ty #[.map (some bb)]).run Try.prog (w4.drewN k) = .ok (.int .i64 (M : Nat)) (w4.drewN k) := fun k ty => HLN.out _ (hA4.out.drewN k) ty
  by_cases hfull : 1 < o ∧ open_ ≤ (M : Int)
  · have d7 : decide (1 < o) = true := by simp; exact hfull.1
    have d8 : decide (open_ ≤ (M : Int)) = true := by simp; exact hfull.2
    have hf1 := hfull.1
    have hf2 := hfull.2
    have HF : Hid (∀ w', Below w.heap.size w w' → AddJPost B bj bb bo n f most open_ L ⟨i, pn, o, T⟩ w (.returned (.tuple #[.string ⟨#[]⟩, .bool false, .int .i64 4])) w') := fun w' hb => post_same H.out hb (by
      unfold addJ
      rw [if_neg (not_not_intro HM.out)]
      rw [if_neg (by simp only; rw [partsOf_none L HIN.out]; exact fun h1 => h1.elim (fun h1 => by cases h1) (fun h1 => HIN.out h1.1)), if_pos ⟨HIN.out, hf1, by rw [hMm.out]; exact hf2⟩])
    clear hfull
    go_wp2_with fail
    go_quiet (fail)
    have hA5 := Lib.hid (hA4.out.drewN nq)
    clear hA4
    clear g0_w4 g1_w4 g2_w4 g3_w4 j0_w4 j1_w4 j2_w4 j3_w4 j4_w4
    generalize w4.drewN nq = w5 at *
    go_wp2_with fail
    go_returns
    exact HF.out _ hA5.out.bel
  · have hnf : Hid (¬ (i ∉ idsL L ∧ 1 < o ∧ open_ ≤ ((idsL L).length : Int))) := fun h1 => hfull ⟨h1.2.1, by rw [← hMm.out]; exact h1.2.2⟩
    by_cases ho : o = 1
    · have d7 : decide (1 < o) = false := by simp; omega
      have e9 : ((1 : Int) == o) = true := by rw [beq_iff_eq]; exact ho.symm
      have HO := Lib.hid ho
      clear hfull ho
      go_wp2_with fail
      go_quiet (fail)
      have hA5 := Lib.hid (hA4.out.drewN nq)
      clear hA4
      clear g0_w4 g1_w4 g2_w4 g3_w4 j0_w4 j1_w4 j2_w4 j3_w4 j4_w4
      generalize w4.drewN nq = w5 at *
      clear hln4
      have g0_w5 : w5.cell? ⟨g, 0, none⟩ = some (.int .i64 i) := hA5.out.blk.cell 0
      have g1_w5 : w5.cell? ⟨g, 1, none⟩ = some (.int .i64 pn) := hA5.out.blk.cell 1
      have g2_w5 : w5.cell? ⟨g, 2, none⟩ = some (.int .i64 o) := hA5.out.blk.cell 2
      have g3_w5 : w5.cell? ⟨g, 3, none⟩ = some (.string T) := hA5.out.blk.cell 3
      have j0_w5 : w5.cell? ⟨bj, 0, none⟩ = some (.int .i64 most) := hA5.out.j.bd.cell 0
      have j1_w5 : w5.cell? ⟨bj, 1, none⟩ = some (.int .i64 open_) := hA5.out.j.bd.cell 1
      have j2_w5 : w5.cell? ⟨bj, 2, none⟩ = some (.int .i64 (U : Nat)) := hU ▸ hA5.out.j.bd.cell 2
      have j3_w5 : w5.cell? ⟨bj, 3, none⟩ = some (.map (some bb)) := hA5.out.j.bd.cell 3
      have j4_w5 : w5.cell? ⟨bj, 4, none⟩ = some (.map (some bo)) := hA5.out.j.bd.cell 4
      have hln5 := fun ty => (HBOD.out _ hA5.out).len ty
      have hbd5 := Lib.hid (HBOD.out _ hA5.out)
      go_wp2_with fail
      refine (parts_join hbd5.out ⟨i, pn, o, T⟩ HM.out (fun q hq => by cases hq)).mono ?_
      rintro en w6 ⟨rfl, hb6⟩
      have hA6 := Lib.hid (hA5.out.below hb6)
      clear hb6 hA5 hln5 hbd5 e9 d7
      clear g0_w5 g1_w5 g2_w5 g3_w5 j0_w5 j1_w5 j2_w5 j3_w5 j4_w5
      have g0_w6 : w6.cell? ⟨g, 0, none⟩ = some (.int .i64 i) := hA6.out.blk.cell 0
      have g1_w6 : w6.cell? ⟨g, 1, none⟩ = some (.int .i64 pn) := hA6.out.blk.cell 1
      have g2_w6 : w6.cell? ⟨g, 2, none⟩ = some (.int .i64 o) := hA6.out.blk.cell 2
      have g3_w6 : w6.cell? ⟨g, 3, none⟩ = some (.string T) := hA6.out.blk.cell 3
      have j0_w6 : w6.cell? ⟨bj, 0, none⟩ = some (.int .i64 most) := hA6.out.j.bd.cell 0
      have j1_w6 : w6.cell? ⟨bj, 1, none⟩ = some (.int .i64 open_) := hA6.out.j.bd.cell 1
      have j2_w6 : w6.cell? ⟨bj, 2, none⟩ = some (.int .i64 (U : Nat)) := hU ▸ hA6.out.j.bd.cell 2
      have j3_w6 : w6.cell? ⟨bj, 3, none⟩ = some (.map (some bb)) := hA6.out.j.bd.cell 3
      have j4_w6 : w6.cell? ⟨bj, 4, none⟩ = some (.map (some bo)) := hA6.out.j.bd.cell 4
      obtain ⟨JT, hJT⟩ : ∃ JT : ByteArray, (⟨(joinTo [] ⟨i, pn, o, T⟩ (Pt.of_ ⟨i, pn, o, T⟩).toNat).toArray⟩ : ByteArray) = JT := ⟨_, rfl⟩
      rw [hJT]
      have HJT := Lib.hid hJT
      clear hJT
      go_wp2_with fail
      refine (parts_drop hA6.out.j i hki.out (by rw [hU]; exact hub')).mono ?_
      rintro en w7 ⟨rfl, hj7, hk7⟩
      have HJ7 := Lib.hid (And.intro hj7 hk7)
      clear hj7 hk7
      clear g0_w6 g1_w6 g2_w6 g3_w6 j0_w6 j1_w6 j2_w6 j3_w6 j4_w6
      have he : addJ most open_ L ⟨i, pn, o, T⟩ = (dropL L i, JT, true, 0) := by
        unfold addJ
        rw [if_neg (not_not_intro HM.out), if_neg (by simp only; rw [partsOf_none L HIN.out]; exact fun h1 => h1.elim (fun h1 => by cases h1) (fun h1 => HIN.out h1.1)), if_neg hnf.out, if_pos (by simp only; rw [hPN.out, HO.out]; rfl), ← HJT.out]
        simp only [hPN.out]
      have HE := Lib.hid he
      clear he
      go_wp2_with fail
      go_returns
      refine ⟨f, by rw [HE.out]; rfl, by rw [HE.out]; exact HJ7.out.1.up (Nat.le_succ _), ((KpO.refl _ w).ofBelow hA6.out.bel).trans HJ7.out.2⟩
    · have hp7 : 1 < o := by have := HM.out.2.1.1; simp only at this; omega
      have d7 : decide (1 < o) = true := by simp; exact hp7
      have hop : (M : Int) < open_ := by omega
      have d8 : decide (open_ ≤ (M : Int)) = false := by simp; exact hop
      have e9 : ((1 : Int) == o) = false := by rw [beq_eq_false_iff_ne]; omega
      have HO := Lib.hid ho
      clear hfull ho
      go_wp2_with fail
      go_quiet (fail)
      have hA5 := Lib.hid (hA4.out.drewN nq)
      clear hA4
      clear g0_w4 g1_w4 g2_w4 g3_w4 j0_w4 j1_w4 j2_w4 j3_w4 j4_w4
      generalize w4.drewN nq = w5 at *
      clear hln4
      have g0_w5 : w5.cell? ⟨g, 0, none⟩ = some (.int .i64 i) := hA5.out.blk.cell 0
      have g1_w5 : w5.cell? ⟨g, 1, none⟩ = some (.int .i64 pn) := hA5.out.blk.cell 1
      have g2_w5 : w5.cell? ⟨g, 2, none⟩ = some (.int .i64 o) := hA5.out.blk.cell 2
      have g3_w5 : w5.cell? ⟨g, 3, none⟩ = some (.string T) := hA5.out.blk.cell 3
      have j0_w5 : w5.cell? ⟨bj, 0, none⟩ = some (.int .i64 most) := hA5.out.j.bd.cell 0
      have j1_w5 : w5.cell? ⟨bj, 1, none⟩ = some (.int .i64 open_) := hA5.out.j.bd.cell 1
      have j2_w5 : w5.cell? ⟨bj, 2, none⟩ = some (.int .i64 (U : Nat)) := hU ▸ hA5.out.j.bd.cell 2
      have j3_w5 : w5.cell? ⟨bj, 3, none⟩ = some (.map (some bb)) := hA5.out.j.bd.cell 3
      have j4_w5 : w5.cell? ⟨bj, 4, none⟩ = some (.map (some bo)) := hA5.out.j.bd.cell 4
      have hln5 := fun ty => (HBOD.out _ hA5.out).len ty
      go_wp2_with fail
      go_quiet (fail)
      have hA6 := Lib.hid (hA5.out.drewN nq)
      clear hA5
      clear g0_w5 g1_w5 g2_w5 g3_w5 j0_w5 j1_w5 j2_w5 j3_w5 j4_w5
      generalize w5.drewN nq = w6 at *
      clear hln5
      by_cases hov : most - (U : Int) < (T.size : Int)
      · have d13 : decide (most - (U : Int) < (T.size : Int)) = true := by simp; exact hov
        have HF : Hid (∀ w', Below w.heap.size w w' → AddJPost B bj bb bo n f most open_ L ⟨i, pn, o, T⟩ w (.returned (.tuple #[.string ⟨#[]⟩, .bool false, .int .i64 5])) w') := fun w' hb => post_same H.out hb (by
          unfold addJ
          rw [if_neg (not_not_intro HM.out), if_neg (by simp only; rw [partsOf_none L HIN.out]; exact fun h1 => h1.elim (fun h1 => by cases h1) (fun h1 => HIN.out h1.1)), if_neg hnf.out, if_neg (by simp only; rw [hPN.out]; exact fun h1 => HO.out h1.symm), if_pos (by simp only; rw [hU]; exact hov)])
        go_wp2_with fail
        go_returns
        exact HF.out _ hA6.out.bel
      · have d13 : decide (most - (U : Int) < (T.size : Int)) = false := by simp; omega
        have hov2 : (T.size : Int) ≤ most - (U : Int) := by omega
        clear hov
        obtain ⟨c, hcz⟩ : ∃ c, w6.heap.size = c := ⟨_, rfl⟩
        have hmm := @run_makeMap Try.prog
        have hb7 : Below w6.heap.size w6 (w6.alloc (.map #[] 0)) := (Below.refl _ _).alloc (Nat.le_refl _) _
        have hA7 := Lib.hid (hA6.out.below hb7)
        have hmc7 : Hid (LMap kI strElems (w6.alloc (.map #[] 0)) c 0 []) := hcz ▸ LMap.made kI strElems w6
        have hcf : Hid (B ≤ c ∧ c ≠ bj ∧ c ≠ bb ∧ c ≠ bo ∧ (∀ j ∈ idsL L, f j ≠ c) ∧ c ≠ g) := by
          have h1 := hA6.out.j.lt
          have h2 := hA6.out.blk.lt
          rw [hcz] at h1 h2
          have h3 := h1 bj (.inl rfl)
          have h4 := hA6.out.j.lo.1
          refine ⟨by omega, fun e => by have := h1 bj (.inl rfl); omega, fun e => by have := h1 bb (.inr (.inl rfl)); omega, fun e => by have := h1 bo (.inr (.inr (.inl rfl))); omega, fun j hj e => by have := h1 (f j) (.inr (.inr (.inr ⟨j, hj, rfl⟩))); omega, by omega⟩
        clear hb7
        go_wp2_with fail
        clear hmm
        generalize w6.alloc (.map #[] 0) = w7 at *
        have g0_w7 : w7.cell? ⟨g, 0, none⟩ = some (.int .i64 i) := hA7.out.blk.cell 0
        have g1_w7 : w7.cell? ⟨g, 1, none⟩ = some (.int .i64 pn) := hA7.out.blk.cell 1
        have g2_w7 : w7.cell? ⟨g, 2, none⟩ = some (.int .i64 o) := hA7.out.blk.cell 2
        have g3_w7 : w7.cell? ⟨g, 3, none⟩ = some (.string T) := hA7.out.blk.cell 3
        have j0_w7 : w7.cell? ⟨bj, 0, none⟩ = some (.int .i64 most) := hA7.out.j.bd.cell 0
        have j1_w7 : w7.cell? ⟨bj, 1, none⟩ = some (.int .i64 open_) := hA7.out.j.bd.cell 1
        have j2_w7 : w7.cell? ⟨bj, 2, none⟩ = some (.int .i64 (U : Nat)) := hU ▸ hA7.out.j.bd.cell 2
        have j3_w7 : w7.cell? ⟨bj, 3, none⟩ = some (.map (some bb)) := hA7.out.j.bd.cell 3
        have j4_w7 : w7.cell? ⟨bj, 4, none⟩ = some (.map (some bo)) := hA7.out.j.bd.cell 4
        go_upto_region 17 with fail
        refine wp_region_drew_tail 7 (by kernel_rfl) (by kernel_rfl) ?_
        simp only [List.take_succ_cons, List.take_zero, List.drop_succ_cons, List.drop_zero]
        repeat (go_big_quiet_step (fail))
        refine wpQuiet_nil ?_
        intro k17
        refine wpList_lmap_store rfl (.tmp 104) (.tmp 106) (.tmp 107) rfl bodies_t (hA7.out.drewN k17).j.mb rfl (x := i) rfl hki.out (y := some c) rfl (by unfold maxLen; omega) ?_
        intro w8 hm8 hu8
        have hm8' := Lib.hid hm8
        have hu8' := Lib.hid hu8
        have hbj8 : Hid (Blk w8 bj #[.int .i64 most, .int .i64 open_, .int .i64 (U : Nat), .map (some bb), .map (some bo)] 123) := hU ▸ hu8.blk (hA7.out.drewN k17).j.bd hA7.out.j.ne.1
        have hg8 : Hid (Blk w8 g #[.int .i64 i, .int .i64 pn, .int .i64 o, .string T] 33) := hu8.blk (hA7.out.drewN k17).blk (by have := H.out.lt bb (.inr (.inl rfl)); omega)
        have hmo8 : Hid (LMap kI (intElems .i64) w8 bo n ((idsL L).map fun i => (i, ofL L i))) := hA7.out.j.mo.block (hu8.block bo hA7.out.j.mo.lt (by simp; exact Ne.symm hA7.out.j.ne.2.2))
        have hmc8 : Hid (LMap kI strElems w8 c 0 []) := hmc7.out.block (hu8.block c hmc7.out.lt (by simp; exact hcf.out.2.2.1))
        clear hm8 hu8
        clear g0_w7 g1_w7 g2_w7 g3_w7 j0_w7 j1_w7 j2_w7 j3_w7 j4_w7
        have g0_w8 : w8.cell? ⟨g, 0, none⟩ = some (.int .i64 i) := hg8.out.cell 0
        have g2_w8 : w8.cell? ⟨g, 2, none⟩ = some (.int .i64 o) := hg8.out.cell 2
        have j4_w8 : w8.cell? ⟨bj, 4, none⟩ = some (.map (some bo)) := hbj8.out.cell 4
        go_frame
        go_upto_region 18 with fail
        refine wp_region_drew_tail 8 (by kernel_rfl) (by kernel_rfl) ?_
        simp only [List.take_succ_cons, List.take_zero, List.drop_succ_cons, List.drop_zero]
        repeat (go_big_quiet_step (fail))
        refine wpQuiet_nil ?_
        intro k18
        refine wpList_lmap_store rfl (.tmp 111) (.tmp 113) (.tmp 115) rfl of_t (hmo8.out.block (w' := w8.drewN k18) rfl) rfl (x := i) rfl hki.out (y := o) rfl (by unfold maxLen; omega) ?_
        intro w9 hm9 hu9
        have hm9' := Lib.hid hm9
        have hu9' := Lib.hid hu9
        have hbj9 : Hid (Blk w9 bj #[.int .i64 most, .int .i64 open_, .int .i64 (U : Nat), .map (some bb), .map (some bo)] 123) := hu9.blk (hbj8.out.drewN k18) hA7.out.j.ne.2.1
        have hg9 : Hid (Blk w9 g #[.int .i64 i, .int .i64 pn, .int .i64 o, .string T] 33) := hu9.blk (hg8.out.drewN k18) (by have := H.out.lt bo (.inr (.inr (.inl rfl))); omega)
        have hmc9 : Hid (LMap kI strElems w9 c 0 []) := hmc8.out.block (hu9.block c hmc8.out.lt (by simp; exact hcf.out.2.2.2.1))
        clear hm9 hu9 g0_w8 g2_w8 j4_w8
        have g1_w9 : w9.cell? ⟨g, 1, none⟩ = some (.int .i64 pn) := hg9.out.cell 1
        have g3_w9 : w9.cell? ⟨g, 3, none⟩ = some (.string T) := hg9.out.cell 3
        go_frame
        go_wp2_with (at_mapUpdate; refine wpList_lmap_store rfl (.tmp 116) (.tmp 118) (.tmp 120) rfl body_t hmc9.out rfl (x := pn) rfl hkn.out (y := T) rfl (by decide) ?_; intro w10 hm10 hu10; have hm10' := Lib.hid hm10; have hu10' := Lib.hid hu10; clear hm10 hu10)
        have hbj10 : Hid (Blk w10 bj #[.int .i64 most, .int .i64 open_, .int .i64 (U : Nat), .map (some bb), .map (some bo)] 123) := hu10'.out.blk hbj9.out (Ne.symm hcf.out.2.1)
        have hg10 : Hid (Blk w10 g #[.int .i64 i, .int .i64 pn, .int .i64 o, .string T] 33) := hu10'.out.blk hg9.out (Ne.symm hcf.out.2.2.2.2.2)
        have j2_w10 : w10.cell? ⟨bj, 2, none⟩ = some (.int .i64 (U : Nat)) := hbj10.out.cell 2
        have fj_w10 := hbj10.out.free
        have g3_w10 : w10.cell? ⟨g, 3, none⟩ = some (.string T) := hg10.out.cell 3
        clear g1_w9 g3_w9
        go_frame
        go_upto_region 20 with fail
        refine wp_region_drew_tail 8 (by kernel_rfl) (by kernel_rfl) ?_
        simp only [List.take_succ_cons, List.take_zero, List.drop_succ_cons, List.drop_zero]
        repeat (go_big_quiet_step (fail))
        refine wpQuiet_nil ?_
        intro k20
        go_wp2_with fail
        go_returns
        have he : addJ most open_ L ⟨i, pn, o, T⟩ = (L ++ [⟨i, pn, o, T⟩], ByteArray.empty, false, 0) := by
          unfold addJ
          rw [if_neg (not_not_intro HM.out), if_neg (by simp only; rw [partsOf_none L HIN.out]; exact fun h1 => h1.elim (fun h1 => by cases h1) (fun h1 => HIN.out h1.1)), if_neg hnf.out, if_neg (by simp only; rw [hPN.out]; exact fun h1 => HO.out h1.symm), if_neg (by simp only; rw [hU]; omega)]
        have s7 := hA7.out.j.lt
        refine ⟨fun j => if j = i then c else f j, by rw [he]; rfl, ?_, ?_⟩
        · rw [he]
          refine hA7.out.j.fresh (p := ⟨i, pn, o, T⟩) (c := c) HM.out HIN.out ⟨hcf.out.1, hcf.out.2.1, hcf.out.2.2.1, hcf.out.2.2.2.1, hcf.out.2.2.2.2.1⟩ ?_ ?_ ?_ ?_ ?_
          · have := (hbj10.out.drewN k20).set 2 (.int .i64 ((U : Int) + (T.size : Int)))
            simpa [hU] using this
          · refine hm8'.out.block ?_
            rw [Below.heap_setCell _ _ _ _ (by simp; exact Ne.symm hA7.out.j.ne.1)]
            have l8 : bb < w8.heap.size := hm8'.out.lt
            have l9 : bb < w9.heap.size := Nat.lt_of_lt_of_le l8 hu9'.out.size
            exact (hu10'.out.block bb l9 (by simp; exact Ne.symm hcf.out.2.2.1)).trans (hu9'.out.block bb l8 (by simp; exact hA7.out.j.ne.2.2))
          · refine hm9'.out.block ?_
            rw [Below.heap_setCell _ _ _ _ (by simp; exact Ne.symm hA7.out.j.ne.2.1)]
            exact hu10'.out.block bo hm9'.out.lt (by simp; exact Ne.symm hcf.out.2.2.2.1)
          · refine ((hm10'.out.block ?_).up (by omega))
            exact Below.heap_setCell _ _ _ _ (by simp; exact hcf.out.2.1)
          · intro j hj
            have hnj := hA7.out.j.nf j hj
            have l7 := (hA7.out.j.ps j hj).lt
            have l8 : f j < w8.heap.size := Nat.lt_of_lt_of_le l7 hu8'.out.size
            have l9 : f j < w9.heap.size := Nat.lt_of_lt_of_le l8 hu9'.out.size
            rw [Below.heap_setCell _ _ _ _ (by simp; exact hnj.1)]
            exact ((hu10'.out.block _ l9 (by simp; exact hcf.out.2.2.2.2.1 j hj)).trans (hu9'.out.block _ l8 (by simp; exact hnj.2.2))).trans (hu8'.out.block _ l7 (by simp; exact hnj.2.1))
        · have k7 := (KpO.refl (OwnJ bj bb bo f L) w).ofBelow hA7.out.bel
          have k9 := ((k7.drewN k17).upd hu8'.out (.inr (.inl rfl))).drewN k18 |>.upd hu9'.out (.inr (.inr (.inl rfl)))
          have k10 : KpO (OwnJ bj bb bo f L) w w10 := by
            refine ⟨hu10'.out.os.trans k9.os, hu10'.out.tape.trans k9.tape, hu10'.out.output.trans k9.output, Nat.le_trans k9.size hu10'.out.size, fun b hb hn => ?_⟩
            have hbc : b ≠ c := by have := hA6.out.bel.size; omega
            exact (hu10'.out.block b (Nat.lt_of_lt_of_le hb k9.size) (by simp; exact hbc)).trans (k9.block b hb hn)
          exact (k10.drewN k20).set (a := ⟨bj, 2, none⟩) (.inl rfl) _
end Go.Proofs.Ytemfecdpjegocaa
