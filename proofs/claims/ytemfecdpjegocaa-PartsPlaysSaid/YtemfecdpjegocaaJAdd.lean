/- Add of the joiner. -/
import Derived.Test.YtemfecdpjegocaaJDrop
import Derived.Test.YtemfecdpjegocaaJJoin
namespace Go.Proofs.Ytemfecdpjegocaa
open Go.RowKit Go.Maps
set_option linter.unusedVariables false
set_option linter.unusedSimpArgs false

def AddJPost (B bj bb bo n : Nat) (f : Int → Nat) (most open_ : Int) (L : List Pt) (p : Pt) (w : World) (en : Ending) (w' : World) : Prop :=
  ∃ f', en = .returned (.tuple #[.string (addJ most open_ L p).2.1, .bool (addJ most open_ L p).2.2.1, .int .i64 (addJ most open_ L p).2.2.2]) ∧ JAt B bj bb bo (n + 1) f' most open_ w' (addJ most open_ L p).1 ∧ KpO (OwnJ bj bb bo f L) w w'
section
variable {B bj bb bo n : Nat} {f : Int → Nat} {most open_ : Int} {w w' : World} {L : List Pt} {p : Pt}
theorem post_same (h : JAt B bj bb bo n f most open_ w L) (hb : Below w.heap.size w w') {e : Int} (he : addJ most open_ L p = (L, ByteArray.empty, false, e)) :
    AddJPost B bj bb bo n f most open_ L p w (.returned (.tuple #[.string ⟨#[]⟩, .bool false, .int .i64 e])) w' := by
  refine ⟨f, ?_, ?_, ?_⟩
  · rw [he]; rfl
  · rw [he]; exact (h.below hb).up (Nat.le_succ _)
  · exact (KpO.refl _ w).ofBelow hb
theorem may_is (p : Pt) (hwf : p.wf) {b : Bool} (h : decide (mayP p) = b) (w : World) : Calls Try.prog 51 #[.agg p.cs] w fun en w' => en = .returned (.bool b) ∧ Below w.heap.size w w' := by
  have := parts_may p w hwf
  rw [h] at this; exact this
/-- What stands in memory behind may. -/
structure AddM (B bj bb bo n : Nat) (f : Int → Nat) (most open_ : Int) (w : World) (L : List Pt) (p : Pt) (g : Nat) (w' : World) : Prop where
  j : JAt B bj bb bo n f most open_ w' L
  bel : Below w.heap.size w w'
  blk : Blk w' g p.cs 33
  lo : w.heap.size ≤ g
theorem AddM.drewN {g : Nat} (h : AddM B bj bb bo n f most open_ w L p g w') (k : Nat) : AddM B bj bb bo n f most open_ w L p g (w'.drewN k) :=
  ⟨h.j.drewN k, ⟨h.bel.os, h.bel.tape, h.bel.output, h.bel.size, h.bel.block⟩, h.blk, h.lo⟩
theorem AddM.below {g : Nat} {w2 : World} (h : AddM B bj bb bo n f most open_ w L p g w') (hb : Below w'.heap.size w' w2) : AddM B bj bb bo n f most open_ w L p g w2 :=
  ⟨h.j.below hb, h.bel.trans (hb.mono h.bel.size), Below.blk hb h.blk h.blk.lt, h.lo⟩
theorem AddM.first (h : JAt B bj bb bo n f most open_ w L) (p : Pt) : AddM B bj bb bo n f most open_ w L p w.heap.size (w.alloc (.cells p.cs 33)) :=
  ⟨h.below ((Below.refl _ _).alloc (Nat.le_refl _) _), (Below.refl _ _).alloc (Nat.le_refl _) _, Blk.new w _ _, Nat.le_refl _⟩
end


section
variable {B bj bb bo n : Nat} {f : Int → Nat} {most open_ : Int} {w w' : World} {L : List Pt} {p : Pt} {g : Nat}
theorem AddM.bodies (h : AddM B bj bb bo n f most open_ w L p g w') (hk : kI.ok p.id) :
    (Instr.lookup 120 (.map (some bb)) (.int .i64 p.id) true).run Try.prog w' = .ok (.tuple #[.map (if p.id ∈ idsL L then some (f p.id) else none), .bool (decide (p.id ∈ idsL L))]) w' := by
  have := h.j.mb.look_ok bodies_t bodies_z hk
  rw [getL_ids _ _ (nodup_idsL L)] at this
  by_cases c : p.id ∈ idsL L
  · rw [if_pos c] at this; rw [if_pos c, decide_eq_true c]; exact this
  · rw [if_neg c] at this; rw [if_neg c, decide_eq_false c]; exact this
theorem AddM.of_ (h : AddM B bj bb bo n f most open_ w L p g w') (hk : kI.ok p.id) (hin : p.id ∈ idsL L) :
    (Instr.lookup 121 (.map (some bo)) (.int .i64 p.id) false).run Try.prog w' = .ok (.int .i64 (ofL L p.id)) w' := by
  have := h.j.mo.look of_t of_z hk
  rw [getL_ids _ _ (nodup_idsL L), if_pos hin] at this
  exact this
theorem AddM.body (h : AddM B bj bb bo n f most open_ w L p g w') : BodyV w' (if p.id ∈ idsL L then some (f p.id) else none) n (partsOf L p.id) := by
  by_cases c : p.id ∈ idsL L
  · rw [if_pos c]; exact .inr ⟨_, rfl, h.j.ps _ c⟩
  · rw [if_neg c]; exact .inl ⟨rfl, partsOf_none L c⟩
theorem AddM.len (h : AddM B bj bb bo n f most open_ w L p g w') (ty : TypeId) : (Builtin.len_ #[120] ty #[.map (some bb)]).run Try.prog w' = .ok (.int .i64 ((idsL L).length : Nat)) w' := by
  have := h.j.mb.len bodies_t ty
  rw [List.length_map] at this; exact this
theorem keys_mem (l : List (Int × ByteArray)) (x : Int) : (getL l x).isSome = decide (x ∈ l.map Prod.fst) := by
  cases hg : getL l x with
  | none => rw [decide_eq_false (getL_none.1 hg)]; rfl
  | some y =>
    rw [decide_eq_true]
    · rfl
    · apply Classical.byContradiction
      intro hn
      rw [getL_none.2 hn] at hg; cases hg
theorem parts_small {L : List Pt} (hm : ∀ p ∈ L, mayP p) (x : Int) : ∀ q ∈ partsOf L x, q.2.size ≤ 65536 := by
  intro q hq
  unfold partsOf at hq
  obtain ⟨p, hp, rfl⟩ := List.mem_map.1 hq
  exact (hm p (List.mem_filter.1 hp).1).2.2.2.1
end


section
variable {B bj bb bo n : Nat} {f : Int → Nat} {most open_ : Int} {w w' : World} {L : List Pt} {p : Pt}
theorem filter_no {l : List (Int × ByteArray)} {x : Int} (h : x ∉ l.map Prod.fst) : l.filter (fun p => p.1 != x) = l := by
  rw [List.filter_eq_self]
  intro p hp
  have : p.1 ≠ x := fun e => h (List.mem_map.2 ⟨p, hp, e⟩)
  simp [this]
/-- A part more, of a body that is there. -/
theorem JAt.more (h : JAt B bj bb bo n f most open_ w L) (hm : mayP p) (hin : p.id ∈ idsL L) (hof : ofL L p.id = p.of_) (hno : p.n ∉ (partsOf L p.id).map Prod.fst)
    (h1 : Blk w' bj #[.int .i64 most, .int .i64 open_, .int .i64 (usedL L + p.text.size : Nat), .map (some bb), .map (some bo)] 123)
    (h2 : LMap kI strElems w' (f p.id) (n + 1) ((p.n, p.text) :: (partsOf L p.id).filter fun q => q.1 != p.n))
    (h4 : ∀ b, OwnJ bj bb bo f L b → b ≠ bj → b ≠ f p.id → w'.heap[b]? = w.heap[b]?) : JAt B bj bb bo (n + 1) f most open_ w' (L ++ [p]) := by
  have hids : idsL (L ++ [p]) = idsL L := by rw [idsL_snoc]; unfold addId; rw [if_pos hin]
  have hofs : ∀ i, i ∈ idsL L → ofL (L ++ [p]) i = ofL L i := fun i hi => by rw [ofL_snoc, if_pos hi]
  have hnf := h.nf p.id hin
  refine ⟨by rw [usedL_snoc]; exact h1, ?_, ?_, fun i hi => ?_, h.ne, by rw [hids]; exact h.nf, by rw [hids]; exact h.inj, by rw [hids]; exact h.lo, fun q hq => ?_, fun q hq => ?_⟩
  · rw [hids]
    exact (h.mb.block (h4 bb (.inr (.inl rfl)) (Ne.symm h.ne.1) (Ne.symm hnf.2.1))).up (Nat.le_succ _)
  · rw [hids]
    have e : (idsL L).map (fun i => (i, ofL (L ++ [p]) i)) = (idsL L).map (fun i => (i, ofL L i)) := List.map_congr_left fun i hi => by rw [hofs i hi]
    rw [e]
    exact (h.mo.block (h4 bo (.inr (.inr (.inl rfl))) (Ne.symm h.ne.2.1) (Ne.symm hnf.2.2))).up (Nat.le_succ _)
  · rw [hids] at hi
    rw [partsOf_snoc]
    by_cases e : p.id = i
    · rw [if_pos e]
      subst e
      rw [filter_no hno] at h2
      exact h2.perm (List.perm_append_singleton _ _).symm
    · rw [if_neg e]
      exact ((h.ps i hi).block (h4 (f i) (.inr (.inr (.inr ⟨i, hi, rfl⟩))) (h.nf i hi).1 (fun e2 => e (h.inj _ hi _ hin e2).symm))).up (Nat.le_succ _)
  · rcases List.mem_append.1 hq with hq | hq
    · exact h.may q hq
    · simp at hq; subst hq; exact hm
  · rcases List.mem_append.1 hq with hq | hq
    · rw [hofs _ ((mem_idsL L _).2 ⟨q, hq, rfl⟩)]; exact h.of1 q hq
    · simp at hq; subst hq; rw [hofs _ hin, hof]
theorem BodyV.some_ {w : World} {c n : Nat} {l : List (Int × ByteArray)} (h : BodyV w (some c) n l) : LMap kI strElems w c n l := by
  rcases h with ⟨h, _⟩ | ⟨c', h, hm⟩
  · cases h
  · cases h; exact hm
end

set_option maxRecDepth 100000 in
set_option maxHeartbeats 2000000 in
theorem add_bad {B bj bb bo n : Nat} {f : Int → Nat} {most open_ : Int} {w : World} {L : List Pt} (h : JAt B bj bb bo n f most open_ w L) (p : Pt) (hwf : p.wf) (hm : ¬ mayP p) :
    Calls Try.prog 37 #[.pointer (some ⟨bj, 0, none⟩), .agg p.cs] w (AddJPost B bj bb bo n f most open_ L p w) := by
  have CM := Lib.hid (fun w => may_is p hwf (decide_eq_false hm) w)
  have he : addJ most open_ L p = (L, ByteArray.empty, false, 1) := by unfold addJ; rw [if_pos hm]
  have HF : Hid (∀ w', Below w.heap.size w w' → AddJPost B bj bb bo n f most open_ L p w (.returned (.tuple #[.string ⟨#[]⟩, .bool false, .int .i64 1])) w') := fun w' hb => post_same h hb he
  have HA1 := Lib.hid (AddM.first h p)
  obtain ⟨i, pn, o, T⟩ := p
  simp only [Pt.cs] at CM HA1 ⊢
  clear h he hm hwf
  go_enter Try.func37, Try.ntmps37
  go_wp2_with fail
  refine (CM.out _).mono ?_
  rintro e w2 ⟨rfl, hb2⟩
  have hA2 := Lib.hid (HA1.out.below hb2)
  clear hb2 HA1
  go_wp2_with fail
  go_returns
  exact HF.out _ hA2.out.bel

set_option maxRecDepth 100000 in
set_option maxHeartbeats 2000000 in
theorem add_there {B bj bb bo n : Nat} {f : Int → Nat} {most open_ : Int} {w : World} {L : List Pt} (h : JAt B bj bb bo n f most open_ w L) (p : Pt) (hwf : p.wf) (hm : mayP p) (hin : p.id ∈ idsL L) (hub : usedL L ≤ 1099511627776) (hmost : 0 ≤ most ∧ most ≤ 1099511627776) (hnn : n ≤ 100000) :
    Calls Try.prog 37 #[.pointer (some ⟨bj, 0, none⟩), .agg p.cs] w (AddJPost B bj bb bo n f most open_ L p w) := by
  obtain ⟨i, pn, o, T⟩ := p
  obtain ⟨⟨hi0, hi1⟩, ⟨ho0, ho1⟩, ⟨hn0, hn1⟩, hT, _⟩ := id hm
  simp only at hi0 hi1 ho0 ho1 hn0 hn1 hT hin
  have CM := Lib.hid (fun w => may_is ⟨i, pn, o, T⟩ hwf (decide_eq_true hm) w)
  obtain ⟨g, hg⟩ : ∃ g, w.heap.size = g := ⟨_, rfl⟩
  have HA1 := Lib.hid (AddM.first h ⟨i, pn, o, T⟩)
  rw [hg] at HA1
  obtain ⟨U, hU⟩ : ∃ U, usedL L = U := ⟨_, rfl⟩
  have hki : Hid (kI.ok i) := okI ⟨hi0, hi1⟩
  have hkn : Hid (kI.ok pn) := okI ⟨hn0, by omega⟩
  have HM := Lib.hid hm
  have H := Lib.hid h
  have HIN := Lib.hid hin
  have hub' : U ≤ 1099511627776 := by omega
  have hTm : T.size ≤ 1000000 := by omega
  simp only [Pt.cs] at CM ⊢
  clear h hm hwf hT hi0 hi1 hn0 hn1 ho0
  obtain ⟨l, hl⟩ : ∃ l, partsOf L i = l := ⟨_, rfl⟩
  obtain ⟨c, hc⟩ : ∃ c, f i = c := ⟨_, rfl⟩
  obtain ⟨ov, hov⟩ : ∃ ov, ofL L i = ov := ⟨_, rfl⟩
  have HBOD : Hid (∀ W, AddM B bj bb bo n f most open_ w L ⟨i, pn, o, T⟩ g W → BodyV W (some c) n l) := fun W hW => by
    have := hW.body
    simp only at this
    rw [if_pos HIN.out, hl, hc] at this; exact this
  have HBD : Hid (∀ W, AddM B bj bb bo n f most open_ w L ⟨i, pn, o, T⟩ g W → (Instr.lookup 120 (.map (some bb)) (.int .i64 i) true).run Try.prog W = .ok (.tuple #[.map (some c), .bool true]) W) := fun W hW => by
    have := hW.bodies hki.out
    simp only at this
    rw [if_pos HIN.out, decide_eq_true HIN.out, hc] at this; exact this
  have HOF : Hid (∀ W, AddM B bj bb bo n f most open_ w L ⟨i, pn, o, T⟩ g W → (Instr.lookup 121 (.map (some bo)) (.int .i64 i) false).run Try.prog W = .ok (.int .i64 ov) W) := fun W hW => by
    have := hW.of_ hki.out HIN.out
    simp only at this
    rw [hov] at this; exact this
  have hll : l.length ≤ 100000 := by
    have := (H.out.ps i HIN.out).size_le
    rw [hl] at this; omega
  have hsmall : Hid (∀ q ∈ l, q.2.size ≤ 65536) := hl ▸ parts_small H.out.may i
  have HL := Lib.hid (And.intro hl (And.intro hc hov))
  clear hin hl hc hov
  go_enter Try.func37, Try.ntmps37
  go_wp2_with fail
  refine (CM.out _).mono ?_
  rintro e w2 ⟨rfl, hb2⟩
  have hA2 := Lib.hid (HA1.out.below hb2)
  clear hb2 HA1
  have g0_w2 : w2.cell? ⟨g, 0, none⟩ = some (.int .i64 i) := hA2.out.blk.cell 0
  have g1_w2 : w2.cell? ⟨g, 1, none⟩ = some (.int .i64 pn) := hA2.out.blk.cell 1
  have g2_w2 : w2.cell? ⟨g, 2, none⟩ = some (.int .i64 o) := hA2.out.blk.cell 2
  have g3_w2 : w2.cell? ⟨g, 3, none⟩ = some (.string T) := hA2.out.blk.cell 3
  have j0_w2 : w2.cell? ⟨bj, 0, none⟩ = some (.int .i64 most) := hA2.out.j.bd.cell 0
  have j1_w2 : w2.cell? ⟨bj, 1, none⟩ = some (.int .i64 open_) := hA2.out.j.bd.cell 1
  have j2_w2 : w2.cell? ⟨bj, 2, none⟩ = some (.int .i64 (U : Nat)) := hU ▸ hA2.out.j.bd.cell 2
  have j3_w2 : w2.cell? ⟨bj, 3, none⟩ = some (.map (some bb)) := hA2.out.j.bd.cell 3
  have j4_w2 : w2.cell? ⟨bj, 4, none⟩ = some (.map (some bo)) := hA2.out.j.bd.cell 4
  have hl3 : ∀ k, (Instr.lookup 120 (.map (some bb)) (.int .i64 i) true).run Try.prog (w2.drewN k) = .ok (.tuple #[.map (some c), .bool true]) (w2.drewN k) := fun k => HBD.out _ (hA2.out.drewN k)
  go_wp2_with fail
  go_quiet (fail)
  have hA3 := Lib.hid (hA2.out.drewN nq)
  clear hA2
  clear g0_w2 g1_w2 g2_w2 g3_w2 j0_w2 j1_w2 j2_w2 j3_w2 j4_w2
  generalize w2.drewN nq = w3 at *
  clear hl3
  have g0_w3 : w3.cell? ⟨g, 0, none⟩ = some (.int .i64 i) := hA3.out.blk.cell 0
  have g1_w3 : w3.cell? ⟨g, 1, none⟩ = some (.int .i64 pn) := hA3.out.blk.cell 1
  have g2_w3 : w3.cell? ⟨g, 2, none⟩ = some (.int .i64 o) := hA3.out.blk.cell 2
  have g3_w3 : w3.cell? ⟨g, 3, none⟩ = some (.string T) := hA3.out.blk.cell 3
  have j0_w3 : w3.cell? ⟨bj, 0, none⟩ = some (.int .i64 most) := hA3.out.j.bd.cell 0
  have j1_w3 : w3.cell? ⟨bj, 1, none⟩ = some (.int .i64 open_) := hA3.out.j.bd.cell 1
  have j2_w3 : w3.cell? ⟨bj, 2, none⟩ = some (.int .i64 (U : Nat)) := hU ▸ hA3.out.j.bd.cell 2
  have j3_w3 : w3.cell? ⟨bj, 3, none⟩ = some (.map (some bb)) := hA3.out.j.bd.cell 3
  have j4_w3 : w3.cell? ⟨bj, 4, none⟩ = some (.map (some bo)) := hA3.out.j.bd.cell 4

  have hl4 := (HBOD.out _ hA3.out).look_ok hkn.out
  rw [keys_mem] at hl4
  generalize (getL l pn).getD ByteArray.empty = S4 at *
  by_cases htw : pn ∈ l.map Prod.fst
  · rw [decide_eq_true htw] at hl4
    have HF : Hid (∀ w', Below w.heap.size w w' → AddJPost B bj bb bo n f most open_ L ⟨i, pn, o, T⟩ w (.returned (.tuple #[.string ⟨#[]⟩, .bool false, .int .i64 8])) w') := fun w' hb => post_same H.out hb (by
      unfold addJ
      rw [if_neg (not_not_intro HM.out)]
      rw [if_pos (.inl (by rw [HL.out.1]; exact htw))])
    clear htw
    go_wp2_with fail
    go_quiet (fail)
    have hA4 := Lib.hid (hA3.out.drewN nq)
    clear hA3
    clear g0_w3 g1_w3 g2_w3 g3_w3 j0_w3 j1_w3 j2_w3 j3_w3 j4_w3
    generalize w3.drewN nq = w4 at *
    go_wp2_with fail
    go_returns
    exact HF.out _ hA4.out.bel
  · rw [decide_eq_false htw] at hl4
    have hof3 : ∀ k, (Instr.lookup 121 (.map (some bo)) (.int .i64 i) false).run Try.prog (w3.drewN k) = .ok (.int .i64 ov) (w3.drewN k) := fun k => HOF.out _ (hA3.out.drewN k)
    by_cases hoe : ov = o
    · have e5 : (ov != o) = false := by rw [bne_eq_false_iff_eq]; exact hoe
      have HNE := Lib.hid (And.intro htw hoe)
      clear htw hoe
      go_wp2_with fail
      go_quiet (fail)
      have hA4 := Lib.hid (hA3.out.drewN nq)
      clear hA3
      clear g0_w3 g1_w3 g2_w3 g3_w3 j0_w3 j1_w3 j2_w3 j3_w3 j4_w3
      generalize w3.drewN nq = w4 at *
      clear hl4 hof3 e5
      have g0_w4 : w4.cell? ⟨g, 0, none⟩ = some (.int .i64 i) := hA4.out.blk.cell 0
      have g1_w4 : w4.cell? ⟨g, 1, none⟩ = some (.int .i64 pn) := hA4.out.blk.cell 1
      have g2_w4 : w4.cell? ⟨g, 2, none⟩ = some (.int .i64 o) := hA4.out.blk.cell 2
      have g3_w4 : w4.cell? ⟨g, 3, none⟩ = some (.string T) := hA4.out.blk.cell 3
      have j0_w4 : w4.cell? ⟨bj, 0, none⟩ = some (.int .i64 most) := hA4.out.j.bd.cell 0
      have j1_w4 : w4.cell? ⟨bj, 1, none⟩ = some (.int .i64 open_) := hA4.out.j.bd.cell 1
      have j2_w4 : w4.cell? ⟨bj, 2, none⟩ = some (.int .i64 (U : Nat)) := hU ▸ hA4.out.j.bd.cell 2
      have j3_w4 : w4.cell? ⟨bj, 3, none⟩ = some (.map (some bb)) := hA4.out.j.bd.cell 3
      have j4_w4 : w4.cell? ⟨bj, 4, none⟩ = some (.map (some bo)) := hA4.out.j.bd.cell 4
      go_wp2_with fail
      go_quiet (fail)
      have hA5 := Lib.hid (hA4.out.drewN nq)
      clear hA4
      clear g0_w4 g1_w4 g2_w4 g3_w4 j0_w4 j1_w4 j2_w4 j3_w4 j4_w4
      generalize w4.drewN nq = w5 at *
      have g0_w5 : w5.cell? ⟨g, 0, none⟩ = some (.int .i64 i) := hA5.out.blk.cell 0
      have g1_w5 : w5.cell? ⟨g, 1, none⟩ = some (.int .i64 pn) := hA5.out.blk.cell 1
      have g2_w5 : w5.cell? ⟨g, 2, none⟩ = some (.int .i64 o) := hA5.out.blk.cell 2
      have g3_w5 : w5.cell? ⟨g, 3, none⟩ = some (.string T) := hA5.out.blk.cell 3
      have j0_w5 : w5.cell? ⟨bj, 0, none⟩ = some (.int .i64 most) := hA5.out.j.bd.cell 0
      have j1_w5 : w5.cell? ⟨bj, 1, none⟩ = some (.int .i64 open_) := hA5.out.j.bd.cell 1
      have j2_w5 : w5.cell? ⟨bj, 2, none⟩ = some (.int .i64 (U : Nat)) := hU ▸ hA5.out.j.bd.cell 2
      have j3_w5 : w5.cell? ⟨bj, 3, none⟩ = some (.map (some bb)) := hA5.out.j.bd.cell 3
      have j4_w5 : w5.cell? ⟨bj, 4, none⟩ = some (.map (some bo)) := hA5.out.j.bd.cell 4
      have hln5 := fun ty => (HBOD.out _ hA5.out).len ty
      by_cases hwh : (l.length : Int) + 1 = o
      · have e9 : (((l.length : Int) + 1) == o) = true := by rw [beq_iff_eq]; exact hwh
        have HW := Lib.hid hwh
        clear hwh
        go_wp2_with fail
        refine (parts_join (HBOD.out _ hA5.out) ⟨i, pn, o, T⟩ HM.out hsmall.out).mono ?_
        rintro en w6 ⟨rfl, hb6⟩
        have hA6 := Lib.hid (hA5.out.below hb6)
        clear hb6 hA5 hln5 e9
        clear g0_w5 g1_w5 g2_w5 g3_w5 j0_w5 j1_w5 j2_w5 j3_w5 j4_w5
        have g0_w6 : w6.cell? ⟨g, 0, none⟩ = some (.int .i64 i) := hA6.out.blk.cell 0
        have g1_w6 : w6.cell? ⟨g, 1, none⟩ = some (.int .i64 pn) := hA6.out.blk.cell 1
        have g2_w6 : w6.cell? ⟨g, 2, none⟩ = some (.int .i64 o) := hA6.out.blk.cell 2
        have g3_w6 : w6.cell? ⟨g, 3, none⟩ = some (.string T) := hA6.out.blk.cell 3
        have j0_w6 : w6.cell? ⟨bj, 0, none⟩ = some (.int .i64 most) := hA6.out.j.bd.cell 0
        have j1_w6 : w6.cell? ⟨bj, 1, none⟩ = some (.int .i64 open_) := hA6.out.j.bd.cell 1
        have j2_w6 : w6.cell? ⟨bj, 2, none⟩ = some (.int .i64 (U : Nat)) := hU ▸ hA6.out.j.bd.cell 2
        have j3_w6 : w6.cell? ⟨bj, 3, none⟩ = some (.map (some bb)) := hA6.out.j.bd.cell 3
        have j4_w6 : w6.cell? ⟨bj, 4, none⟩ = some (.map (some bo)) := hA6.out.j.bd.cell 4
        obtain ⟨JT, hJT⟩ : ∃ JT : ByteArray, (⟨(joinTo l ⟨i, pn, o, T⟩ (Pt.of_ ⟨i, pn, o, T⟩).toNat).toArray⟩ : ByteArray) = JT := ⟨_, rfl⟩
        rw [hJT]
        have HJT := Lib.hid hJT
        clear hJT
        go_wp2_with fail
        refine (parts_drop hA6.out.j i hki.out (by rw [hU]; exact hub')).mono ?_
        rintro en w7 ⟨rfl, hj7, hk7⟩
        have HJ7 := Lib.hid (And.intro hj7 hk7)
        clear hj7 hk7
        clear g0_w6 g1_w6 g2_w6 g3_w6 j0_w6 j1_w6 j2_w6 j3_w6 j4_w6
        have he : addJ most open_ L ⟨i, pn, o, T⟩ = (dropL L i, JT, true, 0) := by
          unfold addJ
          rw [if_neg (not_not_intro HM.out), if_neg (by
            simp only
            rw [HL.out.1, HL.out.2.2]
            rintro (h1 | ⟨_, h1⟩)
            · exact HNE.out.1 h1
            · exact h1 HNE.out.2), if_neg (fun h1 => h1.1 HIN.out), if_pos (by simp only; rw [HL.out.1]; exact HW.out), ← HJT.out]
          simp only [HL.out.1]
        have HE := Lib.hid he
        clear he
        go_wp2_with fail
        go_returns
        refine ⟨f, by rw [HE.out]; rfl, by rw [HE.out]; exact HJ7.out.1.up (Nat.le_succ _), ((KpO.refl _ w).ofBelow hA6.out.bel).trans HJ7.out.2⟩
      · have e9 : (((l.length : Int) + 1) == o) = false := by rw [beq_eq_false_iff_ne]; exact hwh
        have HW := Lib.hid hwh
        clear hwh
        go_wp2_with fail
        go_quiet (fail)
        have hA6 := Lib.hid (hA5.out.drewN nq)
        clear hA5
        clear g0_w5 g1_w5 g2_w5 g3_w5 j0_w5 j1_w5 j2_w5 j3_w5 j4_w5
        generalize w5.drewN nq = w6 at *
        clear hln5
        by_cases hov : most - (U : Int) < (T.size : Int)
        · have d13 : decide (most - (U : Int) < (T.size : Int)) = true := by simp; exact hov
          have HF : Hid (∀ w', Below w.heap.size w w' → AddJPost B bj bb bo n f most open_ L ⟨i, pn, o, T⟩ w (.returned (.tuple #[.string ⟨#[]⟩, .bool false, .int .i64 5])) w') := fun w' hb => post_same H.out hb (by
            unfold addJ
            rw [if_neg (not_not_intro HM.out), if_neg (by
              simp only
              rw [HL.out.1, HL.out.2.2]
              rintro (h1 | ⟨_, h1⟩)
              · exact HNE.out.1 h1
              · exact h1 HNE.out.2), if_neg (fun h1 => h1.1 HIN.out), if_neg (by simp only; rw [HL.out.1]; exact HW.out), if_pos (by simp only; rw [hU]; exact hov)])
          go_wp2_with fail
          go_returns
          exact HF.out _ hA6.out.bel
        · have d13 : decide (most - (U : Int) < (T.size : Int)) = false := by simp; omega
          have hov2 : (T.size : Int) ≤ most - (U : Int) := by omega
          clear hov
          have g0_w6 : w6.cell? ⟨g, 0, none⟩ = some (.int .i64 i) := hA6.out.blk.cell 0
          have g1_w6 : w6.cell? ⟨g, 1, none⟩ = some (.int .i64 pn) := hA6.out.blk.cell 1
          have g2_w6 : w6.cell? ⟨g, 2, none⟩ = some (.int .i64 o) := hA6.out.blk.cell 2
          have g3_w6 : w6.cell? ⟨g, 3, none⟩ = some (.string T) := hA6.out.blk.cell 3
          have j0_w6 : w6.cell? ⟨bj, 0, none⟩ = some (.int .i64 most) := hA6.out.j.bd.cell 0
          have j1_w6 : w6.cell? ⟨bj, 1, none⟩ = some (.int .i64 open_) := hA6.out.j.bd.cell 1
          have j2_w6 : w6.cell? ⟨bj, 2, none⟩ = some (.int .i64 (U : Nat)) := hU ▸ hA6.out.j.bd.cell 2
          have j3_w6 : w6.cell? ⟨bj, 3, none⟩ = some (.map (some bb)) := hA6.out.j.bd.cell 3
          have j4_w6 : w6.cell? ⟨bj, 4, none⟩ = some (.map (some bo)) := hA6.out.j.bd.cell 4
          have hmap := (HBOD.out _ hA6.out).some_
          have hcw : Hid (c ≠ bj ∧ c ≠ g ∧ c < w.heap.size) := by
            have h1 := H.out.nf i HIN.out
            have h2 := (H.out.ps i HIN.out).lt
            rw [HL.out.2.1] at h1 h2
            exact ⟨h1.1, by omega, h2⟩
          go_wp2_with (at_mapUpdate; refine wpList_lmap_store rfl (.tmp 116) (.tmp 118) (.tmp 120) rfl body_t hmap rfl (x := pn) rfl hkn.out (y := T) rfl (by unfold maxLen; omega) ?_; intro w7 hm7 hu7; have hm7' := Lib.hid hm7; have hu7' := Lib.hid hu7; clear hm7 hu7)
          have hbj7 : Hid (Blk w7 bj #[.int .i64 most, .int .i64 open_, .int .i64 (U : Nat), .map (some bb), .map (some bo)] 123) := hU ▸ hu7'.out.blk hA6.out.j.bd (Ne.symm hcw.out.1)
          have hg7 : Hid (Blk w7 g #[.int .i64 i, .int .i64 pn, .int .i64 o, .string T] 33) := hu7'.out.blk hA6.out.blk (Ne.symm hcw.out.2.1)
          have j2_w7 : w7.cell? ⟨bj, 2, none⟩ = some (.int .i64 (U : Nat)) := hbj7.out.cell 2
          have fj_w7 := hbj7.out.free
          have g3_w7 : w7.cell? ⟨g, 3, none⟩ = some (.string T) := hg7.out.cell 3
          clear g0_w6 g1_w6 g2_w6 g3_w6 j0_w6 j1_w6 j2_w6 j3_w6 j4_w6
          go_frame
          go_upto_region 20 with fail
          refine wp_region_drew_tail 8 (by kernel_rfl) (by kernel_rfl) ?_
          simp only [List.take_succ_cons, List.take_zero, List.drop_succ_cons, List.drop_zero]
          repeat (go_big_quiet_step (fail))
          refine wpQuiet_nil ?_
          intro k20
          go_wp2_with fail
          go_returns
          have he : addJ most open_ L ⟨i, pn, o, T⟩ = (L ++ [⟨i, pn, o, T⟩], ByteArray.empty, false, 0) := by
            unfold addJ
            rw [if_neg (not_not_intro HM.out), if_neg (by
              simp only
              rw [HL.out.1, HL.out.2.2]
              rintro (h1 | ⟨_, h1⟩)
              · exact HNE.out.1 h1
              · exact h1 HNE.out.2), if_neg (fun h1 => h1.1 HIN.out), if_neg (by simp only; rw [HL.out.1]; exact HW.out), if_neg (by simp only; rw [hU]; omega)]
          refine ⟨f, by rw [he]; rfl, ?_, ?_⟩
          · rw [he]
            refine hA6.out.j.more (p := ⟨i, pn, o, T⟩) HM.out HIN.out (by simp only; rw [HL.out.2.2]; exact HNE.out.2) (by simp only; rw [HL.out.1]; exact HNE.out.1) ?_ ?_ ?_
            · have := (hbj7.out.drewN k20).set 2 (.int .i64 ((U : Int) + (T.size : Int)))
              simpa [hU] using this
            · simp only
              rw [HL.out.2.1, HL.out.1]
              exact hm7'.out.block (Below.heap_setCell _ _ _ _ (by simpa using hcw.out.1))
            · intro b hb hb1 hb2
              simp only at hb2
              rw [HL.out.2.1] at hb2
              rw [Below.heap_setCell _ _ _ _ (by simpa using hb1)]
              exact hu7'.out.block b (hA6.out.j.lt b hb) (by simpa using hb2)
          · exact ((((KpO.refl _ w).ofBelow hA6.out.bel).upd hu7'.out (.inr (.inr (.inr ⟨i, HIN.out, HL.out.2.1.symm⟩)))).drewN k20).set (a := ⟨bj, 2, none⟩) (.inl rfl) _

    · have e5 : (ov != o) = true := by rw [bne_iff_ne]; exact hoe
      have HF : Hid (∀ w', Below w.heap.size w w' → AddJPost B bj bb bo n f most open_ L ⟨i, pn, o, T⟩ w (.returned (.tuple #[.string ⟨#[]⟩, .bool false, .int .i64 8])) w') := fun w' hb => post_same H.out hb (by
        unfold addJ
        rw [if_neg (not_not_intro HM.out)]
        rw [if_pos (.inr ⟨HIN.out, by rw [HL.out.2.2]; exact hoe⟩)])
      clear htw hoe
      go_wp2_with fail
      go_quiet (fail)
      have hA4 := Lib.hid (hA3.out.drewN nq)
      clear hA3
      clear g0_w3 g1_w3 g2_w3 g3_w3 j0_w3 j1_w3 j2_w3 j3_w3 j4_w3
      generalize w3.drewN nq = w4 at *
      go_wp2_with fail
      go_returns
      exact HF.out _ hA4.out.bel
end Go.Proofs.Ytemfecdpjegocaa
