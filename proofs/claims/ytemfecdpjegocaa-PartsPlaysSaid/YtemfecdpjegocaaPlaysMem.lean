/- PartsPlays: the joiner and the document's joiner side by side in memory; a joiner that is nil. -/
import Derived.Test.YtemfecdpjegocaaDocAddW
import Derived.Test.YtemfecdpjegocaaPlaysPlain
import Derived.Test.YtemfecdpjegocaaActs
import Derived.Test.YtemfecdpjegocaaOrderMem
import Derived.Test.YtemfecdpjegocaaJLaws
namespace Go.Proofs.Ytemfecdpjegocaa
open Go.RowKit Go.Maps
set_option linter.unusedVariables false
set_option linter.unusedSimpArgs false

theorem LMap.no_cell {P : Program} {k : TypeId} {κ X : Type} {E : KEnc P k κ} {F : EEnc X} {w : World} {b n : Nat} {l : List (κ × X)} (h : LMap E F w b n l) (o : Nat) : w.cell? ⟨b, o, none⟩ = none := by
  obtain ⟨_, ⟨es, clock, hh, _⟩, _⟩ := h
  simp [World.cell?, hh]
/-- A block that has a cell, and is not the joiner's own struct, is none of the joiner's. -/
theorem JAt.not_own {B bj bb bo n : Nat} {f : Int → Nat} {most open_ : Int} {w : World} {L : List Pt} (h : JAt B bj bb bo n f most open_ w L) {b o : Nat} {x : Value} (hc : w.cell? ⟨b, o, none⟩ = some x) (hne : b ≠ bj) : ¬ OwnJ bj bb bo f L b := by
  rintro (rfl | rfl | rfl | ⟨i, hi, rfl⟩)
  · exact hne rfl
  · rw [h.mb.no_cell] at hc; cases hc
  · rw [h.mo.no_cell] at hc; cases hc
  · rw [(h.ps i hi).no_cell] at hc; cases hc
theorem PV.kpo {B bj bb bo n : Nat} {f : Int → Nat} {most open_ : Int} {w w' : World} {L M : List Pt} {v : Value} (h : PV w v M) (hj : JAt B bj bb bo n f most open_ w L) (hk : KpO (OwnJ bj bb bo f L) w w') (hne : ∀ b, v.ownBlock = some b → b ≠ bj) : PV w' v M := by
  rcases h with h | ⟨g, off, cap, hv, hlt, hc⟩
  · exact .inl h
  · refine .inr ⟨g, off, cap, hv, Nat.lt_of_lt_of_le hlt hk.size, fun i hi j hj' => ?_⟩
    have h1 := hc i hi j hj'
    rw [← h1]
    have h4 : (M[i].cs)[j]? = some ((M[i].cs)[j]'(by simp [Pt.cs]; omega)) := Array.getElem?_eq_getElem (by simp [Pt.cs]; omega)
    rw [h4] at h1
    exact World.cell?_of_block (hk.block g hlt (hj.not_own h1 (hne g (by rw [hv]; rfl))))
theorem JAt.nodup {B bj bb bo n : Nat} {f : Int → Nat} {most open_ : Int} {w : World} {L : List Pt} (h : JAt B bj bb bo n f most open_ w L) (x : Int) : ((partsOf L x).map Prod.fst).Nodup := by
  by_cases hx : x ∈ idsL L
  · exact (h.ps x hx).nodup
  · rw [partsOf_none L hx]; exact List.nodup_nil

/-- Both joiners, side by side: the program's has L, the document's has M. -/
structure P2 (B bj bx n : Nat) (most open_ : Int) (w0 w : World) (L M : List Pt) (v : Value) : Prop where
  ja : ∃ bb bo f, JAt B bj bb bo n f most open_ w L
  bk : Blk w bx #[.int .i64 most, .int .i64 open_, v] 84
  pv : PV w v M
  ne : bx ≠ bj ∧ B ≤ bx ∧ B ≤ bj
  nv : ∀ b, v.ownBlock = some b → b ≠ bj ∧ b ≠ bx ∧ B ≤ b
  bel : Below B w0 w
section
variable {B bj bx n : Nat} {most open_ : Int} {w0 w w' : World} {L M : List Pt} {v : Value}
theorem P2.lt (h : P2 B bj bx n most open_ w0 w L M v) : bx < w.heap.size ∧ bj < w.heap.size ∧ B ≤ w.heap.size := by
  obtain ⟨bb, bo, f, h1⟩ := h.ja
  exact ⟨h.bk.lt, h1.bd.lt, by have := h.bk.lt; have := h.ne.2.1; omega⟩
theorem P2.below (h : P2 B bj bx n most open_ w0 w L M v) (hb : Below w.heap.size w w') : P2 B bj bx n most open_ w0 w' L M v := by
  obtain ⟨bb, bo, f, h1⟩ := h.ja
  exact ⟨⟨bb, bo, f, h1.below hb⟩, Below.blk hb h.bk h.bk.lt, h.pv.below hb, h.ne, h.nv, h.bel.trans (hb.mono h.lt.2.2)⟩
theorem P2.up (h : P2 B bj bx n most open_ w0 w L M v) {m : Nat} (hm : n ≤ m) : P2 B bj bx m most open_ w0 w L M v := by
  obtain ⟨bb, bo, f, h1⟩ := h.ja
  exact ⟨⟨bb, bo, f, h1.up hm⟩, h.bk, h.pv, h.ne, h.nv, h.bel⟩
theorem P2.all (h : P2 B bj bx n most open_ w0 w L M v) : (∀ q ∈ L, mayP q) ∧ (∀ q ∈ L, q.of_ = ofL L q.id) ∧ ∀ x, ((partsOf L x).map Prod.fst).Nodup := by
  obtain ⟨bb, bo, f, h1⟩ := h.ja
  exact ⟨h1.may, h1.of1, h1.nodup⟩
/-- The document's joiner is stored anew. -/
theorem P2.stored (h : P2 B bj bx n most open_ w0 w L M v) {v' : Value} {M' : List Pt} (hpv : PV w v' M') (hnv : ∀ b, v'.ownBlock = some b → b ≠ bj ∧ b ≠ bx ∧ B ≤ b) :
    P2 B bj bx n most open_ w0 (((w.setCell ⟨bx, 0, none⟩ (.int .i64 most)).setCell ⟨bx, 1, none⟩ (.int .i64 open_)).setCell ⟨bx, 2, none⟩ v') L M' v' := by
  obtain ⟨bb, bo, f, h1⟩ := h.ja
  obtain ⟨e1, e2, e3⟩ := set3 h.bk h.bel h.ne.2.1 (.int .i64 most) (.int .i64 open_) v'
  refine ⟨⟨bb, bo, f, h1.other fun b hb hlt => e3 b fun e => ?_⟩, e1, hpv.other fun b hb => e3 b (hnv b hb).2.1, h.ne, hnv, e2⟩
  exact h1.not_own (h.bk.cell 0) h.ne.1 (e ▸ hb)
def PAddPost (B bj bx n : Nat) (most open_ : Int) (w0 : World) (L M : List Pt) (v : Value) (p : Pt) (w : World) (en : Ending) (w' : World) : Prop :=
  en = .returned (.tuple #[.string (addJ most open_ L p).2.1, .bool (addJ most open_ L p).2.2.1, .int .i64 (addJ most open_ L p).2.2.2]) ∧ P2 B bj bx (n + 1) most open_ w0 w' (addJ most open_ L p).1 M v ∧ w.heap.size ≤ w'.heap.size ∧
    ∀ b cs t, b ≠ bj → Blk w b cs t → 0 < cs.size → Blk w' b cs t
theorem plays_add (h : P2 B bj bx n most open_ w0 w L M v) (p : Pt) (hwf : p.wf) (hm : 0 ≤ most ∧ most ≤ 1073741824) (hu : (usedL L : Int) ≤ most) (hn : n ≤ 100000) :
    Calls Try.prog 37 #[.pointer (some ⟨bj, 0, none⟩), .agg p.cs] w (PAddPost B bj bx n most open_ w0 L M v p w) := by
  obtain ⟨bb, bo, f, h1⟩ := h.ja
  refine (parts_add h1 p hwf (by omega) (by omega) hn).mono fun en w' ⟨f', he, hj, hkp⟩ => ?_
  have hlo := OwnJ.lo h1
  refine ⟨he, ⟨⟨bb, bo, f', hj⟩, ?_, h.pv.kpo h1 hkp fun b hb => (h.nv b hb).1, h.ne, h.nv, hkp.below h.bel hlo h.lt.2.2⟩, hkp.size, fun b cs t hb hbk hcs => ?_⟩
  · exact hkp.blk h.bk (h1.not_own (h.bk.cell 0) h.ne.1)
  · refine hkp.blk hbk (h1.not_own (o := 0) (x := cs[0]) ?_ hb)
    rw [hbk.cell]; exact Array.getElem?_eq_getElem hcs
def PDropPost (B bj bx n : Nat) (most open_ : Int) (w0 : World) (L M : List Pt) (v : Value) (x : Int) (w : World) (en : Ending) (w' : World) : Prop :=
  en = .returned (.bool (decide (x ∈ idsL L))) ∧ P2 B bj bx n most open_ w0 w' (dropL L x) M v ∧ w.heap.size ≤ w'.heap.size ∧
    ∀ b cs t, b ≠ bj → Blk w b cs t → 0 < cs.size → Blk w' b cs t
theorem plays_drop (h : P2 B bj bx n most open_ w0 w L M v) (x : Int) (hx : (Lit.int .i64 x).wf = true) (hm : most ≤ 1073741824) (hu : (usedL L : Int) ≤ most) :
    Calls Try.prog 40 #[.pointer (some ⟨bj, 0, none⟩), .int .i64 x] w (PDropPost B bj bx n most open_ w0 L M v x w) := by
  obtain ⟨bb, bo, f, h1⟩ := h.ja
  refine (parts_drop h1 x hx (by omega)).mono fun en w' ⟨he, hj, hkp⟩ => ?_
  have hlo := OwnJ.lo h1
  refine ⟨he, ⟨⟨bb, bo, f, hj⟩, ?_, h.pv.kpo h1 hkp fun b hb => (h.nv b hb).1, h.ne, h.nv, hkp.below h.bel hlo h.lt.2.2⟩, hkp.size, fun b cs t hb hbk hcs => ?_⟩
  · exact hkp.blk h.bk (h1.not_own (h.bk.cell 0) h.ne.1)
  · refine hkp.blk hbk (h1.not_own (o := 0) (x := cs[0]) ?_ hb)
    rw [hbk.cell]; exact Array.getElem?_eq_getElem hcs
theorem plays_used (h : P2 B bj bx n most open_ w0 w L M v) : Calls Try.prog 39 #[.pointer (some ⟨bj, 0, none⟩)] w fun en w' => en = .returned (.int .i64 (usedL L : Nat)) ∧ w' = w := let ⟨_, _, _, h1⟩ := h.ja; parts_used h1
theorem plays_open (h : P2 B bj bx n most open_ w0 w L M v) (hn : n ≤ 100000) : Calls Try.prog 38 #[.pointer (some ⟨bj, 0, none⟩)] w (OpenPost B (idsL L) w) := let ⟨_, _, _, h1⟩ := h.ja; parts_open h1 hn
end
theorem doc_add {w : World} {v : Value} {L : List Pt} (h : PV w v L) (p : Pt) (hwf : p.wf) (m o : Int) (hl : L.length ≤ 1000) (hu : usedL L ≤ 1099511627776) (hall : ∀ q ∈ L, mayP q) (of1 : ∀ q ∈ L, q.of_ = ofL L q.id)
    (hnd : ((partsOf L p.id).map Prod.fst).Nodup) (hmb : 0 ≤ m ∧ m ≤ 1099511627776) (hob : 0 ≤ o ∧ o ≤ 100000) :
    Calls Try.prog 42 #[.agg #[.int .i64 m, .int .i64 o, v], .agg p.cs] w (DAddPost v m o L p w) := by
  by_cases hm : mayP p
  · exact doc_add_may h p hm m o hl hu hall of1 hnd hmb hob
  · exact doc_add_bad h p hwf hm m o
/-- A joiner with limits that may not be. -/
def badLim (most open_ : Int) : Prop := most < 0 ∨ 1073741824 < most ∨ open_ < 1 ∨ 32 < open_
set_option maxRecDepth 100000 in
theorem new_bad (most open_ : Int) (w : World) (h : badLim most open_) : Calls Try.prog 36 #[.int .i64 most, .int .i64 open_] w fun en w' => en = .returned (.tuple #[.pointer none, .int .i64 1]) ∧ w' = w := by
  have hb : (decide (most < 0) = true) ∨ (decide (most < 0) = false ∧ decide (1073741824 < most) = true) ∨ (decide (most < 0) = false ∧ decide (1073741824 < most) = false ∧ decide (open_ < 1) = true) ∨
      (decide (most < 0) = false ∧ decide (1073741824 < most) = false ∧ decide (open_ < 1) = false ∧ decide (32 < open_) = true) := by
    unfold badLim at h
    by_cases c1 : most < 0
    · exact .inl (by simp; exact c1)
    · by_cases c2 : 1073741824 < most
      · exact .inr (.inl ⟨by simp; omega, by simp; omega⟩)
      · by_cases c3 : open_ < 1
        · exact .inr (.inr (.inl ⟨by simp; omega, by simp; omega, by simp; omega⟩))
        · exact .inr (.inr (.inr ⟨by simp; omega, by simp; omega, by simp; omega, by simp; omega⟩))
  clear h
  rcases hb with h0 | ⟨h0, h1⟩ | ⟨h0, h1, h2⟩ | ⟨h0, h1, h2, h3⟩
  all_goals
    go_enter Try.func36, Try.ntmps36
    go_wp2_with fail
    go_returns
    exact ⟨rfl, rfl⟩
set_option maxRecDepth 100000 in
theorem nil_add (cs : Array Value) (w : World) : Calls Try.prog 37 #[.pointer none, .agg cs] w fun en w' => en = .returned (.tuple #[.string ⟨#[]⟩, .bool false, .int .i64 1]) ∧ Below w.heap.size w w' := by
  have hb : Hid (Below w.heap.size w (w.alloc (.cells cs 33))) := (Below.refl _ _).alloc (Nat.le_refl _) _
  go_enter Try.func37, Try.ntmps37
  go_wp2_with fail
  go_returns
  exact ⟨rfl, hb.out⟩
theorem nil_open (w : World) : Calls Try.prog 38 #[.pointer none] w fun en w' => en = .returned (.slice none 0 0) ∧ w' = w := by
  go_enter Try.func38, Try.ntmps38
  go_wp2_with fail
  go_returns
  exact ⟨rfl, rfl⟩
theorem nil_used (w : World) : Calls Try.prog 39 #[.pointer none] w fun en w' => en = .returned (.int .i64 0) ∧ w' = w := by
  go_enter Try.func39, Try.ntmps39
  go_wp2_with fail
  go_returns
  exact ⟨rfl, rfl⟩
theorem nil_drop (x : Int) (w : World) : Calls Try.prog 40 #[.pointer none, .int .i64 x] w fun en w' => en = .returned (.bool false) ∧ w' = w := by
  go_enter Try.func40, Try.ntmps40
  go_wp2_with fail
  go_returns
  exact ⟨rfl, rfl⟩
end Go.Proofs.Ytemfecdpjegocaa
