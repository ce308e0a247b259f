/- A region that draws its order, in which variables are made in whatever order. -/
import Derived.Test.YtemfecdpjegocaaObj
import Derived.OrdersHeld
namespace Go.Proofs.Ytemfecdpjegocaa
open Go.RowKit
set_option linter.unusedVariables false

section fold
variable {σ : Type} (step : σ → Nat × Nat → Nat → σ)
/-- What those of the list that have a number do, in the list's order. -/
def foldF (f : Nat → Option Nat) : List (Nat × Nat) → σ → σ
  | [], s => s
  | p :: r, s => foldF f r (match f p.1 with | some b => step s p b | none => s)
def upd (f : Nat → Option Nat) (i b : Nat) : Nat → Option Nat := fun j => if j = i then some b else f j
variable {step}
theorem foldF_step (hc : ∀ s p q b c, p.1 ≠ q.1 → p.2 ≠ q.2 → step (step s p b) q c = step (step s q c) p b) (f : Nat → Option Nat) (p : Nat × Nat) (b : Nat) :
    ∀ (l : List (Nat × Nat)) (s : σ), (∀ q ∈ l, p.1 ≠ q.1 ∧ p.2 ≠ q.2) → foldF step f l (step s p b) = step (foldF step f l s) p b
  | [], s, _ => rfl
  | q :: r, s, h => by
    have hq := h q (by simp)
    rw [foldF, foldF]
    cases hf : f q.1 with
    | none => exact foldF_step hc f p b r s fun x hx => h x (by simp [hx])
    | some c =>
      show foldF step f r (step (step s p b) q c) = step (foldF step f r (step s q c)) p b
      rw [hc s p q b c hq.1 hq.2]
      exact foldF_step hc f p b r _ fun x hx => h x (by simp [hx])
theorem foldF_congr (f g : Nat → Option Nat) : ∀ (l : List (Nat × Nat)) (s : σ), (∀ q ∈ l, f q.1 = g q.1) → foldF step f l s = foldF step g l s
  | [], s, _ => rfl
  | q :: r, s, h => by
    rw [foldF, foldF, h q (by simp)]
    exact foldF_congr f g r _ fun x hx => h x (by simp [hx])
theorem foldF_upd (hc : ∀ s p q b c, p.1 ≠ q.1 → p.2 ≠ q.2 → step (step s p b) q c = step (step s q c) p b) (f : Nat → Option Nat) (p : Nat × Nat) (b : Nat) (hf : f p.1 = none) :
    ∀ (l : List (Nat × Nat)) (s : σ), l.Pairwise (fun x y => x.1 ≠ y.1 ∧ x.2 ≠ y.2) → p ∈ l → step (foldF step f l s) p b = foldF step (upd f p.1 b) l s
  | [], s, _, h => by cases h
  | q :: r, s, hl, h => by
    rw [List.pairwise_cons] at hl
    rcases List.mem_cons.1 h with rfl | h'
    · have hne : ∀ x ∈ r, p.1 ≠ x.1 ∧ p.2 ≠ x.2 := hl.1
      rw [foldF, foldF, hf]
      have e : upd f p.1 b p.1 = some b := by simp [upd]
      rw [e]
      show step (foldF step f r s) p b = foldF step (upd f p.1 b) r (step s p b)
      rw [← foldF_step hc f p b r s hne]
      refine foldF_congr _ _ r _ fun x hx => ?_
      have := (hne x hx).1
      unfold upd; rw [if_neg (Ne.symm this)]
    · have hne := hl.1 p h'
      rw [foldF, foldF]
      have e : upd f p.1 b q.1 = f q.1 := by unfold upd; rw [if_neg hne.1]
      rw [e]
      exact foldF_upd hc f p b hf r _ hl.2 h'
end fold

def putB (a : Act) (p : Nat × Nat) (b : Nat) : Act := a.put (some p.2) (.pointer (some ⟨b, 0, none⟩))
def setB (L : Array Bool) (p : Nat × Nat) (b : Nat) : Array Bool := L.setIfInBounds p.1 true
theorem putB_comm (s : Act) (p q : Nat × Nat) (b c : Nat) (h1 : p.1 ≠ q.1) (h2 : p.2 ≠ q.2) : putB (putB s p b) q c = putB (putB s q c) p b := by
  unfold putB; exact (Act.put_comm s _ _ (fun d hd => by cases hd; simpa using fun e => h2 e)).symm
theorem setB_comm (s : Array Bool) (p q : Nat × Nat) (b c : Nat) (h1 : p.1 ≠ q.1) (h2 : p.2 ≠ q.2) : setB (setB s p b) q c = setB (setB s q c) p b := by
  unfold setB; exact Array.setIfInBounds_comm _ _ h1

theorem setB_get (f : Nat → Option Nat) (d : Bool) (j : Nat) : ∀ (l : List (Nat × Nat)) (L : Array Bool), (∀ p ∈ l, p.1 = j → f p.1 = none) → (foldF setB f l L).getD j d = L.getD j d
  | [], L, _ => rfl
  | p :: r, L, h => by
    rw [foldF, setB_get f d j r _ fun x hx => h x (by simp [hx])]
    cases hf : f p.1 with
    | none => rfl
    | some b =>
      have : p.1 ≠ j := fun e => by have := h p (by simp) e; rw [hf] at this; cases this
      exact getD_set_ne d this
theorem setB_true (f : Nat → Option Nat) (j : Nat) : ∀ (l : List (Nat × Nat)) (L : Array Bool), L.getD j false = true → (foldF setB f l L).getD j false = true
  | [], L, h => h
  | p :: r, L, h => by
    rw [foldF]
    refine setB_true f j r _ ?_
    cases hf : f p.1 with
    | none => exact h
    | some b => exact getD_set_true h

theorem setB_keep (f : Nat → Option Nat) (d : Bool) (j : Nat) : ∀ (l : List (Nat × Nat)) (L : Array Bool), L.getD j d = true → (foldF setB f l L).getD j d = true
  | [], L, h => h
  | p :: r, L, h => by
    rw [foldF]
    refine setB_keep f d j r _ ?_
    cases hf : f p.1 with
    | none => exact h
    | some b =>
      by_cases e : p.1 = j
      · subst e
        unfold setB
        simp only [Array.getD_eq_getD_getElem?, Array.getElem?_setIfInBounds_self]
        split
        · rfl
        · rename_i hn
          rw [Array.getD_eq_getD_getElem?, Array.getElem?_eq_none (by omega)] at h
          exact h
      · exact (getD_set_ne d e).trans h
theorem setB_some (f : Nat → Option Nat) (p : Nat × Nat) (b : Nat) (hf : f p.1 = some b) : ∀ (l : List (Nat × Nat)) (L : Array Bool), p ∈ l → (foldF setB f l L).getD p.1 true = true
  | [], _, h => by cases h
  | q :: r, L, h => by
    rw [foldF]
    rcases List.mem_cons.1 h with rfl | h'
    · rw [hf]
      refine setB_keep f true p.1 r _ ?_
      show (L.setIfInBounds p.1 true).getD p.1 true = true
      rw [Array.getD_eq_getD_getElem?, Array.getElem?_setIfInBounds_self]
      split <;> rfl
    · exact setB_some f p b hf r _ h'

/-- How many have none yet. -/
def left (f : Nat → Option Nat) (l : List (Nat × Nat)) : Nat := (l.filter fun p => (f p.1).isNone).length
theorem left_upd (f : Nat → Option Nat) (p : Nat × Nat) (b : Nat) (hf : f p.1 = none) : ∀ (l : List (Nat × Nat)), l.Pairwise (fun x y => x.1 ≠ y.1 ∧ x.2 ≠ y.2) → p ∈ l → left f l = left (upd f p.1 b) l + 1
  | [], _, h => by cases h
  | q :: r, hl, h => by
    rw [List.pairwise_cons] at hl
    unfold left
    rcases List.mem_cons.1 h with rfl | h'
    · have e : (upd f p.1 b p.1).isNone = false := by simp [upd]
      rw [List.filter_cons_of_pos (by simp [hf]), List.filter_cons_of_neg (by simp [e]), List.length_cons]
      congr 2
      refine List.filter_congr fun x hx => ?_
      have := (hl.1 x hx).1
      unfold upd; rw [if_neg (Ne.symm this)]
    · have hne := (hl.1 p h').1
      have e : upd f p.1 b q.1 = f q.1 := by unfold upd; rw [if_neg hne]
      have ih := left_upd f p b hf r hl.2 h'
      unfold left at ih
      by_cases c : (f q.1).isNone = true
      · rw [List.filter_cons_of_pos (by simpa using c), List.filter_cons_of_pos (by rw [e]; simpa using c), List.length_cons, List.length_cons, ih]
      · rw [List.filter_cons_of_neg (by simpa using c), List.filter_cons_of_neg (by rw [e]; simpa using c), ih]

/-- The blocks that have been made. -/
structure MadeB (H : Nat) (T : TypeId) (z : Value) (w0 : World) (f : Nat → Option Nat) (l : List (Nat × Nat)) (w : World) : Prop where
  below : Below H w0 w
  blk : ∀ p ∈ l, ∀ b, f p.1 = some b → H ≤ b ∧ Blk w b #[z] T
  inj : ∀ p ∈ l, ∀ q ∈ l, ∀ b, f p.1 = some b → f q.1 = some b → p.1 = q.1

variable {P : Program} {ops : Array Oper} {Q : Exit → Act → World → Prop} {S : World → Prop} {md : Region.Mode}

theorem anyH_allocs {T : TypeId} {z : Value} {H fuel : Nat} {w0 : World} {a0 : Act} {L0 : Array Bool} (l : List (Nat × Nat)) (hl : l.Pairwise (fun x y => x.1 ≠ y.1 ∧ x.2 ≠ y.2)) (hH : H ≤ w0.heap.size)
    (hop : ∀ p ∈ l, ∃ o, ops[p.1]? = some o ∧ o.dst = some p.2 ∧ o.guard = none ∧ (∀ ρ w, (execOp ρ o).run P w = .ok (.value (.pointer (some ⟨w.heap.size, 0, none⟩))) (w.alloc (.cells #[z] T))) ∧
      (∀ e ∈ o.after, Region.binds md e = true → L0.getD e.on false = true) ∧ L0.getD p.1 true = false)
    (hwait : ∀ j o, ops[j]? = some o → L0.getD j true = false → (∀ p ∈ l, p.1 ≠ j) → ∀ p ∈ l, ∃ e ∈ o.after, Region.binds md e = true ∧ e.on = p.1)
    (hS : ∀ w, S w → S (w.alloc (.cells #[z] T)))
    (hend : ∀ (bs : Nat → Nat) w, S w → MadeB H T z w0 (fun i => some (bs i)) l w → wpAnyH P md ops Q S fuel (foldF setB (fun i => some (bs i)) l L0) (foldF putB (fun i => some (bs i)) l a0) w) :
    ∀ (k : Nat) (f : Nat → Option Nat) (w : World), left f l = k → S w → MadeB H T z w0 f l w → wpAnyH P md ops Q S (fuel + k) (foldF setB f l L0) (foldF putB f l a0) w := by
  intro k
  induction k with
  | zero =>
    intro f w hk hSw hm
    have hall : ∀ p ∈ l, f p.1 = some ((f p.1).getD 0) := by
      intro p hp
      cases hf : f p.1 with
      | some b => rfl
      | none =>
        have : p ∈ l.filter fun p => (f p.1).isNone := List.mem_filter.2 ⟨hp, by simp [hf]⟩
        rw [List.length_eq_zero_iff.1 hk] at this
        cases this
    have h := hend (fun i => (f i).getD 0) w hSw ⟨hm.below, fun p hp b hb => hm.blk p hp b (by rw [hall p hp]; exact hb), fun p hp q hq b h1 h2 => hm.inj p hp q hq b (by rw [hall p hp]; exact h1) (by rw [hall q hq]; exact h2)⟩
    rw [foldF_congr f (fun i => some ((f i).getD 0)) l L0 hall, foldF_congr f (fun i => some ((f i).getD 0)) l a0 hall]
    exact h
  | succ k ih =>
    intro f w hk hSw hm
    have hzero : ∀ p ∈ l, f p.1 = none → (foldF setB f l L0).getD p.1 true = false ∧ (foldF setB f l L0).getD p.1 false = false := by
      intro p hp hf
      obtain ⟨o, _, _, _, _, _, h0⟩ := hop p hp
      rw [setB_get f true p.1 l L0 (fun x _ e => by rw [e]; exact hf), setB_get f false p.1 l L0 (fun x _ e => by rw [e]; exact hf)]
      refine ⟨h0, ?_⟩
      rw [Array.getD_eq_getD_getElem?] at h0 ⊢
      cases hx : L0[p.1]? with
      | none => rw [hx] at h0; cases h0
      | some v => rw [hx] at h0; exact h0
    obtain ⟨p1, hp1, hf1⟩ : ∃ p ∈ l, f p.1 = none := by
      have : 0 < (l.filter fun p => (f p.1).isNone).length := by show 0 < left f l; omega
      obtain ⟨p, hp⟩ := List.exists_mem_of_length_pos this
      obtain ⟨h1, h2⟩ := List.mem_filter.1 hp
      exact ⟨p, h1, by simpa using h2⟩
    have hready : ∀ i, i ∈ Region.ready md ops (foldF setB f l L0) → ∃ p ∈ l, p.1 = i ∧ f p.1 = none := by
      intro i hi
      obtain ⟨h0, o, ho, he⟩ := mem_ready.1 hi
      rcases Classical.em (∃ p ∈ l, p.1 = i) with ⟨p, hp, hpi⟩ | hno
      · refine ⟨p, hp, hpi, ?_⟩
        cases hf : f p.1 with
        | none => rfl
        | some b =>
          have := setB_some f p b hf l L0 hp
          rw [hpi, h0] at this
          cases this
      · exfalso
        have hL : L0.getD i true = false := by rw [← h0, setB_get f true i l L0 (fun x hx e => absurd ⟨x, hx, e⟩ hno)]
        obtain ⟨e, hea, heb, heo⟩ := hwait i o ho hL (fun p hp e => hno ⟨p, hp, e⟩) p1 hp1
        have h1 := he e hea heb
        rw [heo, (hzero p1 hp1 hf1).2] at h1
        cases h1
    refine ⟨fun hnil => ?_, fun i hi => ?_⟩
    · exfalso
      obtain ⟨o, ho, _, _, _, hed, _⟩ := hop p1 hp1
      have : p1.1 ∈ Region.ready md ops (foldF setB f l L0) := mem_ready.2 ⟨(hzero p1 hp1 hf1).1, o, ho, fun e hea heb => setB_true f e.on l L0 (hed e hea heb)⟩
      rw [hnil] at this
      cases this
    · obtain ⟨p, hp, rfl, hf⟩ := hready i hi
      obtain ⟨o, ho, hdst, hg, hrun, _, _⟩ := hop p hp
      unfold wpOp
      simp only [ho]
      have hw : ∀ y, Region.wanted o y = true := fun y => by unfold Region.wanted; rw [hg]
      rw [if_pos (hw _)]
      refine .inl ?_
      unfold Oper.wp
      rw [hrun]
      show S _ ∧ wpAnyH P md ops Q S (fuel + k) _ ((foldF putB f l a0).put o.dst (.pointer (some ⟨w.heap.size, 0, none⟩))) _
      rw [hdst]
      refine ⟨hS w hSw, ?_⟩
      have e1 := foldF_upd setB_comm f p w.heap.size hf l L0 hl hp
      have e2 := foldF_upd putB_comm f p w.heap.size hf l a0 hl hp
      have e1' : (foldF setB f l L0).setIfInBounds p.1 true = foldF setB (upd f p.1 w.heap.size) l L0 := e1
      have e2' : (foldF putB f l a0).put (some p.2) (.pointer (some ⟨w.heap.size, 0, none⟩)) = foldF putB (upd f p.1 w.heap.size) l a0 := e2
      rw [e1', e2']
      have hlk := left_upd f p w.heap.size hf l hl hp
      have hHw : H ≤ w.heap.size := Nat.le_trans hH hm.below.size
      refine ih _ _ (by omega) (hS w hSw) ⟨hm.below.alloc hHw _, fun q hq b hb => ?_, fun q hq r hr b h1 h2 => ?_⟩
      · unfold upd at hb
        by_cases c : q.1 = p.1
        · rw [if_pos c] at hb
          cases hb
          exact ⟨hHw, Blk.new w _ T⟩
        · rw [if_neg c] at hb
          obtain ⟨h1, h2⟩ := hm.blk q hq b hb
          exact ⟨h1, h2.alloc _⟩
      · unfold upd at h1 h2
        by_cases c : q.1 = p.1
        · by_cases d : r.1 = p.1
          · rw [c, d]
          · rw [if_pos c] at h1
            rw [if_neg d] at h2
            cases h1
            exact absurd (hm.blk r hr _ h2).2.lt (Nat.lt_irrefl _)
        · rw [if_neg c] at h1
          by_cases d : r.1 = p.1
          · rw [if_pos d] at h2
            cases h2
            exact absurd (hm.blk q hq _ h1).2.lt (Nat.lt_irrefl _)
          · rw [if_neg d] at h2
            exact hm.inj q hq r hr b h1 h2
end Go.Proofs.Ytemfecdpjegocaa
