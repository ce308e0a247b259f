/- 'for i, x := range seq': an iterator that keeps state of its own in cells; a region that draws its order in a round. -/
import Derived.RangeFuncNested
import Derived.RangeFuncBound
import Derived.RangeFuncCalls
import Derived.RangeFuncLeaves
import Derived.OwnWalkIn
import Derived.Deep.Quiet
import Derived.Handy
namespace Go.Proofs.Ytopfpfpefljkkaa
open Go.RowKit
set_option linter.unusedVariables false

/-- J stands whatever turns in blocks from B on. -/
def AbN {β : Type} (B : Nat) (J : β → World → Prop) : Prop :=
  ∀ s W W' row, J s W → W.grownBy W' row → (∀ r, row = some r → B ≤ r) → J s W'
/-- The cells from block E on lie as they lay. -/
def KpC (E : Nat) (W W' : World) : Prop := W.heap.size ≤ W'.heap.size ∧ ∀ k cs t m, E ≤ k → W.heap[k]? = some (.cells cs t m) → W'.heap[k]? = some (.cells cs t m)
theorem KpC.trans {E : Nat} {A B C : World} (h : KpC E A B) (k : KpC E B C) : KpC E A C := ⟨Nat.le_trans h.1 k.1, fun i cs t m hi hc => k.2 i cs t m hi (h.2 i cs t m hi hc)⟩
theorem KpC.refl (E : Nat) (W : World) : KpC E W W := ⟨Nat.le_refl _, fun _ _ _ _ _ h => h⟩
theorem KpC.put {E : Nat} {W : World} {l : Nat} {o : Obj} (o' : Obj) (h : W.heap[l]? = some o) (ho : o.isCells = false) : KpC E W (W.putObj l o') := by
  have hl := (Array.getElem?_eq_some_iff.1 h).1
  refine ⟨(grownBy_putObj' W l o').size, fun k cs t m _ hc => ?_⟩
  have hne : k ≠ l := by
    intro e
    subst e
    rw [h] at hc
    cases hc
    simp [Obj.isCells] at ho
  rw [(grownBy_putObj' W l o').block k (Array.getElem?_eq_some_iff.1 hc).1 (by simpa using hne)]; exact hc

/-- The iterator hands over encs 0, .., encs (N - 1), one behind the other. -/
def SeqCells (F : Fence) (n : Nat) (P : Program) (g : Nat) (lb : Array Value) (encs : Nat → Array Value) (Kp : World → World → Prop) (N : Nat) (w : World) : Prop :=
  ∀ (l : Nat) (J : Nat → World → Prop) (W : World), Below w.heap.size w W → AbN W.heap.size J →
    (∀ k W1, k < N → J k W1 → YieldAt F (n - 1) P l (encs k) W1 fun e W' => e = .returned (.bool true) ∧ J (k + 1) W' ∧ Kp W1 W') →
    J 0 W → CallsIn F n P g (#[.func (.yield l) #[] #[]] ++ lb) W fun e W' => (∃ v, e = .returned v) ∧ J N W'

variable {F : Fence} {n : Nat} {P : Program}

/-- What a round's body leaves: it falls off its end. -/
def endsN (B : Nat) (E : Nat) (I : Nat → World → Prop) (k : Nat) (W : World) : Exit → Act → World → Prop :=
  fun e _ W' => e = .normal ∧ KeepsFrom B W W' ∧ KpC E W W' ∧ I k W'

theorem wpIn_range_cells {g : Operand} {ps : Array Tmp} {assign body : Code} {Q : Exit → Act → World → Prop} {a : Act} {w : World}
    (hro : F.round = none) (h1 : 1 ≤ n) {gf : Nat} {lb : Array Value} (hg : a.eval g = .func (.func gf) #[] lb) (hFg : F.fn gf) (eg : ∀ args w, (callFunc gf args).run P w = .ok (.enter gf args) w)
    {encs : Nat → Array Value} {E N : Nat} {w0 : World} (hseq : SeqCells F (n - 1) P gf lb encs (KpC E) N w0) (hb0 : Below w0.heap.size w0 w) (hps : ∀ k, (encs k).size = ps.size)
    (I : Nat → World → Prop) (hI : AbN w.heap.size I) (h0 : I 0 w)
    (hround : ∀ (l k : Nat) (W : World), k < N → I k W → assign.wpIn (F.inRound l) (n - 1 - 1) P (Exit.then (fun a₁ W₁ => W₁ = W ∧ ∀ W2, I k W2 → body.wpIn (F.inRound l) (n - 1 - 1) P (endsN w.heap.size E I (k + 1) W2) a₁ W2) (fun _ _ _ => False))
      { tmps := (ps.zip (encs k)).foldl (fun t (p, v) => t.setIfInBounds p v) a.tmps, defers := [] } W)
    (hdone : ∀ (D : Nat) (W : World), w.heap.size ≤ D → I N W → W.heap[D]? = some (.deferred (some [])) → Q .normal { a with defers := { target := .collected D, args := #[] } :: a.defers } W) :
    (Code.rangeFunc g ps assign body).wpIn F n P Q a w := by
  refine wpIn_rangeFunc fun fn hfn => ?_
  rw [hro]
  generalize hrec : (fun st => ({ state := st, pending := none, fn, tmps := a.tmps, params := ps, assign, body, defers := w.heap.size } : Loop)) = rec
  have hrs : ∀ st, (rec st).state = st := fun st => by rw [← hrec]
  generalize hW1 : (w.alloc (.deferred (some []))).alloc (.loop (rec .ready)) = W1
  have z1 : W1.heap.size = w.heap.size + 2 := by rw [← hW1]; simp
  have l1 : W1.heap[w.heap.size + 1]? = some (.loop (rec .ready)) := by
    rw [← hW1]
    have := World.alloc_heap_new (w.alloc (.deferred (some []))) (.loop (rec .ready))
    rwa [World.size_alloc] at this
  have d1 : W1.heap[w.heap.size]? = some (.deferred (some [])) := by
    rw [← hW1]; exact (Below.heap_alloc _ _ _ (by simp)).trans (World.alloc_heap_new w _)
  have i1 : I 0 W1 := by
    rw [← hW1]
    exact hI _ _ _ none (hI _ _ _ none h0 (World.grownBy_alloc w _ none) (fun _ h => by cases h)) (World.grownBy_alloc _ _ none) (fun _ h => by cases h)
  have b1 : Below w0.heap.size w0 W1 := by
    rw [← hW1]; exact hb0.trans ((((Below.refl _ w).alloc (Nat.le_refl _) _).alloc (by simp) _).mono hb0.size)
  refine ⟨w.heap.size + 1, [{ target := .collected w.heap.size, args := #[] }], W1, { target := .fn (.func gf) lb, args := #[.func (.yield (w.heap.size + 1)) #[] #[]] }, W1, gf,
    #[.func (.yield (w.heap.size + 1)) #[] #[]] ++ lb, W1, ?_, ?_, ?_, ?_, fun _ => h1, ?_⟩
  · rw [← hW1, ← hrec]; exact run_enterLoop_outer _ _ _ _ _
  · simp only [resolve, hg]
    simp [go_sem]
  · intro f' hf'; simp [Target.leads] at hf'; subst hf'; exact hFg
  · simp [invoke, go_sem, eg]
  · -- book-keeping beside the invariant
    have keep : ∀ {A B : World} {row : Option Nat} {j : Nat} {o : Obj}, A.grownBy B row → (∀ r, row = some r → W1.heap.size ≤ r) → j < W1.heap.size → A.heap[j]? = some o → B.heap[j]? = some o := by
      intro A B row j o hgr hr hj ho
      rw [hgr.block j (Array.getElem?_eq_some_iff.1 ho).1 (fun e => by have := hr j e.symm; omega)]; exact ho
    refine (hseq (w.heap.size + 1) (fun k W => I k W ∧ W.heap[w.heap.size + 1]? = some (.loop (rec .ready)) ∧ W.heap[w.heap.size]? = some (.deferred (some []))) W1 b1
      (fun s A B row hs hgr hr => ⟨hI s A B row hs.1 hgr (fun r e => by have := hr r e; omega), keep hgr hr (by omega) hs.2.1, keep hgr hr (by omega) hs.2.2⟩) ?_ ⟨i1, l1, d1⟩).mono ?_
    · rintro k W hk ⟨hi, hl, hd⟩
      have hy := run_yield (P := P) (args := encs k) hl (by rw [← hrec]; exact hps k)
      rw [← hrec] at hy
      have put : ∀ {W : World} {st : LoopState} (st' : LoopState) {k : Nat}, W.heap[w.heap.size + 1]? = some (.loop (rec st)) → W.heap[w.heap.size]? = some (.deferred (some [])) → I k W →
          (W.putObj (w.heap.size + 1) (.loop (rec st'))).heap[w.heap.size + 1]? = some (.loop (rec st')) ∧ (W.putObj (w.heap.size + 1) (.loop (rec st'))).heap[w.heap.size]? = some (.deferred (some [])) ∧
            I k (W.putObj (w.heap.size + 1) (.loop (rec st'))) := by
        intro W st st' k hl hd hi
        exact ⟨World.putObj_heap_same (Array.getElem?_eq_some_iff.1 hl).1, (World.putObj_heap_other (by omega)).trans hd, hI _ _ _ (some (w.heap.size + 1)) hi (grownBy_putObj' _ _ _) (fun r e => by cases e; omega)⟩
      have busy : ∀ st st', ({ rec st with state := st' } : Loop) = rec st' := fun st st' => by rw [← hrec]
      refine ⟨fn, _, assign, body, hy, roundIn_of_wpIn hfn (wpIn_mono (hround _ k W hk hi) ?_)⟩
      rintro e a₁ W₁ hp
      cases e with
      | normal =>
        obtain ⟨rfl, hb⟩ := hp
        obtain ⟨p1, p2, p3⟩ := put .busy hl hd hi
        refine ⟨_, run_beginRound hl (hrs _), ?_⟩
        rw [busy]
        refine wpIn_mono (hb _ p3) ?_
        rintro e a3 W3 ⟨rfl, k3, c3, i3⟩
        have l3 := k3.same _ _ (by omega) p1 rfl
        have d3 := k3.same _ _ (Nat.le_refl _) p2 rfl
        obtain ⟨q1, q2, q3⟩ := put .ready l3 d3 i3
        have hr := run_endRound (P := P) none l3
        refine ⟨_, _, hr, ?_⟩
        have e4 : ({ rec .busy with state := if (none : Option Code).isNone then .ready else .done, pending := none } : Loop) = rec .ready := by rw [← hrec]; rfl
        rw [e4]
        exact ⟨rfl, ⟨q3, q1, q2⟩, ((KpC.put _ hl rfl).trans c3).trans (KpC.put _ l3 rfl)⟩
      | ret => exact hp.elim
      | exit id => exact hp.elim
      | goto t => exact hp.elim
      | panic c => exact hp.elim
      | outgrown => exact hp.elim
    · rintro e W2 ⟨⟨v, rfl⟩, hi, hl, hd⟩
      have hend := run_endLoop (P := P) hl (by rw [hrs]; simp)
      have e5 : (rec .ready).pending = none := by rw [← hrec]
      rw [e5] at hend
      exact ⟨none, _, hend, hdone _ _ (Nat.le_refl _) (hI _ _ _ (some (w.heap.size + 1)) hi (grownBy_putObj' _ _ _) (fun r e => by cases e; omega)) ((World.putObj_heap_other (by omega)).trans hd)⟩
end Go.Proofs.Ytopfpfpefljkkaa
