/- 'for x := range seq': an iterator that keeps what it knows in blocks of its own, under a loop whose body makes blocks and writes its own. -/
import Derived.Test.YtopfpfpefljkkaaRange
namespace Go.Proofs.Ytopfpfpefljkkaa
open Go.RowKit
set_option linter.unusedVariables false

/-- J stands whatever turns in blocks of M; M takes in what is made. -/
def AbM {β : Type} (J : β → (Nat → Prop) → World → Prop) : Prop :=
  ∀ s M W W' row, J s M W → W.grownBy W' row → (∀ r, row = some r → M r) → J s (fun b => M b ∨ (W.heap.size ≤ b ∧ b < W'.heap.size)) W'
/-- The blocks below D and those of M lie as they lay. -/
def KpM (D : Nat) (M : Nat → Prop) (W W' : World) : Prop := W.heap.size ≤ W'.heap.size ∧ ∀ b, b < W.heap.size → (b < D ∨ M b) → W'.heap[b]? = W.heap[b]?
theorem KpM.trans {D : Nat} {M : Nat → Prop} {A B C : World} (h : KpM D M A B) (k : KpM D M B C) : KpM D M A C := ⟨Nat.le_trans h.1 k.1, fun b hb hm => (k.2 b (Nat.lt_of_lt_of_le hb h.1) hm).trans (h.2 b hb hm)⟩
theorem KpM.refl (D : Nat) (M : Nat → Prop) (W : World) : KpM D M W W := ⟨Nat.le_refl _, fun _ _ _ => rfl⟩
theorem KpM.put {D : Nat} {M : Nat → Prop} {W : World} {l : Nat} (o' : Obj) (hD : D ≤ l) (hM : ¬ M l) : KpM D M W (W.putObj l o') := by
  refine ⟨(grownBy_putObj' W l o').size, fun k hk hm => ?_⟩
  have hne : k ≠ l := by
    rintro rfl
    rcases hm with h | h
    · omega
    · exact hM h
  exact (grownBy_putObj' W l o').block k hk (by simpa using hne)

/-- The iterator hands over encs 0, .., encs (N - 1), one behind the other. -/
def SeqMine (F : Fence) (n : Nat) (P : Program) (g : Nat) (lb : Array Value) (encs : Nat → Array Value) (N : Nat) (w : World) : Prop :=
  ∀ (l : Nat) (J : Nat → (Nat → Prop) → World → Prop) (W : World), Below w.heap.size w W → AbM J →
    (∀ k M W1, k < N → J k M W1 → YieldAt F (n - 1) P l (encs k) W1 fun e W' => e = .returned (.bool true) ∧ J (k + 1) M W' ∧ KpM w.heap.size M W1 W') →
    J 0 (fun _ => False) W → CallsIn F n P g (#[.func (.yield l) #[] #[]] ++ lb) W fun e W' => (∃ v, e = .returned v) ∧ ∃ M, J N M W'

variable {F : Fence} {n : Nat} {P : Program}

/-- The loop's own two blocks lie as they lay. -/
def KpL (B : Nat) (W W' : World) : Prop := W'.heap[B]? = W.heap[B]? ∧ W'.heap[B + 1]? = W.heap[B + 1]?
/-- What a round's body leaves: it falls off its end. -/
def endsM (B D : Nat) (I : Nat → (Nat → Prop) → World → Prop) (k : Nat) (M : Nat → Prop) (W W2 : World) : Exit → Act → World → Prop :=
  fun e _ W' => e = .normal ∧ KpL B W2 W' ∧ KpM D M W W' ∧ I k M W'

theorem wpIn_range_mine {g : Operand} {ps : Array Tmp} {assign body : Code} {Q : Exit → Act → World → Prop} {a : Act} {w : World}
    (hro : F.round = none) (h1 : 1 ≤ n) {gf : Nat} {lb : Array Value} (hg : a.eval g = .func (.func gf) #[] lb) (hFg : F.fn gf) (eg : ∀ args w, (callFunc gf args).run P w = .ok (.enter gf args) w)
    {encs : Nat → Array Value} {N : Nat} {w0 : World} (hseq : SeqMine F (n - 1) P gf lb encs N w0) (hb0 : Below w0.heap.size w0 w) (hps : ∀ k, (encs k).size = ps.size)
    (I : Nat → (Nat → Prop) → World → Prop) (hI : AbM I) (hL : ∀ s M W W' r, I s M W → W.grownBy W' (some r) → r = w.heap.size + 1 → W'.heap.size = W.heap.size → I s M W')
    (h0 : ∀ W, w.grownBy W none → W.heap.size = w.heap.size + 2 → I 0 (fun _ => False) W)
    (hround : ∀ (l k : Nat) (M : Nat → Prop) (W : World), k < N → I k M W → assign.wpIn (F.inRound l) (n - 1 - 1) P (Exit.then (fun a₁ W₁ => KpL w.heap.size W W₁ ∧ ∀ W2, W₁.grownBy W2 (some (w.heap.size + 1)) → W2.heap.size = W₁.heap.size → ¬ M (w.heap.size + 1) →
        body.wpIn (F.inRound l) (n - 1 - 1) P (endsM w.heap.size w0.heap.size I (k + 1) M W W2) a₁ W2) (fun _ _ _ => False))
      { tmps := (ps.zip (encs k)).foldl (fun t (p, v) => t.setIfInBounds p v) a.tmps, defers := [] } W)
    (hdone : ∀ (M : Nat → Prop) (W : World), I N M W → W.heap[w.heap.size]? = some (.deferred (some [])) → Q .normal { a with defers := { target := .collected w.heap.size, args := #[] } :: a.defers } W) :
    (Code.rangeFunc g ps assign body).wpIn F n P Q a w := by
  refine wpIn_rangeFunc fun fn hfn => ?_
  rw [hro]
  generalize hrec : (fun st => ({ state := st, pending := none, fn, tmps := a.tmps, params := ps, assign, body, defers := w.heap.size } : Loop)) = rec
  have hrs : ∀ st, (rec st).state = st := fun st => by rw [← hrec]
  generalize hW1 : (w.alloc (.deferred (some []))).alloc (.loop (rec .ready)) = W1
  have z1 : W1.heap.size = w.heap.size + 2 := by rw [← hW1]; simp
  have l1 : W1.heap[w.heap.size + 1]? = some (.loop (rec .ready)) := by
    rw [← hW1]
    have := World.alloc_heap_new (w.alloc (.deferred (some []))) (.loop (rec .ready))
    rwa [World.size_alloc] at this
  have d1 : W1.heap[w.heap.size]? = some (.deferred (some [])) := by
    rw [← hW1]; exact (Below.heap_alloc _ _ _ (by simp)).trans (World.alloc_heap_new w _)
  have g1 : w.grownBy W1 none := by
    have ga := World.grownBy_alloc w (.deferred (some [])) none
    have gb := World.grownBy_alloc (w.alloc (.deferred (some []))) (.loop (rec .ready)) none
    rw [hW1] at gb
    exact ⟨gb.os.trans ga.os, gb.tape.trans ga.tape, gb.output.trans ga.output, Nat.le_trans ga.size gb.size, fun j hj hn => (gb.block j (Nat.lt_of_lt_of_le hj ga.size) hn).trans (ga.block j hj hn)⟩
  have i1 : I 0 (fun _ => False) W1 := h0 W1 g1 z1
  have b1 : Below w0.heap.size w0 W1 := by
    rw [← hW1]; exact hb0.trans ((((Below.refl _ w).alloc (Nat.le_refl _) _).alloc (by simp) _).mono hb0.size)
  have hD : w0.heap.size ≤ w.heap.size := hb0.size
  refine ⟨w.heap.size + 1, [{ target := .collected w.heap.size, args := #[] }], W1, { target := .fn (.func gf) lb, args := #[.func (.yield (w.heap.size + 1)) #[] #[]] }, W1, gf,
    #[.func (.yield (w.heap.size + 1)) #[] #[]] ++ lb, W1, ?_, ?_, ?_, ?_, fun _ => h1, ?_⟩
  · rw [← hW1, ← hrec]; exact run_enterLoop_outer _ _ _ _ _
  · simp only [resolve, hg]
    simp [go_sem]
  · intro f' hf'; simp [Target.leads] at hf'; subst hf'; exact hFg
  · simp [invoke, go_sem, eg]
  · refine (hseq (w.heap.size + 1) (fun k M W => I k M W ∧ W.heap[w.heap.size + 1]? = some (.loop (rec .ready)) ∧ W.heap[w.heap.size]? = some (.deferred (some [])) ∧ ¬ M w.heap.size ∧ ¬ M (w.heap.size + 1)) W1 b1
      (fun s M A B row hs hgr hr => ?_) ?_ ⟨i1, l1, d1, fun h => h, fun h => h⟩).mono ?_
    · obtain ⟨hi, hl, hd, m1, m2⟩ := hs
      have lt1 := (Array.getElem?_eq_some_iff.1 hl).1
      have lt2 := (Array.getElem?_eq_some_iff.1 hd).1
      refine ⟨hI s M A B row hi hgr hr, (hgr.block _ lt1 fun e => m2 (hr _ e.symm)).trans hl, (hgr.block _ lt2 fun e => m1 (hr _ e.symm)).trans hd, ?_, ?_⟩
      · rintro (h | h)
        · exact m1 h
        · omega
      · rintro (h | h)
        · exact m2 h
        · omega
    · rintro k M W hk ⟨hi, hl, hd, m1, m2⟩
      have hy := run_yield (P := P) (args := encs k) hl (by rw [← hrec]; exact hps k)
      rw [← hrec] at hy
      have busy : ∀ st st', ({ rec st with state := st' } : Loop) = rec st' := fun st st' => by rw [← hrec]
      refine ⟨fn, _, assign, body, hy, roundIn_of_wpIn hfn (wpIn_mono (hround _ k M W hk hi) ?_)⟩
      rintro e a₁ W₁ hp
      cases e with
      | normal =>
        obtain ⟨⟨kd, kl⟩, hb⟩ := hp
        have hl₁ := kl.trans hl
        have hd₁ := kd.trans hd
        have lt1 := (Array.getElem?_eq_some_iff.1 hl₁).1
        refine ⟨_, run_beginRound hl₁ (hrs _), ?_⟩
        rw [busy]
        have p1 : (W₁.putObj (w.heap.size + 1) (.loop (rec .busy))).heap[w.heap.size + 1]? = some (.loop (rec .busy)) := World.putObj_heap_same lt1
        have p2 : (W₁.putObj (w.heap.size + 1) (.loop (rec .busy))).heap[w.heap.size]? = some (.deferred (some [])) := (World.putObj_heap_other (by omega)).trans hd₁
        refine wpIn_mono (hb _ (grownBy_putObj' _ _ _) (by simp [World.putObj]) m2) ?_
        rintro e a3 W3 ⟨rfl, ⟨k3, k4⟩, c3, i3⟩
        have l3 := k4.trans p1
        have d3 := k3.trans p2
        have lt3 := (Array.getElem?_eq_some_iff.1 l3).1
        have hr := run_endRound (P := P) none l3
        refine ⟨_, _, hr, ?_⟩
        have e4 : ({ rec .busy with state := if (none : Option Code).isNone then .ready else .done, pending := none } : Loop) = rec .ready := by rw [← hrec]; rfl
        rw [e4]
        exact ⟨rfl, ⟨hL _ _ _ _ _ i3 (grownBy_putObj' _ _ _) rfl (by simp [World.putObj]), World.putObj_heap_same lt3, (World.putObj_heap_other (by omega)).trans d3, m1, m2⟩, c3.trans (KpM.put _ (by omega) m2)⟩
      | ret => exact hp.elim
      | exit id => exact hp.elim
      | goto t => exact hp.elim
      | panic c => exact hp.elim
      | outgrown => exact hp.elim
    · rintro e W2 ⟨⟨v, rfl⟩, M, hi, hl, hd, m1, m2⟩
      have hend := run_endLoop (P := P) hl (by rw [hrs]; simp)
      have e5 : (rec .ready).pending = none := by rw [← hrec]
      rw [e5] at hend
      exact ⟨none, _, hend, hdone _ _ (hL _ _ _ _ _ hi (grownBy_putObj' _ _ _) rfl (by simp [World.putObj])) ((World.putObj_heap_other (by omega)).trans hd)⟩
end Go.Proofs.Ytopfpfpefljkkaa
