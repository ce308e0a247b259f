/- Merged: RangeM, RdG, WalkTok, WalkEach, WalkCollect, WalkOf, WalkDoc, WalkSkip, WalkLaw, WalkSame. -/
import Derived.Test.YtopfpfpefljkkaaRange
import Derived.Test.YtopfpfpefljkkaaGRow
import Derived.Test.YtopfpfpefljkkaaRlpStack
import Derived.Test.YtopfpfpefljkkaaRlpPutS
import Derived.Test.YtopfpfpefljkkaaRlpNst2
import Derived.Test.YtopfpfpefljkkaaRlpReads
import Derived.Test.YtopfpfpefljkkaaTree
import Derived.Shelf.Abstract
import Derived.TacticsInMore
import Derived.LoopNIn
import Derived.LoopIn
import Derived.OwnWalkIn
import Derived.Sort.CutIn
import Derived.Laws.StructEq

/- 'for x := range seq': an iterator that keeps what it knows in blocks of its own, under a loop whose body makes blocks and writes its own. -/
namespace Go.Proofs.Ytopfpfpefljkkaa
open Go.RowKit
set_option linter.unusedVariables false

/-- J stands whatever turns in blocks of M; M takes in what is made. -/
def AbM {β : Type} (J : β → (Nat → Prop) → World → Prop) : Prop :=
  ∀ s M W W' row, J s M W → W.grownBy W' row → (∀ r, row = some r → M r) → J s (fun b => M b ∨ (W.heap.size ≤ b ∧ b < W'.heap.size)) W'
/-- The blocks below D and those of M lie as they lay. -/
def KpM (D : Nat) (M : Nat → Prop) (W W' : World) : Prop := W.heap.size ≤ W'.heap.size ∧ ∀ b, b < W.heap.size → (b < D ∨ M b) → W'.heap[b]? = W.heap[b]?
theorem KpM.trans {D : Nat} {M : Nat → Prop} {A B C : World} (h : KpM D M A B) (k : KpM D M B C) : KpM D M A C := ⟨Nat.le_trans h.1 k.1, fun b hb hm => (k.2 b (Nat.lt_of_lt_of_le hb h.1) hm).trans (h.2 b hb hm)⟩
theorem KpM.refl (D : Nat) (M : Nat → Prop) (W : World) : KpM D M W W := ⟨Nat.le_refl _, fun _ _ _ => rfl⟩
theorem KpM.put {D : Nat} {M : Nat → Prop} {W : World} {l : Nat} (o' : Obj) (hD : D ≤ l) (hM : ¬ M l) : KpM D M W (W.putObj l o') := by
  refine ⟨(grownBy_putObj' W l o').size, fun k hk hm => ?_⟩
  have hne : k ≠ l := by
    rintro rfl
    rcases hm with h | h
    · omega
    · exact hM h
  exact (grownBy_putObj' W l o').block k hk (by simpa using hne)

/-- The iterator hands over encs 0, .., encs (N - 1), one behind the other. -/
def SeqMine (F : Fence) (n : Nat) (P : Program) (g : Nat) (lb : Array Value) (encs : Nat → Array Value) (N : Nat) (w : World) : Prop :=
  ∀ (l : Nat) (J : Nat → (Nat → Prop) → World → Prop) (W : World), Below w.heap.size w W → AbM J →
    (∀ k M W1, k < N → J k M W1 → YieldAt F (n - 1) P l (encs k) W1 fun e W' => e = .returned (.bool true) ∧ J (k + 1) M W' ∧ KpM w.heap.size M W1 W') →
    J 0 (fun _ => False) W → CallsIn F n P g (#[.func (.yield l) #[] #[]] ++ lb) W fun e W' => (∃ v, e = .returned v) ∧ ∃ M, J N M W'

variable {F : Fence} {n : Nat} {P : Program}

/-- The loop's own two blocks lie as they lay. -/
def KpL (B : Nat) (W W' : World) : Prop := W'.heap[B]? = W.heap[B]? ∧ W'.heap[B + 1]? = W.heap[B + 1]?
/-- What a round's body leaves: it falls off its end. -/
def endsM (B D : Nat) (I : Nat → (Nat → Prop) → World → Prop) (k : Nat) (M : Nat → Prop) (W W2 : World) : Exit → Act → World → Prop :=
  fun e _ W' => e = .normal ∧ KpL B W2 W' ∧ KpM D M W W' ∧ I k M W'

theorem wpIn_range_mine {g : Operand} {ps : Array Tmp} {assign body : Code} {Q : Exit → Act → World → Prop} {a : Act} {w : World}
    (hro : F.round = none) (h1 : 1 ≤ n) {gf : Nat} {lb : Array Value} (hg : a.eval g = .func (.func gf) #[] lb) (hFg : F.fn gf) (eg : ∀ args w, (callFunc gf args).run P w = .ok (.enter gf args) w)
    {encs : Nat → Array Value} {N : Nat} {w0 : World} (hseq : SeqMine F (n - 1) P gf lb encs N w0) (hb0 : Below w0.heap.size w0 w) (hps : ∀ k, (encs k).size = ps.size)
    (I : Nat → (Nat → Prop) → World → Prop) (hI : AbM I) (hL : ∀ s M W W' r, I s M W → W.grownBy W' (some r) → r = w.heap.size + 1 → W'.heap.size = W.heap.size → I s M W')
    (h0 : ∀ W, w.grownBy W none → W.heap.size = w.heap.size + 2 → I 0 (fun _ => False) W)
    (hround : ∀ (l k : Nat) (M : Nat → Prop) (W : World), k < N → I k M W → assign.wpIn (F.inRound l) (n - 1 - 1) P (Exit.then (fun a₁ W₁ => KpL w.heap.size W W₁ ∧ ∀ W2, W₁.grownBy W2 (some (w.heap.size + 1)) → W2.heap.size = W₁.heap.size → ¬ M (w.heap.size + 1) →
        body.wpIn (F.inRound l) (n - 1 - 1) P (endsM w.heap.size w0.heap.size I (k + 1) M W W2) a₁ W2) (fun _ _ _ => False))
      { tmps := (ps.zip (encs k)).foldl (fun t (p, v) => t.setIfInBounds p v) a.tmps, defers := [] } W)
    (hdone : ∀ (M : Nat → Prop) (W : World), I N M W → W.heap[w.heap.size]? = some (.deferred (some [])) → Q .normal { a with defers := { target := .collected w.heap.size, args := #[] } :: a.defers } W) :
    (Code.rangeFunc g ps assign body).wpIn F n P Q a w := by
  refine wpIn_rangeFunc fun fn hfn => ?_
  rw [hro]
  generalize hrec : (fun st => ({ state := st, pending := none, fn, tmps := a.tmps, params := ps, assign, body, defers := w.heap.size } : Loop)) = rec
  have hrs : ∀ st, (rec st).state = st := fun st => by rw [← hrec]
  generalize hW1 : (w.alloc (.deferred (some []))).alloc (.loop (rec .ready)) = W1
  have z1 : W1.heap.size = w.heap.size + 2 := by rw [← hW1]; simp
  have l1 : W1.heap[w.heap.size + 1]? = some (.loop (rec .ready)) := by
    rw [← hW1]
    have := World.alloc_heap_new (w.alloc (.deferred (some []))) (.loop (rec .ready))
    rwa [World.size_alloc] at this
  have d1 : W1.heap[w.heap.size]? = some (.deferred (some [])) := by
    rw [← hW1]; exact (Below.heap_alloc _ _ _ (by simp)).trans (World.alloc_heap_new w _)
  have g1 : w.grownBy W1 none := by
    have ga := World.grownBy_alloc w (.deferred (some [])) none
    have gb := World.grownBy_alloc (w.alloc (.deferred (some []))) (.loop (rec .ready)) none
    rw [hW1] at gb
    exact ⟨gb.os.trans ga.os, gb.tape.trans ga.tape, gb.output.trans ga.output, Nat.le_trans ga.size gb.size, fun j hj hn => (gb.block j (Nat.lt_of_lt_of_le hj ga.size) hn).trans (ga.block j hj hn)⟩
  have i1 : I 0 (fun _ => False) W1 := h0 W1 g1 z1
  have b1 : Below w0.heap.size w0 W1 := by
    rw [← hW1]; exact hb0.trans ((((Below.refl _ w).alloc (Nat.le_refl _) _).alloc (by simp) _).mono hb0.size)
  have hD : w0.heap.size ≤ w.heap.size := hb0.size
  refine ⟨w.heap.size + 1, [{ target := .collected w.heap.size, args := #[] }], W1, { target := .fn (.func gf) lb, args := #[.func (.yield (w.heap.size + 1)) #[] #[]] }, W1, gf,
    #[.func (.yield (w.heap.size + 1)) #[] #[]] ++ lb, W1, ?_, ?_, ?_, ?_, fun _ => h1, ?_⟩
  · rw [← hW1, ← hrec]; exact run_enterLoop_outer _ _ _ _ _
  · simp only [resolve, hg]
    simp [go_sem]
  · intro f' hf'; simp [Target.leads] at hf'; subst hf'; exact hFg
  · simp [invoke, go_sem, eg]
  · refine (hseq (w.heap.size + 1) (fun k M W => I k M W ∧ W.heap[w.heap.size + 1]? = some (.loop (rec .ready)) ∧ W.heap[w.heap.size]? = some (.deferred (some [])) ∧ ¬ M w.heap.size ∧ ¬ M (w.heap.size + 1)) W1 b1
      (fun s M A B row hs hgr hr => ?_) ?_ ⟨i1, l1, d1, fun h => h, fun h => h⟩).mono ?_
    · obtain ⟨hi, hl, hd, m1, m2⟩ := hs
      have lt1 := (Array.getElem?_eq_some_iff.1 hl).1
      have lt2 := (Array.getElem?_eq_some_iff.1 hd).1
      refine ⟨hI s M A B row hi hgr hr, (hgr.block _ lt1 fun e => m2 (hr _ e.symm)).trans hl, (hgr.block _ lt2 fun e => m1 (hr _ e.symm)).trans hd, ?_, ?_⟩
      · rintro (h | h)
        · exact m1 h
        · omega
      · rintro (h | h)
        · exact m2 h
        · omega
    · rintro k M W hk ⟨hi, hl, hd, m1, m2⟩
      have hy := run_yield (P := P) (args := encs k) hl (by rw [← hrec]; exact hps k)
      rw [← hrec] at hy
      have busy : ∀ st st', ({ rec st with state := st' } : Loop) = rec st' := fun st st' => by rw [← hrec]
      refine ⟨fn, _, assign, body, hy, roundIn_of_wpIn hfn (wpIn_mono (hround _ k M W hk hi) ?_)⟩
      rintro e a₁ W₁ hp
      cases e with
      | normal =>
        obtain ⟨⟨kd, kl⟩, hb⟩ := hp
        have hl₁ := kl.trans hl
        have hd₁ := kd.trans hd
        have lt1 := (Array.getElem?_eq_some_iff.1 hl₁).1
        refine ⟨_, run_beginRound hl₁ (hrs _), ?_⟩
        rw [busy]
        have p1 : (W₁.putObj (w.heap.size + 1) (.loop (rec .busy))).heap[w.heap.size + 1]? = some (.loop (rec .busy)) := World.putObj_heap_same lt1
        have p2 : (W₁.putObj (w.heap.size + 1) (.loop (rec .busy))).heap[w.heap.size]? = some (.deferred (some [])) := (World.putObj_heap_other (by omega)).trans hd₁
        refine wpIn_mono (hb _ (grownBy_putObj' _ _ _) (by simp [World.putObj]) m2) ?_
        rintro e a3 W3 ⟨rfl, ⟨k3, k4⟩, c3, i3⟩
        have l3 := k4.trans p1
        have d3 := k3.trans p2
        have lt3 := (Array.getElem?_eq_some_iff.1 l3).1
        have hr := run_endRound (P := P) none l3
        refine ⟨_, _, hr, ?_⟩
        have e4 : ({ rec .busy with state := if (none : Option Code).isNone then .ready else .done, pending := none } : Loop) = rec .ready := by rw [← hrec]; rfl
        rw [e4]
        exact ⟨rfl, ⟨hL _ _ _ _ _ i3 (grownBy_putObj' _ _ _) rfl (by simp [World.putObj]), World.putObj_heap_same lt3, (World.putObj_heap_other (by omega)).trans d3, m1, m2⟩, c3.trans (KpM.put _ (by omega) m2)⟩
      | ret => exact hp.elim
      | exit id => exact hp.elim
      | goto t => exact hp.elim
      | panic c => exact hp.elim
      | outgrown => exact hp.elim
    · rintro e W2 ⟨⟨v, rfl⟩, M, hi, hl, hd, m1, m2⟩
      have hend := run_endLoop (P := P) hl (by rw [hrs]; simp)
      have e5 : (rec .ready).pending = none := by rw [← hrec]
      rw [e5] at hend
      exact ⟨none, _, hend, hdone _ _ (hL _ _ _ _ _ hi (grownBy_putObj' _ _ _) rfl (by simp [World.putObj])) ((World.putObj_heap_other (by omega)).trans hd)⟩
end Go.Proofs.Ytopfpfpefljkkaa

/- Rows of structs that can be read: elements of any kind, k cells each. -/
namespace Go.Proofs.Ytopfpfpefljkkaa
open Go.RowKit
set_option linter.unusedVariables false
set_option linter.unusedSimpArgs false

section
variable {β : Type} {f : β → List Value} {k : Nat}
/-- The slice v reads as the elements L. -/
def RdG (f : β → List Value) (k : Nat) (w : World) (v : Value) (L : List β) : Prop :=
  ∃ oa cap, v = .slice oa L.length cap ∧ L.length ≤ cap ∧ ∀ i y, L[i]? = some y → ∃ b off, oa = some ⟨b, off, none⟩ ∧ b < w.heap.size ∧ ∀ j, j < k → w.cell? ⟨b, off + i * k + j, none⟩ = (f y)[j]?
theorem RdG.below {w w' : World} {v : Value} {L : List β} (h : RdG f k w v L) (hb : Below w.heap.size w w') : RdG f k w' v L := by
  obtain ⟨oa, cap, h1, h2, h3⟩ := h
  refine ⟨oa, cap, h1, h2, fun i y hy => ?_⟩
  obtain ⟨b, off, e, hlt, hc⟩ := h3 i y hy
  exact ⟨b, off, e, Nat.lt_of_lt_of_le hlt hb.size, fun j hj => (hb.cell (p := ⟨b, off + i * k + j, none⟩) hlt).trans (hc j hj)⟩
theorem RdG.slice {w : World} {v : Value} {L : List β} (h : RdG f k w v L) : ∃ oa cap, v = .slice oa L.length cap := by
  obtain ⟨oa, cap, h1, _⟩ := h
  exact ⟨oa, cap, h1⟩
theorem RdG.at_ {w : World} {oa : Option Addr} {n cap : Nat} {L : List β} (h : RdG f k w (.slice oa n cap) L) {i : Nat} {y : β} (hy : L[i]? = some y) :
    ∃ b off, oa = some ⟨b, off, none⟩ ∧ b < w.heap.size ∧ ∀ j, j < k → w.cell? ⟨b, off + i * k + j, none⟩ = (f y)[j]? := by
  obtain ⟨oa', cap', h1, _, h3⟩ := h
  cases h1
  exact h3 i y hy
theorem OwnG.rd {w : World} {B : Nat} {t : TypeId} {v : Value} {L : List β} (h : OwnG f k w B t v L) (hk : ∀ y, (f y).length = k) : RdG f k w v L := by
  obtain ⟨oa, cap, rfl⟩ := h.slice
  refine ⟨oa, cap, rfl, ?_, fun i y hy => ?_⟩
  · rcases h.form with ⟨h1, rfl⟩ | ⟨g, cap', cur, hv, hb, hg, hcap, _⟩
    · simp
    · cases hv; exact hcap
  · obtain ⟨g, e, _, hlt, _, _, hc, _⟩ := h.at_ hk hy
    exact ⟨g, 0, e, hlt, fun j hj => by rw [Nat.zero_add]; exact hc j hj⟩
end
end Go.Proofs.Ytopfpfpefljkkaa

/- Tokens: those of an item; what a stack of rows still has; an iterator's stack of rows in memory. -/
namespace Go.Proofs.Ytopfpfpefljkkaa
open Go.RowKit
set_option linter.unusedVariables false
set_option linter.unusedSimpArgs false

structure Tk where
  kind : Int
  text : ByteArray
def tkf (t : Tk) : List Value := [.int .i64 t.kind, .string t.text]
theorem tkf_len (t : Tk) : (tkf t).length = 2 := rfl
def tOpen : Tk := ⟨1, ⟨#[]⟩⟩
def tShut : Tk := ⟨2, ⟨#[]⟩⟩
def tWord (a : IL) : Tk := ⟨3, txt a⟩
mutual
def toks : Rose IL → List Tk
  | .node a s => if a.list then tOpen :: (toksL s ++ [tShut]) else [tWord a]
def toksL : List (Rose IL) → List Tk
  | [] => []
  | x :: xs => toks x ++ toksL xs
end
theorem toksL_nil : toksL [] = [] := by simp only [toksL]
theorem toksL_cons (x : Rose IL) (xs : List (Rose IL)) : toksL (x :: xs) = toks x ++ toksL xs := by simp only [toksL]
theorem toksL_append (s t : List (Rose IL)) : toksL (s ++ t) = toksL s ++ toksL t := by
  induction s with
  | nil => simp [toksL]
  | cons x s ih => rw [List.cons_append, toksL_cons, toksL_cons, ih, List.append_assoc]
theorem toks_word {x : Rose IL} (h : x.lab.list = false) : toks x = [tWord x.lab] := by
  cases x with
  | node a s => simp only [Rose.lab] at h; simp only [toks, h]; simp
theorem toks_list {x : Rose IL} (h : x.lab.list = true) : toks x = tOpen :: (toksL x.sub ++ [tShut]) := by
  cases x with
  | node a s => simp only [Rose.lab] at h; simp only [toks, h, Rose.sub]; simp
/-- At most two tokens for each item. -/
theorem toks_le (x : Rose IL) : (toks x).length ≤ 2 * x.count ∧ 0 < (toks x).length := by
  refine Rose.ind (P := fun x => (toks x).length ≤ 2 * x.count ∧ 0 < (toks x).length) (fun a s ih => ?_) x
  have hL : ∀ (s : List (Rose IL)), (∀ x, x ∈ s → (toks x).length ≤ 2 * x.count ∧ 0 < (toks x).length) → (toksL s).length ≤ 2 * Rose.countL s := by
    intro s
    induction s with
    | nil => intro _; simp [toksL]
    | cons x s ih =>
      intro h
      rw [toksL_cons, List.length_append]
      have h1 := (h x List.mem_cons_self).1
      have h2 := ih fun y hy => h y (List.mem_cons_of_mem _ hy)
      simp only [Rose.countL]
      omega
  have := hL s ih
  simp only [toks, Rose.count]
  split
  · simp; omega
  · simp; omega

theorem toksL_le (s : List (Rose IL)) : (toksL s).length ≤ 2 * Rose.countL s := by
  induction s with
  | nil => simp [toksL]
  | cons x s ih =>
    rw [toksL_cons, List.length_append]
    have h1 := (toks_le x).1
    simp only [Rose.countL]
    omega
theorem toksL_take {s : List (Rose IL)} {i : Nat} {x : Rose IL} (h : s[i]? = some x) : toksL (s.take (i + 1)) = toksL (s.take i) ++ toks x := by
  rw [List.take_add_one, h, toksL_append]
  simp [toksL]

/-- What a stack of rows still has, the inmost row first. -/
def flatS : List (List (Rose IL)) → List Tk
  | [] => []
  | [r] => toksL r
  | r :: r2 :: rs => toksL r ++ tShut :: flatS (r2 :: rs)
theorem flatS_nil_one : flatS [[]] = [] := by simp [flatS, toksL]
theorem flatS_nil {rs : List (List (Rose IL))} (h : rs ≠ []) : flatS ([] :: rs) = tShut :: flatS rs := by
  cases rs with
  | nil => exact absurd rfl h
  | cons r rs => simp [flatS, toksL]
theorem flatS_word {x : Rose IL} {xs : List (Rose IL)} {rs : List (List (Rose IL))} (h : x.lab.list = false) : flatS ((x :: xs) :: rs) = tWord x.lab :: flatS (xs :: rs) := by
  cases rs with
  | nil => simp [flatS, toksL_cons, toks_word h]
  | cons r rs => simp [flatS, toksL_cons, toks_word h]
theorem flatS_list {x : Rose IL} {xs : List (Rose IL)} {rs : List (List (Rose IL))} (h : x.lab.list = true) : flatS ((x :: xs) :: rs) = tOpen :: flatS (x.sub :: xs :: rs) := by
  cases rs with
  | nil => simp [flatS, toksL_cons, toks_list h]
  | cons r rs => simp [flatS, toksL_cons, toks_list h]
theorem flatS_length : ∀ (st : List (List (Rose IL))), st.length ≤ (flatS st).length + 1
  | [] => by simp
  | [r] => by simp
  | r :: r2 :: rs => by
    have := flatS_length (r2 :: rs)
    simp only [flatS, List.length_append, List.length_cons] at this ⊢
    omega
/-- How much is left to do. -/
def leftS : List (List (Rose IL)) → Nat
  | [] => 0
  | r :: rs => 1 + 2 * Rose.countL r + leftS rs

theorem drop_cons {α : Type} {T : List α} {k : Nat} {x : α} {r : List α} (h : T.drop k = x :: r) : k < T.length ∧ T[k]? = some x ∧ T.drop (k + 1) = r := by
  have hk : k < T.length := by
    rcases Nat.lt_or_ge k T.length with h' | h'
    · exact h'
    · rw [List.drop_eq_nil_of_le h'] at h; cases h
  have h2 := List.drop_eq_getElem_cons hk
  rw [h2] at h
  injection h with h3 h4
  exact ⟨hk, by rw [List.getElem?_eq_getElem hk, h3], h4⟩

/-- A row: its slice, what it has. -/
structure Fv where
  v : Value
  rows : List (Rose IL)
def fvf (y : Fv) : List Value := [y.v]
theorem fvf_len (y : Fv) : (fvf y).length = 1 := rfl
abbrev ST : TypeId := 23
abbrev CT : TypeId := 85
theorem st_row : RowTypes Try.prog CT ST 1 := ⟨Try.underlying85, ⟨.slice none 0 0, 24, by
  obtain ⟨i, h1, h2, h3, h4⟩ := info_parts (show (Try.prog.info? ST).map (fun i => (i.zero, i.size, i.bytes)) = some (some (.slice none 0 0), 1, 24) by kernel_rfl)
  exact ⟨i, h1, h2, h3, h4, by decide, rfl⟩⟩, by decide⟩

/-- The first element of a row, and the rest. -/
theorem ISubsQ.pop {w : World} {Q : Nat → Prop} {v : Value} {x : Rose IL} {xs : List (Rose IL)} (h : ISubsQ w Q v (x :: xs)) :
    ∃ b off cap u, v = .slice (some ⟨b, off, none⟩) (xs.length + 1) (cap + 1) ∧ b < w.heap.size ∧ Q b ∧ (w.cell? ⟨b, off, none⟩ = some (.string (txt x.lab)) ∧ w.cell? ⟨b, off + 1, none⟩ = some (.bool x.lab.list) ∧ w.cell? ⟨b, off + 2, none⟩ = some u) ∧
      ISubsQ w Q u x.sub ∧ x.lab.text.length ≤ maxLen ∧ xs.length ≤ cap ∧ cap + 1 ≤ maxLen ∧ ISubsQ w Q (.slice (if cap = 0 then some ⟨b, off, none⟩ else some ⟨b, off + 3, none⟩) xs.length cap) xs := by
  obtain ⟨oa, cap, hv, h1, h2, h3⟩ := h
  obtain ⟨b, off, rfl, hb, hq, hr⟩ := h3 (by simp)
  simp only [List.length_cons] at h1 hv
  obtain ⟨c, rfl⟩ : ∃ c, cap = c + 1 := ⟨cap - 1, by omega⟩
  simp only [Shape.RowAt] at hr
  obtain ⟨hn, hr⟩ := hr
  cases x with
  | node a s =>
    simp only [Shape.NodeAt] at hn
    obtain ⟨ho, u, hc, hu⟩ := hn
    refine ⟨b, off, c, u, hv, hb, hq, ⟨?_, ?_, ?_⟩, hu, ho, by omega, h2, ?_⟩
    · simpa [ishape, txt] using hc 0 (by decide)
    · simpa [ishape] using hc 1 (by decide)
    · simpa [ishape] using hc 2 (by decide)
    · refine ⟨_, c, rfl, by omega, by omega, fun hp => ⟨b, off + 3, ?_, hb, hq, hr⟩⟩
      rw [if_neg (by omega)]

/-- The iterator's stack, the inmost row first: in blocks of its own. -/
structure EachM (D b1 : Nat) (st : List Fv) (M : Nat → Prop) (cv : Value) (w : World) : Prop where
  row : OwnG fvf 1 w D ST cv st.reverse
  mine : ∀ b, cv.ownBlock = some b → M b ∧ b ≠ b1
  mb : M b1
  db : D ≤ b1
  lt : b1 < w.heap.size
  sub : ∀ y, y ∈ st → ISubsQ w (fun c => c < D ∨ c = b1) y.v y.rows
theorem EachM.keep {D b1 : Nat} {st : List Fv} {M M' : Nat → Prop} {cv : Value} {w w' : World} (h : EachM D b1 st M cv w) (hk : KpM D M w w') (hM : ∀ b, M b → M' b) : EachM D b1 st M' cv w' :=
  ⟨h.row.keep fun b hb => hk.2 b (h.row.block b hb).2.1 (.inr (h.mine b hb).1), fun b hb => ⟨hM _ (h.mine b hb).1, (h.mine b hb).2⟩, hM _ h.mb, h.db, Nat.lt_of_lt_of_le h.lt hk.1,
    fun y hy => Shape.Subs.keep (h.sub y hy) hk.1 (fun _ _ h => h) fun c hc hq => hk.2 c hc (hq.elim .inl fun e => .inr (e ▸ h.mb))⟩
/-- The inmost row is over. -/
theorem EachM.cut {D b1 : Nat} {y : Fv} {ys : List Fv} {M : Nat → Prop} {g n cap : Nat} {w : World} (h : EachM D b1 (y :: ys) M (.slice (some ⟨g, 0, none⟩) n cap) w) : EachM D b1 ys M (.slice (some ⟨g, 0, none⟩) ys.length cap) w := by
  refine ⟨?_, h.mine, h.mb, h.db, h.lt, fun z hz => h.sub z (List.mem_cons_of_mem _ hz)⟩
  have := h.row.cut fvf_len (m := ys.length) (by simp)
  rwa [List.reverse_cons, List.take_left' (by simp)] at this
/-- The inmost row goes on by one. -/
theorem EachM.next {D b1 : Nat} {v v' : Value} {x : Rose IL} {xs : List (Rose IL)} {ys : List Fv} {M : Nat → Prop} {g n cap : Nat} {w w' : World} (h : EachM D b1 (⟨v, x :: xs⟩ :: ys) M (.slice (some ⟨g, 0, none⟩) n cap) w)
    (hs : ISubsQ w (fun c => c < D ∨ c = b1) v' xs) (hg : Below w.heap.size w w') :
    EachM D b1 (⟨v', xs⟩ :: ys) (fun b => M b ∨ (w.heap.size ≤ b ∧ b < w'.heap.size)) (.slice (some ⟨g, 0, none⟩) n cap) (w'.setCell ⟨g, ys.length, none⟩ v') := by
  have hrow := h.row.below hg
  have hgb : D ≤ g ∧ g ≠ b1 := ⟨(h.row.block g rfl).1, (h.mine g rfl).2⟩
  have e1 : (⟨v, x :: xs⟩ :: ys : List Fv).reverse[ys.length]? = some ⟨v, x :: xs⟩ := by simp
  have h2 := hrow.set fvf_len e1 (j := 0) (x := v') (z := ⟨v', xs⟩) (by decide) rfl
  have e2 : (⟨v, x :: xs⟩ :: ys : List Fv).reverse.set ys.length ⟨v', xs⟩ = (⟨v', xs⟩ :: ys : List Fv).reverse := by simp
  rw [e2, Nat.mul_one, Nat.add_zero] at h2
  have hsub : ∀ {s : List (Rose IL)} {u : Value}, ISubsQ w (fun c => c < D ∨ c = b1) u s → ISubsQ (w'.setCell ⟨g, ys.length, none⟩ v') (fun c => c < D ∨ c = b1) u s := fun hs =>
    Shape.Subs.keep hs (by simp [World.setCell]; exact hg.size) (fun _ _ h => h) fun c hc hq => by
      rw [Below.heap_setCell _ _ _ _ (show c ≠ g by rintro rfl; rcases hq with hq | hq <;> omega)]
      exact hg.block c hc
  refine ⟨h2, fun b hb => ⟨.inl (h.mine b hb).1, (h.mine b hb).2⟩, .inl h.mb, h.db, by simp [World.setCell]; exact Nat.lt_of_lt_of_le h.lt hg.size, fun z hz => ?_⟩
  rcases List.mem_cons.1 hz with rfl | hz
  · exact hsub hs
  · exact hsub (h.sub z (List.mem_cons_of_mem _ hz))
/-- A row is put upon the others. -/
theorem EachM.push {D b1 g cap : Nat} {y : Fv} {ys : List Fv} {M : Nat → Prop} {cv : Value} {w w' : World} (h : EachM D b1 ys M cv w) (hy : ISubsQ w (fun c => c < D ∨ c = b1) y.v y.rows)
    (hrow : OwnG fvf 1 w' D ST (.slice (some ⟨g, 0, none⟩) (ys.reverse.length + 1) cap) (ys.reverse ++ [y])) (hg : w.grownBy w' cv.ownBlock) (hat : cv.ownBlock = some g ∨ w.heap.size ≤ g) (hgl : g < w'.heap.size) :
    EachM D b1 (y :: ys) (fun b => M b ∨ (w.heap.size ≤ b ∧ b < w'.heap.size)) (.slice (some ⟨g, 0, none⟩) (ys.length + 1) cap) w' := by
  have hlt := h.lt
  have hsub : ∀ {s : List (Rose IL)} {u : Value}, ISubsQ w (fun c => c < D ∨ c = b1) u s → ISubsQ w' (fun c => c < D ∨ c = b1) u s := fun hs =>
    Shape.Subs.keep hs hg.size (fun _ _ h => h) fun c hc hq => hg.block c hc fun e => by
      have h1 := h.mine c e.symm
      have h2 := (h.row.block c e.symm).1
      rcases hq with hq | hq
      · omega
      · exact h1.2 hq
  refine ⟨?_, fun b hb => ?_, .inl h.mb, h.db, Nat.lt_of_lt_of_le hlt hg.size, fun z hz => ?_⟩
  · rw [List.reverse_cons]
    simpa using hrow
  · simp [Value.ownBlock] at hb
    subst hb
    rcases hat with hat | hat
    · exact ⟨.inl (h.mine _ hat).1, (h.mine _ hat).2⟩
    · exact ⟨.inr ⟨hat, hgl⟩, by omega⟩
  · rcases List.mem_cons.1 hz with rfl | hz
    · exact hsub hy
    · exact hsub (h.sub z hz)
end Go.Proofs.Ytopfpfpefljkkaa

/- walk.each's closure: the tokens of an item, one by one. -/
namespace Go.Proofs.Ytopfpfpefljkkaa
open Go.RowKit Go.Shelf
attribute [local go_sem] Oper.semAt_some
set_option linter.unusedVariables false
set_option linter.unusedSimpArgs false

def encT (T : List Tk) (k : Nat) : Array Value := match T[k]? with
  | some t => #[.agg #[.int .i64 t.kind, .string t.text]]
  | none => #[.agg #[.int .i64 0, .string ⟨#[]⟩]]
theorem encT_at {T : List Tk} {k : Nat} {t : Tk} (h : T[k]? = some t) : encT T k = #[.agg #[.int .i64 t.kind, .string t.text]] := by unfold encT; rw [h]
theorem encT_size (T : List Tk) (k : Nat) : (encT T k).size = 1 := by unfold encT; split <;> rfl

/-- 'append(l, x)' of one element, in a fence. -/
theorem wpListIn_append_g {β : Type} {f : β → List Value} {k : Nat} {F : Fence} {n : Nat} {P : Program} {st t : TypeId} (T : RowTypes P st t k) (hk : ∀ y, (f y).length = k) {ops : Array Oper} {rest : List Oper} {o : Oper} {a : Act} {Q : Exit → Act → World → Prop} (hgd : o.guard = none) (s x : Operand)
    (ho : o.op = .call { callee := .builtin .append, args := #[s, x], argTypes := #[st, st] }) {w : World} {B b c : Nat} {v : Value} {L : List β} {y : β} {cs : Array Value} {t' : TypeId} (hs : a.eval s = v) (hown : OwnG f k w B t v L)
    (hx : a.eval x = .slice (some ⟨b, 0, none⟩) 1 c) (hb : Blk w b cs t') (hcs : cs.toList = f y) (h1 : ∀ u ∈ f y, u.oneCell' = true) (hlen : L.length ≤ 1000000) (hB : B ≤ w.heap.size)
    (h : ∀ g cap w', OwnG f k w' B t (.slice (some ⟨g, 0, none⟩) (L.length + 1) cap) (L ++ [y]) → w.grownBy w' v.ownBlock → (v.ownBlock = some g ∨ g = w.heap.size) → g < w'.heap.size → wpListIn F n P ops Q rest (a.put o.dst (.slice (some ⟨g, 0, none⟩) (L.length + 1) cap)) w') :
    wpListIn F n P ops Q (o :: rest) a w := by
  refine wpListIn_plain hgd fun K hK => ?_
  obtain ⟨g, cap, w', hr, h2, h3, h4, h5, _⟩ := run_append_g (ty := o.type) T hk hown hb hcs h1 hlen hB
  unfold Oper.wpIn
  refine ⟨?_, ?_⟩
  · simp [Oper.about, ho, resolve, Target.leads, Sem.run_pure]
  · rw [Oper.semAt_plain F _ _ (by rw [ho]; intro c hc'; cases hc')]
    simp only [execOp, ho, resolve, invoke, builtin, Sem.run_bind, Sem.run_pure, Result.andThen_ok, List.map_toArray, List.map_cons, List.map_nil, hs, hx]
    rw [hr]
    exact hK _ _ (h g cap w' h2 h3 h4 h5)

/-- What stands at the head of the loop: so much is left. -/
def EachInv (D b1 : Nat) (T : List Tk) (J : Nat → (Nat → Prop) → World → Prop) (p : Value × World) (m : Nat) : Prop :=
  ∃ (k : Nat) (st : List Fv) (M : Nat → Prop), J k M p.2 ∧ EachM D b1 st M p.1 p.2 ∧ T.drop k = flatS (st.map Fv.rows) ∧ k ≤ T.length ∧ m = leftS (st.map Fv.rows)

theorem each_start {W : World} {D : Nat} {x : Rose IL} {v : Value} {J : Nat → (Nat → Prop) → World → Prop} (hJ : AbM J) (hD : D ≤ W.heap.size) (hv : ISubsQ W (fun c => c < D) v x.sub) (hxl : x.lab.text.length ≤ maxLen) (h0 : J 0 (fun _ => False) W) :
    EachInv D W.heap.size (toks x) J (.slice (some ⟨W.heap.size + 1, 0, none⟩) 1 1, (W.alloc (.cells #[.string (txt x.lab), .bool x.lab.list, v] IT)).alloc (.cells #[.slice (some ⟨W.heap.size, 0, none⟩) 1 1] ST)) (leftS [[x]]) := by
  have b1 := Blk.new W #[.string (txt x.lab), .bool x.lab.list, v] IT
  have g1 := World.grownBy_alloc W (.cells #[.string (txt x.lab), .bool x.lab.list, v] IT) none
  have z1 : (W.alloc (.cells #[.string (txt x.lab), .bool x.lab.list, v] IT)).heap.size = W.heap.size + 1 := by simp
  generalize W.alloc (.cells #[.string (txt x.lab), .bool x.lab.list, v] IT) = W1 at *
  have b2 := Blk.new W1 #[.slice (some ⟨W.heap.size, 0, none⟩) 1 1] ST
  have g2 := World.grownBy_alloc W1 (.cells #[.slice (some ⟨W.heap.size, 0, none⟩) 1 1] ST) none
  have z2 : (W1.alloc (.cells #[.slice (some ⟨W.heap.size, 0, none⟩) 1 1] ST)).heap.size = W.heap.size + 2 := by simp [z1]
  rw [z1] at b2
  generalize W1.alloc (.cells #[.slice (some ⟨W.heap.size, 0, none⟩) 1 1] ST) = W2 at *
  have j2 := hJ _ _ _ _ none (hJ _ _ _ _ none h0 g1 (fun _ e => by cases e)) g2 (fun _ e => by cases e)
  have b1' : Blk W2 W.heap.size #[.string (txt x.lab), .bool x.lab.list, v] IT := by
    unfold Blk
    rw [g2.block _ b1.lt (fun e => by cases e)]; exact b1
  refine ⟨0, [⟨.slice (some ⟨W.heap.size, 0, none⟩) 1 1, [x]⟩], _, j2, ⟨?_, ?_, ?_, hD, by show _ < W2.heap.size; omega, ?_⟩, ?_, by omega, rfl⟩
  · exact OwnG.of (f := fvf) (k := 1) (L := [⟨.slice (some ⟨W.heap.size, 0, none⟩) 1 1, [x]⟩]) (by omega) b2 (by simp) (by decide) (by simp) fvf_len (by simp [fvf])
  · intro b hb
    simp [Value.ownBlock] at hb
    subst hb
    exact ⟨.inr ⟨by omega, by omega⟩, by omega⟩
  · exact .inl (.inr ⟨by omega, by omega⟩)
  · intro y hy
    simp at hy
    subst hy
    refine ⟨some ⟨W.heap.size, 0, none⟩, 1, rfl, by simp, by decide, fun _ => ⟨W.heap.size, 0, rfl, by show _ < W2.heap.size; omega, .inr rfl, ?_⟩⟩
    simp only [Shape.RowAt, and_true]
    have hk : ISubsQ W2 (fun c => c < D ∨ c = W.heap.size) v x.sub := Shape.Subs.keep hv (by omega) (fun _ _ h => .inl h) fun c hc _ => (g2.block c (by omega) (fun e => by cases e)).trans (g1.block c hc (fun e => by cases e))
    cases x with
    | node a s =>
      simp only [Shape.NodeAt]
      refine ⟨hxl, v, fun j hj => ?_, hk⟩
      match j, hj with
      | 0, _ => exact b1'.cell 0
      | 1, _ => exact b1'.cell 1
      | 2, _ => exact b1'.cell 2
  · simp [flatS, toksL_cons, toksL_nil]

/-- An item is taken off the inmost row, into a block of its own. -/
theorem each_pop {D b1 k g n cap : Nat} {v v' u : Value} {x : Rose IL} {xs : List (Rose IL)} {ys : List Fv} {M : Nat → Prop} {w : World} {J : Nat → (Nat → Prop) → World → Prop} (hJ : AbM J) (hj : J k M w)
    (h : EachM D b1 (⟨v, x :: xs⟩ :: ys) M (.slice (some ⟨g, 0, none⟩) n cap) w) (hs : ISubsQ w (fun c => c < D ∨ c = b1) v' xs) (hu : ISubsQ w (fun c => c < D ∨ c = b1) u x.sub) (cs : Array Value) :
    ∃ M', J k M' ((w.setCell ⟨g, ys.length, none⟩ v').alloc (.cells cs IT)) ∧ EachM D b1 (⟨v', xs⟩ :: ys) M' (.slice (some ⟨g, 0, none⟩) n cap) ((w.setCell ⟨g, ys.length, none⟩ v').alloc (.cells cs IT)) ∧
      Blk ((w.setCell ⟨g, ys.length, none⟩ v').alloc (.cells cs IT)) w.heap.size cs IT ∧ M' w.heap.size ∧ ISubsQ ((w.setCell ⟨g, ys.length, none⟩ v').alloc (.cells cs IT)) (fun c => c < D ∨ c = b1) u x.sub := by
  have h1 := h.next hs (Below.refl _ w)
  have hgb : D ≤ g ∧ g ≠ b1 := ⟨(h.row.block g rfl).1, (h.mine g rfl).2⟩
  have hu1 : ISubsQ (w.setCell ⟨g, ys.length, none⟩ v') (fun c => c < D ∨ c = b1) u x.sub :=
    Shape.Subs.keep hu (by simp [World.setCell]) (fun _ _ h => h) fun c hc hq => Below.heap_setCell _ _ _ _ (show c ≠ g by rintro rfl; rcases hq with hq | hq <;> omega)
  have z : (w.setCell ⟨g, ys.length, none⟩ v').heap.size = w.heap.size := by simp [World.setCell]
  have gs : w.grownBy (w.setCell ⟨g, ys.length, none⟩ v') (some g) := ⟨rfl, rfl, rfl, by rw [z]; exact Nat.le_refl _, fun j hj hn => Below.heap_setCell _ _ _ _ fun e => hn (by rw [e])⟩
  have j1 := hJ _ _ _ _ _ hj gs (fun r e => by cases e; exact (h.mine g rfl).1)
  generalize w.setCell ⟨g, ys.length, none⟩ v' = w1 at *
  have g2 := World.grownBy_alloc w1 (.cells cs IT) none
  have b2 := Blk.new w1 cs IT
  rw [z] at b2
  have j2 := hJ _ _ _ _ none j1 g2 (fun _ e => by cases e)
  have hk : KpM D (fun b => M b ∨ (w.heap.size ≤ b ∧ b < w1.heap.size)) w1 (w1.alloc (.cells cs IT)) := ⟨g2.size, fun b hb _ => g2.block b hb (fun e => by cases e)⟩
  refine ⟨_, j2, (h1.keep (M' := fun b => (M b ∨ (w.heap.size ≤ b ∧ b < w1.heap.size)) ∨ (w1.heap.size ≤ b ∧ b < (w1.alloc (.cells cs IT)).heap.size)) (by simpa [z] using hk) fun b hb => ?_), b2, .inr ⟨by omega, by simp; omega⟩,
    Shape.Subs.keep hu1 g2.size (fun _ _ h => h) fun c hc _ => g2.block c hc (fun e => by cases e)⟩
  rcases hb with hb | hb
  · exact .inl (.inl hb)
  · omega

theorem wide_depthW (n : Nat) : Fence.wide.depth.isSome = true → 1 ≤ n := fun h => Bool.noConfusion h

set_option maxRecDepth 100000 in
set_option maxHeartbeats 4000000 in
theorem each1_in (n l : Nat) (x : Rose IL) (bx : Nat) (v : Value) (D : Nat) (J : Nat → (Nat → Prop) → World → Prop) (W : World) (hJ : AbM J) (hT : (toks x).length ≤ 100000)
    (hY : ∀ k M W1, k < (toks x).length → J k M W1 → YieldAt Fence.wide (n - 1) Try.prog l (encT (toks x) k) W1 fun e W' => e = .returned (.bool true) ∧ J (k + 1) M W' ∧ KpM D M W1 W')
    (hD : D ≤ W.heap.size) (hbx : Blk W bx #[.string (txt x.lab), .bool x.lab.list, v] IT) (hv : ISubsQ W (fun c => c < D) v x.sub) (hxl : x.lab.text.length ≤ maxLen) (h0 : J 0 (fun _ => False) W) :
    CallsIn Fence.wide n Try.prog 58 #[.func (.yield l) #[] #[], .pointer (some ⟨bx, 0, none⟩)] W fun e W' => (∃ v, e = .returned v) ∧ ∃ M, J (toks x).length M W' := by
  have hro : Fence.wide.round = none := rfl
  obtain ⟨T, hTT⟩ : ∃ T, toks x = T := ⟨_, rfl⟩
  have HTT := Lib.hid hTT
  rw [hTT] at hY hT ⊢
  have HY := Lib.hid hY
  obtain ⟨o, cap, rfl, _, _⟩ := hv.slice
  obtain ⟨N, hN⟩ : ∃ N, x.sub.length = N := ⟨_, rfl⟩
  have HV := Lib.hid hv
  obtain ⟨μ, hμ⟩ := least_fn (EachInv D W.heap.size T J)
  have HM := Lib.hid hμ
  have c0 := hbx.cell 0
  have c1 := hbx.cell 1
  have c2 := hbx.cell 2
  have HX := Lib.hid hxl
  have HJ := Lib.hid hJ
  have H0 := Lib.hid h0
  rw [hN] at c2
  clear hY hv hμ hxl hJ h0
  refine callsIn_of_wp Try.func58 rfl trivial ?_ hro
  simp only [Try.ntmps58, List.size_toArray, List.length_cons, List.length_nil, Nat.reduceAdd, Nat.reduceSub, Array.replicate_succ, Array.replicate_zero, List.push_toArray, List.append_toArray, List.nil_append, List.cons_append]
  gi_wp2
  gi_loopw [3] (fun cv wr => ∃ m, EachInv D W.heap.size T J (cv, wr) m) (fun cv wr => μ (cv, wr))
  case atStart =>
    have := each_start HJ.out hD HV.out HX.out H0.out
    rw [HTT.out, hN] at this
    exact ⟨_, this⟩
  case round =>
    obtain ⟨m, hinv⟩ := hrel
    obtain ⟨k, st, M, hj, hm, ht, hk, hmu⟩ := (HM.out _ _ hinv).1
    clear hinv m c0 c1 c2
    dsimp only at hj hm
    have HJ0 := Lib.hid hj
    have HE := Lib.hid hm
    have HTK := Lib.hid ht
    have HMU := Lib.hid hmu
    cases st with
    | nil =>
      obtain ⟨oa, cc, rfl⟩ := hm.row.slice
      have hkT : k = T.length := by
        have : T.drop k = [] := ht
        have := List.drop_eq_nil_iff.1 this
        omega
      clear hj hm ht hmu
      gi_wp2
      go_end0
      subst hkT
      exact ⟨⟨_, rfl⟩, _, HJ0.out⟩
    | cons y ys =>
      obtain ⟨rv, rows⟩ := y
      obtain ⟨K, hK⟩ : ∃ K, ys.length = K := ⟨_, rfl⟩
      obtain ⟨oa, cc, hcv⟩ := hm.row.slice
      have e1 : (⟨rv, rows⟩ :: ys : List Fv).reverse[ys.length]? = some ⟨rv, rows⟩ := by simp
      subst hcv
      obtain ⟨g, rfl, hDg, hglt, hlen, hcap, hce, hfr⟩ := hm.row.at_ fvf_len e1
      have hg0 := hce 0 (by decide)
      simp only [Nat.mul_one, Nat.add_zero, fvf, List.getElem?_cons_zero] at hg0
      have hf0 := hfr ys.length
      have hl1 : (⟨rv, rows⟩ :: ys : List Fv).reverse.length = K + 1 := by simp [hK]
      rw [hl1] at HE HMU hcap hlen ⊢
      rw [hK] at hg0 hf0
      have hKb : K ≤ 100001 := by
        have h1 := flatS_length ((⟨rv, rows⟩ :: ys : List Fv).map Fv.rows)
        rw [← ht, List.length_drop, List.length_map, List.length_cons, hK] at h1
        omega
      clear hlen hce hfr e1 hj hm ht hmu
      have hsub := HE.out.sub _ List.mem_cons_self
      dsimp only at hsub
      cases rows with
      | nil =>
        obtain ⟨o2, c2, rfl, _, _⟩ := hsub.slice
        rw [List.length_nil] at hg0
        clear hsub
        rcases Nat.eq_zero_or_pos K with h0K | h0K
        · subst h0K
          have hys : ys = [] := List.length_eq_zero_iff.1 hK
          have hnew : Hid (EachInv D W.heap.size T J (.slice (some ⟨g, 0, none⟩) 0 cc, wr) 0) := Lib.hid (by
            subst hys
            refine ⟨k, [], M, HJ0.out, HE.out.cut, ?_, hk, rfl⟩
            have := HTK.out
            simp only [List.map_cons, List.map_nil, flatS_nil_one] at this
            rw [this]; rfl)
          gi_wp2
          refine ⟨fun _ h => (by cases h), ?_⟩
          gi_wp2
          go_roundw
          case rel => exact ⟨_, hnew.out⟩
          case measure =>
            have h1 := (HM.out _ _ hnew.out).2
            have h2 := HMU.out
            simp only [List.map_cons, leftS] at h2
            omega
        · have hys : ys.map Fv.rows ≠ [] := by
            intro e
            rw [List.map_eq_nil_iff] at e
            subst e
            simp at hK; omega
          have ht2 := HTK.out
          simp only [List.map_cons] at ht2
          rw [flatS_nil hys] at ht2
          obtain ⟨hlt, hat, hdr⟩ := drop_cons ht2
          have HDR := Lib.hid hdr
          obtain ⟨fn, tmps, assign, body, hy, hR'⟩ := HY.out k M wr hlt HJ0.out
          rw [encT_at hat] at hy
          simp only [tShut] at hy
          clear hdr hat ht2 hys
          gi_wp2
          refine ⟨wide_depthW _, hR'.mono ?_⟩
          rintro e W3 ⟨rfl, hJ3, hK3⟩
          have hnew : Hid (EachInv D W.heap.size T J (.slice (some ⟨g, 0, none⟩) K cc, W3) (leftS (ys.map Fv.rows))) := Lib.hid (by
            rw [← hK]
            exact ⟨k + 1, ys, M, hJ3, HE.out.cut.keep hK3 (fun _ h => h), HDR.out, hlt, rfl⟩)
          clear hJ3 hK3 hR' hy
          gi_wp2
          go_roundw
          case rel => exact ⟨_, hnew.out⟩
          case measure =>
            have h1 := (HM.out _ _ hnew.out).2
            have h2 := HMU.out
            simp only [List.map_cons, leftS] at h2
            omega
      | cons x' xs =>
        obtain ⟨b, off, cp, u, rfl, hb, hq, ⟨d0, d1, d2⟩, hu, hxl', hcx, hcm, htl⟩ := ISubsQ.pop hsub
        obtain ⟨ou, cu, rfl, _, _⟩ := hu.slice
        obtain ⟨N', hN'⟩ : ∃ N', x'.sub.length = N' := ⟨_, rfl⟩
        rw [hN'] at d2 hu
        obtain ⟨L', hL'⟩ : ∃ L', xs.length = L' := ⟨_, rfl⟩
        obtain ⟨ad, had⟩ : ∃ ad, (if cp = 0 then some (⟨b, off, none⟩ : Addr) else some ⟨b, off + 3, none⟩) = ad := ⟨_, rfl⟩
        rw [had] at htl
        have HAD := Lib.hid had
        clear had
        have HU := Lib.hid hu
        have HT := Lib.hid htl
        rw [hL'] at HE hg0 hcx
        clear hsub hu htl hq
        have HP := Lib.hid (fun cs => each_pop HJ.out HJ0.out HE.out HT.out HU.out cs)
        rw [hK, hL'] at HP
        have HTK2 := HTK.out
        have HMU2 := HMU.out
        simp only [List.map_cons, leftS, Rose.countL] at HTK2 HMU2
        have hxc := Rose.count_pos x'
        cases hli : x'.lab.list with
        | false =>
          rw [hli] at d1
          rw [flatS_word hli] at HTK2
          obtain ⟨hlt, hat, hdr⟩ := drop_cons HTK2
          have HDR := Lib.hid hdr
          have HAT := Lib.hid (encT_at hat)
          clear hdr hat HTK2
          gi_upto_region 8 with (fail)
          rw [HAD.out]
          have HP2 := Lib.hid (HP.out #[.string (txt x'.lab), .bool false, .slice ou N' cu])
          generalize World.alloc _ _ = W1 at HP2 ⊢
          obtain ⟨M', hJ1, hE1, hB1, hM1, hu1⟩ := HP2.out
          have HE1 := Lib.hid hE1
          have a0 := hB1.cell 0
          have a1 := hB1.cell 1
          obtain ⟨fn, tmps, assign, body, hy, hR'⟩ := HY.out k M' W1 hlt hJ1
          rw [HAT.out] at hy
          simp only [tWord] at hy
          clear HP2 hE1 hB1 hM1 hu1 hJ1 d0 d1 d2 hg0 hf0
          gi_wp2
          refine ⟨wide_depthW _, hR'.mono ?_⟩
          rintro e W3 ⟨rfl, hJ3, hK3⟩
          have hnew : Hid (EachInv D W.heap.size T J (.slice (some ⟨g, 0, none⟩) (K + 1) cc, W3) (leftS (xs :: ys.map Fv.rows))) := Lib.hid
            ⟨k + 1, _, M', hJ3, HE1.out.keep hK3 (fun _ h => h), HDR.out, hlt, rfl⟩
          clear hJ3 hK3 hR' hy
          gi_wp2
          go_roundw
          case rel => exact ⟨_, hnew.out⟩
          case measure =>
            have h1 := (HM.out _ _ hnew.out).2
            simp only [leftS] at h1
            omega
        | true =>
          rw [hli] at d1
          rw [flatS_list hli] at HTK2
          obtain ⟨hlt, hat, hdr⟩ := drop_cons HTK2
          have HDR := Lib.hid hdr
          have HAT := Lib.hid (encT_at hat)
          clear hdr hat HTK2
          gi_upto_region 8 with (fail)
          rw [HAD.out]
          have HP2 := Lib.hid (HP.out #[.string (txt x'.lab), .bool true, .slice ou N' cu])
          generalize World.alloc _ _ = W1 at HP2 ⊢
          obtain ⟨M', hJ1, hE1, hB1, hM1, hu1⟩ := HP2.out
          have HE1 := Lib.hid hE1
          have HU1 := Lib.hid hu1
          have HB1 := Lib.hid hB1
          have a1 := hB1.cell 1
          obtain ⟨fn, tmps, assign, body, hy, hR'⟩ := HY.out k M' W1 hlt hJ1
          rw [HAT.out] at hy
          simp only [tOpen] at hy
          clear HP2 hE1 hB1 hu1 hJ1 d0 d1 d2 hg0 hf0
          gi_wp2
          refine ⟨wide_depthW _, hR'.mono ?_⟩
          rintro e W3 ⟨rfl, hJ3, hK3⟩
          have HJ3 := Lib.hid hJ3
          have hB3 : Blk W3 wr.heap.size #[.string (txt x'.lab), .bool true, .slice ou N' cu] IT := by
            unfold Blk
            rw [hK3.2 wr.heap.size HB1.out.lt (.inr hM1)]; exact HB1.out
          have a2 := hB3.cell 2
          have HE3 := Lib.hid (HE1.out.keep hK3 (fun _ h => h))
          have HU3 : Hid (ISubsQ W3 (fun c => c < D ∨ c = W.heap.size) (.slice ou N' cu) x'.sub) := Lib.hid (Shape.Subs.keep HU1.out hK3.1 (fun _ _ h => h) fun c hc hq => hK3.2 c hc (hq.elim (fun h => .inl h) fun e => .inr (by rw [e]; exact HE1.out.mb)))
          clear hJ3 hK3 hR' hy hB3
          have hxc2 : x'.count = 1 + Rose.countL x'.sub := by cases x'; simp only [Rose.count, Rose.sub] <;> omega
          have ga := Lib.hid (World.grownBy_alloc W3 (.cells #[.slice ou N' cu] ST) none)
          have za : (W3.alloc (.cells #[.slice ou N' cu] ST)).heap.size = W3.heap.size + 1 := by simp
          have hnb := Lib.hid (Blk.new W3 #[.slice ou N' cu] ST)
          have HJ4 := Lib.hid (HJ.out _ _ _ _ none HJ3.out ga.out (fun _ e => by cases e))
          have HE4 := Lib.hid (HE3.out.keep (M' := fun b => M' b ∨ (W3.heap.size ≤ b ∧ b < (W3.alloc (.cells #[.slice ou N' cu] ST)).heap.size)) ⟨ga.out.size, fun b hb _ => ga.out.block b hb (fun e => by cases e)⟩ fun b hb => .inl hb)
          have HU4 : Hid (ISubsQ (W3.alloc (.cells #[.slice ou N' cu] ST)) (fun c => c < D ∨ c = W.heap.size) (.slice ou N' cu) x'.sub) := Lib.hid (Shape.Subs.keep HU3.out ga.out.size (fun _ _ h => h) fun c hc _ => ga.out.block c hc (fun e => by cases e))
          have hDs : D ≤ (W3.alloc (.cells #[.slice ou N' cu] ST)).heap.size := by have := HE4.out.lt; have := HE4.out.db; omega
          have hrl : (⟨.slice ad L' cp, xs⟩ :: ys : List Fv).reverse.length = K + 1 := by simp [hK]
          have hrl2 : (⟨.slice ad L' cp, xs⟩ :: ys : List Fv).length = K + 1 := by simp [hK]
          have hfin : Hid (∀ g2 cap2 w4, OwnG fvf 1 w4 D ST (.slice (some ⟨g2, 0, none⟩) ((⟨.slice ad L' cp, xs⟩ :: ys : List Fv).reverse.length + 1) cap2) ((⟨.slice ad L' cp, xs⟩ :: ys : List Fv).reverse ++ [⟨.slice ou N' cu, x'.sub⟩]) →
              (W3.alloc (.cells #[.slice ou N' cu] ST)).grownBy w4 (some g) → (some g = some g2 ∨ g2 = (W3.alloc (.cells #[.slice ou N' cu] ST)).heap.size) → g2 < w4.heap.size →
              EachInv D W.heap.size T J (.slice (some ⟨g2, 0, none⟩) (K + 1 + 1) cap2, w4) (leftS (x'.sub :: xs :: ys.map Fv.rows))) := Lib.hid fun g2 cap2 w4 h1 h2 h3 h4 => by
            have hj := HJ.out _ _ _ _ _ HJ4.out h2 (fun r e => by cases e; exact (HE4.out.mine g rfl).1)
            have hp := HE4.out.push HU4.out h1 h2 (h3.imp id fun e => by omega) h4
            rw [hrl2] at hp
            exact ⟨k + 1, _, _, hj, hp, HDR.out, hlt, rfl⟩
          gi_wp2_with (gi_at_builtin; refine wpListIn_append_g (y := (⟨.slice ou N' cu, x'.sub⟩ : Fv)) st_row fvf_len rfl _ _ rfl rfl HE4.out.row rfl hnb.out rfl (by simp [fvf, Value.oneCell']) (by rw [hrl]; omega) hDs ?_; intro g2 cap2 w4 hr4 hg4 hat4 hlt4)
          have hnew := hfin.out _ _ _ hr4 hg4 hat4 hlt4
          refine ⟨⟨_, hnew⟩, ?_⟩
          have h1 := (HM.out _ _ hnew).2
          simp only [leftS] at h1
          omega

/-- The closure, as an iterator. -/
theorem each_seq (n : Nat) (x : Rose IL) (bx : Nat) (v : Value) (w : World) (hT : (toks x).length ≤ 100000) (hbx : Blk w bx #[.string (txt x.lab), .bool x.lab.list, v] IT) (hv : ISubs w v x.sub) (hxl : x.lab.text.length ≤ maxLen) :
    SeqMine Fence.wide n Try.prog 58 #[.pointer (some ⟨bx, 0, none⟩)] (encT (toks x)) (toks x).length w := by
  intro l J W hW hJ hY h0
  refine each1_in n l x bx v w.heap.size J W hJ hT hY hW.size (Below.blk hW hbx hbx.lt) (Shape.Subs.keep (Shape.Subs.keep hv (Nat.le_refl _) (Q' := fun c => c < w.heap.size) (fun _ h _ => h) fun _ _ _ => rfl) hW.size (fun _ _ h => h) fun c hc _ => hW.block c hc) hxl h0
end Go.Proofs.Ytopfpfpefljkkaa

/- slices.Collect of an item's tokens. -/
namespace Go.Proofs.Ytopfpfpefljkkaa
open Go.RowKit Go.Shelf
attribute [local go_sem] Oper.semAt_some
set_option linter.unusedVariables false
set_option linter.unusedSimpArgs false

abbrev TT : TypeId := 79
abbrev TS : TypeId := 44
theorem tk_row : RowTypes Try.prog TS TT 2 := ⟨Try.underlying44, ⟨.agg #[.int .i64 0, .string ⟨#[]⟩], 24, by
  obtain ⟨i, h1, h2, h3, h4⟩ := info_parts (show (Try.prog.info? TT).map (fun i => (i.zero, i.size, i.bytes)) = some (some (.agg #[.int .i64 0, .string ⟨#[]⟩]), 2, 24) by kernel_rfl)
  exact ⟨i, h1, h2, h3, h4, by decide, rfl⟩⟩, by decide⟩

/-- What stands in a round's beginning: so many have come. -/
structure ApI (D : Nat) (w : World) (T : List Tk) (k : Nat) (M : Nat → Prop) (W : World) (v : Value) : Prop where
  below : Below D w W
  size : D + 3 ≤ W.heap.size
  box : Blk W D #[v] TS
  row : OwnG tkf 2 W (D + 3) TT v (T.take k)
  md : ∀ b, M b → D < b ∧ b < W.heap.size
  mo : ∀ b, v.ownBlock = some b → ¬ M b
theorem ApI.grown {D k : Nat} {w W W' : World} {T : List Tk} {M M' : Nat → Prop} {v : Value} {row : Option Nat} (h : ApI D w T k M W v) (hg : W.grownBy W' row) (hr : ∀ r, row = some r → D < r ∧ v.ownBlock ≠ some r) (hM : ∀ b, M' b → D < b ∧ b < W'.heap.size) (hM2 : ∀ b, v.ownBlock = some b → ¬ M' b) : ApI D w T k M' W' v :=
  ⟨h.below.grown hg (by have := h.size; omega) (fun r e => by have := (hr r e).1; omega), Nat.le_trans h.size hg.size, by
    unfold Blk
    rw [hg.block D h.box.lt fun e => by have := (hr _ e.symm).1; omega]; exact h.box,
   h.row.keep fun b hb => hg.block b (h.row.block b hb).2.1 fun e => (hr b e.symm).2 hb, hM, hM2⟩

theorem ap_round {D k : Nat} {w W : World} {T : List Tk} {M : Nat → Prop} {v : Value} {t : Tk} (h : ApI D w T k M W v) (ht : T[k]? = some t) (hM : ¬ M (D + 2)) (cs1 : Array Value) (cs2 : Array Value) :
    ∀ W2, (W.alloc (.cells cs1 TT)).grownBy W2 (some (D + 2)) → W2.heap.size = (W.alloc (.cells cs1 TT)).heap.size → Blk W2 D #[v] TS ∧ (cs1.size = 2 → W2.heap[W.heap.size]? = (W.alloc (.cells cs1 TT)).heap[W.heap.size]?) ∧ OwnG tkf 2 (W2.alloc (.cells cs2 TT)) (D + 3) TT v (T.take k) ∧
      ∀ g cap W4, OwnG tkf 2 W4 (D + 3) TT (.slice (some ⟨g, 0, none⟩) ((T.take k).length + 1) cap) (T.take k ++ [t]) → (W2.alloc (.cells cs2 TT)).grownBy W4 v.ownBlock → (v.ownBlock = some g ∨ g = (W2.alloc (.cells cs2 TT)).heap.size) →
        (Blk W4 D #[v] TS) ∧ KpL (D + 1) W2 (W4.setCell ⟨D, 0, none⟩ (.slice (some ⟨g, 0, none⟩) ((T.take k).length + 1) cap)) ∧ KpM D M W (W4.setCell ⟨D, 0, none⟩ (.slice (some ⟨g, 0, none⟩) ((T.take k).length + 1) cap)) ∧
        ApI D w T (k + 1) M (W4.setCell ⟨D, 0, none⟩ (.slice (some ⟨g, 0, none⟩) ((T.take k).length + 1) cap)) (.slice (some ⟨g, 0, none⟩) ((T.take k).length + 1) cap) := by
  intro W2 hg2 hz2
  have g1 := World.grownBy_alloc W (.cells cs1 TT) none
  have z1 : (W.alloc (.cells cs1 TT)).heap.size = W.heap.size + 1 := by simp
  generalize W.alloc (.cells cs1 TT) = W1 at *
  have g3 := World.grownBy_alloc W2 (.cells cs2 TT) none
  have z3 : (W2.alloc (.cells cs2 TT)).heap.size = W2.heap.size + 1 := by simp
  generalize W2.alloc (.cells cs2 TT) = W3 at *
  have hs := h.size
  have hvb : ∀ b, v.ownBlock = some b → D + 3 ≤ b ∧ b < W.heap.size := fun b hb => ⟨(h.row.block b hb).1, (h.row.block b hb).2.1⟩
  have k12 : ∀ b, b < W.heap.size → b ≠ D + 2 → W2.heap[b]? = W.heap[b]? := fun b hb hn => (hg2.block b (by omega) (fun e => by cases e; exact hn rfl)).trans (g1.block b hb (fun e => by cases e))
  have k13 : ∀ b, b < W.heap.size → b ≠ D + 2 → W3.heap[b]? = W.heap[b]? := fun b hb hn => (g3.block b (by omega) (fun e => by cases e)).trans (k12 b hb hn)
  have hbox2 : Blk W2 D #[v] TS := by unfold Blk; rw [k12 D (by omega) (by omega)]; exact h.box
  refine ⟨hbox2, fun _ => hg2.block _ (by omega) (fun e => by injection e with e; omega), h.row.keep fun b hb => k13 b (hvb b hb).2 (by have := (hvb b hb).1; omega), fun g cap W4 hr4 hg4 hat => ?_⟩
  have hbox4 : Blk W4 D #[v] TS := by
    unfold Blk
    rw [hg4.block D (by omega) (fun e => by have := (hvb D e.symm).1; omega), k13 D (by omega) (by omega)]; exact h.box
  have hgD : D + 3 ≤ g := (hr4.block g rfl).1
  have hz4 := hg4.size
  have far : ∀ b, b < W2.heap.size → b ≠ D → v.ownBlock ≠ some b → (W4.setCell ⟨D, 0, none⟩ (.slice (some ⟨g, 0, none⟩) ((T.take k).length + 1) cap)).heap[b]? = W2.heap[b]? := fun b hb hn hv => by
    rw [Below.heap_setCell _ _ _ _ hn, hg4.block b (by omega) (fun e => hv e.symm), g3.block b hb (fun e => by cases e)]
  have zs : (W4.setCell ⟨D, 0, none⟩ (.slice (some ⟨g, 0, none⟩) ((T.take k).length + 1) cap)).heap.size = W4.heap.size := by simp [World.setCell]
  have hbel : Below D w W4 := ((h.below.grown g1 (by omega) (fun _ e => by cases e)).grown hg2 (by omega) (fun r e => by injection e with e; omega)).grown g3 (by omega) (fun _ e => by cases e) |>.grown hg4 (by omega) (fun r e => by have := (hvb r e).1; omega)
  refine ⟨hbox4, ⟨far _ (by omega) (by omega) (fun e => by have := (hvb _ e).1; omega), far _ (by omega) (by omega) (fun e => by have := (hvb _ e).1; omega)⟩, ⟨by rw [zs]; omega, fun b hb hm => ?_⟩, ?_⟩
  · have hbD : b ≠ D := by
      rintro rfl
      rcases hm with hm | hm
      · omega
      · have := (h.md _ hm).1; omega
    have hb2 : b ≠ D + 2 := by
      rintro rfl
      rcases hm with hm | hm
      · omega
      · exact hM hm
    rw [far b (by omega) hbD (fun e => by
      rcases hm with hm | hm
      · have := (hvb _ e).1; omega
      · exact h.mo _ e hm), k12 b hb hb2]
  · refine ⟨hbel.setCell (Nat.le_refl _) _, by rw [zs]; omega, ?_, ?_, fun b hb => ⟨(h.md b hb).1, by rw [zs]; have := (h.md b hb).2; omega⟩, fun b hb => ?_⟩
    · have := hbox4.set 0 (.slice (some ⟨g, 0, none⟩) ((T.take k).length + 1) cap)
      simpa using this
    · have e : T.take (k + 1) = T.take k ++ [t] := by rw [List.take_add_one, ht]; rfl
      rw [e]
      exact hr4.keep fun b hb => Below.heap_setCell _ _ _ _ (show b ≠ D by simp [Value.ownBlock] at hb; omega)
    · simp [Value.ownBlock] at hb
      subst hb
      rcases hat with hat | hat
      · exact h.mo _ hat
      · intro hm
        have := (h.md _ hm).2
        omega

set_option maxRecDepth 100000 in
set_option maxHeartbeats 4000000 in
theorem append_seq (n gf : Nat) (lb : Array Value) (T : List Tk) (w : World) (hn : 3 ≤ n) (hT : T.length ≤ 100000) (hseq : SeqMine Fence.wide (n - 1) Try.prog gf lb (encT T) T.length w)
    (eg : ∀ args w, (callFunc gf args).run Try.prog w = .ok (.enter gf args) w) :
    CallsIn Fence.wide n Try.prog 57 #[.slice none 0 0, .func (.func gf) #[] lb] w
      fun e w' => ∃ v, e = .returned v ∧ OwnG tkf 2 w' w.heap.size TT v T ∧ Below w.heap.size w w' := by
  have hro : Fence.wide.round = none := rfl
  have h1 : 1 ≤ n := by omega
  obtain ⟨D, hD⟩ : ∃ D, w.heap.size = D := ⟨_, rfl⟩
  rw [hD]
  refine callsIn_of_wp_marks Try.func57 rfl trivial ?_ hro
  simp only [Try.ntmps57, List.size_toArray, List.length_cons, List.length_nil, Nat.reduceAdd, Nat.reduceSub, Array.replicate_succ, Array.replicate_zero, List.push_toArray, List.append_toArray, List.nil_append, List.cons_append]
  gi_wp2
  have hI : AbM (fun k M W => ∃ v, ApI D w T k M W v) := fun k M W W' row ⟨v, h⟩ hg hr => by
    refine ⟨v, h.grown hg (fun r e => ⟨(h.md _ (hr r e)).1, fun e2 => h.mo _ e2 (hr r e)⟩) (fun b hb => ?_) fun b hb hm => ?_⟩
    · rcases hb with hb | hb
      · exact ⟨(h.md b hb).1, Nat.lt_of_lt_of_le (h.md b hb).2 hg.size⟩
      · exact ⟨by have := h.size; omega, hb.2⟩
    · rcases hm with hm | hm
      · exact h.mo b hb hm
      · have := (h.row.block b hb).2.1; omega
  have z0 : (w.alloc (.cells #[.slice none 0 0] TS)).heap.size = D + 1 := by simp [hD]
  have hb0 := Blk.new w #[.slice none 0 0] TS
  have hw0 := (Below.refl D w).alloc (Nat.le_of_eq hD.symm) (.cells #[.slice none 0 0] TS)
  rw [hD] at hb0
  generalize w.alloc (.cells #[.slice none 0 0] TS) = w1 at *
  refine wpIn_range_mine (n := n) (encs := encT T) (N := T.length) (w0 := w) hro h1 (gf := gf) (lb := lb) rfl trivial eg hseq (hD.symm ▸ hw0) (fun k => encT_size T k) (fun k M W => ∃ v, ApI D w T k M W v) hI ?hL ?h0 ?hround ?hdone
  case hL =>
    rintro k M W W' r ⟨v, h⟩ hg rfl hz
    refine ⟨v, h.grown hg (fun r e => ?_) (fun b hb => ⟨(h.md b hb).1, Nat.lt_of_lt_of_le (h.md b hb).2 hg.size⟩) h.mo⟩
    injection e with e
    exact ⟨by omega, fun e2 => by have := (h.row.block _ e2).1; omega⟩
  case h0 =>
    intro W hg hz
    refine ⟨.slice none 0 0, hw0.grown hg (by omega) (fun _ e => by cases e), by omega, ?_, OwnG.nil _ _ _, fun _ h => h.elim, fun b hb => by simp [Value.ownBlock] at hb⟩
    unfold Blk
    rw [hg.block D (by omega) (fun e => by cases e)]; exact hb0
  case hround =>
    rintro l k M W hk ⟨v, h⟩
    obtain ⟨t, ht⟩ : ∃ t, T[k]? = some t := ⟨_, List.getElem?_eq_getElem hk⟩
    have HR := Lib.hid (ap_round h ht)
    have hlt0 := h.size
    obtain ⟨oa, cp, rfl⟩ := h.row.slice
    rw [encT_at ht, z0]
    have hkl : (T.take k).length ≤ 1000000 := by rw [List.length_take]; omega
    clear hseq hI h ht
    simp only [List.zip_toArray, List.zip_cons_cons, List.zip_nil_right, List.foldl_toArray, List.foldl_cons, List.foldl_nil, List.setIfInBounds_toArray, List.set_cons_zero, List.set_cons_succ]
    gi_wp2
    refine ⟨⟨Below.heap_alloc _ _ _ (by omega), Below.heap_alloc _ _ _ (by omega)⟩, fun W2 hg2 hz2 hm => ?_⟩
    obtain ⟨hb2, hc2, hr2, hfin⟩ := HR.out hm #[.int .i64 t.kind, .string t.text] #[.int .i64 t.kind, .string t.text] W2 hg2 hz2
    have hc2 := hc2 rfl
    have hbk : Blk W2 W.heap.size #[.int .i64 t.kind, .string t.text] TT := by unfold Blk; rw [hc2]; exact Blk.new _ _ _
    have c0 := hb2.cell 0
    have d0 := hbk.cell 0
    have d1 := hbk.cell 1
    have HF := Lib.hid hfin
    have hnb := Lib.hid (Blk.new W2 #[.int .i64 t.kind, .string t.text] TT)
    have hDs : D + 3 ≤ (W2.alloc (.cells #[.int .i64 t.kind, .string t.text] TT)).heap.size := by simp at hz2 ⊢; omega
    have HR2 := Lib.hid hr2
    clear hb2 hc2 hbk hfin hr2 hg2 hz2 hm HR
    obtain ⟨K, hK⟩ : ∃ K, (T.take k).length = K := ⟨_, rfl⟩
    have HK := Lib.hid hK
    rw [hK] at c0 HR2 HF
    clear hK
    gi_wp2_with (gi_at_builtin; refine wpListIn_append_g (y := t) tk_row tkf_len rfl _ _ rfl rfl HR2.out rfl hnb.out rfl (by simp [tkf, Value.oneCell']) hkl hDs ?_; intro g2 cap2 w4 hr4 hg4 hat4 hlt4; rw [HK.out] at hr4 ⊢; obtain ⟨f0, f1, f2, f3⟩ := HF.out _ _ _ hr4 hg4 hat4; have HF1 := Lib.hid f1; have HF2 := Lib.hid f2; have HF3 := Lib.hid f3; have c4 := f0.cell 0; have y4 := f0.free 0; clear f0 f1 f2 f3 hr4 hg4 hat4)
    exact ⟨rfl, HF1.out, by rw [hD]; exact HF2.out, _, HF3.out⟩
  case hdone =>
    rintro M W ⟨v, h⟩ hd
    have c0 := h.box.cell 0
    have H := Lib.hid h
    obtain ⟨oa, cp, rfl⟩ := h.row.slice
    clear h hseq hI
    gi_wp2
    refine ⟨by simp, .inl ⟨_, _, rfl, run_takeDeferred hd, ?_⟩⟩
    have hg := grownBy_putObj' W w1.heap.size (Obj.deferred none)
    have H2 := H.out.grown hg (M' := M) (fun r e => by
      injection e with e
      exact ⟨by omega, fun e2 => by have := (H.out.row.block _ e2).1; omega⟩) (fun b hb => ⟨(H.out.md b hb).1, Nat.lt_of_lt_of_le (H.out.md b hb).2 hg.size⟩) H.out.mo
    refine ⟨_, results_tmp rfl _ _ _, _, rfl, ?_, H2.below⟩
    have := H2.row
    rw [List.take_length] at this
    exact ⟨this.1, by rcases this.2 with h | ⟨g, cap, cur, h1, h2, h3⟩; exact .inl h; exact .inr ⟨g, cap, cur, h1, by omega, h3⟩⟩

/-- The tokens of an item, collected. -/
theorem collect_each (x : Rose IL) (bx : Nat) (v : Value) (w : World) (hT : (toks x).length ≤ 100000) (hbx : Blk w bx #[.string (txt x.lab), .bool x.lab.list, v] IT) (hv : ISubs w v x.sub) (hxl : x.lab.text.length ≤ maxLen) :
    Calls Try.prog 45 #[.func (.func 58) #[] #[.pointer (some ⟨bx, 0, none⟩)]] w
      fun e w' => ∃ v, e = .returned v ∧ OwnG tkf 2 w' w.heap.size TT v (toks x) ∧ Below w.heap.size w w' := by
  have HA := Lib.hid (callsIn_wide.1 (append_seq 8 58 #[.pointer (some ⟨bx, 0, none⟩)] (toks x) w (by decide) hT (each_seq 7 x bx v w hT hbx hv hxl) (fun args w' => rfl)))
  clear hbx hv
  go_enter Try.func45, Try.ntmps45
  go_wp2_with fail
  refine HA.out.mono ?_
  rintro e w2 ⟨u, rfl, h1, h2⟩
  obtain ⟨oa, cp, rfl⟩ := h1.slice
  have H1 := Lib.hid h1
  have H2 := Lib.hid h2
  clear h1 h2
  go_wp2_with fail
  go_returns
  exact ⟨_, rfl, H1.out, H2.out⟩
end Go.Proofs.Ytopfpfpefljkkaa

/- walk.Of, walk.Tokens. -/
namespace Go.Proofs.Ytopfpfpefljkkaa
open Go.RowKit
set_option linter.unusedVariables false
set_option linter.unusedSimpArgs false

set_option maxRecDepth 100000 in
theorem walk_each (x : Rose IL) (w : World) (v : Value) (hv : ISubs w v x.sub) :
    Calls Try.prog 46 #[.agg #[.string (txt x.lab), .bool x.lab.list, v]] w
      fun e w' => ∃ b, e = .returned (.func (.func 58) #[] #[.pointer (some ⟨b, 0, none⟩)]) ∧ Blk w' b #[.string (txt x.lab), .bool x.lab.list, v] IT ∧ ISubs w' v x.sub ∧ Below w.heap.size w w' := by
  have HW := Lib.hid (box_item (T := txt x.lab) (l := x.lab.list) (t := IT) hv)
  obtain ⟨oa, cap, rfl, hcap, hml⟩ := ISubsQ.slice hv
  obtain ⟨g, hg⟩ : ∃ g, w.heap.size = g := ⟨_, rfl⟩
  rw [hg] at HW ⊢
  clear hv
  go_enter Try.func46, Try.ntmps46
  go_wp2_with fail
  go_returns
  obtain ⟨h1, h2, h3, _, _, _, h4⟩ := HW.out _ rfl
  exact ⟨_, rfl, h4, h2, h1⟩

/-- What Of tells. -/
def OfPost (x : Rose IL) (w : World) (e : Ending) (w' : World) : Prop :=
  if mayI x then ∃ o c, e = .returned (.tuple #[.slice o (toks x).length c, .int .i64 0]) ∧ OwnG tkf 2 w' w.heap.size TT (.slice o (toks x).length c) (toks x) ∧ Below w.heap.size w w'
  else e = .returned (.tuple #[.slice none 0 0, .int .i64 1]) ∧ Below w.heap.size w w'

theorem OwnG.lower {β : Type} {f : β → List Value} {k : Nat} {w : World} {B B' : Nat} {t : TypeId} {v : Value} {L : List β} (h : OwnG f k w B t v L) (hB : B' ≤ B) : OwnG f k w B' t v L :=
  ⟨h.1, by rcases h.2 with h | ⟨g, cap, cur, h1, h2, h3⟩; exact .inl h; exact .inr ⟨g, cap, cur, h1, Nat.le_trans hB h2, h3⟩⟩

set_option maxRecDepth 100000 in
theorem walk_of (x : Rose IL) (w : World) (v : Value) (hv : ISubs w v x.sub) (hxl : x.lab.text.length ≤ maxLen) :
    Calls Try.prog 23 #[.agg #[.string (txt x.lab), .bool x.lab.list, v]] w (OfPost x w) := by
  have HW := Lib.hid (box_item (T := txt x.lab) (l := x.lab.list) (t := IT) hv)
  obtain ⟨oa, cap, rfl, hcap, hml⟩ := ISubsQ.slice hv
  obtain ⟨g, hg⟩ : ∃ g, w.heap.size = g := ⟨_, rfl⟩
  have HXL := Lib.hid hxl
  obtain ⟨POST, hP⟩ : ∃ P0, OfPost x w = P0 := ⟨_, rfl⟩
  have HP := Lib.hid hP
  rw [hP]
  rw [hg] at HW
  clear hv hxl hP
  go_enter Try.func23, Try.ntmps23
  go_upto_region 1 with fail
  generalize w.alloc _ = w1 at *
  obtain ⟨hb1, ht1, hsz, c0, c1, c2, hB1⟩ := HW.out _ rfl
  have HB1 := Lib.hid hb1
  have HT1 := Lib.hid ht1
  have HK1 := Lib.hid hB1
  have hsz1 := Lib.hid hsz
  have CM := Lib.hid (item_may x w1 _ ht1)
  clear HW hb1 ht1 hsz hB1
  obtain ⟨my, hmy⟩ : ∃ my, mayI x = my := ⟨_, rfl⟩
  rw [hmy] at CM
  go_wp2_with fail
  refine CM.out.mono ?_
  rintro e w2 ⟨rfl, hb2⟩
  have hm := hmy
  clear hmy
  have H2 := Lib.hid (HB1.out.trans (hb2.mono (by rw [hsz1.out]; omega)))
  have HT2 := Lib.hid (Shape.Subs.below HT1.out hb2)
  have hk2 := Below.blk hb2 HK1.out HK1.out.lt
  have d0 := hk2.cell 0
  have d1 := hk2.cell 1
  have d2 := hk2.cell 2
  clear hb2 hk2 CM c0 c1 c2
  cases my with
  | false =>
    have HMY := Lib.hid hm
    clear hm
    go_wp2_with fail
    rw [← HP.out]
    unfold OfPost
    rw [if_neg (by rw [HMY.out]; decide), hg]
    exact ⟨rfl, H2.out⟩
  | true =>
    have hc : x.count ≤ 1024 := by rw [mayI_eq] at hm; simp only [Bool.and_eq_true, decide_eq_true_eq] at hm; omega
    have hlen : (toks x).length ≤ 100000 := by have := (toks_le x).1; omega
    have CE := Lib.hid (walk_each x w2 _ HT2.out)
    have HMY := Lib.hid hm
    clear hc hm
    go_wp2_with fail
    refine CE.out.mono ?_
    rintro e w3 ⟨b, rfl, hb, hs3, hb3⟩
    have H3 := Lib.hid (H2.out.trans (hb3.mono (hg ▸ H2.out.size)))
    have CC := Lib.hid (collect_each x b _ w3 hlen hb hs3 HXL.out)
    clear hb hs3 hb3
    go_wp2_with fail
    refine CC.out.mono ?_
    rintro e w4 ⟨u, rfl, ho, hb4⟩
    obtain ⟨ou, cu, rfl⟩ := ho.slice
    have HO := Lib.hid (ho.lower (hg ▸ H3.out.size))
    have H4 := Lib.hid (H3.out.trans (hb4.mono (hg ▸ H3.out.size)))
    clear ho hb4
    go_wp2_with fail
    rw [← HP.out]
    unfold OfPost
    rw [if_pos HMY.out, hg]
    exact ⟨_, _, rfl, HO.out, H4.out⟩

/-- What Tokens tells. -/
def TokPost (R : Except Nat (Rose IL)) (w : World) (e : Ending) (w' : World) : Prop := match R with
  | .error er => e = .returned (.tuple #[.slice none 0 0, .int .i64 (er : Nat)]) ∧ Below w.heap.size w w'
  | .ok x => ∃ o c, e = .returned (.tuple #[.slice o (toks x).length c, .int .i64 0]) ∧ OwnG tkf 2 w' w.heap.size TT (.slice o (toks x).length c) (toks x) ∧ Below w.heap.size w w'

theorem getR_errs {K M : Nat} {s : ByteArray} {er : Nat} (h : getR s.data.toList (rdI K s.data.toList M) = .error er) : (((er : Nat) : Int) != 0) = true := by
  unfold getR at h
  cases hrd : rdI K s.data.toList M with
  | error e =>
    rw [hrd] at h
    simp at h
    subst h
    have := rdI_errs _ _ _ _ hrd
    simp
    omega
  | ok y =>
    rw [hrd] at h
    simp only at h
    split at h
    · injection h with h
      subst h
      rfl
    · cases h
set_option maxRecDepth 100000 in
theorem walk_tokens (depth items : Int) (K M : Nat) (hK : (min depth 16).toNat = K) (hM : (min items 1024).toNat = M) (s : ByteArray) (w : World) (hs : s.size ≤ 100000) (hd1 : (Lit.int .i64 depth).wf = true) (hi1 : (Lit.int .i64 items).wf = true) :
    Calls Try.prog 30 #[.string s, .int .i64 depth, .int .i64 items] w (TokPost (getR s.data.toList (rdI K s.data.toList M)) w) := by
  have CG := Lib.hid (rlp_get depth items K M hK hM s w hs hd1 hi1)
  obtain ⟨R, hR⟩ : ∃ R, getR s.data.toList (rdI K s.data.toList M) = R := ⟨_, rfl⟩
  have HX : Hid (∀ x, R = .ok x → x.count ≤ 1024 ∧ x.lab.text.length ≤ 100000) := Lib.hid fun x e => by
    rw [e] at hR
    unfold getR at hR
    cases hrd : rdI K s.data.toList M with
    | error er => rw [hrd] at hR; simp at hR
    | ok y =>
      rw [hrd] at hR
      simp only at hR
      split at hR
      · cases hR
      · injection hR with hR
        subst hR
        obtain ⟨y1, sz, m2⟩ := y
        have h1 := rdI_spec _ _ _ _ hrd
        dsimp only at h1 ⊢
        obtain ⟨_, _, h3, _⟩ := h1
        refine ⟨by omega, ?_⟩
        cases y1 with
        | node xa xs => exact got_textlen (n := 100000) hs hrd
  have HE : Hid (∀ er, R = .error er → (((er : Nat) : Int) != 0) = true) := Lib.hid fun er e => getR_errs (hR.trans e)
  rw [hR] at CG ⊢
  obtain ⟨POST, hP⟩ : ∃ P0, TokPost R w = P0 := ⟨_, rfl⟩
  have HP := Lib.hid hP
  rw [hP]
  clear hR hK hM hd1 hi1 hP
  have HR0 := Lib.hid (Below.refl w.heap.size w)
  go_enter Try.func30, Try.ntmps30
  go_wp2_with fail
  refine CG.out.mono ?_
  cases R with
  | error er =>
    rintro e w2 ⟨rfl, hb2⟩
    have her := HE.out er rfl
    have H2 := Lib.hid (hb2.alloc hb2.size (.cells #[.string ⟨#[]⟩, .bool false, .slice none 0 0] IT))
    clear hb2
    unfold zero3
    go_wp2_with fail
    rw [← HP.out]
    exact ⟨rfl, H2.out⟩
  | ok x =>
    rintro e w2 ⟨u, rfl, hu, hb2⟩
    obtain ⟨hc, hxl⟩ := HX.out x rfl
    have hml : (100000 : Nat) ≤ maxLen := by decide +kernel
    have hlen : (toks x).length ≤ 100000 := by have := (toks_le x).1; omega
    obtain ⟨ou, cu, rfl, _, _⟩ := hu.slice
    have hbx := box_item (T := txt x.lab) (l := x.lab.list) (t := IT) hu.any
    have HW := Lib.hid hbx
    have H2 := Lib.hid hb2
    have HXL := Lib.hid (Nat.le_trans hxl hml)
    clear hu hbx hb2 hxl hml hc
    go_upto_region 4 with fail
    generalize w2.alloc _ = w3 at *
    obtain ⟨hb3, ht3, hsz, c0, c1, c2, hB3⟩ := HW.out _ rfl
    have H3 := Lib.hid (H2.out.trans (hb3.mono H2.out.size))
    have CE := Lib.hid (walk_each x w3 _ ht3)
    clear hb3 ht3 hsz hB3 HW
    go_wp2_with fail
    refine CE.out.mono ?_
    rintro e w4 ⟨b, rfl, hb, hs4, hb4⟩
    have H4 := Lib.hid (H3.out.trans (hb4.mono H3.out.size))
    have CC := Lib.hid (collect_each x b _ w4 hlen hb hs4 HXL.out)
    clear hb hs4 hb4
    go_wp2_with fail
    refine CC.out.mono ?_
    rintro e w5 ⟨u, rfl, ho, hb5⟩
    obtain ⟨ou, cu, rfl⟩ := ho.slice
    have HO := Lib.hid (ho.lower H4.out.size)
    have H5 := Lib.hid (H4.out.trans (hb5.mono H4.out.size))
    clear ho hb5
    go_wp2_with fail
    rw [← HP.out]
    exact ⟨_, _, rfl, HO.out, H5.out⟩
end Go.Proofs.Ytopfpfpefljkkaa

/- The document's tokens of an item. -/
namespace Go.Proofs.Ytopfpfpefljkkaa
open Go.RowKit
set_option linter.unusedVariables false
set_option linter.unusedSimpArgs false

abbrev DT : TypeId := 89
abbrev DS : TypeId := 52
theorem dk_row : RowTypes Try.prog DS DT 2 := ⟨Try.underlying52, ⟨.agg #[.int .i64 0, .string ⟨#[]⟩], 24, by
  obtain ⟨i, h1, h2, h3, h4⟩ := info_parts (show (Try.prog.info? DT).map (fun i => (i.zero, i.size, i.bytes)) = some (some (.agg #[.int .i64 0, .string ⟨#[]⟩]), 2, 24) by kernel_rfl)
  exact ⟨i, h1, h2, h3, h4, by decide, rfl⟩⟩, by decide⟩

/-- 'append(l, m...)' of elements, whose cells are known. -/
theorem wpList_append_gs {β : Type} {f : β → List Value} {k : Nat} {P : Program} {st t : TypeId} (T : RowTypes P st t k) (hk : ∀ y, (f y).length = k) {ops : Array Oper} {rest : List Oper} {o : Oper} {a : Act} {Q : Exit → Act → World → Prop} (hgd : o.guard = none) (s x : Operand)
    (ho : o.op = .call { callee := .builtin .append, args := #[s, x], argTypes := #[st, st] }) {w : World} {B b n c : Nat} {v : Value} {L M : List β} (hs : a.eval s = v) (hown : OwnG f k w B t v L)
    (hx : a.eval x = .slice (some ⟨b, 0, none⟩) n c) (hn : M.length = n) (hc : ∀ j u, (M.flatMap f)[j]? = some u → w.cell? ((⟨b, 0, none⟩ : Addr).add j) = some u) (h1 : ∀ u ∈ M.flatMap f, u.oneCell' = true) (hpos : 0 < M.length) (hlen : L.length + M.length ≤ 1000000) (hB : B ≤ w.heap.size)
    (h : ∀ g cap w', OwnG f k w' B t (.slice (some ⟨g, 0, none⟩) (L.length + M.length) cap) (L ++ M) → w.grownBy w' v.ownBlock → (v.ownBlock = some g ∨ g = w.heap.size) → g < w'.heap.size → wpList P ops Q rest (a.put o.dst (.slice (some ⟨g, 0, none⟩) (L.length + M.length) cap)) w') :
    wpList P ops Q (o :: rest) a w := by
  refine wpList_plain hgd fun K hK => ?_
  obtain ⟨z, bytes, i, hi, hz, hsz, hby, hle, hzs⟩ := T.hi
  have hby2 : (L.length + M.length) * bytes ≤ 140737488355328 := Nat.le_trans (Nat.mul_le_mul hlen hle) (by decide)
  obtain ⟨g, cap, w', hr, h2, h3, h4, h5⟩ := run_append_lies (P := P) w st o.type B t i z k bytes T.ht hi hz hsz hby hzs T.pos v L.length (L.flatMap f) hown ⟨b, 0, none⟩ M.length c (M.flatMap f) (flat_length hk M) hc h1 hpos (by unfold maxLen; omega) hby2 hB _ rfl
  unfold Oper.wp execOp
  simp only [ho, resolve, invoke, builtin, Sem.run_bind, Sem.run_pure, Result.andThen_ok, List.map_toArray, List.map_cons, List.map_nil, hs, hx]
  rw [← hn, hr]
  refine hK _ _ (h g cap w' ?_ h3 h4 h5)
  unfold OwnG
  rw [List.length_append, List.flatMap_append]
  exact h2
theorem tkf_one (M : List Tk) : ∀ u ∈ M.flatMap tkf, u.oneCell' = true := by
  intro u hu
  obtain ⟨t, _, h⟩ := List.mem_flatMap.1 hu
  simp [tkf] at h
  rcases h with rfl | rfl <;> rfl
theorem OwnG.cells_of {β : Type} {f : β → List Value} {k : Nat} {w : World} {B : Nat} {t : TypeId} {b n c : Nat} {M : List β} (h : OwnG f k w B t (.slice (some ⟨b, 0, none⟩) n c) M) : ∀ j u, (M.flatMap f)[j]? = some u → w.cell? ((⟨b, 0, none⟩ : Addr).add j) = some u :=
  World.ownsRow.cells h (g := b) rfl
/-- One element in a new block. -/
theorem own_one {w : World} {B : Nat} {t : TypeId} {y : Tk} (hB : B ≤ w.heap.size) : OwnG tkf 2 (w.alloc (.cells #[.int .i64 y.kind, .string y.text] t)) B t (.slice (some ⟨w.heap.size, 0, none⟩) 1 1) [y] :=
  OwnG.of (f := tkf) (k := 2) (L := [y]) hB (Blk.new w _ t) (by simp) (by decide) (by simp) tkf_len (by simp [tkf])

set_option maxRecDepth 100000 in
set_option maxHeartbeats 4000000 in
theorem doc_of (x : Rose IL) : ∀ (w : World) (v : Value), ISubs w v x.sub → x.count ≤ 100000 →
    Calls Try.prog 29 #[.agg #[.string (txt x.lab), .bool x.lab.list, v]] w fun e w' => ∃ g c, e = .returned (.slice (some ⟨g, 0, none⟩) (toks x).length c) ∧ OwnG tkf 2 w' w.heap.size DT (.slice (some ⟨g, 0, none⟩) (toks x).length c) (toks x) ∧ Below w.heap.size w w' := by
  induction x using Rose.ind with
  | h a s ih =>
    intro w v hv hc
    have htk := toks_le (.node a s)
    have hlist : a.list = true → toks (.node a s) = tOpen :: toksL s ++ [tShut] := fun h => toks_list (x := .node a s) h
    have hword : a.list = false → toks (.node a s) = [tWord a] := fun h => toks_word (x := .node a s) h
    simp only [Rose.sub_node, Rose.lab_node, Rose.count] at hv hc htk ⊢
    obtain ⟨T, hT⟩ : ∃ T, toks (.node a s) = T := ⟨_, rfl⟩
    rw [hT] at hlist hword htk ⊢
    have HLI := Lib.hid (And.intro hlist hword)
    obtain ⟨oa, cap, rfl, hcap, hml⟩ := ISubsQ.slice hv
    obtain ⟨g, hg⟩ : ∃ g, w.heap.size = g := ⟨_, rfl⟩
    have HW := Lib.hid (box_item (T := txt a) (l := a.list) (t := IT) hv)
    have hls := Rose.length_le_countL s
    obtain ⟨M, hM⟩ : ∃ M, s.length = M := ⟨_, rfl⟩
    have HM := Lib.hid hM
    have IH := Lib.hid ih
    obtain ⟨C, hC⟩ : ∃ C, Rose.countL s = C := ⟨_, rfl⟩
    have HC := Lib.hid hC
    rw [hg] at HW ⊢
    rw [hM] at HW hls ⊢
    rw [hC] at hc hls htk
    have HTL := Lib.hid htk.1
    clear hv hcap hml ih hM hC hT htk hlist hword
    go_enter Try.func29, Try.ntmps29
    go_upto_region 1 with fail
    generalize w.alloc (.cells #[.string (txt a), .bool a.list, .slice oa M cap] IT) = w1 at *
    obtain ⟨hb1, ht1, hsz, c0, c1, c2, hB1⟩ := HW.out _ rfl
    have H1 := Lib.hid (And.intro hb1 ht1)
    clear HW hb1 ht1
    cases hli : a.list with
    | false =>
      rw [hli] at c1
      have hF : Hid (OwnG tkf 2 (w1.alloc (.cells #[.int .i64 3, .string (txt a)] DT)) g DT (.slice (some ⟨g + 1, 0, none⟩) 1 1) [tWord a]) := Lib.hid (by rw [← hsz]; exact own_one (y := tWord a) (by omega))
      have hF2 := Lib.hid (H1.out.1.alloc (by omega) (.cells #[.int .i64 3, .string (txt a)] DT))
      have hTT := Lib.hid (HLI.out.2 hli)
      clear hB1
      go_wp2_with fail
      go_returns
      rw [hTT.out]
      exact ⟨_, _, rfl, hF.out, hF2.out⟩
    | true =>
      rw [hli] at c1
      have hTT := Lib.hid (HLI.out.1 hli)
      have hF : Hid (OwnG tkf 2 (w1.alloc (.cells #[.int .i64 1, .string ⟨#[]⟩] DT)) (g + 1) DT (.slice (some ⟨g + 1, 0, none⟩) 1 1) [tOpen]) := Lib.hid (by have := own_one (w := w1) (t := DT) (y := tOpen) (B := g + 1) (by omega); rw [hsz] at this; exact this)
      have hF2 := Lib.hid ((Below.refl (g + 1) w1).alloc (by omega) (.cells #[.int .i64 1, .string ⟨#[]⟩] DT))
      go_wp2_with fail
      go_loopw [3, 4] (fun ov iv wi => ∃ k : Nat, iv = .int .i64 k ∧ k ≤ M ∧ Hid (OwnG tkf 2 wi (g + 1) DT ov (tOpen :: toksL (s.take k))) ∧ Hid (Below (g + 1) w1 wi)) (fun _ iv _ => M - (intOf iv).toNat)
      case atStart => exact ⟨0, rfl, by omega, by unfold Hid; rw [List.take_zero, toksL_nil]; exact hF.out, hF2⟩
      case round =>
        obtain ⟨k, rfl, hk, ho, hbe⟩ := hrel
        have hcr : wr.cell? ⟨g, 2, none⟩ = some (.slice oa M cap) := (hbe.out.cell (p := ⟨g, 2, none⟩) (Nat.lt_succ_self g)).trans c2
        have hle := toksL_le (s.take (k + 1))
        have hle2 := Rose.countL_take_le s (k + 1)
        rw [HC.out] at hle2
        have hsz1 := hbe.out.size
        by_cases c : k < M
        · obtain ⟨hc', y, hy⟩ : ∃ h : k < s.length, ∃ y, s[k]? = some y := ⟨by rw [HM.out]; exact c, _, List.getElem?_eq_getElem (by rw [HM.out]; exact c)⟩
          obtain ⟨b, off, u, rfl, hlt, _, y0, y1, y2, hu, hwf⟩ := ISubsQ.at_ (Shape.Subs.below H1.out.2 (hsz ▸ hbe.out)) hy
          have hyc : y.count ≤ C := by rw [← HC.out]; exact Rose.countL_mem (List.mem_of_getElem? hy)
          have CY := Lib.hid (IH.out y (List.mem_of_getElem? hy) wr u hu (by omega))
          have het : tOpen :: toksL (s.take (k + 1)) = (tOpen :: toksL (s.take k)) ++ toks y := by rw [toksL_take hy]; rfl
          have HET := Lib.hid het
          have hlen := congrArg List.length het
          rw [List.length_append, List.length_cons] at hlen
          obtain ⟨L, hL⟩ : ∃ L, tOpen :: toksL (s.take k) = L := ⟨_, rfl⟩
          rw [hL] at ho HET hlen
          obtain ⟨oo, co, rfl⟩ := ho.out.slice
          have hpos := (toks_le y).2
          have hlen2 : L.length + (toks y).length ≤ 1000000 := by omega
          obtain ⟨N, hN⟩ : ∃ N, L.length = N := ⟨_, rfl⟩
          obtain ⟨N2, hN2⟩ : ∃ N2, (toks y).length = N2 := ⟨_, rfl⟩
          have HN := Lib.hid (And.intro hN hN2)
          have HO := Lib.hid ho
          have HLE := Lib.hid (And.intro hpos hlen2)
          rw [hN2] at CY
          rw [hN] at HO ⊢
          clear hu hwf het hL hlen hpos hlen2 hN hN2 ho hle hle2
          go_wp2_with fail
          refine (CY.out).mono ?_
          rintro e w2 ⟨gy, cy, rfl, hoy, hb2⟩
          have HOY := Lib.hid hoy
          have HO2 := Lib.hid (HO.out.out.below hb2)
          have HB2 := Lib.hid (hbe.out.trans (hb2.mono (by omega)))
          have hsz2 : g + 1 ≤ w2.heap.size := by have := hb2.size; omega
          clear hoy hb2
          go_wp2_with (at_builtin; refine wpList_append_gs dk_row tkf_len rfl (.tmp 21) (.tmp 27) rfl rfl HO2.out rfl HN.out.2 HOY.out.cells_of (tkf_one _) HLE.out.1 HLE.out.2 hsz2 ?_; intro g2 c2 w3 h1 h2 h3 h4; rw [HN.out.1, HN.out.2] at h1 ⊢; have HR := Lib.hid (And.intro h1 h2); clear h1 h2 h3 h4)
          go_roundw
          case rel =>
            refine ⟨k + 1, by go_num, by omega, ?_, Lib.hid (HB2.out.grown HR.out.2 hsz2 fun r e => (HO2.out.block r e).1)⟩
            unfold Hid
            rw [HET.out]
            exact HR.out.1
          case measure => simp [intOf]; omega
        · obtain rfl : k = M := by omega
          have htk : s.take k = s := by rw [← HM.out, List.take_length]
          rw [htk] at ho
          have hle3 := toksL_le s
          rw [HC.out] at hle3
          obtain ⟨L, hL⟩ : ∃ L, tOpen :: toksL s = L := ⟨_, rfl⟩
          have hll : L.length = (toksL s).length + 1 := by rw [← hL]; rfl
          have hTT2 := hTT.out
          rw [hL] at ho hTT2
          obtain ⟨oo, co, rfl⟩ := ho.out.slice
          have HO := Lib.hid (ho.out.below ((Below.refl wr.heap.size wr).alloc (Nat.le_refl _) (.cells #[.int .i64 2, .string ⟨#[]⟩] DT)))
          have HNB := Lib.hid (Blk.new wr #[.int .i64 2, .string ⟨#[]⟩] DT)
          have HBE := Lib.hid ((H1.out.1.trans (hbe.out.mono (by omega))).alloc (by omega) (.cells #[.int .i64 2, .string ⟨#[]⟩] DT))
          have hL6 : L.length ≤ 1000000 := by omega
          have HTT2 := Lib.hid hTT2
          obtain ⟨N, hN⟩ : ∃ N, L.length = N := ⟨_, rfl⟩
          have HN := Lib.hid hN
          rw [hN] at HO ⊢
          have hsz3 : g + 1 ≤ (wr.alloc (.cells #[.int .i64 2, .string ⟨#[]⟩] DT)).heap.size := by simp; omega
          clear hle hle2 hle3 hll hL hTT2 hN ho htk
          go_wp2_with (at_builtin; refine wpList_append_g (y := tShut) dk_row tkf_len rfl (.tmp 29) (.tmp 31) rfl rfl HO.out rfl HNB.out rfl (by simp [tkf, Value.oneCell']) hL6 hsz3 ?_; intro g2 c2 w3 h1 h2 h3 h4; rw [HN.out] at h1 ⊢; have HR := Lib.hid (And.intro h1 h2); clear h1 h2 h3 h4)
          go_returns
          rw [HTT2.out, List.length_append, HN.out]
          exact ⟨_, _, rfl, HR.out.1.lower (by omega), HBE.out.grown HR.out.2 (by omega) fun r e => by have := (HO.out.block r e).1; omega⟩
end Go.Proofs.Ytopfpfpefljkkaa

/- walk.Skip over the tokens of an item. -/
namespace Go.Proofs.Ytopfpfpefljkkaa
open Go.RowKit
set_option linter.unusedVariables false
set_option linter.unusedSimpArgs false

/-- How many lists are open behind tokens. -/
def lev : List Tk → Int
  | [] => 0
  | t :: T => (if t.kind = 1 then 1 else 0) - (if t.kind = 2 then 1 else 0) + lev T
theorem lev_append (S T : List Tk) : lev (S ++ T) = lev S + lev T := by
  induction S with
  | nil => simp [lev]
  | cons t S ih => simp only [List.cons_append, lev, ih]; omega
theorem lev_take {T : List Tk} {i : Nat} {t : Tk} (h : T[i]? = some t) : lev (T.take (i + 1)) = lev (T.take i) + ((if t.kind = 1 then 1 else 0) - (if t.kind = 2 then 1 else 0)) := by
  rw [List.take_add_one, h, lev_append]
  simp [lev]
theorem lev_le (T : List Tk) : lev T ≤ T.length ∧ -(T.length : Int) ≤ lev T := by
  induction T with
  | nil => simp [lev]
  | cons t T ih => simp only [lev, List.length_cons]; split <;> split <;> omega

theorem lev_toks (x : Rose IL) : lev (toks x) = 0 ∧ ∀ i, 0 ≤ lev ((toks x).take i) := by
  refine Rose.ind (P := fun x => lev (toks x) = 0 ∧ ∀ i, 0 ≤ lev ((toks x).take i)) (fun a s ih => ?_) x
  have hL : ∀ (s : List (Rose IL)), (∀ x, x ∈ s → lev (toks x) = 0 ∧ ∀ i, 0 ≤ lev ((toks x).take i)) → lev (toksL s) = 0 ∧ ∀ i, 0 ≤ lev ((toksL s).take i) := by
    intro s
    induction s with
    | nil => intro _; simp [toksL, lev]
    | cons x s ih =>
      intro h
      have h1 := h x List.mem_cons_self
      have h2 := ih fun y hy => h y (List.mem_cons_of_mem _ hy)
      rw [toksL_cons, lev_append]
      refine ⟨by omega, fun i => ?_⟩
      rw [List.take_append, lev_append]
      have := h1.2 i
      have := h2.2 (i - (toks x).length)
      omega
  have hs := hL s ih
  cases hl : a.list with
  | false =>
    rw [toks_word (x := .node a s) hl]
    refine ⟨rfl, fun i => ?_⟩
    cases i with
    | zero => simp [lev]
    | succ i => simp [lev, tWord]
  | true =>
    rw [toks_list (x := .node a s) hl]
    simp only [Rose.sub_node]
    refine ⟨?_, fun i => ?_⟩
    · simp only [lev, lev_append, hs.1]; simp [tOpen, tShut]
    · cases i with
      | zero => simp [lev]
      | succ i =>
        rw [List.take_succ_cons, List.take_append]
        have h3 := hs.2 i
        simp only [lev, lev_append]
        have : -1 ≤ lev (List.take (i - (toksL s).length) [tShut]) := by
          cases i - (toksL s).length with
          | zero => simp [lev]
          | succ n => simp [lev, tShut]
        simp [tOpen]
        omega
/-- Within a list's tokens at least one list is open. -/
theorem lev_inner {x : Rose IL} (h : x.lab.list = true) {i : Nat} (hi : 0 < i) (hi2 : i < (toks x).length) : 0 < lev ((toks x).take i) := by
  cases x with
  | node a s =>
    have hs : ∀ i, 0 ≤ lev ((toksL s).take i) := by
      intro i
      have : ∀ (s : List (Rose IL)) (i : Nat), 0 ≤ lev ((toksL s).take i) := by
        intro s
        induction s with
        | nil => intro i; simp [toksL, lev]
        | cons x s ih =>
          intro i
          rw [toksL_cons, List.take_append, lev_append]
          have := (lev_toks x).2 i
          have := ih (i - (toks x).length)
          omega
      exact this s i
    rw [toks_list h] at hi2 ⊢
    simp only [Rose.sub_node, List.length_cons, List.length_append, List.length_nil] at hi2
    simp only [Rose.sub_node]
    obtain ⟨j, rfl⟩ : ∃ j, i = j + 1 := ⟨i - 1, by omega⟩
    rw [List.take_succ_cons, List.take_append, show j - (toksL s).length = 0 by omega]
    have := hs j
    simp [lev, tOpen]
    omega
theorem toks_kinds (x : Rose IL) : ∀ t, t ∈ toks x → t.kind = 1 ∨ t.kind = 2 ∨ t.kind = 3 := by
  refine Rose.ind (P := fun x => ∀ t, t ∈ toks x → t.kind = 1 ∨ t.kind = 2 ∨ t.kind = 3) (fun a s ih => ?_) x
  have hL : ∀ t, t ∈ toksL s → t.kind = 1 ∨ t.kind = 2 ∨ t.kind = 3 := by
    have : ∀ (s : List (Rose IL)), (∀ x, x ∈ s → ∀ t, t ∈ toks x → t.kind = 1 ∨ t.kind = 2 ∨ t.kind = 3) → ∀ t, t ∈ toksL s → t.kind = 1 ∨ t.kind = 2 ∨ t.kind = 3 := by
      intro s
      induction s with
      | nil => intro _ t h; simp [toksL] at h
      | cons x s ih =>
        intro h t ht
        rw [toksL_cons, List.mem_append] at ht
        rcases ht with ht | ht
        · exact h x List.mem_cons_self t ht
        · exact ih (fun y hy => h y (List.mem_cons_of_mem _ hy)) t ht
    exact this s ih
  intro t ht
  cases hl : a.list with
  | false =>
    rw [toks_word (x := .node a s) hl] at ht
    simp at ht
    subst ht
    simp [tWord]
  | true =>
    rw [toks_list (x := .node a s) hl] at ht
    simp only [Rose.sub_node, List.mem_cons, List.mem_append, List.not_mem_nil, or_false] at ht
    rcases ht with rfl | ht | rfl
    · simp [tOpen]
    · exact hL t ht
    · simp [tShut]

set_option maxRecDepth 100000 in
set_option maxHeartbeats 4000000 in
theorem walk_skip (x : Rose IL) (w : World) (v : Value) (h : RdG tkf 2 w v (toks x)) (hlen : (toks x).length ≤ 100000) :
    Calls Try.prog 26 #[v, .int .i64 0] w fun e w' => e = .returned (.tuple #[.int .i64 ((toks x).length : Nat), .int .i64 0]) ∧ Below w.heap.size w w' := by
  obtain ⟨oa, cap, rfl⟩ := h.slice
  have hpos := (toks_le x).2
  cases hl : x.lab.list with
  | false =>
    have ht := toks_word hl
    obtain ⟨b, off, rfl, hb, hc⟩ := h.at_ (i := 0) (y := tWord x.lab) (by rw [ht]; rfl)
    have h0 := hc 0 (by decide)
    simp only [Nat.zero_mul, Nat.add_zero, tkf, tWord, List.getElem?_cons_zero] at h0
    have HR0 := Lib.hid (Below.refl w.heap.size w)
    rw [ht] at hpos ⊢
    simp only [List.length_cons, List.length_nil, Nat.zero_add] at hpos ⊢
    clear h hc ht
    go_enter Try.func26, Try.ntmps26
    go_wp2_with fail
    go_returns
    exact ⟨rfl, HR0.out⟩
  | true =>
    have ht := toks_list hl
    obtain ⟨b, off, rfl, hb, hc⟩ := h.at_ (i := 0) (y := tOpen) (by rw [ht]; rfl)
    have h0 := hc 0 (by decide)
    simp only [Nat.zero_mul, Nat.add_zero, tkf, tOpen, List.getElem?_cons_zero] at h0
    have HLV := Lib.hid (And.intro (lev_toks x).1 (fun i h1 h2 => lev_inner hl (i := i) h1 h2))
    have HKN := Lib.hid (toks_kinds x)
    obtain ⟨T, hT⟩ : ∃ T, toks x = T := ⟨_, rfl⟩
    rw [hT] at h hlen hpos HLV HKN ⊢
    obtain ⟨N, hN⟩ : ∃ N, T.length = N := ⟨_, rfl⟩
    have H := Lib.hid h
    have HN := Lib.hid hN
    rw [hN] at hlen hpos H HLV ⊢
    clear h hc ht hT hN
    go_enter Try.func26, Try.ntmps26
    go_wp2_with fail
    go_loopw [6, 32] (fun ov iv wi => ∃ k : Nat, iv = .int .i64 k ∧ k < N ∧ ov = .int .i64 (lev (T.take k)) ∧ Hid (Below w.heap.size w wi)) (fun _ iv _ => N - (intOf iv).toNat)
    case atStart => exact ⟨0, rfl, by omega, by simp [lev], Lib.hid (Below.refl _ _)⟩
    case round =>
      obtain ⟨k, rfl, hk, rfl, hbe⟩ := hrel
      obtain ⟨t, ht⟩ : ∃ t, T[k]? = some t := ⟨_, List.getElem?_eq_getElem (by rw [HN.out]; exact hk)⟩
      obtain ⟨b2, off2, he, hb2, hc⟩ := (H.out.below hbe.out).at_ ht
      cases he
      have c0 := hc 0 (by decide)
      have c1 := hc 1 (by decide)
      simp only [Nat.add_zero, tkf, List.getElem?_cons_zero, List.getElem?_cons_succ] at c0 c1
      have hkind := HKN.out t (List.mem_of_getElem? ht)
      have hlt := lev_take ht
      have hbd := lev_le (T.take k)
      have hin := HLV.out.2 (k + 1) (by omega)
      have hall := HLV.out.1
      have hfull : k + 1 = N → lev (T.take (k + 1)) = 0 := fun e => by rw [e, ← HN.out, List.take_length]; exact hall
      rw [List.length_take, HN.out, Nat.min_eq_left (by omega)] at hbd
      obtain ⟨kk, tt⟩ := t
      dsimp only at c0 c1 hkind hlt
      have HA := Lib.hid (hbe.out.alloc (Nat.le_trans (Nat.le_refl _) hbe.out.size) (.cells #[.int .i64 kk, .string tt] TT))
      clear hc ht
      obtain ⟨z, hz⟩ : ∃ z, lev (T.take k) = z := ⟨_, rfl⟩
      obtain ⟨z2, hz2⟩ : ∃ z2, lev (T.take (k + 1)) = z2 := ⟨_, rfl⟩
      rw [hz2] at hin hfull
      rw [hz, hz2] at hlt
      rw [hz] at hbd ⊢
      have HZ2 := Lib.hid hz2
      clear hz hz2 hall
      have key : k + 1 < N ∧ 0 < z2 ∨ k + 1 = N ∧ z2 = 0 := by
        rcases Nat.lt_or_ge (k + 1) N with h1 | h1
        · exact .inl ⟨h1, hin h1⟩
        · exact .inr ⟨by omega, hfull (by omega)⟩
      clear hin hfull
      rcases hkind with rfl | rfl | rfl
      all_goals simp only [if_true, if_false, Int.reduceEq] at hlt
      · obtain rfl : z2 = z + 1 := by omega
        rcases key with ⟨k1, k2⟩ | ⟨k1, k2⟩
        · have hq : ((z + 1 : Int) == 0) = false := by simp; omega
          clear hlt
          go_wp2_with fail
          exact ⟨⟨k + 1, by go_num, k1, by rw [HZ2.out], HA⟩, by simp [intOf]; omega⟩
        · obtain rfl : z = -1 := by omega
          subst k1
          clear hlt
          go_wp2_with fail
          go_returns
          exact ⟨rfl, HA.out⟩
      · obtain rfl : z2 = z - 1 := by omega
        rcases key with ⟨k1, k2⟩ | ⟨k1, k2⟩
        · have hq : ((z - 1 : Int) == 0) = false := by simp; omega
          clear hlt
          go_wp2_with fail
          exact ⟨⟨k + 1, by go_num, k1, by rw [HZ2.out], HA⟩, by simp [intOf]; omega⟩
        · obtain rfl : z = 1 := by omega
          subst k1
          clear hlt
          go_wp2_with fail
          go_returns
          exact ⟨rfl, HA.out⟩
      · obtain rfl : z2 = z := by omega
        rcases key with ⟨k1, k2⟩ | ⟨k1, k2⟩
        · have hq : ((z2 : Int) == 0) = false := by simp; omega
          clear hlt
          go_wp2_with fail
          exact ⟨⟨k + 1, by go_num, k1, by rw [HZ2.out], HA⟩, by simp [intOf]; omega⟩
        · subst k2
          subst k1
          clear hlt
          go_wp2_with fail
          go_returns
          exact ⟨rfl, HA.out⟩
end Go.Proofs.Ytopfpfpefljkkaa

/- What the laws on walk share: alive, Plain, same. -/
namespace Go.Proofs.Ytopfpfpefljkkaa
open Go.RowKit
set_option linter.unusedVariables false
set_option linter.unusedSimpArgs false

def aI : Rose IL := .node ⟨[], true⟩ [.node ⟨[97], false⟩ []]
theorem aI_toks : toks aI = [tOpen, ⟨3, ⟨#[97]⟩⟩, tShut] := by
  rw [toks_list rfl]
  simp only [aI, Rose.sub_node, toksL_cons, toksL_nil, toks_word (x := .node ⟨[97], false⟩ []) rfl, List.append_nil, List.cons_append, List.nil_append]
  rfl
theorem aI_subs (w : World) : ISubs (w.alloc (.cells #[.string ⟨#[97]⟩, .bool false, .slice none 0 0] IT)) (.slice (some ⟨w.heap.size, 0, none⟩) 1 1) aI.sub := by
  refine ⟨_, 1, rfl, Nat.le_refl _, by decide, fun _ => ⟨w.heap.size, 0, rfl, by simp, trivial, ?_⟩⟩
  have hb := Blk.new w #[.string ⟨#[97]⟩, .bool false, .slice none 0 0] IT
  simp only [aI, Rose.sub_node, Shape.RowAt, Shape.NodeAt, and_true]
  refine ⟨show 1 ≤ maxLen by decide +kernel, .slice none 0 0, fun j hj => ?_, ⟨none, 0, rfl, Nat.le_refl _, Nat.zero_le _, fun h => absurd h (by simp)⟩⟩
  match j, hj with
  | 0, _ => exact hb.cell 0
  | 1, _ => exact hb.cell 1
  | 2, _ => exact hb.cell 2

set_option maxRecDepth 100000 in
set_option maxHeartbeats 2000000 in
theorem walk_alive (w : World) : Calls Try.prog 22 #[] w fun e w' => e = .returned (.bool true) ∧ Below w.heap.size w w' := by
  have CO := Lib.hid (walk_of aI _ _ (aI_subs w) (by decide +kernel))
  have HB := Lib.hid ((Below.refl w.heap.size w).alloc (Nat.le_refl _) (.cells #[.string ⟨#[97]⟩, .bool false, .slice none 0 0] IT))
  have hm : mayI aI = true := by decide +kernel
  have e1 : ∀ W e W', OfPost aI W e W' → ∃ o c, e = .returned (.tuple #[.slice o 3 c, .int .i64 0]) ∧ OwnG tkf 2 W' W.heap.size TT (.slice o 3 c) [tOpen, ⟨3, ⟨#[97]⟩⟩, tShut] ∧ Below W.heap.size W W' := fun W e W' h => by
    unfold OfPost at h
    rw [if_pos hm, aI_toks] at h
    exact h
  have CO : Hid (Calls Try.prog 23 #[.agg #[.string ⟨#[]⟩, .bool true, .slice (some ⟨w.heap.size, 0, none⟩) 1 1]] (w.alloc (.cells #[.string ⟨#[97]⟩, .bool false, .slice none 0 0] IT)) fun e W' => ∃ o c, e = .returned (.tuple #[.slice o 3 c, .int .i64 0]) ∧ OwnG tkf 2 W' (w.alloc (.cells #[.string ⟨#[97]⟩, .bool false, .slice none 0 0] IT)).heap.size TT (.slice o 3 c) [tOpen, ⟨3, ⟨#[97]⟩⟩, tShut] ∧ Below (w.alloc (.cells #[.string ⟨#[97]⟩, .bool false, .slice none 0 0] IT)).heap.size (w.alloc (.cells #[.string ⟨#[97]⟩, .bool false, .slice none 0 0] IT)) W') := Lib.hid (CO.out.mono fun e W' h => e1 _ _ _ h)
  clear e1
  obtain ⟨g, hg⟩ : ∃ g, w.heap.size = g := ⟨_, rfl⟩
  rw [hg] at HB CO
  rw [hg]
  clear hm
  go_enter Try.func22, Try.ntmps22
  go_wp2_with fail
  refine CO.out.mono ?_
  rintro e w2 ⟨o, c, rfl, ho, hb2⟩
  have H2 := Lib.hid (HB.out.trans (hb2.mono (by simp; omega)))
  have hr := ho.rd tkf_len
  have CS := Lib.hid (walk_skip aI w2 (.slice o 3 c) (by rw [aI_toks]; exact hr) (by rw [aI_toks]; decide))
  rw [aI_toks] at CS
  have HR := Lib.hid hr
  clear ho hb2 hr
  go_wp2_with fail
  refine CS.out.mono ?_
  rintro e w3 ⟨rfl, hb3⟩
  have H3 := Lib.hid (H2.out.trans (hb3.mono (by have := H2.out.size; omega)))
  have hr3 := HR.out.below hb3
  obtain ⟨b, off, rfl, _, hc0⟩ := hr3.at_ (i := 0) (y := tOpen) rfl
  obtain ⟨_, _, he, _, hc1⟩ := hr3.at_ (i := 1) (y := ⟨3, ⟨#[97]⟩⟩) rfl
  cases he
  obtain ⟨_, _, he, _, hc2⟩ := hr3.at_ (i := 2) (y := tShut) rfl
  cases he
  have a0 := hc0 0 (by decide)
  have a1 := hc1 1 (by decide)
  have a2 := hc2 0 (by decide)
  simp only [tkf, tOpen, tShut, Nat.zero_mul, Nat.add_zero, List.getElem?_cons_zero, List.getElem?_cons_succ, Nat.one_mul, Nat.add_assoc, Nat.reduceAdd, Nat.reduceMul] at a0 a1 a2
  clear hb3 hr3 hc0 hc1 hc2
  go_wp2_with fail
  go_returns
  exact ⟨rfl, H3.out⟩

set_option maxRecDepth 100000 in
set_option maxHeartbeats 4000000 in
/-- Tokens of the one kind are made those of the other. -/
theorem law_plain (T : List Tk) (w : World) (v : Value) (h : RdG tkf 2 w v T) (hT : T.length ≤ 100000) :
    Calls Try.prog 28 #[v] w fun e w' => ∃ u, e = .returned u ∧ OwnG tkf 2 w' w.heap.size DT u T ∧ Below w.heap.size w w' := by
  obtain ⟨oa, cap, rfl⟩ := h.slice
  obtain ⟨N, hN⟩ : ∃ N, T.length = N := ⟨_, rfl⟩
  have H := Lib.hid h
  have HN := Lib.hid hN
  rw [hN] at H hT ⊢
  obtain ⟨B, hB⟩ : ∃ B, w.heap.size = B := ⟨_, rfl⟩
  rw [hB]
  clear h hN
  go_enter Try.func28, Try.ntmps28
  go_wp2_with fail
  go_loopw [3, 4] (fun ov iv wi => ∃ k : Nat, iv = .int .i64 k ∧ k ≤ N ∧ Hid (OwnG tkf 2 wi B DT ov (T.take k)) ∧ Hid (Below B w wi)) (fun _ iv _ => N - (intOf iv).toNat)
  case atStart => exact ⟨0, rfl, by omega, Lib.hid (OwnG.nil _ _ _), Lib.hid (Below.refl _ _)⟩
  case round =>
    obtain ⟨k, rfl, hk, ho, hbe⟩ := hrel
    obtain ⟨ov, oc, rfl⟩ := ho.out.slice
    by_cases c : k < N
    · obtain ⟨t, ht⟩ : ∃ t, T[k]? = some t := ⟨_, List.getElem?_eq_getElem (by rw [HN.out]; exact c)⟩
      obtain ⟨b, off, rfl, hb, hc⟩ := (H.out.below (hB ▸ hbe.out)).at_ ht
      have c0 := hc 0 (by decide)
      have c1 := hc 1 (by decide)
      simp only [Nat.add_zero, tkf, List.getElem?_cons_zero, List.getElem?_cons_succ] at c0 c1
      have h0 : ∀ x : Fut wr, x.at_.cell? ⟨b, off + k * 2, none⟩ = some (.int .i64 t.kind) := fun x => (x.is.cell (p := ⟨b, off + k * 2, none⟩) hb).trans c0
      have h1 : ∀ x : Fut wr, x.at_.cell? ⟨b, off + k * 2 + 1, none⟩ = some (.string t.text) := fun x => (x.is.cell (p := ⟨b, off + k * 2 + 1, none⟩) hb).trans c1
      clear c0 c1 hc
      go_upto_region 5 with fail
      refine wp_region_after_tail1 12 _ (.slice ov (T.take k).length oc) (by kernel_rfl) (by kernel_rfl) rfl (.inl ⟨rfl, fun w => rfl⟩) (fun _ _ _ h => h) ?_
      simp only [List.take_succ_cons, List.take_zero, List.drop_succ_cons, List.drop_zero, Act.put, List.setIfInBounds_toArray, List.set_cons_zero, List.set_cons_succ]
      repeat (go_big_quiet_step (fail))
      refine wpQuiet_nil ?_
      intro x
      obtain ⟨K, hK⟩ : ∃ K, (T.take k).length = K := ⟨_, rfl⟩
      have hKk : K ≤ 1000000 := by rw [← hK, List.length_take]; omega
      have HK := Lib.hid hK
      have hob := ho.out.below (x.is.trans (((Below.refl _ x.at_).alloc (Nat.le_refl _) (.cells #[.int .i64 t.kind, .string t.text] DT)).mono x.is.size))
      have hBw : B ≤ wr.heap.size := by have := hbe.out.size; omega
      have HBX := Lib.hid ((hbe.out.trans (x.is.mono hBw)).alloc (Nat.le_trans hBw x.is.size) (.cells #[.int .i64 t.kind, .string t.text] DT))
      have HNB := Lib.hid (Blk.new x.at_ #[.int .i64 t.kind, .string t.text] DT)
      have HET : Hid (T.take (k + 1) = T.take k ++ [t]) := Lib.hid (by rw [List.take_add_one, ht]; rfl)
      rw [hK] at hob ⊢
      have HO := Lib.hid hob
      have hB3 : B ≤ (x.at_.alloc (.cells #[.int .i64 t.kind, .string t.text] DT)).heap.size := by have := HBX.out.size; omega
      clear h0 h1 hK hob ht
      go_wp2_with (at_builtin; refine wpList_append_g (y := t) dk_row tkf_len rfl (.tmp 11) (.tmp 23) rfl rfl HO.out rfl HNB.out rfl (by simp [tkf, Value.oneCell']) (by rw [HK.out]; exact hKk) hB3 ?_; intro g2 c2 w3 q1 q2 q3 q4; rw [HK.out] at q1 ⊢; have HR := Lib.hid (And.intro q1 q2); clear q1 q2 q3 q4)
      go_roundw
      case rel =>
        refine ⟨k + 1, by go_num, by omega, ?_, Lib.hid (HBX.out.grown HR.out.2 hB3 fun r e => (HO.out.block r e).1)⟩
        unfold Hid
        rw [HET.out]
        exact HR.out.1
      case measure => simp [intOf]; omega
    · obtain rfl : k = N := by omega
      have htk : T.take k = T := by rw [← HN.out, List.take_length]
      rw [htk] at ho ⊢
      go_wp2_with fail
      go_returns
      exact ⟨_, rfl, ho.out, hbe.out⟩
end Go.Proofs.Ytopfpfpefljkkaa

/- Rows of tokens that are alike. -/
namespace Go.Proofs.Ytopfpfpefljkkaa
open Go.RowKit
set_option linter.unusedVariables false
set_option linter.unusedSimpArgs false

/-- A struct of a number and a text is alike itself. -/
theorem eq_fields2 {P : Program} (w : World) (d : Nat) {fs : List Field} {tk tx : TypeId} (hf : fs.map (fun f => (f.name == "_", f.type, f.offset)) = [(false, tk, 0), (false, tx, 1)]) (h1 : P.underlying tk = some (.int .i64)) (h2 : P.underlying tx = some .string) (kk : Int) (tt : ByteArray) :
    (Op.eqFields (d + 1) #[.int .i64 kk, .string tt] #[.int .i64 kk, .string tt] fs).run P w = .ok true w := by
  have hl : fs.length = 2 := by have := congrArg List.length hf; simpa using this
  obtain ⟨f, g, rfl⟩ : ∃ f g, fs = [f, g] := by
    rcases fs with _ | ⟨f, _ | ⟨g, _ | ⟨h, r⟩⟩⟩
    · simp at hl
    · simp at hl
    · exact ⟨f, g, rfl⟩
    · simp at hl
  · simp only [List.map_cons, List.map_nil, List.cons.injEq, Prod.mk.injEq, and_true, beq_eq_false_iff_ne] at hf
    obtain ⟨⟨a1, a2, a3⟩, b1, b2, b3⟩ := hf
    have p1 : ∀ w, (part f.type #[.int .i64 kk, .string tt] f.offset).run P w = .ok (.int .i64 kk) w := fun w => by rw [a2, a3]; simp [part, isAgg, run_underlying h1]
    have p2 : ∀ w, (part g.type #[.int .i64 kk, .string tt] g.offset).run P w = .ok (.string tt) w := fun w => by rw [b2, b3]; simp [part, isAgg, run_underlying h2]
    simp only [Op.eqFields, a1, b1, ne_eq, not_false_eq_true, if_true, Sem.run_bind, p1, p2, Result.andThen_ok]
    rw [run_equalIn_int w d f.type .i64 .i64 kk kk (a2 ▸ h1)]
    simp only [beq_self_eq_true, Bool.not_true, Bool.false_eq_true, if_false, Sem.run_bind, p2, Result.andThen_ok]
    rw [run_equalIn_string w d g.type tt tt (b2 ▸ h2)]
    simp
theorem tk_eq (kk : Int) (tt : ByteArray) (w : World) : (Op.equalIn 10000 DT (.agg #[.int .i64 kk, .string tt]) (.agg #[.int .i64 kk, .string tt])).run Try.prog w = .ok true w := by
  rw [run_equalIn_struct w 9999 DT _ _ (by kernel_rfl) (by kernel_rfl)]
  exact eq_fields2 w 9998 (tk := 3) (tx := 9) (by kernel_rfl) Try.underlying3 Try.underlying9 kk tt
theorem tk_guard : Try.prog.eqGuardType Try.prog.depth DT = false := by kernel_rfl

set_option maxRecDepth 100000 in
set_option maxHeartbeats 4000000 in
theorem law_same (T : List Tk) (w : World) (v u : Value) (h : RdG tkf 2 w v T) (h2 : RdG tkf 2 w u T) (hT : T.length ≤ 100000) :
    Calls Try.prog 27 #[v, u] w fun e w' => e = .returned (.bool true) ∧ Below w.heap.size w w' := by
  obtain ⟨oa, cap, rfl⟩ := h.slice
  obtain ⟨ob, cap2, rfl⟩ := h2.slice
  obtain ⟨N, hN⟩ : ∃ N, T.length = N := ⟨_, rfl⟩
  have H := Lib.hid h
  have H2 := Lib.hid h2
  have HN := Lib.hid hN
  rw [hN] at H H2 hT ⊢
  clear h h2 hN
  go_enter Try.func27, Try.ntmps27
  go_wp2_with fail
  go_loopw [5] (fun iv wi => ∃ k : Nat, iv = .int .i64 k ∧ k ≤ N ∧ Hid (Below w.heap.size w wi)) (fun iv _ => N - (intOf iv).toNat)
  case atStart => exact ⟨0, rfl, by omega, Lib.hid (Below.refl _ _)⟩
  case round =>
    obtain ⟨k, rfl, hk, hbe⟩ := hrel
    by_cases c : k < N
    · obtain ⟨t, ht⟩ : ∃ t, T[k]? = some t := ⟨_, List.getElem?_eq_getElem (by rw [HN.out]; exact c)⟩
      obtain ⟨b, off, rfl, hb, hc⟩ := (H.out.below hbe.out).at_ ht
      obtain ⟨b2, off2, rfl, hb2, hc2⟩ := (H2.out.below hbe.out).at_ ht
      have c0 := hc 0 (by decide)
      have c1 := hc 1 (by decide)
      have d0 := hc2 0 (by decide)
      have d1 := hc2 1 (by decide)
      simp only [Nat.add_zero, tkf, List.getElem?_cons_zero, List.getElem?_cons_succ] at c0 c1 d0 d1
      obtain ⟨kk, tt⟩ := t
      dsimp only at c0 c1 d0 d1
      clear hc hc2 ht
      have q1 := fun w => tk_eq kk tt w
      have q3 := tk_guard
      go_upto_region 6 with fail
      refine wp_region_quiet_lit (by kernel_rfl) (by kernel_rfl) ?_
      repeat (go_big_quiet_step (fail))
      refine wpQuiet_nil ?_
      rintro w' ⟨nq, rfl⟩
      have HB2 : Hid (Below w.heap.size w (wr.drewN nq)) := Lib.hid ⟨hbe.out.os, hbe.out.tape, hbe.out.output, hbe.out.size, hbe.out.block⟩
      clear q1 q3 c0 c1 d0 d1
      go_wp2_with fail
      go_roundw
      case rel => exact ⟨k + 1, by go_num, by omega, HB2⟩
      case measure => simp [intOf]; omega
    · obtain rfl : k = N := by omega
      go_wp2_with fail
      go_returns
      exact ⟨rfl, hbe.out⟩
end Go.Proofs.Ytopfpfpefljkkaa
