/- Slices of trees that a call makes itself, and appends to. -/
import Derived.Test.YtopfpfpefljkkaaRose
import Derived.Test.YtopfpfpefljkkaaObj
import Derived.OwnWalk
import Derived.Deep.AppendLies
namespace Go.Proofs.Ytopfpfpefljkkaa
open Go.RowKit
set_option linter.unusedVariables false
set_option linter.unusedSimpArgs false

/-- An element: what it bears, the slice's value, those within. -/
structure Elt (α : Type) where
  lab : α
  u : Value
  sub : List (Rose α)
def Elt.tree {α : Type} (y : Elt α) : Rose α := .node y.lab y.sub

section
variable {α : Type}
/-- The cells of a row. -/
def Shape.row (S : Shape α) (L : List (Elt α)) : List Value := L.flatMap fun y => S.cells y.lab y.u
theorem Shape.row_append (S : Shape α) (L M : List (Elt α)) : S.row (L ++ M) = S.row L ++ S.row M := by simp [Shape.row]
theorem Shape.row_length (S : Shape α) (L : List (Elt α)) : (S.row L).length = L.length * S.k := by
  induction L with
  | nil => simp [Shape.row]
  | cons y L ih =>
    show (S.cells y.lab y.u ++ S.row L).length = _
    rw [List.length_append, ih, S.hk, List.length_cons, Nat.add_mul]; omega
theorem Shape.row_at (S : Shape α) {L : List (Elt α)} {i : Nat} {y : Elt α} (hy : L[i]? = some y) {j : Nat} (hj : j < S.k) : (S.row L)[i * S.k + j]? = (S.cells y.lab y.u)[j]? := by
  induction L generalizing i with
  | nil => simp at hy
  | cons z L ih =>
    show (S.cells z.lab z.u ++ S.row L)[i * S.k + j]? = _
    cases i with
    | zero =>
      simp at hy; subst hy
      rw [List.getElem?_append_left (by rw [S.hk]; omega)]; simp
    | succ i =>
      simp at hy
      rw [List.getElem?_append_right (by rw [S.hk, Nat.add_mul]; omega), S.hk, show (i + 1) * S.k + j - S.k = i * S.k + j by rw [Nat.add_mul]; omega]
      exact ih hy

/-- The slice v, made by the call, has the trees L; these lie elsewhere. -/
def OwnT (S : Shape α) (t : TypeId) (w : World) (B : Nat) (v : Value) (L : List (Elt α)) : Prop :=
  w.ownsRow B t S.k v L.length (S.row L) ∧ ∀ y, y ∈ L → S.ok y.lab ∧ S.Subs w (fun c => B ≤ c ∧ v.ownBlock ≠ some c) y.u y.sub

theorem OwnT.nil (S : Shape α) (t : TypeId) (w : World) (B : Nat) : OwnT S t w B (.slice none 0 0) [] := ⟨World.ownsRow_nil w B t S.k, fun y h => by cases h⟩
theorem OwnT.block {S : Shape α} {t : TypeId} {w : World} {B : Nat} {v : Value} {L : List (Elt α)} (h : OwnT S t w B v L) : ∀ b, v.ownBlock = some b → B ≤ b ∧ b < w.heap.size := by
  rcases h.1.2 with ⟨rfl, h0⟩ | ⟨g, cap, cur, rfl, hb, hg, _⟩
  · intro b h; cases h
  · intro b h; cases h; exact ⟨hb, (Array.getElem?_eq_some_iff.1 hg).1⟩
theorem OwnT.slice {S : Shape α} {t : TypeId} {w : World} {B : Nat} {v : Value} {L : List (Elt α)} (h : OwnT S t w B v L) : ∃ oa cap, v = .slice oa L.length cap := by
  rcases h.1.2 with ⟨rfl, h0⟩ | ⟨g, cap, cur, rfl, _⟩
  · exact ⟨none, 0, by rw [h0]⟩
  · exact ⟨_, cap, rfl⟩
theorem OwnT.keep {S : Shape α} {t : TypeId} {w w' : World} {B : Nat} {v : Value} {L : List (Elt α)} (h : OwnT S t w B v L) (hs : w.heap.size ≤ w'.heap.size) (hk : ∀ c, B ≤ c → c < w.heap.size → w'.heap[c]? = w.heap[c]?) : OwnT S t w' B v L := by
  refine ⟨⟨h.1.1, ?_⟩, fun y hy => ⟨(h.2 y hy).1, (h.2 y hy).2.keep hs (fun _ _ h => h) fun c hc hq => hk c hq.1 hc⟩⟩
  rcases h.1.2 with h2 | ⟨g, cap, cur, hv, hg, hh, r⟩
  · exact .inl h2
  · refine .inr ⟨g, cap, cur, hv, hg, ?_, r⟩
    rw [hk g hg (Array.getElem?_eq_some_iff.1 hh).1]; exact hh
theorem OwnT.below {S : Shape α} {t : TypeId} {w w' : World} {B : Nat} {v : Value} {L : List (Elt α)} (h : OwnT S t w B v L) (hb : Below w.heap.size w w') : OwnT S t w' B v L :=
  h.keep hb.size fun c _ hc => hb.block c hc
theorem OwnT.upd {S : Shape α} {t : TypeId} {w w' : World} {B b : Nat} {v : Value} {L : List (Elt α)} (h : OwnT S t w B v L) (hu : Upd b w w') (hb : b < B) : OwnT S t w' B v L :=
  h.keep hu.size fun c hB hc => hu.block c hc (by simpa using by omega)

/-- It reads as the trees. -/
theorem OwnT.subs {S : Shape α} {t : TypeId} {w : World} {B : Nat} {v : Value} {L : List (Elt α)} (h : OwnT S t w B v L) : S.Subs w (fun c => B ≤ c) v (L.map Elt.tree) := by
  obtain ⟨h1, h2⟩ := h
  rcases h1.2 with ⟨rfl, h0⟩ | ⟨g, cap, cur, rfl, hb, hg, hcap, hm, hsz, htake⟩
  · have : L = [] := List.length_eq_zero_iff.1 h0
    subst this
    exact ⟨none, 0, rfl, Nat.le_refl _, Nat.zero_le _, fun h => absurd h (by simp)⟩
  · refine ⟨some ⟨g, 0, none⟩, cap, by rw [List.length_map], by rw [List.length_map]; exact hcap, hm, fun _ => ⟨g, 0, rfl, (Array.getElem?_eq_some_iff.1 hg).1, hb, ?_⟩⟩
    have cell : ∀ i y, L[i]? = some y → ∀ j, j < S.k → w.cell? ⟨g, i * S.k + j, none⟩ = (S.cells y.lab y.u)[j]? := by
      intro i y hy j hj
      obtain ⟨hi, _⟩ := List.getElem?_eq_some_iff.1 hy
      have hlt : i * S.k + j < (S.row L).length := by
        rw [S.row_length]
        have : (i + 1) * S.k ≤ L.length * S.k := Nat.mul_le_mul_right _ (by omega)
        rw [Nat.add_mul] at this
        omega
      have := World.ownsRow.cells h1 (g := g) rfl (i * S.k + j) _ (List.getElem?_eq_getElem hlt)
      have e1 : (⟨g, 0, none⟩ : Addr).add (i * S.k + j) = ⟨g, i * S.k + j, none⟩ := by unfold Addr.add; split <;> simp_all
      rw [e1] at this
      rw [this, ← List.getElem?_eq_getElem hlt, S.row_at hy hj]
    have row : ∀ (M : List (Elt α)) (i : Nat), (∀ k y, M[k]? = some y → L[i + k]? = some y) → S.RowAt w (fun c => B ≤ c) (M.map Elt.tree) g (i * S.k) := by
      intro M
      induction M with
      | nil => intro i _; simp only [List.map_nil, Shape.RowAt]
      | cons y M ih =>
        intro i hM
        simp only [List.map_cons, Shape.RowAt]
        have hy := hM 0 y rfl
        refine ⟨?_, ?_⟩
        · simp only [Elt.tree, Shape.NodeAt]
          have hmem := List.mem_of_getElem? hy
          exact ⟨(h2 y hmem).1, y.u, fun j hj => cell i y hy j hj, (h2 y hmem).2.keep (Nat.le_refl _) (fun c _ h => h.1) fun _ _ _ => rfl⟩
        · have := ih (i + 1) fun k z hz => by
            have := hM (k + 1) z hz
            rwa [show i + 1 + k = i + (k + 1) by omega]
          rwa [show (i + 1) * S.k = i * S.k + S.k by rw [Nat.add_mul, Nat.one_mul]] at this
    have := row L 0 fun k y h => by simpa using h
    simpa using this

/-- 'append(l, x)' of an element that was laid into a block of its own, onto a slice that the call made. -/
theorem append_tree {S : Shape α} {P : Program} {st t : TypeId} {i0 : TypeInfo} {z : Value} {bytes : Nat} (ht : P.underlying st = some (.slice t)) (hi : P.info? t = some i0) (hz : i0.zero = some z) (hsize : i0.size = S.k) (hby : i0.bytes = bytes)
    (hzs : z.cells.size = S.k) (hpos : 0 < S.k) (hone : ∀ a o n c, ∀ u ∈ S.cells a (.slice o n c), u.oneCell' = true)
    {ops : Array Oper} {rest : List Oper} {o : Oper} {a : Act} {Q : Exit → Act → World → Prop} (hgd : o.guard = none) (x y : Operand) (ho : o.op = .call { callee := .builtin .append, args := #[x, y], argTypes := #[st, st] })
    (B : Nat) (v : Value) (L : List (Elt α)) (e : Elt α) (w : World) (cs : Array Value) (hcs : cs.toList = S.cells e.lab e.u) (hx : a.eval x = v) (hown : OwnT S t w B v L)
    (hy : a.eval y = .slice (some ⟨w.heap.size, 0, none⟩) 1 1) (hlen : L.length ≤ 100000) (hbytes : bytes ≤ 1000) (hB : B ≤ w.heap.size)
    (hok : S.ok e.lab) (hsub : S.Subs w (fun c => B ≤ c ∧ v.ownBlock ≠ some c) e.u e.sub)
    (h : ∀ g cap w', OwnT S t w' B (.slice (some ⟨g, 0, none⟩) (L.length + 1) cap) (L ++ [e]) → Below B w w' → w.heap.size < w'.heap.size → w.grownBy w' v.ownBlock → wpList P ops Q rest (a.put o.dst (.slice (some ⟨g, 0, none⟩) (L.length + 1) cap)) w') :
    wpList P ops Q (o :: rest) a (w.alloc (.cells cs t)) := by
  have hal := (Below.refl w.heap.size w).alloc (Nat.le_refl _) (.cells cs t)
  obtain ⟨oe, ce, hue, _⟩ := hsub
  refine wpList_append_lies _ hgd x y st ho B t i0 z S.k bytes ht hi hz hsize hby hzs hpos v L.length (S.row L) hx (World.ownsRow.alloc hown.1 _)
    ⟨w.heap.size, 0, none⟩ 1 1 (S.row [e]) hy (by rw [S.row_length]; rfl) ?_ ?_ (by decide) (by unfold maxLen; omega) ?_ (by simp; omega) _ rfl ?_
  · intro j u hj
    have e1 : (⟨w.heap.size, 0, none⟩ : Addr).add j = ⟨w.heap.size, j, none⟩ := by unfold Addr.add; split <;> simp_all
    rw [e1, World.cell?_alloc_mark w cs t (0, 0) j, ← hj]
    have : S.row [e] = cs.toList := by simp [Shape.row, hcs]
    rw [this]; simp
  · intro u hu
    have : S.row [e] = S.cells e.lab e.u := by simp [Shape.row]
    rw [this, hue] at hu
    exact hone _ _ _ _ u hu
  · calc (L.length + 1) * bytes ≤ 100001 * 1000 := Nat.mul_le_mul (by omega) hbytes
      _ ≤ _ := by decide
  · intro g cap w' h1 h2 h3 h4
    have hsz : (w.alloc (.cells cs t)).heap.size = w.heap.size + 1 := by simp
    have hb : Below B w w' := by
      refine ((Below.refl B w).alloc hB _).grown h2 (by omega) fun j hj => ?_
      exact (hown.block j hj).1
    have hgrow : w.grownBy w' v.ownBlock :=
      ⟨h2.os, h2.tape, h2.output, by have := h2.size; omega, fun c hc hne => (h2.block c (by omega) hne).trans (hal.block c hc)⟩
    refine h g cap w' ⟨by rw [List.length_append, S.row_append]; exact h1, fun z hz => ?_⟩ hb (by have := h2.size; omega) hgrow
    have key : ∀ z : Elt α, S.ok z.lab → S.Subs w (fun c => B ≤ c ∧ v.ownBlock ≠ some c) z.u z.sub → S.ok z.lab ∧ S.Subs w' (fun c => B ≤ c ∧ (Value.slice (some ⟨g, 0, none⟩) (L.length + 1) cap).ownBlock ≠ some c) z.u z.sub := by
      intro z ho hs
      refine ⟨ho, hs.keep (by have := h2.size; omega) (fun c hc hq => ⟨hq.1, ?_⟩) fun c hc hq => ?_⟩
      · rcases h3 with h3 | h3
        · rw [← show v.ownBlock = (Value.slice (some ⟨g, 0, none⟩) (L.length + 1) cap).ownBlock from h3]; exact hq.2
        · intro e'; simp [Value.ownBlock] at e'; omega
      · exact hgrow.block c hc (fun e' => hq.2 e'.symm)
    rcases List.mem_append.1 hz with hz | hz
    · exact key z (hown.2 z hz).1 (hown.2 z hz).2
    · simp at hz
      subst hz
      exact key z hok ⟨oe, ce, hue, ‹_›⟩
end
end Go.Proofs.Ytopfpfpefljkkaa
