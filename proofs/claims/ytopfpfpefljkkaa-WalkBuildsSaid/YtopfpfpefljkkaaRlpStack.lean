/- Stacks of lists of items that a call makes: each level owns its row and what lies below it; no two levels share a block. -/
import Derived.Test.YtopfpfpefljkkaaItemAt
import Derived.Test.YtopfpfpefljkkaaGRow
import Derived.Test.YtopfpfpefljkkaaTreeOwn
namespace Go.Proofs.Ytopfpfpefljkkaa
open Go.RowKit
set_option linter.unusedVariables false
set_option linter.unusedSimpArgs false

/-- The cells of an element. -/
def itf (y : Elt IL) : List Value := [.string (txt y.lab), .bool y.lab.list, y.u]
theorem itf_len (y : Elt IL) : (itf y).length = 3 := rfl
/-- The slice v of items, whose row, and what lies below it, are blocks of Q. -/
def OwnI (w : World) (Q : Nat → Prop) (v : Value) (L : List (Elt IL)) : Prop :=
  OwnG itf 3 w 0 IT v L ∧ (∀ b, v.ownBlock = some b → Q b) ∧ ∀ y, y ∈ L → y.lab.text.length ≤ maxLen ∧ ISubsQ w (fun c => Q c ∧ v.ownBlock ≠ some c) y.u y.sub

theorem OwnI.nil (w : World) (Q : Nat → Prop) : OwnI w Q (.slice none 0 0) [] := ⟨OwnG.nil w 0 IT, fun b h => by simp [Value.ownBlock] at h, fun y h => by cases h⟩
theorem OwnI.slice {w : World} {Q : Nat → Prop} {v : Value} {L : List (Elt IL)} (h : OwnI w Q v L) : ∃ oa cap, v = .slice oa L.length cap := h.1.slice
theorem OwnI.keep {w w' : World} {Q Q' : Nat → Prop} {v : Value} {L : List (Elt IL)} (h : OwnI w Q v L) (hs : w.heap.size ≤ w'.heap.size) (hk : ∀ c, c < w.heap.size → Q c → w'.heap[c]? = w.heap[c]?) (hQ : ∀ c, c < w.heap.size → Q c → Q' c) : OwnI w' Q' v L := by
  refine ⟨h.1.keep fun b hb => hk b (h.1.block b hb).2.1 (h.2.1 b hb), fun b hb => hQ b (h.1.block b hb).2.1 (h.2.1 b hb), fun y hy => ⟨(h.2.2 y hy).1, ?_⟩⟩
  exact Shape.Subs.keep (h.2.2 y hy).2 hs (fun c hc hq => ⟨hQ c hc hq.1, hq.2⟩) fun c hc hq => hk c hc hq.1
/-- It reads as the trees. -/
theorem OwnI.subs {w : World} {Q : Nat → Prop} {v : Value} {L : List (Elt IL)} (h : OwnI w Q v L) : ISubsQ w Q v (L.map Elt.tree) := by
  obtain ⟨h1, hv, h2⟩ := h
  rcases h1.form with ⟨rfl, rfl⟩ | ⟨g, cap, cur, rfl, hb, hg, hcap, hm, hsz, htake⟩
  · exact ⟨none, 0, rfl, Nat.le_refl _, Nat.zero_le _, fun h => absurd h (by simp)⟩
  · refine ⟨some ⟨g, 0, none⟩, cap, by rw [List.length_map], by rw [List.length_map]; exact hcap, hm, fun _ => ⟨g, 0, rfl, hg.lt, hv g rfl, ?_⟩⟩
    have cell : ∀ i y, L[i]? = some y → ∀ j, j < 3 → w.cell? ⟨g, i * 3 + j, none⟩ = (itf y)[j]? := by
      intro i y hy j hj
      obtain ⟨g', hg', _, _, _, _, hc, _⟩ := h1.at_ itf_len hy
      cases hg'
      exact hc j hj
    have row : ∀ (M : List (Elt IL)) (i : Nat), (∀ k y, M[k]? = some y → L[i + k]? = some y) → ishape.RowAt w Q (M.map Elt.tree) g (i * 3) := by
      intro M
      induction M with
      | nil => intro i _; simp only [List.map_nil, Shape.RowAt]
      | cons y M ih =>
        intro i hM
        simp only [List.map_cons, Shape.RowAt]
        have hy := hM 0 y rfl
        refine ⟨?_, ?_⟩
        · simp only [Elt.tree, Shape.NodeAt]
          have hmem := List.mem_of_getElem? hy
          exact ⟨(h2 y hmem).1, y.u, fun j hj => cell i y hy j hj, Shape.Subs.keep (h2 y hmem).2 (Nat.le_refl _) (fun c _ h => h.1) fun _ _ _ => rfl⟩
        · have := ih (i + 1) fun k z hz => by
            have := hM (k + 1) z hz
            rwa [show i + 1 + k = i + (k + 1) by omega]
          rwa [show (i + 1) * 3 = i * 3 + ishape.k by rw [Nat.add_mul, Nat.one_mul]; rfl] at this
    have := row L 0 fun k y h => by simpa using h
    simpa using this

/-- An empty item. -/
def zelt : Elt IL := ⟨⟨[], false⟩, .slice none 0 0, []⟩
/-- The three cells of an item are written. -/
def put3 (w : World) (g o : Nat) (a b c : Value) : World := ((w.setCell ⟨g, o, none⟩ a).setCell ⟨g, o + 1, none⟩ b).setCell ⟨g, o + 2, none⟩ c
theorem put3_eq (w : World) (g o : Nat) (a b c : Value) : ((w.setCell ⟨g, o, none⟩ a).setCell ⟨g, o + 1, none⟩ b).setCell ⟨g, o + 2, none⟩ c = put3 w g o a b c := rfl
theorem put3_size {w : World} {g o : Nat} {a b c : Value} : (put3 w g o a b c).heap.size = w.heap.size := by simp [put3, World.setCell]
theorem put3_heap {w : World} {g o : Nat} {a b c : Value} (k : Nat) (h : k ≠ g) : (put3 w g o a b c).heap[k]? = w.heap[k]? := by
  unfold put3
  rw [Below.heap_setCell _ _ _ _ h, Below.heap_setCell _ _ _ _ h, Below.heap_setCell _ _ _ _ h]
theorem put3_upd (w : World) (g o : Nat) (a b c : Value) : Upd g w (put3 w g o a b c) := (((Upd.refl g w).set o a).set (o + 1) b).set (o + 2) c
/-- The last element of a row is written. -/
theorem OwnG.put3 {w : World} {B g cap : Nat} {L : List (Elt IL)} {z x : Elt IL} (h : OwnG itf 3 w B IT (.slice (some ⟨g, 0, none⟩) (L.length + 1) cap) (L ++ [z])) :
    OwnG itf 3 (put3 w g (L.length * 3) (.string (txt x.lab)) (.bool x.lab.list) x.u) B IT (.slice (some ⟨g, 0, none⟩) (L.length + 1) cap) (L ++ [x]) := by
  have e : ∀ y : Elt IL, (L ++ [y])[L.length]? = some y := fun y => by simp
  have es : ∀ y u : Elt IL, (L ++ [y]).set L.length u = L ++ [u] := fun y u => by simp
  have h1 := h.set itf_len (e z) (j := 0) (x := .string (txt x.lab)) (z := ⟨⟨x.lab.text, z.lab.list⟩, z.u, z.sub⟩) (by decide) rfl
  rw [es] at h1
  have h2 := h1.set itf_len (e _) (j := 1) (x := .bool x.lab.list) (z := ⟨⟨x.lab.text, x.lab.list⟩, z.u, z.sub⟩) (by decide) rfl
  rw [es] at h2
  have h3 := h2.set itf_len (e _) (j := 2) (x := x.u) (z := x) (by decide) rfl
  rw [es] at h3
  exact h3

/-- An item is put behind the others. -/
theorem OwnI.push {w w1 : World} {Q Qx : Nat → Prop} {v : Value} {L : List (Elt IL)} {x : Elt IL} {g cap : Nat} (h : OwnI w Q v L)
    (hrow : OwnG itf 3 w1 0 IT (.slice (some ⟨g, 0, none⟩) (L.length + 1) cap) (L ++ [zelt])) (hg : w.grownBy w1 v.ownBlock) (hat : v.ownBlock = some g ∨ w.heap.size ≤ g)
    (hx : ISubsQ w Qx x.u x.sub) (hxv : ∀ c, Qx c → v.ownBlock ≠ some c) (hxl : x.lab.text.length ≤ maxLen) :
    OwnI (put3 w1 g (L.length * 3) (.string (txt x.lab)) (.bool x.lab.list) x.u) (fun c => Q c ∨ Qx c ∨ c = g) (.slice (some ⟨g, 0, none⟩) (L.length + 1) cap) (L ++ [x]) := by
  have hgn : ∀ c, c < w.heap.size → v.ownBlock ≠ some c → c ≠ g := fun c hc hv e => by
    rcases hat with hat | hat
    · exact hv (by rw [hat, e])
    · omega
  have hsz : w.heap.size ≤ (put3 w1 g (L.length * 3) (.string (txt x.lab)) (.bool x.lab.list) x.u).heap.size := by rw [put3_size]; exact hg.size
  have hbl : ∀ c, c < w.heap.size → v.ownBlock ≠ some c → (put3 w1 g (L.length * 3) (.string (txt x.lab)) (.bool x.lab.list) x.u).heap[c]? = w.heap[c]? := fun c hc hv => by
    rw [put3_heap c (hgn c hc hv)]
    exact hg.block c hc (fun e => hv e.symm)
  refine ⟨hrow.put3, fun b hb => ?_, fun y hy => ?_⟩
  · simp [Value.ownBlock] at hb
    exact .inr (.inr hb.symm)
  · rcases List.mem_append.1 hy with hy | hy
    · refine ⟨(h.2.2 y hy).1, Shape.Subs.keep (h.2.2 y hy).2 hsz (fun c hc hq => ⟨.inl hq.1, ?_⟩) fun c hc hq => hbl c hc hq.2⟩
      intro e
      simp [Value.ownBlock] at e
      exact hgn c hc hq.2 e.symm
    · simp at hy
      subst hy
      refine ⟨hxl, Shape.Subs.keep hx hsz (fun c hc hq => ⟨.inr (.inl hq), ?_⟩) fun c hc hq => hbl c hc (hxv c hq)⟩
      intro e
      simp [Value.ownBlock] at e
      exact hgn c hc (hxv c hq) e.symm

/-- A list that is open: its slice, what it has, where it ends. -/
structure Fr where
  v : Value
  L : List (Elt IL)
  e : Nat
/-- The levels, the inmost first, none in a block that is to be avoided. -/
def Levs (w : World) : (Nat → Prop) → List Fr → Prop
  | _, [] => True
  | av, x :: xs => ∃ Q : Nat → Prop, (∀ c, Q c → ¬ av c) ∧ OwnI w Q x.v x.L ∧ Levs w (fun c => av c ∨ Q c) xs
theorem Levs.keep {w w' : World} (hs : w.heap.size ≤ w'.heap.size) : ∀ {st : List Fr} {av av' : Nat → Prop}, Levs w av st → (∀ c, c < w.heap.size → ¬ av c → w'.heap[c]? = w.heap[c]?) → (∀ c, c < w.heap.size → av' c → av c) → Levs w' av' st
  | [], _, _, _, _, _ => trivial
  | x :: xs, av, av', ⟨Q, hQ, h1, h2⟩, hk, ha => by
    refine ⟨fun c => Q c ∧ c < w.heap.size, fun c hc h => hQ c hc.1 (ha c hc.2 h), h1.keep hs (fun c hc hq => hk c hc (hQ c hq)) (fun c hc hq => ⟨hq, hc⟩), ?_⟩
    exact Levs.keep hs h2 (fun c hc hn => hk c hc fun h => hn (.inl h)) fun c hc h => h.elim (fun h => .inl (ha c hc h)) fun h => .inr h.1
theorem Levs.below {w w' : World} {st : List Fr} {av : Nat → Prop} (h : Levs w av st) (hb : Below w.heap.size w w') : Levs w' av st := h.keep hb.size (fun c hc _ => hb.block c hc) fun _ _ h => h
end Go.Proofs.Ytopfpfpefljkkaa
