/- Trees whose nodes have some values and a slice of the trees within: what they are, how they lie in memory, how an argument is opened. -/
import Derived.WalkKit
import Derived.Deep.Slices
import Derived.Deep.Fields
import Derived.ChangeSame
import Derived.Handy
namespace Go.Proofs.Ytopfpfpefljkkaa
open Go.RowKit Go.ChangeShapes Go.WideShapes Go.Deep
set_option linter.unusedVariables false

/-- A tree. -/
inductive Rose (α : Type) where
  | node (a : α) (sub : List (Rose α))

section
variable {α : Type}
mutual
/-- How many nodes. -/
def Rose.count : Rose α → Nat
  | .node _ s => 1 + Rose.countL s
def Rose.countL : List (Rose α) → Nat
  | [] => 0
  | x :: xs => Rose.count x + Rose.countL xs
end
mutual
/-- How deep. -/
def Rose.deep : Rose α → Nat
  | .node _ s => Rose.deepL s + 1
def Rose.deepL : List (Rose α) → Nat
  | [] => 0
  | x :: xs => max (Rose.deep x) (Rose.deepL xs)
end
mutual
/-- Of so many nodes that may be looked at, how many are left. -/
def Rose.room : Rose α → Nat → Nat
  | .node _ s, n => Rose.roomL s (n - 1)
def Rose.roomL : List (Rose α) → Nat → Nat
  | [], n => n
  | x :: xs, n => if n = 0 then 0 else Rose.roomL xs (Rose.room x n)
end
mutual
/-- A predicate of the labels, all over. -/
def Rose.all (p : α → List (Rose α) → Bool) : Rose α → Bool
  | .node a s => p a s && Rose.allL p s
def Rose.allL (p : α → List (Rose α) → Bool) : List (Rose α) → Bool
  | [] => true
  | x :: xs => Rose.all p x && Rose.allL p xs
end
mutual
/-- Are two alike, by what their nodes bear? -/
def Rose.same (eq : α → α → Bool) : Rose α → Rose α → Bool
  | .node a s, .node b t => eq a b && Rose.sameL eq s t
def Rose.sameL (eq : α → α → Bool) : List (Rose α) → List (Rose α) → Bool
  | [], [] => true
  | x :: xs, y :: ys => Rose.same eq x y && Rose.sameL eq xs ys
  | _, _ => false
end
def Rose.lab : Rose α → α | .node a _ => a
def Rose.sub : Rose α → List (Rose α) | .node _ s => s
@[simp] theorem Rose.lab_node (a : α) (s : List (Rose α)) : (Rose.node a s).lab = a := rfl
@[simp] theorem Rose.sub_node (a : α) (s : List (Rose α)) : (Rose.node a s).sub = s := rfl
theorem Rose.eta (x : Rose α) : .node x.lab x.sub = x := by cases x; rfl

mutual
theorem Rose.indA {P : Rose α → Prop} (h : ∀ a s, (∀ x, x ∈ s → P x) → P (.node a s)) : ∀ x, P x
  | .node a s => h a s (Rose.indB h s)
theorem Rose.indB {P : Rose α → Prop} (h : ∀ a s, (∀ x, x ∈ s → P x) → P (.node a s)) : ∀ (s : List (Rose α)) (x : Rose α), x ∈ s → P x
  | [], _, hx => by cases hx
  | y :: ys, x, hx => by
    rcases List.mem_cons.1 hx with h' | h'
    · exact h' ▸ Rose.indA h y
    · exact Rose.indB h ys x h'
end
/-- Induction: a tree, by those within it. -/
theorem Rose.ind {P : Rose α → Prop} (h : ∀ a s, (∀ x, x ∈ s → P x) → P (.node a s)) (x : Rose α) : P x := Rose.indA h x

theorem Rose.count_pos (x : Rose α) : 0 < x.count := by cases x; simp only [Rose.count]; omega
theorem Rose.deep_pos (x : Rose α) : 0 < x.deep := by cases x; simp only [Rose.deep]; omega
theorem Rose.countL_append (s t : List (Rose α)) : Rose.countL (s ++ t) = Rose.countL s + Rose.countL t := by
  induction s with
  | nil => simp [Rose.countL]
  | cons x xs ih => simp [Rose.countL, ih, Nat.add_assoc]
theorem Rose.countL_mem {s : List (Rose α)} {x : Rose α} (h : x ∈ s) : x.count ≤ Rose.countL s := by
  induction s with
  | nil => cases h
  | cons y ys ih =>
    simp only [Rose.countL]
    rcases List.mem_cons.1 h with h' | h'
    · subst h'; omega
    · have := ih h'; omega
theorem Rose.countL_take {s : List (Rose α)} {i : Nat} {x : Rose α} (h : s[i]? = some x) : Rose.countL (s.take (i + 1)) = Rose.countL (s.take i) + x.count := by
  rw [List.take_add_one, h]
  simp [Rose.countL_append, Rose.countL]
theorem Rose.countL_take_le (s : List (Rose α)) (i : Nat) : Rose.countL (s.take i) ≤ Rose.countL s := by
  conv => rhs; rw [← List.take_append_drop i s, Rose.countL_append]
  omega
theorem Rose.length_le_countL (s : List (Rose α)) : s.length ≤ Rose.countL s := by
  induction s with
  | nil => simp
  | cons x xs ih => simp only [Rose.countL, List.length_cons]; have := Rose.count_pos x; omega
theorem Rose.deepL_append (s t : List (Rose α)) : Rose.deepL (s ++ t) = max (Rose.deepL s) (Rose.deepL t) := by
  induction s with
  | nil => simp [Rose.deepL]
  | cons x xs ih => simp [Rose.deepL, ih, Nat.max_assoc]
theorem Rose.deepL_take {s : List (Rose α)} {i : Nat} {x : Rose α} (h : s[i]? = some x) : Rose.deepL (s.take (i + 1)) = max (Rose.deepL (s.take i)) x.deep := by
  rw [List.take_add_one, h]
  simp [Rose.deepL_append, Rose.deepL]
theorem Rose.allL_append (p : α → List (Rose α) → Bool) (s t : List (Rose α)) : Rose.allL p (s ++ t) = (Rose.allL p s && Rose.allL p t) := by
  induction s with
  | nil => simp [Rose.allL]
  | cons x xs ih => simp [Rose.allL, ih, Bool.and_assoc]
theorem Rose.allL_take {p : α → List (Rose α) → Bool} {s : List (Rose α)} {i : Nat} {x : Rose α} (h : s[i]? = some x) : Rose.allL p (s.take (i + 1)) = (Rose.allL p (s.take i) && x.all p) := by
  rw [List.take_add_one, h]
  simp [Rose.allL_append, Rose.allL]
theorem Rose.allL_false {p : α → List (Rose α) → Bool} {s : List (Rose α)} {i : Nat} {x : Rose α} (h : s[i]? = some x) (hx : x.all p = false) : Rose.allL p s = false := by
  induction s generalizing i with
  | nil => simp at h
  | cons y ys ih =>
    cases i with
    | zero => simp at h; subst h; simp [Rose.allL, hx]
    | succ i => simp at h; simp [Rose.allL, ih h]
theorem Rose.sameL_length {eq : α → α → Bool} {s t : List (Rose α)} (h : s.length ≠ t.length) : Rose.sameL eq s t = false := by
  induction s generalizing t with
  | nil => cases t <;> simp_all [Rose.sameL]
  | cons x xs ih => cases t with
    | nil => simp [Rose.sameL]
    | cons y ys => simp only [Rose.sameL]; rw [ih (by simpa using h)]; simp
theorem Rose.sameL_take {eq : α → α → Bool} {s t : List (Rose α)} {i : Nat} {x y : Rose α} (hx : s[i]? = some x) (hy : t[i]? = some y) :
    Rose.sameL eq (s.take (i + 1)) (t.take (i + 1)) = (Rose.sameL eq (s.take i) (t.take i) && x.same eq y) := by
  induction s generalizing t i with
  | nil => simp at hx
  | cons a us ih =>
    cases t with
    | nil => simp at hy
    | cons b bs =>
      cases i with
      | zero => simp at hx hy; subst hx; subst hy; simp [Rose.sameL]
      | succ i =>
        simp at hx hy
        simp only [List.take_succ_cons, Rose.sameL]
        rw [ih hx hy, Bool.and_assoc]
theorem Rose.sameL_false {eq : α → α → Bool} {s t : List (Rose α)} {i : Nat} {x y : Rose α} (hx : s[i]? = some x) (hy : t[i]? = some y) (h : x.same eq y = false) : Rose.sameL eq s t = false := by
  induction s generalizing t i with
  | nil => simp at hx
  | cons a us ih =>
    cases t with
    | nil => simp at hy
    | cons b bs =>
      cases i with
      | zero => simp at hx hy; subst hx; subst hy; simp [Rose.sameL, h]
      | succ i =>
        simp at hx hy
        simp [Rose.sameL, ih hx hy]

mutual
theorem Rose.room_eq (x : Rose α) (n : Nat) : x.room n = n - x.count := by
  cases x with
  | node a s => simp only [Rose.room, Rose.count]; rw [Rose.roomL_eq s]; omega
theorem Rose.roomL_eq (s : List (Rose α)) (n : Nat) : Rose.roomL s n = n - Rose.countL s := by
  cases s with
  | nil => simp [Rose.roomL, Rose.countL]
  | cons x xs =>
    simp only [Rose.roomL, Rose.countL]
    rw [Rose.roomL_eq xs, Rose.room_eq x]
    split <;> omega
end

/-! ### In memory -/

/-- What the cells of a node are: by what it bears, and its slice. -/
structure Shape (α : Type) where
  k : Nat
  cells : α → Value → List Value
  ok : α → Prop
  hk : ∀ a v, (cells a v).length = k

/-- A slice of n elements, whose row meets R, in a block of Q. -/
def SliceOf (w : World) (Q : Nat → Prop) (v : Value) (n : Nat) (R : Nat → Nat → Prop) : Prop :=
  ∃ oa cap, v = .slice oa n cap ∧ n ≤ cap ∧ cap ≤ maxLen ∧ (0 < n → ∃ b off, oa = some ⟨b, off, none⟩ ∧ b < w.heap.size ∧ Q b ∧ R b off)

mutual
/-- The tree's cells lie at a place. -/
def Shape.NodeAt (S : Shape α) (w : World) (Q : Nat → Prop) : Rose α → Nat → Nat → Prop
  | .node a s, b, off => S.ok a ∧ ∃ v, (∀ j, j < S.k → w.cell? ⟨b, off + j, none⟩ = (S.cells a v)[j]?) ∧ SliceOf w Q v s.length (Shape.RowAt S w Q s)
def Shape.RowAt (S : Shape α) (w : World) (Q : Nat → Prop) : List (Rose α) → Nat → Nat → Prop
  | [], _, _ => True
  | x :: xs, b, off => Shape.NodeAt S w Q x b off ∧ Shape.RowAt S w Q xs b (off + S.k)
end
/-- The slice v has these trees. -/
def Shape.Subs (S : Shape α) (w : World) (Q : Nat → Prop) (v : Value) (s : List (Rose α)) : Prop := SliceOf w Q v s.length (Shape.RowAt S w Q s)

theorem SliceOf.mono {w w' : World} {Q Q' : Nat → Prop} {v : Value} {n : Nat} {R R' : Nat → Nat → Prop} (h : SliceOf w Q v n R) (hs : w.heap.size ≤ w'.heap.size) (hQ : ∀ b, b < w.heap.size → Q b → Q' b)
    (hR : ∀ b o, Q b → b < w.heap.size → R b o → R' b o) : SliceOf w' Q' v n R' := by
  obtain ⟨oa, cap, hv, h1, h2, h3⟩ := h
  refine ⟨oa, cap, hv, h1, h2, fun hn => ?_⟩
  obtain ⟨b, off, e, hb, hq, hr⟩ := h3 hn
  exact ⟨b, off, e, by omega, hQ b hb hq, hR b off hq hb hr⟩

mutual
theorem Shape.NodeAt.keep {S : Shape α} {w w' : World} {Q Q' : Nat → Prop} (hs : w.heap.size ≤ w'.heap.size) (hQ : ∀ b, b < w.heap.size → Q b → Q' b) (hk : ∀ b, b < w.heap.size → Q b → w'.heap[b]? = w.heap[b]?) :
    ∀ (x : Rose α) (b off : Nat), b < w.heap.size → Q b → S.NodeAt w Q x b off → S.NodeAt w' Q' x b off
  | .node a s, b, off, hb, hq, h => by
    simp only [Shape.NodeAt] at h ⊢
    obtain ⟨ho, v, hc, hsub⟩ := h
    refine ⟨ho, v, fun j hj => ?_, hsub.mono hs hQ fun b' o' q' hb' h' => Shape.RowAt.keep hs hQ hk s b' o' hb' q' h'⟩
    rw [World.cell?_of_block (w := w) (a := ⟨b, off + j, none⟩) (hk b hb hq)]
    exact hc j hj
theorem Shape.RowAt.keep {S : Shape α} {w w' : World} {Q Q' : Nat → Prop} (hs : w.heap.size ≤ w'.heap.size) (hQ : ∀ b, b < w.heap.size → Q b → Q' b) (hk : ∀ b, b < w.heap.size → Q b → w'.heap[b]? = w.heap[b]?) :
    ∀ (s : List (Rose α)) (b off : Nat), b < w.heap.size → Q b → S.RowAt w Q s b off → S.RowAt w' Q' s b off
  | [], _, _, _, _, _ => by simp only [Shape.RowAt]
  | x :: xs, b, off, hb, hq, h => by
    simp only [Shape.RowAt] at h ⊢
    exact ⟨Shape.NodeAt.keep hs hQ hk x b off hb hq h.1, Shape.RowAt.keep hs hQ hk xs b _ hb hq h.2⟩
end

theorem Shape.Subs.keep {S : Shape α} {w w' : World} {Q Q' : Nat → Prop} {v : Value} {s : List (Rose α)} (h : S.Subs w Q v s) (hs : w.heap.size ≤ w'.heap.size) (hQ : ∀ b, b < w.heap.size → Q b → Q' b)
    (hk : ∀ b, b < w.heap.size → Q b → w'.heap[b]? = w.heap[b]?) : S.Subs w' Q' v s :=
  SliceOf.mono h hs hQ fun b o q hb hr => Shape.RowAt.keep hs hQ hk s b o hb q hr

theorem Shape.Subs.below {S : Shape α} {w w' : World} {Q : Nat → Prop} {v : Value} {s : List (Rose α)} (h : S.Subs w Q v s) (hb : Below w.heap.size w w') : S.Subs w' Q v s :=
  h.keep hb.size (fun _ _ h => h) fun b hl _ => hb.block b hl

theorem Shape.RowAt.get {S : Shape α} {w : World} {Q : Nat → Prop} : ∀ {s : List (Rose α)} {b off : Nat}, S.RowAt w Q s b off → ∀ {i : Nat} {x : Rose α}, s[i]? = some x → S.NodeAt w Q x b (off + i * S.k)
  | [], _, _, _, _, _, hx => by simp at hx
  | y :: ys, b, off, h, i, x, hx => by
    simp only [Shape.RowAt] at h
    cases i with
    | zero => simp at hx; subst hx; simpa using h.1
    | succ i =>
      have := Shape.RowAt.get h.2 (i := i) (x := x) (by simpa using hx)
      rwa [show off + S.k + i * S.k = off + (i + 1) * S.k by rw [Nat.add_mul]; omega] at this

theorem Shape.RowAt.snoc {S : Shape α} {w : World} {Q : Nat → Prop} : ∀ {s : List (Rose α)} {b off : Nat} {x : Rose α}, S.RowAt w Q s b off → S.NodeAt w Q x b (off + s.length * S.k) → S.RowAt w Q (s ++ [x]) b off
  | [], b, off, x, _, hx => by simp only [List.nil_append, Shape.RowAt]; exact ⟨by simpa using hx, trivial⟩
  | y :: ys, b, off, x, h, hx => by
    simp only [List.cons_append, Shape.RowAt] at h ⊢
    refine ⟨h.1, Shape.RowAt.snoc h.2 ?_⟩
    rwa [show off + S.k + ys.length * S.k = off + (y :: ys).length * S.k by simp only [List.length_cons]; rw [Nat.add_mul]; omega]

/-- An element of a slice: its cells, and the slice of those within it. -/
theorem Shape.Subs.get {S : Shape α} {w : World} {Q : Nat → Prop} {v : Value} {s : List (Rose α)} (h : S.Subs w Q v s) :
    ∃ oa cap, v = .slice oa s.length cap ∧ s.length ≤ cap ∧ cap ≤ maxLen ∧ ∀ i x, s[i]? = some x → ∃ b off u, oa = some ⟨b, off, none⟩ ∧ b < w.heap.size ∧ Q b ∧ S.ok x.lab ∧
      (∀ j, j < S.k → w.cell? ⟨b, off + (i * S.k + j), none⟩ = (S.cells x.lab u)[j]?) ∧ S.Subs w Q u x.sub := by
  obtain ⟨oa, cap, hv, h1, h2, h3⟩ := h
  refine ⟨oa, cap, hv, h1, h2, fun i x hx => ?_⟩
  obtain ⟨hi, _⟩ := List.getElem?_eq_some_iff.1 hx
  obtain ⟨b, off, e, hb, hq, hr⟩ := h3 (by omega)
  have := hr.get hx
  cases x with
  | node a s' =>
    simp only [Shape.NodeAt] at this
    obtain ⟨ho, u, hc, hu⟩ := this
    exact ⟨b, off, u, e, hb, hq, ho, fun j hj => by rw [← Nat.add_assoc]; exact hc j hj, hu⟩

/-! ### An argument is opened -/

/-- The program's types: t a node's, st the slice's. -/
structure Opens (S : Shape α) (P : Program) (t st : TypeId) (H : Type) (enc : TypeId × Value → H) : Prop where
  hst : P.underlying st = some (.slice t)
  hk : P.cellsOf t = S.k
  pos : 0 < S.k
  hop : ∀ (w : World) (base : Nat) (spare : Nat → Bool) (held : Bool) (fuel : Nat) (cs : List Value) (x : DataW H × List MemPlace), DataW.trod enc P w base spare held fuel t cs = some x →
    ∃ a v n y, n < fuel ∧ cs = S.cells a v ∧ S.ok a ∧ DataW.trod enc P w base spare held n st [v] = some y

theorem Opens.subs {S : Shape α} {P : Program} {t st : TypeId} {H : Type} {enc : TypeId × Value → H} (O : Opens S P t st H enc) {w : World} {base : Nat} {spare : Nat → Bool} {held : Bool} :
    ∀ (fuel : Nat) (v : Value) (x : DataW H × List MemPlace), DataW.trod enc P w base spare held fuel st [v] = some x → ∃ s, S.Subs w (fun _ => True) v s := by
  intro fuel
  induction fuel using Nat.strongRecOn with
  | _ fuel ih =>
    intro v x h
    rcases DataW.trod_slice O.hst h with ⟨h0, _⟩ | ⟨a, len, cap, elems, rest, n, hn, hcs, _, hb, hl, hm, hlen, hel, _, _⟩
    · simp at h0
      subst h0
      exact ⟨[], none, 0, rfl, Nat.le_refl _, Nat.zero_le _, fun h => absurd h (by simp)⟩
    · simp at hcs
      subst hcs
      have hcell : ∀ i, i < len → ∃ cs', w.cells? base (a.add (i * P.cellsOf t)) (P.cellsOf t) = some cs' := by
        intro i hi
        have h1 := hel i hi
        have h2 : elems[i]? = some (elems[i]'(by omega)) := List.getElem?_eq_getElem (by omega)
        rw [h2, Option.bind_eq_some_iff] at h1
        obtain ⟨cs', hc, _⟩ := h1
        exact ⟨cs', hc⟩
      have node : ∀ i, i < len → ∃ y : Rose α, ∃ b off, a = ⟨b, off, none⟩ ∧ b < w.heap.size ∧ S.NodeAt w (fun _ => True) y b (off + i * S.k) := by
        intro i hi
        obtain ⟨c0, hc0⟩ := hcell 0 (by omega)
        have h1 := hel i hi
        have h2 : elems[i]? = some (elems[i]'(by omega)) := List.getElem?_eq_getElem (by omega)
        rw [h2, Option.bind_eq_some_iff] at h1
        obtain ⟨cs', hc, ht⟩ := h1
        obtain ⟨lab, u, m, y, hm', hcs', hok, hu⟩ := O.hop _ _ _ _ _ _ _ ht
        obtain ⟨s', hs'⟩ := ih m (by omega) u y hu
        obtain ⟨_, hcl, hat⟩ := World.cells?_some hc
        rw [O.hk] at hat hcl
        obtain ⟨b, off, spot⟩ := a
        obtain ⟨_, hcl0, hat0⟩ := World.cells?_some hc0
        rw [O.hk] at hat0 hcl0
        have h0 := hat0 0 O.pos
        have hpos0 : 0 < c0.length := by rw [hcl0]; exact O.pos
        rw [List.getElem?_eq_getElem hpos0] at h0
        have hspot : spot = none := by
          have := World.cell?_spot h0
          simpa [Addr.add] using this
        subst hspot
        have hadd : ∀ k, (⟨b, off, none⟩ : Addr).add k = ⟨b, off + k, none⟩ := fun k => by unfold Addr.add; split <;> simp_all
        have hbl : b < w.heap.size := by
          rcases Nat.lt_or_ge b w.heap.size with h' | h'
          · exact h'
          · rw [hadd] at h0
            simp [World.cell?, hadd, Array.getElem?_eq_none h'] at h0
        refine ⟨.node lab s', b, off, rfl, hbl, ?_⟩
        simp only [Shape.NodeAt]
        refine ⟨hok, u, fun j hj => ?_, hs'⟩
        have := hat j hj
        rw [Go.Deep.add_add, hadd, hcs', ← Nat.add_assoc] at this
        exact this
      obtain ⟨b, off, spot⟩ := a
      by_cases hz : len = 0
      · subst hz
        exact ⟨[], some ⟨b, off, spot⟩, cap, rfl, hl, hm, fun h => absurd h (by simp)⟩
      · obtain ⟨_, b', off', e, hbl, _⟩ := node 0 (by omega)
        cases e
        have row : ∀ k o', (∀ i, i < k → ∃ y : Rose α, S.NodeAt w (fun _ => True) y b (o' + i * S.k)) → ∃ s : List (Rose α), s.length = k ∧ S.RowAt w (fun _ => True) s b o' := by
          intro k
          induction k with
          | zero => intro o' _; exact ⟨[], rfl, by simp only [Shape.RowAt]⟩
          | succ k ihk =>
            intro o' hh
            obtain ⟨y, hy⟩ := hh 0 (by omega)
            obtain ⟨s, hs, hr⟩ := ihk (o' + S.k) fun i hi => by
              obtain ⟨z, hz'⟩ := hh (i + 1) (by omega)
              exact ⟨z, by rwa [show o' + S.k + i * S.k = o' + (i + 1) * S.k by rw [Nat.add_mul]; omega]⟩
            exact ⟨y :: s, by simp [hs], by simp only [Shape.RowAt]; exact ⟨by simpa using hy, hr⟩⟩
        obtain ⟨s, hs, hr⟩ := row len off fun i hi => by
          obtain ⟨y, b2, o2, e2, _, hy⟩ := node i hi
          cases e2
          exact ⟨y, hy⟩
        exact ⟨s, some ⟨b, off, none⟩, cap, by rw [hs], by omega, hm, fun _ => ⟨b, off, rfl, hbl, trivial, hr⟩⟩
end
end Go.Proofs.Ytopfpfpefljkkaa
