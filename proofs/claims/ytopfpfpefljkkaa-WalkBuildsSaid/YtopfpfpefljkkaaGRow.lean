/- Rows of structs that a call makes itself: elements of any kind, k cells each. Append, set, cut. -/
import Derived.Test.YtopfpfpefljkkaaObj
import Derived.OwnWalk
import Derived.Deep.AppendLies
namespace Go.Proofs.Ytopfpfpefljkkaa
open Go.RowKit
set_option linter.unusedVariables false
set_option linter.unusedSimpArgs false

section
variable {β : Type} {f : β → List Value} {k : Nat}

/-- The slice v, made by the call, has the elements L. -/
def OwnG (f : β → List Value) (k : Nat) (w : World) (B : Nat) (t : TypeId) (v : Value) (L : List β) : Prop := w.ownsRow B t k v L.length (L.flatMap f)
theorem flat_length (hk : ∀ y, (f y).length = k) (L : List β) : (L.flatMap f).length = L.length * k := by
  induction L with
  | nil => simp
  | cons y L ih => rw [List.flatMap_cons, List.length_append, ih, hk, List.length_cons, Nat.add_mul]; omega
theorem flat_at (hk : ∀ y, (f y).length = k) {L : List β} {i : Nat} {y : β} (hy : L[i]? = some y) {j : Nat} (hj : j < k) : (L.flatMap f)[i * k + j]? = (f y)[j]? := by
  induction L generalizing i with
  | nil => simp at hy
  | cons z L ih =>
    rw [List.flatMap_cons]
    cases i with
    | zero =>
      simp at hy; subst hy
      rw [List.getElem?_append_left (by rw [hk]; omega)]; simp
    | succ i =>
      simp at hy
      rw [List.getElem?_append_right (by rw [hk, Nat.add_mul]; omega), hk, show (i + 1) * k + j - k = i * k + j by rw [Nat.add_mul]; omega]
      exact ih hy
theorem flat_set (hk : ∀ y, (f y).length = k) {L : List β} {i : Nat} {y z : β} (hy : L[i]? = some y) {j : Nat} {x : Value} (hj : j < k) (hz : f z = (f y).set j x) : (L.set i z).flatMap f = (L.flatMap f).set (i * k + j) x := by
  induction L generalizing i with
  | nil => simp at hy
  | cons a L ih =>
    cases i with
    | zero =>
      simp at hy; subst hy
      rw [List.set_cons_zero, List.flatMap_cons, List.flatMap_cons, hz, List.set_append_left _ _ (by rw [hk]; omega)]; simp
    | succ i =>
      simp at hy
      rw [List.set_cons_succ, List.flatMap_cons, List.flatMap_cons, ih hy, List.set_append_right _ _ (by rw [hk, Nat.add_mul]; omega), hk, show (i + 1) * k + j - k = i * k + j by rw [Nat.add_mul]; omega]
theorem flat_take (hk : ∀ y, (f y).length = k) (L : List β) (n : Nat) : (L.take n).flatMap f = (L.flatMap f).take (n * k) := by
  induction L generalizing n with
  | nil => simp
  | cons y L ih =>
    cases n with
    | zero => simp
    | succ n =>
      rw [List.take_succ_cons, List.flatMap_cons, List.flatMap_cons, ih, List.take_append, hk, List.take_of_length_le (l := f y) (by rw [hk, Nat.add_mul]; omega), show (n + 1) * k - k = n * k by rw [Nat.add_mul]; omega]

theorem OwnG.nil (w : World) (B : Nat) (t : TypeId) : OwnG f k w B t (.slice none 0 0) [] := World.ownsRow_nil w B t k
/-- Its form. -/
theorem OwnG.form {w : World} {B : Nat} {t : TypeId} {v : Value} {L : List β} (h : OwnG f k w B t v L) : (v = .slice none 0 0 ∧ L = []) ∨ ∃ g cap cur, v = .slice (some ⟨g, 0, none⟩) L.length cap ∧ B ≤ g ∧ Blk w g cur t ∧ L.length ≤ cap ∧ cap ≤ maxLen ∧ cur.size = cap * k ∧ cur.toList.take (L.length * k) = L.flatMap f := by
  rcases h.2 with ⟨rfl, h0⟩ | ⟨g, cap, cur, rfl, hb, hg, hcap, hm, hsz, htake⟩
  · exact .inl ⟨rfl, List.length_eq_zero_iff.1 h0⟩
  · exact .inr ⟨g, cap, cur, rfl, hb, hg, hcap, hm, hsz, htake⟩
theorem OwnG.of {w : World} {B : Nat} {t : TypeId} {L : List β} {g cap : Nat} {cur : Array Value} (hb : B ≤ g) (hg : Blk w g cur t) (hcap : L.length ≤ cap) (hm : cap ≤ maxLen) (hsz : cur.size = cap * k) (hk : ∀ y, (f y).length = k)
    (htake : cur.toList.take (L.length * k) = L.flatMap f) : OwnG f k w B t (.slice (some ⟨g, 0, none⟩) L.length cap) L :=
  ⟨flat_length hk L, .inr ⟨g, cap, cur, rfl, hb, hg, hcap, hm, hsz, htake⟩⟩
theorem OwnG.block {w : World} {B : Nat} {t : TypeId} {v : Value} {L : List β} (h : OwnG f k w B t v L) : ∀ b, v.ownBlock = some b → B ≤ b ∧ b < w.heap.size ∧ ∃ cs, Blk w b cs t := by
  rcases h.form with ⟨rfl, _⟩ | ⟨g, cap, cur, rfl, hb, hg, _⟩
  · intro b h; cases h
  · intro b h; cases h; exact ⟨hb, hg.lt, cur, hg⟩
theorem OwnG.slice {w : World} {B : Nat} {t : TypeId} {v : Value} {L : List β} (h : OwnG f k w B t v L) : ∃ oa cap, v = .slice oa L.length cap := by
  rcases h.form with ⟨rfl, rfl⟩ | ⟨g, cap, cur, rfl, _⟩
  · exact ⟨none, 0, rfl⟩
  · exact ⟨_, cap, rfl⟩
theorem OwnG.keep {w w' : World} {B : Nat} {t : TypeId} {v : Value} {L : List β} (h : OwnG f k w B t v L) (hk : ∀ b, v.ownBlock = some b → w'.heap[b]? = w.heap[b]?) : OwnG f k w' B t v L := by
  refine ⟨h.1, ?_⟩
  rcases h.2 with h2 | ⟨g, cap, cur, hv, hg, hh, r⟩
  · exact .inl h2
  · refine .inr ⟨g, cap, cur, hv, hg, ?_, r⟩
    rw [hk g (by rw [hv]; rfl)]; exact hh
theorem OwnG.below {w w' : World} {B : Nat} {t : TypeId} {v : Value} {L : List β} (h : OwnG f k w B t v L) (hb : Below w.heap.size w w') : OwnG f k w' B t v L :=
  h.keep fun b hb' => hb.block b (h.block b hb').2.1
/-- The cells of an element, which may be stored to. -/
theorem OwnG.at_ {w : World} {B : Nat} {t : TypeId} {oa : Option Addr} {n cap : Nat} {L : List β} (h : OwnG f k w B t (.slice oa n cap) L) (hk : ∀ y, (f y).length = k) {i : Nat} {y : β} (hy : L[i]? = some y) :
    ∃ g, oa = some ⟨g, 0, none⟩ ∧ B ≤ g ∧ g < w.heap.size ∧ n = L.length ∧ n ≤ cap ∧ (∀ j, j < k → w.cell? ⟨g, i * k + j, none⟩ = (f y)[j]?) ∧ ∀ j, w.frozen? ⟨g, j, none⟩ = false := by
  obtain ⟨hi, _⟩ := List.getElem?_eq_some_iff.1 hy
  rcases h.form with ⟨h1, rfl⟩ | ⟨g, cap', cur, hv, hb, hg, hcap, hm, hsz, htake⟩
  · simp at hi
  · cases hv
    refine ⟨g, rfl, hb, hg.lt, rfl, hcap, fun j hj => ?_, fun j => hg.free j⟩
    rw [hg.cell, ← flat_at hk hy hj, ← htake, List.getElem?_take_of_lt]
    · simp
    · have : (i + 1) * k ≤ L.length * k := Nat.mul_le_mul_right _ (by omega)
      rw [Nat.add_mul] at this
      omega
/-- A cell of an element is stored to. -/
theorem OwnG.set {w : World} {B : Nat} {t : TypeId} {g n cap : Nat} {L : List β} (h : OwnG f k w B t (.slice (some ⟨g, 0, none⟩) n cap) L) (hk : ∀ y, (f y).length = k) {i : Nat} {y z : β} (hy : L[i]? = some y) {j : Nat} {x : Value} (hj : j < k) (hz : f z = (f y).set j x) :
    OwnG f k (w.setCell ⟨g, i * k + j, none⟩ x) B t (.slice (some ⟨g, 0, none⟩) n cap) (L.set i z) := by
  rcases h.form with ⟨h1, _⟩ | ⟨g', cap', cur, hv, hb, hg, hcap, hm, hsz, htake⟩
  · cases h1
  · cases hv
    have := OwnG.of (f := f) (k := k) (L := L.set i z) hb (hg.set (i * k + j) x) (by simpa using hcap) hm (by simpa using hsz) hk (by
      rw [flat_set hk hy hj hz, ← htake, Array.toList_setIfInBounds, List.take_set, List.length_set])
    rw [List.length_set] at this
    exact this
/-- It is cut behind its first n. -/
theorem OwnG.cut {w : World} {B : Nat} {t : TypeId} {g n cap : Nat} {L : List β} (h : OwnG f k w B t (.slice (some ⟨g, 0, none⟩) n cap) L) (hk : ∀ y, (f y).length = k) {m : Nat} (hm : m ≤ L.length) :
    OwnG f k w B t (.slice (some ⟨g, 0, none⟩) m cap) (L.take m) := by
  rcases h.form with ⟨h1, _⟩ | ⟨g', cap', cur, hv, hb, hg, hcap, hml, hsz, htake⟩
  · cases h1
  · cases hv
    have hl : (L.take m).length = m := by rw [List.length_take]; omega
    have := OwnG.of (f := f) (k := k) (L := L.take m) hb hg (by omega) hml hsz hk (by
      rw [flat_take hk, ← htake, List.take_take, hl, Nat.min_eq_left (Nat.mul_le_mul_right _ hm)])
    rw [hl] at this
    exact this
/-- The news of an append, out of a block that is known whole. -/
theorem blk_news {w : World} {b : Nat} {cs : Array Value} {t : TypeId} (h : Blk w b cs t) {l : List Value} (hl : cs.toList = l) : ∀ j u, l[j]? = some u → w.cell? ((⟨b, 0, none⟩ : Addr).add j) = some u := by
  subst hl
  exact World.news_of_block h
end
/-- What append wants of the element's type. -/
structure RowTypes (P : Program) (st t : TypeId) (k : Nat) : Prop where
  ht : P.underlying st = some (.slice t)
  hi : ∃ z bytes i, P.info? t = some i ∧ i.zero = some z ∧ i.size = k ∧ i.bytes = bytes ∧ bytes ≤ 1000 ∧ z.cells.size = k
  pos : 0 < k
/-- 'append(l, x)' of one element, whose cells lie in a block that is known. -/
theorem run_append_g {β : Type} {f : β → List Value} {k : Nat} {P : Program} {st t ty : TypeId} (T : RowTypes P st t k) (hk : ∀ y, (f y).length = k) {w : World} {B b c : Nat} {v : Value} {L : List β} {x : β} {cs : Array Value} {t' : TypeId} (hown : OwnG f k w B t v L)
    (hb : Blk w b cs t') (hcs : cs.toList = f x) (h1 : ∀ u ∈ f x, u.oneCell' = true) (hlen : L.length ≤ 1000000) (hB : B ≤ w.heap.size) :
    ∃ g cap w', (Builtin.append_ #[st, st] ty #[v, .slice (some ⟨b, 0, none⟩) 1 c]).run P w = .ok (.slice (some ⟨g, 0, none⟩) (L.length + 1) cap) w' ∧
      OwnG f k w' B t (.slice (some ⟨g, 0, none⟩) (L.length + 1) cap) (L ++ [x]) ∧ w.grownBy w' v.ownBlock ∧ (v.ownBlock = some g ∨ g = w.heap.size) ∧ g < w'.heap.size ∧ B ≤ g := by
  obtain ⟨z, bytes, i, hi, hz, hsz, hby, hle, hzs⟩ := T.hi
  obtain ⟨g, cap, w', hr, h2, h3, h4, h5⟩ := run_append_lies w st ty B t i z k bytes T.ht hi hz hsz hby hzs T.pos v L.length (L.flatMap f) hown ⟨b, 0, none⟩ 1 c (f x) (by rw [hk]; omega) (blk_news hb hcs) h1 (by decide) (by unfold maxLen; omega)
    (Nat.le_trans (Nat.mul_le_mul_left _ hle) (by omega)) hB _ rfl
  have h2' : OwnG f k w' B t (.slice (some ⟨g, 0, none⟩) (L.length + 1) cap) (L ++ [x]) := by
    unfold OwnG
    rw [List.length_append, List.flatMap_append]
    simpa using h2
  exact ⟨g, cap, w', hr, h2', h3, h4, h5, (h2'.block g rfl).1⟩
end Go.Proofs.Ytopfpfpefljkkaa
