/- An item in memory: its cells. -/
import Derived.Test.YtopfpfpefljkkaaRows
import Derived.Test.YtopfpfpefljkkaaRlpPlain
import Derived.Test.YtopfpfpefljkkaaOwn
import Derived.Test.YtopfpfpefljkkaaObj
import Derived.Test.YtopfpfpefljkkaaInv
import Derived.WalkSpells
import Derived.OwnWalk
import Derived.IntWalk
import Derived.Lib.Strings
import Derived.Deep.CutBlock
import Derived.Deep.DeepCutAuto
namespace Go.Proofs.Ytopfpfpefljkkaa
open Go.RowKit
set_option linter.unusedVariables false

abbrev IT : TypeId := 25
def anyI : Nat → Prop := fun _ => True
/-- The slice v of items, in blocks of Q. -/
abbrev ISubsQ (w : World) (Q : Nat → Prop) (v : Value) (s : List (Rose IL)) : Prop := ishape.Subs w Q v s
abbrev ISubs (w : World) (v : Value) (s : List (Rose IL)) : Prop := ishape.Subs w anyI v s
/-- The text of an item, as the program has it. -/
def txt (a : IL) : ByteArray := ⟨a.text.toArray⟩
theorem txt_list (a : IL) : (txt a).data.toList = a.text := rfl
theorem txt_size (a : IL) : (txt a).size = a.text.length := List.size_toArray
/-- The cells of an item. -/
def icells (a : IL) (v : Value) : Array Value := #[.string (txt a), .bool a.list, v]

theorem ISubsQ.slice {w : World} {Q : Nat → Prop} {v : Value} {s : List (Rose IL)} (h : ISubsQ w Q v s) : ∃ oa cap, v = .slice oa s.length cap ∧ s.length ≤ cap ∧ cap ≤ maxLen := by
  obtain ⟨oa, cap, h1, h2, h3, _⟩ := h
  exact ⟨oa, cap, h1, h2, h3⟩
theorem ISubsQ.any {w : World} {Q : Nat → Prop} {v : Value} {s : List (Rose IL)} (h : ISubsQ w Q v s) : ISubs w v s :=
  Shape.Subs.keep h (Nat.le_refl _) (fun _ _ _ => trivial) fun _ _ _ => rfl
/-- The cells of an element. -/
theorem ISubsQ.at_ {w : World} {Q : Nat → Prop} {oa : Option Addr} {n cap : Nat} {s : List (Rose IL)} (h : ISubsQ w Q (.slice oa n cap) s) {i : Nat} {x : Rose IL} (hx : s[i]? = some x) :
    ∃ b off u, oa = some ⟨b, off, none⟩ ∧ b < w.heap.size ∧ Q b ∧ w.cell? ⟨b, off + i * 3, none⟩ = some (.string (txt x.lab)) ∧ w.cell? ⟨b, off + i * 3 + 1, none⟩ = some (.bool x.lab.list) ∧
      w.cell? ⟨b, off + i * 3 + 2, none⟩ = some u ∧ ISubsQ w Q u x.sub ∧ x.lab.text.length ≤ maxLen := by
  obtain ⟨oa', cap', hv, h1, h2, h3⟩ := Shape.Subs.get h
  cases hv
  obtain ⟨b, off, u, e, hb, hq, ho, hc, hs⟩ := h3 i x hx
  exact ⟨b, off, u, e, hb, hq, by simpa [ishape, txt, Nat.add_assoc] using hc 0 (by decide), by simpa [ishape, Nat.add_assoc] using hc 1 (by decide), by simpa [ishape, Nat.add_assoc] using hc 2 (by decide), hs, ho⟩

/-- What lies in the new block of an item that is handed over. -/
theorem box_item {w : World} {t : TypeId} {T : ByteArray} {l : Bool} {v : Value} {Q : Nat → Prop} {s : List (Rose IL)} (h : ISubsQ w Q v s) :
    ∀ W, w.alloc (.cells #[.string T, .bool l, v] t) = W → Below w.heap.size w W ∧ ISubsQ W Q v s ∧ W.heap.size = w.heap.size + 1 ∧
      W.cell? ⟨w.heap.size, 0, none⟩ = some (.string T) ∧ W.cell? ⟨w.heap.size, 1, none⟩ = some (.bool l) ∧ W.cell? ⟨w.heap.size, 2, none⟩ = some v ∧ Blk W w.heap.size #[.string T, .bool l, v] t := by
  rintro W rfl
  have hal := (Below.refl w.heap.size w).alloc (Nat.le_refl _) (.cells #[.string T, .bool l, v] t)
  have hB := Blk.new w #[.string T, .bool l, v] t
  exact ⟨hal, Shape.Subs.below h hal, by simp, hB.cell 0, hB.cell 1, hB.cell 2, hB⟩
/-- What lies in the two new blocks of items that are handed over. -/
theorem box_items {w : World} {t : TypeId} {T T2 : ByteArray} {l l2 : Bool} {v v2 : Value} {s s2 : List (Rose IL)} (h : ISubs w v s) (h2 : ISubs w v2 s2) :
    ∀ W, (w.alloc (.cells #[.string T, .bool l, v] t)).alloc (.cells #[.string T2, .bool l2, v2] t) = W → Below w.heap.size w W ∧ ISubs W v s ∧ ISubs W v2 s2 ∧ W.heap.size = w.heap.size + 2 ∧
      (W.cell? ⟨w.heap.size, 0, none⟩ = some (.string T) ∧ W.cell? ⟨w.heap.size, 1, none⟩ = some (.bool l) ∧ W.cell? ⟨w.heap.size, 2, none⟩ = some v) ∧
      (W.cell? ⟨w.heap.size + 1, 0, none⟩ = some (.string T2) ∧ W.cell? ⟨w.heap.size + 1, 1, none⟩ = some (.bool l2) ∧ W.cell? ⟨w.heap.size + 1, 2, none⟩ = some v2) := by
  rintro W rfl
  obtain ⟨a1, a2, a3, a4, a5, a6, _⟩ := box_item (T := T) (l := l) (t := t) h _ rfl
  obtain ⟨b1, b2, b3, b4, b5, b6, _⟩ := box_item (w := w.alloc (.cells #[.string T, .bool l, v] t)) (T := T2) (l := l2) (t := t) (Shape.Subs.below h2 a1) _ rfl
  rw [a3] at b1 b3 b4 b5 b6
  have hlt : w.heap.size < w.heap.size + 1 := Nat.lt_succ_self _
  exact ⟨a1.trans (b1.mono (by omega)), Shape.Subs.below a2 (a3 ▸ b1), b2, b3, ⟨(b1.cell (p := ⟨w.heap.size, 0, none⟩) hlt).trans a4, (b1.cell (p := ⟨w.heap.size, 1, none⟩) hlt).trans a5, (b1.cell (p := ⟨w.heap.size, 2, none⟩) hlt).trans a6⟩, b4, b5, b6⟩

/-! ### Tests, both ways -/
theorem ieqOr (z c : Int) : ((z == c) = true ∧ Hid (z = c)) ∨ ((z == c) = false ∧ Hid (z ≠ c)) := by
  by_cases h : z = c
  · exact .inl ⟨by simp [h], h⟩
  · exact .inr ⟨by simp [h], h⟩
theorem ineOr (z c : Int) : ((z != c) = false ∧ Hid (z = c)) ∨ ((z != c) = true ∧ Hid (z ≠ c)) := by
  by_cases h : z = c
  · exact .inl ⟨by simp [h], h⟩
  · exact .inr ⟨by simp [h], h⟩
theorem ileOr (a b : Int) : (decide (a ≤ b) = true ∧ Hid (a ≤ b)) ∨ (decide (a ≤ b) = false ∧ Hid (b < a)) := by
  by_cases h : a ≤ b
  · exact .inl ⟨by simp [h], h⟩
  · exact .inr ⟨by simp [h], by unfold Hid; omega⟩
theorem str_eq {a b : ByteArray} (h : a = b) : (a.toList == b.toList) = true := by subst h; simp
theorem str_ne {a b : ByteArray} (h : a ≠ b) : (a.toList == b.toList) = false := by rw [Lib.toList_data, Lib.toList_data, beq_eq_false_iff_ne]; exact fun e => h (Go.WideShapes.bytes_inj e)
theorem txt_inj {a b : IL} (h : txt a = txt b) : a.text = b.text := by rw [← txt_list a, ← txt_list b, h]
theorem IRose.deepL_le {α : Type} (s : List (Rose α)) : Rose.deepL s ≤ Rose.countL s ∧ ∀ x : Rose α, x ∈ s → x.deep ≤ x.count := by
  have key : ∀ x : Rose α, x.deep ≤ x.count := by
    intro x
    induction x using Rose.ind with
    | h a s ih =>
      simp only [Rose.deep, Rose.count]
      have : ∀ t : List (Rose α), (∀ x, x ∈ t → x.deep ≤ x.count) → Rose.deepL t ≤ Rose.countL t := by
        intro t
        induction t with
        | nil => intro _; simp [Rose.deepL]
        | cons y ys ih2 =>
          intro h
          have h1 := h y (List.mem_cons_self ..)
          have h2 := ih2 fun z hz => h z (List.mem_cons_of_mem _ hz)
          simp only [Rose.deepL, Rose.countL]; omega
      have := this s ih
      omega
  refine ⟨?_, fun x _ => key x⟩
  induction s with
  | nil => simp [Rose.deepL]
  | cons y ys ih =>
    have := key y
    simp only [Rose.deepL, Rose.countL]; omega
theorem IRose.deepL_take_le {α : Type} (s : List (Rose α)) (i : Nat) : Rose.deepL (s.take i) ≤ Rose.deepL s := by
  conv => rhs; rw [← List.take_append_drop i s, Rose.deepL_append]
  exact Nat.le_max_left _ _
end Go.Proofs.Ytopfpfpefljkkaa
