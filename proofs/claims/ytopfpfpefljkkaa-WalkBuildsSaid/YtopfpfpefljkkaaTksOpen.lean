/- A row of tokens that came in. -/
import Derived.Test.YtopfpfpefljkkaaWalkBuilds
import Derived.Test.YtopfpfpefljkkaaStructs
namespace Go.Proofs.Ytopfpfpefljkkaa
open Go.RowKit Go.ChangeShapes Go.WideShapes Go.Deep
set_option linter.unusedVariables false

theorem list_of {β : Type} {R : Nat → β → Prop} : ∀ (n : Nat), (∀ i, i < n → ∃ y, R i y) → ∃ L : List β, L.length = n ∧ ∀ i y, L[i]? = some y → R i y
  | 0, _ => ⟨[], rfl, fun i y h => by simp at h⟩
  | n + 1, h => by
    obtain ⟨L, hl, hL⟩ := list_of n fun i hi => h i (by omega)
    obtain ⟨y, hy⟩ := h n (by omega)
    refine ⟨L ++ [y], by simp [hl], fun i z hz => ?_⟩
    by_cases hi : i < n
    · rw [List.getElem?_append_left (by omega)] at hz; exact hL i z hz
    · have hlt := (List.getElem?_eq_some_iff.1 hz).1
      simp only [List.length_append, List.length_cons, List.length_nil] at hlt
      obtain rfl : i = n := by omega
      rw [List.getElem?_append_right (by omega), hl] at hz
      simp at hz
      subst hz
      exact hy
theorem open_toks {H : Type} {enc : TypeId × Value → H} {w : World} {base : Nat} {spare : Nat → Bool} {held : Bool} {a : Option Addr} {len cap : Nat} {d : DataW H} {p : List MemPlace}
    (h : DataW.Trod enc Try.prog w base spare held 52 (.slice a len cap) d p) : ∃ T : List Tk, RdG tkf 2 w (.slice a len cap) T ∧ (∀ t, t ∈ T → t.text.size ≤ maxLen) ∧ T.length ≤ maxLen := by
  have hcap : len ≤ cap := by
    obtain ⟨fuel, hf⟩ := h
    rcases DataW.trod_slice Try.underlying52 hf with ⟨h0, _⟩ | ⟨a', len', cap', elems, rest, n, hn, hcs, _, hb, hl, hm, _⟩
    · simp [Value.cells] at h0; omega
    · simp [Value.cells] at hcs
      obtain ⟨_, rfl, rfl⟩ := hcs
      exact hl
  obtain ⟨hl, hi⟩ := open_structs Try.underlying52 Try.underlying89 (by kernel_rfl) (by kernel_rfl) (by decide) h
  have key : ∀ i, i < len → ∃ t : Tk, t.text.size ≤ maxLen ∧ ∃ b off, a = some ⟨b, off, none⟩ ∧ b < w.heap.size ∧ ∀ j, j < 2 → w.cell? ⟨b, off + i * 2 + j, none⟩ = (tkf t)[j]? := fun i hil => by
    obtain ⟨b, off, ha, hb, hf⟩ := hi i hil
    obtain ⟨v0, y0, n0, c0, t0⟩ := hf 0 _ rfl
    obtain ⟨x0, rfl, wf0⟩ := field_int Try.underlying3 t0
    obtain ⟨v1, y1, n1, c1, t1⟩ := hf 1 _ rfl
    obtain ⟨x1, rfl, wf1⟩ := field_string Try.underlying9 t1
    refine ⟨⟨x0, x1⟩, wf1, b, off, ha, hb, fun j hj => ?_⟩
    match j, hj with
    | 0, _ => simpa [Nat.add_assoc, tkf] using c0
    | 1, _ => simpa [Nat.add_assoc, tkf] using c1
  obtain ⟨T, hT, hp⟩ := list_of len key
  refine ⟨T, ⟨a, cap, by rw [hT], by omega, fun i y hy => (hp i y hy).2⟩, fun t ht => ?_, by omega⟩
  obtain ⟨i, hi'⟩ := List.getElem?_of_mem ht
  exact (hp i t hi').1
theorem walk_builds' (T : List Tk) (v : Value) (w : World) (h : RdG tkf 2 w v T ∧ (∀ t, t ∈ T → t.text.size ≤ maxLen) ∧ T.length ≤ maxLen) :
    Calls Try.prog 8 #[v] w fun e w' => e = .returned (.bool true) ∧ Below w.heap.size w w' := walk_builds T v w h.1 h.2.1 h.2.2
end Go.Proofs.Ytopfpfpefljkkaa
