/- An argument that is an item: it is opened into a tree. -/
import Derived.Test.YtopfpfpefljkkaaItemAt
import Derived.Test.YtopfpfpefljkkaaStructs
import Derived.ChangeArms
namespace Go.Proofs.Ytopfpfpefljkkaa
open Go.RowKit Go.ChangeShapes Go.WideShapes Go.Deep
set_option linter.unusedVariables false

theorem item_fields {H : Type} {enc : TypeId × Value → H} {P : Program} {w : World} {base : Nat} {spare : Nat → Bool} {held : Bool} {t : TypeId} {f0 f1 f2 : Field} {fuel : Nat} {cs : List Value} {x : DataW H × List MemPlace}
    (ht : P.underlying t = some (.struct #[f0, f1, f2])) (hone : oneCellFields P #[f0, f1, f2] = true) (hC : P.cellsOf t = 3) (e0 : P.underlying f0.type = some .string) (e1 : P.underlying f1.type = some .bool)
    (hf : DataW.trod enc P w base spare held fuel t cs = some x) :
    ∃ a v n y, n < fuel ∧ cs = ishape.cells a v ∧ ishape.ok a ∧ DataW.trod enc P w base spare held n f2.type [v] = some y := by
  obtain ⟨ys, n', hn', hy, hlen, hyl, hff⟩ := DataW.trod_struct ht hf
  have hcs : cs.length = 3 := hlen.trans hC
  have key : ∀ (j : Nat) (f : Field), #[f0, f1, f2][j]? = some f → ∃ (v : Value) (y : DataW H × List MemPlace), cs[j]? = some v ∧ DataW.trod enc P w base spare held n' f.type [v] = some y := by
    intro j f hj
    obtain ⟨ho, hk⟩ := hone_of hone j f hj
    have hjl : j < 3 := (Array.getElem?_eq_some_iff.1 hj).1
    have h1 := hff j f hj
    rw [ho, hk] at h1
    have hv : cs[j]? = some (cs[j]'(by omega)) := List.getElem?_eq_getElem (by omega)
    have hone' : (cs.drop j).take 1 = [cs[j]'(by omega)] := by
      rw [List.drop_eq_getElem_cons (by omega)]
      rfl
    rw [hone'] at h1
    have hys : ys[j]? = some (ys[j]'(by simp at hyl; omega)) := List.getElem?_eq_getElem _
    exact ⟨_, _, hv, h1.trans hys⟩
  obtain ⟨v0, y0, c0, t0⟩ := key 0 _ rfl
  obtain ⟨v1, y1, c1, t1⟩ := key 1 _ rfl
  obtain ⟨v2, y2, c2, t2⟩ := key 2 _ rfl
  obtain ⟨S, rfl, w0⟩ := field_string e0 t0
  obtain ⟨bo, hbo, _⟩ := DataW.trod_bool e1 t1
  obtain rfl : v1 = .bool bo := by simpa using hbo
  refine ⟨⟨S.data.toList, bo⟩, v2, n', y2, by omega, ?_, ?_, t2⟩
  · match cs, hcs with
    | [a, b, c], _ =>
      simp at c0 c1 c2
      subst c0 c1 c2
      rfl
  · show S.data.toList.length ≤ maxLen
    simpa using w0

theorem item_opens {H : Type} {enc : TypeId × Value → H} : Opens ishape Try.prog 25 23 H enc where
  hst := Try.underlying23
  hk := by kernel_rfl
  pos := by decide
  hop := fun w base spare held fuel cs x h => item_fields Try.underlying25 (by kernel_rfl) (by kernel_rfl) Try.underlying9 Try.underlying4 h

/-- An argument. -/
theorem open_item {H : Type} {enc : TypeId × Value → H} {w : World} {base : Nat} {spare : Nat → Bool} {held : Bool} {cs : Array Value} {d : DataW H} {p : List MemPlace} (h : DataW.Trod enc Try.prog w base spare held 25 (.agg cs) d p) :
    ∃ (x : Rose IL) (v : Value), cs = #[.string (txt x.lab), .bool x.lab.list, v] ∧ x.lab.text.length ≤ maxLen ∧ (ISubs w v x.sub ∧ x.lab.text.length ≤ maxLen) := by
  obtain ⟨fuel, hf⟩ := h
  obtain ⟨a, v, n, y, hn, hcs, hok, hy⟩ := item_opens.hop _ _ _ _ _ _ _ hf
  obtain ⟨s, hs⟩ := item_opens.subs n v y hy
  refine ⟨.node a s, v, ?_, hok, hs, hok⟩
  have h1 : cs.toList = ishape.cells a v := by simpa [Value.cells] using hcs
  have : cs = ⟨cs.toList⟩ := by simp
  rw [this, h1]
  rfl
end Go.Proofs.Ytopfpfpefljkkaa
