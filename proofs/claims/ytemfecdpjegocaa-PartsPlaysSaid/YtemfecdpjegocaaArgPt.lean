/- An argument that is a part by value: three numbers and a text. -/
import Derived.Test.YtemfecdpjegocaaStructs
import Derived.Test.YtemfecdpjegocaaPartMay
namespace Go.Proofs.Ytemfecdpjegocaa
open Go.RowKit Go.ChangeShapes Go.WideShapes Go.Deep
set_option linter.unusedVariables false

theorem open_part {H : Type} {enc : TypeId × Value → H} {P : Program} {w : World} {base : Nat} {spare : Nat → Bool} {held : Bool} {t : TypeId} {f0 f1 f2 f3 : Field} {cs : Array Value} {d : DataW H} {p : List MemPlace}
    (ht : P.underlying t = some (.struct #[f0, f1, f2, f3])) (hone : oneCellFields P #[f0, f1, f2, f3] = true) (hC : P.cellsOf t = 4) (e0 : P.underlying f0.type = some (.int .i64)) (e1 : P.underlying f1.type = some (.int .i64))
    (e2 : P.underlying f2.type = some (.int .i64)) (e3 : P.underlying f3.type = some .string) (h : DataW.Trod enc P w base spare held t (.agg cs) d p) : ∃ q : Pt, cs = q.cs ∧ q.wf := by
  obtain ⟨fuel, hf⟩ := h
  obtain ⟨ys, n', hn', hy, hlen, hyl, hff⟩ := DataW.trod_struct ht hf
  have key : ∀ (j : Nat) (f : Field), #[f0, f1, f2, f3][j]? = some f → ∃ (v : Value) (y : DataW H × List MemPlace), cs.toList[j]? = some v ∧ DataW.trod enc P w base spare held n' f.type [v] = some y := by
    intro j f hj
    obtain ⟨ho, hk⟩ := hone_of hone j f hj
    have hjl : j < 4 := (Array.getElem?_eq_some_iff.1 hj).1
    have hcl : (Value.agg cs).cells.toList.length = 4 := hlen.trans hC
    have hcs : cs.toList.length = 4 := by simpa [Value.cells] using hcl
    have h1 := hff j f hj
    rw [ho, hk] at h1
    have hv : cs.toList[j]? = some (cs.toList[j]'(by omega)) := List.getElem?_eq_getElem (by omega)
    have hone' : ((Value.agg cs).cells.toList.drop j).take 1 = [cs.toList[j]'(by omega)] := by
      show (cs.toList.drop j).take 1 = _
      rw [List.drop_eq_getElem_cons (by omega)]
      rfl
    rw [hone'] at h1
    have hys : ys[j]? = some (ys[j]'(by simp at hyl; omega)) := List.getElem?_eq_getElem _
    exact ⟨_, _, hv, h1.trans hys⟩
  have hcl : (Value.agg cs).cells.toList.length = 4 := hlen.trans hC
  have hcs : cs.toList.length = 4 := by simpa [Value.cells] using hcl
  obtain ⟨v0, y0, c0, t0⟩ := key 0 _ rfl
  obtain ⟨v1, y1, c1, t1⟩ := key 1 _ rfl
  obtain ⟨v2, y2, c2, t2⟩ := key 2 _ rfl
  obtain ⟨v3, y3, c3, t3⟩ := key 3 _ rfl
  obtain ⟨x0, rfl, w0⟩ := field_int e0 t0
  obtain ⟨x1, rfl, w1⟩ := field_int e1 t1
  obtain ⟨x2, rfl, w2⟩ := field_int e2 t2
  obtain ⟨x3, rfl, w3⟩ := field_string e3 t3
  refine ⟨⟨x0, x1, x2, x3⟩, ?_, w0, w1, w2, w3⟩
  have : cs = ⟨cs.toList⟩ := by simp
  rw [this]
  generalize cs.toList = l at *
  match l, hcs with
  | [a, b, c, e], _ =>
    simp at c0 c1 c2 c3
    subst c0 c1 c2 c3
    rfl
end Go.Proofs.Ytemfecdpjegocaa
