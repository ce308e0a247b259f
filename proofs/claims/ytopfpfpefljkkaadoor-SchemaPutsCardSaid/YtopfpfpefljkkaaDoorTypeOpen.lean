/- An argument that is a type: it is opened into a tree. -/
import Derived.Test.YtopfpfpefljkkaaDoorTypeAt
import Derived.Test.YtopfpfpefljkkaaDoorStructs
namespace Go.Proofs.YtopfpfpefljkkaaDoor
open Go.RowKit Go.ChangeShapes Go.WideShapes Go.Deep
set_option linter.unusedVariables false

theorem type_fields {H : Type} {enc : TypeId × Value → H} {P : Program} {w : World} {base : Nat} {spare : Nat → Bool} {held : Bool} {t : TypeId} {f0 f1 f2 f3 : Field} {fuel : Nat} {cs : List Value} {x : DataW H × List MemPlace}
    (ht : P.underlying t = some (.struct #[f0, f1, f2, f3])) (hone : oneCellFields P #[f0, f1, f2, f3] = true) (hC : P.cellsOf t = 4) (e0 : P.underlying f0.type = some (.int .i64)) (e1 : P.underlying f1.type = some (.int .i64))
    (e3 : P.underlying f3.type = some (.int .i64)) (hf : DataW.trod enc P w base spare held fuel t cs = some x) :
    ∃ a v n y, n < fuel ∧ cs = tshape.cells a v ∧ tshape.ok a ∧ DataW.trod enc P w base spare held n f2.type [v] = some y := by
  obtain ⟨ys, n', hn', hy, hlen, hyl, hff⟩ := DataW.trod_struct ht hf
  have hcs : cs.length = 4 := hlen.trans hC
  have key : ∀ (j : Nat) (f : Field), #[f0, f1, f2, f3][j]? = some f → ∃ (v : Value) (y : DataW H × List MemPlace), cs[j]? = some v ∧ DataW.trod enc P w base spare held n' f.type [v] = some y := by
    intro j f hj
    obtain ⟨ho, hk⟩ := hone_of hone j f hj
    have hjl : j < 4 := (Array.getElem?_eq_some_iff.1 hj).1
    have h1 := hff j f hj
    rw [ho, hk] at h1
    have hv : cs[j]? = some (cs[j]'(by omega)) := List.getElem?_eq_getElem (by omega)
    have hone' : (cs.drop j).take 1 = [cs[j]'(by omega)] := by
      rw [List.drop_eq_getElem_cons (by omega)]
      rfl
    rw [hone'] at h1
    have hys : ys[j]? = some (ys[j]'(by simp at hyl; omega)) := List.getElem?_eq_getElem _
    exact ⟨_, _, hv, h1.trans hys⟩
  obtain ⟨v0, y0, c0, t0⟩ := key 0 _ rfl
  obtain ⟨v1, y1, c1, t1⟩ := key 1 _ rfl
  obtain ⟨v2, y2, c2, t2⟩ := key 2 _ rfl
  obtain ⟨v3, y3, c3, t3⟩ := key 3 _ rfl
  obtain ⟨x0, rfl, w0⟩ := field_int e0 t0
  obtain ⟨x1, rfl, w1⟩ := field_int e1 t1
  obtain ⟨x3, rfl, w3⟩ := field_int e3 t3
  refine ⟨⟨x0, x1, x3⟩, v2, n', y2, by omega, ?_, ⟨w0, w1, w3⟩, t2⟩
  match cs, hcs with
  | [a, b, c, e], _ =>
    simp at c0 c1 c2 c3
    subst c0 c1 c2 c3
    rfl

theorem type_opens {H : Type} {enc : TypeId × Value → H} : Opens tshape Tryd.prog 24 22 H enc where
  hst := Tryd.underlying22
  hk := by kernel_rfl
  pos := by decide
  hop := fun w base spare held fuel cs x h => type_fields Tryd.underlying24 (by kernel_rfl) (by kernel_rfl) Tryd.underlying3 Tryd.underlying3 Tryd.underlying3 h

/-- An argument. -/
theorem open_type {H : Type} {enc : TypeId × Value → H} {w : World} {base : Nat} {spare : Nat → Bool} {held : Bool} {cs : Array Value} {d : DataW H} {p : List MemPlace} (h : DataW.Trod enc Tryd.prog w base spare held 24 (.agg cs) d p) :
    ∃ (x : Rose TL) (v : Value), cs = #[.int .i64 x.lab.kind, .int .i64 x.lab.size, v, .int .i64 x.lab.tail] ∧ TL.wf x.lab ∧ TSubs w v x.sub := by
  obtain ⟨fuel, hf⟩ := h
  obtain ⟨a, v, n, y, hn, hcs, hok, hy⟩ := type_opens.hop _ _ _ _ _ _ _ hf
  obtain ⟨s, hs⟩ := type_opens.subs n v y hy
  refine ⟨.node a s, v, ?_, hok, hs⟩
  have h1 : cs.toList = tshape.cells a v := by simpa [Value.cells] using hcs
  have : cs = ⟨cs.toList⟩ := by simp
  rw [this, h1]
  rfl
end Go.Proofs.YtopfpfpefljkkaaDoor
