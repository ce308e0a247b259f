/- Rows of structs that can be read: elements of any kind, k cells each. -/
import Derived.Test.YtopfpfpefljkkaaGRow
namespace Go.Proofs.Ytopfpfpefljkkaa
open Go.RowKit
set_option linter.unusedVariables false
set_option linter.unusedSimpArgs false

section
variable {β : Type} {f : β → List Value} {k : Nat}
/-- The slice v reads as the elements L. -/
def RdG (f : β → List Value) (k : Nat) (w : World) (v : Value) (L : List β) : Prop :=
  ∃ oa cap, v = .slice oa L.length cap ∧ L.length ≤ cap ∧ ∀ i y, L[i]? = some y → ∃ b off, oa = some ⟨b, off, none⟩ ∧ b < w.heap.size ∧ ∀ j, j < k → w.cell? ⟨b, off + i * k + j, none⟩ = (f y)[j]?
theorem RdG.below {w w' : World} {v : Value} {L : List β} (h : RdG f k w v L) (hb : Below w.heap.size w w') : RdG f k w' v L := by
  obtain ⟨oa, cap, h1, h2, h3⟩ := h
  refine ⟨oa, cap, h1, h2, fun i y hy => ?_⟩
  obtain ⟨b, off, e, hlt, hc⟩ := h3 i y hy
  exact ⟨b, off, e, Nat.lt_of_lt_of_le hlt hb.size, fun j hj => (hb.cell (p := ⟨b, off + i * k + j, none⟩) hlt).trans (hc j hj)⟩
theorem RdG.slice {w : World} {v : Value} {L : List β} (h : RdG f k w v L) : ∃ oa cap, v = .slice oa L.length cap := by
  obtain ⟨oa, cap, h1, _⟩ := h
  exact ⟨oa, cap, h1⟩
theorem RdG.at_ {w : World} {oa : Option Addr} {n cap : Nat} {L : List β} (h : RdG f k w (.slice oa n cap) L) {i : Nat} {y : β} (hy : L[i]? = some y) :
    ∃ b off, oa = some ⟨b, off, none⟩ ∧ b < w.heap.size ∧ ∀ j, j < k → w.cell? ⟨b, off + i * k + j, none⟩ = (f y)[j]? := by
  obtain ⟨oa', cap', h1, _, h3⟩ := h
  cases h1
  exact h3 i y hy
theorem OwnG.rd {w : World} {B : Nat} {t : TypeId} {v : Value} {L : List β} (h : OwnG f k w B t v L) (hk : ∀ y, (f y).length = k) : RdG f k w v L := by
  obtain ⟨oa, cap, rfl⟩ := h.slice
  refine ⟨oa, cap, rfl, ?_, fun i y hy => ?_⟩
  · rcases h.form with ⟨h1, rfl⟩ | ⟨g, cap', cur, hv, hb, hg, hcap, _⟩
    · simp
    · cases hv; exact hcap
  · obtain ⟨g, e, _, hlt, _, _, hc, _⟩ := h.at_ hk hy
    exact ⟨g, 0, e, hlt, fun j hj => by rw [Nat.zero_add]; exact hc j hj⟩
end
end Go.Proofs.Ytopfpfpefljkkaa
