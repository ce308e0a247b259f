/- The document's reader. -/
import Derived.Test.YtknokfofjhlkeaaDoorCursorCalls
import Derived.Lib.Strings
namespace Go.Proofs.YtknokfofjhlkeaaDoor
open Go.RowKit
set_option linter.unusedVariables false

/-- The document's reader in block b is r. -/
def IsX (w : World) (b : Nat) (r : RS) : Prop := Blk w b r.cs 39
def XPost (b : Nat) (w : World) (r : RS) (v : Value) : Ending → World → Prop := fun e w' => e = .returned v ∧ Upd b w w' ∧ IsX w' b r

set_option maxRecDepth 100000 in
theorem ref01_of (t : ByteArray) (w : World) :
    Calls Tryd.prog 12 #[.string t] w fun e w' => e = .returned (.pointer (some ⟨w.heap.size, 0, none⟩)) ∧ Below w.heap.size w w' ∧ w.heap.size < w'.heap.size ∧ IsX w' w.heap.size (RS.of t) := by
  go_enter Tryd.func12, Tryd.ntmps12
  go_wp2
  go_returns
  exact ⟨rfl, (Below.refl _ _).alloc (Nat.le_refl _) _, by simp, Blk.new _ _ _⟩

theorem byte_take (r : RS) (hr : r.Ok) : (r.take 1).1 = r.byte.1 ∧ ((r.take 1).2 = nostr ∧ r.byte.2 = 0 ∨ ∃ h : 0 < (r.take 1).2.size, r.byte.2 = (((r.take 1).2)[0].toNat : Int)) := by
  obtain ⟨t, p, f⟩ := r
  obtain ⟨h1, h2⟩ := hr
  simp only at h1 h2
  by_cases hf : f = 0
  · subst hf
    by_cases hp : p < t.size
    · have e : RS.byte ⟨t, p, 0⟩ = (⟨t, p + 1, 0⟩, (t[p].toNat : Int)) := by unfold RS.byte; rw [if_pos rfl, dif_pos hp]
      have e2 : RS.take ⟨t, p, 0⟩ 1 = (⟨t, p + 1, 0⟩, t.extract p (p + 1)) := by unfold RS.take; rw [if_pos rfl, if_neg (by omega), if_neg (by simp only []; omega)]; rfl
      rw [e, e2]
      refine ⟨rfl, .inr ⟨by simp only [ByteArray.size_extract]; omega, ?_⟩⟩
      have hx : 0 < (t.extract p (p + 1)).size := by rw [ByteArray.size_extract]; omega
      have : (t.extract p (p + 1))[0] = t[p + 0] := ByteArray.getElem_extract hx
      rw [this]
      rfl
    · have e : RS.byte ⟨t, p, 0⟩ = (⟨t, p, 2⟩, 0) := by unfold RS.byte; rw [if_pos rfl, dif_neg hp]
      have e2 : RS.take ⟨t, p, 0⟩ 1 = (⟨t, p, 2⟩, nostr) := by unfold RS.take; rw [if_pos rfl, if_neg (by omega), if_pos (by simp only []; omega)]
      rw [e, e2]
      exact ⟨rfl, .inl ⟨rfl, rfl⟩⟩
  · have e : RS.byte ⟨t, p, f⟩ = (⟨t, p, f⟩, 0) := by unfold RS.byte; rw [if_neg hf]
    have e2 : RS.take ⟨t, p, f⟩ 1 = (⟨t, p, f⟩, nostr) := by unfold RS.take; rw [if_neg hf]
    rw [e, e2]
    exact ⟨rfl, .inl ⟨rfl, rfl⟩⟩

end Go.Proofs.YtknokfofjhlkeaaDoor
