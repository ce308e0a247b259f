/- The document's reader. -/
import Derived.Test.YtemfecdpjegocaaCursorCalls
import Derived.Lib.Strings
namespace Go.Proofs.Ytemfecdpjegocaa
open Go.RowKit
set_option linter.unusedVariables false

theorem byte_take (r : RS) (hr : r.Ok) : (r.take 1).1 = r.byte.1 ∧ ((r.take 1).2 = nostr ∧ r.byte.2 = 0 ∨ ∃ h : 0 < (r.take 1).2.size, r.byte.2 = (((r.take 1).2)[0].toNat : Int)) := by
  obtain ⟨t, p, f⟩ := r
  obtain ⟨h1, h2⟩ := hr
  simp only at h1 h2
  by_cases hf : f = 0
  · subst hf
    by_cases hp : p < t.size
    · have e : RS.byte ⟨t, p, 0⟩ = (⟨t, p + 1, 0⟩, (t[p].toNat : Int)) := by unfold RS.byte; rw [if_pos rfl, dif_pos hp]
      have e2 : RS.take ⟨t, p, 0⟩ 1 = (⟨t, p + 1, 0⟩, t.extract p (p + 1)) := by unfold RS.take; rw [if_pos rfl, if_neg (by omega), if_neg (by simp only []; omega)]; rfl
      rw [e, e2]
      refine ⟨rfl, .inr ⟨by simp only [ByteArray.size_extract]; omega, ?_⟩⟩
      have hx : 0 < (t.extract p (p + 1)).size := by rw [ByteArray.size_extract]; omega
      have : (t.extract p (p + 1))[0] = t[p + 0] := ByteArray.getElem_extract hx
      rw [this]
      rfl
    · have e : RS.byte ⟨t, p, 0⟩ = (⟨t, p, 2⟩, 0) := by unfold RS.byte; rw [if_pos rfl, dif_neg hp]
      have e2 : RS.take ⟨t, p, 0⟩ 1 = (⟨t, p, 2⟩, nostr) := by unfold RS.take; rw [if_pos rfl, if_neg (by omega), if_pos (by simp only []; omega)]
      rw [e, e2]
      exact ⟨rfl, .inl ⟨rfl, rfl⟩⟩
  · have e : RS.byte ⟨t, p, f⟩ = (⟨t, p, f⟩, 0) := by unfold RS.byte; rw [if_neg hf]
    have e2 : RS.take ⟨t, p, f⟩ 1 = (⟨t, p, f⟩, nostr) := by unfold RS.take; rw [if_neg hf]
    rw [e, e2]
    exact ⟨rfl, .inl ⟨rfl, rfl⟩⟩

end Go.Proofs.Ytemfecdpjegocaa
