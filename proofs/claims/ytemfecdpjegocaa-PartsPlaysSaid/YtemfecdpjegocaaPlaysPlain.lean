/- What Add and Drop keep, in plain Lean. -/
import Derived.Test.YtemfecdpjegocaaJoinPlain
namespace Go.Proofs.Ytemfecdpjegocaa
set_option linter.unusedVariables false

/-- What holds between two acts. -/
structure InvP (most open_ : Int) (k : Nat) (L : List Pt) : Prop where
  len : L.length ≤ k
  used : (usedL L : Int) ≤ most
  ids : ((idsL L).length : Int) ≤ open_
theorem InvP.nil {most open_ : Int} (h0 : 0 ≤ most) (h1 : 1 ≤ open_) : InvP most open_ 0 [] := ⟨Nat.le_refl _, h0, by show ((0 : Nat) : Int) ≤ open_; omega⟩
theorem usedL_drop_le (L : List Pt) (x : Int) : usedL (dropL L x) ≤ usedL L := by have := usedL_drop L x; omega
theorem dropL_len_le (L : List Pt) (x : Int) : (dropL L x).length ≤ L.length := List.length_filter_le _ _
theorem InvP.drop {most open_ : Int} {k : Nat} {L : List Pt} (h : InvP most open_ k L) (x : Int) : InvP most open_ (k + 1) (dropL L x) := by
  refine ⟨?_, ?_, ?_⟩
  · have := dropL_len_le L x; have := h.len; omega
  · have := usedL_drop_le L x; have := h.used; omega
  · rw [idsL_drop]
    have := List.length_filter_le (fun y => y != x) (idsL L)
    have := h.ids; omega
theorem InvP.up {most open_ : Int} {k : Nat} {L : List Pt} (h : InvP most open_ k L) : InvP most open_ (k + 1) L := ⟨by have := h.len; omega, h.used, h.ids⟩
theorem InvP.add {most open_ : Int} {k : Nat} {L : List Pt} (h : InvP most open_ k L) (p : Pt) : InvP most open_ (k + 1) (addJ most open_ L p).1 := by
  unfold addJ
  by_cases hm : mayP p
  · rw [if_neg (not_not_intro hm)]
    split
    · exact h.up
    · split
      · exact h.up
      · rename_i hno
        split
        · exact h.drop _
        · rename_i hw
          split
          · exact h.up
          · rename_i hu
            refine ⟨?_, ?_, ?_⟩
            · rw [List.length_append]; have := h.len; simp; omega
            · show (usedL (L ++ [p]) : Int) ≤ most
              rw [usedL_snoc]; omega
            · show ((idsL (L ++ [p])).length : Int) ≤ open_
              rw [idsL_snoc]
              unfold addId
              split
              · exact h.ids
              · rename_i hin
                rw [List.length_append]
                have h0 := partsOf_none L hin
                rw [h0] at hw
                obtain ⟨_, ⟨ho, _⟩, _⟩ := hm
                simp at hw
                by_cases c : open_ ≤ ((idsL L).length : Int)
                · exact absurd ⟨hin, by omega, c⟩ hno
                · simp; omega
  · rw [if_pos hm]; exact h.up
end Go.Proofs.Ytemfecdpjegocaa
