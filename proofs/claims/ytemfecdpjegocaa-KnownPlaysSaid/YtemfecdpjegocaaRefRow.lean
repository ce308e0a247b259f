/- The document's row of sums: Place; same of the statements. -/
import Derived.Test.YtemfecdpjegocaaChecked
import Derived.Test.YtemfecdpjegocaaStrOwn
import Derived.Lib.Strings
import Derived.Deep.Cut
import Derived.WalkSpells
namespace Go.Proofs.Ytemfecdpjegocaa
open Go.RowKit
set_option linter.unusedVariables false
set_option linter.unusedSimpArgs false

theorem bytes_beq (a b : ByteArray) : (a.toList == b.toList) = decide (a = b) := by
  rw [Lib.toList_data, Lib.toList_data, Bool.eq_iff_iff, beq_iff_eq, decide_eq_true_iff]
  constructor
  · intro h; apply ByteArray.ext; apply Array.ext'; exact h
  · rintro rfl; rfl

set_option maxRecDepth 100000 in
theorem ref_place {w : World} {v : Value} {l : List ByteArray} (h : RS w v l) (hl : l.length ≤ 1000000) (s : ByteArray) :
    Calls Try.prog 28 #[v, .string s] w fun en w' => ∃ r : Int, en = .returned (.int .i64 r) ∧ ((0 ≤ r ∧ s ∈ l) ∨ (r < 0 ∧ s ∉ l)) ∧ w' = w := by
  obtain ⟨ao, cap, rfl⟩ := h.slice
  have H := Lib.hid h
  clear h
  go_enter Try.func28, Try.ntmps28
  go_wp2_with fail
  go_loop [5] (fun iv => ∃ k : Nat, iv = .int .i64 k ∧ k ≤ l.length ∧ Hid (s ∉ l.take k)) (fun iv => l.length - (intOf iv).toNat)
  case atStart => exact ⟨0, rfl, by omega, by unfold Hid; simp⟩
  case round =>
    obtain ⟨k, rfl, hk, hs⟩ := hrel
    by_cases c : k < l.length
    · obtain ⟨b, off, rfl, hb, hc⟩ := H.out.at_ c
      have hbe := bytes_beq l[k] s
      have hgk : Hid (l[k] = l[k]) := rfl
      by_cases e : l[k] = s
      · rw [decide_eq_true e] at hbe
        have HM : Hid (s ∈ l) := by unfold Hid; rw [← e]; exact List.getElem_mem c
        generalize l[k] = y at hc hbe
        go_wp2_with fail
        go_returns
        exact ⟨_, rfl, .inl ⟨by omega, HM.out⟩, rfl⟩
      · rw [decide_eq_false e] at hbe
        have hs2 : Hid (s ∉ l.take (k + 1)) := by
          unfold Hid
          rw [List.take_succ_eq_append_getElem c, List.mem_append]
          rintro (h1 | h1)
          · exact hs.out h1
          · simp at h1; exact e h1.symm
        generalize l[k] = y at hc hbe
        go_wp2_with fail
        exact ⟨⟨k + 1, by go_num, by omega, hs2⟩, by simp [intOf]; omega⟩
    · obtain rfl : k = l.length := by omega
      have hs1 : Hid (s ∉ l) := by have := hs.out; rw [List.take_length] at this; exact this
      go_wp2_with fail
      go_returns
      exact ⟨_, rfl, .inr ⟨by decide, hs1.out⟩, rfl⟩
end Go.Proofs.Ytemfecdpjegocaa
