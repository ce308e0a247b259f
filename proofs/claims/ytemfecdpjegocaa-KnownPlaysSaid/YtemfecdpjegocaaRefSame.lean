/- same of the statements; Ask of the document's row. -/
import Derived.Test.YtemfecdpjegocaaRefRow
import Derived.Deep.Cut
namespace Go.Proofs.Ytemfecdpjegocaa
open Go.RowKit
set_option linter.unusedVariables false
set_option linter.unusedSimpArgs false

set_option maxRecDepth 100000 in
theorem law_same {w : World} {v1 v2 : Value} {l : List ByteArray} (h1 : RS w v1 l) (h2 : RS w v2 l) (hl : l.length ≤ 1000000) :
    Calls Try.prog 22 #[v1, v2] w fun en w' => en = .returned (.bool true) ∧ Below w.heap.size w w' := by
  obtain ⟨ao, cap, rfl⟩ := h1.slice
  obtain ⟨ao2, cap2, rfl⟩ := h2.slice
  have H1 := Lib.hid h1
  have H2 := Lib.hid h2
  clear h1 h2
  obtain ⟨B, hB⟩ : ∃ B, w.heap.size = B := ⟨_, rfl⟩
  rw [hB]
  go_enter Try.func22, Try.ntmps22
  go_wp2_with fail
  go_loopw [5] (fun iv wi => ∃ k : Nat, iv = .int .i64 k ∧ k ≤ l.length ∧ Hid (Below B w wi)) (fun iv _ => l.length - (intOf iv).toNat)
  case atStart => exact ⟨0, rfl, by omega, Below.refl _ _⟩
  case round =>
    obtain ⟨k, rfl, hk, hb⟩ := hrel
    by_cases c : k < l.length
    · obtain ⟨b, off, rfl, hbl, hc⟩ := H1.out.at_ c
      obtain ⟨b2, off2, rfl, hbl2, hc2⟩ := H2.out.at_ c
      have hb1 : b < B := by omega
      have hb2 : b2 < B := by omega
      have hwr : B ≤ wr.heap.size := by have := hb.out.size; omega
      have hcr : wr.cell? ⟨b, off + k, none⟩ = some (.string l[k]) := (hb.out.cell (p := ⟨b, off + k, none⟩) hb1).trans hc
      have hcr2 : wr.cell? ⟨b2, off2 + k, none⟩ = some (.string l[k]) := (hb.out.cell (p := ⟨b2, off2 + k, none⟩) hb2).trans hc2
      have hx1 : ∀ x : Fut wr, x.at_.cell? ⟨b, off + k, none⟩ = some (.string l[k]) := fun x => (x.is.cell (p := ⟨b, off + k, none⟩) (Nat.lt_of_lt_of_le hb1 hwr)).trans hcr
      have hx2 : ∀ x : Fut wr, x.at_.cell? ⟨b2, off2 + k, none⟩ = some (.string l[k]) := fun x => (x.is.cell (p := ⟨b2, off2 + k, none⟩) (Nat.lt_of_lt_of_le hb2 hwr)).trans hcr2
      have hbe := bytes_beq l[k] l[k]
      rw [decide_eq_true rfl] at hbe
      generalize l[k] = y at *
      go_upto_region 6 with fail
      refine wp_region_after (by kernel_rfl) (by kernel_rfl) ?_
      repeat (go_big_quiet_step (fail))
      refine wpQuiet_nil ?_
      intro x
      go_wp2_with fail
      exact ⟨⟨k + 1, by go_num, by omega, hb.out.trans (x.is.mono (by omega))⟩, by simp [intOf]; omega⟩
    · obtain rfl : k = l.length := by omega
      go_wp2_with fail
      go_returns
      exact ⟨rfl, hb.out⟩
end Go.Proofs.Ytemfecdpjegocaa
