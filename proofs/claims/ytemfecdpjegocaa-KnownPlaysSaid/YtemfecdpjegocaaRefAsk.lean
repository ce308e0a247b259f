/- What is asked for: the plain law; Ask of the document's row. -/
import Derived.Test.YtemfecdpjegocaaRefRow
namespace Go.Proofs.Ytemfecdpjegocaa
open Go.RowKit
set_option linter.unusedVariables false
set_option linter.unusedSimpArgs false

instance memDec (t : ByteArray) (l : List ByteArray) : Decidable (t ∈ l) := decidable_of_iff (l.any (fun u => decide (u = t)) = true) (by simp)
def askStep (f : ByteArray → Bool) (acc : List ByteArray) (t : ByteArray) : List ByteArray := if f t = true ∨ t ∈ acc then acc else acc ++ [t]
def askK (f : ByteArray → Bool) (l : List ByteArray) (k : Nat) : List ByteArray := (l.take k).foldl (askStep f) []
theorem askK_succ (f : ByteArray → Bool) (l : List ByteArray) (k : Nat) (h : k < l.length) : askK f l (k + 1) = askStep f (askK f l k) l[k] := by
  unfold askK
  rw [List.take_succ_eq_append_getElem h, List.foldl_append]; rfl
theorem askK_len (f : ByteArray → Bool) (l : List ByteArray) : ∀ k, k ≤ l.length → (askK f l k).length ≤ k
  | 0, _ => by simp [askK]
  | k + 1, h => by
    have ih := askK_len f l k (by omega)
    rw [askK_succ f l k (by omega)]
    unfold askStep
    split
    · omega
    · simp; omega
theorem strs_types : StrTypes Try.prog 42 9 := ⟨Try.underlying42, by kernel_rfl⟩

set_option maxRecDepth 100000 in
set_option maxHeartbeats 1000000 in
theorem ref_ask {w : World} {v1 v2 : Value} {row l : List ByteArray} (h1 : RS w v1 row) (h2 : RS w v2 l) (hr : row.length ≤ 1000000) (hl : l.length ≤ 1000000) :
    Calls Try.prog 24 #[v1, v2] w fun en w' => ∃ v, en = .returned v ∧ RS w' v (askK (fun t => decide (t ∈ row)) l l.length) ∧ Below w.heap.size w w' := by
  obtain ⟨ao, cap, rfl⟩ := h1.slice
  obtain ⟨ao2, cap2, rfl⟩ := h2.slice
  have H1 := Lib.hid h1
  have H2 := Lib.hid h2
  clear h1 h2
  obtain ⟨B, hB⟩ : ∃ B, w.heap.size = B := ⟨_, rfl⟩
  rw [hB]
  go_enter Try.func24, Try.ntmps24
  go_wp2_with fail
  go_loopw [5, 6] (fun av iv wi => ∃ (k : Nat) (acc : List ByteArray), iv = .int .i64 k ∧ k ≤ l.length ∧ Hid (acc = askK (fun t => decide (t ∈ row)) l k) ∧ Hid (OwnS wi B 9 av acc) ∧ Hid (Below B w wi)) (fun _ iv _ => l.length - (intOf iv).toNat)
  case atStart => exact ⟨0, [], rfl, by omega, rfl, OwnS.nil _ _ _, Below.refl _ _⟩
  case round =>
    obtain ⟨k, acc, rfl, hk, hacc, hown, hb⟩ := hrel
    have hal := askK_len (fun t => decide (t ∈ row)) l k hk
    rw [← hacc.out] at hal
    have hBr : B ≤ wr.heap.size := by have := hb.out.size; omega
    obtain ⟨ao3, cap3, hv3⟩ := hown.out.rs.slice
    by_cases c : k < l.length
    · obtain ⟨b2, off2, rfl, hbl2, hc2⟩ := H2.out.at_ c
      have hb2 : b2 < B := by omega
      have hcr2 : wr.cell? ⟨b2, off2 + k, none⟩ = some (.string l[k]) := (hb.out.cell (p := ⟨b2, off2 + k, none⟩) hb2).trans hc2
      have hrow : Hid (RS wr (.slice ao row.length cap) row) := H1.out.below (hB ▸ hb.out)
      have hsu : Hid (askK (fun t => decide (t ∈ row)) l (k + 1) = askStep (fun t => decide (t ∈ row)) acc l[k]) := by
        unfold Hid; rw [hacc.out]; exact askK_succ _ _ _ c
      have hp1 := Lib.hid (ref_place hrow.out hr l[k])
      have hp2 := Lib.hid (ref_place hown.out.rs (by omega) l[k])
      clear hc2
      generalize l[k] = y at *
      rw [hv3] at hp2
      subst hv3
      go_wp2_with fail
      refine hp1.out.mono ?_
      rintro en w2 ⟨r, rfl, hr1, rfl⟩
      rcases hr1 with ⟨hr0, hin⟩ | ⟨hr0, hni⟩
      · have hd : decide (r < 0) = false := by simp; omega
        have hst : Hid (askK (fun t => decide (t ∈ row)) l (k + 1) = acc) := by unfold Hid; rw [hsu.out]; unfold askStep; simp [hin]
        clear hin
        go_wp2_with fail
        go_roundw
        case rel => exact ⟨k + 1, acc, by go_num, by omega, hst.out.symm, hown.out, hb.out⟩
        case measure => simp [intOf]; omega
      · have hd : decide (r < 0) = true := by simp; omega
        have hni' := Lib.hid hni
        clear hni
        go_wp2_with fail
        refine hp2.out.mono ?_
        rintro en w2 ⟨r2, rfl, hr2, rfl⟩
        rcases hr2 with ⟨hr20, hin⟩ | ⟨hr20, hni⟩
        · have hd2 : decide (r2 < 0) = false := by simp; omega
          have hst : Hid (askK (fun t => decide (t ∈ row)) l (k + 1) = acc) := by unfold Hid; rw [hsu.out]; unfold askStep; simp [hin]
          clear hin
          go_wp2_with fail
          go_roundw
          case rel => exact ⟨k + 1, acc, by go_num, by omega, hst.out.symm, hown.out, hb.out⟩
          case measure => simp [intOf]; omega
        · have hd2 : decide (r2 < 0) = true := by simp; omega
          have hst : Hid (askK (fun t => decide (t ∈ row)) l (k + 1) = acc ++ [y]) := by unfold Hid; rw [hsu.out]; unfold askStep; simp [hni, hni'.out]
          clear hni
          have hal2 : acc.length + 1 ≤ 1000000 := by omega
          go_wp2_with (at_builtin; refine append_strs strs_types rfl (.tmp 29) (.tmp 34) rfl B _ acc [y] 1 rfl w2 _ rfl rfl hown.out rfl hal2 hBr ?_; intro v' w' hown' hb' hsz')
          go_roundw
          case rel => exact ⟨k + 1, acc ++ [y], by go_num, by omega, hst.out.symm, hown', hb.out.trans hb'⟩
          case measure => simp [intOf]; omega
    · obtain rfl : k = l.length := by omega
      go_wp2_with fail
      go_returns
      exact ⟨_, rfl, hacc.out ▸ hown.out.rs, hb.out⟩
end Go.Proofs.Ytemfecdpjegocaa
