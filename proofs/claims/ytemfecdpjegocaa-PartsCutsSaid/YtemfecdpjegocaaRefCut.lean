/- ref30.Cut. -/
import Derived.Test.YtemfecdpjegocaaCut
import Derived.Test.YtemfecdpjegocaaStrOwn
import Derived.Lib.Strings
namespace Go.Proofs.Ytemfecdpjegocaa
open Go.RowKit
set_option linter.unusedVariables false
set_option linter.unusedSimpArgs false

theorem str_types : StrTypes Try.prog 42 9 := ⟨Try.underlying42, by kernel_rfl⟩
/-- What stands behind k pieces. -/
def restT (s : ByteArray) (size k : Nat) : ByteArray := ⟨(s.data.toList.drop (k * size)).toArray⟩
theorem restT_size (s : ByteArray) (size k : Nat) : (restT s size k).size = s.size - k * size := by
  unfold restT
  rw [size_mk, List.length_drop]
  have : s.data.toList.length = s.size := Array.length_toList
  rw [this]
theorem restT_zero (s : ByteArray) (size : Nat) : restT s size 0 = s := by unfold restT; simp
theorem rest_piece (s : ByteArray) (size k : Nat) : (restT s size k).extract 0 size = pieceT s size k := by
  apply ByteArray.ext; apply Array.ext'
  rw [Lib.extract_data]
  simp [restT, pieceT]
theorem rest_next (s : ByteArray) (size k : Nat) : (restT s size k).extract size (restT s size k).size = restT s size (k + 1) := by
  apply ByteArray.ext; apply Array.ext'
  rw [Lib.extract_data, List.take_of_length_le (by
    rw [List.length_drop]
    have : (restT s size k).data.toList.length = (restT s size k).size := Array.length_toList
    omega)]
  simp [restT, Nat.add_mul, Nat.add_comm]
theorem rest_last (s : ByteArray) (size k : Nat) (h : (restT s size k).size ≤ size) : restT s size k = pieceT s size k := by
  rw [restT_size] at h
  unfold restT pieceT
  rw [List.take_of_length_le]
  rw [List.length_drop]
  have : s.data.toList.length = s.size := Array.length_toList
  omega
/-- The pieces. -/
def piecesK (s : ByteArray) (size k : Nat) : List ByteArray := (List.range k).map (pieceT s size)
theorem piecesK_succ (s : ByteArray) (size k : Nat) : piecesK s size (k + 1) = piecesK s size k ++ [pieceT s size k] := by
  unfold piecesK; rw [List.range_succ, List.map_append]; rfl
theorem piecesK_len (s : ByteArray) (size k : Nat) : (piecesK s size k).length = k := by simp [piecesK]
/-- How many there are. -/
def cutN (s : ByteArray) (size : Nat) : Nat := if s.size = 0 then 1 else chunksN s.size size
theorem cutL_eq (id : Int) (s : ByteArray) (size : Nat) : cutL id s size = cutK id (cutN s size) s size (cutN s size) := by
  unfold cutL cutN
  split
  · rename_i h
    have hs : s = ByteArray.empty := by apply ByteArray.ext; exact Array.eq_empty_of_size_eq_zero h
    subst hs
    have e : pieceT ByteArray.empty size 0 = ByteArray.empty := by
      apply ByteArray.ext
      show (List.take size (List.drop (0 * size) (ByteArray.empty.data.toList))).toArray = #[]
      have : ByteArray.empty.data.toList = [] := rfl
      rw [this]; simp
    show _ = [(⟨id, 0, 1, pieceT ByteArray.empty size 0⟩ : Pt)]
    rw [e]
  · rfl
theorem cutN_at {s : ByteArray} {size k : Nat} (hs : 1 ≤ size) (h1 : k = 0 ∨ k * size < s.size) (h2 : s.size - k * size ≤ size) : cutN s size = k + 1 := by
  unfold cutN
  have hm : (k + 1) * size = k * size + size := by rw [Nat.add_mul, Nat.one_mul]
  split
  · rename_i h0
    rcases h1 with rfl | h1
    · rfl
    · omega
  · rename_i h0
    have a : k < chunksN s.size size := (chunksN_lt hs).2 (by
      rcases h1 with h | h
      · rw [h, Nat.zero_mul]; omega
      · exact h)
    have b : ¬ k + 1 < chunksN s.size size := fun h => by have := (chunksN_lt hs).1 h; omega
    omega

def RCutPost (id : Int) (s : ByteArray) (size : Nat) (w : World) (en : Ending) (w' : World) : Prop :=
  Below w.heap.size w w' ∧ ((1024 < (cutL id s size).length ∧ en = .returned (.tuple #[.slice none 0 0, .int .i64 4])) ∨
    ((cutL id s size).length ≤ 1024 ∧ ∃ v, en = .returned (.tuple #[v, .int .i64 0]) ∧ PS w' v (cutL id s size)))

set_option maxRecDepth 100000 in
theorem rcut_bad (id : Int) (s : ByteArray) (size : Int) (w : World) (h : badCut id size) :
    Calls Try.prog 12 #[.int .i64 id, .string s, .int .i64 size] w fun en w' => en = .returned (.tuple #[.slice none 0 0, .int .i64 1]) ∧ Below w.heap.size w w' := by
  have hb : (decide (id < 0) = true) ∨ (decide (id < 0) = false ∧ decide (2147483647 < id) = true) ∨ (decide (id < 0) = false ∧ decide (2147483647 < id) = false ∧ decide (size < 1) = true) ∨
      (decide (id < 0) = false ∧ decide (2147483647 < id) = false ∧ decide (size < 1) = false ∧ decide (65536 < size) = true) := by
    unfold badCut at h
    by_cases c1 : id < 0
    · exact .inl (by simp; exact c1)
    · by_cases c2 : 2147483647 < id
      · exact .inr (.inl ⟨by simp; omega, by simp; omega⟩)
      · by_cases c3 : size < 1
        · exact .inr (.inr (.inl ⟨by simp; omega, by simp; omega, by simp; omega⟩))
        · exact .inr (.inr (.inr ⟨by simp; omega, by simp; omega, by simp; omega, by simp; omega⟩))
  clear h
  rcases hb with h0 | ⟨h0, h1⟩ | ⟨h0, h1, h2⟩ | ⟨h0, h1, h2, h3⟩
  all_goals
    go_enter Try.func12, Try.ntmps12
    go_wp2_with fail
    go_returns
    exact ⟨rfl, Below.refl _ _⟩

set_option maxRecDepth 100000 in
set_option maxHeartbeats 2000000 in
theorem rcut_right (id : Int) (s : ByteArray) (size : Nat) (w : World) (h : ¬ badCut id size) (hs : s.size ≤ 100000) :
    Calls Try.prog 12 #[.int .i64 id, .string s, .int .i64 size] w (RCutPost id s size w) := by
  unfold badCut at h
  have h0 : decide (id < 0) = false := by simp; omega
  have h1 : decide (2147483647 < id) = false := by simp; omega
  have h2 : decide ((size : Int) < 1) = false := by simp; omega
  have h3 : decide (65536 < (size : Int)) = false := by simp; omega
  have hs1 : Hid (1 ≤ size) := by unfold Hid; omega
  have hss := Lib.hid hs
  clear h hs
  obtain ⟨B, hB⟩ : ∃ B, w.heap.size = B := ⟨_, rfl⟩
  go_enter Try.func12, Try.ntmps12
  go_wp2_with fail
  go_loopw [1, 8] (fun sv tv wi => ∃ (k : Nat) (R : ByteArray) (acc : List ByteArray), sv = .string R ∧ Hid (R = restT s size k ∧ (k = 0 ∨ k * size < s.size)) ∧ Hid (acc = piecesK s size k) ∧ k ≤ 100000 ∧ R.size ≤ 100000 ∧ Hid (OwnS wi B 9 tv acc) ∧ Hid (Below B w wi)) (fun sv _ _ => match sv with | .string R => R.size | _ => 0)
  case atStart => exact ⟨0, s, [], rfl, ⟨(restT_zero s size).symm, .inl rfl⟩, rfl, by omega, hss.out, OwnS.nil _ _ _, Below.refl _ _⟩
  case round =>
    obtain ⟨k, R, acc, rfl, hR, hacc, hk, hRs, hown, hbl⟩ := hrel
    have hBr : B ≤ wr.heap.size := by have := hbl.out.size; omega
    obtain ⟨ao, cap, hv⟩ := hown.out.rs.slice
    subst hv
    have hal : acc.length ≤ 100000 := by rw [hacc.out, piecesK_len]; exact hk
    by_cases c : size < R.size
    · have d5 : decide ((size : Int) < (R.size : Int)) = true := by simp; omega
      have hpc : Hid (acc ++ [R.extract 0 size] = piecesK s size (k + 1)) := by unfold Hid; rw [piecesK_succ, hacc.out, hR.out.1, rest_piece]
      have hnx : Hid (R.extract size R.size = restT s size (k + 1) ∧ (k + 1 = 0 ∨ (k + 1) * size < s.size)) := by
        refine ⟨by rw [hR.out.1, rest_next], .inr ?_⟩
        have hsz := hR.out.1 ▸ restT_size s size k
        rw [Nat.add_mul, Nat.one_mul]; omega
      have hsz2 : (R.extract size R.size).size = R.size - size := by rw [ByteArray.size_extract]; omega
      have hk2 : k + 1 ≤ 100000 := by
        have h1 := hnx.out.2
        have h2 := hss.out
        have h3 : (k + 1) * 1 ≤ (k + 1) * size := Nat.mul_le_mul_left _ hs1.out
        omega
      go_wp2_with (at_builtin; refine append_strs str_types rfl (.tmp 29) (.tmp 33) rfl B _ acc [R.extract 0 size] 1 rfl wr _ rfl rfl hown.out rfl (by omega) hBr ?_; intro v' w' hown' hb' hsz')
      go_roundw
      case rel => exact ⟨k + 1, R.extract size R.size, acc ++ [R.extract 0 size], rfl, hnx, hpc, hk2, by omega, hown', hbl.out.trans hb'⟩
      case measure => simp only [hsz2]; have := hs1.out; omega
    · have d5 : decide ((size : Int) < (R.size : Int)) = false := by simp; omega
      have hM : Hid (cutN s size = k + 1) := by
        have hsz := hR.out.1 ▸ restT_size s size k
        exact cutN_at hs1.out hR.out.2 (by omega)
      have hpc : Hid (acc ++ [R] = piecesK s size (k + 1)) := by
        have hl := rest_last s size k (by rw [← hR.out.1]; omega)
        unfold Hid; rw [piecesK_succ, hacc.out, ← hl, ← hR.out.1]
      obtain ⟨M, hMe⟩ : ∃ M, k + 1 = M := ⟨_, rfl⟩
      rw [hMe] at hM hpc
      have eL : Hid (cutL id s size = cutK id M s size M) := by unfold Hid; rw [cutL_eq, hM.out]
      have hM1 : M ≤ 100001 := by omega
      have hpl : Hid ((acc ++ [R]).length = M) := by unfold Hid; rw [hpc.out, piecesK_len]
      clear hMe
      by_cases hbig : 1024 < M
      · have d6 : decide (1024 < (M : Int)) = true := by simp; omega
        go_wp2_with (at_builtin; refine append_strs str_types rfl (.tmp 38) (.tmp 40) rfl B _ acc [R] 1 rfl wr _ rfl rfl hown.out rfl (by omega) hBr ?_; intro v' w' hown' hb' hsz'; obtain ⟨ao9, cap9, hv9⟩ := hown'.rs.slice; rw [hpl.out] at hv9; have hbw := Lib.hid (hbl.out.trans hb'); clear hown' hb'; subst hv9)
        go_returns
        exact ⟨hB ▸ hbw.out, .inl ⟨by rw [eL.out, cutK_len]; exact hbig, rfl⟩⟩
      · have d6 : decide (1024 < (M : Int)) = false := by simp; omega
        go_wp2_with (at_builtin; refine append_strs str_types rfl (.tmp 38) (.tmp 40) rfl B _ acc [R] 1 rfl wr _ rfl rfl hown.out rfl (by omega) hBr ?_; intro v' w' hown' hb' hsz'; obtain ⟨ao9, cap9, hv9⟩ := hown'.rs.slice; rw [hpl.out] at hv9; have hrsT := Lib.hid (hpc.out ▸ hown'.rs); have hbw := Lib.hid (hbl.out.trans hb'); clear hown' hb'; subst hv9)
        obtain ⟨B2, hB2⟩ : ∃ B2, w'.heap.size = B2 := ⟨_, rfl⟩
        have hBB : B ≤ B2 := by have := hbw.out.size; omega
        have hrsT2 : Hid (RS w' (.slice ao9 (piecesK s size M).length cap9) (piecesK s size M)) := by unfold Hid; rw [piecesK_len]; exact hrsT.out
        clear hrsT hown hbl hacc hR
        go_loopw [9, 10] (fun ov iv wi => ∃ i : Nat, iv = .int .i64 i ∧ i ≤ M ∧ Hid (OwnP wi B2 31 ov (cutK id M s size i)) ∧ Hid (Below B2 w' wi)) (fun _ iv _ => M - (intOf iv).toNat)
        case atStart => exact ⟨0, rfl, by omega, OwnP.nil _ _ _, Below.refl _ _⟩
        case round =>
          obtain ⟨i, rfl, hi, hown, hbl⟩ := hrel
          have hBr2 : B2 ≤ wr.heap.size := by have := hbl.out.size; omega
          have hBr3 : B2 ≤ wr.heap.size := hBr2
          obtain ⟨ao5, cap5, hv5⟩ := hown.out.ps.slice
          rw [cutK_len] at hv5
          subst hv5
          by_cases c : i < M
          · have hc' : i < (piecesK s size M).length := by rw [piecesK_len]; exact c
            obtain ⟨b, off, rfl, hb9, hcl⟩ := hrsT2.out.at_ hc'
            have hgi : (piecesK s size M)[i] = pieceT s size i := by simp [piecesK]
            rw [hgi] at hcl
            have hb10 : b < B2 := hB2 ▸ hb9
            have hcr : wr.cell? ⟨b, off + i, none⟩ = some (.string (pieceT s size i)) := (hbl.out.cell (p := ⟨b, off + i, none⟩) hb10).trans hcl
            have hnx : Hid (cutK id M s size i ++ [⟨id, (i : Int), (M : Int), pieceT s size i⟩] = cutK id M s size (i + 1)) := (cutK_succ id M s size i).symm
            have hlen : Hid ((cutK id M s size i).length = i) := cutK_len id M s size i
            clear hcl hgi hc'
            generalize cutK id M s size i = LK at *
            generalize pieceT s size i = T at *
            go_wp2_with (at_builtin; refine append_part rpart_types rfl (.tmp 51) (.tmp 61) rfl B2 _ LK ⟨id, (i : Int), (M : Int), T⟩ wr _ rfl rfl hown.out rfl (by have := hlen.out; omega) hBr2 ?_; intro v2 w2 hown2 hb2 hsz2)
            go_roundw
            case rel => exact ⟨i + 1, by go_num, by omega, hnx.out ▸ hown2, hbl.out.trans hb2⟩
            case measure => simp [intOf]; omega
          · obtain rfl : i = M := by omega
            go_wp2_with fail
            go_returns
            refine ⟨?_, .inr ⟨by rw [eL.out, cutK_len]; omega, _, rfl, eL.out ▸ hown.out.ps⟩⟩
            rw [hB]
            exact hbw.out.trans (hbl.out.mono hBB)
end Go.Proofs.Ytemfecdpjegocaa
