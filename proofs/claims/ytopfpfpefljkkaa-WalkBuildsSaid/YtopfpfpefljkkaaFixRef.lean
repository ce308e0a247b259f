/- The document's numbers by digits of base 256: Least, Big, Turned, Number. -/
import Derived.Test.YtopfpfpefljkkaaFix
import Derived.Lib.Strings
namespace Go.Proofs.Ytopfpfpefljkkaa
open Go.RowKit
set_option linter.unusedVariables false

theorem bext {a b : ByteArray} (h : a.data.toList = b.data.toList) : a = b := by
  apply ByteArray.ext
  exact Array.toList_inj.1 h
theorem bmk (a : ByteArray) : a = ⟨a.data.toList.toArray⟩ := bext rfl
theorem str_ret {x : ByteArray} {l : List UInt8} (h : x.data.toList = l) : Ending.returned (.string x) = .returned (.string ⟨l.toArray⟩) := by
  rw [bmk x, h]

theorem lsStep {t l : List UInt8} {m : Nat} (h : t = l ++ lsN m) (c : 0 < m) : t = (l ++ [UInt8.ofNat (m % 256)]) ++ lsN (m / 256) := by
  rw [h, lsN_pos m c, List.append_assoc]; rfl

set_option maxRecDepth 100000 in
set_option maxHeartbeats 400000 in
theorem ref_least (n : Nat) (w : World) (hn : n < 18446744073709551616) :
    Calls Try.prog 56 #[.int .u64 n] w fun e w' => e = .returned (.string ⟨(lsN n).reverse.toArray⟩) ∧ Below w.heap.size w w' := by
  have h8 := lsN_le 8 n (Nat.lt_of_lt_of_le hn (by decide))
  obtain ⟨t, ht⟩ : ∃ t, t = lsN n := ⟨_, rfl⟩
  rw [← ht] at h8 ⊢
  have H0 : Hid (t = [] ++ lsN n) := ht
  clear ht
  obtain ⟨B, hB⟩ : ∃ B, B = w.heap.size := ⟨_, rfl⟩
  have hB0 : B ≤ w.heap.size := by omega
  rw [← hB]
  clear hB
  go_enter Try.func56, Try.ntmps56
  go_wp2_with fail
  go_loopw [0, 3] (fun nv v wr => ∃ (m : Nat) (x : ByteArray) (l : List UInt8), nv = .int .u64 m ∧ v = .string x ∧ Hid (x.data.toList = l.reverse) ∧ Hid (t = l ++ lsN m) ∧ Below B w wr ∧ m < 18446744073709551616) (fun nv _ _ => (intOf nv).toNat)
  case atStart => exact ⟨n, _, [], rfl, rfl, rfl, H0, Below.refl _ _, hn⟩
  case round =>
    obtain ⟨m, x, l, rfl, rfl, hx, ht, hbl, hm⟩ := hrel
    have hBr : B ≤ wr.heap.size := by have := hbl.size; omega
    by_cases c : 0 < m
    · have hnx := Lib.hid (lsStep ht.out c)
      have hxs : x.size ≤ 8 := by
        have h1 := congrArg List.length hx.out
        have h2 := congrArg List.length ht.out
        simp at h1 h2; omega
      have hst := fun W => string_lit btf W [UInt8.ofNat (m % 256)] #[.int .u8 ((m : Int) % 256)] 1 rfl (lit1 (by omega) (by omega)) (by decide)
      go_wp2_with fail
      go_roundw
      case rel => exact ⟨m / 256, _, l ++ [UInt8.ofNat (m % 256)], by go_num, rfl, by unfold Hid; simp [hx.out], hnx, hbl.alloc hBr _, by omega⟩
      case measure => simp [intOf]; omega
    · obtain rfl : m = 0 := by omega
      go_wp2_with fail
      go_returns
      exact ⟨str_ret (by rw [hx.out, ht.out, lsN_zero, List.append_nil]), hbl⟩

theorem ext_at (s : ByteArray) (k : Nat) (h : k < s.size) : (s.extract k (k + 1)).data.toList = [s[k]] := by
  rw [Lib.extract_data, show k + 1 - k = 1 by omega, List.drop_eq_getElem_cons (by simpa using h)]; rfl

set_option maxRecDepth 100000 in
set_option maxHeartbeats 400000 in
theorem ref_number (s : ByteArray) (w : World) (h8 : s.size ≤ 8) :
    Calls Try.prog 50 #[.string s] w fun e w' => e = .returned (.int .u64 (valB s.data.toList)) ∧ w = w' := by
  go_enter Try.func50, Try.ntmps50
  go_wp2_with fail
  go_loop [3, 4] (fun v i => ∃ (k n : Nat), k ≤ s.size ∧ i = .int .i64 k ∧ v = .int .u64 n ∧ Hid (n = valB (s.data.toList.take k))) (fun _ i => s.size - (intOf i).toNat)
  case atStart => exact ⟨0, 0, by omega, rfl, rfl, rfl⟩
  case round =>
    obtain ⟨k, n, hk, rfl, rfl, hv⟩ := hrel
    by_cases c : k < s.size
    · have hb : s[k].toNat ≤ 255 := by have := s[k].toNat_lt; omega
      have hnx : Hid (256 * n + s[k].toNat = valB (s.data.toList.take (k + 1))) := by unfold Hid; rw [fix_at s k c, valB_snoc, hv.out]
      have hlt : 256 * n + s[k].toNat < 18446744073709551616 := by
        rw [hnx.out]
        have h1 := valB_lt (s.data.toList.take (k + 1))
        have h2 : (s.data.toList.take (k + 1)).length ≤ 8 := by rw [List.length_take]; omega
        exact Nat.lt_of_lt_of_le h1 (pow256_8 _ h2)
      go_wp2_with fail
      go_round
      case rel => exact ⟨k + 1, _, by omega, by go_num, by go_num, hnx⟩
      case measure => simp [intOf]; omega
    · obtain rfl : k = s.size := by omega
      go_wp2_with fail
      go_returns
      exact ⟨by rw [hv.out, List.take_of_length_le (by simp)]; rfl, rfl⟩

theorem rep_rev (l : List UInt8) (j : Nat) : (l ++ List.replicate j 0).reverse = List.replicate j 0 ++ l.reverse := by simp
end Go.Proofs.Ytopfpfpefljkkaa
