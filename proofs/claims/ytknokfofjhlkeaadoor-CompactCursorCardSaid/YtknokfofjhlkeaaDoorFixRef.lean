/- The document's numbers by digits of base 256: Least, Big, Turned, Number. -/
import Derived.Test.YtknokfofjhlkeaaDoorFix
import Derived.Lib.Strings
namespace Go.Proofs.YtknokfofjhlkeaaDoor
open Go.RowKit
set_option linter.unusedVariables false

theorem bext {a b : ByteArray} (h : a.data.toList = b.data.toList) : a = b := by
  apply ByteArray.ext
  exact Array.toList_inj.1 h
theorem bmk (a : ByteArray) : a = ⟨a.data.toList.toArray⟩ := bext rfl
theorem str_ret {x : ByteArray} {l : List UInt8} (h : x.data.toList = l) : Ending.returned (.string x) = .returned (.string ⟨l.toArray⟩) := by
  rw [bmk x, h]

theorem lsStep {t l : List UInt8} {m : Nat} (h : t = l ++ lsN m) (c : 0 < m) : t = (l ++ [UInt8.ofNat (m % 256)]) ++ lsN (m / 256) := by
  rw [h, lsN_pos m c, List.append_assoc]; rfl

set_option maxRecDepth 100000 in
set_option maxHeartbeats 400000 in
theorem ref_least (n : Nat) (w : World) (hn : n < 18446744073709551616) :
    Calls Tryd.prog 34 #[.int .u64 n] w fun e w' => e = .returned (.string ⟨(lsN n).reverse.toArray⟩) ∧ Below w.heap.size w w' := by
  have h8 := lsN_le 8 n (Nat.lt_of_lt_of_le hn (by decide))
  obtain ⟨t, ht⟩ : ∃ t, t = lsN n := ⟨_, rfl⟩
  rw [← ht] at h8 ⊢
  have H0 : Hid (t = [] ++ lsN n) := ht
  clear ht
  obtain ⟨B, hB⟩ : ∃ B, B = w.heap.size := ⟨_, rfl⟩
  have hB0 : B ≤ w.heap.size := by omega
  rw [← hB]
  clear hB
  go_enter Tryd.func34, Tryd.ntmps34
  go_wp2_with fail
  go_loopw [0, 3] (fun nv v wr => ∃ (m : Nat) (x : ByteArray) (l : List UInt8), nv = .int .u64 m ∧ v = .string x ∧ Hid (x.data.toList = l.reverse) ∧ Hid (t = l ++ lsN m) ∧ Below B w wr ∧ m < 18446744073709551616) (fun nv _ _ => (intOf nv).toNat)
  case atStart => exact ⟨n, _, [], rfl, rfl, rfl, H0, Below.refl _ _, hn⟩
  case round =>
    obtain ⟨m, x, l, rfl, rfl, hx, ht, hbl, hm⟩ := hrel
    have hBr : B ≤ wr.heap.size := by have := hbl.size; omega
    by_cases c : 0 < m
    · have hnx := Lib.hid (lsStep ht.out c)
      have hxs : x.size ≤ 8 := by
        have h1 := congrArg List.length hx.out
        have h2 := congrArg List.length ht.out
        simp at h1 h2; omega
      have hst := fun W => string_lit btf W [UInt8.ofNat (m % 256)] #[.int .u8 ((m : Int) % 256)] 1 rfl (lit1 (by omega) (by omega)) (by decide)
      go_wp2_with fail
      go_roundw
      case rel => exact ⟨m / 256, _, l ++ [UInt8.ofNat (m % 256)], by go_num, rfl, by unfold Hid; simp [hx.out], hnx, hbl.alloc hBr _, by omega⟩
      case measure => simp [intOf]; omega
    · obtain rfl : m = 0 := by omega
      go_wp2_with fail
      go_returns
      exact ⟨str_ret (by rw [hx.out, ht.out, lsN_zero, List.append_nil]), hbl⟩

theorem ext_at (s : ByteArray) (k : Nat) (h : k < s.size) : (s.extract k (k + 1)).data.toList = [s[k]] := by
  rw [Lib.extract_data, show k + 1 - k = 1 by omega, List.drop_eq_getElem_cons (by simpa using h)]; rfl

set_option maxRecDepth 100000 in
set_option maxHeartbeats 400000 in
theorem ref_turned (s : ByteArray) (w : World) (hs : s.size ≤ maxLen) :
    Calls Tryd.prog 22 #[.string s] w fun e w' => e = .returned (.string ⟨s.data.toList.reverse.toArray⟩) ∧ w = w' := by
  unfold maxLen at hs
  go_enter Tryd.func22, Tryd.ntmps22
  go_wp2_with fail
  go_loop [3, 4] (fun v i => ∃ (k : Nat) (x : ByteArray), k ≤ s.size ∧ i = .int .i64 k ∧ v = .string x ∧ Hid (x.data.toList = (s.data.toList.take k).reverse)) (fun _ i => s.size - (intOf i).toNat)
  case atStart => exact ⟨0, _, by omega, rfl, rfl, rfl⟩
  case round =>
    obtain ⟨k, x, hk, rfl, rfl, hx⟩ := hrel
    by_cases c : k < s.size
    · have hxs : x.size ≤ k := by
        have h1 := congrArg List.length hx.out
        simp at h1; omega
      have hnx : Hid ((s.extract k (k + 1) ++ x).data.toList = (s.data.toList.take (k + 1)).reverse) := by
        unfold Hid
        rw [fix_at s k c, List.reverse_append, ← hx.out, ByteArray.data_append, Array.toList_append, ext_at s k c]; rfl
      go_wp2_with fail
      go_round
      case rel => exact ⟨k + 1, _, by omega, by go_num, rfl, hnx⟩
      case measure => simp [intOf]; omega
    · obtain rfl : k = s.size := by omega
      go_wp2_with fail
      go_returns
      exact ⟨str_ret (by rw [hx.out, List.take_of_length_le (by simp)]), rfl⟩

set_option maxRecDepth 100000 in
set_option maxHeartbeats 400000 in
theorem ref_number (s : ByteArray) (w : World) (h8 : s.size ≤ 8) :
    Calls Tryd.prog 21 #[.string s] w fun e w' => e = .returned (.int .u64 (valB s.data.toList)) ∧ w = w' := by
  go_enter Tryd.func21, Tryd.ntmps21
  go_wp2_with fail
  go_loop [3, 4] (fun v i => ∃ (k n : Nat), k ≤ s.size ∧ i = .int .i64 k ∧ v = .int .u64 n ∧ Hid (n = valB (s.data.toList.take k))) (fun _ i => s.size - (intOf i).toNat)
  case atStart => exact ⟨0, 0, by omega, rfl, rfl, rfl⟩
  case round =>
    obtain ⟨k, n, hk, rfl, rfl, hv⟩ := hrel
    by_cases c : k < s.size
    · have hb : s[k].toNat ≤ 255 := by have := s[k].toNat_lt; omega
      have hnx : Hid (256 * n + s[k].toNat = valB (s.data.toList.take (k + 1))) := by unfold Hid; rw [fix_at s k c, valB_snoc, hv.out]
      have hlt : 256 * n + s[k].toNat < 18446744073709551616 := by
        rw [hnx.out]
        have h1 := valB_lt (s.data.toList.take (k + 1))
        have h2 : (s.data.toList.take (k + 1)).length ≤ 8 := by rw [List.length_take]; omega
        exact Nat.lt_of_lt_of_le h1 (pow256_8 _ h2)
      go_wp2_with fail
      go_round
      case rel => exact ⟨k + 1, _, by omega, by go_num, by go_num, hnx⟩
      case measure => simp [intOf]; omega
    · obtain rfl : k = s.size := by omega
      go_wp2_with fail
      go_returns
      exact ⟨by rw [hv.out, List.take_of_length_le (by simp)]; rfl, rfl⟩

theorem rep_rev (l : List UInt8) (j : Nat) : (l ++ List.replicate j 0).reverse = List.replicate j 0 ++ l.reverse := by simp
set_option maxRecDepth 100000 in
set_option maxHeartbeats 400000 in
theorem ref_big (n k : Nat) (w : World) (hn : n < 18446744073709551616) (h8 : k ≤ 8) (h : n < 256 ^ k) :
    Calls Tryd.prog 29 #[.int .u64 n, .int .i64 k] w fun e w' => e = .returned (.tuple #[.string ⟨(leN k n).reverse.toArray⟩, .bool true]) ∧ Below w.heap.size w w' := by
  have c1 := Lib.hid (ref_least n w hn)
  have hl := (lsN_len k n).2 h
  have hp := Lib.hid (leN_pad k n h)
  obtain ⟨L, hL⟩ : ∃ L : ByteArray, L = ⟨(lsN n).reverse.toArray⟩ := ⟨_, rfl⟩
  have hLd : L.data.toList = (lsN n).reverse := by rw [hL]
  rw [← hL] at c1
  have hLs : L.size = (lsN n).length := by have := congrArg List.length hLd; simpa using this
  rw [← hLs] at hl hp
  have HL := Lib.hid hLd
  clear hL hLd hLs h
  obtain ⟨B, hB⟩ : ∃ B, B = w.heap.size := ⟨_, rfl⟩
  rw [← hB] at c1 ⊢
  go_enter Tryd.func29, Tryd.ntmps29
  go_wp2_with fail
  refine c1.out.mono ?_
  rintro e w1 ⟨rfl, hbl⟩
  clear hB
  go_wp2_with fail
  go_loop [6] (fun v => ∃ (j : Nat) (x : ByteArray), v = .string x ∧ x.size = L.size + j ∧ L.size + j ≤ k ∧ Hid (x.data.toList = List.replicate j 0 ++ L.data.toList)) (fun v => match v with | .string x => k - x.size | _ => 0)
  case atStart => exact ⟨0, L, rfl, rfl, hl, rfl⟩
  case round =>
    obtain ⟨j, x, rfl, hxs, hj, hx⟩ := hrel
    by_cases c : x.size < k
    · have hnx : Hid (((⟨#[0]⟩ : ByteArray) ++ x).data.toList = List.replicate (j + 1) 0 ++ L.data.toList) := by
        unfold Hid; rw [ByteArray.data_append, Array.toList_append, hx.out, List.replicate_succ]; rfl
      have hsz : ((⟨#[0]⟩ : ByteArray) ++ x).size = L.size + (j + 1) := by rw [ByteArray.size_append, hxs]; show 1 + _ = _; omega
      have HX := Lib.hid hxs
      clear hxs
      go_wp2_with fail
      go_round
      case rel => exact ⟨j + 1, _, rfl, hsz, by have := HX.out; omega, hnx⟩
      case measure => have := HX.out; simp only []; rw [hsz]; omega
    · have HX := Lib.hid hxs
      clear hxs
      go_wp2_with fail
      go_returns
      refine ⟨?_, hbl⟩
      have e : x = ⟨(leN k n).reverse.toArray⟩ := bext (by
        have := HX.out
        rw [hx.out, hp.out, rep_rev, HL.out, show k - L.size = j by omega])
      rw [e]; rfl
set_option maxRecDepth 100000 in
theorem ref_big_over (n : Nat) (k : Int) (w : World) (hn : n < 18446744073709551616) (h : k < (lsN n).length) :
    Calls Tryd.prog 29 #[.int .u64 n, .int .i64 k] w fun e w' => e = .returned (.tuple #[.string ⟨#[]⟩, .bool false]) ∧ Below w.heap.size w w' := by
  have c1 := Lib.hid (ref_least n w hn)
  obtain ⟨L, hL⟩ : ∃ L : ByteArray, L = ⟨(lsN n).reverse.toArray⟩ := ⟨_, rfl⟩
  rw [← hL] at c1
  have hLs : k < L.size := by rw [hL, size_mk]; simpa using h
  have hl : L.size ≤ 8 := by rw [hL, size_mk]; have := lsN_le 8 n (Nat.lt_of_lt_of_le hn (by decide)); simpa using this
  clear hL h
  go_enter Tryd.func29, Tryd.ntmps29
  go_wp2_with fail
  refine c1.out.mono ?_
  rintro e w1 ⟨rfl, hbl⟩
  go_wp2_with fail
  go_returns
  exact ⟨rfl, hbl⟩
end Go.Proofs.YtknokfofjhlkeaaDoor
