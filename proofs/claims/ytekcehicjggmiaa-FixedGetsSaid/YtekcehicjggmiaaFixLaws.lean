/- The walks of alive, FixedOrder, FixedGets, FixedPuts. -/
import Derived.Test.YtekcehicjggmiaaFixBig
import Derived.WalkLawsBesides
namespace Go.Proofs.Ytekcehicjggmiaa
open Go.RowKit
set_option linter.unusedVariables false

theorem fu64 {x : Int} (h : (Lit.int .u64 x).wf = true) : ∃ n : Nat, x = n ∧ n < 18446744073709551616 := by
  have : 0 ≤ x ∧ x ≤ 18446744073709551615 := by simpa [Lit.wf, IntKind.min, IntKind.max, IntKind.signed, IntKind.bits] using h
  exact ⟨x.toNat, by omega, by omega⟩

theorem fa1 (w : World) : Calls Try.prog 26 #[.int .u64 258, .int .i64 3] w fun e w' => e = .returned (.tuple #[.string ⟨#[2, 1, 0]⟩, .int .i64 0]) ∧ Below w.heap.size w w' :=
  fix_little 258 3 w (by decide) (by decide) (by decide) (by decide)
theorem fa2 (w : World) : Calls Try.prog 22 #[.int .u64 258, .int .i64 3] w fun e w' => e = .returned (.tuple #[.string ⟨#[0, 1, 2]⟩, .int .i64 0]) ∧ Below w.heap.size w w' :=
  fix_big 258 3 w (by decide) (by decide) (by decide) (by decide)
theorem fa3 (w : World) : Calls Try.prog 28 #[.string ⟨#[0, 1]⟩] w fun e w' => e = .returned (.tuple #[.int .u64 0, .int .i64 3]) ∧ w = w' :=
  fix_getleast ⟨#[0, 1]⟩ w (by decide)
theorem fa4 (w : World) : Calls Try.prog 27 #[.int .u64 258] w fun e w' => e = .returned (.string ⟨#[1, 2]⟩) ∧ Below w.heap.size w w' := by
  have := fix_least 258 w (by decide)
  have e : lsN 258 = [2, 1] := by rw [lsN_pos 258 (by omega), lsN_pos _ (by omega), lsN_zero]; rfl
  rw [e] at this
  exact this

set_option maxRecDepth 100000 in
set_option maxHeartbeats 400000 in
theorem fix_alive (w : World) : Calls Try.prog 21 #[] w fun e w' => e = .returned (.bool true) ∧ Below w.heap.size w w' := by
  go_enter Try.func21, Try.ntmps21
  go_wp2_with fail
  refine (fa1 _).mono ?_
  rintro e w1 ⟨rfl, hb1⟩
  go_wp2_with fail
  refine (fa2 _).mono ?_
  rintro e w2 ⟨rfl, hb2⟩
  go_wp2_with fail
  refine (fa3 _).mono ?_
  rintro e w' ⟨rfl, rfl⟩
  go_wp2_with fail
  refine (fa4 _).mono ?_
  rintro e w3 ⟨rfl, hb3⟩
  go_wp2_with fail
  go_returns
  exact ⟨rfl, hb1.trans ((hb2.mono hb1.size).trans (hb3.mono (Nat.le_trans hb1.size hb2.size)))⟩

theorem bytesLess_iff : ∀ (l m : List UInt8), Op.bytesLess l m = decide (l < m)
  | [], [] => by simp [Op.bytesLess]
  | _ :: _, [] => by simp [Op.bytesLess]
  | [], _ :: _ => by simp [Op.bytesLess]
  | a :: x, b :: y => by
    rw [Op.bytesLess, bytesLess_iff x y, Bool.eq_iff_iff]
    simp [List.cons_lt_cons_iff]

set_option maxRecDepth 100000 in
set_option maxHeartbeats 400000 in
theorem fixed_order (x y : Int) (w : World) (hx : (Lit.int .u64 x).wf = true) (hy : (Lit.int .u64 y).wf = true) :
    Calls Try.prog 5 #[.int .u64 x, .int .u64 y] w fun e w' => e = .returned (.bool true) ∧ Below w.heap.size w w' := by
  obtain ⟨a, rfl, ha⟩ := fu64 hx
  obtain ⟨b, rfl, hb⟩ := fu64 hy
  clear hx hy
  have ha8 : a < 256 ^ 8 := ha
  have hb8 : b < 256 ^ 8 := hb
  have c1 := Lib.hid (fun w => fix_big a 8 w ha (by omega) (by omega) ha8)
  have c2 := Lib.hid (fun w => fix_big b 8 w hb (by omega) (by omega) hb8)
  have hlt : Hid (Op.bytesLess (⟨(leN 8 a).reverse.toArray⟩ : ByteArray).toList (⟨(leN 8 b).reverse.toArray⟩ : ByteArray).toList = decide ((a : Int) < (b : Int))) := by
    unfold Hid
    rw [Lib.toList_data, Lib.toList_data, bytesLess_iff, decide_eq_decide]
    exact (beN_lt 8 a b ha8 hb8).trans (by omega)
  have heq : Hid (((⟨(leN 8 a).reverse.toArray⟩ : ByteArray).toList == (⟨(leN 8 b).reverse.toArray⟩ : ByteArray).toList) = ((a : Int) == (b : Int))) := by
    unfold Hid
    rw [Lib.toList_data, Lib.toList_data, Bool.eq_iff_iff, beq_iff_eq, beq_iff_eq]
    show (leN 8 a).reverse = (leN 8 b).reverse ↔ _
    rw [List.reverse_inj, leN_inj 8 a b ha8 hb8]; omega
  generalize (⟨(leN 8 a).reverse.toArray⟩ : ByteArray) = X at *
  generalize (⟨(leN 8 b).reverse.toArray⟩ : ByteArray) = Y at *
  clear ha8 hb8
  go_enter Try.func5, Try.ntmps5
  go_wp2_with fail
  refine (fix_alive _).mono ?_
  rintro e w1 ⟨rfl, hb1⟩
  go_wp2_with fail
  refine (c1.out _).mono ?_
  rintro e w2 ⟨rfl, hb2⟩
  go_wp2_with fail
  refine (c2.out _).mono ?_
  rintro e w3 ⟨rfl, hb3⟩
  have hlt' := hlt.out
  have heq' := heq.out
  go_wp2_with fail
  go_returns
  exact ⟨by simp, hb1.trans ((hb2.mono hb1.size).trans (hb3.mono (Nat.le_trans hb1.size hb2.size)))⟩

theorem getLst_put (n : Nat) (hn : n < 18446744073709551616) : getLst (lsN n).reverse = (n, 0) := by
  by_cases c : n = 0
  · subst c; rw [lsN_zero]; rfl
  · obtain ⟨l, b, h1, h2⟩ := lsN_last n (by omega)
    have h8 := lsN_le 8 n (Nat.lt_of_lt_of_le hn (by decide))
    have hv := valL_lsN n
    rw [h1] at h8 hv ⊢
    rw [List.reverse_append, List.reverse_singleton, List.singleton_append, getLst, if_neg (by simp at h8 ⊢; omega), if_neg h2]
    unfold valB
    rw [List.reverse_cons, List.reverse_reverse, hv]
theorem lsN_valB (s : ByteArray) (hp : 0 < s.size) (h : s[0].toNat ≠ 0) : (lsN (valB s.data.toList)).reverse = s.data.toList := by
  unfold valB
  rw [toList_cons' s hp, List.reverse_cons, lsN_valL _ _ h, List.reverse_append, List.reverse_reverse]; rfl

set_option maxRecDepth 100000 in
set_option maxHeartbeats 800000 in
theorem fixed_gets (s : ByteArray) (w : World) (hs : s.size ≤ maxLen) :
    Calls Try.prog 9 #[.string s] w fun e w' => e = .returned (.bool true) ∧ Below w.heap.size w w' := by
  have c3 := Lib.hid (fun w => fix_getleast s w hs)
  unfold maxLen at hs
  by_cases h100 : 100 < s.size
  · go_enter Try.func9, Try.ntmps9
    go_wp2_with fail
    refine (fix_alive _).mono ?_
    rintro e w1 ⟨rfl, hb1⟩
    go_wp2_with fail
    go_returns
    exact ⟨rfl, hb1⟩
  · by_cases h8 : 8 < s.size
    · have c1 := Lib.hid (fun w => fix_getlittle_over s w h8)
      have c2 := Lib.hid (fun w => fix_getbig_over s w h8)
      have e : getLst s.data.toList = (0, 5) := by
        have hl : (s.data.toList.drop 1).length + 1 = s.size := by rw [List.length_drop]; simp; omega
        rw [toList_cons' s (by omega), getLst, if_pos (by omega)]
      rw [e] at c3
      clear e
      go_enter Try.func9, Try.ntmps9
      go_wp2_with fail
      refine (fix_alive _).mono ?_
      rintro e w1 ⟨rfl, hb1⟩
      go_wp2_with fail
      refine (c1.out _).mono ?_
      rintro e w' ⟨rfl, rfl⟩
      go_wp2_with fail
      refine (c2.out _).mono ?_
      rintro e w' ⟨rfl, rfl⟩
      go_wp2_with fail
      refine (c3.out _).mono ?_
      rintro e w' ⟨rfl, rfl⟩
      unfold n2
      go_wp2_with fail
      go_returns
      exact ⟨rfl, hb1⟩
    · by_cases h0 : s.size = 0
      · have c1 := Lib.hid (fun w => fix_getlittle_none s w h0)
        have c2 := Lib.hid (fun w => fix_getbig_none s w h0)
        have e0 : s = ⟨#[]⟩ := bext (List.length_eq_zero_iff.1 (by simpa using h0))
        subst e0
        have c3' : Hid (∀ w, Calls Try.prog 28 #[.string ⟨#[]⟩] w fun e w' => e = .returned (.tuple #[.int .u64 0, .int .i64 0]) ∧ w = w') := c3.out
        clear h0 c3 hs
        go_enter Try.func9, Try.ntmps9
        go_wp2_with fail
        refine (fix_alive _).mono ?_
        rintro e w1 ⟨rfl, hb1⟩
        go_wp2_with fail
        refine (c1.out _).mono ?_
        rintro e w' ⟨rfl, rfl⟩
        go_wp2_with fail
        refine (c2.out _).mono ?_
        rintro e w' ⟨rfl, rfl⟩
        go_wp2_with fail
        refine (c3'.out _).mono ?_
        rintro e w' ⟨rfl, rfl⟩
        go_wp2_with fail
        go_returns
        exact ⟨rfl, hb1⟩
      · have hp : 0 < s.size := by omega
        have hie := isEmpty_no' s hp
        have hb : s[0].toNat ≤ 255 := by have := s[0].toNat_lt; omega
        have c1 := Lib.hid (fun w => fix_getlittle s w (by omega) (by omega))
        have c2 := Lib.hid (fun w => fix_getbig s w (by omega) (by omega))
        have c4 := Lib.hid (fun w => ref_number s w (by omega))
        have c5 := Lib.hid (fun w => ref_turned s w (by unfold maxLen; omega))
        have hsz : (⟨s.data.toList.reverse.toArray⟩ : ByteArray).size = s.size := by rw [size_mk, List.length_reverse]; simp
        have c6 := Lib.hid (fun w => ref_number ⟨s.data.toList.reverse.toArray⟩ w (by rw [hsz]; omega))
        have e6 : valB (⟨s.data.toList.reverse.toArray⟩ : ByteArray).data.toList = valL s.data.toList := by show valB s.data.toList.reverse = _; unfold valB; rw [List.reverse_reverse]
        rw [e6] at c6
        generalize (⟨s.data.toList.reverse.toArray⟩ : ByteArray) = T at *
        clear e6 h0 h100
        have hl : (s.data.toList.drop 1).length + 1 = s.size := by rw [List.length_drop]; simp; omega
        by_cases hz : s[0].toNat = 0
        · have e : getLst s.data.toList = (0, 3) := by rw [toList_cons' s hp, getLst, if_neg (by omega), if_pos hz]
          rw [e] at c3
          have hz' : ((s[0].toNat : Int) == 0) = true := by rw [beq_iff_eq]; omega
          clear e hz hl
          generalize valL s.data.toList = vl at *
          generalize valB s.data.toList = vb at *
          go_enter Try.func9, Try.ntmps9
          go_wp2_with fail
          refine (fix_alive _).mono ?_
          rintro e w1 ⟨rfl, hb1⟩
          go_wp2_with fail
          refine (c1.out _).mono ?_
          rintro e w' ⟨rfl, rfl⟩
          go_wp2_with fail
          refine (c2.out _).mono ?_
          rintro e w' ⟨rfl, rfl⟩
          go_wp2_with fail
          refine (c3.out _).mono ?_
          rintro e w' ⟨rfl, rfl⟩
          unfold n2
          go_wp2_with fail
          refine (c4.out _).mono ?_
          rintro e w' ⟨rfl, rfl⟩
          go_wp2_with fail
          refine (c5.out _).mono ?_
          rintro e w' ⟨rfl, rfl⟩
          go_wp2_with fail
          refine (c6.out _).mono ?_
          rintro e w' ⟨rfl, rfl⟩
          go_wp2_with fail
          go_returns
          exact ⟨rfl, hb1⟩
        · have e : getLst s.data.toList = (valB s.data.toList, 0) := by rw [toList_cons' s hp, getLst, if_neg (by omega), if_neg hz]
          rw [e] at c3
          have hz' : ((s[0].toNat : Int) == 0) = false := by rw [beq_eq_false_iff_ne]; omega
          have hvb : valB s.data.toList < 18446744073709551616 := by
            have h1 := valB_lt s.data.toList
            have h2 : s.data.toList.length ≤ 8 := by rw [← Lib.size_eq]; omega
            exact Nat.lt_of_lt_of_le h1 (pow256_8 _ h2)
          have c7 := Lib.hid (fun w => fix_least (valB s.data.toList) w hvb)
          have eL : (⟨(lsN (valB s.data.toList)).reverse.toArray⟩ : ByteArray) = s := bext (lsN_valB s hp hz)
          rw [eL] at c7
          clear e hz hl eL hvb
          generalize valL s.data.toList = vl at *
          generalize valB s.data.toList = vb at *
          go_enter Try.func9, Try.ntmps9
          go_wp2_with fail
          refine (fix_alive _).mono ?_
          rintro e w1 ⟨rfl, hb1⟩
          go_wp2_with fail
          refine (c1.out _).mono ?_
          rintro e w' ⟨rfl, rfl⟩
          go_wp2_with fail
          refine (c2.out _).mono ?_
          rintro e w' ⟨rfl, rfl⟩
          go_wp2_with fail
          refine (c3.out _).mono ?_
          rintro e w' ⟨rfl, rfl⟩
          unfold n2
          go_wp2_with fail
          refine (c4.out _).mono ?_
          rintro e w' ⟨rfl, rfl⟩
          go_wp2_with fail
          refine (c5.out _).mono ?_
          rintro e w' ⟨rfl, rfl⟩
          go_wp2_with fail
          refine (c6.out _).mono ?_
          rintro e w' ⟨rfl, rfl⟩
          go_wp2_with fail
          refine (c7.out _).mono ?_
          rintro e w2 ⟨rfl, hb2⟩
          go_wp2_with fail
          go_returns
          exact ⟨rfl, hb1.trans (hb2.mono hb1.size)⟩

set_option maxRecDepth 100000 in
set_option maxHeartbeats 800000 in
theorem fixed_puts (x y : Int) (w : World) (hx : (Lit.int .u64 x).wf = true) (hy : (Lit.int .i64 y).wf = true) :
    Calls Try.prog 8 #[.int .u64 x, .int .i64 y] w fun e w' => e = .returned (.bool true) ∧ Below w.heap.size w w' := by
  obtain ⟨n, rfl, hn⟩ := fu64 hx
  have hyb : -9223372036854775808 ≤ y ∧ y ≤ 9223372036854775807 := by simpa [Lit.wf, IntKind.min, IntKind.max, IntKind.signed, IntKind.bits] using hy
  clear hx hy
  have h8 := lsN_le 8 n (Nat.lt_of_lt_of_le hn (by decide))
  have c3 := Lib.hid (fun w => fix_least n w hn)
  have c4 : Hid (∀ w, Calls Try.prog 28 #[.string ⟨(lsN n).reverse.toArray⟩] w fun e w' => e = .returned (.tuple #[.int .u64 n, .int .i64 0]) ∧ w = w') := by
    intro w
    have := fix_getleast ⟨(lsN n).reverse.toArray⟩ w (by rw [size_mk, List.length_reverse]; unfold maxLen; omega)
    rw [List.toList_toArray, getLst_put n hn] at this
    exact this
  have c5 := Lib.hid (fun w => ref_least n w hn)
  by_cases hy1 : y < 1 ∨ 8 < y
  · have c1 := Lib.hid (fun w => fix_little_arg n y w hy1)
    have c2 := Lib.hid (fun w => fix_big_arg n y w hy1)
    generalize (⟨(lsN n).reverse.toArray⟩ : ByteArray) = L at *
    rcases hy1 with hy1 | hy1
    · go_enter Try.func8, Try.ntmps8
      go_wp2_with fail
      refine (fix_alive _).mono ?_
      rintro e w1 ⟨rfl, hb1⟩
      go_wp2_with fail
      refine (c1.out _).mono ?_
      rintro e w' ⟨rfl, rfl⟩
      go_wp2_with fail
      refine (c2.out _).mono ?_
      rintro e w' ⟨rfl, rfl⟩
      go_wp2_with fail
      refine (c3.out _).mono ?_
      rintro e w2 ⟨rfl, hb2⟩
      go_wp2_with fail
      refine (c4.out _).mono ?_
      rintro e w' ⟨rfl, rfl⟩
      go_wp2_with fail
      refine (c5.out _).mono ?_
      rintro e w3 ⟨rfl, hb3⟩
      go_wp2_with fail
      go_returns
      exact ⟨rfl, hb1.trans ((hb2.mono hb1.size).trans (hb3.mono (Nat.le_trans hb1.size hb2.size)))⟩
    · have hy2 : decide (y < 1) = false := by simp; omega
      go_enter Try.func8, Try.ntmps8
      go_wp2_with fail
      refine (fix_alive _).mono ?_
      rintro e w1 ⟨rfl, hb1⟩
      go_wp2_with fail
      refine (c1.out _).mono ?_
      rintro e w' ⟨rfl, rfl⟩
      go_wp2_with fail
      refine (c2.out _).mono ?_
      rintro e w' ⟨rfl, rfl⟩
      go_wp2_with fail
      refine (c3.out _).mono ?_
      rintro e w2 ⟨rfl, hb2⟩
      go_wp2_with fail
      refine (c4.out _).mono ?_
      rintro e w' ⟨rfl, rfl⟩
      go_wp2_with fail
      refine (c5.out _).mono ?_
      rintro e w3 ⟨rfl, hb3⟩
      go_wp2_with fail
      go_returns
      exact ⟨rfl, hb1.trans ((hb2.mono hb1.size).trans (hb3.mono (Nat.le_trans hb1.size hb2.size)))⟩
  · obtain ⟨k, rfl⟩ : ∃ k : Nat, y = k := ⟨y.toNat, by omega⟩
    have hk1 : 1 ≤ k := by omega
    have hk8 : k ≤ 8 := by omega
    clear hy1 hyb
    by_cases hov : 256 ^ k ≤ n
    · have c1 := Lib.hid (fun w => fix_little_over n k w hn hk1 hk8 hov)
      have c2 := Lib.hid (fun w => fix_big_over n k w hn hk1 hk8 hov)
      have c6 := Lib.hid (fun w => ref_big_over n k w hn (by have := lsN_len k n; omega))
      generalize (⟨(lsN n).reverse.toArray⟩ : ByteArray) = L at *
      clear hov
      go_enter Try.func8, Try.ntmps8
      go_wp2_with fail
      refine (fix_alive _).mono ?_
      rintro e w1 ⟨rfl, hb1⟩
      go_wp2_with fail
      refine (c1.out _).mono ?_
      rintro e w' ⟨rfl, rfl⟩
      go_wp2_with fail
      refine (c2.out _).mono ?_
      rintro e w' ⟨rfl, rfl⟩
      go_wp2_with fail
      refine (c3.out _).mono ?_
      rintro e w2 ⟨rfl, hb2⟩
      go_wp2_with fail
      refine (c4.out _).mono ?_
      rintro e w' ⟨rfl, rfl⟩
      go_wp2_with fail
      refine (c5.out _).mono ?_
      rintro e w3 ⟨rfl, hb3⟩
      go_wp2_with fail
      refine (c6.out _).mono ?_
      rintro e w4 ⟨rfl, hb4⟩
      go_wp2_with fail
      go_returns
      exact ⟨rfl, hb1.trans ((hb2.mono hb1.size).trans ((hb3.mono (Nat.le_trans hb1.size hb2.size)).trans (hb4.mono (Nat.le_trans hb1.size (Nat.le_trans hb2.size hb3.size)))))⟩
    · have hlt : n < 256 ^ k := by omega
      have c1 := Lib.hid (fun w => fix_little n k w hn hk1 hk8 hlt)
      have c2 := Lib.hid (fun w => fix_big n k w hn hk1 hk8 hlt)
      have c6 := Lib.hid (fun w => ref_big n k w hn hk8 hlt)
      have s1 : (⟨(leN k n).toArray⟩ : ByteArray).size = k := by rw [size_mk, leN_length]
      have s2 : (⟨(leN k n).reverse.toArray⟩ : ByteArray).size = k := by rw [size_mk, List.length_reverse, leN_length]
      have c7 := fun w => fix_getlittle ⟨(leN k n).toArray⟩ w (by omega) (by omega)
      rw [List.toList_toArray, valL_leN k n hlt] at c7
      have c8 := fun w => fix_getbig ⟨(leN k n).reverse.toArray⟩ w (by omega) (by omega)
      have e8 : valB (leN k n).reverse = n := by unfold valB; rw [List.reverse_reverse, valL_leN k n hlt]
      rw [List.toList_toArray, e8] at c8
      have c9 := fun w => ref_turned ⟨(leN k n).reverse.toArray⟩ w (by rw [s2]; unfold maxLen; omega)
      rw [List.toList_toArray, List.reverse_reverse] at c9
      have C7 := Lib.hid c7
      have C8 := Lib.hid c8
      have C9 := Lib.hid c9
      clear c7 c8 c9 e8 s1 s2 hov hlt
      generalize (⟨(lsN n).reverse.toArray⟩ : ByteArray) = L at *
      generalize (⟨(leN k n).reverse.toArray⟩ : ByteArray) = X at *
      generalize (⟨(leN k n).toArray⟩ : ByteArray) = Y at *
      go_enter Try.func8, Try.ntmps8
      go_wp2_with fail
      refine (fix_alive _).mono ?_
      rintro e w1 ⟨rfl, hb1⟩
      go_wp2_with fail
      refine (c1.out _).mono ?_
      rintro e w2 ⟨rfl, hb2⟩
      go_wp2_with fail
      refine (c2.out _).mono ?_
      rintro e w3 ⟨rfl, hb3⟩
      go_wp2_with fail
      refine (c3.out _).mono ?_
      rintro e w4 ⟨rfl, hb4⟩
      go_wp2_with fail
      refine (c4.out _).mono ?_
      rintro e w' ⟨rfl, rfl⟩
      go_wp2_with fail
      refine (c5.out _).mono ?_
      rintro e w5 ⟨rfl, hb5⟩
      go_wp2_with fail
      refine (c6.out _).mono ?_
      rintro e w6 ⟨rfl, hb6⟩
      go_wp2_with fail
      refine (C7.out _).mono ?_
      rintro e w' ⟨rfl, rfl⟩
      go_wp2_with fail
      refine (C8.out _).mono ?_
      rintro e w' ⟨rfl, rfl⟩
      go_wp2_with fail
      refine (C9.out _).mono ?_
      rintro e w' ⟨rfl, rfl⟩
      go_wp2_with fail
      go_returns
      have b2 := hb1.trans (hb2.mono hb1.size)
      have b3 := b2.trans (hb3.mono b2.size)
      have b4 := b3.trans (hb4.mono b3.size)
      have b5 := b4.trans (hb5.mono b4.size)
      exact ⟨rfl, b5.trans (hb6.mono b5.size)⟩
end Go.Proofs.Ytekcehicjggmiaa
