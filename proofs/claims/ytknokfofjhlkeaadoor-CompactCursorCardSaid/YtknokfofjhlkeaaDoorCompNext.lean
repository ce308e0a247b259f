/- The walks of compact.Next and the document's Put and Next. -/
import Derived.Test.YtknokfofjhlkeaaDoorComp
namespace Go.Proofs.YtknokfofjhlkeaaDoor
open Go.RowKit
set_option linter.unusedVariables false

theorem toList_cons (s : ByteArray) (h : 0 < s.size) : s.data.toList = s[0] :: s.data.toList.drop 1 := by
  have h' : 0 < s.data.toList.length := by simpa using h
  have := List.drop_eq_getElem_cons h'
  rw [List.drop_zero] at this
  exact this
theorem ext_behind (s : ByteArray) (k : Nat) : (s.extract 1 (1 + k)).data.toList = (s.data.toList.drop 1).take k := by
  rw [Lib.extract_data, show 1 + k - 1 = k by omega]
theorem isEmpty_no (s : ByteArray) (h : 0 < s.size) : s.toList.isEmpty = false := by
  rw [Lib.toList_data, toList_cons s h]; rfl
theorem cNext_s0 (s : ByteArray) (h : 0 < s.size) (h1 : s[0].toNat < 253) : cNext s.data.toList = (s[0].toNat, 1, 0) := by
  rw [toList_cons s h, cNext, if_pos h1]
theorem cNext_s1 (s : ByteArray) (h : 0 < s.size) (h1 : 253 ≤ s[0].toNat) (h2 : s.size < 1 + cBehind s[0].toNat) : cNext s.data.toList = (0, 0, 2) := by
  rw [toList_cons s h, cNext, if_neg (by omega), if_pos (by rw [List.length_drop]; simp; omega)]
theorem cNext_s2 (s : ByteArray) (h : 0 < s.size) (h1 : 253 ≤ s[0].toNat) (h2 : 1 + cBehind s[0].toNat ≤ s.size)
    (h3 : cHead (valL (s.extract 1 (1 + cBehind s[0].toNat)).data.toList) ≠ s[0].toNat) : cNext s.data.toList = (0, 0, 3) := by
  rw [ext_behind] at h3
  rw [toList_cons s h, cNext, if_neg (by omega), if_neg (by rw [List.length_drop]; simp; omega), if_pos h3]
theorem cNext_s3 (s : ByteArray) (h : 0 < s.size) (h1 : 253 ≤ s[0].toNat) (h2 : 1 + cBehind s[0].toNat ≤ s.size)
    (h3 : cHead (valL (s.extract 1 (1 + cBehind s[0].toNat)).data.toList) = s[0].toNat) : cNext s.data.toList = (valL (s.extract 1 (1 + cBehind s[0].toNat)).data.toList, 1 + cBehind s[0].toNat, 0) := by
  rw [ext_behind] at h3 ⊢
  rw [toList_cons s h]
  show cNext (s[0] :: s.data.toList.drop 1) = _
  rw [cNext, if_neg (by omega), if_neg (by rw [List.length_drop]; simp; omega), if_neg (fun h => h h3)]
  rfl

set_option maxRecDepth 100000 in
set_option maxHeartbeats 400000 in
theorem comp_next (s : ByteArray) (w : World) (hs : s.size ≤ maxLen) (hT : Tab w) :
    Calls Tryd.prog 8 #[.string s] w fun e w' => e = .returned (n3 (cNext s.data.toList)) ∧ w = w' := by
  unfold maxLen at hs
  by_cases h0 : s.size = 0
  · have e : s = ⟨#[]⟩ := bext (List.length_eq_zero_iff.1 (by simpa using h0))
    subst e
    go_enter Tryd.func8, Tryd.ntmps8
    go_wp2_with fail
    go_returns
    exact ⟨rfl, rfl⟩
  · have hp : 0 < s.size := by omega
    have hie := isEmpty_no s hp
    clear h0
    have hb : s[0].toNat ≤ 255 := by have := s[0].toNat_lt; omega
    by_cases h1 : s[0].toNat < 253
    · have e := Lib.hid (cNext_s0 s hp h1)
      go_enter Tryd.func8, Tryd.ntmps8
      go_wp2_with fail
      go_returns
      exact ⟨by rw [e.out]; rfl, rfl⟩
    · have g1 : 253 ≤ s[0].toNat := by omega
      have hT' := Tab.at_ hT s[0].toNat g1 (by omega)
      have hk := cBehind_le s[0].toNat
      have hk1 : 1 ≤ cBehind s[0].toNat := by unfold cBehind; rw [if_neg (by omega)]; (repeat' split) <;> omega
      have e1 := Lib.hid (cNext_s1 s hp g1)
      have e2 := Lib.hid (cNext_s2 s hp g1)
      have e3 := Lib.hid (cNext_s3 s hp g1)
      generalize cBehind s[0].toNat = k at *
      have hd0 : (0 : Int) ≤ (s[0].toNat : Int) - 253 := by omega
      have hd1 : (s[0].toNat : Int) - 253 < 3 := by omega
      have hd2 : decide ((s[0].toNat : Int) < 253) = false := by simp; omega
      clear h1 hT
      by_cases h2 : s.size < 1 + k
      · have e := Lib.hid (e1.out h2)
        go_enter Tryd.func8, Tryd.ntmps8
        go_wp2_with fail
        go_returns
        exact ⟨by rw [e.out]; rfl, rfl⟩
      · have g2 : 1 + k ≤ s.size := by omega
        have hx : (s.extract 1 (1 + k)).size = k := by rw [ByteArray.size_extract]; omega
        have c1 := fun w => fix_getlittle (s.extract 1 (1 + k)) w (by omega) (by omega)
        have hn : valL (s.extract 1 (1 + k)).data.toList < 18446744073709551616 := by
          have h := valL_lt (s.extract 1 (1 + k)).data.toList
          have hl : (s.extract 1 (1 + k)).data.toList.length = k := by rw [← Lib.size_eq]; exact hx
          rw [hl] at h
          exact Nat.lt_of_lt_of_le h (pow256_8 k hk)
        have c2 := fun w => comp_first _ w hn
        generalize valL (s.extract 1 (1 + k)).data.toList = n at *
        have C1 := Lib.hid c1
        have C2 := Lib.hid c2
        clear c1 c2 hx
        generalize cHead n = hd at *
        by_cases h3 : hd = s[0].toNat
        · have e := Lib.hid (e3.out g2 h3)
          have hne : ((hd : Int) != (s[0].toNat : Int)) = false := by rw [bne_eq_false_iff_eq]; omega
          clear h2 h3 e1 e2 e3
          go_enter Tryd.func8, Tryd.ntmps8
          go_wp2_with fail
          refine (C1.out _).mono ?_
          rintro e w' ⟨rfl, rfl⟩
          go_wp2_with fail
          refine (C2.out _).mono ?_
          rintro e w' ⟨rfl, rfl⟩
          go_wp2_with fail
          go_returns
          exact ⟨by rw [e.out]; rfl, rfl⟩
        · have e := Lib.hid (e2.out g2 h3)
          have hne : ((hd : Int) != (s[0].toNat : Int)) = true := by rw [bne_iff_ne]; omega
          clear h2 h3 e1 e2 e3
          go_enter Tryd.func8, Tryd.ntmps8
          go_wp2_with fail
          refine (C1.out _).mono ?_
          rintro e w' ⟨rfl, rfl⟩
          go_wp2_with fail
          refine (C2.out _).mono ?_
          rintro e w' ⟨rfl, rfl⟩
          go_wp2_with fail
          go_returns
          exact ⟨by rw [e.out]; rfl, rfl⟩

set_option maxRecDepth 100000 in
theorem ref_little (n k : Nat) (w : World) (hn : n < 18446744073709551616) (h8 : k ≤ 8) (h : n < 256 ^ k) :
    Calls Tryd.prog 20 #[.int .u64 n, .int .i64 k] w fun e w' => e = .returned (.string ⟨(leN k n).toArray⟩) ∧ Below w.heap.size w w' := by
  have c1 := Lib.hid (ref_big n k w hn h8 h)
  have c2 := Lib.hid (fun w => ref_turned ⟨(leN k n).reverse.toArray⟩ w (by rw [size_mk]; simp [maxLen]; omega))
  rw [List.toList_toArray, List.reverse_reverse] at c2
  generalize leN k n = l at *
  generalize (⟨l.toArray⟩ : ByteArray) = x at *
  generalize (⟨l.reverse.toArray⟩ : ByteArray) = y at *
  clear h
  go_enter Tryd.func20, Tryd.ntmps20
  go_wp2_with fail
  refine c1.out.mono ?_
  rintro e w1 ⟨rfl, hb⟩
  go_wp2_with fail
  refine (c2.out _).mono ?_
  rintro e w' ⟨rfl, rfl⟩
  go_wp2_with fail
  go_returns
  exact ⟨rfl, hb⟩

theorem put_cat {c : UInt8} {l t : List UInt8} (h : t = c :: l) : Ending.returned (.string ((⟨#[c]⟩ : ByteArray) ++ ⟨l.toArray⟩)) = .returned (.string ⟨t.toArray⟩) :=
  congrArg (fun b : ByteArray => Ending.returned (Value.string b)) (bext (by rw [h]; simp))
set_option maxRecDepth 100000 in
set_option maxHeartbeats 400000 in
theorem ref_comp_put (n : Nat) (w : World) (hn : n < 18446744073709551616) :
    Calls Tryd.prog 9 #[.int .u64 n] w fun e w' => e = .returned (.string ⟨(cPut n).toArray⟩) ∧ Below w.heap.size w w' := by
  by_cases h1 : n < 253
  · have e := Lib.hid (cPut_lo n h1)
    have hst := fun w => string_lit btf w [UInt8.ofNat n] #[.int .u8 n] 1 rfl (lit1 rfl (by omega)) (by decide)
    go_enter Tryd.func9, Tryd.ntmps9
    go_wp2_with fail
    go_returns
    exact ⟨by rw [e.out]; rfl, (Below.refl _ _).alloc (Nat.le_refl _) _⟩
  · have g1 : decide ((n : Int) < 253) = false := by simp; omega
    by_cases h2 : n < 65536
    · have e := Lib.hid (cPut_2 n (by omega) h2)
      have g2 : decide ((n : Int) < 65536) = true := by simp; omega
      have c1 := Lib.hid (ref_little n 2 w hn (by omega) (by simpa using h2))
      have hl := leN_length 2 n
      generalize leN 2 n = l at *
      obtain ⟨L, hL⟩ : ∃ L : ByteArray, L = ⟨l.toArray⟩ := ⟨_, rfl⟩
      have hs : L.size ≤ 8 := by rw [hL, size_mk]; omega
      rw [← hL] at c1
      have HL := Lib.hid hL
      clear hL
      clear h1 h2 hn hl
      go_enter Tryd.func9, Tryd.ntmps9
      go_wp2_with fail
      refine c1.out.mono ?_
      rintro e w1 ⟨rfl, hb⟩
      go_wp2_with fail
      go_returns
      exact ⟨by rw [← put_cat e.out, ← HL.out]; rfl, hb⟩
    · have g2 : decide ((n : Int) < 65536) = false := by simp; omega
      by_cases h3 : n < 4294967296
      · have e := Lib.hid (cPut_4 n (by omega) h3)
        have g3 : decide ((n : Int) < 4294967296) = true := by simp; omega
        have c1 := Lib.hid (ref_little n 4 w hn (by omega) (by simpa using h3))
        have hl := leN_length 4 n
        generalize leN 4 n = l at *
        obtain ⟨L, hL⟩ : ∃ L : ByteArray, L = ⟨l.toArray⟩ := ⟨_, rfl⟩
        have hs : L.size ≤ 8 := by rw [hL, size_mk]; omega
        rw [← hL] at c1
        have HL := Lib.hid hL
        clear hL
        clear h1 h2 h3 hn hl
        go_enter Tryd.func9, Tryd.ntmps9
        go_wp2_with fail
        refine c1.out.mono ?_
        rintro e w1 ⟨rfl, hb⟩
        go_wp2_with fail
        go_returns
        exact ⟨by rw [← put_cat e.out, ← HL.out]; rfl, hb⟩
      · have e := Lib.hid (cPut_8 n (by omega))
        have g3 : decide ((n : Int) < 4294967296) = false := by simp; omega
        have c1 := Lib.hid (ref_little n 8 w hn (by omega) (by simpa using hn))
        have hl := leN_length 8 n
        generalize leN 8 n = l at *
        obtain ⟨L, hL⟩ : ∃ L : ByteArray, L = ⟨l.toArray⟩ := ⟨_, rfl⟩
        have hs : L.size ≤ 8 := by rw [hL, size_mk]; omega
        rw [← hL] at c1
        have HL := Lib.hid hL
        clear hL
        clear h1 h2 h3 hn hl
        go_enter Tryd.func9, Tryd.ntmps9
        go_wp2_with fail
        refine c1.out.mono ?_
        rintro e w1 ⟨rfl, hb⟩
        go_wp2_with fail
        go_returns
        exact ⟨by rw [← put_cat e.out, ← HL.out]; rfl, hb⟩
end Go.Proofs.YtknokfofjhlkeaaDoor
