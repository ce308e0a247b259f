/- The walk of the document's Next of compact numbers. -/
import Derived.Test.YtknokfofjhlkeaaDoorCompNext
namespace Go.Proofs.YtknokfofjhlkeaaDoor
open Go.RowKit
set_option linter.unusedVariables false

theorem valB_rev (l : List UInt8) : valB l.reverse = valL l := by unfold valB; rw [List.reverse_reverse]
theorem ext_all (s : ByteArray) (m : Nat) : (s.extract 0 m).data.toList = s.data.toList.take m := by rw [Lib.extract_data]; simp
/-- The document's test of a text of k bytes behind the first. -/
theorem ref_test (s : ByteArray) (h : 0 < s.size) (h1 : 253 ≤ s[0].toNat) (h2 : 1 + cBehind s[0].toNat ≤ s.size) :
    (cPut (valL (s.extract 1 (1 + cBehind s[0].toNat)).data.toList) = s.data.toList.take (1 + cBehind s[0].toNat) ↔ cHead (valL (s.extract 1 (1 + cBehind s[0].toNat)).data.toList) = s[0].toNat) := by
  rw [ext_behind, ← cNext_test s[0] (s.data.toList.drop 1) h1 (by rw [List.length_drop]; simp; omega), toList_cons s h, Nat.add_comm 1, List.take_succ_cons]
  rfl
theorem ref_test0 (s : ByteArray) (h : 0 < s.size) (h1 : s[0].toNat < 253) : cPut s[0].toNat = s.data.toList.take 1 := by
  rw [cPut_lo _ h1, toList_cons s h, u8e (b := s[0]) rfl]; rfl

/-- 'Put(n) != s[:size]' as the walk has it. -/
theorem neq_of (l : List UInt8) {s : ByteArray} {m : Nat} (b : Bool) (h : (l == s.data.toList.take m) = b) : ((⟨l.toArray⟩ : ByteArray).toList == (s.extract 0 m).toList) = b := by
  rw [Lib.toList_data, Lib.toList_data, ext_all, List.toList_toArray, h]

set_option maxRecDepth 100000 in
theorem ref_comp_next0 (s : ByteArray) (w : World) (hs : s.size ≤ maxLen) (h : s.size = 0 ∨ ∃ hp : 0 < s.size, s[0].toNat < 253) :
    Calls Tryd.prog 10 #[.string s] w fun e w' => e = .returned (n3 (cNext s.data.toList)) ∧ Below w.heap.size w w' := by
  unfold maxLen at hs
  rcases h with h0 | ⟨hp, h1⟩
  · have e : s = ⟨#[]⟩ := bext (List.length_eq_zero_iff.1 (by simpa using h0))
    subst e
    go_enter Tryd.func10, Tryd.ntmps10
    go_wp2_with fail
    go_returns
    exact ⟨rfl, Below.refl _ _⟩
  · have e := Lib.hid (cNext_s0 s hp h1)
    have hie := isEmpty_no s hp
    have hb : s[0].toNat ≤ 255 := by omega
    have x1 : ((s[0].toNat : Int) == 253) = false := by rw [beq_eq_false_iff_ne]; omega
    have x2 : ((s[0].toNat : Int) == 254) = false := by rw [beq_eq_false_iff_ne]; omega
    have x3 : ((s[0].toNat : Int) == 255) = false := by rw [beq_eq_false_iff_ne]; omega
    have ht := Lib.hid (neq_of (cPut s[0].toNat) (m := 1) (s := s) true (by rw [ref_test0 s hp h1]; simp))
    have c1 := Lib.hid (fun w => ref_comp_put s[0].toNat w (by omega))
    generalize (⟨(cPut s[0].toNat).toArray⟩ : ByteArray) = P at *
    clear h1
    go_enter Tryd.func10, Tryd.ntmps10
    go_wp2_with fail
    refine wp_region_after (by kernel_rfl) (by kernel_rfl) ?_
    repeat (go_big_quiet_step ((go_at_call 9; exact Calls.after (c1.out _))))
    refine wpQuiet_nil ?_
    intro x
    go_wp2_with fail
    · have hx : (!(P.toList == (s.extract 0 1).toList)) = true := by assumption
      rw [ht.out] at hx; cases hx
    · go_returns
      exact ⟨by rw [e.out]; rfl, x.is⟩

set_option maxRecDepth 100000 in
set_option maxHeartbeats 400000 in
theorem ref_comp_next2 (s : ByteArray) (w : World) (hs : s.size ≤ maxLen) (hp : 0 < s.size) (hh : s[0].toNat = 253) :
    Calls Tryd.prog 10 #[.string s] w fun e w' => e = .returned (n3 (cNext s.data.toList)) ∧ Below w.heap.size w w' := by
  unfold maxLen at hs
  have g1 : 253 ≤ s[0].toNat := by omega
  have hK : cBehind s[0].toNat = 2 := by rw [hh]; rfl
  have hie := isEmpty_no s hp
  have e1 := Lib.hid (cNext_s1 s hp g1)
  have e2 := Lib.hid (cNext_s2 s hp g1)
  have e3 := Lib.hid (cNext_s3 s hp g1)
  have et := Lib.hid (ref_test s hp g1)
  rw [hK] at e1 e2 e3 et
  clear hK
  have x1 : ((s[0].toNat : Int) == 253) = true := by rw [beq_iff_eq]; omega
  have x2 : ((s[0].toNat : Int) == 254) = false := by rw [beq_eq_false_iff_ne]; omega
  have x3 : ((s[0].toNat : Int) == 255) = false := by rw [beq_eq_false_iff_ne]; omega
  by_cases g2 : s.size < 3
  · have e := Lib.hid (e1.out (by omega))
    clear hh g1 e1 e2 e3 et
    go_enter Tryd.func10, Tryd.ntmps10
    go_wp2_with fail
    go_returns
    exact ⟨by rw [e.out]; rfl, Below.refl _ _⟩
  · have g3 : 3 ≤ s.size := by omega
    have hx : (s.extract 1 3).size = 2 := by rw [ByteArray.size_extract]; omega
    have hl : (s.extract 1 3).data.toList.length = 2 := by rw [← Lib.size_eq]; exact hx
    have hn : valL (s.extract 1 3).data.toList < 18446744073709551616 := by
      have h := valL_lt (s.extract 1 3).data.toList
      rw [hl] at h
      exact Nat.lt_of_lt_of_le h (pow256_8 2 (by omega))
    have c1 := Lib.hid (fun w => ref_turned (s.extract 1 3) w (by rw [hx]; decide))
    have c2 := Lib.hid (fun w => ref_number ⟨(s.extract 1 3).data.toList.reverse.toArray⟩ w (by rw [size_mk, List.length_reverse, hl]; omega))
    have c3 := Lib.hid (fun w => ref_comp_put (valL (s.extract 1 3).data.toList) w hn)
    rw [List.toList_toArray, valB_rev] at c2
    have et := et.out (by omega)
    have e2 := e2.out (by omega)
    have e3 := e3.out (by omega)
    rw [show 1 + 2 = 3 from rfl] at e2 e3 et
    clear hh g1 e1 g2 hx hl
    generalize valL (s.extract 1 3).data.toList = n at *
    generalize (⟨(s.extract 1 3).data.toList.reverse.toArray⟩ : ByteArray) = T at *
    by_cases h3 : cHead n = s[0].toNat
    · have e := Lib.hid (e3 h3)
      have ht := Lib.hid (neq_of (cPut n) (m := 3) (s := s) true (by rw [et.2 h3]; simp))
      clear e2 e3 et h3
      generalize (⟨(cPut n).toArray⟩ : ByteArray) = P at *
      go_enter Tryd.func10, Tryd.ntmps10
      go_wp2_with fail
      refine (c1.out _).mono ?_
      rintro e w' ⟨rfl, rfl⟩
      go_wp2_with fail
      refine (c2.out _).mono ?_
      rintro e w' ⟨rfl, rfl⟩
      go_wp2_with fail
      refine wp_region_after (by kernel_rfl) (by kernel_rfl) ?_
      repeat (go_big_quiet_step ((go_at_call 9; exact Calls.after (c3.out _))))
      refine wpQuiet_nil ?_
      intro x
      go_wp2_with fail
      · have hx : (!(P.toList == (s.extract 0 3).toList)) = true := by assumption
        rw [ht.out] at hx; cases hx
      · go_returns
        exact ⟨by rw [e.out]; rfl, x.is⟩
    · have e := Lib.hid (e2 h3)
      have ht := Lib.hid (neq_of (cPut n) (m := 3) (s := s) false (by rw [beq_eq_false_iff_ne]; exact fun h => h3 (et.1 h)))
      clear e2 e3 et h3
      generalize (⟨(cPut n).toArray⟩ : ByteArray) = P at *
      go_enter Tryd.func10, Tryd.ntmps10
      go_wp2_with fail
      refine (c1.out _).mono ?_
      rintro e w' ⟨rfl, rfl⟩
      go_wp2_with fail
      refine (c2.out _).mono ?_
      rintro e w' ⟨rfl, rfl⟩
      go_wp2_with fail
      refine wp_region_after (by kernel_rfl) (by kernel_rfl) ?_
      repeat (go_big_quiet_step ((go_at_call 9; exact Calls.after (c3.out _))))
      refine wpQuiet_nil ?_
      intro x
      go_wp2_with fail
      · go_returns
        exact ⟨by rw [e.out]; rfl, x.is⟩
      · have hx : (!(P.toList == (s.extract 0 3).toList)) = false := by assumption
        rw [ht.out] at hx; cases hx

set_option maxRecDepth 100000 in
set_option maxHeartbeats 400000 in
theorem ref_comp_next4 (s : ByteArray) (w : World) (hs : s.size ≤ maxLen) (hp : 0 < s.size) (hh : s[0].toNat = 254) :
    Calls Tryd.prog 10 #[.string s] w fun e w' => e = .returned (n3 (cNext s.data.toList)) ∧ Below w.heap.size w w' := by
  unfold maxLen at hs
  have g1 : 253 ≤ s[0].toNat := by omega
  have hK : cBehind s[0].toNat = 4 := by rw [hh]; rfl
  have hie := isEmpty_no s hp
  have e1 := Lib.hid (cNext_s1 s hp g1)
  have e2 := Lib.hid (cNext_s2 s hp g1)
  have e3 := Lib.hid (cNext_s3 s hp g1)
  have et := Lib.hid (ref_test s hp g1)
  rw [hK] at e1 e2 e3 et
  clear hK
  have x1 : ((s[0].toNat : Int) == 253) = false := by rw [beq_eq_false_iff_ne]; omega
  have x2 : ((s[0].toNat : Int) == 254) = true := by rw [beq_iff_eq]; omega
  have x3 : ((s[0].toNat : Int) == 255) = false := by rw [beq_eq_false_iff_ne]; omega
  by_cases g2 : s.size < 5
  · have e := Lib.hid (e1.out (by omega))
    clear hh g1 e1 e2 e3 et
    go_enter Tryd.func10, Tryd.ntmps10
    go_wp2_with fail
    go_returns
    exact ⟨by rw [e.out]; rfl, Below.refl _ _⟩
  · have g3 : 5 ≤ s.size := by omega
    have hx : (s.extract 1 5).size = 4 := by rw [ByteArray.size_extract]; omega
    have hl : (s.extract 1 5).data.toList.length = 4 := by rw [← Lib.size_eq]; exact hx
    have hn : valL (s.extract 1 5).data.toList < 18446744073709551616 := by
      have h := valL_lt (s.extract 1 5).data.toList
      rw [hl] at h
      exact Nat.lt_of_lt_of_le h (pow256_8 4 (by omega))
    have c1 := Lib.hid (fun w => ref_turned (s.extract 1 5) w (by rw [hx]; decide))
    have c2 := Lib.hid (fun w => ref_number ⟨(s.extract 1 5).data.toList.reverse.toArray⟩ w (by rw [size_mk, List.length_reverse, hl]; omega))
    have c3 := Lib.hid (fun w => ref_comp_put (valL (s.extract 1 5).data.toList) w hn)
    rw [List.toList_toArray, valB_rev] at c2
    have et := et.out (by omega)
    have e2 := e2.out (by omega)
    have e3 := e3.out (by omega)
    rw [show 1 + 4 = 5 from rfl] at e2 e3 et
    clear hh g1 e1 g2 hx hl
    generalize valL (s.extract 1 5).data.toList = n at *
    generalize (⟨(s.extract 1 5).data.toList.reverse.toArray⟩ : ByteArray) = T at *
    by_cases h3 : cHead n = s[0].toNat
    · have e := Lib.hid (e3 h3)
      have ht := Lib.hid (neq_of (cPut n) (m := 5) (s := s) true (by rw [et.2 h3]; simp))
      clear e2 e3 et h3
      generalize (⟨(cPut n).toArray⟩ : ByteArray) = P at *
      go_enter Tryd.func10, Tryd.ntmps10
      go_wp2_with fail
      refine (c1.out _).mono ?_
      rintro e w' ⟨rfl, rfl⟩
      go_wp2_with fail
      refine (c2.out _).mono ?_
      rintro e w' ⟨rfl, rfl⟩
      go_wp2_with fail
      refine wp_region_after (by kernel_rfl) (by kernel_rfl) ?_
      repeat (go_big_quiet_step ((go_at_call 9; exact Calls.after (c3.out _))))
      refine wpQuiet_nil ?_
      intro x
      go_wp2_with fail
      · have hx : (!(P.toList == (s.extract 0 5).toList)) = true := by assumption
        rw [ht.out] at hx; cases hx
      · go_returns
        exact ⟨by rw [e.out]; rfl, x.is⟩
    · have e := Lib.hid (e2 h3)
      have ht := Lib.hid (neq_of (cPut n) (m := 5) (s := s) false (by rw [beq_eq_false_iff_ne]; exact fun h => h3 (et.1 h)))
      clear e2 e3 et h3
      generalize (⟨(cPut n).toArray⟩ : ByteArray) = P at *
      go_enter Tryd.func10, Tryd.ntmps10
      go_wp2_with fail
      refine (c1.out _).mono ?_
      rintro e w' ⟨rfl, rfl⟩
      go_wp2_with fail
      refine (c2.out _).mono ?_
      rintro e w' ⟨rfl, rfl⟩
      go_wp2_with fail
      refine wp_region_after (by kernel_rfl) (by kernel_rfl) ?_
      repeat (go_big_quiet_step ((go_at_call 9; exact Calls.after (c3.out _))))
      refine wpQuiet_nil ?_
      intro x
      go_wp2_with fail
      · go_returns
        exact ⟨by rw [e.out]; rfl, x.is⟩
      · have hx : (!(P.toList == (s.extract 0 5).toList)) = false := by assumption
        rw [ht.out] at hx; cases hx

set_option maxRecDepth 100000 in
set_option maxHeartbeats 400000 in
theorem ref_comp_next8 (s : ByteArray) (w : World) (hs : s.size ≤ maxLen) (hp : 0 < s.size) (hh : s[0].toNat = 255) :
    Calls Tryd.prog 10 #[.string s] w fun e w' => e = .returned (n3 (cNext s.data.toList)) ∧ Below w.heap.size w w' := by
  unfold maxLen at hs
  have g1 : 253 ≤ s[0].toNat := by omega
  have hK : cBehind s[0].toNat = 8 := by rw [hh]; rfl
  have hie := isEmpty_no s hp
  have e1 := Lib.hid (cNext_s1 s hp g1)
  have e2 := Lib.hid (cNext_s2 s hp g1)
  have e3 := Lib.hid (cNext_s3 s hp g1)
  have et := Lib.hid (ref_test s hp g1)
  rw [hK] at e1 e2 e3 et
  clear hK
  have x1 : ((s[0].toNat : Int) == 253) = false := by rw [beq_eq_false_iff_ne]; omega
  have x2 : ((s[0].toNat : Int) == 254) = false := by rw [beq_eq_false_iff_ne]; omega
  have x3 : ((s[0].toNat : Int) == 255) = true := by rw [beq_iff_eq]; omega
  by_cases g2 : s.size < 9
  · have e := Lib.hid (e1.out (by omega))
    clear hh g1 e1 e2 e3 et
    go_enter Tryd.func10, Tryd.ntmps10
    go_wp2_with fail
    go_returns
    exact ⟨by rw [e.out]; rfl, Below.refl _ _⟩
  · have g3 : 9 ≤ s.size := by omega
    have hx : (s.extract 1 9).size = 8 := by rw [ByteArray.size_extract]; omega
    have hl : (s.extract 1 9).data.toList.length = 8 := by rw [← Lib.size_eq]; exact hx
    have hn : valL (s.extract 1 9).data.toList < 18446744073709551616 := by
      have h := valL_lt (s.extract 1 9).data.toList
      rw [hl] at h
      exact Nat.lt_of_lt_of_le h (pow256_8 8 (by omega))
    have c1 := Lib.hid (fun w => ref_turned (s.extract 1 9) w (by rw [hx]; decide))
    have c2 := Lib.hid (fun w => ref_number ⟨(s.extract 1 9).data.toList.reverse.toArray⟩ w (by rw [size_mk, List.length_reverse, hl]; omega))
    have c3 := Lib.hid (fun w => ref_comp_put (valL (s.extract 1 9).data.toList) w hn)
    rw [List.toList_toArray, valB_rev] at c2
    have et := et.out (by omega)
    have e2 := e2.out (by omega)
    have e3 := e3.out (by omega)
    rw [show 1 + 8 = 9 from rfl] at e2 e3 et
    clear hh g1 e1 g2 hx hl
    generalize valL (s.extract 1 9).data.toList = n at *
    generalize (⟨(s.extract 1 9).data.toList.reverse.toArray⟩ : ByteArray) = T at *
    by_cases h3 : cHead n = s[0].toNat
    · have e := Lib.hid (e3 h3)
      have ht := Lib.hid (neq_of (cPut n) (m := 9) (s := s) true (by rw [et.2 h3]; simp))
      clear e2 e3 et h3
      generalize (⟨(cPut n).toArray⟩ : ByteArray) = P at *
      go_enter Tryd.func10, Tryd.ntmps10
      go_wp2_with fail
      refine (c1.out _).mono ?_
      rintro e w' ⟨rfl, rfl⟩
      go_wp2_with fail
      refine (c2.out _).mono ?_
      rintro e w' ⟨rfl, rfl⟩
      go_wp2_with fail
      refine wp_region_after (by kernel_rfl) (by kernel_rfl) ?_
      repeat (go_big_quiet_step ((go_at_call 9; exact Calls.after (c3.out _))))
      refine wpQuiet_nil ?_
      intro x
      go_wp2_with fail
      · have hx : (!(P.toList == (s.extract 0 9).toList)) = true := by assumption
        rw [ht.out] at hx; cases hx
      · go_returns
        exact ⟨by rw [e.out]; rfl, x.is⟩
    · have e := Lib.hid (e2 h3)
      have ht := Lib.hid (neq_of (cPut n) (m := 9) (s := s) false (by rw [beq_eq_false_iff_ne]; exact fun h => h3 (et.1 h)))
      clear e2 e3 et h3
      generalize (⟨(cPut n).toArray⟩ : ByteArray) = P at *
      go_enter Tryd.func10, Tryd.ntmps10
      go_wp2_with fail
      refine (c1.out _).mono ?_
      rintro e w' ⟨rfl, rfl⟩
      go_wp2_with fail
      refine (c2.out _).mono ?_
      rintro e w' ⟨rfl, rfl⟩
      go_wp2_with fail
      refine wp_region_after (by kernel_rfl) (by kernel_rfl) ?_
      repeat (go_big_quiet_step ((go_at_call 9; exact Calls.after (c3.out _))))
      refine wpQuiet_nil ?_
      intro x
      go_wp2_with fail
      · go_returns
        exact ⟨by rw [e.out]; rfl, x.is⟩
      · have hx : (!(P.toList == (s.extract 0 9).toList)) = false := by assumption
        rw [ht.out] at hx; cases hx

theorem ref_comp_next (s : ByteArray) (w : World) (hs : s.size ≤ maxLen) :
    Calls Tryd.prog 10 #[.string s] w fun e w' => e = .returned (n3 (cNext s.data.toList)) ∧ Below w.heap.size w w' := by
  by_cases h0 : s.size = 0
  · exact ref_comp_next0 s w hs (.inl h0)
  · have hp : 0 < s.size := by omega
    have := s[0].toNat_lt
    rcases (show s[0].toNat < 253 ∨ s[0].toNat = 253 ∨ s[0].toNat = 254 ∨ s[0].toNat = 255 by omega) with h | h | h | h
    · exact ref_comp_next0 s w hs (.inr ⟨hp, h⟩)
    · exact ref_comp_next2 s w hs hp h
    · exact ref_comp_next4 s w hs hp h
    · exact ref_comp_next8 s w hs hp h
end Go.Proofs.YtknokfofjhlkeaaDoor
