/- The walk of TwiceSums. -/
import Derived.Test.YtekcehicjggmiaaTwice
import Derived.Test.YtekcehicjggmiaaShaDocSum
namespace Go.Proofs.Ytekcehicjggmiaa
open Go.RowKit Go.Shelf
set_option linter.unusedVariables false
set_option linter.unusedSimpArgs false

/-- What the key is to the document: an array of 72 cells by which any text's digest is f. -/
structure DocBy (KA : Array Value) (f : List UInt8 → List UInt8) : Prop where
  size : (Try.prog.info? 29).map (·.size) = some KA.size
  len : ∀ l, (f l).length = 32
  one : KA.all (·.oneCell') = true
  sum : ∀ (s : ByteArray) (w : World), s.size ≤ 100000 → Calls Try.prog 17 #[.agg KA, .string s] w fun e w' => e = .returned (.string ⟨(f s.data.toList).toArray⟩) ∧ Below w.heap.size w w'
theorem doc_by : DocBy (kA keyN) sumN where
  size := by rw [kA_size, keyN_length]; exact (zero_of_info (P := Try.prog) key_info).2
  len := sumN_length
  one := kA_one _
  sum s w h := ref_sum s w h

set_option maxRecDepth 100000 in
set_option maxHeartbeats 1000000 in
theorem ref_checkG (KA : Array Value) (f : List UInt8 → List UInt8) (hD : DocBy KA f) (s : ByteArray) (w : World) (hs : s.size ≤ 100000) :
    Calls Try.prog 37 #[.agg KA, .string s] w fun e w' => e = .returned (.string ⟨((f (f s.data.toList)).take 4).toArray⟩) ∧ Below w.heap.size w w' := by
  have c1 := fun w => hD.sum s w hs
  have hl1 := hD.len s.data.toList
  obtain ⟨T1, hT1⟩ : ∃ T1 : ByteArray, T1 = ⟨(f s.data.toList).toArray⟩ := ⟨_, rfl⟩
  have hs1 : T1.size = 32 := by rw [hT1, size_mk, hl1]
  have hd1 : T1.data.toList = f s.data.toList := by rw [hT1]
  have c2 := fun w => hD.sum T1 w (by omega)
  have hl2 := hD.len T1.data.toList
  rw [hd1] at c2 hl2
  rw [← hT1] at c1
  obtain ⟨T2, hT2⟩ : ∃ T2 : ByteArray, T2 = ⟨(f (f s.data.toList)).toArray⟩ := ⟨_, rfl⟩
  have hs2 : T2.size = 32 := by rw [hT2, size_mk, hl2]
  have hd2 : (⟨((f (f s.data.toList)).take 4).toArray⟩ : ByteArray) = T2.extract 0 4 := by
    apply ByteArray.ext
    apply Array.ext'
    rw [Lib.extract_data, hT2]; rfl
  rw [← hT2] at c2
  rw [hd2]
  have C1 := Lib.hid c1
  have C2 := Lib.hid c2
  have HS := Lib.hid hD.size
  clear c1 c2 hl1 hl2 hT1 hT2 hd1 hd2 hs1 hD
  obtain ⟨B, hB⟩ : ∃ B, w.heap.size = B := ⟨_, rfl⟩
  have h8 : Hid (Blk (w.alloc (.cells KA 29)) B KA 29) := hB ▸ Blk.new w KA _
  have hbl : Hid (Below B w (w.alloc (.cells KA 29))) := (Below.refl _ _).alloc (by omega) _
  rw [hB]
  go_enter Try.func37, Try.ntmps37
  go_upto_region 1 with fail
  have hlt : B < (w.alloc (.cells KA 29)).heap.size := h8.out.lt
  generalize w.alloc (.cells KA 29) = w1 at *
  have hkx : Hid (∀ W, (∃ x : Fut w1, W = x.at_) → Blk W B KA 29) := by
    rintro _ ⟨x, rfl⟩
    exact Below.blk x.is h8.out hlt
  refine wp_region_after (by kernel_rfl) (by kernel_rfl) ?_
  go_big_quiet_want
  refine quiet_load_row 29 (.tmp 2) rfl B rfl _ KA _ hkx.out Try.underlying29 rfl HS.out ?_
  go_big_quiet_on
  simp only [Act.put, List.setIfInBounds_toArray, List.set_cons_zero, List.set_cons_succ]
  go_big_quiet_want
  refine quiet_load_row 29 (.tmp 2) rfl B rfl _ KA _ hkx.out Try.underlying29 rfl HS.out ?_
  go_big_quiet_on
  simp only [Act.put, List.setIfInBounds_toArray, List.set_cons_zero, List.set_cons_succ]
  go_big_quiet_step (fail)
  go_big_quiet_step (exact Calls.after (C1.out _))
  go_big_quiet_step (exact Calls.after (C2.out _))
  repeat (go_big_quiet_step (fail))
  refine wpQuiet_nil ?_
  intro x
  go_wp2_with fail
  go_returns
  exact ⟨rfl, hbl.out.trans (x.is.mono (by omega))⟩

set_option maxRecDepth 100000 in
theorem twice_sums_far (s o : ByteArray) (w : World) (hm : s.size ≤ maxLen) (hn : o.size ≤ maxLen) (h : 500 < s.size ∨ 500 < o.size) :
    Calls Try.prog 10 #[.string s, .string o] w fun e w' => e = .returned (.bool true) ∧ Below w.heap.size w w' := by
  unfold maxLen at hm hn
  have hb : (decide (500 < (s.size : Int)) = true) ∨ (decide (500 < (s.size : Int)) = false ∧ decide (500 < (o.size : Int)) = true) := by
    by_cases h : 500 < s.size
    · exact .inl (by simp; omega)
    · exact .inr ⟨by simp; omega, by simp; omega⟩
  clear h
  rcases hb with h0 | ⟨h0, h1⟩
  all_goals
    go_enter Try.func10, Try.ntmps10
    go_wp2_with fail
    refine (twice_alive _).mono ?_
    rintro e w1 ⟨rfl, hb1⟩
    go_wp2_with fail
    go_returns
    exact ⟨rfl, hb1⟩

set_option maxRecDepth 100000 in
set_option maxHeartbeats 2000000 in
theorem twice_sums_near (s o : ByteArray) (w : World) (hs : s.size ≤ 500) (ho : o.size ≤ 500) :
    Calls Try.prog 10 #[.string s, .string o] w fun e w' => e = .returned (.bool true) ∧ Below w.heap.size w w' := by
  have cs := fun w => twice_sum s w (by omega)
  have ck := fun w => ref_key w
  have cc := fun w => ref_checkG _ _ doc_by s w (by omega)
  have d1 := fun w => doc_by.sum s w (by omega)
  have l1 := doc_by.len s.data.toList
  obtain ⟨T1, hT1⟩ : ∃ T1 : ByteArray, T1 = ⟨(sumN s.data.toList).toArray⟩ := ⟨_, rfl⟩
  have hs1 : T1.size = 32 := by rw [hT1, size_mk, l1]
  have hd1 : T1.data.toList = sumN s.data.toList := by rw [hT1]
  have d2 := fun w => doc_by.sum T1 w (by omega)
  rw [hd1] at d2
  rw [← hT1] at d1
  have ch := fun w => twice_check s w (by omega)
  have cf := fun w o => twice_fits s o w (by omega)
  have e2 : twiceN s.data.toList = sumN (sumN s.data.toList) := rfl
  have e3 : checkN s.data.toList = (sumN (sumN s.data.toList)).take 4 := by rw [← e2]; rfl
  rw [e3] at ch cf
  rw [e2] at cs
  clear e2 e3 hd1 hT1 l1
  have hsz := doc_by.size
  have hone := doc_by.one
  generalize (⟨(sumN (sumN s.data.toList)).toArray⟩ : ByteArray) = T2 at *
  generalize (⟨((sumN (sumN s.data.toList)).take 4).toArray⟩ : ByteArray) = C at *
  generalize kA keyN = KA at *
  have hz := (zero_of_info (P := Try.prog) key_info).1
  have hZs : (kA (List.replicate 72 0)).size = KA.size := by
    have h1 := (zero_of_info (P := Try.prog) key_info).2
    rw [hsz] at h1
    rw [kA_size, List.length_replicate]; exact (Option.some.inj h1).symm
  generalize kA (List.replicate 72 0) = Z at *
  obtain ⟨bo, hbo⟩ : ∃ bo, (o.toList == C.toList) = bo := ⟨_, rfl⟩
  have CS := Lib.hid cs
  have CK := Lib.hid ck
  have CC := Lib.hid cc
  have D1 := Lib.hid d1
  have D2 := Lib.hid d2
  have CH := Lib.hid ch
  have CF1 := Lib.hid (fun w => cf w C)
  have cf2 := fun w => cf w o
  rw [hbo] at cf2
  have CF2 := Lib.hid cf2
  have HH := Lib.hid (And.intro hsz (And.intro hone hZs))
  clear cs ck cc d1 d2 ch cf cf2 hsz hone hZs hs1
  have h0 : decide (500 < (s.size : Int)) = false := by simp; omega
  have h1 : decide (500 < (o.size : Int)) = false := by simp; omega
  have hbe : (C.toList == C.toList) = true := by simp
  go_enter Try.func10, Try.ntmps10
  go_wp2_with fail
  refine (twice_alive _).mono ?_
  rintro e w1 ⟨rfl, hb1⟩
  go_wp2_with fail
  refine (CK.out _).mono ?_
  rintro e w2 ⟨rfl, hb2⟩
  obtain ⟨g, hg⟩ : ∃ g, w2.heap.size = g := ⟨_, rfl⟩
  have hblk : Hid (Blk (w2.alloc (.cells Z 29)) g Z 29) := hg ▸ Blk.new w2 Z _
  have hbl : Hid (Below w.heap.size w (w2.alloc (.cells Z 29))) := (hb1.trans (hb2.mono hb1.size)).alloc (Nat.le_trans hb1.size hb2.size) _
  have hgw : w.heap.size ≤ g := hg ▸ Nat.le_trans hb1.size hb2.size
  clear hb1 hb2
  go_wp2_with (refine wpList_store_row rfl 29 (.tmp 5) (.tmp 18) rfl g KA rfl rfl _ Z hblk.out HH.out.1 HH.out.2.2 HH.out.2.1 ?_)
  have hk3 : Blk ((w2.alloc (.cells Z 29)).setRow g KA) g KA 29 := hblk.out.setRow KA
  have hb3 : Below w.heap.size w ((w2.alloc (.cells Z 29)).setRow g KA) := Below.setRow hbl.out hgw KA
  clear hblk hbl hg hz
  generalize (w2.alloc (.cells Z 29)).setRow g KA = w3 at *
  refine (CS.out _).mono ?_
  rintro e w4 ⟨rfl, hb4⟩
  have hk4 := Lib.hid (Below.blk hb4 hk3 hk3.lt)
  have hb4 := Lib.hid (hb3.trans (hb4.mono hb3.size))
  have hg4 : g < w4.heap.size := hk4.out.lt
  clear hk3 hb3
  go_wp2_with (refine wpList_load_row rfl 29 (.tmp 5) rfl g rfl _ KA (0, 0) _ hk4.out Try.underlying29 rfl HH.out.1 ?_)
  refine (CC.out _).mono ?_
  rintro e w5 ⟨rfl, hb5⟩
  have hk5 := Lib.hid (Below.blk hb5 hk4.out hg4)
  have hb6 := Lib.hid (hb4.out.trans (hb5.mono hb4.out.size))
  have hg5 : g < w5.heap.size := hk5.out.lt
  clear hk4 hb4 hb5
  go_wp2_with fail
  go_upto_region 8 with fail
  have hkx : Hid (∀ W, (∃ x : Fut w5, W = x.at_) → Blk W g KA 29) := by
    rintro _ ⟨x, rfl⟩
    exact Below.blk x.is hk5.out hg5
  refine wp_region_after (by kernel_rfl) (by kernel_rfl) ?_
  go_big_quiet_step (fail)
  go_big_quiet_want
  refine quiet_load_row 29 (.tmp 5) rfl g rfl _ KA _ hkx.out Try.underlying29 rfl HH.out.1 ?_
  go_big_quiet_on
  simp only [Act.put, List.setIfInBounds_toArray, List.set_cons_zero, List.set_cons_succ]
  go_big_quiet_want
  refine quiet_load_row 29 (.tmp 5) rfl g rfl _ KA _ hkx.out Try.underlying29 rfl HH.out.1 ?_
  go_big_quiet_on
  simp only [Act.put, List.setIfInBounds_toArray, List.set_cons_zero, List.set_cons_succ]
  go_big_quiet_step (fail)
  go_big_quiet_step (exact Calls.after (D1.out _))
  go_big_quiet_step (exact Calls.after (D2.out _))
  repeat (go_big_quiet_step (fail))
  go_big_quiet_step (exact Calls.after (CH.out _))
  repeat (go_big_quiet_step (fail))
  go_big_quiet_step (exact Calls.after (CF1.out _))
  repeat (go_big_quiet_step (fail))
  go_big_quiet_step (exact Calls.after (CF2.out _))
  repeat (go_big_quiet_step (fail))
  refine wpQuiet_nil ?_
  intro x
  go_wp2_with fail
  go_returns
  exact ⟨rfl, hb6.out.trans (x.is.mono (by omega))⟩

theorem twice_sums (s o : ByteArray) (w : World) (hs : s.size ≤ maxLen) (ho : o.size ≤ maxLen) :
    Calls Try.prog 10 #[.string s, .string o] w fun e w' => e = .returned (.bool true) ∧ Below w.heap.size w w' := by
  by_cases h : 500 < s.size ∨ 500 < o.size
  · exact twice_sums_far s o w hs ho h
  · exact twice_sums_near s o w (by omega) (by omega)
end Go.Proofs.Ytekcehicjggmiaa
