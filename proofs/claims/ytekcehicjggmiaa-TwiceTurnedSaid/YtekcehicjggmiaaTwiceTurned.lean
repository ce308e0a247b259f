/- The walk of TwiceTurned. -/
import Derived.Test.YtekcehicjggmiaaTwice
import Derived.Test.YtekcehicjggmiaaShaProduct
import Derived.WalkLawsBesides
namespace Go.Proofs.Ytekcehicjggmiaa
open Go.RowKit Go.Shelf
set_option linter.unusedVariables false
set_option linter.unusedSimpArgs false

theorem list4 {l : List UInt8} (h : l.length = 4) : ∃ a b c d, l = [a, b, c, d] := by
  match l, h with
  | [a, b, c, d], _ => exact ⟨a, b, c, d, rfl⟩

/-- '[]byte(s)': what is known behind it. -/
theorem bytes_made (w : World) (s : ByteArray) : ∃ cap w', (convert 9 53 (.string s)).run Try.prog w = .ok (.slice (some ⟨w.heap.size, 0, none⟩) s.size cap) w' ∧
    (∀ i, i < s.size → w'.cell? ⟨w.heap.size, i, none⟩ = some (.int .u8 ((s.data.toList.getD i 0).toNat : Int))) ∧ (∀ i, i < s.size → w'.frozen? ⟨w.heap.size, i, none⟩ = false) ∧
    Below w.heap.size w w' ∧ w'.heap.size = w.heap.size + 1 ∧ s.size ≤ cap := by
  refine ⟨_, _, run_bytes_of_string (P := Try.prog) w 9 53 5 s Try.underlying9 Try.underlying53 Try.underlying5, ?_, ?_, ?_, ?_, ?_⟩
  · intro i hi
    have h1 := World.cell?_alloc_mark w.drew (bytesRow s (grownCap w s.size 0 5)) 5 ((bytesRow s (grownCap w s.size 0 5)).size, (bytesRow s (grownCap w s.size 0 5)).size + 1) i
    refine h1.trans ?_
    unfold bytesRow
    have hi2 : i < s.data.size := hi
    rw [Array.getElem?_append_left (by simpa using hi2), Array.getElem?_map, Array.getElem?_eq_getElem hi2, List.getD_eq_getElem?_getD, Array.getElem?_toList, Array.getElem?_eq_getElem hi2]
    rfl
  · intro i hi
    have h1 := World.frozen?_alloc_mark w.drew (bytesRow s (grownCap w s.size 0 5)) 5 (bytesRow s (grownCap w s.size 0 5)).size ((bytesRow s (grownCap w s.size 0 5)).size + 1) i
    refine h1.trans ?_
    have h2 : s.size ≤ (bytesRow s (grownCap w s.size 0 5)).size := by
      rw [bytesRow, Array.size_append, Array.size_map]; exact Nat.le_add_right _ _
    rw [decide_eq_false (by omega), Bool.false_and]
  · exact (Below.drewN' (Below.refl _ w) 1).alloc (Nat.le_refl _) _
  · show (w.heap.push _).size = _
    rw [Array.size_push]
  · exact grownCap_ge _ _ _ _
theorem twice_unfit (s o : ByteArray) (w : World) (hs : s.size ≤ 100000) (h : o.data.toList ≠ checkN s.data.toList) :
    Calls Try.prog 39 #[.string s, .string o] w fun e w' => e = .returned (.bool false) ∧ Below w.heap.size w w' := by
  refine (twice_fits s o w hs).mono ?_
  rintro e w1 ⟨rfl, hb⟩
  refine ⟨?_, hb⟩
  have e1 : (o.toList == (⟨(checkN s.data.toList).toArray⟩ : ByteArray).toList) = false := by
    rw [Lib.toList_data, Lib.toList_data, beq_eq_false_iff_ne]
    exact h
  rw [e1]

/-- 'string(b[:k])' of four cells. -/
theorem conv_take {W : World} {b : Nat} {C : List UInt8} (hC : C.length = 4) (hcell : ∀ i, i < 4 → W.cell? ⟨b, i, none⟩ = some (.int .u8 ((C.getD i 0).toNat : Int))) (k cap : Nat) (hk : k ≤ 4) :
    (convert 53 9 (.slice (some ⟨b, 0, none⟩) k cap)).run Try.prog W = .ok (.string ⟨(C.take k).toArray⟩) W := by
  have h := run_convert_bytes_back (P := Try.prog) W 53 9 5 ⟨b, 0, none⟩ cap (C.take k) Try.underlying53 Try.underlying5 Try.underlying9 (fun j hj => by
    rw [List.length_take] at hj
    have hj4 : j < 4 := by omega
    have e1 : (⟨b, 0, none⟩ : Addr).add j = ⟨b, j, none⟩ := by unfold Addr.add; split <;> simp_all
    rw [e1, hcell j hj4, List.getElem_take, List.getD_eq_getElem?_getD, List.getElem?_eq_getElem (by omega)]
    rfl)
  rw [List.length_take, hC, Nat.min_eq_left hk] at h
  exact h

/-- The cells behind the store. -/
theorem turned_cells {W : World} {b k : Nat} {C : List UInt8} (hcell : ∀ i, i < 4 → W.cell? ⟨b, i, none⟩ = some (.int .u8 ((C.getD i 0).toNat : Int))) (hC : C.length = 4) (hk : k < 4) (y : UInt8) :
    ∀ i, i < 4 → (W.setCell ⟨b, k, none⟩ (.int .u8 (y.toNat : Int))).cell? ⟨b, i, none⟩ = some (.int .u8 (((C.set k y).getD i 0).toNat : Int)) := by
  intro i hi
  by_cases e : k = i
  · subst e
    rw [List.getD_eq_getElem?_getD, List.getElem?_set_self (show k < C.length by omega)]
    exact World.cell?_setCell_same _ _ _ (hcell k hi)
  · rw [List.getD_eq_getElem?_getD, List.getElem?_set_ne e]
    have := hcell i hi
    rw [List.getD_eq_getElem?_getD] at this
    rw [← this]
    exact World.cell?_setCell_other _ _ _ _ (fun h => e (congrArg Addr.off h))
theorem turned_conv {W : World} {b k : Nat} {y : UInt8} {C : List UInt8} (h : ∀ i, i < 4 → W.cell? ⟨b, i, none⟩ = some (.int .u8 (((C.set k y).getD i 0).toNat : Int))) (hC : C.length = 4) (cap : Nat) :
    (convert 53 9 (.slice (some ⟨b, 0, none⟩) 4 cap)).run Try.prog W = .ok (.string ⟨(C.set k y).toArray⟩) W := by
  have h1 := conv_take (C := C.set k y) (by rw [List.length_set, hC]) h 4 cap (by omega)
  rwa [List.take_of_length_le (by rw [List.length_set, hC]; exact Nat.le_refl _)] at h1

set_option maxRecDepth 100000 in
theorem twice_turned_far (s more : ByteArray) (at_ by_ : Nat) (w : World) (ha : at_ < 256) (hb : by_ < 256) (hm : s.size ≤ maxLen) (hn : more.size ≤ maxLen) (h : 500 < s.size ∨ 100 < more.size) :
    Calls Try.prog 11 #[.string s, .int .u8 at_, .int .u8 by_, .string more] w fun e w' => e = .returned (.bool true) ∧ Below w.heap.size w w' := by
  unfold maxLen at hm hn
  have hb : (decide (500 < (s.size : Int)) = true) ∨ (decide (500 < (s.size : Int)) = false ∧ decide (100 < (more.size : Int)) = true) := by
    by_cases h : 500 < s.size
    · exact .inl (by simp; omega)
    · exact .inr ⟨by simp; omega, by simp; omega⟩
  clear h
  rcases hb with h0 | ⟨h0, h1⟩
  all_goals
    go_enter Try.func11, Try.ntmps11
    go_wp2_with fail
    refine (twice_alive _).mono ?_
    rintro e w1 ⟨rfl, hb1⟩
    go_wp2_with fail
    go_returns
    exact ⟨rfl, hb1⟩

set_option maxRecDepth 100000 in
set_option maxHeartbeats 1000000 in
theorem twice_turned_near (s more : ByteArray) (at_ by_ : Nat) (w : World) (ha : at_ < 256) (hb : by_ < 256) (hs : s.size ≤ 500) (hm : more.size ≤ 100) :
    Calls Try.prog 11 #[.string s, .int .u8 at_, .int .u8 by_, .string more] w fun e w' => e = .returned (.bool true) ∧ Below w.heap.size w w' := by
  have C1 := Lib.hid (fun w => twice_check s w (by omega))
  have C2 := Lib.hid (fun w o => twice_unfit s o w (by omega))
  obtain ⟨C, hC⟩ : ∃ C, C = checkN s.data.toList := ⟨_, rfl⟩
  have hC4 : C.length = 4 := hC ▸ checkN_length _
  rw [← hC] at C1 C2
  clear hC
  obtain ⟨CB, hCB⟩ : ∃ CB : ByteArray, CB = ⟨C.toArray⟩ := ⟨_, rfl⟩
  have hCs : CB.size = 4 := by rw [hCB, size_mk, hC4]
  have hCd : CB.data.toList = C := by rw [hCB]
  rw [← hCB] at C1
  have HCd := Lib.hid hCd
  clear hCB hCd
  have HC4 := Lib.hid hC4
  clear hC4
  have h0 : decide (500 < (s.size : Int)) = false := by simp; omega
  have h1 : decide (100 < (more.size : Int)) = false := by simp; omega
  go_enter Try.func11, Try.ntmps11
  go_wp2_with fail
  refine (twice_alive _).mono ?_
  rintro e w1 ⟨rfl, hb1⟩
  go_wp2_with fail
  refine (C1.out _).mono ?_
  rintro e w2 ⟨rfl, hb2⟩
  obtain ⟨cap, w3, hcv, hcell, hfree, hb3, hsz3, hcap⟩ := bytes_made w2 CB
  rw [hCs] at hcv hcell hfree hcap
  have hBB := hb1.trans ((hb2.mono hb1.size).trans (hb3.mono (Nat.le_trans hb1.size hb2.size)))
  have hb : w2.heap.size < w3.heap.size := by omega
  have hwb : w.heap.size ≤ w2.heap.size := Nat.le_trans hb1.size hb2.size
  generalize w2.heap.size = b at *
  rw [HCd.out] at hcell
  have hcv1 := conv_take HC4.out hcell (at_ % 4) cap (by omega)
  obtain ⟨T1, hT1⟩ : ∃ T1 : ByteArray, T1 = ⟨(C.take (at_ % 4)).toArray⟩ := ⟨_, rfl⟩
  rw [← hT1] at hcv1
  have c2 := Lib.hid (C2.out w3 T1 (fun e => by
    have h2 := congrArg List.length (show C.take (at_ % 4) = C by rw [hT1] at e; exact e)
    rw [List.length_take, HC4.out] at h2; omega))
  clear hT1
  go_wp2_with fail
  refine c2.out.mono ?_
  rintro e w4 ⟨rfl, hb4⟩
  have hcell4 : ∀ i, i < 4 → w4.cell? ⟨b, i, none⟩ = some (.int .u8 ((C.getD i 0).toNat : Int)) := fun i hi => by rw [hb4.cell (p := ⟨b, i, none⟩) hb]; exact hcell i hi
  have hfree4 : ∀ i, i < 4 → w4.frozen? ⟨b, i, none⟩ = false := fun i hi => by rw [hb4.frozen (p := ⟨b, i, none⟩) hb]; exact hfree i hi
  have hBB4 := hBB.trans (hb4.mono hBB.size)
  have hb44 : b < w4.heap.size := Nat.lt_of_lt_of_le hb hb4.size
  clear hcell hfree hBB hb4 c2 hcv1 hcv hb1 hb2 hb3 hsz3 hb
  obtain ⟨k, hk⟩ : ∃ k, at_ % 4 = k := ⟨_, rfl⟩
  have hk4 : k < 4 := by omega
  have hki : (at_ : Int) % 4 = (k : Int) := by omega
  obtain ⟨x, hx⟩ : ∃ x, x = (C.getD k 0).toNat := ⟨_, rfl⟩
  have hx0 : x < 256 := hx ▸ (C.getD k 0).toNat_lt
  obtain ⟨y, hy⟩ : ∃ y, y = UInt8.ofNat ((x + 1 + by_ % 255) % 256) := ⟨_, rfl⟩
  have hyx : y ≠ C.getD k 0 := by
    intro e
    have h1 := congrArg UInt8.toNat (hy.symm.trans e)
    rw [u8_ofNat _ (Nat.mod_lt _ (by decide)), ← hx] at h1
    omega
  have hyn : ((x : Int) + 1 + (by_ : Int) % 255) % 256 = (y.toNat : Int) := by
    rw [hy, u8_ofNat _ (Nat.mod_lt _ (by decide))]; omega
  have CS4 := Lib.hid (turned_cells hcell4 HC4.out hk4 y)
  have F : Hid (List.set C k y ≠ C) := fun e => hyx (by
    have h1 := congrArg (fun l => l.getD k 0) e
    simp only [List.getD_eq_getElem?_getD] at h1 ⊢
    rw [List.getElem?_set_self (by rw [HC4.out]; exact hk4)] at h1
    exact h1)
  have g0 : w4.cell? ⟨b, k, none⟩ = some (.int .u8 (x : Int)) := by rw [hcell4 k hk4, hx]
  have f0 : w4.frozen? ⟨b, k, none⟩ = false := hfree4 k hk4
  have G0 := Lib.hid g0
  have F0 := Lib.hid f0
  have HY := Lib.hid hyn
  have HK := Lib.hid hki
  have HC := Lib.hid hcell4
  clear hcell4 hx hki hy hyx hyn hfree4
  by_cases hme : more.toList = []
  · go_upto_region 9 with fail
    rw [HY.out]
    have hcv5 := turned_conv (CS4.out) HC4.out cap
    have c5 := Lib.hid (C2.out (w4.setCell ⟨b, k, none⟩ (.int .u8 (y.toNat : Int))) ⟨(C.set k y).toArray⟩ F.out)
    have hB5 : Below w.heap.size w (w4.setCell ⟨b, k, none⟩ (.int .u8 (y.toNat : Int))) := hBB4.setCell hwb _
    clear CS4 g0 f0 hBB4
    generalize w4.setCell ⟨b, k, none⟩ (.int .u8 (y.toNat : Int)) = w5 at *
    generalize (⟨(C.set k y).toArray⟩ : ByteArray) = T5 at *
    go_wp2_with fail
    refine c5.out.mono ?_
    rintro e w6 ⟨rfl, hb6⟩
    go_wp2_with fail
    go_returns
    exact ⟨rfl, hB5.trans (hb6.mono hB5.size)⟩
  · obtain ⟨C4, hC4⟩ : ∃ C4 : ByteArray, C4 = ⟨(C.take 4).toArray⟩ := ⟨_, rfl⟩
    have hcv4 := conv_take HC4.out HC.out 4 cap (by omega)
    rw [← hC4] at hcv4
    have hC44 : C4.size ≤ 4 := by rw [hC4, size_mk, List.length_take, HC4.out]; decide
    have c4 := Lib.hid (C2.out w4 (C4 ++ more) (fun e => by
      have h2 := congrArg List.length e
      rw [hC4, ByteArray.data_append, Array.toList_append, List.length_append, HC4.out] at h2
      rw [Lib.toList_data] at hme
      have h3 : more.data.toList.length ≠ 0 := fun h => hme (List.length_eq_zero_iff.1 h)
      simp [HC4.out] at h2
      exact h3 (by simpa using h2)))
    clear hC4 g0 f0
    go_wp2_with fail
    refine c4.out.mono ?_
    rintro e w5 ⟨rfl, hb5⟩
    have g0 : w5.cell? ⟨b, k, none⟩ = some (.int .u8 (x : Int)) := by rw [hb5.cell (p := ⟨b, k, none⟩) hb44]; exact G0.out
    have f0 : w5.frozen? ⟨b, k, none⟩ = false := by rw [hb5.frozen (p := ⟨b, k, none⟩) hb44]; exact F0.out
    have CS5 := Lib.hid (turned_cells (W := w5) (b := b) (fun i hi => by rw [hb5.cell (p := ⟨b, i, none⟩) hb44]; exact HC.out i hi) HC4.out hk4 y)
    have hBB5 := hBB4.trans (hb5.mono hBB4.size)
    clear hBB4 hb5 c4 hcv4 CS4
    go_upto_region 9 with fail
    rw [HY.out]
    have hcv5 := turned_conv (CS5.out) HC4.out cap
    have c5 := Lib.hid (C2.out (w5.setCell ⟨b, k, none⟩ (.int .u8 (y.toNat : Int))) ⟨(C.set k y).toArray⟩ F.out)
    have hB5 : Below w.heap.size w (w5.setCell ⟨b, k, none⟩ (.int .u8 (y.toNat : Int))) := hBB5.setCell hwb _
    clear CS5 g0 f0 hBB5
    generalize w5.setCell ⟨b, k, none⟩ (.int .u8 (y.toNat : Int)) = w7 at *
    generalize (⟨(C.set k y).toArray⟩ : ByteArray) = T5 at *
    go_wp2_with fail
    refine c5.out.mono ?_
    rintro e w6 ⟨rfl, hb6⟩
    go_wp2_with fail
    go_returns
    exact ⟨rfl, hB5.trans (hb6.mono hB5.size)⟩

theorem fu8 {x : Int} (h : (Lit.int .u8 x).wf = true) : ∃ n : Nat, x = n ∧ n < 256 := by
  have : 0 ≤ x ∧ x ≤ 255 := by simpa [Lit.wf, IntKind.min, IntKind.max, IntKind.signed, IntKind.bits] using h
  exact ⟨x.toNat, by omega, by omega⟩
theorem twice_turned (s : ByteArray) (at_ by_ : Int) (more : ByteArray) (w : World) (hs : s.size ≤ maxLen) (ha : (Lit.int .u8 at_).wf = true) (hb : (Lit.int .u8 by_).wf = true) (hm : more.size ≤ maxLen) :
    Calls Try.prog 11 #[.string s, .int .u8 at_, .int .u8 by_, .string more] w fun e w' => e = .returned (.bool true) ∧ Below w.heap.size w w' := by
  obtain ⟨i, rfl, hi⟩ := fu8 ha
  obtain ⟨j, rfl, hj⟩ := fu8 hb
  by_cases h : 500 < s.size ∨ 100 < more.size
  · exact twice_turned_far s more i j w hi hj hs hm h
  · exact twice_turned_near s more i j w hi hj (by omega) (by omega)
end Go.Proofs.Ytekcehicjggmiaa
