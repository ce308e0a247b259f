/- The walk of the document's Next of frames. -/
import Derived.Test.YtekcehicjggmiaaPlainNext
namespace Go.Proofs.Ytekcehicjggmiaa
open Go.RowKit
set_option linter.unusedVariables false

set_option maxRecDepth 100000 in
set_option maxHeartbeats 400000 in
theorem ref15_next_short (m : Int) (s : ByteArray) (er : Nat) (w : World) (hm : -9223372036854775808 ≤ m ∧ m ≤ 9223372036854775807) (hs : s.size ≤ maxLen) (hp : pSize m s.data.toList = (0, 0, er)) (he : er ≠ 0) :
    Calls Try.prog 46 #[.int .i64 m, .string s] w fun e w' => e = .returned (PF.bad er).v ∧ Below w.heap.size w w' := by
  have c1 := fun w => ref_size m s w hm hs
  rw [hp] at c1
  have C1 := Lib.hid c1
  have he2 : ((er : Int) != 0) = true := by rw [bne_iff_ne]; omega
  clear he
  unfold maxLen at hs
  clear c1 hp hm
  go_enter Try.func46, Try.ntmps46
  go_wp2_with fail
  refine (C1.out _).mono ?_
  rintro e w' ⟨rfl, rfl⟩

  go_wp2_with fail
  refine bodyPost_ret (v := (PF.bad er).v) (by simp [results, Try.results46, go_sem, PF.v, PF.bad, frameV]) rfl ⟨rfl, ?_⟩
  exact (Below.refl _ _).alloc (Nat.le_refl _) _

set_option maxRecDepth 100000 in
set_option maxHeartbeats 400000 in
theorem ref15_next_over (m : Int) (s : ByteArray) (n k : Nat) (w : World) (hm : -9223372036854775808 ≤ m ∧ m ≤ 9223372036854775807) (hs : s.size ≤ maxLen) (hp : pSize m s.data.toList = (n, k, 0)) (hov : s.size < k + n) :
    Calls Try.prog 46 #[.int .i64 m, .string s] w fun e w' => e = .returned (PF.bad 2).v ∧ Below w.heap.size w w' := by
  have c1 := fun w => ref_size m s w hm hs
  rw [hp] at c1
  have C1 := Lib.hid c1
  obtain ⟨h1, h2, h3, h4⟩ := pSize_ok hp
  rw [← Lib.size_eq] at h3
  have hd : (s.size : Int) - k < n := by omega
  clear h1
  unfold maxLen at hs
  clear c1 hp hm
  go_enter Try.func46, Try.ntmps46
  go_wp2_with fail
  refine (C1.out _).mono ?_
  rintro e w' ⟨rfl, rfl⟩

  go_wp2_with fail
  refine bodyPost_ret (v := (PF.bad 2).v) (by simp [results, Try.results46, go_sem, PF.v, PF.bad, frameV]) rfl ⟨rfl, ?_⟩
  exact (Below.refl _ _).alloc (Nat.le_refl _) _

set_option maxRecDepth 100000 in
set_option maxHeartbeats 400000 in
theorem ref15_next_form (m : Int) (s : ByteArray) (n k : Nat) (w : World) (hm : -9223372036854775808 ≤ m ∧ m ≤ 9223372036854775807) (hs : s.size ≤ maxLen) (hp : pSize m s.data.toList = (n, k, 0)) (hov : k + n ≤ s.size) (hq : (lebNext (s.extract k (k + n)).data.toList 0 0).2.2 ≠ 0) :
    Calls Try.prog 46 #[.int .i64 m, .string s] w fun e w' => e = .returned (PF.bad 3).v ∧ Below w.heap.size w w' := by
  have c1 := fun w => ref_size m s w hm hs
  rw [hp] at c1
  have C1 := Lib.hid c1
  obtain ⟨h1, h2, h3, h4⟩ := pSize_ok hp
  rw [← Lib.size_eq] at h3
  have hd : decide ((s.size : Int) - k < n) = false := by simp; omega
  have cn := fun w => leb_ref_next (s.extract k (k + n)) w (by unfold maxLen at *; rw [ByteArray.size_extract]; omega)
  generalize lebNext (s.extract k (k + n)).data.toList 0 0 = t at *
  obtain ⟨ti, tz, te⟩ := t
  have CN : Hid (∀ w, Calls Try.prog 64 #[.string (s.extract k (k + n))] w fun e' w' => e' = .returned (.tuple #[.int .u64 ti, .int .i64 tz, .int .i64 te]) ∧ w = w') := cn
  have hq' : ((te : Int) != 0) = true := by rw [bne_iff_ne]; simp only at hq; omega
  clear h1 cn hq
  unfold maxLen at hs
  clear c1 hp hm
  go_enter Try.func46, Try.ntmps46
  go_wp2_with fail
  refine (C1.out _).mono ?_
  rintro e w' ⟨rfl, rfl⟩
  go_wp2_with fail
  refine (CN.out _).mono ?_
  rintro e w' ⟨rfl, rfl⟩
  go_wp2_with fail
  refine bodyPost_ret (v := (PF.bad 3).v) (by simp [results, Try.results46, go_sem, PF.v, PF.bad, frameV]) rfl ⟨rfl, ?_⟩
  exact (Below.refl _ _).alloc (Nat.le_refl _) _

set_option maxRecDepth 100000 in
set_option maxHeartbeats 400000 in
theorem ref15_next_ok (m : Int) (s : ByteArray) (n k id z : Nat) (w : World) (hm : -9223372036854775808 ≤ m ∧ m ≤ 9223372036854775807) (hs : s.size ≤ maxLen) (hp : pSize m s.data.toList = (n, k, 0)) (hov : k + n ≤ s.size) (hq : lebNext (s.extract k (k + n)).data.toList 0 0 = (id, z, 0)) :
    Calls Try.prog 46 #[.int .i64 m, .string s] w fun e w' => e = .returned (PF.mk id ((s.extract k (k + n)).extract z n) (k + n) 0).v ∧ Below w.heap.size w w' := by
  have c1 := fun w => ref_size m s w hm hs
  rw [hp] at c1
  have C1 := Lib.hid c1
  obtain ⟨h1, h2, h3, h4⟩ := pSize_ok hp
  rw [← Lib.size_eq] at h3
  have hd : decide ((s.size : Int) - k < n) = false := by simp; omega
  have hxs : (s.extract k (k + n)).size = n := by rw [ByteArray.size_extract]; omega
  have hz := (lebNext_ok hq).1
  rw [← Lib.size_eq, hxs] at hz
  have cn := fun w => leb_ref_next (s.extract k (k + n)) w (by unfold maxLen at *; rw [ByteArray.size_extract]; omega)
  rw [hq] at cn
  have CN : Hid (∀ w, Calls Try.prog 64 #[.string (s.extract k (k + n))] w fun e' w' => e' = .returned (.tuple #[.int .u64 id, .int .i64 z, .int .i64 0]) ∧ w = w') := cn
  clear h1 cn hq
  unfold maxLen at hs
  clear c1 hp hm
  go_enter Try.func46, Try.ntmps46
  go_wp2_with fail
  refine (C1.out _).mono ?_
  rintro e w' ⟨rfl, rfl⟩
  go_wp2_with fail
  refine (CN.out _).mono ?_
  rintro e w' ⟨rfl, rfl⟩
  go_wp2_with fail
  refine bodyPost_ret (v := (PF.mk id ((s.extract k (k + n)).extract z n) (k + n) 0).v) (by simp [results, Try.results46, go_sem, PF.v, frameV]) rfl ⟨rfl, ?_⟩
  exact (Below.refl _ _).alloc (Nat.le_refl _) _

/-- Both, put together. -/
theorem next_both {P : PF → Prop} (m : Int) (s : ByteArray)
    (h1 : ∀ er, pSize m s.data.toList = (0, 0, er) → er ≠ 0 → P (.bad er))
    (h2 : ∀ n k, pSize m s.data.toList = (n, k, 0) → s.size < k + n → P (.bad 2))
    (h3 : ∀ n k, pSize m s.data.toList = (n, k, 0) → k + n ≤ s.size → (lebNext (s.extract k (k + n)).data.toList 0 0).2.2 ≠ 0 → P (.bad 3))
    (h4 : ∀ n k id z, pSize m s.data.toList = (n, k, 0) → k + n ≤ s.size → lebNext (s.extract k (k + n)).data.toList 0 0 = (id, z, 0) → P ⟨id, (s.extract k (k + n)).extract z n, k + n, 0⟩) : P (pNext m s) := by
  by_cases h0 : (pSize m s.data.toList).2.2 = 0
  · obtain ⟨⟨n, k, e⟩, hp⟩ : ∃ t, pSize m s.data.toList = t := ⟨_, rfl⟩
    rw [hp] at h0
    simp only at h0
    subst h0
    by_cases hov : s.size < k + n
    · rw [pNext_over hp hov]; exact h2 n k hp hov
    · by_cases hq : (lebNext (s.extract k (k + n)).data.toList 0 0).2.2 = 0
      · obtain ⟨⟨id, z, e⟩, hq'⟩ : ∃ t, lebNext (s.extract k (k + n)).data.toList 0 0 = t := ⟨_, rfl⟩
        rw [hq'] at hq
        simp only at hq
        subst hq
        rw [pNext_ok hp (by omega) hq']; exact h4 n k id z hp (by omega) hq'
      · rw [pNext_form hp (by omega) hq]; exact h3 n k hp (by omega) hq
  · rw [pNext_short h0]; exact h1 _ (pSize_bad h0) h0
theorem plain_next (m : Int) (s : ByteArray) (w : World) (hm : -9223372036854775808 ≤ m ∧ m ≤ 9223372036854775807) (hs : s.size ≤ maxLen) :
    Calls Try.prog 43 #[.int .i64 m, .string s] w fun e w' => e = .returned (pNext m s).v ∧ Below w.heap.size w w' :=
  next_both (P := fun r => Calls Try.prog 43 #[.int .i64 m, .string s] w fun e w' => e = .returned r.v ∧ Below w.heap.size w w') m s
    (fun er h he => plain_next_short m s er w hm hs h he) (fun n k h ho => plain_next_over m s n k w hm hs h ho) (fun n k h ho hq => plain_next_form m s n k w hm hs h ho hq)
    (fun n k id z h ho hq => plain_next_ok m s n k id z w hm hs h ho hq)
theorem ref15_next (m : Int) (s : ByteArray) (w : World) (hm : -9223372036854775808 ≤ m ∧ m ≤ 9223372036854775807) (hs : s.size ≤ maxLen) :
    Calls Try.prog 46 #[.int .i64 m, .string s] w fun e w' => e = .returned (pNext m s).v ∧ Below w.heap.size w w' :=
  next_both (P := fun r => Calls Try.prog 46 #[.int .i64 m, .string s] w fun e w' => e = .returned r.v ∧ Below w.heap.size w w') m s
    (fun er h he => ref15_next_short m s er w hm hs h he) (fun n k h ho => ref15_next_over m s n k w hm hs h ho) (fun n k h ho hq => ref15_next_form m s n k w hm hs h ho hq)
    (fun n k id z h ho hq => ref15_next_ok m s n k id z w hm hs h ho hq)
end Go.Proofs.Ytekcehicjggmiaa
