/- Plain facts about frames that say how long they are: no program in sight. -/
import Derived.Test.YtekcehicjggmiaaLebLaws
import Derived.Lib.Strings
namespace Go.Proofs.Ytekcehicjggmiaa
set_option linter.unusedVariables false

theorem pbext {a b : ByteArray} (h : a.data.toList = b.data.toList) : a = b := by
  apply ByteArray.ext
  exact Array.toList_inj.1 h

/-- How many bytes stand behind the length, how many that has, the error. -/
def pSize (most : Int) (l : List UInt8) : Nat × Nat × Nat :=
  if (lebNext l 0 0).2.2 = 0 then if most < 0 ∨ most < ((lebNext l 0 0).1 : Int) then (0, 0, 5) else lebNext l 0 0 else (0, 0, (lebNext l 0 0).2.2)
/-- A frame, how many bytes it has, the error. -/
structure PF where
  id : Nat
  body : ByteArray
  n : Nat
  e : Nat
def PF.bad (e : Nat) : PF := ⟨0, ⟨#[]⟩, 0, e⟩
def pNext (most : Int) (s : ByteArray) : PF :=
  if (pSize most s.data.toList).2.2 = 0 then
    if s.size < (pSize most s.data.toList).2.1 + (pSize most s.data.toList).1 then .bad 2
    else
      (fun i : ByteArray => if (lebNext i.data.toList 0 0).2.2 = 0 then ⟨(lebNext i.data.toList 0 0).1, i.extract (lebNext i.data.toList 0 0).2.1 i.size, (pSize most s.data.toList).2.1 + (pSize most s.data.toList).1, 0⟩ else .bad 3)
        (s.extract (pSize most s.data.toList).2.1 ((pSize most s.data.toList).2.1 + (pSize most s.data.toList).1))
  else .bad (pSize most s.data.toList).2.2
def pPut (id : Nat) (b : ByteArray) : ByteArray := ⟨(lebPut ((lebPut id).length + b.size)).toArray⟩ ++ ⟨(lebPut id).toArray⟩ ++ b

theorem pSize_ok {most : Int} {l : List UInt8} {n k : Nat} (h : pSize most l = (n, k, 0)) : lebNext l 0 0 = (n, k, 0) ∧ (n : Int) ≤ most ∧ k ≤ l.length ∧ k ≤ 10 := by
  unfold pSize at h
  split at h
  · rename_i h0
    split at h
    · simp at h
    · rename_i h1
      have hk := lebNext_ok h
      rw [h] at h1
      simp only at h1
      exact ⟨h, by omega, hk.1, hk.2.2.2⟩
  · rename_i h0
    simp only [Prod.mk.injEq] at h
    exact absurd h.2.2 h0
theorem pSize_bad {most : Int} {l : List UInt8} (h : (pSize most l).2.2 ≠ 0) : pSize most l = (0, 0, (pSize most l).2.2) := by
  unfold pSize at *
  split
  · rename_i h0
    rw [if_pos h0] at h
    split
    · rfl
    · rename_i h1
      rw [if_neg h1] at h
      exact absurd h0 h
  · rfl

theorem pSize_take (most : Int) (l : List UInt8) (c : Nat) : pSize most (l.take c) = (0, 0, 2) ∨ pSize most (l.take c) = pSize most l := by
  rcases lebNext_take l c 0 0 with h | h
  · left; unfold pSize; rw [h]; rfl
  · right; unfold pSize; rw [h]

theorem pNext_short {most : Int} {s : ByteArray} (h : (pSize most s.data.toList).2.2 ≠ 0) : pNext most s = .bad (pSize most s.data.toList).2.2 := by unfold pNext; rw [if_neg h]
theorem pNext_over {most : Int} {s : ByteArray} {n k : Nat} (h : pSize most s.data.toList = (n, k, 0)) (h2 : s.size < k + n) : pNext most s = .bad 2 := by
  unfold pNext; rw [h, if_pos rfl, if_pos h2]
theorem pNext_form {most : Int} {s : ByteArray} {n k : Nat} (h : pSize most s.data.toList = (n, k, 0)) (h2 : k + n ≤ s.size) (h3 : (lebNext (s.extract k (k + n)).data.toList 0 0).2.2 ≠ 0) : pNext most s = .bad 3 := by
  unfold pNext; rw [h, if_pos rfl, if_neg (show ¬ s.size < k + n by omega)]
  show (if _ then _ else _) = _
  rw [if_neg h3]
theorem pNext_ok {most : Int} {s : ByteArray} {n k id z : Nat} (h : pSize most s.data.toList = (n, k, 0)) (h2 : k + n ≤ s.size) (h3 : lebNext (s.extract k (k + n)).data.toList 0 0 = (id, z, 0)) :
    pNext most s = ⟨id, (s.extract k (k + n)).extract z n, k + n, 0⟩ := by
  unfold pNext; rw [h, if_pos rfl, if_neg (show ¬ s.size < k + n by omega)]
  show (if _ then _ else _) = _
  rw [h3, if_pos rfl, ByteArray.size_extract, show min (k + n) s.size - k = n by omega]

/-- A beginning is short, or tells what all tell. -/
theorem pNext_take (most : Int) (s : ByteArray) (c : Nat) (hc : c ≤ s.size) : pNext most (s.extract 0 c) = .bad 2 ∨ pNext most (s.extract 0 c) = pNext most s := by
  have e0 : (s.extract 0 c).data.toList = s.data.toList.take c := by rw [Lib.extract_data]; simp
  have ez : (s.extract 0 c).size = c := by rw [ByteArray.size_extract]; omega
  rcases pSize_take most s.data.toList c with h | h
  · left; rw [← e0] at h; rw [pNext_short (by rw [h]; decide), h]
  · rw [← e0] at h
    by_cases h0 : (pSize most s.data.toList).2.2 = 0
    · obtain ⟨⟨n, k, e⟩, hp⟩ : ∃ t, pSize most s.data.toList = t := ⟨_, rfl⟩
      rw [hp] at h h0
      simp only at h0
      subst h0
      by_cases h1 : c < k + n
      · left; exact pNext_over h (by omega)
      · right
        have ex : (s.extract 0 c).extract k (k + n) = s.extract k (k + n) := by
          rw [ByteArray.extract_extract]; congr 1 <;> omega
        by_cases h2 : (lebNext (s.extract k (k + n)).data.toList 0 0).2.2 = 0
        · obtain ⟨⟨id, z, e⟩, hq⟩ : ∃ t, lebNext (s.extract k (k + n)).data.toList 0 0 = t := ⟨_, rfl⟩
          rw [hq] at h2
          simp only at h2
          subst h2
          rw [pNext_ok h (by omega) (by rw [ex]; exact hq), pNext_ok hp (by omega) hq, ex]
        · rw [pNext_form h (by omega) (by rw [ex]; exact h2), pNext_form hp (by omega) h2]
    · right; rw [pNext_short (by rw [h]; exact h0), pNext_short h0, h]

theorem pPut_data (id : Nat) (b : ByteArray) : (pPut id b).data.toList = lebPut ((lebPut id).length + b.size) ++ (lebPut id ++ b.data.toList) := by
  unfold pPut; simp
theorem pPut_size (id : Nat) (b : ByteArray) : (pPut id b).size = (lebPut ((lebPut id).length + b.size)).length + ((lebPut id).length + b.size) := by
  unfold pPut; rw [ByteArray.size_append, ByteArray.size_append, size_mk (lebPut ((lebPut id).length + b.size)), size_mk (lebPut id)]; omega
theorem ext_pre (a b : ByteArray) (i j : Nat) (x y z : List UInt8) (h : a.data.toList = x ++ (y ++ z)) (hi : i = x.length) (hj : j = x.length + y.length) : (a.extract i j).data.toList = y := by
  rw [Lib.extract_data, h, hi, hj, List.drop_left, show x.length + y.length - x.length = y.length by omega, List.take_left]

/-- What was put is told again, with whatever behind. -/
theorem pNext_put (most : Int) (id : Nat) (b more : ByteArray) (hid : id < 18446744073709551616) (hb : (((lebPut id).length + b.size : Nat) : Int) ≤ most) (hm : b.size ≤ 9223372036854775807) :
    pNext most (pPut id b ++ more) = ⟨id, b, (pPut id b).size, 0⟩ := by
  have hl := lebPut_le 10 id (Nat.lt_of_lt_of_le hid (by decide))
  have ed : (pPut id b ++ more).data.toList = lebPut ((lebPut id).length + b.size) ++ ((lebPut id ++ b.data.toList) ++ more.data.toList) := by
    rw [ByteArray.data_append, Array.toList_append, pPut_data]; simp
  have hn := lebNext_put ((lebPut id).length + b.size) ((lebPut id ++ b.data.toList) ++ more.data.toList) (by omega)
  rw [← ed] at hn
  have hs : pSize most (pPut id b ++ more).data.toList = ((lebPut id).length + b.size, (lebPut ((lebPut id).length + b.size)).length, 0) := by
    unfold pSize; rw [hn, if_pos rfl, if_neg (by simp only; omega)]
  have hsz : (lebPut ((lebPut id).length + b.size)).length + ((lebPut id).length + b.size) ≤ (pPut id b ++ more).size := by rw [ByteArray.size_append, pPut_size]; omega
  have hb2 : b.data.toList.length = b.size := (Lib.size_eq b).symm
  have ex : ((pPut id b ++ more).extract (lebPut ((lebPut id).length + b.size)).length ((lebPut ((lebPut id).length + b.size)).length + ((lebPut id).length + b.size))).data.toList = lebPut id ++ b.data.toList :=
    ext_pre _ b _ _ _ _ _ ed rfl (by rw [List.length_append, hb2])
  have h3 : lebNext ((pPut id b ++ more).extract (lebPut ((lebPut id).length + b.size)).length ((lebPut ((lebPut id).length + b.size)).length + ((lebPut id).length + b.size))).data.toList 0 0 = (id, (lebPut id).length, 0) := by
    rw [ex]; exact lebNext_put id _ hid
  rw [pNext_ok hs hsz h3, pPut_size]
  congr 1
  apply pbext
  rw [Lib.extract_data, ex, List.drop_left, List.take_of_length_le (by omega)]

/-- What is told was put so. -/
theorem pPut_next {most : Int} {s : ByteArray} {id n : Nat} {b : ByteArray} (h : pNext most s = ⟨id, b, n, 0⟩) : n ≤ s.size ∧ id < 18446744073709551616 ∧ (lebPut id).length + b.size ≤ n ∧ pPut id b = s.extract 0 n := by
  by_cases h0 : (pSize most s.data.toList).2.2 = 0
  · obtain ⟨⟨m, k, e⟩, hp⟩ : ∃ t, pSize most s.data.toList = t := ⟨_, rfl⟩
    rw [hp] at h0
    simp only at h0
    subst h0
    have hk := (pSize_ok hp).1
    have hk' := lebNext_ok hk
    by_cases h1 : s.size < k + m
    · rw [pNext_over hp h1] at h; simp [PF.bad] at h
    · by_cases h2 : (lebNext (s.extract k (k + m)).data.toList 0 0).2.2 = 0
      · obtain ⟨⟨id', z, e⟩, hq⟩ : ∃ t, lebNext (s.extract k (k + m)).data.toList 0 0 = t := ⟨_, rfl⟩
        rw [hq] at h2
        simp only at h2
        subst h2
        rw [pNext_ok hp (by omega) hq] at h
        simp only [PF.mk.injEq, and_true] at h
        obtain ⟨rfl, rfl, rfl⟩ := h
        have hz := lebNext_ok hq
        have hxl : (s.extract k (k + m)).data.toList.length = m := by rw [← Lib.size_eq, ByteArray.size_extract]; omega
        rw [hxl] at hz
        have hbs : ((s.extract k (k + m)).extract z m).size = m - z := by rw [ByteArray.size_extract, ByteArray.size_extract]; omega
        have hlz : (lebPut id').length = z := by rw [hz.2.2.1, List.length_take, hxl]; omega
        refine ⟨by omega, hz.2.1, by rw [hbs, hlz]; omega, ?_⟩
        apply pbext
        rw [pPut_data, hbs, hlz, show z + (m - z) = m by omega, hk'.2.2.1, Lib.extract_data ((s.extract k (k + m))) z m, hz.2.2.1]
        have e2 : List.take (m - z) (List.drop z (s.extract k (k + m)).data.toList) = List.drop z (s.extract k (k + m)).data.toList := List.take_of_length_le (by rw [List.length_drop, hxl]; omega)
        rw [e2, List.take_append_drop, Lib.extract_data, Lib.extract_data, List.drop_zero, Nat.sub_zero, show k + m - k = m by omega, ← List.take_add]
      · rw [pNext_form hp (by omega) h2] at h; simp [PF.bad] at h
  · rw [pNext_short h0] at h
    simp only [PF.bad, PF.mk.injEq] at h
    exact absurd h.2.2.2 h0
theorem pNext_bad (most : Int) (s : ByteArray) : (pNext most s).e ≠ 0 → pNext most s = .bad (pNext most s).e := by
  intro h
  unfold pNext at *
  split
  · rename_i h0
    rw [if_pos h0] at h
    split
    · rfl
    · rename_i h1
      rw [if_neg h1] at h
      revert h
      generalize s.extract _ _ = i
      intro h
      show (if _ then _ else _) = PF.bad (if _ then _ else _ : PF).e
      simp only at h
      split
      · rename_i h2; rw [if_pos h2] at h; exact absurd rfl h
      · rfl
  · rfl
end Go.Proofs.Ytekcehicjggmiaa
