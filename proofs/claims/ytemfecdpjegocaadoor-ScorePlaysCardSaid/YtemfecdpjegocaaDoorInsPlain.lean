/- Insertion sort on texts, in plain Lean. -/
import Derived.Test.YtemfecdpjegocaaDoorScorePeers
namespace Go.Proofs.YtemfecdpjegocaaDoor
set_option linter.unusedVariables false

def txt (b : ByteArray) : List UInt8 := b.data.toList
def at' (l : List ByteArray) (i : Nat) : List UInt8 := txt (l.getD i ByteArray.empty)
def SP (l : List ByteArray) (i : Nat) : Prop := ∀ a b, a < b → b < i → at' l a ≤ at' l b
def InsP (l : List ByteArray) (i k : Nat) : Prop :=
  (∀ a b, a < b → b ≤ i → a ≠ k → b ≠ k → at' l a ≤ at' l b) ∧ ∀ b, k < b → b ≤ i → at' l k ≤ at' l b
def swapT (l : List ByteArray) (k : Nat) : List ByteArray := (l.set k (l.getD (k - 1) ByteArray.empty)).set (k - 1) (l.getD k ByteArray.empty)
theorem swapT_len (l : List ByteArray) (k : Nat) : (swapT l k).length = l.length := by simp [swapT]
theorem swapT_at (l : List ByteArray) (k : Nat) (h0 : 0 < k) (hk : k < l.length) (j : Nat) : at' (swapT l k) j = if j = k - 1 then at' l k else if j = k then at' l (k - 1) else at' l j := by
  unfold at' swapT
  congr 1
  simp only [List.getD_eq_getElem?_getD, List.getElem?_set, List.length_set]
  by_cases h1 : j = k - 1
  · subst h1
    simp
    rw [if_pos (by omega)]
    simp
  · rw [if_neg (by omega), if_neg h1]
    by_cases h2 : j = k
    · subst h2; simp [hk]
    · rw [if_neg (by omega), if_neg h2]
theorem swapT_perm (l : List ByteArray) (k : Nat) (h0 : 0 < k) (hk : k < l.length) : (swapT l k).Perm l := by
  unfold swapT
  have e1 : l.getD (k - 1) ByteArray.empty = l[k - 1] := by rw [List.getD_eq_getElem?_getD, List.getElem?_eq_getElem (by omega)]; rfl
  have e2 : l.getD k ByteArray.empty = l[k] := by rw [List.getD_eq_getElem?_getD, List.getElem?_eq_getElem hk]; rfl
  rw [e1, e2]
  exact List.set_set_perm hk (by omega)
theorem InsP.start {l : List ByteArray} {i : Nat} (h : SP l i) : InsP l i i :=
  ⟨fun a b hab hb ha hb2 => h a b hab (by omega), fun b h1 h2 => by omega⟩
theorem InsP.step {l : List ByteArray} {i k : Nat} (h : InsP l i k) (h0 : 0 < k) (hki : k ≤ i) (hi : i < l.length) (hlt : at' l k < at' l (k - 1)) : InsP (swapT l k) i (k - 1) := by
  have hle : at' l k ≤ at' l (k - 1) := List.le_of_lt hlt
  refine ⟨fun a b hab hb ha hb2 => ?_, fun b hb1 hb2 => ?_⟩
  · rw [swapT_at l k h0 (by omega), swapT_at l k h0 (by omega), if_neg ha, if_neg hb2]
    by_cases e1 : a = k
    · rw [if_pos e1, if_neg (by omega)]
      exact h.1 (k - 1) b (by omega) hb (by omega) (by omega)
    · rw [if_neg e1]
      by_cases e2 : b = k
      · rw [if_pos e2]
        exact h.1 a (k - 1) (by omega) (by omega) e1 (by omega)
      · rw [if_neg e2]
        exact h.1 a b hab hb e1 e2
  · rw [swapT_at l k h0 (by omega), swapT_at l k h0 (by omega), if_pos rfl, if_neg (by omega)]
    by_cases e : b = k
    · rw [if_pos e]; exact hle
    · rw [if_neg e]; exact h.2 b (by omega) hb2
theorem InsP.done {l : List ByteArray} {i k : Nat} (h : InsP l i k) (hd : k = 0 ∨ ¬ at' l k < at' l (k - 1)) : SP l (i + 1) := by
  intro a b hab hb
  by_cases ea : a = k
  · subst ea; exact h.2 b hab (by omega)
  · by_cases eb : b = k
    · subst eb
      rcases hd with hd | hd
      · omega
      · have hge : at' l (b - 1) ≤ at' l b := List.not_lt.1 hd
        by_cases e : a = b - 1
        · rw [e]; exact hge
        · exact List.le_trans (h.1 a (b - 1) (by omega) (by omega) ea (by omega)) hge
    · exact h.1 a b hab (by omega) ea eb
theorem SP.one (l : List ByteArray) : SP l 1 := fun a b h1 h2 => by omega
theorem SP.sorted {l m : List ByteArray} (h : SP l l.length) (hp : l.Perm m) : l.map txt = sortS (m.map txt) := by
  have tr : ∀ a b c : List UInt8, decide (a ≤ b) = true → decide (b ≤ c) = true → decide (a ≤ c) = true := fun a b c h1 h2 => by
    simp only [decide_eq_true_eq] at *; exact List.le_trans h1 h2
  have tt : ∀ a b : List UInt8, (decide (a ≤ b) || decide (b ≤ a)) = true := fun a b => by
    simp only [Bool.or_eq_true, decide_eq_true_eq]; exact List.le_total a b
  have s2 := List.pairwise_mergeSort (le := fun x y : List UInt8 => decide (x ≤ y)) tr tt (m.map txt)
  have s1 : (l.map txt).Pairwise fun x y => decide (x ≤ y) = true := by
    rw [List.pairwise_iff_getElem]
    intro a b ha hb hab
    simp only [List.length_map] at ha hb
    have := h a b hab hb
    unfold at' at this
    rw [List.getD_eq_getElem?_getD, List.getD_eq_getElem?_getD, List.getElem?_eq_getElem ha, List.getElem?_eq_getElem hb] at this
    simpa using this
  refine List.Perm.eq_of_pairwise (le := fun x y : List UInt8 => decide (x ≤ y) = true) ?_ s1 s2 ((hp.map txt).trans (List.mergeSort_perm (m.map txt) _).symm)
  intro a b _ _ h1 h2
  simp only [decide_eq_true_eq] at h1 h2
  exact List.le_antisymm h1 h2
end Go.Proofs.YtemfecdpjegocaaDoor
