/- Plain law of the joiner: parts that are there, by their bodies. -/
import Derived.Test.YtemfecdpjegocaaPartMay
import Derived.Test.YtemfecdpjegocaaLMap
namespace Go.Proofs.Ytemfecdpjegocaa
set_option linter.unusedVariables false

def addId (acc : List Int) (x : Int) : List Int := if x ∈ acc then acc else acc ++ [x]
/-- The numbers of the bodies of which parts are there, each once. -/
def idsL (L : List Pt) : List Int := L.foldl (fun acc p => addId acc p.id) []
def partsOf (L : List Pt) (x : Int) : List (Int × ByteArray) := (L.filter fun p => p.id == x).map fun p => (p.n, p.text)
def usedL (L : List Pt) : Nat := (L.map fun p => p.text.size).sum
def ofL (L : List Pt) (x : Int) : Int := ((L.find? fun p => p.id == x).map Pt.of_).getD 0
def dropL (L : List Pt) (x : Int) : List Pt := L.filter fun p => p.id != x
def sizeP (l : List (Int × ByteArray)) : Nat := (l.map fun q => q.2.size).sum

theorem idsL_snoc (L : List Pt) (p : Pt) : idsL (L ++ [p]) = addId (idsL L) p.id := by unfold idsL; rw [List.foldl_append]; rfl
theorem snoc_ind {α : Type} {P : List α → Prop} (h0 : P []) (h1 : ∀ l x, P l → P (l ++ [x])) : ∀ l, P l := by
  have key : ∀ (n : Nat) (l : List α), l.length = n → P l := by
    intro n
    induction n with
    | zero => intro l hl; rw [List.length_eq_zero_iff.1 hl]; exact h0
    | succ n ih =>
      intro l hl
      rcases List.eq_nil_or_concat l with rfl | ⟨r, x, rfl⟩
      · simp at hl
      · rw [List.concat_eq_append] at hl ⊢
        exact h1 _ _ (ih r (by simpa using hl))
  exact fun l => key _ l rfl
theorem mem_addId {acc : List Int} {x y : Int} : y ∈ addId acc x ↔ y ∈ acc ∨ y = x := by
  unfold addId
  split
  · rename_i h
    constructor
    · exact .inl
    · rintro (h1 | rfl)
      · exact h1
      · exact h
  · rw [List.mem_append, List.mem_singleton]
theorem mem_idsL (L : List Pt) : ∀ x, x ∈ idsL L ↔ ∃ p ∈ L, p.id = x := by
  induction L using snoc_ind with
  | h0 => intro x; simp [idsL]
  | h1 L p ih =>
    intro x
    rw [idsL_snoc, mem_addId, ih]
    constructor
    · rintro (⟨q, hq, h⟩ | rfl)
      · exact ⟨q, by simp [hq], h⟩
      · exact ⟨p, by simp, rfl⟩
    · rintro ⟨q, hq, h⟩
      rcases List.mem_append.1 hq with hq | hq
      · exact .inl ⟨q, hq, h⟩
      · simp at hq; subst hq; exact .inr h.symm
theorem nodup_idsL (L : List Pt) : (idsL L).Nodup := by
  induction L using snoc_ind with
  | h0 => exact List.nodup_nil
  | h1 L p ih =>
    rw [idsL_snoc]
    unfold addId
    split
    · exact ih
    · rename_i h
      rw [List.nodup_append]
      refine ⟨ih, by simp, fun a ha b hb e => ?_⟩
      simp at hb; subst hb; subst e
      exact h ha
theorem dropL_snoc (L : List Pt) (p : Pt) (x : Int) : dropL (L ++ [p]) x = if p.id = x then dropL L x else dropL L x ++ [p] := by
  unfold dropL
  rw [List.filter_append]
  by_cases h : p.id = x
  · simp [h]
  · simp [h]
theorem idsL_drop (L : List Pt) (x : Int) : idsL (dropL L x) = (idsL L).filter (· != x) := by
  induction L using snoc_ind with
  | h0 => rfl
  | h1 L p ih =>
    rw [dropL_snoc, idsL_snoc]
    by_cases h : p.id = x
    · rw [if_pos h, ih]
      unfold addId
      split
      · rfl
      · rw [List.filter_append]; simp [h]
    · rw [if_neg h, idsL_snoc, ih]
      unfold addId
      by_cases hm : p.id ∈ idsL L
      · rw [if_pos hm, if_pos (by rw [List.mem_filter]; exact ⟨hm, by simp [h]⟩)]
      · rw [if_neg hm, if_neg (fun h' => hm (List.mem_filter.1 h').1), List.filter_append]
        simp [h]
theorem partsOf_snoc (L : List Pt) (p : Pt) (x : Int) : partsOf (L ++ [p]) x = if p.id = x then partsOf L x ++ [(p.n, p.text)] else partsOf L x := by
  unfold partsOf
  rw [List.filter_append, List.map_append]
  by_cases h : p.id = x
  · simp [h]
  · simp [h]
theorem partsOf_drop (L : List Pt) {x y : Int} (h : y ≠ x) : partsOf (dropL L x) y = partsOf L y := by
  unfold partsOf dropL
  rw [List.filter_filter]
  congr 1
  apply List.filter_congr
  intro p _
  by_cases e : p.id = y
  · simp [e, h]
  · simp [e]
theorem partsOf_none (L : List Pt) {x : Int} (h : x ∉ idsL L) : partsOf L x = [] := by
  unfold partsOf
  rw [List.map_eq_nil_iff, List.filter_eq_nil_iff]
  intro p hp he
  exact h ((mem_idsL L x).2 ⟨p, hp, by simpa using he⟩)
theorem usedL_snoc (L : List Pt) (p : Pt) : usedL (L ++ [p]) = usedL L + p.text.size := by unfold usedL; simp
theorem sizeP_snoc (l : List (Int × ByteArray)) (q : Int × ByteArray) : sizeP (l ++ [q]) = sizeP l + q.2.size := by unfold sizeP; simp
theorem usedL_drop (L : List Pt) (x : Int) : usedL (dropL L x) + sizeP (partsOf L x) = usedL L := by
  induction L using snoc_ind with
  | h0 => rfl
  | h1 L p ih =>
    rw [dropL_snoc, partsOf_snoc, usedL_snoc]
    by_cases h : p.id = x
    · rw [if_pos h, if_pos h, sizeP_snoc]; simp only; omega
    · rw [if_neg h, if_neg h, usedL_snoc]; omega
theorem ofL_snoc (L : List Pt) (p : Pt) (x : Int) : ofL (L ++ [p]) x = if x ∈ idsL L then ofL L x else if p.id = x then p.of_ else 0 := by
  unfold ofL
  rw [List.find?_append]
  cases hf : L.find? (fun p => p.id == x) with
  | none =>
    have hn : x ∉ idsL L := fun hm => by
      obtain ⟨q, hq, he⟩ := (mem_idsL L x).1 hm
      have := List.find?_eq_none.1 hf q hq
      simp [he] at this
    rw [if_neg hn]
    by_cases h : p.id = x <;> simp [h]
  | some q =>
    have hm : x ∈ idsL L := (mem_idsL L x).2 ⟨q, List.mem_of_find?_eq_some hf, by have := List.find?_some hf; simpa using this⟩
    rw [if_pos hm]; rfl
theorem ofL_drop (L : List Pt) {x y : Int} (h : y ≠ x) : ofL (dropL L x) y = ofL L y := by
  unfold ofL dropL
  rw [List.find?_filter]
  have e : (fun a : Pt => decide ((a.id != x) = true ∧ (a.id == y) = true)) = fun p => p.id == y := by
    funext p
    by_cases e : p.id = y
    · simp [e, h]
    · simp [e]
  rw [e]

/-- A body, joined. -/
def joinTo (l : List (Int × ByteArray)) (p : Pt) : Nat → List UInt8
  | 0 => []
  | k + 1 => joinTo l p k ++ (if (k : Int) = p.n then p.text else (getL l (k : Int)).getD ByteArray.empty).data.toList
/-- What Add does. -/
def addJ (most open_ : Int) (L : List Pt) (p : Pt) : List Pt × ByteArray × Bool × Int :=
  if ¬ mayP p then (L, ByteArray.empty, false, 1)
  else if p.n ∈ (partsOf L p.id).map Prod.fst ∨ (p.id ∈ idsL L ∧ ofL L p.id ≠ p.of_) then (L, ByteArray.empty, false, 8)
  else if p.id ∉ idsL L ∧ 1 < p.of_ ∧ open_ ≤ ((idsL L).length : Int) then (L, ByteArray.empty, false, 4)
  else if ((partsOf L p.id).length : Int) + 1 = p.of_ then (dropL L p.id, ⟨(joinTo (partsOf L p.id) p p.of_.toNat).toArray⟩, true, 0)
  else if most - (usedL L : Int) < (p.text.size : Int) then (L, ByteArray.empty, false, 5)
  else (L ++ [p], ByteArray.empty, false, 0)
end Go.Proofs.Ytemfecdpjegocaa
