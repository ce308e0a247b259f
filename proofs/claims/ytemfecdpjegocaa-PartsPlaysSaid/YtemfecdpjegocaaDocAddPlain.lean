/- The document's Add: what it computes, in plain Lean. -/
import Derived.Test.YtemfecdpjegocaaJoinPlain
namespace Go.Proofs.Ytemfecdpjegocaa
open Go.RowKit Go.Maps
set_option linter.unusedVariables false

/-- The texts of a body's parts, at their numbers. -/
def txtL (K : List Pt) (id : Int) (ofn : Nat) : List ByteArray := (List.range ofn).map fun (j : Nat) => (getL (partsOf K id) (j : Int)).getD ByteArray.empty
theorem txtL_len (K : List Pt) (id : Int) (ofn : Nat) : (txtL K id ofn).length = ofn := by simp [txtL]
theorem txtL_nil (id : Int) (ofn : Nat) : txtL [] id ofn = List.replicate ofn ByteArray.empty := by
  unfold txtL
  rw [List.eq_replicate_iff]
  refine ⟨by simp, fun b hb => ?_⟩
  obtain ⟨j, _, rfl⟩ := List.mem_map.1 hb
  rfl
theorem getL_snoc {l : List (Int × ByteArray)} {a : Int} {t : ByteArray} (x : Int) (h : a ∉ l.map Prod.fst) : getL (l ++ [(a, t)]) x = if x = a then some t else getL l x := by
  unfold getL
  rw [List.find?_append]
  by_cases hx : x = a
  · subst hx
    have : l.find? (fun p => p.1 == x) = none := by
      rw [List.find?_eq_none]
      intro p hp he
      exact h (List.mem_map.2 ⟨p, hp, by simpa using he⟩)
    rw [this]; simp
  · rw [if_neg hx]
    have : [(a, t)].find? (fun p => p.1 == x) = none := by
      rw [List.find?_eq_none]
      intro p hp he
      simp at hp; subst hp
      exact hx (by simp at he; exact he.symm)
    rw [this, Option.or_none]
theorem txtL_other {K : List Pt} {id : Int} {ofn : Nat} {q : Pt} (h : q.id ≠ id) : txtL (K ++ [q]) id ofn = txtL K id ofn := by
  unfold txtL; rw [partsOf_snoc, if_neg h]
theorem txtL_step {K : List Pt} {id : Int} {ofn : Nat} {q : Pt} {a : Nat} (h : q.id = id) (ha : q.n = a) (hlt : a < ofn) (hn : (a : Int) ∉ (partsOf K id).map Prod.fst) : txtL (K ++ [q]) id ofn = (txtL K id ofn).set a q.text := by
  refine List.ext_getElem (by simp [txtL]) fun j h1 h2 => ?_
  have hj : j < ofn := by simpa [txtL] using h1
  rw [List.getElem_set]
  simp only [txtL, List.getElem_map, List.getElem_range]
  rw [partsOf_snoc, if_pos h, ha, getL_snoc _ hn]
  by_cases hja : a = j
  · subst hja; simp
  · rw [if_neg (by omega), if_neg hja]
/-- The texts, with the last part's. -/
def lastT (K : List Pt) (p : Pt) (ofn a : Nat) : List ByteArray := (txtL K p.id ofn).set a p.text
theorem lastT_at {K : List Pt} {p : Pt} {ofn a j : Nat} (ha : p.n = a) (hj : j < ofn) : (lastT K p ofn a)[j]'(by simp [lastT, txtL]; exact hj) = if (j : Int) = p.n then p.text else (getL (partsOf K p.id) (j : Int)).getD ByteArray.empty := by
  unfold lastT
  rw [List.getElem_set, ha]
  by_cases h : a = j
  · subst h; simp
  · rw [if_neg h, if_neg (by omega)]
    simp [txtL]
theorem join_step {K : List Pt} {p : Pt} {ofn a j : Nat} (ha : p.n = a) (hj : j < ofn) :
    (⟨(joinTo (partsOf K p.id) p (j + 1)).toArray⟩ : ByteArray) = (⟨(joinTo (partsOf K p.id) p j).toArray⟩ : ByteArray) ++ (lastT K p ofn a)[j]'(by simp [lastT, txtL]; exact hj) := by
  rw [lastT_at ha hj, joinTo]
  apply ByteArray.ext
  simp

theorem getL_size {L : List Pt} {x j : Int} (h : ∀ q ∈ L, q.text.size ≤ 65536) : ((getL (partsOf L x) j).getD ByteArray.empty).size ≤ 65536 := by
  unfold getL
  cases hf : (partsOf L x).find? (fun p => p.1 == j) with
  | none => simp
  | some u =>
    have hm := List.mem_of_find?_eq_some hf
    unfold partsOf at hm
    obtain ⟨q, hq, rfl⟩ := List.mem_map.1 hm
    simpa using h q (List.mem_filter.1 hq).1
theorem lastT_size {K : List Pt} {p : Pt} {ofn a j : Nat} (ha : p.n = a) (hj : j < ofn) (hp : p.text.size ≤ 65536) (h : ∀ q ∈ K, q.text.size ≤ 65536) : ((lastT K p ofn a)[j]'(by simp [lastT, txtL]; exact hj)).size ≤ 65536 := by
  rw [lastT_at ha hj]
  split
  · exact hp
  · exact getL_size h
theorem take_snoc (L : List Pt) (k : Nat) (h : k < L.length) : L.take (k + 1) = L.take k ++ [L[k]] := by rw [List.take_append_getElem h]
theorem parts_mem {L : List Pt} {x : Int} {q : Pt} (hq : q ∈ L) (h : q.id = x) : (q.n, q.text) ∈ partsOf L x := by
  unfold partsOf
  exact List.mem_map.2 ⟨q, List.mem_filter.2 ⟨hq, by simp [h]⟩, rfl⟩
theorem parts_empty_iff (L : List Pt) (x : Int) : partsOf L x = [] ↔ x ∉ idsL L := by
  constructor
  · intro h hin
    obtain ⟨q, hq, he⟩ := (mem_idsL L x).1 hin
    have := parts_mem hq he
    rw [h] at this; cases this
  · exact partsOf_none L
section
variable {most open_ : Int} {L : List Pt} {p : Pt} (hm : mayP p) (of1 : ∀ q ∈ L, q.of_ = ofL L q.id)
include hm of1
theorem add_state {q : Pt} (hq : q ∈ L) (hid : q.id = p.id) (hbad : q.of_ ≠ p.of_ ∨ q.n = p.n) : addJ most open_ L p = (L, ByteArray.empty, false, 8) := by
  unfold addJ
  rw [if_neg (not_not_intro hm)]
  rw [if_pos]
  rcases hbad with h | h
  · refine .inr ⟨(mem_idsL L p.id).2 ⟨q, hq, hid⟩, ?_⟩
    rw [← hid, ← of1 q hq]; exact h
  · refine .inl ?_
    rw [← h]
    exact List.mem_map.2 ⟨_, parts_mem hq hid, rfl⟩
theorem add_no_state (hg : ∀ q ∈ L, q.id = p.id → q.of_ = p.of_ ∧ q.n ≠ p.n) : ¬ (p.n ∈ (partsOf L p.id).map Prod.fst ∨ (p.id ∈ idsL L ∧ ofL L p.id ≠ p.of_)) := by
  have _ := hm
  rintro (h | ⟨h, hne⟩)
  · unfold partsOf at h
    rw [List.map_map] at h
    obtain ⟨q, hq, he⟩ := List.mem_map.1 h
    obtain ⟨hq1, hq2⟩ := List.mem_filter.1 hq
    exact (hg q hq1 (by simpa using hq2)).2 he
  · obtain ⟨q, hq, he⟩ := (mem_idsL L p.id).1 h
    exact hne (by rw [← he, ← of1 q hq]; exact (hg q hq he).1)
theorem add_whole (hg : ∀ q ∈ L, q.id = p.id → q.of_ = p.of_ ∧ q.n ≠ p.n) (hw : ((partsOf L p.id).length : Int) + 1 = p.of_) :
    addJ most open_ L p = (dropL L p.id, ⟨(joinTo (partsOf L p.id) p p.of_.toNat).toArray⟩, true, 0) := by
  unfold addJ
  rw [if_neg (not_not_intro hm), if_neg (add_no_state hm of1 hg), if_neg, if_pos hw]
  rintro ⟨h1, h2, _⟩
  rw [partsOf_none L h1] at hw
  simp at hw
  omega
theorem add_many (hg : ∀ q ∈ L, q.id = p.id → q.of_ = p.of_ ∧ q.n ≠ p.n) (hw : ((partsOf L p.id).length : Int) + 1 ≠ p.of_) (h0 : partsOf L p.id = []) (ho : open_ ≤ ((idsL L).length : Int)) :
    addJ most open_ L p = (L, ByteArray.empty, false, 4) := by
  unfold addJ
  rw [if_neg (not_not_intro hm), if_neg (add_no_state hm of1 hg), if_pos]
  refine ⟨(parts_empty_iff L p.id).1 h0, ?_, ho⟩
  obtain ⟨_, ⟨h1, _⟩, _⟩ := hm
  rw [h0] at hw
  simp at hw
  omega
theorem add_over (hg : ∀ q ∈ L, q.id = p.id → q.of_ = p.of_ ∧ q.n ≠ p.n) (hw : ((partsOf L p.id).length : Int) + 1 ≠ p.of_) (h0 : partsOf L p.id = [] → ¬ open_ ≤ ((idsL L).length : Int)) (hu : most - (usedL L : Int) < (p.text.size : Int)) :
    addJ most open_ L p = (L, ByteArray.empty, false, 5) := by
  unfold addJ
  rw [if_neg (not_not_intro hm), if_neg (add_no_state hm of1 hg), if_neg, if_neg hw, if_pos hu]
  rintro ⟨h1, _, h3⟩
  exact h0 (partsOf_none L h1) h3
theorem add_more (hg : ∀ q ∈ L, q.id = p.id → q.of_ = p.of_ ∧ q.n ≠ p.n) (hw : ((partsOf L p.id).length : Int) + 1 ≠ p.of_) (h0 : partsOf L p.id = [] → ¬ open_ ≤ ((idsL L).length : Int)) (hu : ¬ most - (usedL L : Int) < (p.text.size : Int)) :
    addJ most open_ L p = (L ++ [p], ByteArray.empty, false, 0) := by
  unfold addJ
  rw [if_neg (not_not_intro hm), if_neg (add_no_state hm of1 hg), if_neg, if_neg hw, if_neg hu]
  rintro ⟨h1, _, h3⟩
  exact h0 (partsOf_none L h1) h3
end
end Go.Proofs.Ytemfecdpjegocaa
