/- The parts of a text, in whatever order, join to it: in plain Lean. -/
import Derived.Test.YtemfecdpjegocaaJoinPlain
import Derived.Test.YtemfecdpjegocaaCut
namespace Go.Proofs.Ytemfecdpjegocaa
open Go.RowKit Go.Maps
set_option linter.unusedVariables false

/-- K parts of one body, in whatever order. -/
structure Cuts (K : Nat) (id : Int) (T : Nat → ByteArray) (M : List Pt) : Prop where
  ns : (M.map Pt.n).Perm ((List.range K).map fun (k : Nat) => (k : Int))
  all : ∀ p ∈ M, p.id = id ∧ p.of_ = K ∧ mayP p ∧ p.text = T p.n.toNat
theorem Cuts.perm {K : Nat} {id : Int} {T : Nat → ByteArray} {M M' : List Pt} (h : Cuts K id T M) (hp : M.Perm M') : Cuts K id T M' :=
  ⟨(hp.map Pt.n).symm.trans h.ns, fun p hp' => h.all p (hp.mem_iff.2 hp')⟩
theorem Cuts.len {K : Nat} {id : Int} {T : Nat → ByteArray} {M : List Pt} (h : Cuts K id T M) : M.length = K := by have := h.ns.length_eq; simpa using this
theorem usedL_perm {M M' : List Pt} (hp : M.Perm M') : usedL M = usedL M' := (hp.map _).sum_nat
theorem ids_same {x : Int} (L : List Pt) (h : ∀ q ∈ L, q.id = x) : idsL L = if L = [] then [] else [x] := by
  induction L using snoc_ind with
  | h0 => rfl
  | h1 L p ih =>
    rw [idsL_snoc, ih fun q hq => h q (by simp [hq]), h p (by simp)]
    cases L <;> simp [addId]
theorem parts_same {x : Int} (L : List Pt) (h : ∀ q ∈ L, q.id = x) : partsOf L x = L.map fun p => (p.n, p.text) := by
  unfold partsOf
  rw [List.filter_eq_self.2 fun q hq => by simp [h q hq]]
theorem drop_same {x : Int} (L : List Pt) (h : ∀ q ∈ L, q.id = x) : dropL L x = [] := by
  unfold dropL
  rw [List.filter_eq_nil_iff]
  intro q hq
  simp [h q hq]
theorem of_same {x k : Int} (L : List Pt) (hne : L ≠ []) (h : ∀ q ∈ L, q.id = x ∧ q.of_ = k) : ofL L x = k := by
  cases L with
  | nil => exact absurd rfl hne
  | cons q r =>
    unfold ofL
    rw [List.find?_cons_of_pos (by simp [(h q (by simp)).1])]
    exact (h q (by simp)).2
/-- All the bytes of the first k pieces. -/
def allT (T : Nat → ByteArray) (k : Nat) : List UInt8 := (List.range k).flatMap fun j => (T j).data.toList
theorem join_all {T : Nat → ByteArray} {l : List (Int × ByteArray)} {p : Pt} : ∀ k : Nat, (∀ j : Nat, j < k → (if (j : Int) = p.n then p.text else (getL l (j : Int)).getD ByteArray.empty) = T j) → joinTo l p k = allT T k
  | 0, _ => rfl
  | k + 1, h => by
    have e : allT T (k + 1) = allT T k ++ (T k).data.toList := by unfold allT; rw [List.range_succ, List.flatMap_append]; simp
    rw [joinTo, join_all k fun j hj => h j (by omega), h k (by omega), e]
theorem usedL_take (M : List Pt) (i : Nat) (h : i < M.length) : usedL (M.take i) + M[i].text.size ≤ usedL M := by
  have e : usedL M = usedL (M.take (i + 1)) + usedL (M.drop (i + 1)) := by
    unfold usedL; rw [← List.sum_append_nat, ← List.map_append, List.take_append_drop]
  have e2 : M.take (i + 1) = M.take i ++ [M[i]] := by rw [List.take_append_getElem h]
  rw [e2, usedL_snoc] at e
  omega

theorem order_step {K : Nat} {id : Int} {T : Nat → ByteArray} {M : List Pt} {most : Int} (h : Cuts K id T M) (hu : (usedL M : Int) ≤ most) (i : Nat) (hi : i < K) :
    addJ most 1 (M.take i) (M[i]'(by rw [h.len]; exact hi)) = if i + 1 = K then ([], ⟨(allT T K).toArray⟩, true, 0) else (M.take (i + 1), ByteArray.empty, false, 0) := by
  have hl := h.len
  have hi' : i < M.length := by omega
  obtain ⟨p, hp⟩ : ∃ p, M[i] = p := ⟨_, rfl⟩
  have hpm : p ∈ M := hp ▸ List.getElem_mem hi'
  obtain ⟨p1, p2, p3, p4⟩ := h.all p hpm
  rw [hp]
  have hid : ∀ q ∈ M.take i, q.id = id := fun q hq => (h.all q (List.mem_of_mem_take hq)).1
  have hnd : (M.map Pt.n).Nodup := h.ns.nodup_iff.2 (by
    rw [List.nodup_iff_pairwise_ne, List.pairwise_map]
    exact List.nodup_range.imp fun hne he => hne (by exact_mod_cast he))
  have htl : (M.take i).length = i := by rw [List.length_take]; omega
  have hsplit : M.take (i + 1) = M.take i ++ [p] := by rw [← hp, List.take_append_getElem hi']
  have hnin : p.n ∉ (M.take i).map Pt.n := by
    have h1 : ((M.take (i + 1)).map Pt.n).Nodup := hnd.sublist ((List.take_sublist _ _).map _)
    rw [hsplit, List.map_append, List.nodup_append] at h1
    intro hc
    exact h1.2.2 _ hc _ (by simp) rfl
  have hP : partsOf (M.take i) id = (M.take i).map fun p => (p.n, p.text) := parts_same _ hid
  have hI : idsL (M.take i) = if M.take i = [] then [] else [id] := ids_same _ hid
  unfold addJ
  rw [if_neg (not_not_intro p3), p1, hP, hI]
  have c2 : ¬ (p.n ∈ ((M.take i).map fun p => (p.n, p.text)).map Prod.fst ∨ (id ∈ (if M.take i = [] then [] else [id]) ∧ ofL (M.take i) id ≠ p.of_)) := by
    rintro (hc | ⟨hc, hne⟩)
    · rw [List.map_map] at hc; exact hnin hc
    · by_cases hz : M.take i = []
      · rw [if_pos hz] at hc; cases hc
      · exact hne (by rw [p2]; exact of_same _ hz fun q hq => ⟨hid q hq, (h.all q (List.mem_of_mem_take hq)).2.1⟩)
  rw [if_neg c2]
  have c3 : ¬ (id ∉ (if M.take i = [] then [] else [id]) ∧ 1 < p.of_ ∧ (1 : Int) ≤ ((if M.take i = [] then ([] : List Int) else [id]).length : Int)) := by
    rintro ⟨hn, _, ho⟩
    by_cases hz : M.take i = []
    · rw [if_pos hz] at ho; simp at ho
    · rw [if_neg hz] at hn; simp at hn
  rw [if_neg c3, List.length_map, htl, p2]
  by_cases hk : i + 1 = K
  · rw [if_pos hk, if_pos (by omega), drop_same _ hid]
    have hall : M = M.take i ++ [p] := by rw [← hsplit, List.take_of_length_le (by omega)]
    have hj : joinTo ((M.take i).map fun p => (p.n, p.text)) p ((K : Int)).toNat = allT T K := by
      rw [show ((K : Int)).toNat = K from rfl]
      refine join_all K fun j hj => ?_
      by_cases hjn : (j : Int) = p.n
      · rw [if_pos hjn, p4, ← hjn]; rfl
      · rw [if_neg hjn]
        have hmem : (j : Int) ∈ M.map Pt.n := h.ns.mem_iff.2 (List.mem_map.2 ⟨j, List.mem_range.2 hj, rfl⟩)
        obtain ⟨q, hq, hqn⟩ := List.mem_map.1 hmem
        have hq' : q ∈ M.take i := by
          rw [hall] at hq
          rcases List.mem_append.1 hq with h' | h'
          · exact h'
          · simp at h'; subst h'; exact absurd hqn.symm hjn
        have hnd' : (((M.take i).map fun p => (p.n, p.text)).map Prod.fst).Nodup := by
          rw [List.map_map]; exact hnd.sublist ((List.take_sublist _ _).map _)
        have hg : getL ((M.take i).map fun p => (p.n, p.text)) (j : Int) = some q.text := (getL_some hnd').2 (List.mem_map.2 ⟨q, hq', by rw [hqn]⟩)
        rw [hg, Option.getD_some, (h.all q hq).2.2.2, hqn]; rfl
    rw [hj]
  · rw [if_neg hk, if_neg (by omega)]
    have := usedL_take M i hi'
    rw [hp] at this
    rw [if_neg (by omega), hsplit]

/-- The pieces of a text are it. -/
theorem pieces_all (s : ByteArray) (size : Nat) : ∀ k, allT (pieceT s size) k = s.data.toList.take (k * size)
  | 0 => by simp [allT]
  | k + 1 => by
    have e : allT (pieceT s size) (k + 1) = allT (pieceT s size) k ++ (pieceT s size k).data.toList := by unfold allT; rw [List.range_succ, List.flatMap_append]; simp
    rw [e, pieces_all s size k]
    unfold pieceT
    rw [Nat.add_mul, Nat.one_mul, List.take_add]
theorem cut_cuts (id : Int) (s : ByteArray) (size : Nat) (h : ¬ badCut id size) (hK : (cutL id s size).length ≤ 1024) :
    Cuts (cutL id s size).length id (pieceT s size) (cutL id s size) ∧ usedL (cutL id s size) = s.size ∧ allT (pieceT s size) (cutL id s size).length = s.data.toList ∧ 1 ≤ (cutL id s size).length := by
  unfold badCut at h
  have hsl : s.data.toList.length = s.size := Array.length_toList
  by_cases hz : s.size = 0
  · have e : cutL id s size = [⟨id, 0, 1, ByteArray.empty⟩] := by unfold cutL; rw [if_pos hz]
    have hsn : s.data.toList = [] := List.eq_nil_of_length_eq_zero (by omega)
    have hp : pieceT s size 0 = ByteArray.empty := by unfold pieceT; rw [hsn]; simp; rfl
    rw [e]
    refine ⟨⟨.refl _, ?_⟩, ?_, ?_, by simp⟩
    · intro p hp'
      simp at hp'
      subst hp'
      exact ⟨rfl, rfl, ⟨⟨by simp only; omega, by simp only; omega⟩, ⟨by simp only; omega, by simp only; omega⟩, ⟨by simp only; omega, by simp only; omega⟩, Nat.zero_le _, .inl rfl⟩, hp.symm⟩
    · simp [usedL]; omega
    · rw [pieces_all, hsn]; simp
  · have e : cutL id s size = (List.range (chunksN s.size size)).map fun (k : Nat) => (⟨id, (k : Int), ((chunksN s.size size : Nat) : Int), pieceT s size k⟩ : Pt) := by unfold cutL; rw [if_neg hz]
    have hlen : (cutL id s size).length = chunksN s.size size := by rw [e]; simp
    rw [hlen] at hK ⊢
    rw [e]
    have hc : ∀ k, k < chunksN s.size size ↔ k * size < s.size := fun k => chunksN_lt (by omega)
    have hpos : 1 ≤ chunksN s.size size := (hc 0).2 (by omega)
    have hfull : s.size ≤ chunksN s.size size * size := by
      have := mt (hc (chunksN s.size size)).2 (Nat.lt_irrefl _)
      omega
    have hall : allT (pieceT s size) (chunksN s.size size) = s.data.toList := by rw [pieces_all, List.take_of_length_le (by omega)]
    generalize chunksN s.size size = N at *
    refine ⟨⟨?_, ?_⟩, ?_, hall, hpos⟩
    · rw [List.map_map]; exact .refl _
    · intro p hp
      obtain ⟨k, hk, rfl⟩ := List.mem_map.1 hp
      have hk' := List.mem_range.1 hk
      have hlt := (hc k).1 hk'
      have hpl := pieceT_len s size k
      have hps : (pieceT s size k).size = pieceN s.size size k := hpl ▸ Array.length_toList.symm
      unfold pieceN at hps
      refine ⟨rfl, rfl, ⟨⟨by simp only; omega, by simp only; omega⟩, ⟨by simp only; omega, by simp only; omega⟩, ⟨by simp only; omega, by simp only; omega⟩, by simp only; omega, .inr (by simp only; omega)⟩, rfl⟩
    · have h1 : usedL ((List.range N).map fun (k : Nat) => (⟨id, (k : Int), ((N : Nat) : Int), pieceT s size k⟩ : Pt)) = (allT (pieceT s size) N).length := by
        unfold usedL allT
        rw [List.length_flatMap, List.map_map]
        congr 1
      rw [h1, hall, hsl]
end Go.Proofs.Ytemfecdpjegocaa
