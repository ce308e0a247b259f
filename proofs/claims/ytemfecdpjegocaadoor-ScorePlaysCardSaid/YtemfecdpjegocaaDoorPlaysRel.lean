/- The board and the document's board: what stands in both. -/
import Derived.Test.YtemfecdpjegocaaDoorPeerMem
import Derived.Test.YtemfecdpjegocaaDoorScoreSwept
import Derived.Test.YtemfecdpjegocaaDoorScorePeers
import Derived.Test.YtemfecdpjegocaaDoorPeerSweep
import Derived.Test.YtemfecdpjegocaaDoorPeerNames
namespace Go.Proofs.YtemfecdpjegocaaDoor
open Go.RowKit Go.Maps
set_option linter.unusedVariables false
set_option linter.unusedSimpArgs false

def nm (p : Pr) : List UInt8 := txt p.name
def Same (p : Pr) (a : Acc) : Prop := p.pts = a.pts ∧ p.at_ = a.at_ ∧ p.til = a.til
structure RelQ (acc : List UInt8 → Option Acc) (K : List Pr) : Prop where
  nd : (K.map nm).Nodup
  im : ∀ s a, acc s = some a → ∃ p ∈ K, nm p = s ∧ Same p a
  sm : ∀ p ∈ K, ∃ a, acc (nm p) = some a ∧ Same p a
theorem txt_inj {a b : ByteArray} (h : txt a = txt b) : a = b := by
  obtain ⟨⟨la⟩⟩ := a
  obtain ⟨⟨lb⟩⟩ := b
  have : la = lb := h
  rw [this]
theorem nodup_inj : ∀ {K : List Pr}, (K.map nm).Nodup → ∀ {p q : Pr}, p ∈ K → q ∈ K → nm p = nm q → p = q
  | [], _, _, _, hp, _, _ => by cases hp
  | x :: K, hn, p, q, hp, hq, he => by
    rw [List.map_cons, List.nodup_cons] at hn
    rcases List.mem_cons.1 hp with rfl | hp'
    · rcases List.mem_cons.1 hq with rfl | hq'
      · rfl
      · exact absurd (he ▸ List.mem_map_of_mem hq') hn.1
    · rcases List.mem_cons.1 hq with rfl | hq'
      · exact absurd (he ▸ List.mem_map_of_mem hp') hn.1
      · exact nodup_inj hn.2 hp' hq' he
theorem RelQ.none_iff {acc : List UInt8 → Option Acc} {K : List Pr} (h : RelQ acc K) (s : ByteArray) : acc (txt s) = none ↔ ¬ idxQ K s < K.length := by
  constructor
  · intro hn hi
    obtain ⟨a, ha, _⟩ := h.sm _ (List.getElem_mem hi)
    unfold nm at ha
    rw [idxQ_lt hi, hn] at ha
    cases ha
  · intro hi
    cases ha : acc (txt s) with
    | none => rfl
    | some a =>
      obtain ⟨p, hp, hn, _⟩ := h.im _ _ ha
      refine absurd (List.findIdx_lt_length_of_exists ⟨p, hp, ?_⟩) hi
      exact decide_eq_true (txt_inj hn)
theorem RelQ.at_idx {acc : List UInt8 → Option Acc} {K : List Pr} (h : RelQ acc K) {s : ByteArray} (hi : idxQ K s < K.length) : ∃ a, acc (txt s) = some a ∧ Same K[idxQ K s] a := by
  obtain ⟨a, ha, h2⟩ := h.sm _ (List.getElem_mem hi)
  unfold nm at ha
  rw [idxQ_lt hi] at ha
  exact ⟨a, ha, h2⟩
theorem getQ_lt {K : List Pr} {s : ByteArray} (hi : idxQ K s < K.length) : getQ K s = some K[idxQ K s] := List.getElem?_eq_getElem hi
theorem getQ_ge {K : List Pr} {s : ByteArray} (hi : ¬ idxQ K s < K.length) : getQ K s = none := List.getElem?_eq_none (by omega)
theorem RelQ.score {acc : List UInt8 → Option Acc} {K : List Pr} (h : RelQ acc K) (H : Nat) (s : ByteArray) (t : Nat) : scoreN H acc (txt s) t = scoreQ H K s t := by
  unfold scoreN scoreQ
  by_cases hi : idxQ K s < K.length
  · obtain ⟨a, ha, h1, h2, h3⟩ := h.at_idx hi
    rw [ha, getQ_lt hi]
    simp only [h1, h2]
  · rw [(h.none_iff s).2 hi, getQ_ge hi]
theorem RelQ.til {acc : List UInt8 → Option Acc} {K : List Pr} (h : RelQ acc K) (s : ByteArray) : untilN acc (txt s) = tilQ K s := by
  unfold untilN tilQ
  by_cases hi : idxQ K s < K.length
  · obtain ⟨a, ha, h1, h2, h3⟩ := h.at_idx hi
    rw [ha, getQ_lt hi]
    simp only [h3]
  · rw [(h.none_iff s).2 hi, getQ_ge hi]
theorem RelQ.nil : RelQ (fun _ => none) [] := ⟨List.nodup_nil, fun s a h => absurd h (by simp), fun p h => absurd h (by simp)⟩
theorem RelQ.keys {acc : List UInt8 → Option Acc} {K : List Pr} (h : RelQ acc K) (s : List UInt8) : s ∈ K.map nm ↔ (acc s).isSome = true := by
  constructor
  · intro hs
    obtain ⟨p, hp, rfl⟩ := List.mem_map.1 hs
    obtain ⟨a, ha, _⟩ := h.sm p hp
    rw [ha]; rfl
  · intro hs
    cases ha : acc s with
    | none => rw [ha] at hs; cases hs
    | some a =>
      obtain ⟨p, hp, hn, _⟩ := h.im _ _ ha
      exact List.mem_map.2 ⟨p, hp, hn⟩
/-- A peer's row is put in the place of the one of its name. -/
theorem RelQ.put {acc : List UInt8 → Option Acc} {K : List Pr} (h : RelQ acc K) (s : ByteArray) (t : Nat) {p : Pr} {a : Acc} (hp : p.name = s) (hs : Same p a) :
    RelQ (putA acc (txt s) a) ((withQ K s t).set (idxQ K s) p) := by
  have hi := withQ_idx K s t
  have hK1 : ((withQ K s t).map nm).Nodup ∧ nm (withQ K s t)[idxQ K s] = txt s ∧ (∀ q ∈ withQ K s t, q ∈ K ∨ nm q = txt s) ∧ ∀ q ∈ K, q ∈ withQ K s t := by
    by_cases c : idxQ K s < K.length
    · have e : withQ K s t = K := by unfold withQ; rw [if_pos c]
      simp only [e]
      exact ⟨h.nd, by unfold nm; rw [idxQ_lt c], fun q hq => .inl hq, fun q hq => hq⟩
    · have e : withQ K s t = K ++ [⟨s, 0, t, 0⟩] := by unfold withQ; rw [if_neg c]
      have e2 : idxQ K s = K.length := by have := idxQ_le K s; omega
      simp only [e]
      refine ⟨?_, ?_, ?_, fun q hq => List.mem_append_left _ hq⟩
      · rw [List.map_append, List.nodup_append]
        refine ⟨h.nd, by simp, ?_⟩
        intro x hx y hy
        simp only [List.map_cons, List.map_nil, List.mem_singleton] at hy
        subst hy
        intro e3
        subst e3
        have := (h.keys _).1 hx
        rw [show nm ⟨s, 0, t, 0⟩ = txt s from rfl, (h.none_iff s).2 c] at this
        cases this
      · simp only [e2]
        rw [List.getElem_append_right (Nat.le_refl _)]
        simp only [Nat.sub_self, List.getElem_cons_zero]
        rfl
      · intro q hq
        rcases List.mem_append.1 hq with hq | hq
        · exact .inl hq
        · rw [List.mem_singleton.1 hq]; exact .inr rfl
  obtain ⟨k1, k2, k3, k4⟩ := hK1
  generalize withQ K s t = K1 at *
  generalize idxQ K s = i at *
  have hnp : nm p = txt s := by unfold nm; rw [hp]
  have hmap : (K1.set i p).map nm = K1.map nm := by
    rw [List.map_set, hnp, ← k2, ← List.getElem_map (f := nm) (h := by rw [List.length_map]; exact hi), List.set_getElem_self]
  have hnd : ((K1.set i p).map nm).Nodup := by rw [hmap]; exact k1
  have hmp : p ∈ K1.set i p := List.mem_set hi p
  refine ⟨hnd, ?_, ?_⟩
  · intro x b hx
    unfold putA at hx
    split at hx
    · rename_i e
      obtain rfl : a = b := Option.some.inj hx
      exact ⟨p, hmp, by rw [hnp, e], hs⟩
    · rename_i e
      obtain ⟨q, hq, hn, hsq⟩ := h.im _ _ hx
      refine ⟨q, ?_, hn, hsq⟩
      obtain ⟨j, hj, rfl⟩ := List.mem_iff_getElem.1 (k4 q hq)
      have hji : i ≠ j := by
        rintro rfl
        exact e (hn ▸ k2)
      rw [List.mem_iff_getElem]
      exact ⟨j, by rw [List.length_set]; exact hj, List.getElem_set_ne hji _⟩
  · intro q hq
    unfold putA
    by_cases e : nm q = txt s
    · have : q = p := nodup_inj hnd hq hmp (e.trans hnp.symm)
      subst this
      exact ⟨a, if_pos e, hs⟩
    · rw [if_neg e]
      rcases List.mem_or_eq_of_mem_set hq with hq | rfl
      · rcases k3 q hq with hq | hq
        · exact h.sm q hq
        · exact absurd hq e
      · exact absurd hnp e
theorem keepQ_keepB {acc : List UInt8 → Option Acc} {H t : Nat} {p : Pr} {a : Acc} (ha : acc (nm p) = some a) (hs : Same p a) : keepQ H t p = keepB H acc t (nm p) := by
  obtain ⟨h1, h2, h3⟩ := hs
  unfold keepQ keepB
  rw [ha, h1, h2, h3, Bool.eq_iff_iff]
  simp only [Bool.or_eq_true, Bool.not_eq_true', Bool.and_eq_false_iff, decide_eq_true_eq, decide_eq_false_iff_not]
  omega
theorem RelQ.swept {acc : List UInt8 → Option Acc} {K : List Pr} (h : RelQ acc K) (H t : Nat) : RelQ (onK (keepB H acc t) acc) (K.filter (keepQ H t)) := by
  refine ⟨?_, ?_, ?_⟩
  · exact h.nd.sublist (List.filter_sublist.map nm)
  · intro s a ha
    unfold onK at ha
    split at ha
    · rename_i hk
      obtain ⟨p, hp, hn, hs⟩ := h.im _ _ ha
      refine ⟨p, List.mem_filter.2 ⟨hp, ?_⟩, hn, hs⟩
      rw [keepQ_keepB (hn ▸ ha) hs, hn]
      exact hk
    · cases ha
  · intro p hp
    obtain ⟨hp1, hp2⟩ := List.mem_filter.1 hp
    obtain ⟨a, ha, hs⟩ := h.sm p hp1
    refine ⟨a, ?_, hs⟩
    unfold onK
    rw [if_pos (by rw [← keepQ_keepB ha hs]; exact hp2)]
    exact ha
theorem BoardAt.sz_eq {B bb bm n sz L H N : Nat} {w0 w : World} {acc : List UInt8 → Option Acc} (h : BoardAt B bb bm n sz L H N w0 w acc) {K : List Pr} (hr : RelQ acc K) : sz = K.length := by
  obtain ⟨l, hown, hnd, hlen, hm⟩ := h.mp.list Tryd.underlying9
  have hperm : (l.map Prod.fst).Perm (K.map nm) := by
    rw [List.perm_ext_iff_of_nodup hnd hr.nd]
    intro s
    rw [hr.keys]
    have e := congrFun hm s
    constructor
    · intro hs
      obtain ⟨q, hq, rfl⟩ := List.mem_map.1 hs
      rw [findE_mem hnd hq] at e
      cases ha : acc q.1 with
      | none => rw [ha] at e; cases e
      | some a => rfl
    · intro hs
      cases ha : acc s with
      | none => rw [ha] at hs; cases hs
      | some a =>
        rw [ha] at e
        unfold findE at e
        cases hf : l.find? (fun p => p.1 == s) with
        | none => rw [hf] at e; cases e
        | some q =>
          have h1 := List.find?_some hf
          have h2 := List.mem_of_find?_eq_some hf
          exact List.mem_map.2 ⟨q, h2, by simpa using h1⟩
  have := hperm.length_eq
  rw [List.length_map, List.length_map] at this
  omega
end Go.Proofs.YtemfecdpjegocaaDoor
