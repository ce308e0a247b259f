/- Peers. -/
import Derived.Test.YtemfecdpjegocaaDoorScoreSwept
import Derived.Test.YtemfecdpjegocaaDoorBoardKeys
namespace Go.Proofs.YtemfecdpjegocaaDoor
open Go.RowKit Go.Maps Go.Sort Go.Shelf
set_option linter.unusedVariables false
set_option linter.unusedSimpArgs false

/-- The slice v reads as these texts. -/
def StrsAt (w : World) (v : Value) (l : List (List UInt8)) : Prop :=
  ∃ a cap, v = .slice a l.length cap ∧ ∀ (i : Nat) (h : i < l.length), ∃ g off, a = some ⟨g, off, none⟩ ∧ g < w.heap.size ∧ w.cell? ⟨g, off + i, none⟩ = some (.string ⟨l[i].toArray⟩)
theorem StrsAt.below {w w' : World} {v : Value} {l : List (List UInt8)} (h : StrsAt w v l) (hb : Below w.heap.size w w') : StrsAt w' v l := by
  obtain ⟨a, cap, hv, hi⟩ := h
  refine ⟨a, cap, hv, fun i h => ?_⟩
  obtain ⟨g, off, e1, e2, e3⟩ := hi i h
  exact ⟨g, off, e1, Nat.lt_of_lt_of_le e2 hb.size, (hb.cell (p := ⟨g, off + i, none⟩) e2).trans e3⟩
theorem StrsAt.of_row {w : World} {base : Nat} {e : TypeId} {v : Value} {l : List (List UInt8)} (h : w.ownsRow base e 1 v l.length (l.map encStr)) : StrsAt w v l := by
  obtain ⟨_, ⟨rfl, h0⟩ | ⟨g, cap, cur, rfl, _, hg, h1, h2, h3, h4⟩⟩ := id h
  · exact ⟨none, 0, by rw [h0], fun i hi => by omega⟩
  · refine ⟨_, cap, rfl, fun i hi => ⟨g, 0, rfl, (Array.getElem?_eq_some_iff.1 hg).1, ?_⟩⟩
    have := World.ownsRow.cells h (g := g) rfl i (encStr l[i]) (by simp [hi])
    have e1 : (⟨g, 0, none⟩ : Addr).add i = ⟨g, i, none⟩ := by unfold Addr.add; split <;> simp_all
    rw [e1] at this
    rw [Nat.zero_add, this]
def sortS (l : List (List UInt8)) : List (List UInt8) := l.mergeSort fun x y => decide (x ≤ y)
theorem sortS_perm {l l' : List (List UInt8)} (h : l.Perm l') : sortS l = sortS l' := by
  have tr : ∀ a b c : List UInt8, decide (a ≤ b) = true → decide (b ≤ c) = true → decide (a ≤ c) = true := fun a b c h1 h2 => by
    simp only [decide_eq_true_eq] at *; exact List.le_trans h1 h2
  have tt : ∀ a b : List UInt8, (decide (a ≤ b) || decide (b ≤ a)) = true := fun a b => by
    simp only [Bool.or_eq_true, decide_eq_true_eq]; exact List.le_total a b
  have s1 := List.pairwise_mergeSort (le := fun x y : List UInt8 => decide (x ≤ y)) tr tt l
  have s2 := List.pairwise_mergeSort (le := fun x y : List UInt8 => decide (x ≤ y)) tr tt l'
  refine List.Perm.eq_of_pairwise (le := fun x y : List UInt8 => decide (x ≤ y) = true) ?_ s1 s2 (((List.mergeSort_perm l _).trans h).trans (List.mergeSort_perm l' _).symm)
  intro a b _ _ h1 h2
  simp only [decide_eq_true_eq] at h1 h2
  exact List.le_antisymm h1 h2
def PeersPost (ks : List (List UInt8)) (w : World) (en : Ending) (w' : World) : Prop := ∃ v, en = .returned v ∧ StrsAt w' v (sortS ks) ∧ Below w.heap.size w w'
theorem strKeys_ents (l : List (List UInt8 × Nat)) : strKeys (DataW.map (l.map ent)) = l.map Prod.fst := by
  show (l.map ent).map (fun p => strOf p.1) = _
  rw [List.map_map]
  exact List.map_congr_left fun q _ => rfl

set_option maxRecDepth 100000 in
set_option maxHeartbeats 1000000 in
theorem score_peers {B bb bm n sz L H N : Nat} {w0 w : World} {acc : List UInt8 → Option Acc} (h : BoardAt B bb bm n sz L H N w0 w acc) (hn : n ≤ 100000) {ks : List (List UInt8)} (hkn : ks.Nodup) (hk : ∀ s, s ∈ ks ↔ (acc s).isSome = true) :
    Calls Tryd.prog 15 #[.pointer (some ⟨bb, 0, none⟩)] w (PeersPost ks w) := by
  obtain ⟨l, hown, hnd, hlen, hm⟩ := h.mp.list Tryd.underlying9
  have hperm : (l.map Prod.fst).Perm ks := by
    rw [List.perm_ext_iff_of_nodup hnd hkn]
    intro s
    rw [hk]
    have e := congrFun hm s
    constructor
    · intro hs
      obtain ⟨q, hq, rfl⟩ := List.mem_map.1 hs
      rw [findE_mem hnd hq] at e
      cases ha : acc q.1 with
      | none => rw [ha] at e; cases e
      | some a => rfl
    · intro hs
      cases ha : acc s with
      | none => rw [ha] at hs; cases hs
      | some a =>
        rw [ha] at e
        unfold findE at e
        cases hf : l.find? (fun p => p.1 == s) with
        | none => rw [hf] at e; cases e
        | some q =>
          have h1 := List.find?_some hf
          have h2 := List.mem_of_find?_eq_some hf
          exact List.mem_map.2 ⟨q, h2, by simpa using h1⟩
  have hsz := h.mp.sz_le
  have hD : Maps.size (DataW.map (l.map ent)) = sz := by rw [Maps.size_eq, List.length_map, hlen]
  have hmax : Maps.size (DataW.map (l.map ent)) ≤ maxLen := by unfold maxLen; omega
  have hbytes : Maps.size (DataW.map (l.map ent)) * 16 ≤ 140737488355328 := by omega
  have cS := Tryd.slices_Sorted_keys_27_28 bm n (DataW.map (l.map ent)) ptrR w hown hmax hbytes
  have c3 : w.cell? ⟨bb, 3, none⟩ = some (.map (some bm)) := h.bd.cell 3
  refine (callsIn_wide (n := 6)).1 ?_
  have hfK : Fence.wide.fn 28 := trivial
  have hfS : Fence.wide.fn 27 := trivial
  refine callsIn_of_wp Tryd.func15 rfl trivial ?_ rfl
  simp only [Tryd.ntmps15, List.size_toArray, List.length_cons, List.length_nil, Nat.reduceAdd, Nat.reduceSub, Array.replicate_succ, Array.replicate_zero, List.push_toArray, List.append_toArray, List.nil_append, List.cons_append]
  have HPE := Lib.hid hperm
  clear h hm hperm hk hkn hnd hown hlen hD
  gi_wp2_with (first
    | (gi_at_call 28; refine (Tryd.maps_Keys_28 _ _).mono ?_; rintro e w' ⟨rfl, rfl⟩)
    | (gi_at_call 27; refine cS.mono ?_; rintro e w' ⟨v, ss, rfl, hS, hrow, hnil, hb⟩))
  go_ret
  refine ⟨v, rfl, ?_, ((Below.refl _ w).alloc (Nat.le_refl _) _).trans (hb.mono (by simp))⟩
  have hp : ss.Perm ks := by
    rw [strKeys_ents] at hS
    exact hS.trans HPE.out
  have hl : ss.length = (sortS ss).length := (List.mergeSort_perm _ _).length_eq.symm
  rw [← sortS_perm hp]
  refine StrsAt.of_row (base := (w.alloc (.cells #[.map (some bm)] 56)).heap.size) (e := 9) ?_
  rw [← hl]
  exact hrow
end Go.Proofs.YtemfecdpjegocaaDoor
