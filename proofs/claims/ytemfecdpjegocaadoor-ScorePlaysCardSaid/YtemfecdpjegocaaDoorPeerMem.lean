/- The document's peers in a block of their own. -/
import Derived.Test.YtemfecdpjegocaaDoorPeerSweep
namespace Go.Proofs.YtemfecdpjegocaaDoor
open Go.RowKit Go.Maps
set_option linter.unusedVariables false
set_option linter.unusedSimpArgs false

/-- Block g begins with these peers. -/
def PB (w : World) (g : Nat) (M : List Pr) : Prop := ∃ cur, Blk w g cur 53 ∧ ∀ (i : Nat) (h : i < M.length) (j : Nat), j < 4 → cur[i * 4 + j]? = M[i].cs[j]?
theorem PB.lt {w : World} {g : Nat} {M : List Pr} (h : PB w g M) : g < w.heap.size := let ⟨_, h, _⟩ := h; h.lt
theorem PB.of_own {w : World} {B : Nat} {v : Value} {M : List Pr} (h : OwnQ w B 53 v M) (hne : 1 ≤ M.length) : ∃ g cap, v = .slice (some ⟨g, 0, none⟩) M.length cap ∧ B ≤ g ∧ PB w g M := by
  rcases h.2 with ⟨rfl, h0⟩ | ⟨g, cap, cur, rfl, hb, hg, hcap, hm, hsz, htake⟩
  · omega
  · refine ⟨g, cap, rfl, hb, cur, hg, fun i hi j hj => ?_⟩
    have hlt : i * 4 + j < M.length * 4 := by omega
    rw [← rcells_at hi hj, ← htake, List.getElem?_take_of_lt hlt]
    simp
theorem PB.kept {w w' : World} {g : Nat} {M : List Pr} (h : PB w g M) (hb : w'.heap[g]? = w.heap[g]?) : PB w' g M := by
  obtain ⟨cur, h1, h2⟩ := h
  exact ⟨cur, by unfold Blk; rw [hb]; exact h1, h2⟩
theorem PB.below {w w' : World} {g : Nat} {M : List Pr} (h : PB w g M) (hb : Below w.heap.size w w') : PB w' g M := h.kept (hb.block g h.lt)
theorem PB.free {w : World} {g : Nat} {M : List Pr} (h : PB w g M) (i : Nat) : w.frozen? ⟨g, i, none⟩ = false := let ⟨_, h, _⟩ := h; h.free i
theorem PB.at_ {w : World} {g : Nat} {M : List Pr} (h : PB w g M) {i : Nat} (hi : i < M.length) :
    w.cell? ⟨g, i * 4, none⟩ = some (.string M[i].name) ∧ w.cell? ⟨g, i * 4 + 1, none⟩ = some (.int .i64 M[i].pts) ∧ w.cell? ⟨g, i * 4 + 2, none⟩ = some (.int .i64 M[i].at_) ∧ w.cell? ⟨g, i * 4 + 3, none⟩ = some (.int .i64 M[i].til) := by
  obtain ⟨cur, h1, h2⟩ := h
  refine ⟨(h1.cell _).trans (h2 i hi 0 (by omega)), (h1.cell _).trans (h2 i hi 1 (by omega)), (h1.cell _).trans (h2 i hi 2 (by omega)), (h1.cell _).trans (h2 i hi 3 (by omega))⟩
theorem PB.set4 {w : World} {g : Nat} {M : List Pr} (h : PB w g M) {i : Nat} (hi : i < M.length) (p : Pr) :
    PB ((((w.setCell ⟨g, i * 4, none⟩ (.string p.name)).setCell ⟨g, i * 4 + 1, none⟩ (.int .i64 p.pts)).setCell ⟨g, i * 4 + 2, none⟩ (.int .i64 p.at_)).setCell ⟨g, i * 4 + 3, none⟩ (.int .i64 p.til)) g (M.set i p) := by
  obtain ⟨cur, h1, h2⟩ := h
  have hc3 := h2 i hi 3 (by omega)
  have hsz : i * 4 + 3 < cur.size := by
    rcases Nat.lt_or_ge (i * 4 + 3) cur.size with h | h
    · exact h
    · rw [Array.getElem?_eq_none h] at hc3; simp [Pr.cs] at hc3
  refine ⟨_, (((h1.set _ _).set _ _).set _ _).set _ _, fun k hk j hj => ?_⟩
  rw [List.length_set] at hk
  simp only [Array.getElem?_setIfInBounds, Array.size_setIfInBounds]
  by_cases hki : i = k
  · subst hki
    rw [List.getElem_set_self]
    match j, hj with
    | 0, _ => simp [Pr.cs]; omega
    | 1, _ => simp [Pr.cs]; omega
    | 2, _ => simp [Pr.cs]; omega
    | 3, _ => simp [Pr.cs]; omega
  · rw [List.getElem_set_ne hki, ← h2 k hk j hj, if_neg (by omega), if_neg (by omega), if_neg (by omega), if_neg (by omega)]
theorem PB.qv {w : World} {g cap : Nat} {M : List Pr} (h : PB w g M) : QV w (.slice (some ⟨g, 0, none⟩) M.length cap) M := by
  obtain ⟨cur, h1, h2⟩ := h
  exact .inr ⟨g, cap, cur, rfl, h1, h2⟩
/-- 'append(l, m...)' of peers onto a slice that the call made. -/
theorem run_append_peers {P : Program} {t ty : TypeId} (T : PeerTypes P t 53) {w : World} {B : Nat} {v u : Value} {L M : List Pr} (hown : OwnQ w B 53 v L) (hu : QV w u M) (hlen : L.length + M.length ≤ 1000000) (hB : B ≤ w.heap.size) :
    ∃ v' w', (Builtin.append_ #[t, t] ty #[v, u]).run P w = .ok v' w' ∧ OwnQ w' B 53 v' (L ++ M) ∧ w.grownBy w' v.ownBlock := by
  obtain ⟨i0, hi, hz0, hz1, hz2⟩ := info_parts T.hi
  rcases hu with ⟨rfl, rfl⟩ | ⟨g, cap, cs, rfl, hb, hc⟩
  · refine ⟨v, w, run_append_owned_none w B t ty 53 i0 4 T.ht hi v L.length (rcells L) hown, by rw [List.append_nil]; exact hown, ?_⟩
    exact ⟨rfl, rfl, rfl, Nat.le_refl _, fun _ _ _ => rfl⟩
  · obtain ⟨v', w', hr, h1, h2, _⟩ := run_append_own w B t ty 53 i0 _ 4 40 T.ht hi hz0 hz1 hz2 rfl (by decide) v L.length (rcells L) hown ⟨g, 0, none⟩ M.length cap (rcells M) (rcells_length M) (fun j x hj => by
      have hjl : j < (rcells M).length := (List.getElem?_eq_some_iff.1 hj).1
      rw [rcells_length] at hjl
      have e1 : (⟨g, 0, none⟩ : Addr).add j = ⟨g, j, none⟩ := by unfold Addr.add; split <;> simp_all
      have hd : j / 4 < M.length := by omega
      have hm : j % 4 < 4 := by omega
      have := hc (j / 4) hd (j % 4) hm
      rw [show j / 4 * 4 + j % 4 = j by omega] at this
      rw [e1, hb.cell, this, ← rcells_at hd hm, show j / 4 * 4 + j % 4 = j by omega]
      exact hj) (rcells_one M) (by unfold maxLen; omega) (by omega) hB
    refine ⟨v', w', hr, ?_, h2⟩
    show w'.ownsRow B 53 4 v' (L ++ M).length (rcells (L ++ M))
    rw [List.length_append, rcells_append]; exact h1

/-- What a fault makes of a peer. -/
def faultPr (L H N : Nat) (p : Pr) (t more : Nat) : Pr :=
  if L ≤ pAt H p.pts p.at_ t + more then ⟨p.name, 0, max p.at_ t, max p.til (max p.at_ t + N)⟩ else ⟨p.name, pAt H p.pts p.at_ t + more, max p.at_ t, p.til⟩
/-- The peers among which the one stands. -/
def withQ (K : List Pr) (s : ByteArray) (t : Nat) : List Pr := if idxQ K s < K.length then K else K ++ [⟨s, 0, t, 0⟩]
theorem withQ_idx (K : List Pr) (s : ByteArray) (t : Nat) : idxQ K s < (withQ K s t).length := by
  have := idxQ_le K s
  unfold withQ
  split
  · assumption
  · simp; omega
def faultQ (L H N : Nat) (K : List Pr) (s : ByteArray) (t : Nat) (e : Int) : List Pr × Nat :=
  if ptsZ e = 0 then (K, scoreQ H K s t)
  else ((withQ K s t).set (idxQ K s) (faultPr L H N ((withQ K s t)[idxQ K s]'(withQ_idx K s t)) t (ptsZ e)), (faultPr L H N ((withQ K s t)[idxQ K s]'(withQ_idx K s t)) t (ptsZ e)).pts)
def FaultQPost (L H N : Nat) (K : List Pr) (s : ByteArray) (t : Nat) (e : Int) (v : Value) (w : World) (en : Ending) (w' : World) : Prop :=
  ∃ v', en = .returned (.tuple #[.agg #[.int .i64 L, .int .i64 H, .int .i64 N, v'], .int .i64 ((faultQ L H N K s t e).2 : Nat)]) ∧ QV w' v' (faultQ L H N K s t e).1 ∧ Below w.heap.size w w' ∧ ∀ b, v'.ownBlock = some b → (v.ownBlock = some b ∨ w.heap.size ≤ b)
end Go.Proofs.YtemfecdpjegocaaDoor
