/- Slices of the document's peers. -/
import Derived.Test.YtemfecdpjegocaaDoorScorePeers
import Derived.Test.YtemfecdpjegocaaDoorOwn
import Derived.OwnWalkIn
import Derived.Deep.Slices
namespace Go.Proofs.YtemfecdpjegocaaDoor
open Go.RowKit Go.Maps
set_option linter.unusedVariables false
set_option linter.unusedSimpArgs false

/-- A peer of the document's board. -/
structure Pr where
  name : ByteArray
  pts : Nat
  at_ : Nat
  til : Nat
def Pr.cs (p : Pr) : Array Value := #[.string p.name, .int .i64 p.pts, .int .i64 p.at_, .int .i64 p.til]
def rcells (L : List Pr) : List Value := L.flatMap fun p => p.cs.toList
theorem rcells_nil : rcells [] = [] := rfl
theorem rcells_append (L M : List Pr) : rcells (L ++ M) = rcells L ++ rcells M := by simp [rcells]
theorem rcells_length (L : List Pr) : (rcells L).length = L.length * 4 := by
  induction L with
  | nil => rfl
  | cons p L ih => show (p.cs.toList ++ rcells L).length = _; rw [List.length_append, ih]; simp [Pr.cs]; omega
theorem rcells_one (L : List Pr) : ∀ u ∈ rcells L, u.oneCell' = true := by
  intro u hu
  simp only [rcells, List.mem_flatMap] at hu
  obtain ⟨p, _, hu⟩ := hu
  simp [Pr.cs] at hu
  rcases hu with rfl | rfl | rfl | rfl <;> rfl
theorem rcells_at {L : List Pr} {i : Nat} (hi : i < L.length) {j : Nat} (hj : j < 4) : (rcells L)[i * 4 + j]? = L[i].cs[j]? := by
  induction L generalizing i with
  | nil => simp at hi
  | cons p L ih =>
    show (p.cs.toList ++ rcells L)[i * 4 + j]? = _
    cases i with
    | zero => rw [List.getElem?_append_left (by simp [Pr.cs]; omega)]; simp
    | succ i =>
      have hi' : i < L.length := by simpa using hi
      rw [List.getElem?_append_right (by simp [Pr.cs]; omega)]
      have e : (i + 1) * 4 + j - p.cs.toList.length = i * 4 + j := by simp [Pr.cs]; omega
      rw [e, ih hi']; simp
/-- The slice v of parts, made by the call itself. -/
def OwnQ (w : World) (B : Nat) (e : TypeId) (v : Value) (L : List Pr) : Prop := w.ownsRow B e 4 v L.length (rcells L)
/-- The slice v reads as the parts L. -/
def QS (w : World) (v : Value) (L : List Pr) : Prop :=
  (L = [] ∧ ∃ ao cap, v = .slice ao 0 cap) ∨ ∃ g off cap, v = .slice (some ⟨g, off, none⟩) L.length cap ∧ g < w.heap.size ∧ ∀ (i : Nat) (h : i < L.length) (j : Nat), j < 4 → w.cell? ⟨g, off + i * 4 + j, none⟩ = L[i].cs[j]?
theorem QS.slice {w : World} {v : Value} {L : List Pr} (h : QS w v L) : ∃ ao cap, v = .slice ao L.length cap := by
  rcases h with ⟨rfl, ao, cap, rfl⟩ | ⟨g, off, cap, rfl, _⟩
  · exact ⟨ao, cap, rfl⟩
  · exact ⟨_, cap, rfl⟩
theorem QS.at_ {w : World} {ao : Option Addr} {n cap : Nat} {L : List Pr} (h : QS w (.slice ao n cap) L) {i : Nat} (hi : i < L.length) : ∃ g off, ao = some ⟨g, off, none⟩ ∧ g < w.heap.size ∧
    w.cell? ⟨g, off + i * 4, none⟩ = some (.string L[i].name) ∧ w.cell? ⟨g, off + i * 4 + 1, none⟩ = some (.int .i64 L[i].pts) ∧ w.cell? ⟨g, off + i * 4 + 2, none⟩ = some (.int .i64 L[i].at_) ∧ w.cell? ⟨g, off + i * 4 + 3, none⟩ = some (.int .i64 L[i].til) := by
  rcases h with ⟨rfl, _⟩ | ⟨g, off, c, he, hb, hc⟩
  · simp at hi
  · cases he
    exact ⟨g, off, rfl, hb, hc i hi 0 (by omega), hc i hi 1 (by omega), hc i hi 2 (by omega), hc i hi 3 (by omega)⟩
theorem QS.below {w w' : World} {v : Value} {L : List Pr} (h : QS w v L) (hb : Below w.heap.size w w') : QS w' v L := by
  rcases h with h | ⟨g, off, cap, hv, hlt, hc⟩
  · exact .inl h
  · exact .inr ⟨g, off, cap, hv, Nat.lt_of_lt_of_le hlt hb.size, fun i hi j hj => (hb.cell (p := ⟨g, off + i * 4 + j, none⟩) hlt).trans (hc i hi j hj)⟩
theorem OwnQ.nil (w : World) (B : Nat) (e : TypeId) : OwnQ w B e (.slice none 0 0) [] := World.ownsRow_nil w B e 4
theorem OwnQ.ps {w : World} {B : Nat} {e : TypeId} {v : Value} {L : List Pr} (h : OwnQ w B e v L) : QS w v L := by
  rcases h.2 with ⟨rfl, h0⟩ | ⟨g, cap, cur, rfl, hb, hg, hcap, hm, hsz, htake⟩
  · exact .inl ⟨List.length_eq_zero_iff.1 h0, none, 0, rfl⟩
  · refine .inr ⟨g, 0, cap, rfl, (Array.getElem?_eq_some_iff.1 hg).1, fun i hi j hj => ?_⟩
    have hlt : i * 4 + j < (rcells L).length := by rw [rcells_length]; omega
    have := World.ownsRow.cells h (g := g) rfl (i * 4 + j) _ (List.getElem?_eq_getElem hlt)
    have e1 : (⟨g, 0, none⟩ : Addr).add (i * 4 + j) = ⟨g, i * 4 + j, none⟩ := by unfold Addr.add; split <;> simp_all
    rw [e1] at this
    rw [Nat.zero_add, this, ← List.getElem?_eq_getElem hlt, rcells_at hi hj]
theorem OwnQ.kept {w w' : World} {B : Nat} {e : TypeId} {v : Value} {L : List Pr} (h : OwnQ w B e v L) (hk : ∀ b, v.ownBlock = some b → w'.heap[b]? = w.heap[b]?) : OwnQ w' B e v L := by
  obtain ⟨h1, h2⟩ := h
  refine ⟨h1, ?_⟩
  rcases h2 with h2 | ⟨g, cap, cur, hv, hg, hh, r⟩
  · exact .inl h2
  · refine .inr ⟨g, cap, cur, hv, hg, ?_, r⟩
    rw [hk g (by rw [hv]; rfl)]; exact hh
theorem OwnQ.block {w : World} {B : Nat} {e : TypeId} {v : Value} {L : List Pr} (h : OwnQ w B e v L) : ∀ b, v.ownBlock = some b → B ≤ b ∧ b < w.heap.size := by
  rcases h.2 with ⟨rfl, h0⟩ | ⟨g, cap, cur, rfl, hb, hg, _⟩
  · intro b h; cases h
  · intro b h; cases h; exact ⟨hb, (Array.getElem?_eq_some_iff.1 hg).1⟩
theorem OwnQ.below {w w' : World} {B : Nat} {e : TypeId} {v : Value} {L : List Pr} (h : OwnQ w B e v L) (hb : Below w.heap.size w w') : OwnQ w' B e v L :=
  h.kept fun b hb' => hb.block b (h.block b hb').2
theorem OwnQ.made {w : World} {B : Nat} {e : TypeId} {v : Value} {n : Nat} (h : w.ownsRow B e 4 v 0 []) : OwnQ w B e v [] := h

/-- What a program's types are: a slice of parts, a part. -/
structure PeerTypes (P : Program) (t e : TypeId) : Prop where
  ht : P.underlying t = some (.slice e)
  hi : (P.info? e).map (fun i => (i.zero, i.size, i.bytes)) = some (some (.agg #[.string ByteArray.empty, .int .i64 0, .int .i64 0, .int .i64 0]), 4, 40)

/-- 'append(l, p)' of a part that is written out, onto a slice that the call made. -/
theorem append_peer {P : Program} {t e : TypeId} (T : PeerTypes P t e) {ops : Array Oper} {rest : List Oper} {o : Oper} {a : Act} {Q : Exit → Act → World → Prop} (hgd : o.guard = none) (x y : Operand)
    (ho : o.op = .call { callee := .builtin .append, args := #[x, y], argTypes := #[t, t] })
    (B : Nat) (v : Value) (L : List Pr) (p : Pr) (w : World) (cs : Array Value) (hcs : cs = p.cs) (hx : a.eval x = v) (hown : OwnQ w B e v L)
    (hy : a.eval y = .slice (some ⟨w.heap.size, 0, none⟩) 1 1) (hlen : L.length ≤ 1000000) (hB : B ≤ w.heap.size)
    (h : ∀ v' w', OwnQ w' B e v' (L ++ [p]) → Below B w w' → w.heap.size < w'.heap.size → wpList P ops Q rest (a.put o.dst v') w') :
    wpList P ops Q (o :: rest) a (w.alloc (.cells cs e)) := by
  subst hcs
  obtain ⟨i0, hi, hz0, hz1, hz2⟩ := info_parts T.hi
  refine wpList_append_own _ hgd x y t ho B e i0 _ 4 40 T.ht hi hz0 hz1 hz2 rfl (by decide) v L.length (rcells L) hx (World.ownsRow.alloc hown _)
    ⟨w.heap.size, 0, none⟩ 1 1 (rcells [p]) hy (by rw [rcells_length]; rfl) ?_ (rcells_one [p]) (by unfold maxLen; omega) (by omega) (by simp; omega) ?_
  · intro j u hj
    have e1 : (⟨w.heap.size, 0, none⟩ : Addr).add j = ⟨w.heap.size, j, none⟩ := by unfold Addr.add; split <;> simp_all
    rw [e1, World.cell?_alloc_mark w p.cs e (0, 0) j, ← hj]
    simp [rcells]
  · intro v' w' h1 h2 _
    refine h v' w' ?_ ?_ ?_
    · show w'.ownsRow B e 4 v' (L ++ [p]).length (rcells (L ++ [p]))
      rw [List.length_append, rcells_append]; exact h1
    · refine ((Below.refl B w).alloc hB _).grown h2 (by simp; omega) fun j hj => ?_
      exact (World.ownsRow.lt hown j hj).1
    · have := h2.size; simp at this; omega


theorem peer_types : PeerTypes Tryd.prog 41 53 := ⟨Tryd.underlying41, by kernel_rfl⟩
/-- A slice that reads as the peers K: nil, or a block of its own. -/
def QV (w : World) (v : Value) (K : List Pr) : Prop :=
  (K = [] ∧ v = .slice none 0 0) ∨ ∃ g cap cs, v = .slice (some ⟨g, 0, none⟩) K.length cap ∧ Blk w g cs 53 ∧ ∀ (i : Nat) (h : i < K.length) (j : Nat), j < 4 → cs[i * 4 + j]? = K[i].cs[j]?
theorem QV.slice {w : World} {v : Value} {K : List Pr} (h : QV w v K) : ∃ ao cap, v = .slice ao K.length cap := by
  rcases h with ⟨rfl, rfl⟩ | ⟨g, cap, cs, rfl, _⟩
  · exact ⟨_, _, rfl⟩
  · exact ⟨_, cap, rfl⟩
theorem QV.nil (w : World) : QV w (.slice none 0 0) [] := .inl ⟨rfl, rfl⟩
theorem QV.kept {w w' : World} {v : Value} {K : List Pr} (h : QV w v K) (hk : ∀ b cs, Blk w b cs 53 → Blk w' b cs 53) : QV w' v K := by
  rcases h with h | ⟨g, cap, cs, hv, hb, hc⟩
  · exact .inl h
  · exact .inr ⟨g, cap, cs, hv, hk g cs hb, hc⟩
theorem QV.below {w w' : World} {v : Value} {K : List Pr} (h : QV w v K) (hb : Below w.heap.size w w') : QV w' v K := h.kept fun b cs hbk => Below.blk hb hbk hbk.lt
theorem QV.at_ {w : World} {ao : Option Addr} {n cap : Nat} {K : List Pr} (h : QV w (.slice ao n cap) K) {i : Nat} (hi : i < K.length) : ∃ g, ao = some ⟨g, 0, none⟩ ∧ g < w.heap.size ∧
    w.cell? ⟨g, i * 4, none⟩ = some (.string K[i].name) ∧ w.cell? ⟨g, i * 4 + 1, none⟩ = some (.int .i64 K[i].pts) ∧ w.cell? ⟨g, i * 4 + 2, none⟩ = some (.int .i64 K[i].at_) ∧ w.cell? ⟨g, i * 4 + 3, none⟩ = some (.int .i64 K[i].til) := by
  rcases h with ⟨rfl, _⟩ | ⟨g, c, cs, he, hb, hc⟩
  · simp at hi
  · cases he
    exact ⟨g, rfl, hb.lt, (hb.cell _).trans (hc i hi 0 (by omega)), (hb.cell _).trans (hc i hi 1 (by omega)), (hb.cell _).trans (hc i hi 2 (by omega)), (hb.cell _).trans (hc i hi 3 (by omega))⟩
theorem OwnQ.qv {w : World} {B : Nat} {v : Value} {K : List Pr} (h : OwnQ w B 53 v K) : QV w v K := by
  rcases h.2 with ⟨rfl, h0⟩ | ⟨g, cap, cur, rfl, hb, hg, hcap, hm, hsz, htake⟩
  · exact .inl ⟨List.length_eq_zero_iff.1 h0, rfl⟩
  · refine .inr ⟨g, cap, cur, rfl, hg, fun i hi j hj => ?_⟩
    have hlt : i * 4 + j < K.length * 4 := by omega
    rw [← rcells_at hi hj, ← htake, List.getElem?_take_of_lt hlt]
    simp
end Go.Proofs.YtemfecdpjegocaaDoor
