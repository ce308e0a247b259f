/- Slices of parts that a call made. -/
import Derived.Test.YtemfecdpjegocaaPartMay
import Derived.Test.YtemfecdpjegocaaOwn
import Derived.OwnWalkIn
namespace Go.Proofs.Ytemfecdpjegocaa
open Go.RowKit
set_option linter.unusedVariables false

def pcells (L : List Pt) : List Value := L.flatMap fun p => p.cs.toList
theorem pcells_nil : pcells [] = [] := rfl
theorem pcells_append (L M : List Pt) : pcells (L ++ M) = pcells L ++ pcells M := by simp [pcells]
theorem pcells_length (L : List Pt) : (pcells L).length = L.length * 4 := by
  induction L with
  | nil => rfl
  | cons p L ih => show (p.cs.toList ++ pcells L).length = _; rw [List.length_append, ih]; simp [Pt.cs]; omega
theorem pcells_one (L : List Pt) : ∀ u ∈ pcells L, u.oneCell' = true := by
  intro u hu
  simp only [pcells, List.mem_flatMap] at hu
  obtain ⟨p, _, hu⟩ := hu
  simp [Pt.cs] at hu
  rcases hu with rfl | rfl | rfl | rfl <;> rfl
theorem pcells_at {L : List Pt} {i : Nat} (hi : i < L.length) {j : Nat} (hj : j < 4) : (pcells L)[i * 4 + j]? = L[i].cs[j]? := by
  induction L generalizing i with
  | nil => simp at hi
  | cons p L ih =>
    show (p.cs.toList ++ pcells L)[i * 4 + j]? = _
    cases i with
    | zero => rw [List.getElem?_append_left (by simp [Pt.cs]; omega)]; simp
    | succ i =>
      have hi' : i < L.length := by simpa using hi
      rw [List.getElem?_append_right (by simp [Pt.cs]; omega)]
      have e : (i + 1) * 4 + j - p.cs.toList.length = i * 4 + j := by simp [Pt.cs]; omega
      rw [e, ih hi']; simp
/-- The slice v of parts, made by the call itself. -/
def OwnP (w : World) (B : Nat) (e : TypeId) (v : Value) (L : List Pt) : Prop := w.ownsRow B e 4 v L.length (pcells L)
/-- The slice v reads as the parts L. -/
def PS (w : World) (v : Value) (L : List Pt) : Prop :=
  (L = [] ∧ ∃ ao cap, v = .slice ao 0 cap) ∨ ∃ g off cap, v = .slice (some ⟨g, off, none⟩) L.length cap ∧ g < w.heap.size ∧ ∀ (i : Nat) (h : i < L.length) (j : Nat), j < 4 → w.cell? ⟨g, off + i * 4 + j, none⟩ = L[i].cs[j]?
theorem PS.slice {w : World} {v : Value} {L : List Pt} (h : PS w v L) : ∃ ao cap, v = .slice ao L.length cap := by
  rcases h with ⟨rfl, ao, cap, rfl⟩ | ⟨g, off, cap, rfl, _⟩
  · exact ⟨ao, cap, rfl⟩
  · exact ⟨_, cap, rfl⟩
theorem PS.at_ {w : World} {ao : Option Addr} {n cap : Nat} {L : List Pt} (h : PS w (.slice ao n cap) L) {i : Nat} (hi : i < L.length) : ∃ g off, ao = some ⟨g, off, none⟩ ∧ g < w.heap.size ∧
    w.cell? ⟨g, off + i * 4, none⟩ = some (.int .i64 L[i].id) ∧ w.cell? ⟨g, off + i * 4 + 1, none⟩ = some (.int .i64 L[i].n) ∧ w.cell? ⟨g, off + i * 4 + 2, none⟩ = some (.int .i64 L[i].of_) ∧ w.cell? ⟨g, off + i * 4 + 3, none⟩ = some (.string L[i].text) := by
  rcases h with ⟨rfl, _⟩ | ⟨g, off, c, he, hb, hc⟩
  · simp at hi
  · cases he
    exact ⟨g, off, rfl, hb, hc i hi 0 (by omega), hc i hi 1 (by omega), hc i hi 2 (by omega), hc i hi 3 (by omega)⟩
theorem PS.below {w w' : World} {v : Value} {L : List Pt} (h : PS w v L) (hb : Below w.heap.size w w') : PS w' v L := by
  rcases h with h | ⟨g, off, cap, hv, hlt, hc⟩
  · exact .inl h
  · exact .inr ⟨g, off, cap, hv, Nat.lt_of_lt_of_le hlt hb.size, fun i hi j hj => (hb.cell (p := ⟨g, off + i * 4 + j, none⟩) hlt).trans (hc i hi j hj)⟩
theorem OwnP.nil (w : World) (B : Nat) (e : TypeId) : OwnP w B e (.slice none 0 0) [] := World.ownsRow_nil w B e 4
theorem OwnP.ps {w : World} {B : Nat} {e : TypeId} {v : Value} {L : List Pt} (h : OwnP w B e v L) : PS w v L := by
  rcases h.2 with ⟨rfl, h0⟩ | ⟨g, cap, cur, rfl, hb, hg, hcap, hm, hsz, htake⟩
  · exact .inl ⟨List.length_eq_zero_iff.1 h0, none, 0, rfl⟩
  · refine .inr ⟨g, 0, cap, rfl, (Array.getElem?_eq_some_iff.1 hg).1, fun i hi j hj => ?_⟩
    have hlt : i * 4 + j < (pcells L).length := by rw [pcells_length]; omega
    have := World.ownsRow.cells h (g := g) rfl (i * 4 + j) _ (List.getElem?_eq_getElem hlt)
    have e1 : (⟨g, 0, none⟩ : Addr).add (i * 4 + j) = ⟨g, i * 4 + j, none⟩ := by unfold Addr.add; split <;> simp_all
    rw [e1] at this
    rw [Nat.zero_add, this, ← List.getElem?_eq_getElem hlt, pcells_at hi hj]
theorem OwnP.kept {w w' : World} {B : Nat} {e : TypeId} {v : Value} {L : List Pt} (h : OwnP w B e v L) (hk : ∀ b, v.ownBlock = some b → w'.heap[b]? = w.heap[b]?) : OwnP w' B e v L := by
  obtain ⟨h1, h2⟩ := h
  refine ⟨h1, ?_⟩
  rcases h2 with h2 | ⟨g, cap, cur, hv, hg, hh, r⟩
  · exact .inl h2
  · refine .inr ⟨g, cap, cur, hv, hg, ?_, r⟩
    rw [hk g (by rw [hv]; rfl)]; exact hh
theorem OwnP.block {w : World} {B : Nat} {e : TypeId} {v : Value} {L : List Pt} (h : OwnP w B e v L) : ∀ b, v.ownBlock = some b → B ≤ b ∧ b < w.heap.size := by
  rcases h.2 with ⟨rfl, h0⟩ | ⟨g, cap, cur, rfl, hb, hg, _⟩
  · intro b h; cases h
  · intro b h; cases h; exact ⟨hb, (Array.getElem?_eq_some_iff.1 hg).1⟩
theorem OwnP.below {w w' : World} {B : Nat} {e : TypeId} {v : Value} {L : List Pt} (h : OwnP w B e v L) (hb : Below w.heap.size w w') : OwnP w' B e v L :=
  h.kept fun b hb' => hb.block b (h.block b hb').2
theorem OwnP.made {w : World} {B : Nat} {e : TypeId} {v : Value} {n : Nat} (h : w.ownsRow B e 4 v 0 []) : OwnP w B e v [] := h

/-- What a program's types are: a slice of parts, a part. -/
structure PartTypes (P : Program) (t e : TypeId) : Prop where
  ht : P.underlying t = some (.slice e)
  hi : (P.info? e).map (fun i => (i.zero, i.size, i.bytes)) = some (some (.agg #[.int .i64 0, .int .i64 0, .int .i64 0, .string ByteArray.empty]), 4, 40)

/-- 'append(l, p)' of a part that is written out, onto a slice that the call made. -/
theorem append_part {P : Program} {t e : TypeId} (T : PartTypes P t e) {ops : Array Oper} {rest : List Oper} {o : Oper} {a : Act} {Q : Exit → Act → World → Prop} (hgd : o.guard = none) (x y : Operand)
    (ho : o.op = .call { callee := .builtin .append, args := #[x, y], argTypes := #[t, t] })
    (B : Nat) (v : Value) (L : List Pt) (p : Pt) (w : World) (cs : Array Value) (hcs : cs = p.cs) (hx : a.eval x = v) (hown : OwnP w B e v L)
    (hy : a.eval y = .slice (some ⟨w.heap.size, 0, none⟩) 1 1) (hlen : L.length ≤ 1000000) (hB : B ≤ w.heap.size)
    (h : ∀ v' w', OwnP w' B e v' (L ++ [p]) → Below B w w' → w.heap.size < w'.heap.size → wpList P ops Q rest (a.put o.dst v') w') :
    wpList P ops Q (o :: rest) a (w.alloc (.cells cs e)) := by
  subst hcs
  obtain ⟨i0, hi, hz0, hz1, hz2⟩ := info_parts T.hi
  refine wpList_append_own _ hgd x y t ho B e i0 _ 4 40 T.ht hi hz0 hz1 hz2 rfl (by decide) v L.length (pcells L) hx (World.ownsRow.alloc hown _)
    ⟨w.heap.size, 0, none⟩ 1 1 (pcells [p]) hy (by rw [pcells_length]; rfl) ?_ (pcells_one [p]) (by unfold maxLen; omega) (by omega) (by simp; omega) ?_
  · intro j u hj
    have e1 : (⟨w.heap.size, 0, none⟩ : Addr).add j = ⟨w.heap.size, j, none⟩ := by unfold Addr.add; split <;> simp_all
    rw [e1, World.cell?_alloc_mark w p.cs e (0, 0) j, ← hj]
    simp [pcells]
  · intro v' w' h1 h2 _
    refine h v' w' ?_ ?_ ?_
    · show w'.ownsRow B e 4 v' (L ++ [p]).length (pcells (L ++ [p]))
      rw [List.length_append, pcells_append]; exact h1
    · refine ((Below.refl B w).alloc hB _).grown h2 (by simp; omega) fun j hj => ?_
      exact (World.ownsRow.lt hown j hj).1
    · have := h2.size; simp at this; omega

/-- The same within a fence, where there is room. -/
theorem appendIn_part {F : Fence} {n : Nat} {P : Program} {t e : TypeId} (T : PartTypes P t e) {ops : Array Oper} {rest : List Oper} {o : Oper} {a : Act} {Q : Exit → Act → World → Prop} (hgd : o.guard = none) (x y : Operand)
    (ho : o.op = .call { callee := .builtin .append, args := #[x, y], argTypes := #[t, t] })
    (B g k cap : Nat) (L : List Pt) (p : Pt) (w : World) (cs : Array Value) (hcs : cs = p.cs) (hx : a.eval x = .slice (some ⟨g, 0, none⟩) k cap) (hk : k = L.length) (hown : OwnP w B e (.slice (some ⟨g, 0, none⟩) k cap) L)
    (hy : a.eval y = .slice (some ⟨w.heap.size, 0, none⟩) 1 1) (hroom : k + 1 ≤ cap)
    (h : ∀ w', OwnP w' B e (.slice (some ⟨g, 0, none⟩) (k + 1) cap) (L ++ [p]) → (w.alloc (.cells cs e)).grownBy w' (some g) → wpListIn F n P ops Q rest (a.put o.dst (.slice (some ⟨g, 0, none⟩) (k + 1) cap)) w') :
    wpListIn F n P ops Q (o :: rest) a (w.alloc (.cells cs e)) := by
  subst hcs
  subst hk
  obtain ⟨i0, hi, hz0, hz1, hz2⟩ := info_parts T.hi
  refine wpListIn_append_fits _ hgd x y t ho B e i0 4 T.ht hi hz1 g L.length cap (pcells L) hx (World.ownsRow.alloc hown _)
    ⟨w.heap.size, 0, none⟩ 1 1 (pcells [p]) hy (by rw [pcells_length]; rfl) ?_ (pcells_one [p]) hroom ?_
  · intro j u hj
    have e1 : (⟨w.heap.size, 0, none⟩ : Addr).add j = ⟨w.heap.size, j, none⟩ := by unfold Addr.add; split <;> simp_all
    rw [e1, World.cell?_alloc_mark w p.cs e (0, 0) j, ← hj]
    simp [pcells]
  · intro w' h1 h2
    refine h w' ?_ h2
    show w'.ownsRow B e 4 _ (L ++ [p]).length (pcells (L ++ [p]))
    rw [List.length_append, pcells_append]; exact h1

theorem part_types : PartTypes Try.prog 23 33 := ⟨Try.underlying23, by kernel_rfl⟩
theorem rpart_types : PartTypes Try.prog 27 31 := ⟨Try.underlying27, by kernel_rfl⟩
end Go.Proofs.Ytemfecdpjegocaa
