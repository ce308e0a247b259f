/- Slices of texts: read, owned, appended to. -/
import Derived.Test.YtemfecdpjegocaaDoorOwn
namespace Go.Proofs.YtemfecdpjegocaaDoor
open Go.RowKit
set_option linter.unusedVariables false

def scells (l : List ByteArray) : List Value := l.map Value.string
@[simp] theorem scells_length (l : List ByteArray) : (scells l).length = l.length := by simp [scells]
theorem scells_append (l m : List ByteArray) : scells (l ++ m) = scells l ++ scells m := by simp [scells]
theorem scells_one (l : List ByteArray) : ∀ u ∈ scells l, u.oneCell' = true := by
  intro u hu
  simp [scells] at hu
  obtain ⟨b, _, rfl⟩ := hu
  rfl
/-- The slice v reads as the texts l. -/
def RS (w : World) (v : Value) (l : List ByteArray) : Prop :=
  (l = [] ∧ ∃ ao cap, v = .slice ao 0 cap) ∨ ∃ b off cap, v = .slice (some ⟨b, off, none⟩) l.length cap ∧ b < w.heap.size ∧ ∀ (i : Nat) (h : i < l.length), w.cell? ⟨b, off + i, none⟩ = some (.string l[i])
theorem RS.slice {w : World} {v : Value} {l : List ByteArray} (h : RS w v l) : ∃ ao cap, v = .slice ao l.length cap := by
  rcases h with ⟨rfl, ao, cap, rfl⟩ | ⟨b, off, cap, rfl, _, _⟩
  · exact ⟨ao, cap, rfl⟩
  · exact ⟨_, cap, rfl⟩
theorem RS.at_ {w : World} {ao : Option Addr} {n cap : Nat} {l : List ByteArray} (h : RS w (.slice ao n cap) l) {i : Nat} (hi : i < l.length) : ∃ b off, ao = some ⟨b, off, none⟩ ∧ b < w.heap.size ∧ w.cell? ⟨b, off + i, none⟩ = some (.string l[i]) := by
  rcases h with ⟨rfl, _⟩ | ⟨b, off, c, he, hb, hc⟩
  · simp at hi
  · cases he
    exact ⟨b, off, rfl, hb, hc i hi⟩
theorem RS.below {w w' : World} {v : Value} {l : List ByteArray} (h : RS w v l) (hb : Below w.heap.size w w') : RS w' v l := by
  rcases h with h | ⟨b, off, cap, hv, hlt, hc⟩
  · exact .inl h
  · exact .inr ⟨b, off, cap, hv, Nat.lt_of_lt_of_le hlt hb.size, fun i hi => (hb.cell (p := ⟨b, off + i, none⟩) hlt).trans (hc i hi)⟩
/-- The slice v of texts, made by the call itself, has the texts l. -/
def OwnS (w : World) (B : Nat) (e : TypeId) (v : Value) (l : List ByteArray) : Prop := w.ownsRow B e 1 v l.length (scells l)
theorem OwnS.nil (w : World) (B : Nat) (e : TypeId) : OwnS w B e (.slice none 0 0) [] := World.ownsRow_nil w B e 1
theorem OwnS.alloc {w : World} {B : Nat} {e : TypeId} {v : Value} {l : List ByteArray} (h : OwnS w B e v l) (o : Obj) : OwnS (w.alloc o) B e v l := World.ownsRow.alloc h o
theorem OwnS.below {w w' : World} {B : Nat} {e : TypeId} {v : Value} {l : List ByteArray} (h : OwnS w B e v l) (hb : Below w.heap.size w w') : OwnS w' B e v l := by
  obtain ⟨h1, h2⟩ := h
  refine ⟨h1, ?_⟩
  rcases h2 with h2 | ⟨g, cap, cur, hv, hg, hh, r⟩
  · exact .inl h2
  · refine .inr ⟨g, cap, cur, hv, hg, ?_, r⟩
    rw [hb.block g (Array.getElem?_eq_some_iff.1 hh).1]; exact hh
theorem OwnS.rs {w : World} {B : Nat} {e : TypeId} {v : Value} {l : List ByteArray} (h : OwnS w B e v l) : RS w v l := by
  rcases h.2 with ⟨rfl, h0⟩ | ⟨g, cap, cur, rfl, hb, hg, hcap, hm, hsz, htake⟩
  · exact .inl ⟨List.length_eq_zero_iff.1 h0, none, 0, rfl⟩
  · refine .inr ⟨g, 0, cap, rfl, (Array.getElem?_eq_some_iff.1 hg).1, fun i hi => ?_⟩
    have := World.ownsRow.cells h (g := g) rfl i (.string l[i]) (by simp [scells, List.getElem?_eq_getElem hi])
    have e1 : (⟨g, 0, none⟩ : Addr).add i = ⟨g, i, none⟩ := by unfold Addr.add; split <;> simp_all
    rw [e1] at this; rw [Nat.zero_add]; exact this

/-- What a program's types are: []string, string. -/
structure StrTypes (P : Program) (t e : TypeId) : Prop where
  ht : P.underlying t = some (.slice e)
  hi : (P.info? e).map (fun i => (i.zero, i.size, i.bytes)) = some (some (.string ByteArray.empty), 1, 16)
/-- 'append(l, x, ..)' of texts that are written out, onto a slice that the call made. -/
theorem append_strs {P : Program} {t e : TypeId} (T : StrTypes P t e) {ops : Array Oper} {rest : List Oper} {o : Oper} {a : Act} {Q : Exit → Act → World → Prop} (hgd : o.guard = none) (x y : Operand)
    (ho : o.op = .call { callee := .builtin .append, args := #[x, y], argTypes := #[t, t] })
    (B : Nat) (v : Value) (l m : List ByteArray) (k : Nat) (hk : k = m.length) (w : World) (cs : Array Value) (hcs : cs.toList = scells m) (hx : a.eval x = v) (hown : OwnS w B e v l)
    (hy : a.eval y = .slice (some ⟨w.heap.size, 0, none⟩) k k) (hlen : l.length + k ≤ 1000000) (hB : B ≤ w.heap.size)
    (h : ∀ v' w', OwnS w' B e v' (l ++ m) → Below B w w' → w.heap.size < w'.heap.size → wpList P ops Q rest (a.put o.dst v') w') :
    wpList P ops Q (o :: rest) a (w.alloc (.cells cs e)) := by
  subst hk
  obtain ⟨i0, hi, hz0, hz1, hz2⟩ := info_parts T.hi
  refine wpList_append_own _ hgd x y t ho B e i0 (.string ByteArray.empty) 1 16 T.ht hi hz0 hz1 hz2 rfl (by decide) v l.length (scells l) hx (hown.alloc _)
    ⟨w.heap.size, 0, none⟩ m.length m.length (scells m) hy (by simp) ?_ (scells_one m) (by unfold maxLen; omega) (by omega) (by simp; omega) ?_
  · intro j u hj
    have e1 : (⟨w.heap.size, 0, none⟩ : Addr).add j = ⟨w.heap.size, j, none⟩ := by unfold Addr.add; split <;> simp_all
    rw [e1, World.cell?_alloc_mark w cs e (0, 0) j, ← hj, ← hcs, Array.getElem?_toList]
  · intro v' w' h1 h2 _
    refine h v' w' ?_ ?_ ?_
    · show w'.ownsRow B e 1 v' (l ++ m).length (scells (l ++ m))
      rw [List.length_append, scells_append]; exact h1
    · refine ((Below.refl B w).alloc hB _).grown h2 (by simp; omega) fun j hj => ?_
      exact (World.ownsRow.lt hown j hj).1
    · have := h2.size; simp at this; omega
end Go.Proofs.YtemfecdpjegocaaDoor
