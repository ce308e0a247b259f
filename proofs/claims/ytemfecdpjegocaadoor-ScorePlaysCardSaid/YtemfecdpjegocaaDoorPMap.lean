/- A map from texts to pointers, by what it has. -/
import Derived.Test.YtemfecdpjegocaaDoorObj
import Derived.Maps.OwnSet
import Derived.Maps.OwnOps
namespace Go.Proofs.YtemfecdpjegocaaDoor
open Go.RowKit Go.Maps
set_option linter.unusedVariables false

/-- A pointer to the head of a block, or nil. -/
def pv (o : Option Nat) : Value := .pointer (o.map fun b => ⟨b, 0, none⟩)
/-- How such a pointer reads. -/
def ptrR (v : Value) : Option (DataW (Option Nat) × List MemPlace) :=
  match v with
  | .pointer none => some (.held none, [])
  | .pointer (some ⟨b, 0, none⟩) => some (.held (some b), [])
  | _ => none
theorem ptrR_pv (o : Option Nat) : ptrR (pv o) = some (.held o, []) := by cases o <;> rfl
theorem ptrR_inv {v : Value} {z : DataW (Option Nat) × List MemPlace} (h : ptrR v = some z) : ∃ o, v = pv o ∧ z = (.held o, []) := by
  unfold ptrR at h
  split at h
  · cases h; exact ⟨none, rfl, rfl⟩
  · cases h; exact ⟨some _, rfl, rfl⟩
  · cases h

section
variable {P : Program} {k e t : TypeId}
/-- What a program's types of such a map are. -/
structure PTypes (P : Program) (t k e : TypeId) : Prop where
  ht : P.underlying t = some (.map k e)
  hk : P.underlying k = some .string
  hz : ∀ w, (zeroValue e).run P w = .ok (.pointer none) w
theorem keyL (s : List UInt8) : WideAt.IsKeyLit (.string s) := trivial

/-- Block b is such a map, of at most n entries, of sz entries, which has m. -/
def PMap (P : Program) (k : TypeId) (w : World) (b n sz : Nat) (m : List UInt8 → Option Nat) : Prop :=
  ∃ D : DataW (Option Nat), w.ownsMap P k ptrR b n D ∧ (∀ s, D.atKey (.string s) (.held none) = .held (m s)) ∧ Maps.size D = sz ∧ ∀ s, Maps.has D (.string s) = (m s).isSome
theorem PMap.made (w : World) : PMap P k (w.alloc (.map #[] 0)) w.heap.size 0 0 (fun _ => none) :=
  ⟨_, World.ownsMap_made w P k ptrR, fun _ => rfl, rfl, fun _ => rfl⟩
theorem PMap.lt {w : World} {b n sz : Nat} {m : List UInt8 → Option Nat} (h : PMap P k w b n sz m) : b < w.heap.size := let ⟨_, h, _⟩ := h; h.lt
theorem PMap.kept {w w' : World} {b c n sz : Nat} {m : List UInt8 → Option Nat} (h : PMap P k w b n sz m) (hu : Upd c w w') (hne : b ≠ c) : PMap P k w' b n sz m :=
  let ⟨D, h, h2⟩ := h; ⟨D, h.kept hu (by simpa using hne), h2⟩
theorem PMap.below {w w' : World} {b n sz : Nat} {m : List UInt8 → Option Nat} (h : PMap P k w b n sz m) (hb : Below w.heap.size w w') : PMap P k w' b n sz m := by
  obtain ⟨D, ⟨es, clock, hh, r⟩, h2⟩ := h
  exact ⟨D, ⟨es, clock, by rw [hb.block b (Array.getElem?_eq_some_iff.1 hh).1]; exact hh, r⟩, h2⟩
theorem PMap.block {w w' : World} {b n sz : Nat} {m : List UInt8 → Option Nat} (h : PMap P k w b n sz m) (hb : w'.heap[b]? = w.heap[b]?) : PMap P k w' b n sz m := by
  obtain ⟨D, ⟨es, clock, hh, r⟩, h2⟩ := h
  exact ⟨D, ⟨es, clock, by rw [hb]; exact hh, r⟩, h2⟩
theorem PMap.look {w : World} {b n sz : Nat} {m : List UInt8 → Option Nat} (T : PTypes P t k e) (h : PMap P k w b n sz m) (s : ByteArray) (hs : s.size ≤ maxLen) : (Instr.lookup t (.map (some b)) (.string s) false).run P w = .ok (pv (m s.data.toList)) w := by
  obtain ⟨D, hD, hat, _⟩ := h
  obtain ⟨v, ps, hrun, hv⟩ := hD.lookup (string_keyed T.hk) T.ht (T.hz w) (ptrR_pv none) (Go.WideMaps.keyOf_string_mk T.hk hs)
  rw [hat] at hv
  obtain ⟨o, rfl, hz⟩ := ptrR_inv hv
  simp only [Prod.mk.injEq, DataW.held.injEq] at hz
  rw [hrun, hz.1]
def putM (m : List UInt8 → Option Nat) (s : List UInt8) (o : Option Nat) : List UInt8 → Option Nat := fun x => if x = s then o else m x
theorem PMap.store {w : World} {b n sz : Nat} {m : List UInt8 → Option Nat} (T : PTypes P t k e) (h : PMap P k w b n sz m) (s : ByteArray) (hs : s.size ≤ maxLen) (c : Nat) (hn : n < maxLen) :
    ∃ w', (Instr.mapUpdate t (.map (some b)) (.string s) (pv (some c))).run P w = .ok () w' ∧ PMap P k w' b (n + 1) (if (m s.data.toList).isSome then sz else sz + 1) (putM m s.data.toList (some c)) ∧ Upd b w w' := by
  obtain ⟨D, hD, hat, hsz, hhas⟩ := h
  have K := string_keyed T.hk
  obtain ⟨w', hrun, hD', hg⟩ := hD.update K T.ht hn (Go.WideMaps.keyOf_string_mk T.hk hs) (ptrR_pv (some c))
  refine ⟨w', hrun, ⟨_, hD', fun x => ?_, ?_, fun x => ?_⟩, hg⟩
  · unfold putM
    by_cases hx : x = s.data.toList
    · subst hx
      rw [if_pos rfl]; exact atKey_put_same hD.isMap (keyL _) _ _
    · rw [if_neg hx, atKey_put_other (by intro e; exact hx (Lit.string.inj e)), hat]
  · rw [size_put (hD.tidy K), hhas, hsz]
  · unfold putM
    by_cases hx : x = s.data.toList
    · subst hx
      rw [if_pos rfl, has_put_same hD.isMap (keyL _)]; rfl
    · rw [if_neg hx, has_put_other (by intro e; exact hx (Lit.string.inj e)), hhas]
theorem PMap.drop {w : World} {b n sz : Nat} {m : List UInt8 → Option Nat} (T : PTypes P t k e) (h : PMap P k w b n sz m) (s : ByteArray) (hs : s.size ≤ maxLen) (ty : TypeId) :
    ∃ w', (Builtin.delete_ #[t, k] ty #[.map (some b), .string s]).run P w = .ok (.tuple #[]) w' ∧ PMap P k w' b n (if (m s.data.toList).isSome then sz - 1 else sz) (putM m s.data.toList none) ∧ Upd b w w' := by
  obtain ⟨D, hD, hat, hsz, hhas⟩ := h
  have K := string_keyed T.hk
  obtain ⟨w', hrun, hD', hg⟩ := hD.drop K T.ht (Go.WideMaps.keyOf_string_mk T.hk hs) ty
  refine ⟨w', hrun, ⟨_, hD', fun x => ?_, ?_, fun x => ?_⟩, hg.grown⟩
  · unfold putM
    by_cases hx : x = s.data.toList
    · subst hx
      rw [if_pos rfl]; exact atKey_del_same _
    · rw [if_neg hx, atKey_del_other (by intro e; exact hx (Lit.string.inj e)), hat]
  · have := size_del (hD.tidy K) (k := .string s.data.toList)
    rw [hhas, hsz] at this
    split at this <;> simp_all
    omega
  · unfold putM
    by_cases hx : x = s.data.toList
    · subst hx
      rw [if_pos rfl, has_del_same]; rfl
    · rw [if_neg hx, has_del_other (by intro e; exact hx (Lit.string.inj e)), hhas]
theorem PMap.len {w : World} {b n sz : Nat} {m : List UInt8 → Option Nat} (T : PTypes P t k e) (h : PMap P k w b n sz m) (ty : TypeId) : (Builtin.len_ #[t] ty #[.map (some b)]).run P w = .ok (.int .i64 sz) w := by
  obtain ⟨D, hD, _, hsz, _⟩ := h
  rw [hD.len T.ht ty, hsz]
theorem PMap.sz_le {w : World} {b n sz : Nat} {m : List UInt8 → Option Nat} (h : PMap P k w b n sz m) : sz ≤ n := by
  obtain ⟨D, hD, _, hsz, _⟩ := h
  rw [← hsz]; exact hD.size_le

/-- 'm[k] = p' at the operation. -/
theorem wpList_pmap_store {w : World} {ops : Array Oper} {rest : List Oper} {o : Oper} {a : Act} {Q : Exit → Act → World → Prop} (hg : o.guard = none) (mo x v : Operand) (hop : o.op = .mapUpdate t mo x v) (T : PTypes P t k e)
    {b n sz : Nat} {m : List UInt8 → Option Nat} (h : PMap P k w b n sz m) (hm : a.eval mo = .map (some b)) (s : ByteArray) (hx : a.eval x = .string s) (hs : s.size ≤ maxLen) (c : Nat) (hv : a.eval v = .pointer (some ⟨c, 0, none⟩)) (hn : n < maxLen)
    (hK : ∀ w', PMap P k w' b (n + 1) (if (m s.data.toList).isSome then sz else sz + 1) (putM m s.data.toList (some c)) → Upd b w w' → wpList P ops Q rest (a.put o.dst undef) w') : wpList P ops Q (o :: rest) a w := by
  refine wpList_plain hg fun K' hK' => ?_
  obtain ⟨w', hrun, r1, r2⟩ := h.store T s hs c hn
  unfold Oper.wp
  have hv' : a.eval v = pv (some c) := hv
  simp [execOp, hop, hm, hx, hv', hrun, Result.andThen]
  exact hK' _ _ (hK w' r1 r2)
/-- 'delete(m, k)' at the operation. -/
theorem wpList_pmap_drop {w : World} {ops : Array Oper} {rest : List Oper} {o : Oper} {a : Act} {Q : Exit → Act → World → Prop} (hg : o.guard = none) (mo x : Operand) (hop : o.op = .call { callee := .builtin .delete, args := #[mo, x], argTypes := #[t, k] }) (T : PTypes P t k e)
    {b n sz : Nat} {m : List UInt8 → Option Nat} (h : PMap P k w b n sz m) (hm : a.eval mo = .map (some b)) (s : ByteArray) (hx : a.eval x = .string s) (hs : s.size ≤ maxLen)
    (hK : ∀ w', PMap P k w' b n (if (m s.data.toList).isSome then sz - 1 else sz) (putM m s.data.toList none) → Upd b w w' → wpList P ops Q rest (a.put o.dst (.tuple #[])) w') : wpList P ops Q (o :: rest) a w := by
  refine wpList_plain hg fun K' hK' => ?_
  obtain ⟨w', hrun, r1, r2⟩ := h.drop T s hs o.type
  unfold Oper.wp
  simp [execOp, resolve, invoke, builtin, hop, hm, hx, hrun, Result.andThen]
  exact hK' _ _ (hK w' r1 r2)
end
end Go.Proofs.YtemfecdpjegocaaDoor
