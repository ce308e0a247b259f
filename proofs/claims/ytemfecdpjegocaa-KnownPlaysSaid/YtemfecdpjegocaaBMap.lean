/- A map from texts to truths that the call made, by what it has. -/
import Derived.Test.YtemfecdpjegocaaPMap
namespace Go.Proofs.Ytemfecdpjegocaa
open Go.RowKit Go.Maps
set_option linter.unusedVariables false

section
variable {P : Program} {k e t : TypeId}
structure BTypes (P : Program) (t k e : TypeId) : Prop where
  ht : P.underlying t = some (.map k e)
  hk : P.underlying k = some .string
  he : P.underlying e = some .bool
  hz : ∀ w, (zeroValue e).run P w = .ok (.bool false) w
theorem plain_bool_inv {H : Type} {P : Program} {e : TypeId} (he : P.underlying e = some .bool) {v : Value} {z : DataW H × List MemPlace} (h : plainElem P e v = some z) : ∃ x, v = .bool x ∧ z = (.lit (.bool x), []) := by
  unfold plainElem at h
  rw [he] at h
  split at h
  · cases h; exact ⟨_, rfl, rfl⟩
  · rename_i h1; cases h1
  · rename_i h1; cases h1
  · cases h
/-- Block b is such a map, of at most n entries, which has m. -/
def BMap (P : Program) (k e : TypeId) (w : World) (b n : Nat) (m : List UInt8 → Bool) : Prop :=
  ∃ D : DataW Unit, w.ownsMap P k (plainElem P e) b n D ∧ (∀ s, D.atKey (.string s) (.lit (.bool false)) = .lit (.bool (m s)))
theorem BMap.made (w : World) : BMap P k e (w.alloc (.map #[] 0)) w.heap.size 0 (fun _ => false) :=
  ⟨_, World.ownsMap_made w P k (plainElem P e), fun _ => rfl⟩
theorem BMap.lt {w : World} {b n : Nat} {m : List UInt8 → Bool} (h : BMap P k e w b n m) : b < w.heap.size := let ⟨_, h, _⟩ := h; h.lt
theorem BMap.block {w w' : World} {b n : Nat} {m : List UInt8 → Bool} (h : BMap P k e w b n m) (hb : w'.heap[b]? = w.heap[b]?) : BMap P k e w' b n m := by
  obtain ⟨D, ⟨es, clock, hh, r⟩, h2⟩ := h
  exact ⟨D, ⟨es, clock, by rw [hb]; exact hh, r⟩, h2⟩
theorem BMap.look {w : World} {b n : Nat} {m : List UInt8 → Bool} (T : BTypes P t k e) (h : BMap P k e w b n m) (s : ByteArray) (hs : s.size ≤ maxLen) : (Instr.lookup t (.map (some b)) (.string s) false).run P w = .ok (.bool (m s.data.toList)) w := by
  obtain ⟨D, hD, hat⟩ := h
  obtain ⟨v, ps, hrun, hv⟩ := hD.lookup (string_keyed T.hk) T.ht (T.hz w) (plainElem_bool T.he false) (Go.WideMaps.keyOf_string_mk T.hk hs)
  rw [hat] at hv
  obtain ⟨o, rfl, hz⟩ := plain_bool_inv T.he hv
  simp only [Prod.mk.injEq, DataW.lit.injEq, Lit.bool.injEq] at hz
  rw [hrun, hz.1]
def putT (m : List UInt8 → Bool) (s : List UInt8) : List UInt8 → Bool := fun x => if x = s then true else m x
theorem BMap.store {w : World} {b n : Nat} {m : List UInt8 → Bool} (T : BTypes P t k e) (h : BMap P k e w b n m) (s : ByteArray) (hs : s.size ≤ maxLen) (hn : n < maxLen) :
    ∃ w', (Instr.mapUpdate t (.map (some b)) (.string s) (.bool true)).run P w = .ok () w' ∧ BMap P k e w' b (n + 1) (putT m s.data.toList) ∧ Upd b w w' := by
  obtain ⟨D, hD, hat⟩ := h
  have K := string_keyed T.hk
  obtain ⟨w', hrun, hD', hg⟩ := hD.update K T.ht hn (Go.WideMaps.keyOf_string_mk T.hk hs) (plainElem_bool T.he true)
  refine ⟨w', hrun, ⟨_, hD', fun x => ?_⟩, hg⟩
  unfold putT
  by_cases hx : x = s.data.toList
  · subst hx
    rw [if_pos rfl]; exact atKey_put_same hD.isMap (keyL _) _ _
  · rw [if_neg hx, atKey_put_other (by intro e; exact hx (Lit.string.inj e)), hat]
/-- 'm[k] = true' at the operation. -/
theorem wpList_bmap_store {w : World} {ops : Array Oper} {rest : List Oper} {o : Oper} {a : Act} {Q : Exit → Act → World → Prop} (hg : o.guard = none) (mo x v : Operand) (hop : o.op = .mapUpdate t mo x v) (T : BTypes P t k e)
    {b n : Nat} {m : List UInt8 → Bool} (h : BMap P k e w b n m) (hm : a.eval mo = .map (some b)) (s : ByteArray) (hx : a.eval x = .string s) (hs : s.size ≤ maxLen) (hv : a.eval v = .bool true) (hn : n < maxLen)
    (hK : ∀ w', BMap P k e w' b (n + 1) (putT m s.data.toList) → Upd b w w' → wpList P ops Q rest (a.put o.dst undef) w') : wpList P ops Q (o :: rest) a w := by
  refine wpList_plain hg fun K' hK' => ?_
  obtain ⟨w', hrun, r1, r2⟩ := h.store T s hs hn
  unfold Oper.wp
  simp [execOp, hop, hm, hx, hv, hrun, Result.andThen]
  exact hK' _ _ (hK w' r1 r2)
end
end Go.Proofs.Ytemfecdpjegocaa
