/- A map[string]*T as a list of its entries. -/
import Derived.Test.YtemfecdpjegocaaDoorPMap
import Derived.Maps.Range
import Derived.Maps.RangeWalk
namespace Go.Proofs.YtemfecdpjegocaaDoor
open Go.RowKit Go.Maps
open Go.WideElems (Fit rd rg rd_key rd_val rg_of)
set_option linter.unusedVariables false

def ent (q : List UInt8 × Nat) : Lit × DataW (Option Nat) := (.string q.1, .held (some q.2))
theorem ents_of {es : List (Lit × DataW (Option Nat))} (h : ∀ p ∈ es, ∃ q, p = ent q) : ∃ l : List (List UInt8 × Nat), es = l.map ent := by
  induction es with
  | nil => exact ⟨[], rfl⟩
  | cons p es ih =>
    obtain ⟨q, rfl⟩ := h p (by simp)
    obtain ⟨l, rfl⟩ := ih fun p hp => h p (by simp [hp])
    exact ⟨q :: l, rfl⟩
def findE (l : List (List UInt8 × Nat)) (s : List UInt8) : Option Nat := (l.find? (fun p => p.1 == s)).map Prod.snd
theorem same_str (a b : List UInt8) : (Lit.string a).sameKey (.string b) = (a == b) := by
  rw [Bool.eq_iff_iff]
  constructor
  · intro h; have := WideAt.sameKey_eq h; simpa using this
  · intro h; simp at h; subst h; exact WideAt.sameKey_self (keyL a)
theorem atKey_ents (l : List (List UInt8 × Nat)) (s : List UInt8) : (DataW.map (l.map ent)).atKey (.string s) (.held none) = .held (findE l s) := by
  unfold DataW.atKey findE
  simp only [List.find?_map, Function.comp_def, ent, same_str]
  cases l.find? (fun p => p.1 == s) <;> rfl
theorem has_ents (l : List (List UInt8 × Nat)) (s : List UInt8) : Maps.has (DataW.map (l.map ent)) (.string s) = (findE l s).isSome := by
  rw [Maps.has_eq]
  unfold findE
  rw [Option.isSome_map, List.any_map]
  rw [Bool.eq_iff_iff, List.any_eq_true, List.find?_isSome]
  constructor
  · rintro ⟨p, hp, h⟩
    refine ⟨p, hp, ?_⟩
    simpa [ent, same_str] using h
  · rintro ⟨p, hp, h⟩
    refine ⟨p, hp, ?_⟩
    simpa [ent, same_str] using h
theorem PMap.list {P : Program} {k : TypeId} {w : World} {b n sz : Nat} {m : List UInt8 → Option Nat} (hk : P.underlying k = some .string) (h : PMap P k w b n sz m) :
    ∃ l : List (List UInt8 × Nat), w.ownsMap P k ptrR b n (.map (l.map ent)) ∧ (l.map Prod.fst).Nodup ∧ l.length = sz ∧ m = findE l := by
  obtain ⟨D, hD, hat, hsz, hhas⟩ := h
  obtain ⟨es, rfl, hap, hkeys⟩ := hD.entries (string_keyed hk)
  have hent : ∀ p ∈ es, ∃ q, p = ent q := by
    intro p hp
    obtain ⟨ea, clock, hh, F, hn, hDe⟩ := hD
    have hes : es = (ea.toList.map (rg P k ptrR)).foldr DataW.insert [] := by injection hDe
    have hp' := hp
    rw [hes, mem_sorted] at hp'
    obtain ⟨x, hx, hxe⟩ := List.mem_map.1 hp'
    obtain ⟨y, hy⟩ := F.reads x hx
    rw [rg_of hy] at hxe
    subst hxe
    have hkey := rd_key hy
    obtain ⟨z, hz, hyz⟩ := rd_val hy
    obtain ⟨o, _, rfl⟩ := ptrR_inv hz
    rw [keyOf_string hk] at hkey
    have hstr : ∃ s, y.1 = .string s := by
      unfold mapKey at hkey
      rw [hk] at hkey
      cases hv : x.key <;> rw [hv] at hkey <;> simp at hkey
      exact ⟨_, hkey.2.symm⟩
    obtain ⟨s, hs⟩ := hstr
    obtain ⟨y1, y2⟩ := y
    simp only at hs hyz
    subst hs hyz
    cases o with
    | some c => exact ⟨(s, c), rfl⟩
    | none =>
      exfalso
      have h1 : (DataW.map es).atKey (.string s) (.held none) = .held none := WideAt.atKey_mem _ (keyL s) hap hp
      rw [hat] at h1
      have h2 : m s = none := by injection h1
      have h3 := hhas s
      rw [h2, Maps.has_eq] at h3
      have : es.any (fun p => p.1.sameKey (.string s)) = true := List.any_eq_true.2 ⟨_, hp, WideAt.sameKey_self (keyL s)⟩
      rw [this] at h3; cases h3
  obtain ⟨l, rfl⟩ := ents_of hent
  refine ⟨l, hD, ?_, by simpa [Maps.size_eq] using hsz, funext fun s => ?_⟩
  · rw [List.pairwise_map] at hap
    unfold List.Nodup
    rw [List.pairwise_map]
    exact hap.imp fun h e => h (by simp [ent, e])
  · have := hat s
    rw [atKey_ents] at this
    injection this with h; exact h.symm
theorem PMap.of_list {P : Program} {k : TypeId} {w : World} {b n : Nat} {l : List (List UInt8 × Nat)} (h : w.ownsMap P k ptrR b n (.map (l.map ent))) : PMap P k w b n l.length (findE l) :=
  ⟨_, h, atKey_ents l, by simp [Maps.size_eq], has_ents l⟩

/-- Pointers to blocks of S alone. -/
noncomputable def ptrS (S : Nat → Prop) (v : Value) : Option (DataW (Option Nat) × List MemPlace) :=
  match v with
  | .pointer (some ⟨b, 0, none⟩) => @ite _ (S b) (Classical.propDecidable _) (some (.held (some b), [])) none
  | _ => none
theorem ptrS_mk {S : Nat → Prop} {b : Nat} (h : S b) : ptrS S (.pointer (some ⟨b, 0, none⟩)) = some (.held (some b), []) := by
  simp [ptrS, h]
theorem ptrS_inv {S : Nat → Prop} {v : Value} {z : DataW (Option Nat) × List MemPlace} (h : ptrS S v = some z) : ∃ b, v = .pointer (some ⟨b, 0, none⟩) ∧ z = (.held (some b), []) ∧ S b := by
  unfold ptrS at h
  split at h
  · rename_i b
    by_cases hb : S b
    · simp [hb] at h; exact ⟨b, rfl, h.symm, hb⟩
    · simp [hb] at h
  · cases h
theorem own_to_S {P : Program} {k : TypeId} {w : World} {b n : Nat} {S : Nat → Prop} {l : List (List UInt8 × Nat)} (h : w.ownsMap P k ptrR b n (.map (l.map ent))) (hS : ∀ p ∈ l, S p.2) : w.ownsMap P k (ptrS S) b n (.map (l.map ent)) := by
  obtain ⟨ea, clock, hh, F, hn, hDe⟩ := h
  have hmem : ∀ x ∈ ea.toList, ∀ z, ptrR x.val = some z → ptrS S x.val = some z := by
    intro x hx z hz
    obtain ⟨y, hy⟩ := F.reads x hx
    obtain ⟨z', hz', hyz⟩ := rd_val hy
    rw [hz] at hz'
    cases hz'
    obtain ⟨o, hv, rfl⟩ := ptrR_inv hz
    have hin : rg P k ptrR x ∈ (ea.toList.map (rg P k ptrR)).foldr DataW.insert [] := mem_sorted.2 (List.mem_map_of_mem hx)
    injection hDe with hDe
    rw [← hDe, rg_of hy] at hin
    obtain ⟨q, hq, he⟩ := List.mem_map.1 hin
    have : DataW.held (some q.2) = DataW.held o := by
      have e2 : (ent q).2 = y.2 := by rw [he]
      simp only [ent] at e2
      rw [e2, hyz]
    injection this with this
    subst this
    rw [hv]
    exact ptrS_mk (hS q hq)
  obtain ⟨F1, hmap, _⟩ := F.stay hmem
  exact ⟨ea, clock, hh, F1, hn, by rw [hmap]; exact hDe⟩
theorem own_of_S {P : Program} {k : TypeId} {w : World} {b n : Nat} {S : Nat → Prop} {D : DataW (Option Nat)} (h : w.ownsMap P k (ptrS S) b n D) : w.ownsMap P k ptrR b n D := by
  obtain ⟨ea, clock, hh, F, hn, hDe⟩ := h
  obtain ⟨F1, hmap, _⟩ := F.stay (R' := ptrR) fun x hx z hz => by
    obtain ⟨b, hv, rfl, _⟩ := ptrS_inv hz
    rw [hv]; exact ptrR_pv (some b)
  exact ⟨ea, clock, hh, F1, hn, by rw [hmap]; exact hDe⟩
end Go.Proofs.YtemfecdpjegocaaDoor
