/- A map by the list of its entries, in whatever order: look, store, drop, len, range. -/
import Derived.Test.YtemfecdpjegocaaObj
import Derived.Maps.OwnSet
import Derived.Maps.OwnOps
import Derived.Maps.RangeWalk
namespace Go.Proofs.Ytemfecdpjegocaa
open Go.RowKit Go.Maps
set_option linter.unusedVariables false

/-- How keys are laid. -/
structure KEnc (P : Program) (k : TypeId) (κ : Type) where
  kv : κ → Value
  kl : κ → Lit
  ok : κ → Prop
  K : Keyed P k
  lay : ∀ x, ok x → keyOf P k (kv x) = some (kl x)
  inv : ∀ v l, keyOf P k v = some l → ∃ x, v = kv x ∧ l = kl x
  inj : ∀ x y, kl x = kl y → x = y
  key : ∀ x, WideAt.IsKeyLit (kl x)
/-- How elements are laid. -/
structure EEnc (X : Type) where
  ev : X → Value
  R : Value → Option (DataW X × List MemPlace)
  lay : ∀ x, R (ev x) = some (.held x, [])
  inv : ∀ v z, R v = some z → ∃ x, v = ev x ∧ z = (.held x, [])

section
variable {P : Program} {k e t : TypeId} {κ X : Type}
/-- Block b is a map, of at most n entries, with just these. -/
def LMap (E : KEnc P k κ) (F : EEnc X) (w : World) (b n : Nat) (l : List (κ × X)) : Prop :=
  ∃ es, w.ownsMap P k F.R b n (.map es) ∧ es.Perm (l.map fun p => (E.kl p.1, .held p.2)) ∧ (l.map Prod.fst).Nodup ∧ ∀ p ∈ l, E.ok p.1
variable {E : KEnc P k κ} {F : EEnc X} {w : World} {b n : Nat} {l : List (κ × X)}
theorem LMap.made (E : KEnc P k κ) (F : EEnc X) (w : World) : LMap E F (w.alloc (.map #[] 0)) w.heap.size 0 [] :=
  ⟨[], World.ownsMap_made w P k F.R, .refl _, List.nodup_nil, fun p hp => by cases hp⟩
theorem LMap.lt (h : LMap E F w b n l) : b < w.heap.size := let ⟨_, h, _⟩ := h; h.lt
theorem LMap.block {w' : World} (h : LMap E F w b n l) (hb : w'.heap[b]? = w.heap[b]?) : LMap E F w' b n l := by
  obtain ⟨D, ⟨es, clock, hh, r⟩, h2⟩ := h
  exact ⟨D, ⟨es, clock, by rw [hb]; exact hh, r⟩, h2⟩
theorem LMap.below {w' : World} (h : LMap E F w b n l) (hb : Below w.heap.size w w') : LMap E F w' b n l := h.block (hb.block b h.lt)
theorem LMap.up (h : LMap E F w b n l) {m : Nat} (hm : n ≤ m) : LMap E F w b m l := let ⟨D, hD, r⟩ := h; ⟨D, hD.mono hm, r⟩
theorem LMap.perm {l' : List (κ × X)} (h : LMap E F w b n l) (hp : l.Perm l') : LMap E F w b n l' := by
  obtain ⟨D, hD, hpe, hn, hok⟩ := h
  exact ⟨D, hD, hpe.trans (hp.map _), (hp.map _).nodup_iff.1 hn, fun p hp' => hok p (hp.mem_iff.2 hp')⟩
theorem LMap.nodup (h : LMap E F w b n l) : (l.map Prod.fst).Nodup := let ⟨_, _, _, h, _⟩ := h; h
theorem LMap.size_le (h : LMap E F w b n l) : l.length ≤ n := by
  obtain ⟨es, hD, hpe, _⟩ := h
  have := hD.size_le
  rw [Maps.size_eq, hpe.length_eq, List.length_map] at this
  exact this
theorem mem_es {es : List (Lit × DataW X)} (hpe : es.Perm (l.map fun p => (E.kl p.1, .held p.2))) {x : κ} {d : DataW X} (h : (E.kl x, d) ∈ es) : ∃ y, d = .held y ∧ (x, y) ∈ l := by
  obtain ⟨p, hp, he⟩ := List.mem_map.1 (hpe.mem_iff.1 h)
  simp only [Prod.mk.injEq] at he
  obtain ⟨a, y⟩ := p
  obtain rfl : a = x := E.inj _ _ he.1
  exact ⟨y, he.2.symm, hp⟩
theorem LMap.len (h : LMap E F w b n l) (ht : P.underlying t = some (.map k e)) (ty : TypeId) : (Builtin.len_ #[t] ty #[.map (some b)]).run P w = .ok (.int .i64 (l.length : Nat)) w := by
  obtain ⟨es, hD, hpe, _⟩ := h
  rw [hD.len ht ty, Maps.size_eq, hpe.length_eq, List.length_map]
theorem nodup_filter {l : List (κ × X)} (h : (l.map Prod.fst).Nodup) (f : κ × X → Bool) : ((l.filter f).map Prod.fst).Nodup := h.sublist (List.filter_sublist.map _)
/-- A range under way: these are still to come. -/
def LRange (E : KEnc P k κ) (F : EEnc X) (w : World) (b r n : Nat) (l rest : List (κ × X)) : Prop :=
  ∃ es left cnt, w.ranges P k F.R b r n (.map es) left cnt ∧ es.Perm (l.map fun p => (E.kl p.1, .held p.2)) ∧ (l.map Prod.fst).Nodup ∧ (∀ p ∈ l, E.ok p.1) ∧
    (∀ p ∈ l, left (E.kl p.1) = true ↔ p ∈ rest) ∧ (∀ p ∈ rest, p ∈ l) ∧ (rest.map Prod.fst).Nodup
theorem LRange.map {r : Nat} {rest : List (κ × X)} (h : LRange E F w b r n l rest) : LMap E F w b n l := by
  obtain ⟨es, left, cnt, h1, h2, h3, h4, _⟩ := h
  exact ⟨es, h1.owns, h2, h3, h4⟩
theorem LRange.kept {w' : World} {r : Nat} {rest : List (κ × X)} {row : Option Nat} (h : LRange E F w b r n l rest) (hg : w.grownBy w' row) (hb : some b ≠ row) (hr : some r ≠ row) : LRange E F w' b r n l rest := by
  obtain ⟨es, left, cnt, h1, h2⟩ := h
  exact ⟨es, left, cnt, h1.kept hg hb hr, h2⟩
theorem LRange.left_kept {w' : World} {r : Nat} {rest : List (κ × X)} {row : Option Nat} (h : LRange E F w b r n l rest) (hg : w.grownBy w' row) (hb : some b ≠ row) (hr : some r ≠ row) : w'.rangeLeft b r = w.rangeLeft b r := by
  obtain ⟨es, left, cnt, h1, h2⟩ := h
  rw [h1.left_eq, (h1.kept hg hb hr).left_eq]
end
section
variable {P : Program} {k e t : TypeId} {κ X : Type} [DecidableEq κ] {E : KEnc P k κ} {F : EEnc X} {w : World} {b n : Nat} {l : List (κ × X)}
def getL (l : List (κ × X)) (x : κ) : Option X := (l.find? fun p => p.1 == x).map Prod.snd
theorem getL_some {l : List (κ × X)} (hn : (l.map Prod.fst).Nodup) {x : κ} {y : X} : getL l x = some y ↔ (x, y) ∈ l := by
  unfold getL
  constructor
  · intro h
    obtain ⟨p, hp, rfl⟩ := Option.map_eq_some_iff.1 h
    have h1 := List.find?_some hp
    have h2 := List.mem_of_find?_eq_some hp
    obtain ⟨a, b⟩ := p
    have : a = x := by simpa using h1
    subst this; exact h2
  · intro h
    induction l with
    | nil => cases h
    | cons p l ih =>
      rw [List.map_cons, List.nodup_cons] at hn
      rw [List.find?_cons]
      rcases List.mem_cons.1 h with rfl | h
      · simp
      · have hne : (p.1 == x) = false := by
          rw [beq_eq_false_iff_ne]; rintro rfl
          exact hn.1 (List.mem_map.2 ⟨(p.1, y), h, rfl⟩)
        rw [hne]; exact ih hn.2 h
theorem getL_none {l : List (κ × X)} {x : κ} : getL l x = none ↔ x ∉ l.map Prod.fst := by
  unfold getL
  rw [Option.map_eq_none_iff, List.find?_eq_none, List.mem_map]
  constructor
  · rintro h ⟨p, hp, rfl⟩; exact h p hp (by simp)
  · intro h p hp he; exact h ⟨p, hp, by simpa using he⟩

theorem LMap.at_ {es : List (Lit × DataW X)} (hpe : es.Perm (l.map fun p => (E.kl p.1, .held p.2))) (hn : (l.map Prod.fst).Nodup) (x : κ) (z : X) :
    (DataW.map es).atKey (E.kl x) (.held z) = .held ((getL l x).getD z) ∧ Maps.has (.map es) (E.kl x) = (getL l x).isSome := by
  cases hg : getL l x with
  | none =>
    have hno : ∀ p ∈ es, p.1.sameKey (E.kl x) = false := by
      intro p hp
      obtain ⟨q, hq, rfl⟩ := List.mem_map.1 (hpe.mem_iff.1 hp)
      apply sameKey_ne
      intro he
      exact getL_none.1 hg (List.mem_map.2 ⟨q, hq, E.inj _ _ he⟩)
    constructor
    · show (match es.find? (fun p => p.1.sameKey (E.kl x)) with | some p => p.2 | none => .held z) = _
      rw [List.find?_eq_none.2 (fun p hp => by rw [hno p hp]; decide)]; rfl
    · rw [Maps.has_eq]
      rw [Option.isSome_none, List.any_eq_false]
      intro p hp; rw [hno p hp]; decide
  | some y =>
    have hin : (E.kl x, DataW.held y) ∈ es := hpe.mem_iff.2 (List.mem_map.2 ⟨(x, y), (getL_some hn).1 hg, rfl⟩)
    constructor
    · show (match es.find? (fun p => p.1.sameKey (E.kl x)) with | some p => p.2 | none => .held z) = _
      cases hf : es.find? (fun p => p.1.sameKey (E.kl x)) with
      | none =>
        have := List.find?_eq_none.1 hf _ hin
        exact absurd (WideAt.sameKey_self (E.key x)) this
      | some p =>
        obtain ⟨p1, p2⟩ := p
        have h1 := List.find?_some hf
        have h2 := List.mem_of_find?_eq_some hf
        obtain rfl : p1 = E.kl x := WideAt.sameKey_eq h1
        obtain ⟨y', rfl, hy'⟩ := mem_es hpe h2
        have := (getL_some hn).2 hy'
        rw [hg] at this
        cases this
        rfl
    · rw [Maps.has_eq, Option.isSome_some, List.any_eq_true]
      exact ⟨_, hin, WideAt.sameKey_self (E.key x)⟩
theorem LMap.look (h : LMap E F w b n l) (ht : P.underlying t = some (.map k e)) {z : X} (hz : ∀ w, (zeroValue e).run P w = .ok (F.ev z) w) {x : κ} (hx : E.ok x) :
    (Instr.lookup t (.map (some b)) (E.kv x) false).run P w = .ok (F.ev ((getL l x).getD z)) w := by
  obtain ⟨es, hD, hpe, hn, _⟩ := h
  obtain ⟨v, ps, hrun, hv⟩ := hD.lookup E.K ht (hz w) (F.lay z) (E.lay x hx)
  rw [(LMap.at_ hpe hn x z).1] at hv
  obtain ⟨y, rfl, hy⟩ := F.inv _ _ hv
  simp only [Prod.mk.injEq, DataW.held.injEq] at hy
  rw [hrun, hy.1]
theorem LMap.look_ok (h : LMap E F w b n l) (ht : P.underlying t = some (.map k e)) {z : X} (hz : ∀ w, (zeroValue e).run P w = .ok (F.ev z) w) {x : κ} (hx : E.ok x) :
    (Instr.lookup t (.map (some b)) (E.kv x) true).run P w = .ok (.tuple #[F.ev ((getL l x).getD z), .bool (getL l x).isSome]) w := by
  obtain ⟨es, hD, hpe, hn, _⟩ := h
  obtain ⟨v, ps, hrun, hv⟩ := hD.look_ok E.K ht (hz w) (F.lay z) (E.lay x hx)
  rw [(LMap.at_ hpe hn x z).1] at hv
  rw [(LMap.at_ hpe hn x z).2] at hrun
  obtain ⟨y, rfl, hy⟩ := F.inv _ _ hv
  simp only [Prod.mk.injEq, DataW.held.injEq] at hy
  rw [hrun, hy.1]
theorem filter_enc (x : κ) (l : List (κ × X)) : (l.map fun p => (E.kl p.1, DataW.held p.2)).filter (fun p => !p.1.sameKey (E.kl x)) = (l.filter fun p => p.1 != x).map fun p => (E.kl p.1, DataW.held p.2) := by
  rw [List.filter_map]
  congr 1
  apply List.filter_congr
  intro p _
  show (!(E.kl p.1).sameKey (E.kl x)) = (p.1 != x)
  by_cases h : p.1 = x
  · subst h; rw [WideAt.sameKey_self (E.key _)]; simp
  · rw [sameKey_ne (fun he => h (E.inj _ _ he))]; simp [bne, h]
/-- 'm[x] = y'. -/
theorem LMap.store (h : LMap E F w b n l) (ht : P.underlying t = some (.map k e)) {x : κ} (hx : E.ok x) (y : X) (hn : n < maxLen) :
    ∃ w', (Instr.mapUpdate t (.map (some b)) (E.kv x) (F.ev y)).run P w = .ok () w' ∧ LMap E F w' b (n + 1) ((x, y) :: l.filter fun p => p.1 != x) ∧ Upd b w w' := by
  obtain ⟨es, hD, hpe, hnd, hok⟩ := h
  obtain ⟨w', hrun, hD', hg⟩ := hD.update E.K ht hn (E.lay x hx) (F.lay y)
  refine ⟨w', hrun, ⟨_, hD', ?_, ?_, ?_⟩, hg⟩
  · refine (Go.WideShapes.insert_perm _ _).trans ?_
    rw [List.map_cons]
    refine List.Perm.cons _ ?_
    rw [← filter_enc]
    exact hpe.filter _
  · rw [List.map_cons, List.nodup_cons]
    refine ⟨?_, nodup_filter hnd _⟩
    rw [List.mem_map]
    rintro ⟨p, hp, he⟩
    have := (List.mem_filter.1 hp).2
    rw [he] at this; simp at this
  · intro p hp
    rcases List.mem_cons.1 hp with rfl | hp
    · exact hx
    · exact hok p (List.mem_filter.1 hp).1
/-- 'delete(m, x)'. -/
theorem LMap.drop (h : LMap E F w b n l) (ht : P.underlying t = some (.map k e)) {x : κ} (hx : E.ok x) (ty : TypeId) :
    ∃ w', (Builtin.delete_ #[t, k] ty #[.map (some b), E.kv x]).run P w = .ok (.tuple #[]) w' ∧ LMap E F w' b n (l.filter fun p => p.1 != x) ∧ Upd b w w' := by
  obtain ⟨es, hD, hpe, hnd, hok⟩ := h
  obtain ⟨w', hrun, hD', hg⟩ := hD.drop E.K ht (E.lay x hx) ty
  refine ⟨w', hrun, ⟨_, hD', ?_, nodup_filter hnd _, fun p hp => hok p (List.mem_filter.1 hp).1⟩, hg.grown⟩
  rw [← filter_enc]
  exact hpe.filter _
/-- 'm[x] = y' at the operation. -/
theorem wpList_lmap_store {ops : Array Oper} {rest : List Oper} {o : Oper} {a : Act} {Q : Exit → Act → World → Prop} (hg : o.guard = none) (mo xo vo : Operand) (hop : o.op = .mapUpdate t mo xo vo) (ht : P.underlying t = some (.map k e))
    (h : LMap E F w b n l) (hm : a.eval mo = .map (some b)) {x : κ} (hx : a.eval xo = E.kv x) (hok : E.ok x) {y : X} (hv : a.eval vo = F.ev y) (hn : n < maxLen)
    (hK : ∀ w', LMap E F w' b (n + 1) ((x, y) :: l.filter fun p => p.1 != x) → Upd b w w' → wpList P ops Q rest (a.put o.dst undef) w') : wpList P ops Q (o :: rest) a w := by
  refine wpList_plain hg fun K' hK' => ?_
  obtain ⟨w', hrun, r1, r2⟩ := h.store ht hok y hn
  unfold Oper.wp
  simp [execOp, hop, hm, hx, hv, hrun, Result.andThen]
  exact hK' _ _ (hK w' r1 r2)
/-- 'delete(m, x)' at the operation. -/
theorem wpList_lmap_drop {ops : Array Oper} {rest : List Oper} {o : Oper} {a : Act} {Q : Exit → Act → World → Prop} (hg : o.guard = none) (mo xo : Operand) (hop : o.op = .call { callee := .builtin .delete, args := #[mo, xo], argTypes := #[t, k] }) (ht : P.underlying t = some (.map k e))
    (h : LMap E F w b n l) (hm : a.eval mo = .map (some b)) {x : κ} (hx : a.eval xo = E.kv x) (hok : E.ok x)
    (hK : ∀ w', LMap E F w' b n (l.filter fun p => p.1 != x) → Upd b w w' → wpList P ops Q rest (a.put o.dst (.tuple #[])) w') : wpList P ops Q (o :: rest) a w := by
  refine wpList_plain hg fun K' hK' => ?_
  obtain ⟨w', hrun, r1, r2⟩ := h.drop ht hok o.type
  unfold Oper.wp
  simp [execOp, resolve, invoke, builtin, hop, hm, hx, hrun, Result.andThen]
  exact hK' _ _ (hK w' r1 r2)

/-- 'range m' at the operation. -/
theorem wpList_lmap_range {ops : Array Oper} {rest : List Oper} {o : Oper} {a : Act} {Q : Exit → Act → World → Prop} (hg : o.guard = none) (mo : Operand) (hop : o.op = .range t mo) (ht : P.underlying t = some (.map k e))
    (h : LMap E F w b n l) (hm : a.eval mo = .map (some b))
    (hK : ∀ w', LRange E F w' b w.heap.size n l l → w.grownBy w' none → w'.heap.size = w.heap.size + 1 → wpList P ops Q rest (a.put o.dst (.pointer (some ⟨w.heap.size, 0, none⟩))) w') : wpList P ops Q (o :: rest) a w := by
  obtain ⟨es, hD, hpe, hnd, hok⟩ := h
  refine wpList_range_own w hg mo t hop k e E.K ht F.R b n _ hm hD fun w' h1 h2 h3 => hK w' ⟨es, _, _, h1, hpe, hnd, hok, fun p hp => ⟨fun _ => hp, fun _ => ?_⟩, fun p hp => hp, hnd⟩ h2 h3
  rw [(LMap.at_ hpe hnd p.1 p.2).2, (getL_some hnd).2 hp]; rfl
/-- 'next' at the operation. -/
theorem wpList_lmap_next {ops : Array Oper} {rest : List Oper} {o : Oper} {a : Act} {Q : Exit → Act → World → Prop} {r : Nat} {lr : List (κ × X)} (hg : o.guard = none) (it : Operand) (hop : o.op = .next it false)
    (hit : a.eval it = .pointer (some ⟨r, 0, none⟩)) (h : LRange E F w b r n l lr)
    (hDone : lr = [] → wpList P ops Q rest (a.put o.dst (.tuple #[.bool false])) w)
    (hMore : ∀ (x : κ) (y : X) (w' : World), (x, y) ∈ lr → LRange E F w' b r n l (lr.filter fun p => p.1 != x) → w'.rangeLeft b r < w.rangeLeft b r → w.grownBy w' (some r) → w'.heap.size = w.heap.size →
      (Instr.entry (.pointer (some ⟨r, 0, none⟩))).run P w' = .ok (.tuple #[E.kv x, F.ev y]) w' → wpList P ops Q rest (a.put o.dst (.tuple #[.bool true, E.kv x, F.ev y])) w') :
    wpList P ops Q (o :: rest) a w := by
  obtain ⟨es, left, cnt, h1, hpe, hnd, hok, hl, hsub, hndr⟩ := h
  refine wpList_next_ranges w hg it hop k E.K F.R E.kv F.ev (fun key kl hk => by obtain ⟨x, h, _⟩ := E.inv key kl hk; exact ⟨x, h⟩) (fun v y hv => by obtain ⟨x, h, _⟩ := F.inv v y hv; exact ⟨x, h⟩) b r n _ left cnt hit h1 ?_ ?_
  · intro _ hno
    refine hDone ?_
    cases lr with
    | nil => rfl
    | cons p lr =>
      have := (hl p (hsub p (by simp))).2 (by simp)
      rw [hno] at this; cases this
  · intro x y kl z w' cnt' hkey hlk hv hat hrg hlt hgr hsz hen
    obtain ⟨x', ex, rfl⟩ := E.inv _ _ hkey
    have hat0 := hat (.held y)
    cases hg : getL l x' with
    | none =>
      have e1 := hrg.owns
      -- such a key isn't there: what is left is there
      obtain ⟨es0, clock, since, seen, c0, hb, Ft, hs, hD, hr, h7, h8, h9, h10, h11⟩ := h1
      obtain ⟨x0, hx0, hk0⟩ := h10 _ hlk
      simp only [DataW.map.injEq] at hD
      have hin : Go.WideElems.rg P k F.R x0 ∈ es := by rw [hD]; exact Go.mem_sorted.2 (List.mem_map_of_mem hx0)
      obtain ⟨q, hq, hqe⟩ := List.mem_map.1 (hpe.mem_iff.1 hin)
      rw [← hqe] at hk0
      exact absurd (List.mem_map.2 ⟨q, hq, E.inj _ _ hk0⟩) (getL_none.1 hg)
    | some y' =>
      have hin := (getL_some hnd).1 hg
      have hlr := (hl _ hin).1 hlk
      rw [(LMap.at_ hpe hnd x' y).1, hg] at hat0
      obtain ⟨y2, ey, rfl⟩ := F.inv _ _ hv
      simp only [Option.getD_some, DataW.held.injEq] at hat0
      subst hat0
      rw [ex] at hen ⊢
      rw [ey] at hen ⊢
      have hrg' : LRange E F w' b r n l (lr.filter fun p => p.1 != x') := by
        refine ⟨es, _, cnt', hrg, hpe, hnd, hok, fun p hp => ?_, fun p hp => hsub p (List.mem_filter.1 hp).1, nodup_filter hndr _⟩
        rw [List.mem_filter, Bool.and_eq_true, hl p hp]
        have : (!(E.kl p.1).sameKey (E.kl x')) = (p.1 != x') := by
          by_cases h : p.1 = x'
          · rw [h, WideAt.sameKey_self (E.key _)]; simp
          · rw [sameKey_ne (fun he => h (E.inj _ _ he))]; simp [bne, h]
        rw [this]
      exact hMore x' y' w' hlr hrg' (by rw [hrg.left_eq, h1.left_eq]; exact hlt) hgr hsz hen
end
section
variable {P : Program} {k : TypeId} {q : IntKind}
/-- Keys of an integer kind. -/
def intKeys (hk : P.underlying k = some (.int q)) : KEnc P k Int where
  kv := .int q
  kl := .int q
  ok x := (Lit.int q x).wf = true
  K := int_keyed hk
  lay x hx := keyOf_int_mk hk hx
  inv v l h := by obtain ⟨x, h1, h2, _⟩ := Maps.keyOf_int_inv hk h; exact ⟨x, h1, h2⟩
  inj x y h := (Lit.int.inj h).2
  key x := trivial
def strElems : EEnc ByteArray where
  ev := .string
  R v := match v with | .string s => some (.held s, []) | _ => none
  lay x := rfl
  inv v z h := by
    cases v <;> simp at h
    exact ⟨_, rfl, h.symm⟩
def mapElems : EEnc (Option Nat) where
  ev := .map
  R v := match v with | .map o => some (.held o, []) | _ => none
  lay x := rfl
  inv v z h := by
    cases v <;> simp at h
    exact ⟨_, rfl, h.symm⟩
def intElems (q : IntKind) : EEnc Int where
  ev := .int q
  R v := match v with | .int q' x => if q' = q then some (.held x, []) else none | _ => none
  lay x := by simp
  inv v z h := by
    cases v <;> simp at h
    obtain ⟨rfl, rfl⟩ := h
    exact ⟨_, rfl, rfl⟩
end
end Go.Proofs.Ytemfecdpjegocaa
