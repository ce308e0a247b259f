/- The document's Ids: rising, each once. -/
import Derived.Test.YtemfecdpjegocaaDocJoin
import Derived.Test.YtemfecdpjegocaaOpen
namespace Go.Proofs.Ytemfecdpjegocaa
open Go.RowKit Go.Maps
set_option linter.unusedVariables false
set_option linter.unusedSimpArgs false

/-- The slice v of ints, made by the call itself. -/
def OwnZ (w : World) (B : Nat) (e : TypeId) (v : Value) (l : List Int) : Prop := w.ownsRow B e 1 v l.length (l.map (Value.int .i64))
theorem OwnZ.nil (w : World) (B : Nat) (e : TypeId) : OwnZ w B e (.slice none 0 0) [] := World.ownsRow_nil w B e 1
theorem OwnZ.ints {w : World} {B : Nat} {e : TypeId} {v : Value} {l : List Int} (h : OwnZ w B e v l) : IntsAt w v l := IntsAt.of_row h
structure IntTypes (P : Program) (t e : TypeId) : Prop where
  ht : P.underlying t = some (.slice e)
  hi : (P.info? e).map (fun i => (i.zero, i.size, i.bytes)) = some (some (.int .i64 0), 1, 8)
theorem info_z {P : Program} {e : TypeId} (h : (P.info? e).map (fun i => (i.zero, i.size, i.bytes)) = some (some (.int .i64 0), 1, 8)) : ∃ i, P.info? e = some i ∧ i.zero = some (.int .i64 0) ∧ i.size = 1 ∧ i.bytes = 8 := by
  cases hi : P.info? e with
  | none => rw [hi] at h; cases h
  | some i => rw [hi] at h; simp at h; exact ⟨i, rfl, h.1, h.2.1, h.2.2⟩
theorem int_types : IntTypes Try.prog 80 3 := ⟨Try.underlying80, by kernel_rfl⟩
/-- 'append(l, x)' of an int onto a slice that the call made. -/
theorem append_int {P : Program} {t e : TypeId} (T : IntTypes P t e) {ops : Array Oper} {rest : List Oper} {o : Oper} {a : Act} {Q : Exit → Act → World → Prop} (hgd : o.guard = none) (x y : Operand)
    (ho : o.op = .call { callee := .builtin .append, args := #[x, y], argTypes := #[t, t] })
    (B : Nat) (v : Value) (l : List Int) (z : Int) (w : World) (hx : a.eval x = v) (hown : OwnZ w B e v l)
    (hy : a.eval y = .slice (some ⟨w.heap.size, 0, none⟩) 1 1) (hlen : l.length + 1 ≤ 1000000) (hB : B ≤ w.heap.size)
    (h : ∀ v' w', OwnZ w' B e v' (l ++ [z]) → Below B w w' → wpList P ops Q rest (a.put o.dst v') w') :
    wpList P ops Q (o :: rest) a (w.alloc (.cells #[.int .i64 z] e)) := by
  obtain ⟨i0, hi, hz0, hz1, hz2⟩ := info_z T.hi
  refine wpList_append_own _ hgd x y t ho B e i0 (.int .i64 0) 1 8 T.ht hi hz0 hz1 hz2 rfl (by decide) v l.length (l.map (Value.int .i64)) hx (World.ownsRow.alloc hown _)
    ⟨w.heap.size, 0, none⟩ 1 1 [.int .i64 z] hy rfl ?_ (by intro u hu; simp at hu; subst hu; rfl) (by unfold maxLen; omega) (by omega) (by simp; omega) ?_
  · intro j u hj
    have e1 : (⟨w.heap.size, 0, none⟩ : Addr).add j = ⟨w.heap.size, j, none⟩ := by unfold Addr.add; split <;> simp_all
    rw [e1, World.cell?_alloc_mark w #[.int .i64 z] e (0, 0) j, ← hj]
    simp
  · intro v' w' h1 h2 _
    refine h v' w' ?_ ?_
    · show w'.ownsRow B e 1 v' (l ++ [z]).length ((l ++ [z]).map (Value.int .i64))
      rw [List.length_append, List.map_append]; exact h1
    · refine ((Below.refl B w).alloc hB _).grown h2 (by simp; omega) fun j hj => ?_
      exact (World.ownsRow.lt hown j hj).1

/-- The ids, rising. -/
theorem sortI_mem (l : List Int) (x : Int) : x ∈ sortI l ↔ x ∈ l := (List.mergeSort_perm l _).mem_iff
theorem sortI_lt {l : List Int} (hn : l.Nodup) : (sortI l).Pairwise (· < ·) := by
  have s1 := List.pairwise_mergeSort (le := fun x y : Int => decide (x ≤ y)) (by intro a b c; simp; omega) (by intro a b; simp; omega) l
  have s2 : (sortI l).Nodup := (List.mergeSort_perm l _).nodup_iff.2 hn
  rw [List.nodup_iff_pairwise_ne] at s2
  refine (s1.and s2).imp ?_
  rintro a b ⟨h1, h2⟩
  simp at h1
  omega
def thrI (S : List Int) (m : Nat) : Int := if m = 0 then -1 else S.getD (m - 1) 0
/-- The least id above thr among the parts K; -1. -/
def Best (thr : Int) (K : List Pt) (b : Int) : Prop := (b = -1 ∧ ∀ p ∈ K, ¬ thr < p.id) ∨ (0 ≤ b ∧ thr < b ∧ (∃ p ∈ K, p.id = b) ∧ ∀ p ∈ K, thr < p.id → b ≤ p.id)
theorem Best.bound {thr : Int} {K : List Pt} {b : Int} (h : Best thr K b) (hK : ∀ p ∈ K, 0 ≤ p.id ∧ p.id ≤ 2147483647) : -1 ≤ b ∧ b ≤ 2147483647 := by
  rcases h with ⟨rfl, _⟩ | ⟨h0, _, ⟨p, hp, rfl⟩, _⟩
  · omega
  · have := hK p hp; omega
theorem Best.nil (thr : Int) : Best thr [] (-1) := .inl ⟨rfl, fun p hp => by cases hp⟩
theorem Best.take {thr : Int} {K : List Pt} {b : Int} {p : Pt} (h : Best thr K b) (h0 : 0 ≤ p.id) (h1 : thr < p.id) (h2 : b < 0 ∨ p.id < b) : Best thr (K ++ [p]) p.id := by
  refine .inr ⟨h0, h1, ⟨p, by simp, rfl⟩, fun q hq hlt => ?_⟩
  rcases List.mem_append.1 hq with hq | hq
  · rcases h with ⟨_, hn⟩ | ⟨hb, _, _, hmin⟩
    · exact absurd hlt (hn q hq)
    · have := hmin q hq hlt; omega
  · simp at hq; subst hq; omega
theorem Best.pass {thr : Int} {K : List Pt} {b : Int} {p : Pt} (h : Best thr K b) (h1 : ¬ thr < p.id ∨ (0 ≤ b ∧ b ≤ p.id)) : Best thr (K ++ [p]) b := by
  rcases h with ⟨rfl, hn⟩ | ⟨hb, ht, ⟨q, hq, he⟩, hmin⟩
  · refine .inl ⟨rfl, fun q hq => ?_⟩
    rcases List.mem_append.1 hq with hq | hq
    · exact hn q hq
    · simp at hq; subst hq
      rcases h1 with h1 | h1
      · exact h1
      · omega
  · refine .inr ⟨hb, ht, ⟨q, by simp [hq], he⟩, fun r hr hlt => ?_⟩
    rcases List.mem_append.1 hr with hr | hr
    · exact hmin r hr hlt
    · simp at hr; subst hr
      rcases h1 with h1 | h1
      · exact absurd hlt h1
      · exact h1.2
theorem best_end {L : List Pt} {m : Nat} {b : Int} (hL : ∀ p ∈ L, 0 ≤ p.id) (hm : m ≤ (sortI (idsL L)).length) (h : Best (thrI (sortI (idsL L)) m) L b) :
    (b = -1 ∧ m = (sortI (idsL L)).length) ∨ ((0 ≤ b) ∧ m < (sortI (idsL L)).length ∧ (sortI (idsL L)).take m ++ [b] = (sortI (idsL L)).take (m + 1)) := by
  have hlt := sortI_lt (nodup_idsL L)
  have hmem : ∀ x, x ∈ sortI (idsL L) ↔ ∃ p ∈ L, p.id = x := fun x => (sortI_mem _ x).trans (mem_idsL L x)
  generalize sortI (idsL L) = S at *
  have hord : ∀ i j (hi : i < S.length) (hj : j < S.length), i < j → S[i] < S[j] := fun i j hi hj hij => List.pairwise_iff_getElem.1 hlt i j hi hj hij
  have hthr : ∀ j (hj : j < S.length), m ≤ j → thrI S m < S[j] := fun j hj hmj => by
    unfold thrI
    split
    · obtain ⟨p, hp, he⟩ := (hmem S[j]).1 (List.getElem_mem hj)
      have := hL p hp; omega
    · rw [List.getD_eq_getElem?_getD, List.getElem?_eq_getElem (by omega)]
      exact hord _ _ _ _ (by omega)
  have hthr2 : ∀ j (hj : j < S.length), thrI S m < S[j] → m ≤ j := fun j hj h => by
    unfold thrI at h
    split at h
    · omega
    · rw [List.getD_eq_getElem?_getD, List.getElem?_eq_getElem (by omega)] at h
      simp only [Option.getD_some] at h
      rcases Nat.lt_or_ge j m with hc | hc
      · rcases Nat.lt_or_ge j (m - 1) with hc2 | hc2
        · have := hord j (m - 1) hj (by omega) hc2; omega
        · have : j = m - 1 := by omega
          subst this; omega
      · exact hc
  rcases h with ⟨rfl, hn⟩ | ⟨hb, ht, ⟨p, hp, rfl⟩, hmin⟩
  · refine .inl ⟨rfl, ?_⟩
    rcases Nat.lt_or_ge m S.length with hc | hc
    · obtain ⟨p, hp, he⟩ := (hmem S[m]).1 (List.getElem_mem hc)
      have := hn p hp
      rw [he] at this
      exact absurd (hthr m hc (Nat.le_refl _)) this
    · omega
  · obtain ⟨j, hj, he⟩ := List.getElem_of_mem ((hmem p.id).2 ⟨p, hp, rfl⟩)
    have hmj := hthr2 j hj (by rw [he]; exact ht)
    have hmS : m < S.length := by omega
    obtain ⟨q, hq, hqe⟩ := (hmem S[m]).1 (List.getElem_mem hmS)
    have h1 := hmin q hq (by rw [hqe]; exact hthr m hmS (Nat.le_refl _))
    have h2 : m = j := by
      rcases Nat.lt_or_ge m j with hc | hc
      · have := hord m j hmS hj hc; omega
      · omega
    subst h2
    refine .inr ⟨hb, hmS, ?_⟩
    rw [← he, List.take_append_getElem hmS]
end Go.Proofs.Ytemfecdpjegocaa
