/- Tokens: those of an item; what a stack of rows still has; an iterator's stack of rows in memory. -/
import Derived.Test.YtopfpfpefljkkaaRlpStack
import Derived.Test.YtopfpfpefljkkaaRangeM
namespace Go.Proofs.Ytopfpfpefljkkaa
open Go.RowKit
set_option linter.unusedVariables false
set_option linter.unusedSimpArgs false

structure Tk where
  kind : Int
  text : ByteArray
def tkf (t : Tk) : List Value := [.int .i64 t.kind, .string t.text]
theorem tkf_len (t : Tk) : (tkf t).length = 2 := rfl
def tOpen : Tk := ⟨1, ⟨#[]⟩⟩
def tShut : Tk := ⟨2, ⟨#[]⟩⟩
def tWord (a : IL) : Tk := ⟨3, txt a⟩
mutual
def toks : Rose IL → List Tk
  | .node a s => if a.list then tOpen :: (toksL s ++ [tShut]) else [tWord a]
def toksL : List (Rose IL) → List Tk
  | [] => []
  | x :: xs => toks x ++ toksL xs
end
theorem toksL_nil : toksL [] = [] := by simp only [toksL]
theorem toksL_cons (x : Rose IL) (xs : List (Rose IL)) : toksL (x :: xs) = toks x ++ toksL xs := by simp only [toksL]
theorem toksL_append (s t : List (Rose IL)) : toksL (s ++ t) = toksL s ++ toksL t := by
  induction s with
  | nil => simp [toksL]
  | cons x s ih => rw [List.cons_append, toksL_cons, toksL_cons, ih, List.append_assoc]
theorem toks_word {x : Rose IL} (h : x.lab.list = false) : toks x = [tWord x.lab] := by
  cases x with
  | node a s => simp only [Rose.lab] at h; simp only [toks, h]; simp
theorem toks_list {x : Rose IL} (h : x.lab.list = true) : toks x = tOpen :: (toksL x.sub ++ [tShut]) := by
  cases x with
  | node a s => simp only [Rose.lab] at h; simp only [toks, h, Rose.sub]; simp
/-- At most two tokens for each item. -/
theorem toks_le (x : Rose IL) : (toks x).length ≤ 2 * x.count ∧ 0 < (toks x).length := by
  refine Rose.ind (P := fun x => (toks x).length ≤ 2 * x.count ∧ 0 < (toks x).length) (fun a s ih => ?_) x
  have hL : ∀ (s : List (Rose IL)), (∀ x, x ∈ s → (toks x).length ≤ 2 * x.count ∧ 0 < (toks x).length) → (toksL s).length ≤ 2 * Rose.countL s := by
    intro s
    induction s with
    | nil => intro _; simp [toksL]
    | cons x s ih =>
      intro h
      rw [toksL_cons, List.length_append]
      have h1 := (h x List.mem_cons_self).1
      have h2 := ih fun y hy => h y (List.mem_cons_of_mem _ hy)
      simp only [Rose.countL]
      omega
  have := hL s ih
  simp only [toks, Rose.count]
  split
  · simp; omega
  · simp; omega

theorem toksL_le (s : List (Rose IL)) : (toksL s).length ≤ 2 * Rose.countL s := by
  induction s with
  | nil => simp [toksL]
  | cons x s ih =>
    rw [toksL_cons, List.length_append]
    have h1 := (toks_le x).1
    simp only [Rose.countL]
    omega
theorem toksL_take {s : List (Rose IL)} {i : Nat} {x : Rose IL} (h : s[i]? = some x) : toksL (s.take (i + 1)) = toksL (s.take i) ++ toks x := by
  rw [List.take_add_one, h, toksL_append]
  simp [toksL]

/-- What a stack of rows still has, the inmost row first. -/
def flatS : List (List (Rose IL)) → List Tk
  | [] => []
  | [r] => toksL r
  | r :: r2 :: rs => toksL r ++ tShut :: flatS (r2 :: rs)
theorem flatS_nil_one : flatS [[]] = [] := by simp [flatS, toksL]
theorem flatS_nil {rs : List (List (Rose IL))} (h : rs ≠ []) : flatS ([] :: rs) = tShut :: flatS rs := by
  cases rs with
  | nil => exact absurd rfl h
  | cons r rs => simp [flatS, toksL]
theorem flatS_word {x : Rose IL} {xs : List (Rose IL)} {rs : List (List (Rose IL))} (h : x.lab.list = false) : flatS ((x :: xs) :: rs) = tWord x.lab :: flatS (xs :: rs) := by
  cases rs with
  | nil => simp [flatS, toksL_cons, toks_word h]
  | cons r rs => simp [flatS, toksL_cons, toks_word h]
theorem flatS_list {x : Rose IL} {xs : List (Rose IL)} {rs : List (List (Rose IL))} (h : x.lab.list = true) : flatS ((x :: xs) :: rs) = tOpen :: flatS (x.sub :: xs :: rs) := by
  cases rs with
  | nil => simp [flatS, toksL_cons, toks_list h]
  | cons r rs => simp [flatS, toksL_cons, toks_list h]
theorem flatS_length : ∀ (st : List (List (Rose IL))), st.length ≤ (flatS st).length + 1
  | [] => by simp
  | [r] => by simp
  | r :: r2 :: rs => by
    have := flatS_length (r2 :: rs)
    simp only [flatS, List.length_append, List.length_cons] at this ⊢
    omega
/-- How much is left to do. -/
def leftS : List (List (Rose IL)) → Nat
  | [] => 0
  | r :: rs => 1 + 2 * Rose.countL r + leftS rs

theorem drop_cons {α : Type} {T : List α} {k : Nat} {x : α} {r : List α} (h : T.drop k = x :: r) : k < T.length ∧ T[k]? = some x ∧ T.drop (k + 1) = r := by
  have hk : k < T.length := by
    rcases Nat.lt_or_ge k T.length with h' | h'
    · exact h'
    · rw [List.drop_eq_nil_of_le h'] at h; cases h
  have h2 := List.drop_eq_getElem_cons hk
  rw [h2] at h
  injection h with h3 h4
  exact ⟨hk, by rw [List.getElem?_eq_getElem hk, h3], h4⟩

/-- A row: its slice, what it has. -/
structure Fv where
  v : Value
  rows : List (Rose IL)
def fvf (y : Fv) : List Value := [y.v]
theorem fvf_len (y : Fv) : (fvf y).length = 1 := rfl
abbrev ST : TypeId := 23
abbrev CT : TypeId := 85
theorem st_row : RowTypes Try.prog CT ST 1 := ⟨Try.underlying85, ⟨.slice none 0 0, 24, by
  obtain ⟨i, h1, h2, h3, h4⟩ := info_parts (show (Try.prog.info? ST).map (fun i => (i.zero, i.size, i.bytes)) = some (some (.slice none 0 0), 1, 24) by kernel_rfl)
  exact ⟨i, h1, h2, h3, h4, by decide, rfl⟩⟩, by decide⟩

/-- The first element of a row, and the rest. -/
theorem ISubsQ.pop {w : World} {Q : Nat → Prop} {v : Value} {x : Rose IL} {xs : List (Rose IL)} (h : ISubsQ w Q v (x :: xs)) :
    ∃ b off cap u, v = .slice (some ⟨b, off, none⟩) (xs.length + 1) (cap + 1) ∧ b < w.heap.size ∧ Q b ∧ (w.cell? ⟨b, off, none⟩ = some (.string (txt x.lab)) ∧ w.cell? ⟨b, off + 1, none⟩ = some (.bool x.lab.list) ∧ w.cell? ⟨b, off + 2, none⟩ = some u) ∧
      ISubsQ w Q u x.sub ∧ x.lab.text.length ≤ maxLen ∧ xs.length ≤ cap ∧ cap + 1 ≤ maxLen ∧ ISubsQ w Q (.slice (if cap = 0 then some ⟨b, off, none⟩ else some ⟨b, off + 3, none⟩) xs.length cap) xs := by
  obtain ⟨oa, cap, hv, h1, h2, h3⟩ := h
  obtain ⟨b, off, rfl, hb, hq, hr⟩ := h3 (by simp)
  simp only [List.length_cons] at h1 hv
  obtain ⟨c, rfl⟩ : ∃ c, cap = c + 1 := ⟨cap - 1, by omega⟩
  simp only [Shape.RowAt] at hr
  obtain ⟨hn, hr⟩ := hr
  cases x with
  | node a s =>
    simp only [Shape.NodeAt] at hn
    obtain ⟨ho, u, hc, hu⟩ := hn
    refine ⟨b, off, c, u, hv, hb, hq, ⟨?_, ?_, ?_⟩, hu, ho, by omega, h2, ?_⟩
    · simpa [ishape, txt] using hc 0 (by decide)
    · simpa [ishape] using hc 1 (by decide)
    · simpa [ishape] using hc 2 (by decide)
    · refine ⟨_, c, rfl, by omega, by omega, fun hp => ⟨b, off + 3, ?_, hb, hq, hr⟩⟩
      rw [if_neg (by omega)]

/-- The iterator's stack, the inmost row first: in blocks of its own. -/
structure EachM (D b1 : Nat) (st : List Fv) (M : Nat → Prop) (cv : Value) (w : World) : Prop where
  row : OwnG fvf 1 w D ST cv st.reverse
  mine : ∀ b, cv.ownBlock = some b → M b ∧ b ≠ b1
  mb : M b1
  db : D ≤ b1
  lt : b1 < w.heap.size
  sub : ∀ y, y ∈ st → ISubsQ w (fun c => c < D ∨ c = b1) y.v y.rows
theorem EachM.keep {D b1 : Nat} {st : List Fv} {M M' : Nat → Prop} {cv : Value} {w w' : World} (h : EachM D b1 st M cv w) (hk : KpM D M w w') (hM : ∀ b, M b → M' b) : EachM D b1 st M' cv w' :=
  ⟨h.row.keep fun b hb => hk.2 b (h.row.block b hb).2.1 (.inr (h.mine b hb).1), fun b hb => ⟨hM _ (h.mine b hb).1, (h.mine b hb).2⟩, hM _ h.mb, h.db, Nat.lt_of_lt_of_le h.lt hk.1,
    fun y hy => Shape.Subs.keep (h.sub y hy) hk.1 (fun _ _ h => h) fun c hc hq => hk.2 c hc (hq.elim .inl fun e => .inr (e ▸ h.mb))⟩
/-- The inmost row is over. -/
theorem EachM.cut {D b1 : Nat} {y : Fv} {ys : List Fv} {M : Nat → Prop} {g n cap : Nat} {w : World} (h : EachM D b1 (y :: ys) M (.slice (some ⟨g, 0, none⟩) n cap) w) : EachM D b1 ys M (.slice (some ⟨g, 0, none⟩) ys.length cap) w := by
  refine ⟨?_, h.mine, h.mb, h.db, h.lt, fun z hz => h.sub z (List.mem_cons_of_mem _ hz)⟩
  have := h.row.cut fvf_len (m := ys.length) (by simp)
  rwa [List.reverse_cons, List.take_left' (by simp)] at this
/-- The inmost row goes on by one. -/
theorem EachM.next {D b1 : Nat} {v v' : Value} {x : Rose IL} {xs : List (Rose IL)} {ys : List Fv} {M : Nat → Prop} {g n cap : Nat} {w w' : World} (h : EachM D b1 (⟨v, x :: xs⟩ :: ys) M (.slice (some ⟨g, 0, none⟩) n cap) w)
    (hs : ISubsQ w (fun c => c < D ∨ c = b1) v' xs) (hg : Below w.heap.size w w') :
    EachM D b1 (⟨v', xs⟩ :: ys) (fun b => M b ∨ (w.heap.size ≤ b ∧ b < w'.heap.size)) (.slice (some ⟨g, 0, none⟩) n cap) (w'.setCell ⟨g, ys.length, none⟩ v') := by
  have hrow := h.row.below hg
  have hgb : D ≤ g ∧ g ≠ b1 := ⟨(h.row.block g rfl).1, (h.mine g rfl).2⟩
  have e1 : (⟨v, x :: xs⟩ :: ys : List Fv).reverse[ys.length]? = some ⟨v, x :: xs⟩ := by simp
  have h2 := hrow.set fvf_len e1 (j := 0) (x := v') (z := ⟨v', xs⟩) (by decide) rfl
  have e2 : (⟨v, x :: xs⟩ :: ys : List Fv).reverse.set ys.length ⟨v', xs⟩ = (⟨v', xs⟩ :: ys : List Fv).reverse := by simp
  rw [e2, Nat.mul_one, Nat.add_zero] at h2
  have hsub : ∀ {s : List (Rose IL)} {u : Value}, ISubsQ w (fun c => c < D ∨ c = b1) u s → ISubsQ (w'.setCell ⟨g, ys.length, none⟩ v') (fun c => c < D ∨ c = b1) u s := fun hs =>
    Shape.Subs.keep hs (by simp [World.setCell]; exact hg.size) (fun _ _ h => h) fun c hc hq => by
      rw [Below.heap_setCell _ _ _ _ (show c ≠ g by rintro rfl; rcases hq with hq | hq <;> omega)]
      exact hg.block c hc
  refine ⟨h2, fun b hb => ⟨.inl (h.mine b hb).1, (h.mine b hb).2⟩, .inl h.mb, h.db, by simp [World.setCell]; exact Nat.lt_of_lt_of_le h.lt hg.size, fun z hz => ?_⟩
  rcases List.mem_cons.1 hz with rfl | hz
  · exact hsub hs
  · exact hsub (h.sub z (List.mem_cons_of_mem _ hz))
/-- A row is put upon the others. -/
theorem EachM.push {D b1 g cap : Nat} {y : Fv} {ys : List Fv} {M : Nat → Prop} {cv : Value} {w w' : World} (h : EachM D b1 ys M cv w) (hy : ISubsQ w (fun c => c < D ∨ c = b1) y.v y.rows)
    (hrow : OwnG fvf 1 w' D ST (.slice (some ⟨g, 0, none⟩) (ys.reverse.length + 1) cap) (ys.reverse ++ [y])) (hg : w.grownBy w' cv.ownBlock) (hat : cv.ownBlock = some g ∨ w.heap.size ≤ g) (hgl : g < w'.heap.size) :
    EachM D b1 (y :: ys) (fun b => M b ∨ (w.heap.size ≤ b ∧ b < w'.heap.size)) (.slice (some ⟨g, 0, none⟩) (ys.length + 1) cap) w' := by
  have hlt := h.lt
  have hsub : ∀ {s : List (Rose IL)} {u : Value}, ISubsQ w (fun c => c < D ∨ c = b1) u s → ISubsQ w' (fun c => c < D ∨ c = b1) u s := fun hs =>
    Shape.Subs.keep hs hg.size (fun _ _ h => h) fun c hc hq => hg.block c hc fun e => by
      have h1 := h.mine c e.symm
      have h2 := (h.row.block c e.symm).1
      rcases hq with hq | hq
      · omega
      · exact h1.2 hq
  refine ⟨?_, fun b hb => ?_, .inl h.mb, h.db, Nat.lt_of_lt_of_le hlt hg.size, fun z hz => ?_⟩
  · rw [List.reverse_cons]
    simpa using hrow
  · simp [Value.ownBlock] at hb
    subst hb
    rcases hat with hat | hat
    · exact ⟨.inl (h.mine _ hat).1, (h.mine _ hat).2⟩
    · exact ⟨.inr ⟨hat, hgl⟩, by omega⟩
  · rcases List.mem_cons.1 hz with rfl | hz
    · exact hsub hy
    · exact hsub (h.sub z hz)
end Go.Proofs.Ytopfpfpefljkkaa
