/- Package schema, without the program: what a type is, what reading and parsing compute, and that both are one. -/
import Derived.Test.YtopfpfpefljkkaaDoorRose
namespace Go.Proofs.YtopfpfpefljkkaaDoor
set_option linter.unusedVariables false

/-- What a type bears beside those within. -/
structure TL where
  kind : Int
  size : Int
  tail : Int
  deriving DecidableEq

def TL.wf (a : TL) : Prop := (Lit.int .i64 a.kind).wf = true ∧ (Lit.int .i64 a.size).wf = true ∧ (Lit.int .i64 a.tail).wf = true
def tshape : Shape TL := ⟨4, fun a v => [.int .i64 a.kind, .int .i64 a.size, v, .int .i64 a.tail], TL.wf, fun _ _ => rfl⟩
def teq (a b : TL) : Bool := a.kind == b.kind && a.size == b.size && a.tail == b.tail
/-- Is a type right by its kind? -/
def rightK (a : TL) (n : Nat) : Bool :=
  decide ((a.kind = 1 ∧ (a.size = 1 ∨ a.size = 2 ∨ a.size = 4 ∨ a.size = 8) ∧ n = 0 ∧ a.tail = 0) ∨ (a.kind = 2 ∧ 1 ≤ a.size ∧ a.size ≤ 65536 ∧ n = 0 ∧ a.tail = 0) ∨
    (a.kind = 3 ∧ 0 ≤ a.size ∧ a.size ≤ 65536 ∧ n = 0 ∧ a.tail = 0) ∨ (a.kind = 4 ∧ 0 ≤ a.size ∧ a.size ≤ 1024 ∧ n = 1 ∧ a.tail = 0) ∨ (a.kind = 5 ∧ a.size = 0 ∧ n ≤ 16 ∧ 0 ≤ a.tail ∧ a.tail ≤ n))
def right1 (a : TL) (s : List (Rose TL)) : Bool := rightK a s.length
def mayT (x : Rose TL) : Bool := decide (x.count ≤ 64) && decide (x.deep ≤ 8) && x.all right1

/-! ### Numbers -/
def isDig (b : UInt8) : Bool := decide (48 ≤ b.toNat) && decide (b.toNat ≤ 57)
def digs : List UInt8 → List UInt8
  | [] => []
  | b :: r => if isDig b then b :: digs r else []
def past : List UInt8 → List UInt8
  | [] => []
  | b :: r => if isDig b then past r else b :: r
def valD (ds : List UInt8) : Nat := ds.foldl (fun n b => 10 * n + (b.toNat - 48)) 0
def wellD (ds : List UInt8) : Bool := match ds with
  | [] => false
  | [_] => true
  | b :: _ => decide (b.toNat ≠ 48)
/-- A number of at most so much. -/
def num (most : Nat) (l : List UInt8) : Option (Nat × List UInt8) := if wellD (digs l) && decide (valD (digs l) ≤ most) then some (valD (digs l), past l) else none
/-- The document's digits: a number is cut at a million. -/
def valC (ds : List UInt8) : Nat := ds.foldl (fun n b => if n < 1000000 then 10 * n + (b.toNat - 48) else n) 0
def numC (l : List UInt8) : Option (Nat × List UInt8) := if wellD (digs l) then some (valC (digs l), past l) else none

/-! ### The program reads -/
def lbl (x : Rose TL) : TL := x.lab
/-- What stands ahead of a field: is it one that may lack? -/
def mark (l : List UInt8) (tail : Nat) : Option (List UInt8 × Nat) := match l with
  | 63 :: r => some (r, tail + 1)
  | l => if 0 < tail then none else some (l, tail)
def flds (rdf : List UInt8 → Nat → Option (Rose TL × List UInt8 × Nat)) : Nat → List UInt8 → Nat → List (Rose TL) → Nat → Option (Rose TL × List UInt8 × Nat)
  | 0, _, _, _, _ => none
  | f + 1, l, n, sub, tail => (mark l tail).bind fun q => (rdf q.1 n).bind fun y => match y.2.1 with
    | 125 :: r => some (.node ⟨5, 0, q.2⟩ (sub ++ [y.1]), r, y.2.2)
    | 44 :: r => flds rdf f r y.2.2 (sub ++ [y.1]) q.2
    | _ => none
def rd : Nat → List UInt8 → Nat → Option (Rose TL × List UInt8 × Nat)
  | 0, _, _ => none
  | d + 1, l, n => if n = 0 then none else match l with
    | [] => none
    | b :: r =>
      if b = 117 then (num 64 r).bind fun q => if q.1 % 8 = 0 then some (.node ⟨1, (q.1 / 8 : Nat), 0⟩ [], q.2, n - 1) else none
      else if b = 98 then (num 65536 r).bind fun q => some (.node ⟨2, q.1, 0⟩ [], q.2, n - 1)
      else if b = 115 then (num 65536 r).bind fun q => some (.node ⟨3, q.1, 0⟩ [], q.2, n - 1)
      else if b = 91 then (rd d r (n - 1)).bind fun y => match y.2.1 with
        | 58 :: r2 => (num 1024 r2).bind fun q => match q.2 with
          | 93 :: r4 => some (.node ⟨4, q.1, 0⟩ [y.1], r4, y.2.2)
          | _ => none
        | _ => none
      else if b = 123 then match r with
        | 125 :: r1 => some (.node ⟨5, 0, 0⟩ [], r1, n - 1)
        | _ => flds (rd d) (n + 1) r (n - 1) [] 0
      else none

/-! ### The document parses -/
def pflds (pf : List UInt8 → Option (Rose TL × List UInt8)) : Nat → List UInt8 → List (Rose TL) → Nat → Option (Rose TL × List UInt8)
  | 0, _, _, _ => none
  | f + 1, l, sub, tail => match l with
    | [] => none
    | b :: r => if b = 125 then some (.node ⟨5, 0, tail⟩ sub, r) else
      (if sub.isEmpty then some l else if b = 44 then some r else none).bind fun l1 => (mark l1 tail).bind fun q => (pf q.1).bind fun y => pflds pf f y.2 (sub ++ [y.1]) q.2
def ps : Nat → List UInt8 → Option (Rose TL × List UInt8)
  | 0, _ => none
  | d + 1, l => match l with
    | [] => none
    | b :: r =>
      if b = 117 then (numC r).bind fun q => if q.1 % 8 = 0 then some (.node ⟨1, (q.1 / 8 : Nat), 0⟩ [], q.2) else none
      else if b = 98 then (numC r).bind fun q => some (.node ⟨2, q.1, 0⟩ [], q.2)
      else if b = 115 then (numC r).bind fun q => some (.node ⟨3, q.1, 0⟩ [], q.2)
      else if b = 91 then (ps d r).bind fun y => match y.2 with
        | 58 :: r2 => (numC r2).bind fun q => match q.2 with
          | 93 :: r4 => some (.node ⟨4, q.1, 0⟩ [y.1], r4)
          | _ => none
        | _ => none
      else if b = 123 then pflds (ps d) (r.length + 1) r [] 0
      else none

/-! ### Both are one -/
theorem foldl_ge (ds : List UInt8) (a : Nat) : a ≤ ds.foldl (fun n b => 10 * n + (b.toNat - 48)) a := by
  induction ds generalizing a with
  | nil => simp
  | cons b r ih => simp only [List.foldl_cons]; exact Nat.le_trans (by omega) (ih _)
theorem foldC_stop (ds : List UInt8) (a : Nat) (h : 1000000 ≤ a) : ds.foldl (fun n b => if n < 1000000 then 10 * n + (b.toNat - 48) else n) a = a := by
  induction ds generalizing a with
  | nil => rfl
  | cons b r ih => simp only [List.foldl_cons]; rw [if_neg (by omega)]; exact ih a h
theorem foldC_eq (ds : List UInt8) (a : Nat) (h : ds.foldl (fun n b => 10 * n + (b.toNat - 48)) a < 1000000) :
    ds.foldl (fun n b => if n < 1000000 then 10 * n + (b.toNat - 48) else n) a = ds.foldl (fun n b => 10 * n + (b.toNat - 48)) a := by
  induction ds generalizing a with
  | nil => rfl
  | cons b r ih =>
    simp only [List.foldl_cons] at h ⊢
    have h1 := foldl_ge r (10 * a + (b.toNat - 48))
    rw [if_pos (by omega)]
    exact ih _ h
theorem foldC_big (ds : List UInt8) (a : Nat) (h : 1000000 ≤ ds.foldl (fun n b => 10 * n + (b.toNat - 48)) a) :
    1000000 ≤ ds.foldl (fun n b => if n < 1000000 then 10 * n + (b.toNat - 48) else n) a := by
  induction ds generalizing a with
  | nil => exact h
  | cons b r ih =>
    simp only [List.foldl_cons] at h ⊢
    by_cases c : a < 1000000
    · rw [if_pos c]; exact ih _ h
    · rw [if_neg c, foldC_stop _ _ (by omega)]; omega
theorem num_numC {most : Nat} {l : List UInt8} {q : Nat × List UInt8} (hm : most < 1000000) (h : num most l = some q) : numC l = some q ∧ q.1 ≤ most := by
  unfold num at h
  split at h
  · rename_i c
    simp only [Bool.and_eq_true, decide_eq_true_eq] at c
    have e := foldC_eq (digs l) 0 (show valD (digs l) < 1000000 by omega)
    cases h
    unfold numC
    rw [if_pos c.1]
    exact ⟨by rw [show valC (digs l) = valD (digs l) from e], c.2⟩
  · cases h
theorem numC_num {most : Nat} {l : List UInt8} {q : Nat × List UInt8} (hm : most < 1000000) (h : numC l = some q) (hq : q.1 ≤ most) : num most l = some q := by
  unfold numC at h
  split at h
  · rename_i c
    cases h
    have hv : valD (digs l) < 1000000 := by
      rcases Nat.lt_or_ge (valD (digs l)) 1000000 with h' | h'
      · exact h'
      · have := foldC_big (digs l) 0 h'
        simp only [valC] at hq
        omega
    have e : valC (digs l) = valD (digs l) := foldC_eq (digs l) 0 hv
    simp only [e] at hq ⊢
    unfold num
    rw [if_pos (by simp [c, hq])]
  · cases h

theorem mark_length {l : List UInt8} {tail : Nat} {q : List UInt8 × Nat} (h : mark l tail = some q) : q.1.length ≤ l.length := by
  unfold mark at h
  split at h
  · cases h; simp
  · split at h
    · cases h
    · cases h; exact Nat.le_refl _
theorem flds_pflds {rdf : List UInt8 → Nat → Option (Rose TL × List UInt8 × Nat)} {pf : List UInt8 → Option (Rose TL × List UInt8)} {d : Nat}
    (hl : ∀ l y, pf l = some y → y.2.length < l.length)
    (h : ∀ l n y, rdf l n = some y → pf l = some (y.1, y.2.1) ∧ y.2.2 + y.1.count = n ∧ y.1.deep ≤ d) :
    ∀ (f g : Nat) (l : List UInt8) (n : Nat) (sub : List (Rose TL)) (tail : Nat) (y : Rose TL × List UInt8 × Nat), flds rdf f l n sub tail = some y → (if sub.isEmpty then l else 44 :: l).length < g → Rose.deepL sub ≤ d →
      (sub = [] → l ≠ [] ∧ l.head? ≠ some 125) →
      pflds pf g (if sub.isEmpty then l else 44 :: l) sub tail = some (y.1, y.2.1) ∧ y.2.2 + y.1.count = n + 1 + Rose.countL sub ∧ y.1.deep ≤ d + 1 := by
  intro f
  induction f with
  | zero => intro g l n sub tail y hy; simp [flds] at hy
  | succ f ih =>
    intro g l n sub tail y hy hg hd h0
    cases g with
    | zero => omega
    | succ g =>
      simp only [flds, Option.bind_eq_some_iff] at hy
      obtain ⟨q, hq, x, hx, hy⟩ := hy
      obtain ⟨hp, hc, hdx⟩ := h _ _ _ hx
      have hlen := hl _ _ hp
      have hlm := mark_length hq
      simp only at hlen
      -- the document's round
      have hstep : pflds pf (g + 1) (if sub.isEmpty then l else 44 :: l) sub tail = pflds pf g x.2.1 (sub ++ [x.1]) q.2 := by
        cases hs : sub.isEmpty with
        | true =>
          have := h0 (List.isEmpty_iff.1 hs)
          cases l with
          | nil => simp at this
          | cons b r =>
            have hb : b ≠ 125 := by simpa using this.2
            simp only [if_true, pflds, if_neg hb, hs, Option.bind_some, hq, hp]
        | false => simp [pflds, hs, hq, hp]
      have hll : l.length ≤ g := by split at hg <;> simp_all <;> omega
      rw [hstep]
      have hcl : Rose.countL (sub ++ [x.1]) = Rose.countL sub + x.1.count := by simp [Rose.countL_append, Rose.countL]
      have hdl : Rose.deepL (sub ++ [x.1]) ≤ d := by rw [Rose.deepL_append]; simp [Rose.deepL]; omega
      split at hy
      · rename_i r e
        cases hy
        rw [e] at hlen ⊢
        simp only [List.length_cons] at hlen
        cases g with
        | zero => omega
        | succ g =>
          refine ⟨by simp [pflds], ?_, ?_⟩
          · simp only [Rose.count, hcl]; omega
          · simp only [Rose.deep]; omega
      · rename_i r e
        rw [e] at hlen ⊢
        simp only [List.length_cons] at hlen
        have hne : (sub ++ [x.1]).isEmpty = false := by simp
        have := ih g r x.2.2 (sub ++ [x.1]) q.2 y hy (by rw [hne]; simp; omega) hdl (fun e => by simp at e)
        rw [hne] at this
        simp only [Bool.false_eq_true, if_false] at this
        refine ⟨this.1, ?_, this.2.2⟩
        rw [this.2.1, hcl]; omega
      · cases hy

theorem past_length (l : List UInt8) : (past l).length ≤ l.length := by
  induction l with
  | nil => simp [past]
  | cons b r ih => simp only [past]; split <;> simp_all; omega
theorem numC_length {l : List UInt8} {q : Nat × List UInt8} (h : numC l = some q) : q.2.length ≤ l.length := by
  unfold numC at h
  split at h
  · cases h; exact past_length l
  · cases h
theorem pflds_length {pf : List UInt8 → Option (Rose TL × List UInt8)} (hl : ∀ l y, pf l = some y → y.2.length < l.length) :
    ∀ (g : Nat) (l : List UInt8) (sub : List (Rose TL)) (tail : Nat) (y : Rose TL × List UInt8), pflds pf g l sub tail = some y → y.2.length < l.length := by
  intro g
  induction g with
  | zero => intro l sub tail y h; simp [pflds] at h
  | succ g ih =>
    intro l sub tail y h
    cases l with
    | nil => simp [pflds] at h
    | cons b r =>
      simp only [pflds] at h
      split at h
      · cases h; simp
      · simp only [Option.bind_eq_some_iff] at h
        obtain ⟨l1, h1, q, h2, x, h3, h4⟩ := h
        have a1 := ih _ _ _ _ h4
        have a2 := hl _ _ h3
        have a3 := mark_length h2
        have a4 : l1.length ≤ (b :: r).length := by
          split at h1
          · cases h1; exact Nat.le_refl _
          · split at h1
            · cases h1; simp
            · cases h1
        omega
theorem ps_length : ∀ (d : Nat) (l : List UInt8) (y : Rose TL × List UInt8), ps d l = some y → y.2.length < l.length := by
  intro d
  induction d with
  | zero => intro l y h; simp [ps] at h
  | succ d ih =>
    intro l y h
    cases l with
    | nil => simp [ps] at h
    | cons b r =>
      simp only [ps] at h
      split at h
      · simp only [Option.bind_eq_some_iff] at h
        obtain ⟨q, h1, h2⟩ := h
        have := numC_length h1
        split at h2
        · cases h2; simp; omega
        · cases h2
      split at h
      · simp only [Option.bind_eq_some_iff] at h
        obtain ⟨q, h1, h2⟩ := h
        have := numC_length h1
        cases h2; simp; omega
      split at h
      · simp only [Option.bind_eq_some_iff] at h
        obtain ⟨q, h1, h2⟩ := h
        have := numC_length h1
        cases h2; simp; omega
      split at h
      · simp only [Option.bind_eq_some_iff] at h
        obtain ⟨x, h1, h2⟩ := h
        have a1 := ih _ _ h1
        split at h2
        · rename_i r2 e
          simp only [Option.bind_eq_some_iff] at h2
          obtain ⟨q, h3, h4⟩ := h2
          have a2 := numC_length h3
          rw [e] at a1
          split at h4
          · rename_i r4 e4
            cases h4
            rw [e4] at a2
            simp only [List.length_cons] at a1 a2 ⊢
            omega
          · cases h4
        · cases h2
      split at h
      · have := pflds_length ih _ _ _ _ _ h
        simp only [List.length_cons]; omega
      · cases h

/-- What is read is parsed. -/
theorem rd_ps : ∀ (d : Nat) (l : List UInt8) (n : Nat) (y : Rose TL × List UInt8 × Nat), rd d l n = some y → ps d l = some (y.1, y.2.1) ∧ y.2.2 + y.1.count = n ∧ y.1.deep ≤ d := by
  intro d
  induction d with
  | zero => intro l n y h; simp [rd] at h
  | succ d ih =>
    intro l n y h
    simp only [rd] at h
    split at h
    · cases h
    rename_i hn
    cases l with
    | nil => simp at h
    | cons b r =>
      simp only at h
      simp only [ps]
      split at h
      · rename_i e
        rw [if_pos e]
        simp only [Option.bind_eq_some_iff] at h
        obtain ⟨q, h1, h2⟩ := h
        obtain ⟨h3, _⟩ := num_numC (by decide) h1
        rw [h3]
        split at h2
        · rename_i c
          cases h2
          simp only [Option.bind_some, if_pos c]
          refine ⟨by first | trivial | rfl, ?_, ?_⟩ <;> simp [Rose.count, Rose.countL, Rose.deep, Rose.deepL]; omega
        · cases h2
      rename_i e1
      rw [if_neg e1]
      split at h
      · rename_i e
        rw [if_pos e]
        simp only [Option.bind_eq_some_iff] at h
        obtain ⟨q, h1, h2⟩ := h
        obtain ⟨h3, _⟩ := num_numC (by decide) h1
        cases h2
        rw [h3]
        refine ⟨rfl, ?_, ?_⟩ <;> simp [Rose.count, Rose.countL, Rose.deep, Rose.deepL]; omega
      rename_i e2
      rw [if_neg e2]
      split at h
      · rename_i e
        rw [if_pos e]
        simp only [Option.bind_eq_some_iff] at h
        obtain ⟨q, h1, h2⟩ := h
        obtain ⟨h3, _⟩ := num_numC (by decide) h1
        cases h2
        rw [h3]
        refine ⟨rfl, ?_, ?_⟩ <;> simp [Rose.count, Rose.countL, Rose.deep, Rose.deepL]; omega
      rename_i e3
      rw [if_neg e3]
      split at h
      · rename_i e
        rw [if_pos e]
        simp only [Option.bind_eq_some_iff] at h
        obtain ⟨x, h1, h2⟩ := h
        obtain ⟨p1, p2, p3⟩ := ih _ _ _ h1
        rw [p1]
        simp only [Option.bind_some]
        split at h2
        · rename_i r2 e2
          simp only [Option.bind_eq_some_iff] at h2
          obtain ⟨q, h3, h4⟩ := h2
          obtain ⟨h5, _⟩ := num_numC (by decide) h3
          simp only [h5, Option.bind_some]
          split at h4
          · rename_i r4 e4
            cases h4
            refine ⟨by first | trivial | rfl, ?_, ?_⟩
            · simp [Rose.count, Rose.countL]; omega
            · simp [Rose.deep, Rose.deepL]; omega
          · cases h4
        · cases h2
      rename_i e4
      rw [if_neg e4]
      split at h
      · rename_i e
        rw [if_pos e]
        split at h
        · rename_i r1
          cases h
          refine ⟨by simp [pflds], ?_, ?_⟩ <;> simp [Rose.count, Rose.countL, Rose.deep, Rose.deepL]; omega
        · rename_i hne
          have hr : r ≠ [] := by
            rintro rfl
            simp only [flds, mark, Nat.lt_irrefl, if_false, Option.bind_some, Option.bind_eq_some_iff] at h
            obtain ⟨x, h1, _⟩ := h
            have := ps_length _ _ _ (ih _ _ _ h1).1
            simp at this
          have := flds_pflds (ps_length d) (fun l n y => ih l n y) (n + 1) (r.length + 1) r (n - 1) [] 0 y h (by simp) (by simp [Rose.deepL]) (fun _ => ⟨hr, fun h' => by
            cases r with
            | nil => simp at h'
            | cons c t => simp at h'; exact hne t (by rw [h'])⟩)
          simp only [List.isEmpty_nil, if_true] at this
          refine ⟨this.1, ?_, this.2.2⟩
          have := this.2.1
          simp only [Rose.countL] at this
          omega
      · cases h
/-- What is parsed within a Struct is behind what was there. -/
theorem pflds_sub {pf : List UInt8 → Option (Rose TL × List UInt8)} : ∀ (g : Nat) (l : List UInt8) (sub : List (Rose TL)) (tail : Nat) (y : Rose TL × List UInt8), pflds pf g l sub tail = some y →
    ∃ s t, y.1 = .node ⟨5, 0, t⟩ (sub ++ s) := by
  intro g
  induction g with
  | zero => intro l sub tail y h; simp [pflds] at h
  | succ g ih =>
    intro l sub tail y h
    cases l with
    | nil => simp [pflds] at h
    | cons b r =>
      simp only [pflds] at h
      split at h
      · cases h; exact ⟨[], tail, by simp⟩
      · simp only [Option.bind_eq_some_iff] at h
        obtain ⟨l1, h1, q, h2, x, h3, h4⟩ := h
        obtain ⟨s, t, e⟩ := ih _ _ _ _ h4
        exact ⟨x.1 :: s, t, by rw [e]; simp⟩

theorem pflds_flds {rdf : List UInt8 → Nat → Option (Rose TL × List UInt8 × Nat)} {pf : List UInt8 → Option (Rose TL × List UInt8)}
    (h : ∀ l n y, pf l = some y → y.1.all right1 = true → y.1.count ≤ n → rdf l n = some (y.1, y.2, n - y.1.count)) :
    ∀ (g f : Nat) (l : List UInt8) (n : Nat) (sub : List (Rose TL)) (tail : Nat) (y : Rose TL × List UInt8), pflds pf g (if sub.isEmpty then l else 44 :: l) sub tail = some y →
      y.1.all right1 = true → y.1.count ≤ n + 1 + Rose.countL sub → n < f → (sub = [] → l.head? ≠ some 125) → flds rdf f l n sub tail = some (y.1, y.2, n + 1 + Rose.countL sub - y.1.count) := by
  intro g
  induction g with
  | zero => intro f l n sub tail y hy; simp [pflds] at hy
  | succ g ih =>
    intro f l n sub tail y hy hr hc hf h0
    cases f with
    | zero => omega
    | succ f =>
      -- the document's round
      obtain ⟨q, hq, x, hx, hy2⟩ : ∃ q, mark l tail = some q ∧ ∃ x, pf q.1 = some x ∧ pflds pf g x.2 (sub ++ [x.1]) q.2 = some y := by
        cases hs : sub.isEmpty with
        | true =>
          have hh := h0 (List.isEmpty_iff.1 hs)
          rw [hs] at hy
          simp only [if_true] at hy
          cases l with
          | nil => simp [pflds] at hy
          | cons b r =>
            have hb : b ≠ 125 := by simpa using hh
            simp only [pflds, if_neg hb, hs, if_true, Option.bind_some, Option.bind_eq_some_iff] at hy
            exact hy
        | false =>
          rw [hs] at hy
          simp only [Bool.false_eq_true, if_false, pflds, hs, if_true, Option.bind_eq_some_iff, if_neg (show (44 : UInt8) ≠ 125 by decide)] at hy
          obtain ⟨l1, e1, hy⟩ := hy
          cases e1
          exact hy
      obtain ⟨s, t, hys⟩ := pflds_sub _ _ _ _ _ hy2
      have hcl : Rose.countL (sub ++ [x.1]) = Rose.countL sub + x.1.count := by simp [Rose.countL_append, Rose.countL]
      have hrx : x.1.all right1 = true := by
        rw [hys] at hr
        simp only [Rose.all, Bool.and_eq_true, Rose.allL_append, Rose.allL] at hr
        exact hr.2.1.2.1
      have hcy : y.1.count = 1 + (Rose.countL sub + x.1.count + Rose.countL s) := by rw [hys]; simp only [Rose.count, Rose.countL_append, hcl]
      have hx1 := Rose.count_pos x.1
      have hrd := h _ n _ hx hrx (by omega)
      simp only [flds, hq, Option.bind_some, hrd]
      cases g with
      | zero => simp [pflds] at hy2
      | succ g =>
        cases hl3 : x.2 with
        | nil => rw [hl3] at hy2; simp [pflds] at hy2
        | cons b r =>
          rw [hl3] at hy2
          by_cases c : b = 125
          · subst c
            simp only [pflds, if_true] at hy2
            cases hy2
            simp only [Rose.count, hcl]
            have e : n - x.1.count = n + 1 + Rose.countL sub - (1 + (Rose.countL sub + x.1.count)) := by omega
            rw [e]
          · have hne : (sub ++ [x.1]).isEmpty = false := by simp
            have hb : b = 44 := by
              simp only [pflds, if_neg c, hne, Bool.false_eq_true, if_false, Option.bind_eq_some_iff] at hy2
              obtain ⟨l1, e1, _⟩ := hy2
              split at e1
              · assumption
              · cases e1
            subst hb
            have := ih f r (n - x.1.count) (sub ++ [x.1]) q.2 y (by rw [hne]; exact hy2) hr (by rw [hcl]; omega) (by omega) (fun e => by simp at e)
            simp only [this, hcl]
            have e : n - x.1.count + 1 + (Rose.countL sub + x.1.count) - y.1.count = n + 1 + Rose.countL sub - y.1.count := by omega
            rw [e]

theorem right_size {k : Int} {m : Nat} {t : Int} {s : List (Rose TL)} (h : (Rose.node ⟨k, m, t⟩ s).all right1 = true) : m ≤ 65536 ∧ (k = 1 → m ≤ 8) ∧ (k = 4 → m ≤ 1024) := by
  simp only [Rose.all, right1, rightK, Bool.and_eq_true, decide_eq_true_eq] at h
  omega
/-- What is parsed, and is right, is read. -/
theorem ps_rd : ∀ (d : Nat) (l : List UInt8) (n : Nat) (y : Rose TL × List UInt8), ps d l = some y → y.1.all right1 = true → y.1.count ≤ n → rd d l n = some (y.1, y.2, n - y.1.count) := by
  intro d
  induction d with
  | zero => intro l n y h; simp [ps] at h
  | succ d ih =>
    intro l n y h hr hc
    have hy1 := Rose.count_pos y.1
    simp only [rd]
    rw [if_neg (by omega)]
    cases l with
    | nil => simp [ps] at h
    | cons b r =>
      simp only
      simp only [ps] at h
      split at h
      · rename_i e
        rw [if_pos e]
        simp only [Option.bind_eq_some_iff] at h
        obtain ⟨q, h1, h2⟩ := h
        split at h2
        · rename_i c
          cases h2
          have := (right_size hr).2.1 rfl
          rw [numC_num (most := 64) (by decide) h1 (by omega)]
          simp only [Option.bind_some, if_pos c]
          simp [Rose.count, Rose.countL]
        · cases h2
      rename_i e1
      rw [if_neg e1]
      split at h
      · rename_i e
        rw [if_pos e]
        simp only [Option.bind_eq_some_iff] at h
        obtain ⟨q, h1, h2⟩ := h
        cases h2
        rw [numC_num (most := 65536) (by decide) h1 (right_size hr).1]
        simp [Rose.count, Rose.countL]
      rename_i e2
      rw [if_neg e2]
      split at h
      · rename_i e
        rw [if_pos e]
        simp only [Option.bind_eq_some_iff] at h
        obtain ⟨q, h1, h2⟩ := h
        cases h2
        rw [numC_num (most := 65536) (by decide) h1 (right_size hr).1]
        simp [Rose.count, Rose.countL]
      rename_i e3
      rw [if_neg e3]
      split at h
      · rename_i e
        rw [if_pos e]
        simp only [Option.bind_eq_some_iff] at h
        obtain ⟨x, h1, h2⟩ := h
        split at h2
        · rename_i r2 e2
          simp only [Option.bind_eq_some_iff] at h2
          obtain ⟨q, h3, h4⟩ := h2
          split at h4
          · rename_i r4 e4
            cases h4
            have hrx : x.1.all right1 = true := by
              simp only [Rose.all, Rose.allL, Bool.and_eq_true] at hr
              exact hr.2.1
            simp only [Rose.count, Rose.countL] at hc
            rw [ih _ (n - 1) _ h1 hrx (by omega)]
            simp only [Option.bind_some, e2, numC_num (most := 1024) (by decide) h3 ((right_size hr).2.2 rfl), e4]
            simp only [Rose.count, Rose.countL]
            have e : n - 1 - x.1.count = n - (1 + (x.1.count + 0)) := by omega
            rw [e]
          · cases h4
        · cases h2
      rename_i e4
      rw [if_neg e4]
      split at h
      · rename_i e
        rw [if_pos e]
        cases r with
        | nil => simp [pflds] at h
        | cons c r =>
          by_cases hc2 : c = 125
          · subst hc2
            simp only [pflds, if_true] at h
            cases h
            simp [Rose.count, Rose.countL]
          · have := pflds_flds (rdf := rd d) (pf := ps d) (fun l n y h1 h2 h3 => ih l n y h1 h2 h3) ((c :: r).length + 1) (n + 1) (c :: r) (n - 1) [] 0 y h hr (by simp only [Rose.countL]; omega) (by omega) (fun _ => by simpa using hc2)
            have e5 : n - 1 + 1 + Rose.countL ([] : List (Rose TL)) - y.1.count = n - y.1.count := by simp only [Rose.countL]; omega
            rw [e5] at this
            split
            · rename_i r1 e6
              simp at e6; exact absurd e6.1 hc2
            · exact this
      · cases h

/-- What Get tells. -/
def getT (l : List UInt8) : Option (Rose TL) := match rd 8 l 64 with
  | some (x, [], _) => if mayT x then some x else none
  | _ => none
def getP (l : List UInt8) : Option (Rose TL) := match ps 8 l with
  | some (x, []) => if mayT x then some x else none
  | _ => none
theorem getT_getP (l : List UInt8) : getT l = getP l := by
  unfold getT getP
  cases h : rd 8 l 64 with
  | some y =>
    obtain ⟨x, r, n⟩ := y
    rw [(rd_ps _ _ _ _ h).1]
    cases r <;> rfl
  | none =>
    cases h2 : ps 8 l with
    | none => rfl
    | some y =>
      obtain ⟨x, r⟩ := y
      cases r with
      | cons _ _ => rfl
      | nil =>
        simp only
        cases hm : mayT x with
        | false => rfl
        | true =>
          simp only [mayT, Bool.and_eq_true, decide_eq_true_eq] at hm
          rw [ps_rd _ _ 64 _ h2 hm.2 hm.1.1] at h
          cases h
end Go.Proofs.YtopfpfpefljkkaaDoor
