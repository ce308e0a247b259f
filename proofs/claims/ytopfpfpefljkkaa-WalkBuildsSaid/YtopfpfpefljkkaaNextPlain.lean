/- rlp.Next without the program: its stack of open lists, in terms of rdI. -/
import Derived.Test.YtopfpfpefljkkaaRlpPlain
namespace Go.Proofs.Ytopfpfpefljkkaa
set_option linter.unusedVariables false

/-- How many bytes are read is bounded; the fuel does not matter. -/
theorem rdI_pos {k : Nat} {l : List UInt8} {m : Nat} {y : Rose IL × Nat × Nat} (h : rdI k l m = .ok y) : 0 < y.2.1 ∧ y.2.1 ≤ l.length := ⟨(rdI_spec k l m y h).1, (rdI_spec k l m y h).2.1⟩
theorem rdL_fuel {k : Nat} : ∀ (f f' : Nat) (l : List UInt8) (m : Nat) (sub : List (Rose IL)), l.length < f → l.length < f' → rdL (rdI k) f l m sub = rdL (rdI k) f' l m sub := by
  intro f
  induction f with
  | zero => intro f' l m sub h; omega
  | succ f ih =>
    intro f' l m sub h h'
    cases f' with
    | zero => omega
    | succ f' =>
      simp only [rdL]
      split
      · rfl
      · split
        · rfl
        · rename_i y hy
          obtain ⟨h1, h2⟩ := rdI_pos hy
          exact ih f' _ _ _ (by simp; omega) (by simp; omega)
/-- The rest of a list that is open: from a place to its end. -/
def seg (s : List UInt8) (at_ end_ : Nat) : List UInt8 := (s.drop at_).take (end_ - at_)
def rdS (k : Nat) (l : List UInt8) (m : Nat) (sub : List (Rose IL)) : Except Nat (List (Rose IL) × Nat) := rdL (rdI k) (l.length + 1) l m sub
/-- What comes of an item that is put into a stack of open lists (the inmost first: those that are there, and the end of each). -/
def fin (s : List UInt8) : List (List (Rose IL) × Nat) → Nat → Rose IL → Nat → Nat → Except Nat (Rose IL × Nat × Nat)
  | [], _, x, p, m => .ok (x, p, m)
  | (sub, e) :: st, k, x, p, m => match rdS k (seg s p e) m (sub ++ [x]) with
    | .error er => .error er
    | .ok y => fin s st (k + 1) (.node ⟨[], true⟩ y.1) e y.2
/-- What comes of a stack of open lists. -/
def cont (s : List UInt8) (sub : List (Rose IL)) (e : Nat) (st : List (List (Rose IL) × Nat)) (k p m : Nat) : Except Nat (Rose IL × Nat × Nat) := match rdS k (seg s p e) m sub with
    | .error er => .error er
    | .ok y => fin s st (k + 1) (.node ⟨[], true⟩ y.1) e y.2
theorem fin_cons (s : List UInt8) (sub : List (Rose IL)) (e : Nat) (st : List (List (Rose IL) × Nat)) (k : Nat) (x : Rose IL) (p m : Nat) : fin s ((sub, e) :: st) k x p m = cont s (sub ++ [x]) e st k p m := rfl

theorem seg_self (s : List UInt8) (e : Nat) : seg s e e = [] := by simp [seg]
theorem rdS_nil (k m : Nat) (sub : List (Rose IL)) : rdS k [] m sub = .ok (sub, m) := by simp [rdS, rdL]
/-- The inmost list is at its end. -/
theorem cont_close {s : List UInt8} {sub : List (Rose IL)} {e : Nat} {st : List (List (Rose IL) × Nat)} {k m : Nat} : cont s sub e st k e m = fin s st (k + 1) (.node ⟨[], true⟩ sub) e m := by
  unfold cont
  rw [seg_self, rdS_nil]
theorem rdS_cons {k : Nat} {l : List UInt8} {m : Nat} {sub : List (Rose IL)} (h : l ≠ []) : rdS k l m sub = match rdI k l m with
    | .error e => .error (if e = 2 then 3 else e)
    | .ok y => rdS k (l.drop y.2.1) y.2.2 (sub ++ [y.1]) := by
  unfold rdS
  conv => lhs; rw [rdL]
  rw [if_neg h]
  cases hy : rdI k l m with
  | error e => rfl
  | ok y =>
    obtain ⟨h1, h2⟩ := rdI_pos hy
    exact rdL_fuel _ _ _ _ _ (by simp; omega) (by simp)
theorem seg_length (s : List UInt8) {p e : Nat} (h1 : p ≤ e) (h2 : e ≤ s.length) : (seg s p e).length = e - p := by simp [seg]; omega
theorem seg_ne (s : List UInt8) {p e : Nat} (h1 : p < e) (h2 : e ≤ s.length) : seg s p e ≠ [] := fun h => by
  have := congrArg List.length h
  rw [seg_length s (by omega) h2] at this
  simp at this; omega
theorem seg_drop (s : List UInt8) {p e n : Nat} (h : p + n ≤ e) : (seg s p e).drop n = seg s (p + n) e := by
  unfold seg
  rw [List.drop_take, List.drop_drop, show e - p - n = e - (p + n) by omega]
theorem seg_take (s : List UInt8) {p e n : Nat} (h : p + n ≤ e) : (seg s p e).take n = seg s p (p + n) := by
  unfold seg
  rw [List.take_take, Nat.min_eq_left (by omega), show p + n - p = n by omega]
/-- A head that tells an error. -/
theorem cont_err {s : List UInt8} {sub : List (Rose IL)} {e : Nat} {st : List (List (Rose IL) × Nat)} {k p m er : Nat} (hp : p < e) (he : e ≤ s.length) (h : rdI k (seg s p e) m = .error er) :
    cont s sub e st k p m = .error (if er = 2 then 3 else er) := by
  unfold cont
  rw [rdS_cons (seg_ne s hp he), h]
theorem rdL_ne2 {k : Nat} : ∀ (f : Nat) (l : List UInt8) (m : Nat) (sub : List (Rose IL)) (er : Nat), rdL (rdI k) f l m sub = .error er → er ≠ 2 := by
  intro f
  induction f with
  | zero => intro l m sub er h; simp only [rdL] at h; cases h; decide
  | succ f ih =>
    intro l m sub er h
    simp only [rdL] at h
    split at h
    · cases h
    · split at h
      · cases h; split <;> omega
      · exact ih _ _ _ _ h
/-- What rdI says, by the head. -/
theorem rdI_deep {l : List UInt8} {m : Nat} (h : l ≠ []) : rdI 0 l m = .error 6 := by simp [rdI, h]
theorem rdI_nil {k m : Nat} : rdI k [] m = .error 2 := by cases k <;> simp [rdI]
theorem rdI_many {k : Nat} {l : List UInt8} (h : l ≠ []) : rdI (k + 1) l 0 = .error 4 := by simp [rdI, h]
theorem rdI_head {k : Nat} {l : List UInt8} {m er : Nat} (h : l ≠ []) (hd' : hd l = .error er) : rdI (k + 1) l (m + 1) = .error er := by simp [rdI, h, hd']
theorem rdI_text {k : Nat} {l : List UInt8} {m z n : Nat} (h : l ≠ []) (hd' : hd l = .ok (false, z, n)) : rdI (k + 1) l (m + 1) = .ok (.node ⟨(l.drop z).take n, false⟩ [], z + n, m) := by simp [rdI, h, hd']
theorem rdI_list {k : Nat} {l : List UInt8} {m z n : Nat} (h : l ≠ []) (hd' : hd l = .ok (true, z, n)) (hzn : z + n ≤ l.length) : rdI (k + 1) l (m + 1) = match rdS k ((l.drop z).take n) m [] with
    | .error e => .error e
    | .ok y => .ok (.node ⟨[], true⟩ y.1, z + n, y.2) := by
  simp only [rdI, h, if_false, hd', Nat.add_sub_cancel, if_true]
  rw [if_neg (by omega)]
  have : ((l.drop z).take n).length = n := by simp; omega
  unfold rdS
  rw [this]
  cases rdL (rdI k) (n + 1) ((l.drop z).take n) m [] <;> rfl
/-- A text within the inmost list. -/
theorem cont_text {s : List UInt8} {sub : List (Rose IL)} {e : Nat} {st : List (List (Rose IL) × Nat)} {k p m z n : Nat} (hp : p < e) (he : e ≤ s.length) (h : hd (seg s p e) = .ok (false, z, n)) (hzn : z + n ≤ e - p) :
    cont s sub e st (k + 1) p (m + 1) = cont s (sub ++ [.node ⟨seg s (p + z) (p + z + n), false⟩ []]) e st (k + 1) (p + z + n) m := by
  unfold cont
  rw [rdS_cons (seg_ne s hp he), rdI_text (seg_ne s hp he) h]
  simp only
  rw [seg_drop s (by omega), seg_drop s (by omega), seg_take s (by omega), ← Nat.add_assoc]
/-- A list within the inmost list. -/
theorem cont_list {s : List UInt8} {sub : List (Rose IL)} {e : Nat} {st : List (List (Rose IL) × Nat)} {k p m z n : Nat} (hp : p < e) (he : e ≤ s.length) (h : hd (seg s p e) = .ok (true, z, n)) (hzn : z + n ≤ e - p) :
    cont s sub e st (k + 1) p (m + 1) = cont s [] (p + z + n) ((sub, e) :: st) k (p + z) m := by
  unfold cont
  rw [rdS_cons (seg_ne s hp he), rdI_list (seg_ne s hp he) h (by rw [seg_length s (by omega) he]; omega)]
  rw [seg_drop s (by omega), seg_take s (by omega)]
  cases hr : rdS k (seg s (p + z) (p + z + n)) m [] with
  | error er =>
    simp only
    rw [if_neg (rdL_ne2 _ _ _ _ _ hr)]
  | ok y =>
    simp only [fin]
    rw [seg_drop s (by omega), ← Nat.add_assoc]
/-- The first item. -/
theorem first_list {s : List UInt8} {k m z n : Nat} (h : hd s = .ok (true, z, n)) (hs : s ≠ []) (hzn : z + n ≤ s.length) : rdI (k + 1) s (m + 1) = cont s [] (z + n) [] k z m := by
  rw [rdI_list hs h hzn]
  unfold cont
  have : (s.drop z).take n = seg s z (z + n) := by unfold seg; rw [show z + n - z = n by omega]
  rw [this]
  cases rdS k (seg s z (z + n)) m [] <;> rfl
end Go.Proofs.Ytopfpfpefljkkaa
