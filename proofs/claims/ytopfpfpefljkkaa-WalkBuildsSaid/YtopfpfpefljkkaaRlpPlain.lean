/- Package rlp, without the program: what an item is, its bytes, what reading computes. -/
import Derived.Test.YtopfpfpefljkkaaRose
import Derived.Test.YtopfpfpefljkkaaFixPlain
namespace Go.Proofs.Ytopfpfpefljkkaa
set_option linter.unusedVariables false

/-- What an item bears beside those within. -/
structure IL where
  text : List UInt8
  list : Bool
  deriving DecidableEq

def ishape : Shape IL := ⟨3, fun a v => [.string ⟨a.text.toArray⟩, .bool a.list, v], fun a => a.text.length ≤ maxLen, fun _ _ => rfl⟩
def ieq (a b : IL) : Bool := a.list == b.list && a.text == b.text
def irightK (a : IL) (n : Nat) : Bool := if a.list then a.text.isEmpty else decide (n = 0)
def iright (a : IL) (s : List (Rose IL)) : Bool := irightK a s.length
def mayI (x : Rose IL) : Bool := x.all iright && decide (x.deep ≤ 16) && decide (x.count ≤ 1024)

/-! ### Bytes -/
def hdr (by' n : Nat) : List UInt8 := if n ≤ 55 then [UInt8.ofNat (by' + n)] else UInt8.ofNat (by' + 55 + (lsN n).length) :: (lsN n).reverse
def single (t : List UInt8) : Bool := match t with
  | [b] => decide (b.toNat < 128)
  | _ => false
mutual
def enc : Rose IL → List UInt8
  | .node a s => if a.list then hdr 192 (encL s).length ++ encL s else if single a.text then a.text else hdr 128 a.text.length ++ a.text
def encL : List (Rose IL) → List UInt8
  | [] => []
  | x :: xs => enc x ++ encL xs
end
mutual
/-- How many bytes the texts have. -/
def tsz : Rose IL → Nat
  | .node a s => a.text.length + tszL s
def tszL : List (Rose IL) → Nat
  | [] => 0
  | x :: xs => tsz x + tszL xs
end

/-! ### Reading -/
def hd2 (l : List UInt8) (list : Bool) (size n : Nat) : Except Nat (Bool × Nat × Nat) :=
  if l.length - size < n then .error 2 else if list = false ∧ n = 1 ∧ (l.getD size 0).toNat < 128 then .error 3 else .ok (list, size, n)
def hd (l : List UInt8) : Except Nat (Bool × Nat × Nat) := match l with
  | [] => .error 2
  | b :: r =>
    if b.toNat < 128 then .ok (false, 0, 1)
    else if b.toNat - (if 192 ≤ b.toNat then 192 else 128) ≤ 55 then hd2 l (decide (192 ≤ b.toNat)) 1 (b.toNat - (if 192 ≤ b.toNat then 192 else 128))
    else if l.length < 1 + (b.toNat - (if 192 ≤ b.toNat then 192 else 128) - 55) then .error 2
    else if (r.head? = some 0 ∨ valB (r.take (b.toNat - (if 192 ≤ b.toNat then 192 else 128) - 55)) < 56) then .error 3
    else hd2 l (decide (192 ≤ b.toNat)) (1 + (b.toNat - (if 192 ≤ b.toNat then 192 else 128) - 55)) (valB (r.take (b.toNat - (if 192 ≤ b.toNat then 192 else 128) - 55)))
def rdL (rdf : List UInt8 → Nat → Except Nat (Rose IL × Nat × Nat)) : Nat → List UInt8 → Nat → List (Rose IL) → Except Nat (List (Rose IL) × Nat)
  | 0, _, _, _ => .error 0
  | f + 1, l, m, sub => if l = [] then .ok (sub, m) else match rdf l m with
    | .error e => .error (if e = 2 then 3 else e)
    | .ok y => rdL rdf f (l.drop y.2.1) y.2.2 (sub ++ [y.1])
def rdI : Nat → List UInt8 → Nat → Except Nat (Rose IL × Nat × Nat)
  | 0, l, _ => if l = [] then .error 2 else .error 6
  | k + 1, l, m => if l = [] then .error 2 else if m = 0 then .error 4 else match hd l with
    | .error e => .error e
    | .ok q => if q.1 then (match rdL (rdI k) (q.2.2 + 1) ((l.drop q.2.1).take q.2.2) (m - 1) [] with
        | .error e => .error e
        | .ok y => .ok (.node ⟨[], true⟩ y.1, q.2.1 + q.2.2, y.2))
      else .ok (.node ⟨(l.drop q.2.1).take q.2.2, false⟩ [], q.2.1 + q.2.2, m - 1)

/-! ### Heads -/
theorem lsN_le8 {n : Nat} (h : n < 2 ^ 64) : (lsN n).length ≤ 8 := lsN_le 8 n (by simpa using h)
theorem lsN_pos_length {n : Nat} (h : 0 < n) : 0 < (lsN n).length := by rw [lsN_pos n h]; simp
theorem hdr_pos (by' n : Nat) : 0 < (hdr by' n).length := by unfold hdr; split <;> simp
theorem hdr_le (by' n : Nat) (h : n < 2 ^ 64) : (hdr by' n).length ≤ 9 := by
  unfold hdr; split
  · simp
  · simp; exact lsN_le8 h

theorem hd_hdr {list : Bool} {n : Nat} {body r : List UInt8} (hn : n < 2 ^ 64) (hb : body.length = n) (h1 : list = false → single body = false) :
    hd (hdr (if list then 192 else 128) n ++ (body ++ r)) = .ok (list, (hdr (if list then 192 else 128) n).length, n) := by
  have hby : (if list then (192 : Nat) else 128) = 128 ∨ (if list then (192 : Nat) else 128) = 192 := by cases list <;> simp
  have hlist : decide ((if list then (192 : Nat) else 128) = 192) = list := by cases list <;> simp
  generalize (if list then (192 : Nat) else 128) = by' at *
  have htwo : ∀ sz (pre : List UInt8), pre.length = sz → hd2 (pre ++ (body ++ r)) list sz n = .ok (list, sz, n) := by
    intro sz pre hp
    unfold hd2
    rw [if_neg (by simp; omega), if_neg]
    rintro ⟨e1, e2, e3⟩
    have := h1 e1
    cases body with
    | nil => simp at hb; omega
    | cons b t =>
      cases t with
      | nil =>
        simp only [single, decide_eq_false_iff_not] at this
        rw [List.getD_eq_getElem?_getD, List.getElem?_append_right (by omega), hp, Nat.sub_self] at e3
        simp at e3; omega
      | cons c t => simp at hb; omega
  unfold hdr
  split
  · rename_i hle
    have e : (UInt8.ofNat (by' + n)).toNat = by' + n := u8n _ (by omega)
    simp only [List.cons_append, List.nil_append, hd, e]
    have hif : (if 192 ≤ by' + n then (192 : Nat) else 128) = by' := by rcases hby with h | h <;> simp [h] <;> omega
    have hdec : decide (192 ≤ by' + n) = list := by rw [← hlist]; rcases hby with h | h <;> simp [h] <;> omega
    rw [if_neg (by omega), hif, if_pos (by omega), hdec, Nat.add_sub_cancel_left]
    exact htwo 1 [UInt8.ofNat (by' + n)] rfl
  · rename_i hgt
    have h8 := lsN_le8 hn
    have h0 := lsN_pos_length (n := n) (by omega)
    have e : (UInt8.ofNat (by' + 55 + (lsN n).length)).toNat = by' + 55 + (lsN n).length := u8n _ (by omega)
    simp only [List.cons_append, hd, e]
    have hif : (if 192 ≤ by' + 55 + (lsN n).length then (192 : Nat) else 128) = by' := by rcases hby with h | h <;> simp [h] <;> omega
    have hdec : decide (192 ≤ by' + 55 + (lsN n).length) = list := by rw [← hlist]; rcases hby with h | h <;> simp [h] <;> omega
    have hk : by' + 55 + (lsN n).length - by' - 55 = (lsN n).length := by omega
    have htk : ((lsN n).reverse ++ (body ++ r)).take (lsN n).length = (lsN n).reverse := List.take_left' (by simp)
    have hv : valB (lsN n).reverse = n := by unfold valB; rw [List.reverse_reverse, valL_lsN]
    rw [if_neg (by omega), hif, if_neg (by omega), hdec, hk, htk, hv, if_neg (by simp; omega), if_neg]
    · have := htwo (1 + (lsN n).length) (UInt8.ofNat (by' + 55 + (lsN n).length) :: (lsN n).reverse) (by simp; omega)
      simp only [List.cons_append] at this
      rw [this]
      simp [Nat.add_comm]
    · rintro (h | h)
      · obtain ⟨l, b, e1, e2⟩ := lsN_last n (by omega)
        rw [e1] at h
        simp at h
        rw [h] at e2
        exact e2 rfl
      · omega

theorem hd2_inv {l : List UInt8} {list : Bool} {size n : Nat} {q : Bool × Nat × Nat} (h : hd2 l list size n = .ok q) :
    q = (list, size, n) ∧ n ≤ l.length - size ∧ (list = false → n = 1 → ¬ (l.getD size 0).toNat < 128) := by
  unfold hd2 at h
  split at h
  · cases h
  split at h
  · cases h
  · rename_i h1 h2
    cases h
    exact ⟨rfl, by omega, fun a b c => h2 ⟨a, b, c⟩⟩
theorem single_drop {l : List UInt8} {size n : Nat} (hn : size + n ≤ l.length) (h : n = 1 → ¬ (l.getD size 0).toNat < 128) : single ((l.drop size).take n) = false := by
  cases e : (l.drop size).take n with
  | nil => rfl
  | cons b t =>
    cases t with
    | cons c t => rfl
    | nil =>
      have h1 : n = 1 := by
        have := congrArg List.length e
        simp at this; omega
      have h2 : l[size]? = some b := by
        have := congrArg (fun l => l[0]?) e
        simpa [h1, List.getElem?_take] using this
      have := h h1
      simp [List.getD, h2] at this
      simp [single]; omega
/-- What a head tells, and what it is. -/
theorem hd_inv {l : List UInt8} {q : Bool × Nat × Nat} (h : hd l = .ok q) :
    q.2.1 + q.2.2 ≤ l.length ∧ 0 < q.2.1 + q.2.2 ∧ q.2.2 ≤ l.length ∧
    ((q.1 = false ∧ q.2.1 = 0 ∧ q.2.2 = 1 ∧ single ((l.drop q.2.1).take q.2.2) = true) ∨
      (l.take q.2.1 = hdr (if q.1 then 192 else 128) q.2.2 ∧ (q.1 = false → single ((l.drop q.2.1).take q.2.2) = false) ∧ 0 < q.2.1)) := by
  cases l with
  | nil => simp [hd] at h
  | cons b r =>
    simp only [hd] at h
    have hbl := b.toNat_lt
    split at h
    · rename_i c
      cases h
      exact ⟨by simp, by simp, by simp, .inl ⟨rfl, rfl, rfl, by simp [single]; omega⟩⟩
    rename_i c
    have hby : (if 192 ≤ b.toNat then (192 : Nat) else 128) = (if decide (192 ≤ b.toNat) then 192 else 128) := by simp
    have hby2 : (if 192 ≤ b.toNat then (192 : Nat) else 128) ≤ b.toNat := by split <;> omega
    have hby3 : (if 192 ≤ b.toNat then (192 : Nat) else 128) = 128 ∨ (if 192 ≤ b.toNat then (192 : Nat) else 128) = 192 := by split <;> simp
    generalize decide (192 ≤ b.toNat) = list at *
    generalize hB : (if 192 ≤ b.toNat then (192 : Nat) else 128) = by' at *
    split at h
    · rename_i c1
      obtain ⟨rfl, h2, h3⟩ := hd2_inv h
      simp only [List.length_cons] at h2 ⊢
      refine ⟨by omega, by omega, by omega, .inr ⟨?_, fun e => single_drop (by simp; omega) (fun h1 => h3 e h1), by omega⟩⟩
      unfold hdr
      rw [if_pos c1, ← hby]
      have e : UInt8.ofNat (by' + (b.toNat - by')) = b := by rw [show by' + (b.toNat - by') = b.toNat by omega]; simp
      rw [e]; simp
    rename_i c1
    split at h
    · cases h
    rename_i c2
    split at h
    · cases h
    rename_i c3
    obtain ⟨rfl, h2, h3⟩ := hd2_inv h
    simp only [List.length_cons] at h2 c2 ⊢
    refine ⟨by omega, by omega, by omega, .inr ⟨?_, fun e => single_drop (by simp; omega) (fun h1 => h3 e h1), by omega⟩⟩
    have hk : (r.take (b.toNat - by' - 55)).length = b.toNat - by' - 55 := by simp; omega
    -- the digits
    cases hr : r.take (b.toNat - by' - 55) with
    | nil => rw [hr] at hk; simp at hk; omega
    | cons c0 t =>
      have hc0 : r.head? = some c0 := by
        cases r with
        | nil => simp at hr
        | cons c1 t1 => rw [show b.toNat - by' - 55 = (b.toNat - by' - 56) + 1 by omega, List.take_succ_cons] at hr; simp at hr ⊢; exact hr.1
      have hne : c0.toNat ≠ 0 := by
        intro e
        apply c3
        left
        rw [hc0]
        congr 1
        exact UInt8.toNat_inj.1 e
      have hls : lsN (valB (c0 :: t)) = (c0 :: t).reverse := by
        unfold valB
        rw [List.reverse_cons, lsN_valL _ _ hne]
      rw [hr] at hk c3
      unfold hdr
      have hge : ¬ valB (c0 :: t) ≤ 55 := fun h => c3 (.inr (by omega))
      rw [if_neg hge, hls, List.reverse_reverse, List.length_reverse, hk, ← hby]
      have e : UInt8.ofNat (by' + 55 + (b.toNat - by' - 55)) = b := by rw [show by' + 55 + (b.toNat - by' - 55) = b.toNat by omega]; simp
      rw [e, show 1 + (b.toNat - by' - 55) = (b.toNat - by' - 55) + 1 by omega, List.take_succ_cons, hr]

/-! ### What is read -/
theorem rdL_spec {k : Nat} (h : ∀ l m y, rdI k l m = .ok y → 0 < y.2.1 ∧ y.2.1 ≤ l.length ∧ y.2.2 + y.1.count = m ∧ y.1.deep ≤ k ∧ y.1.all iright = true ∧ l.take y.2.1 = enc y.1) :
    ∀ (f : Nat) (l : List UInt8) (m : Nat) (sub : List (Rose IL)) (y : List (Rose IL) × Nat), rdL (rdI k) f l m sub = .ok y →
      ∃ s, y.1 = sub ++ s ∧ l = encL s ∧ y.2 + Rose.countL s = m ∧ Rose.deepL s ≤ k ∧ Rose.allL iright s = true := by
  intro f
  induction f with
  | zero => intro l m sub y hy; simp [rdL] at hy
  | succ f ih =>
    intro l m sub y hy
    simp only [rdL] at hy
    split at hy
    · rename_i e
      cases hy
      exact ⟨[], by simp, by simp [e, encL], by simp [Rose.countL], by simp [Rose.deepL], by simp [Rose.allL]⟩
    · split at hy
      · cases hy
      · rename_i x hx
        obtain ⟨h1, h2, h3, h4, h5, h6⟩ := h _ _ _ hx
        obtain ⟨s, e1, e2, e3, e4, e5⟩ := ih _ _ _ _ hy
        refine ⟨x.1 :: s, by rw [e1]; simp, ?_, ?_, ?_, ?_⟩
        · simp only [encL]; rw [← h6, ← e2, List.take_append_drop]
        · simp only [Rose.countL]; omega
        · simp only [Rose.deepL]; omega
        · simp only [Rose.allL, h5, e5]; rfl
theorem rdI_spec : ∀ (k : Nat) (l : List UInt8) (m : Nat) (y : Rose IL × Nat × Nat), rdI k l m = .ok y →
    0 < y.2.1 ∧ y.2.1 ≤ l.length ∧ y.2.2 + y.1.count = m ∧ y.1.deep ≤ k ∧ y.1.all iright = true ∧ l.take y.2.1 = enc y.1 := by
  intro k
  induction k with
  | zero => intro l m y h; simp only [rdI] at h; split at h <;> cases h
  | succ k ih =>
    intro l m y h
    simp only [rdI] at h
    split at h
    · cases h
    split at h
    · cases h
    rename_i hl hm
    split at h
    · cases h
    rename_i q hq
    obtain ⟨a1, a2, a3, a4⟩ := hd_inv hq
    split at h
    · rename_i hlist
      split at h
      · cases h
      rename_i z hz
      obtain ⟨s, e1, e2, e3, e4, e5⟩ := rdL_spec ih _ _ _ _ _ hz
      cases h
      simp only [List.nil_append] at e1
      refine ⟨a2, a1, ?_, ?_, ?_, ?_⟩
      · simp only [Rose.count, e1]; omega
      · simp only [Rose.deep, e1]; omega
      · simp only [Rose.all, e1, e5, iright, irightK]; rfl
      · rcases a4 with ⟨h1, _⟩ | ⟨h1, _, _⟩
        · rw [hlist] at h1; cases h1
        · simp only [enc, if_true, e1, ← e2]
          rw [hlist, if_pos rfl] at h1
          rw [show ((l.drop q.2.1).take q.2.2).length = q.2.2 by simp; omega, ← h1, List.take_add]
    · rename_i hlist
      have hlist' : q.1 = false := by simpa using hlist
      cases h
      refine ⟨a2, a1, ?_, ?_, ?_, ?_⟩
      · simp only [Rose.count, Rose.countL]; omega
      · simp only [Rose.deep, Rose.deepL]; omega
      · simp [Rose.all, iright, irightK, Rose.allL]
      · rcases a4 with ⟨h1, h2, h3, h4⟩ | ⟨h1, h2, h3⟩
        · simp only [enc, Bool.false_eq_true, if_false, h4, if_true]
          simp [h2]
        · simp only [enc, Bool.false_eq_true, if_false, h2 hlist']
          rw [hlist'] at h1
          simp only [Bool.false_eq_true, if_false] at h1
          rw [show ((l.drop q.2.1).take q.2.2).length = q.2.2 by simp; omega, ← h1, List.take_add]

/-! ### What is put is read -/
theorem single_len {t : List UInt8} (h : single t = true) : ∃ b, t = [b] ∧ b.toNat < 128 := by
  cases t with
  | nil => cases h
  | cons b t => cases t with
    | nil => exact ⟨b, rfl, by simpa [single] using h⟩
    | cons c t => cases h
theorem enc_pos (x : Rose IL) : 0 < (enc x).length := by
  cases x with
  | node a s =>
    simp only [enc]
    split
    · have := hdr_pos 192 (encL s).length; simp; omega
    split
    · rename_i h; obtain ⟨b, e, _⟩ := single_len h; rw [e]; simp
    · have := hdr_pos 128 a.text.length; simp; omega
theorem encL_append (s t : List (Rose IL)) : encL (s ++ t) = encL s ++ encL t := by
  induction s with
  | nil => simp [encL]
  | cons x xs ih => simp [encL, ih]

theorem rdL_enc {k : Nat} : ∀ (s : List (Rose IL)) (f : Nat) (m : Nat) (sub : List (Rose IL)),
    (∀ x, x ∈ s → ∀ (m : Nat) (r : List UInt8), x.deep ≤ k → x.count ≤ m → rdI k (enc x ++ r) m = .ok (x, (enc x).length, m - x.count)) →
    (encL s).length < f → Rose.deepL s ≤ k → Rose.countL s ≤ m → rdL (rdI k) f (encL s) m sub = .ok (sub ++ s, m - Rose.countL s) := by
  intro s
  induction s with
  | nil =>
    intro f m sub _ hf _ _
    cases f with
    | zero => omega
    | succ f => simp [rdL, encL, Rose.countL]
  | cons x xs ih =>
    intro f m sub h hf hd hc
    cases f with
    | zero => omega
    | succ f =>
      simp only [encL, List.length_append] at hf
      simp only [Rose.deepL] at hd
      simp only [Rose.countL] at hc
      have hp := enc_pos x
      rw [show encL (x :: xs) = enc x ++ encL xs from rfl]
      simp only [rdL]
      rw [if_neg (by intro e; have := congrArg List.length e; rw [List.length_append, List.length_nil] at this; omega), h x (List.mem_cons_self ..) m _ (by omega) (by omega)]
      simp only
      rw [List.drop_left' rfl, ih f (m - x.count) (sub ++ [x]) (fun z hz => h z (List.mem_cons_of_mem _ hz)) (by omega) (by omega) (by omega)]
      simp [Rose.countL, Nat.sub_sub]

theorem rdI_enc : ∀ (k : Nat) (x : Rose IL) (m : Nat) (r : List UInt8), x.all iright = true → (enc x).length < 2 ^ 64 → x.deep ≤ k → x.count ≤ m →
    rdI k (enc x ++ r) m = .ok (x, (enc x).length, m - x.count) := by
  intro k
  induction k with
  | zero => intro x m r _ _ h; have := Rose.deep_pos x; omega
  | succ k ih =>
    intro x m r hr hl hdp hc
    have hx1 := Rose.count_pos x
    have hp := enc_pos x
    simp only [rdI]
    rw [if_neg (by intro e; have := congrArg List.length e; rw [List.length_append, List.length_nil] at this; omega), if_neg (by omega)]
    cases x with
    | node a s =>
      obtain ⟨t, li⟩ := a
      simp only [Rose.all, Bool.and_eq_true, iright, irightK] at hr
      simp only [Rose.deep] at hdp
      simp only [Rose.count] at hc
      cases li with
      | true =>
        simp only [if_true, List.isEmpty_iff] at hr
        obtain ⟨rfl, hrL⟩ := hr
        simp only [enc, if_true] at hl ⊢
        rw [List.length_append] at hl
        have key := hd_hdr (list := true) (n := (encL s).length) (body := encL s) (r := r) (by omega) rfl (fun h => by cases h)
        simp only [if_true] at key
        rw [List.append_assoc, key]
        simp only [if_true]
        rw [List.drop_left' rfl, List.take_left' rfl, rdL_enc s ((encL s).length + 1) (m - 1) [] (fun z hz m' r' h1 h2 => ?_) (by omega) (by omega) (by omega)]
        · simp [Rose.count, Nat.sub_sub]
        · obtain ⟨i, hi⟩ := List.mem_iff_getElem?.1 hz
          refine ih z m' r' ?_ ?_ h1 h2
          · cases hza : z.all iright with
            | true => rfl
            | false => rw [Rose.allL_false hi hza] at hrL; cases hrL
          · have e : encL s = encL (s.take i) ++ (enc z ++ encL (s.drop (i + 1))) := by
              have hil := (List.getElem?_eq_some_iff.1 hi)
              obtain ⟨hi1, hi2⟩ := hil
              conv => lhs; rw [← List.take_append_drop i s, List.drop_eq_getElem_cons hi1, hi2, encL_append]
              simp [encL]
            have := congrArg List.length e
            simp at this; omega
      | false =>
        simp only [Bool.false_eq_true, if_false, decide_eq_true_eq, List.length_eq_zero_iff] at hr
        obtain ⟨rfl, _⟩ := hr
        simp only [enc, Bool.false_eq_true, if_false] at hl ⊢
        by_cases hs : single t = true
        · obtain ⟨b, rfl, hb⟩ := single_len hs
          simp [single, hd, hb, Rose.count, Rose.countL]
        · rw [if_neg hs, List.length_append] at hl
          simp only [if_neg hs]
          have key := hd_hdr (list := false) (n := t.length) (body := t) (r := r) (by omega) rfl (fun _ => by simpa using hs)
          simp only [Bool.false_eq_true, if_false] at key
          rw [List.append_assoc, key]
          simp only [Bool.false_eq_true, if_false]
          rw [List.drop_left' rfl, List.take_left' rfl]
          simp [Rose.count, Rose.countL]

mutual
theorem enc_le (x : Rose IL) (h : tsz x + 9 * x.count < 2 ^ 64) : (enc x).length ≤ tsz x + 9 * x.count := by
  cases x with
  | node a s =>
    simp only [tsz, Rose.count] at h ⊢
    have h1 := encL_le s (by omega)
    simp only [enc]
    split
    · have := hdr_le 192 (encL s).length (by omega)
      simp; omega
    split
    · omega
    · have := hdr_le 128 a.text.length (by omega)
      simp; omega
theorem encL_le (s : List (Rose IL)) (h : tszL s + 9 * Rose.countL s < 2 ^ 64) : (encL s).length ≤ tszL s + 9 * Rose.countL s := by
  cases s with
  | nil => simp [encL]
  | cons x xs =>
    simp only [tszL, Rose.countL] at h ⊢
    have h1 := enc_le x (by omega)
    have h2 := encL_le xs (by omega)
    simp only [encL, List.length_append]; omega
end
end Go.Proofs.Ytopfpfpefljkkaa
