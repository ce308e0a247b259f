/- Package schema, without the program: a type's text; it is read again; what is read is put as it was. -/
import Derived.Test.YtopfpfpefljkkaaDoorSchPlain
namespace Go.Proofs.YtopfpfpefljkkaaDoor
set_option linter.unusedVariables false

def decN (n : Nat) : List UInt8 := if h : n < 10 then [UInt8.ofNat (48 + n)] else decN (n / 10) ++ [UInt8.ofNat (48 + n % 10)]
theorem decN_lt {n : Nat} (h : n < 10) : decN n = [UInt8.ofNat (48 + n)] := by rw [decN, dif_pos h]
theorem decN_ge {n : Nat} (h : 10 ≤ n) : decN n = decN (n / 10) ++ [UInt8.ofNat (48 + n % 10)] := by rw [decN, dif_neg (by omega)]

mutual
/-- A type's text. -/
def put : Rose TL → List UInt8
  | .node a s =>
    if a.kind = 1 then 117 :: decN (8 * a.size).toNat
    else if a.kind = 2 then 98 :: decN a.size.toNat
    else if a.kind = 3 then 115 :: decN a.size.toNat
    else if a.kind = 4 then 91 :: (putL true 0 s ++ 58 :: (decN a.size.toNat ++ [93]))
    else 123 :: (putL true a.tail.toNat s ++ [125])
def putL : Bool → Nat → List (Rose TL) → List UInt8
  | _, _, [] => []
  | first, t, x :: xs => (if first then [] else [44]) ++ ((if xs.length + 1 ≤ t then [63] else []) ++ (put x ++ putL false t xs))
end

theorem u8d {n : Nat} (h : n < 10) : (UInt8.ofNat (48 + n)).toNat = 48 + n := by
  have : 48 + n < 256 := by omega
  simp [UInt8.toNat_ofNat', Nat.mod_eq_of_lt this]
theorem decN_dig (n : Nat) : ∀ b, b ∈ decN n → isDig b = true := by
  induction n using Nat.strongRecOn with
  | _ n ih =>
    intro b hb
    by_cases h : n < 10
    · rw [decN_lt h] at hb
      simp at hb
      subst hb
      simp [isDig]; omega
    · rw [decN_ge (by omega)] at hb
      rcases List.mem_append.1 hb with hb | hb
      · exact ih (n / 10) (by omega) b hb
      · simp at hb
        subst hb
        have : n % 10 < 10 := by omega
        simp [isDig]; omega
theorem valD_snoc (ds : List UInt8) (b : UInt8) : valD (ds ++ [b]) = 10 * valD ds + (b.toNat - 48) := by simp [valD]
theorem valD_decN (n : Nat) : valD (decN n) = n := by
  induction n using Nat.strongRecOn with
  | _ n ih =>
    by_cases h : n < 10
    · rw [decN_lt h]; simp [valD]; omega
    · rw [decN_ge (by omega), valD_snoc, ih (n / 10) (by omega), u8d (show n % 10 < 10 by omega)]; omega
theorem decN_ne (n : Nat) : decN n ≠ [] := by
  by_cases h : n < 10
  · rw [decN_lt h]; simp
  · rw [decN_ge (by omega)]; simp
/-- The first digit of a number above 0 is not 0. -/
theorem decN_head (n : Nat) (h : 0 < n) : ∃ b r, decN n = b :: r ∧ b.toNat ≠ 48 := by
  induction n using Nat.strongRecOn with
  | _ n ih =>
    by_cases c : n < 10
    · exact ⟨_, [], decN_lt c, by rw [u8d c]; omega⟩
    · obtain ⟨b, r, e, hb⟩ := ih (n / 10) (by omega) (by omega)
      exact ⟨b, r ++ [UInt8.ofNat (48 + n % 10)], by rw [decN_ge (by omega), e]; rfl, hb⟩
theorem wellD_decN (n : Nat) : wellD (decN n) = true := by
  by_cases h : n < 10
  · rw [decN_lt h]; rfl
  · obtain ⟨b, r, e, hb⟩ := decN_head n (by omega)
    rw [e]
    cases r with
    | nil => rfl
    | cons c r => simp [wellD, hb]
theorem digs_app {ds r : List UInt8} (h : ∀ b, b ∈ ds → isDig b = true) (hr : ∀ b, r.head? = some b → isDig b = false) : digs (ds ++ r) = ds ∧ past (ds ++ r) = r := by
  induction ds with
  | nil =>
    cases r with
    | nil => exact ⟨rfl, rfl⟩
    | cons b r => simp [digs, past, hr b rfl]
  | cons b ds ih =>
    have := ih fun c hc => h c (List.mem_cons_of_mem _ hc)
    simp [digs, past, h b (List.mem_cons_self ..), this.1, this.2]
theorem num_decN {most m : Nat} {r : List UInt8} (h : m ≤ most) (hr : ∀ b, r.head? = some b → isDig b = false) : num most (decN m ++ r) = some (m, r) := by
  have := digs_app (decN_dig m) hr
  unfold num
  rw [this.1, this.2, valD_decN, wellD_decN]
  simp [h]

theorem digs_past (l : List UInt8) : digs l ++ past l = l := by
  induction l with
  | nil => rfl
  | cons b r ih => simp only [digs, past]; split <;> simp_all
theorem digs_dig (l : List UInt8) : ∀ b, b ∈ digs l → isDig b = true := by
  induction l with
  | nil => intro b h; cases h
  | cons c r ih =>
    intro b h
    simp only [digs] at h
    split at h
    · rcases List.mem_cons.1 h with h | h
      · subst h; assumption
      · exact ih b h
    · cases h
theorem decN_valD : ∀ (k : Nat) (ds : List UInt8), ds.length = k → (∀ b, b ∈ ds → isDig b = true) → wellD ds = true → decN (valD ds) = ds := by
  intro k
  induction k with
  | zero => intro ds h _ hw; rw [List.length_eq_zero_iff.1 h] at hw; cases hw
  | succ k ih =>
    intro ds h hd hw
    obtain ⟨ds', b, rfl⟩ : ∃ ds' b, ds = ds' ++ [b] := ⟨ds.dropLast, ds.getLast (by intro e; simp [e] at h), (List.dropLast_concat_getLast _).symm⟩
    have hb := hd b (by simp)
    simp only [isDig, Bool.and_eq_true, decide_eq_true_eq] at hb
    have hu : UInt8.ofNat (48 + (b.toNat - 48)) = b := by rw [show 48 + (b.toNat - 48) = b.toNat by omega]; simp
    rw [valD_snoc]
    cases ds' with
    | nil =>
      simp only [valD, List.foldl_nil, List.nil_append]
      rw [decN_lt (by omega)]
      simp only [Nat.mul_zero, Nat.zero_add, hu]
    | cons c r =>
      have hw' : wellD (c :: r) = true := by
        cases r with
        | nil => rfl
        | cons c2 r => simpa [wellD] using hw
      have hc : c.toNat ≠ 48 := by
        cases r <;> simpa [wellD] using hw
      have e := ih (c :: r) (by simpa using h) (fun x hx => hd x (by simp at hx ⊢; rcases hx with hx | hx <;> simp [hx])) hw'
      have hpos : 0 < valD (c :: r) := by
        have hc2 := hd c (by simp)
        simp only [isDig, Bool.and_eq_true, decide_eq_true_eq] at hc2
        simp only [valD, List.foldl_cons]
        exact Nat.lt_of_lt_of_le (by omega) (foldl_ge r _)
      rw [decN_ge (by omega), show (10 * valD (c :: r) + (b.toNat - 48)) / 10 = valD (c :: r) by omega, show (10 * valD (c :: r) + (b.toNat - 48)) % 10 = b.toNat - 48 by omega, e, hu]
theorem num_put {most : Nat} {l : List UInt8} {q : Nat × List UInt8} (h : num most l = some q) : l = decN q.1 ++ q.2 ∧ q.1 ≤ most := by
  unfold num at h
  split at h
  · rename_i c
    simp only [Bool.and_eq_true, decide_eq_true_eq] at c
    cases h
    exact ⟨by rw [decN_valD _ _ rfl (digs_dig l) c.1, digs_past], c.2⟩
  · cases h

/-! ### What is put is read -/
theorem put_ne (x : Rose TL) : ∃ b r, put x = b :: r ∧ b ≠ 125 ∧ b ≠ 63 := by
  cases x with
  | node a s =>
    simp only [put]
    split
    · exact ⟨_, _, rfl, by decide, by decide⟩
    split
    · exact ⟨_, _, rfl, by decide, by decide⟩
    split
    · exact ⟨_, _, rfl, by decide, by decide⟩
    split
    · exact ⟨_, _, rfl, by decide, by decide⟩
    · exact ⟨_, _, rfl, by decide, by decide⟩

theorem flds_putL {d : Nat} (t : Nat) : ∀ (s : List (Rose TL)) (f : Nat) (n : Nat) (sub : List (Rose TL)) (r : List UInt8), s ≠ [] →
    (∀ x, x ∈ s → ∀ (n : Nat) (r : List UInt8), x.count ≤ n → (∀ b, r.head? = some b → isDig b = false) → rd d (put x ++ r) n = some (x, r, n - x.count)) →
    Rose.countL s ≤ n → n < f → flds (rd d) f (putL true t s ++ 125 :: r) n sub (t - s.length) = some (.node ⟨5, 0, t⟩ (sub ++ s), r, n - Rose.countL s) ∨ t > s.length + sub.length := by
  intro s
  induction s with
  | nil => intro f n sub r h; exact absurd rfl h
  | cons x xs ih =>
    intro f n sub r _ hx hc hf
    by_cases ht : t > (x :: xs).length + sub.length
    · exact .inr ht
    left
    cases f with
    | zero => omega
    | succ f =>
      simp only [Rose.countL] at hc
      have hxc := Rose.count_pos x
      obtain ⟨b, rest, eb, hb1, hb2⟩ := put_ne x
      have hmark : ∀ tl : List UInt8, mark ((if xs.length + 1 ≤ t then [63] else []) ++ (put x ++ tl)) (t - (x :: xs).length) = some (put x ++ tl, t - xs.length) := by
        intro tl
        by_cases c : xs.length + 1 ≤ t
        · rw [if_pos c]
          simp only [List.cons_append, List.nil_append, mark, List.length_cons]
          rw [show t - (xs.length + 1) + 1 = t - xs.length by omega]
        · rw [if_neg c, List.nil_append]
          unfold mark
          rw [eb]
          simp only [List.cons_append]
          split
          · rename_i e; simp at e; exact absurd e.1 hb2
          · rw [if_neg (by simp only [List.length_cons]; omega), show t - (x :: xs).length = t - xs.length by simp only [List.length_cons]; omega]
      have e0 : putL true t (x :: xs) ++ 125 :: r = (if xs.length + 1 ≤ t then [63] else []) ++ (put x ++ (putL false t xs ++ 125 :: r)) := by simp [putL]
      rw [e0]
      simp only [flds, hmark, Option.bind_some]
      have hdig : ∀ b, (putL false t xs ++ 125 :: r).head? = some b → isDig b = false := by
        intro b hb
        cases xs with
        | nil => simp [putL] at hb; subst hb; decide
        | cons y ys => simp [putL] at hb; subst hb; decide
      rw [hx x (List.mem_cons_self ..) n _ (by omega) hdig]
      simp only [Option.bind_some]
      cases xs with
      | nil => simp [putL, Rose.countL]
      | cons y ys =>
        have e1 : putL false t (y :: ys) ++ 125 :: r = 44 :: (putL true t (y :: ys) ++ 125 :: r) := by simp [putL]
        rw [e1]
        have := ih f (n - x.count) (sub ++ [x]) r (by simp) (fun z hz => hx z (List.mem_cons_of_mem _ hz)) (by omega) (by omega)
        rcases this with this | this
        · simp only [this]
          simp [Rose.countL, Nat.sub_sub]
        · exfalso; simp only [List.length_cons, List.length_append, List.length_nil] at this ht; omega

theorem rd_put : ∀ (d : Nat) (x : Rose TL) (n : Nat) (r : List UInt8), x.all right1 = true → x.deep ≤ d → x.count ≤ n → (∀ b, r.head? = some b → isDig b = false) → rd d (put x ++ r) n = some (x, r, n - x.count) := by
  intro d
  induction d with
  | zero => intro x n r _ h; have := Rose.deep_pos x; omega
  | succ d ih =>
    intro x n r hr hd hc hdig
    have hx1 := Rose.count_pos x
    cases x with
    | node a s =>
      obtain ⟨kind, size, tail⟩ := a
      have hr2 := hr
      simp only [Rose.all, Bool.and_eq_true, right1, rightK, decide_eq_true_eq] at hr
      obtain ⟨hr0, hrL⟩ := hr
      simp only [Rose.deep] at hd
      simp only [rd]
      rw [if_neg (by omega)]
      have hsz : (size.toNat : Int) = size := by omega
      rcases hr0 with ⟨rfl, h2, h3, rfl⟩ | ⟨rfl, h2, h2', h3, rfl⟩ | ⟨rfl, h2, h2', h3, rfl⟩ | ⟨rfl, h2, h2', h3, rfl⟩ | ⟨rfl, rfl, h3, h4, h5⟩
      · obtain rfl := List.length_eq_zero_iff.1 h3
        have e8 : (8 * size).toNat = 8 * size.toNat := by omega
        simp only [put, if_true, List.cons_append, e8]
        rw [num_decN (by omega) hdig]
        simp only [Option.bind_some, Nat.mul_mod_right, if_true, show 8 * size.toNat / 8 = size.toNat by omega, hsz]
        simp [Rose.count, Rose.countL]
      · obtain rfl := List.length_eq_zero_iff.1 h3
        simp only [put, if_true, List.cons_append, if_neg (show (2 : Int) ≠ 1 by decide), if_neg (show (98 : UInt8) ≠ 117 by decide)]
        rw [num_decN (by omega) hdig]
        simp only [Option.bind_some, hsz]
        simp [Rose.count, Rose.countL]
      · obtain rfl := List.length_eq_zero_iff.1 h3
        simp only [put, if_true, List.cons_append, if_neg (show (3 : Int) ≠ 1 by decide), if_neg (show (3 : Int) ≠ 2 by decide), if_neg (show (115 : UInt8) ≠ 117 by decide), if_neg (show (115 : UInt8) ≠ 98 by decide)]
        rw [num_decN (by omega) hdig]
        simp only [Option.bind_some, hsz]
        simp [Rose.count, Rose.countL]
      · obtain ⟨x, rfl⟩ : ∃ x, s = [x] := List.length_eq_one_iff.1 h3
        simp only [put, putL, if_true, List.cons_append, if_neg (show (4 : Int) ≠ 1 by decide), if_neg (show (4 : Int) ≠ 2 by decide), if_neg (show (4 : Int) ≠ 3 by decide), if_neg (show (91 : UInt8) ≠ 117 by decide), if_neg (show (91 : UInt8) ≠ 98 by decide), if_neg (show (91 : UInt8) ≠ 115 by decide)]
        simp only [Rose.count, Rose.countL] at hc
        simp only [Rose.deepL] at hd
        simp only [Rose.allL, Bool.and_eq_true] at hrL
        have e : (([] : List UInt8) ++ ((if ([] : List (Rose TL)).length + 1 ≤ 0 then [63] else []) ++ (put x ++ [])) ++ 58 :: (decN size.toNat ++ [93]) ++ r) = put x ++ 58 :: (decN size.toNat ++ 93 :: r) := by simp
        rw [e, ih x (n - 1) _ hrL.1 (by omega) (by omega) (by intro b hb; simp at hb; subst hb; decide)]
        simp only [Option.bind_some]
        rw [num_decN (by omega) (by intro b hb; simp at hb; subst hb; decide)]
        simp only [Option.bind_some, hsz, Rose.count, Rose.countL]
        have e : n - 1 - x.count = n - (1 + (x.count + 0)) := by omega
        rw [e]
      · simp only [put, if_true, List.cons_append, if_neg (show (5 : Int) ≠ 1 by decide), if_neg (show (5 : Int) ≠ 2 by decide), if_neg (show (5 : Int) ≠ 3 by decide), if_neg (show (5 : Int) ≠ 4 by decide), if_neg (show (123 : UInt8) ≠ 117 by decide), if_neg (show (123 : UInt8) ≠ 98 by decide), if_neg (show (123 : UInt8) ≠ 115 by decide), if_neg (show (123 : UInt8) ≠ 91 by decide)]
        simp only [Rose.count] at hc
        cases s with
        | nil =>
          have : tail = 0 := by simp at h5; omega
          subst this
          simp [putL, Rose.count, Rose.countL]
        | cons y ys =>
          have htl : (tail.toNat : Int) = tail := by omega
          have hL : ∀ z, z ∈ y :: ys → z.all right1 = true ∧ z.deep ≤ d := by
            intro z hz
            obtain ⟨i, hi⟩ := List.mem_iff_getElem?.1 hz
            have h1 := Rose.allL_take hi (p := right1)
            have h2 := Rose.deepL_take hi
            refine ⟨?_, ?_⟩
            · cases hza : z.all right1 with
              | true => rfl
              | false => rw [Rose.allL_false hi hza] at hrL; cases hrL
            · have : Rose.deepL ((y :: ys).take (i + 1)) ≤ Rose.deepL (y :: ys) := by
                conv => rhs; rw [← List.take_append_drop (i + 1) (y :: ys), Rose.deepL_append]
                exact Nat.le_max_left _ _
              omega
          have key := flds_putL (d := d) tail.toNat (y :: ys) (n + 1) (n - 1) [] r (by simp) (fun z hz m r' h1 h2 => ih z m r' (hL z hz).1 (hL z hz).2 h1 h2) (by omega) (by omega)
          have hle : tail.toNat ≤ (y :: ys).length := by omega
          rcases key with key | key
          · have e1 : putL true tail.toNat (y :: ys) ++ [125] ++ r = putL true tail.toNat (y :: ys) ++ 125 :: r := by simp
            rw [e1]
            split
            · rename_i r1 e2
              exfalso
              obtain ⟨b, rest, eb, hb1, hb2⟩ := put_ne y
              simp only [putL, if_true, List.nil_append, eb] at e2
              split at e2 <;> simp at e2
              exact hb1 e2.1
            · rw [show tail.toNat - (y :: ys).length = 0 by omega] at key
              rw [key, htl]
              simp only [List.nil_append, Rose.count]
              have e3 : n - 1 - Rose.countL (y :: ys) = n - (1 + Rose.countL (y :: ys)) := by omega
              rw [e3]
          · exfalso; simp only [List.length_nil] at key; omega

/-! ### What is read is put as it was -/
theorem flds_put {d : Nat} (h : ∀ l n y, rd d l n = some y → l = put y.1 ++ y.2.1) : ∀ (f : Nat) (l : List UInt8) (n : Nat) (sub : List (Rose TL)) (tail : Nat) (y : Rose TL × List UInt8 × Nat), flds (rd d) f l n sub tail = some y →
    ∃ s t, y.1 = .node ⟨5, 0, (t : Nat)⟩ (sub ++ s) ∧ s ≠ [] ∧ (0 < tail → t = tail + s.length) ∧ (tail = 0 → t ≤ s.length) ∧ l = putL true t s ++ 125 :: y.2.1 := by
  intro f
  induction f with
  | zero => intro l n sub tail y hy; simp [flds] at hy
  | succ f ih =>
    intro l n sub tail y hy
    simp only [flds, Option.bind_eq_some_iff] at hy
    obtain ⟨q, hq, x, hx, hy⟩ := hy
    have hl := h _ _ _ hx
    -- what stood ahead
    have hm : (l = 63 :: q.1 ∧ q.2 = tail + 1) ∨ (l = q.1 ∧ q.2 = 0 ∧ tail = 0) := by
      unfold mark at hq
      split at hq
      · cases hq; exact .inl ⟨rfl, rfl⟩
      · split at hq
        · cases hq
        · rename_i c; cases hq; exact .inr ⟨rfl, by omega, by omega⟩
    split at hy
    · rename_i r e
      cases hy
      refine ⟨[x.1], q.2, rfl, by simp, ?_, ?_, ?_⟩
      · intro ht; rcases hm with ⟨_, h2⟩ | ⟨_, _, h2⟩ <;> simp <;> omega
      · intro ht; rcases hm with ⟨_, h2⟩ | ⟨_, h2, _⟩ <;> simp <;> omega
      · rcases hm with ⟨h1, h2⟩ | ⟨h1, h2, h3⟩
        · have : 1 ≤ q.2 := by omega
          rw [h1, hl, e]; simp [putL, this]
        · rw [h1, hl, e]; simp [putL, h2]
    · rename_i r e
      obtain ⟨s, t, e1, e2, e3, e4, e5⟩ := ih _ _ _ _ _ hy
      refine ⟨x.1 :: s, t, by rw [e1]; simp, by simp, ?_, ?_, ?_⟩
      · intro ht; rcases hm with ⟨_, h2⟩ | ⟨_, _, h2⟩
        · have := e3 (by omega); simp only [List.length_cons]; omega
        · omega
      · intro ht; rcases hm with ⟨_, h2⟩ | ⟨_, h2, _⟩
        · have := e3 (by omega); simp only [List.length_cons]; omega
        · have := e4 h2; simp only [List.length_cons]; omega
      · have e6 : putL true t (x.1 :: s) ++ 125 :: y.2.1 = (if s.length + 1 ≤ t then [63] else []) ++ (put x.1 ++ 44 :: (putL true t s ++ 125 :: y.2.1)) := by
          cases s with
          | nil => exact absurd rfl e2
          | cons z zs => simp [putL]
        rw [e6, ← e5]
        rcases hm with ⟨h1, h2⟩ | ⟨h1, h2, h3⟩
        · have := e3 (by omega)
          rw [h1, hl, e, if_pos (by omega)]; simp
        · have := e4 h2
          rw [h1, hl, e, if_neg (by omega)]; simp
    · cases hy

theorem put_rd : ∀ (d : Nat) (l : List UInt8) (n : Nat) (y : Rose TL × List UInt8 × Nat), rd d l n = some y → l = put y.1 ++ y.2.1 := by
  intro d
  induction d with
  | zero => intro l n y h; simp [rd] at h
  | succ d ih =>
    intro l n y h
    simp only [rd] at h
    split at h
    · cases h
    cases l with
    | nil => simp at h
    | cons b r =>
      simp only at h
      split at h
      · rename_i e; subst e
        simp only [Option.bind_eq_some_iff] at h
        obtain ⟨q, h1, h2⟩ := h
        obtain ⟨h3, _⟩ := num_put h1
        split at h2
        · rename_i c
          cases h2
          have e8 : (8 * ((q.1 / 8 : Nat) : Int)).toNat = q.1 := by omega
          simp only [put, if_true, e8, List.cons_append, ← h3]
        · cases h2
      split at h
      · rename_i e; subst e
        simp only [Option.bind_eq_some_iff] at h
        obtain ⟨q, h1, h2⟩ := h
        obtain ⟨h3, _⟩ := num_put h1
        cases h2
        simp only [put, if_neg (show (2 : Int) ≠ 1 by decide), if_true, Int.toNat_natCast, List.cons_append, ← h3]
      split at h
      · rename_i e; subst e
        simp only [Option.bind_eq_some_iff] at h
        obtain ⟨q, h1, h2⟩ := h
        obtain ⟨h3, _⟩ := num_put h1
        cases h2
        simp only [put, if_neg (show (3 : Int) ≠ 1 by decide), if_neg (show (3 : Int) ≠ 2 by decide), if_true, Int.toNat_natCast, List.cons_append, ← h3]
      split at h
      · rename_i e; subst e
        simp only [Option.bind_eq_some_iff] at h
        obtain ⟨x, h1, h2⟩ := h
        have hx := ih _ _ _ h1
        split at h2
        · rename_i r2 e2
          simp only [Option.bind_eq_some_iff] at h2
          obtain ⟨q, h3, h4⟩ := h2
          obtain ⟨h5, _⟩ := num_put h3
          split at h4
          · rename_i r4 e4
            cases h4
            rw [e2, h5, e4] at hx
            simp only [put, putL, if_neg (show (4 : Int) ≠ 1 by decide), if_neg (show (4 : Int) ≠ 2 by decide), if_neg (show (4 : Int) ≠ 3 by decide), if_true, Int.toNat_natCast, List.cons_append]
            rw [hx]; simp
          · cases h4
        · cases h2
      split at h
      · rename_i e; subst e
        split at h
        · cases h
          simp [put, putL]
        · obtain ⟨s, t, e1, e2, e3, e4, e5⟩ := flds_put ih _ _ _ _ _ _ h
          rw [e1]
          simp only [put, if_neg (show (5 : Int) ≠ 1 by decide), if_neg (show (5 : Int) ≠ 2 by decide), if_neg (show (5 : Int) ≠ 3 by decide), if_neg (show (5 : Int) ≠ 4 by decide), Int.toNat_natCast, List.cons_append, List.nil_append]
          rw [e5]; simp
      · cases h

theorem getT_put {x : Rose TL} (h : mayT x = true) : getT (put x) = some x := by
  have h' := h
  simp only [mayT, Bool.and_eq_true, decide_eq_true_eq] at h'
  have := rd_put 8 x 64 [] h'.2 h'.1.2 h'.1.1 (fun b hb => by simp at hb)
  rw [List.append_nil] at this
  unfold getT
  rw [this]
  simp [h]
theorem put_getT {l : List UInt8} {x : Rose TL} (h : getT l = some x) : put x = l ∧ mayT x = true := by
  unfold getT at h
  split at h
  · rename_i y n e
    split at h
    · rename_i c
      cases h
      have := put_rd _ _ _ _ e
      simp at this
      exact ⟨this.symm, c⟩
    · cases h
  · cases h
end Go.Proofs.YtopfpfpefljkkaaDoor
