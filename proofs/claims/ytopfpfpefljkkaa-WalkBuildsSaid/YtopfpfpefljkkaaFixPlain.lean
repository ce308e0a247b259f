/- Plain facts about numbers by digits of base 256: no program in sight. -/
import Derived.WalkKit
namespace Go.Proofs.Ytopfpfpefljkkaa
set_option linter.unusedVariables false

/-- The lowest k digits of base 256, the lowest first. -/
def leN : Nat → Nat → List UInt8
  | 0, _ => []
  | k + 1, n => UInt8.ofNat (n % 256) :: leN k (n / 256)
/-- What bytes are worth, the lowest first. -/
def valL : List UInt8 → Nat
  | [] => 0
  | b :: r => b.toNat + 256 * valL r
/-- The digits of base 256 that there are, the lowest first. -/
def lsN (n : Nat) : List UInt8 := if h : n = 0 then [] else UInt8.ofNat (n % 256) :: lsN (n / 256)
termination_by n
decreasing_by omega
theorem lsN_zero : lsN 0 = [] := by rw [lsN, dif_pos rfl]
theorem lsN_pos (n : Nat) (h : 0 < n) : lsN n = UInt8.ofNat (n % 256) :: lsN (n / 256) := by rw [lsN, dif_neg (by omega)]

@[simp] theorem leN_length : ∀ (k n : Nat), (leN k n).length = k
  | 0, _ => rfl
  | k + 1, n => by simp [leN, leN_length k]

theorem u8n (n : Nat) (h : n < 256) : (UInt8.ofNat n).toNat = n := by
  show n % 256 = n
  exact Nat.mod_eq_of_lt h

theorem leN_get : ∀ (k n i : Nat), i < k → (leN k n)[i]? = some (UInt8.ofNat (n / 256 ^ i % 256))
  | 0, _, _, h => by omega
  | k + 1, n, 0, h => by simp [leN]
  | k + 1, n, i + 1, h => by
    rw [leN, List.getElem?_cons_succ, leN_get k (n / 256) i (by omega), Nat.div_div_eq_div_mul, Nat.pow_succ, Nat.mul_comm 256]

theorem leN_succ : ∀ (k n : Nat), leN (k + 1) n = leN k n ++ [UInt8.ofNat (n / 256 ^ k % 256)]
  | 0, n => by simp [leN]
  | k + 1, n => by
    rw [leN, leN_succ k (n / 256), leN, Nat.div_div_eq_div_mul, Nat.pow_succ, Nat.mul_comm 256]; rfl

theorem valL_leN : ∀ (k n : Nat), n < 256 ^ k → valL (leN k n) = n
  | 0, n, h => by simp at h; subst h; rfl
  | k + 1, n, h => by
    rw [leN, valL, u8n _ (by omega), valL_leN k (n / 256) (by rw [Nat.pow_succ] at h; omega)]; omega

theorem valL_lt : ∀ (l : List UInt8), valL l < 256 ^ l.length
  | [] => by simp [valL]
  | b :: r => by
    have := valL_lt r
    have hb := b.toNat_lt
    rw [valL, List.length_cons, Nat.pow_succ]; omega

theorem u8e {b : UInt8} {n : Nat} (h : n = b.toNat) : UInt8.ofNat n = b := by subst h; simp

theorem leN_valL : ∀ (l : List UInt8), leN l.length (valL l) = l
  | [] => rfl
  | b :: r => by
    have hb := b.toNat_lt
    rw [valL, List.length_cons, leN, u8e (b := b) (by omega), show (b.toNat + 256 * valL r) / 256 = valL r by omega, leN_valL r]

theorem valL_append : ∀ (l m : List UInt8), valL (l ++ m) = valL l + 256 ^ l.length * valL m
  | [], m => by simp [valL]
  | b :: r, m => by
    rw [List.cons_append, valL, valL, valL_append r m, List.length_cons, Nat.pow_succ, Nat.mul_comm (256 ^ r.length) 256, Nat.mul_assoc]; omega

theorem lsN_le : ∀ (k n : Nat), n < 256 ^ k → (lsN n).length ≤ k
  | 0, n, h => by simp at h; subst h; simp [lsN_zero]
  | k + 1, n, h => by
    by_cases c : n = 0
    · subst c; simp [lsN_zero]
    · rw [lsN_pos n (by omega), List.length_cons]
      have := lsN_le k (n / 256) (by rw [Nat.pow_succ] at h; omega)
      omega

/-- Its digits and noughts behind them are as many digits as one likes. -/
theorem leN_pad : ∀ (k n : Nat), n < 256 ^ k → leN k n = lsN n ++ List.replicate (k - (lsN n).length) 0
  | 0, n, h => by simp at h; subst h; simp [lsN_zero, leN]
  | k + 1, n, h => by
    by_cases c : n = 0
    · subst c
      have := leN_pad k 0 (Nat.pow_pos (by decide))
      simp only [lsN_zero, List.nil_append, List.length_nil, Nat.sub_zero] at this ⊢
      rw [leN, this]; rfl
    · rw [lsN_pos n (by omega), leN, leN_pad k (n / 256) (by rw [Nat.pow_succ] at h; omega), List.length_cons, List.cons_append, Nat.add_sub_add_right]

theorem valL_lsN (n : Nat) : valL (lsN n) = n := by
  induction n using Nat.strongRecOn with
  | _ n ih =>
    by_cases c : n = 0
    · subst c; simp [lsN_zero, valL]
    · rw [lsN_pos n (by omega), valL, ih (n / 256) (by omega), u8n _ (by omega)]; omega

/-- It has more digits than k just when it doesn't fit. -/
theorem lsN_len (k n : Nat) : (lsN n).length ≤ k ↔ n < 256 ^ k := by
  refine ⟨fun h => ?_, lsN_le k n⟩
  have := valL_lt (lsN n)
  rw [valL_lsN] at this
  exact Nat.lt_of_lt_of_le this (Nat.pow_le_pow_right (by decide) h)

theorem lsN_eq (n : Nat) : lsN n = leN (lsN n).length n := by
  have := leN_pad (lsN n).length n ((lsN_len _ _).1 (Nat.le_refl _))
  simpa using this.symm

/-- Bytes whose last one isn't 0 are the digits of what they are worth. -/
theorem lsN_valL : ∀ (l : List UInt8) (b : UInt8), b.toNat ≠ 0 → lsN (valL (l ++ [b])) = l ++ [b]
  | [], b, h => by
    have hb := b.toNat_lt
    simp only [List.nil_append, valL, Nat.mul_zero, Nat.add_zero]
    rw [lsN_pos _ (by omega), show b.toNat / 256 = 0 by omega, lsN_zero, u8e (b := b) (by omega)]
  | a :: r, b, h => by
    have ih := lsN_valL r b h
    have ha := a.toNat_lt
    have h0 : 0 < valL (r ++ [b]) := by
      rw [valL_append, valL, valL]
      have := Nat.pow_pos (n := r.length) (show 0 < 256 by decide)
      have := Nat.mul_pos this (show 0 < b.toNat + 256 * 0 by omega)
      omega
    rw [List.cons_append, valL, lsN_pos _ (by omega), show (a.toNat + 256 * valL (r ++ [b])) / 256 = valL (r ++ [b]) by omega, ih, u8e (b := a) (by omega)]

theorem lsN_last (n : Nat) (h : 0 < n) : ∃ l b, lsN n = l ++ [b] ∧ b.toNat ≠ 0 := by
  induction n using Nat.strongRecOn with
  | _ n ih =>
    by_cases c : n < 256
    · refine ⟨[], UInt8.ofNat n, ?_, by rw [u8n n c]; omega⟩
      rw [lsN_pos n h, show n / 256 = 0 by omega, lsN_zero, Nat.mod_eq_of_lt c]; rfl
    · obtain ⟨l, b, h1, h2⟩ := ih (n / 256) (by omega) (by omega)
      exact ⟨UInt8.ofNat (n % 256) :: l, b, by rw [lsN_pos n h, h1]; rfl, h2⟩

/-- What bytes are worth, the highest first: as it is reckoned. -/
def valB (l : List UInt8) : Nat := valL l.reverse
theorem valB_nil : valB [] = 0 := rfl
theorem valB_snoc (l : List UInt8) (b : UInt8) : valB (l ++ [b]) = 256 * valB l + b.toNat := by
  unfold valB; rw [List.reverse_append]; simp [valL]; omega
theorem valB_lt (l : List UInt8) : valB l < 256 ^ l.length := by
  have := valL_lt l.reverse
  rwa [List.length_reverse] at this
theorem valL_snoc (l : List UInt8) (b : UInt8) : valL (l ++ [b]) = valL l + 256 ^ l.length * b.toNat := by
  rw [valL_append]; simp [valL]

/-- The order of texts of one size, the highest first, is the order of numbers. -/
theorem beN_lt : ∀ (k a b : Nat), a < 256 ^ k → b < 256 ^ k → ((leN k a).reverse < (leN k b).reverse ↔ a < b)
  | 0, a, b, ha, hb => by simp at ha hb; subst ha hb; simp [leN]
  | k + 1, a, b, ha, hb => by
    have hp := Nat.pow_pos (n := k) (show 0 < 256 by decide)
    rw [Nat.pow_succ] at ha hb
    have hqa : a / 256 ^ k < 256 := Nat.div_lt_of_lt_mul ha
    have hqb : b / 256 ^ k < 256 := Nat.div_lt_of_lt_mul hb
    have key : ∀ n, leN k n = leN k (n % 256 ^ k) := by
      intro n
      apply List.ext_getElem?
      intro i
      by_cases hi : i < k
      · rw [leN_get k _ i hi, leN_get k _ i hi]
        have : n % 256 ^ k / 256 ^ i % 256 = n / 256 ^ i % 256 := by
          have e : 256 ^ k = 256 ^ i * 256 * 256 ^ (k - i - 1) := by
            rw [← Nat.pow_succ, ← Nat.pow_add]; congr 1; omega
          rw [e, Nat.mul_assoc, Nat.mod_mul_right_div_self, Nat.mod_mul_right_mod]
        rw [this]
      · rw [List.getElem?_eq_none (by simp; omega), List.getElem?_eq_none (by simp; omega)]
    rw [leN_succ, leN_succ, List.reverse_append, List.reverse_append, List.reverse_singleton, List.reverse_singleton, List.singleton_append, List.singleton_append, List.cons_lt_cons_iff,
      Nat.mod_eq_of_lt hqa, Nat.mod_eq_of_lt hqb, key a, key b, beN_lt k _ _ (Nat.mod_lt _ hp) (Nat.mod_lt _ hp), UInt8.lt_iff_toNat_lt, u8n _ hqa, u8n _ hqb]
    have e1 : UInt8.ofNat (a / 256 ^ k) = UInt8.ofNat (b / 256 ^ k) ↔ a / 256 ^ k = b / 256 ^ k :=
      ⟨fun h => by have := congrArg UInt8.toNat h; rwa [u8n _ hqa, u8n _ hqb] at this, fun h => by rw [h]⟩
    rw [e1]
    have da := Nat.div_add_mod a (256 ^ k)
    have db := Nat.div_add_mod b (256 ^ k)
    have ma := Nat.mod_lt a hp
    have mb := Nat.mod_lt b hp
    constructor
    · rintro (h | ⟨h1, h2⟩)
      · have : 256 ^ k * (a / 256 ^ k + 1) ≤ 256 ^ k * (b / 256 ^ k) := Nat.mul_le_mul_left _ h
        rw [Nat.mul_add] at this; omega
      · rw [h1] at da; omega
    · intro h
      rcases Nat.lt_trichotomy (a / 256 ^ k) (b / 256 ^ k) with h1 | h1 | h1
      · exact .inl h1
      · refine .inr ⟨h1, ?_⟩; rw [h1] at da; omega
      · have : 256 ^ k * (b / 256 ^ k + 1) ≤ 256 ^ k * (a / 256 ^ k) := Nat.mul_le_mul_left _ h1
        rw [Nat.mul_add] at this; omega
theorem leN_inj (k a b : Nat) (ha : a < 256 ^ k) (hb : b < 256 ^ k) : leN k a = leN k b ↔ a = b :=
  ⟨fun h => by rw [← valL_leN k a ha, ← valL_leN k b hb, h], fun h => by rw [h]⟩
end Go.Proofs.Ytopfpfpefljkkaa
