/- Plain laws of numbers by digits of seven bits. -/
import Derived.Test.YtemfecdpjegocaaLebPlain
namespace Go.Proofs.Ytemfecdpjegocaa
set_option linter.unusedVariables false

theorem lebPut_pos (n : Nat) : 1 ≤ (lebPut n).length := by
  by_cases c : n < 128
  · rw [lebPut_lo n c]; simp
  · rw [lebPut_hi n (by omega)]; simp

theorem u8_eq {b : UInt8} {n : Nat} (h : n = b.toNat) : UInt8.ofNat n = b := by subst h; simp

theorem leb_back : ∀ (r : List UInt8) (i acc N K : Nat), i ≤ 9 → acc < 128 ^ i → lebNext r i acc = (N, K, 0) →
    ∃ m, N = acc + m * 128 ^ i ∧ N < 18446744073709551616 ∧ K = i + (lebPut m).length ∧ (0 < i → 0 < m) ∧ lebPut m <+: r
  | [], i, acc, N, K, hi, ha, h => by simp [lebNext] at h
  | b :: r, i, acc, N, K, hi, ha, h => by
    rw [lebNext] at h
    by_cases c : i = 9 ∧ 1 < b.toNat ∨ 0 < i ∧ b.toNat = 0
    · rw [if_pos c] at h; simp at h
    · rw [if_neg c] at h
      have hb := b.toNat_lt
      by_cases c2 : b.toNat < 128
      · rw [if_pos c2] at h
        simp only [Prod.mk.injEq] at h
        have hlt := leb_lt i b.toNat hi (by omega)
        have e : b.toNat % 128 = b.toNat := by omega
        rw [e] at h hlt
        refine ⟨b.toNat, h.1.symm, by omega, ?_, by omega, ?_⟩
        · rw [lebPut_lo _ c2]; exact h.2.1.symm
        · rw [lebPut_lo _ c2, u8_eq rfl]; exact ⟨r, rfl⟩
      · rw [if_neg c2] at h
        have hi9 : i ≤ 8 := by omega
        have ha' : acc + b.toNat % 128 * 128 ^ i < 128 ^ (i + 1) := by
          have : b.toNat % 128 ≤ 127 := by omega
          have h2 := Nat.mul_le_mul_right (128 ^ i) this
          rw [Nat.pow_succ]; omega
        obtain ⟨m, h1, h2, h3, h4, h5⟩ := leb_back r (i + 1) _ N K (by omega) ha' h
        have hm := h4 (by omega)
        have e1 : (b.toNat % 128 + 128 * m) % 128 + 128 = b.toNat := by omega
        have e2 : (b.toNat % 128 + 128 * m) / 128 = m := by omega
        have e3 : lebPut (b.toNat % 128 + 128 * m) = b :: lebPut m := by
          rw [lebPut_hi _ (by omega), e1, e2, u8_eq rfl]
        refine ⟨b.toNat % 128 + 128 * m, ?_, h2, ?_, by omega, ?_⟩
        · rw [h1, Nat.pow_succ, Nat.add_mul]
          have : m * (128 ^ i * 128) = 128 * m * 128 ^ i := by rw [Nat.mul_comm (128 ^ i) 128, ← Nat.mul_assoc, Nat.mul_comm m 128]
          omega
        · rw [e3, h3]; simp only [List.length_cons]; omega
        · rw [e3]; exact List.cons_prefix_cons.2 ⟨rfl, h5⟩

theorem lebNext_ok {l : List UInt8} {N K : Nat} (h : lebNext l 0 0 = (N, K, 0)) : K ≤ l.length ∧ N < 18446744073709551616 ∧ lebPut N = l.take K ∧ K ≤ 10 := by
  obtain ⟨m, h1, h2, h3, _, h5⟩ := leb_back l 0 0 N K (by omega) (by simp) h
  simp at h1 h3
  subst h1
  refine ⟨by rw [h3]; exact h5.length_le, h2, ?_, ?_⟩
  · rw [h3]; exact (List.prefix_iff_eq_take.1 h5)
  · have := lebPut_le 10 N (Nat.lt_of_lt_of_le h2 (by decide))
    omega

theorem leb_there : ∀ (k m : Nat) (more : List UInt8) (i acc : Nat), m < 128 ^ k → (0 < i → 0 < m) → i ≤ 9 → m * 128 ^ i < 18446744073709551616 →
    lebNext (lebPut m ++ more) i acc = (acc + m * 128 ^ i, i + (lebPut m).length, 0)
  | k, m, more, i, acc, hm, hi0, hi, hlt => by
    have h9 : i = 9 → m ≤ 1 := by
      rintro rfl
      by_cases c : m ≤ 1
      · exact c
      · have := Nat.mul_le_mul_right (128 ^ 9) (show 2 ≤ m by omega)
        have h0 : 2 * 128 ^ 9 = 18446744073709551616 := by decide +kernel
        omega
    by_cases c : m < 128
    · rw [lebPut_lo m c, List.singleton_append, lebNext]
      have e := u8_ofNat m (by omega)
      rw [e, if_neg (by omega), if_pos c, Nat.mod_eq_of_lt c]; rfl
    · match k, hm with
      | 0, hm => simp at hm; omega
      | k + 1, hm =>
      have hi8 : i ≤ 8 := by omega
      rw [lebPut_hi m (by omega), List.cons_append, lebNext]
      have e := u8_ofNat (m % 128 + 128) (by omega)
      rw [e, if_neg (by omega), if_neg (by omega)]
      have e2 : m / 128 * 128 ^ (i + 1) = m / 128 * 128 * 128 ^ i := by rw [Nat.pow_succ, Nat.mul_comm (128 ^ i) 128, ← Nat.mul_assoc]
      have e3 : m * 128 ^ i = m / 128 * 128 * 128 ^ i + m % 128 * 128 ^ i := by rw [← Nat.add_mul]; congr 1; omega
      rw [leb_there k (m / 128) more (i + 1) _ (by rw [Nat.pow_succ] at hm; omega) (by omega) (by omega) (by rw [e2]; omega), e2]
      have e4 : (m % 128 + 128) % 128 = m % 128 := by omega
      rw [e4]
      simp only [Prod.mk.injEq, List.length_cons, and_true]
      omega

theorem lebNext_put (n : Nat) (more : List UInt8) (h : n < 18446744073709551616) : lebNext (lebPut n ++ more) 0 0 = (n, (lebPut n).length, 0) := by
  have := leb_there 10 n more 0 0 (Nat.lt_of_lt_of_le h (by decide)) (by omega) (by omega) (by simpa using h)
  simpa using this

/-- An error's results. -/
theorem lebNext_bad : ∀ (l : List UInt8) (i n : Nat), (lebNext l i n).2.2 = 0 ∨ lebNext l i n = (0, 0, 2) ∨ lebNext l i n = (0, 0, 3)
  | [], i, n => .inr (.inl rfl)
  | b :: r, i, n => by
    rw [lebNext]
    split
    · exact .inr (.inr rfl)
    · split
      · exact .inl rfl
      · exact lebNext_bad r _ _

/-- A beginning is short, or tells what all tell. -/
theorem lebNext_take : ∀ (l : List UInt8) (c i n : Nat), lebNext (l.take c) i n = (0, 0, 2) ∨ lebNext (l.take c) i n = lebNext l i n
  | [], c, i, n => by simp
  | b :: r, 0, i, n => .inl (by simp [lebNext])
  | b :: r, c + 1, i, n => by
    rw [List.take_succ_cons, lebNext, lebNext]
    split
    · exact .inr rfl
    · split
      · exact .inr rfl
      · exact lebNext_take r c _ _
end Go.Proofs.Ytemfecdpjegocaa
