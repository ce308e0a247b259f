/- Plain facts about numbers by a first byte that says how many there are: no program in sight. -/
import Derived.Test.YtknokfofjhlkeaaDoorFixPlain
namespace Go.Proofs.YtknokfofjhlkeaaDoor
set_option linter.unusedVariables false
/-- A number's first byte, by its size. -/
def cHead (n : Nat) : Nat := if n < 253 then n else if n < 65536 then 253 else if n < 4294967296 then 254 else 255
/-- How many bytes stand behind it. -/
def cBehind (b : Nat) : Nat := if b < 253 then 0 else if b = 253 then 2 else if b = 254 then 4 else 8
def cPut (n : Nat) : List UInt8 := UInt8.ofNat (cHead n) :: leN (cBehind (cHead n)) n
/-- The number with whose bytes a text begins, how many they are, the error. -/
def cNext : List UInt8 → Nat × Nat × Nat
  | [] => (0, 0, 2)
  | b :: r => if b.toNat < 253 then (b.toNat, 1, 0) else
    if r.length < cBehind b.toNat then (0, 0, 2) else
    if cHead (valL (r.take (cBehind b.toNat))) ≠ b.toNat then (0, 0, 3) else (valL (r.take (cBehind b.toNat)), 1 + cBehind b.toNat, 0)

theorem cHead_lt (n : Nat) : cHead n < 256 := by unfold cHead; (repeat' split) <;> omega
theorem cBehind_le (b : Nat) : cBehind b ≤ 8 := by unfold cBehind; (repeat' split) <;> omega
theorem cFits (n : Nat) (h : n < 18446744073709551616) (c : 253 ≤ n) : n < 256 ^ cBehind (cHead n) := by
  unfold cHead cBehind
  repeat' split
  all_goals first | omega | (simp; omega)
theorem cPut_len (n : Nat) : (cPut n).length = 1 + cBehind (cHead n) := by unfold cPut; simp; omega
theorem cPut_le (n : Nat) : (cPut n).length ≤ 9 := by rw [cPut_len]; have := cBehind_le (cHead n); omega
theorem cHead_lo (n : Nat) (h : n < 253) : cHead n = n := by unfold cHead; rw [if_pos h]
theorem cHead_hi (n : Nat) (h : 253 ≤ n) : 253 ≤ cHead n := by unfold cHead; (repeat' split) <;> omega
theorem cBehind_lo (n : Nat) (h : n < 253) : cBehind n = 0 := by unfold cBehind; rw [if_pos h]
theorem cPut_lo (n : Nat) (h : n < 253) : cPut n = [UInt8.ofNat n] := by unfold cPut; rw [cHead_lo n h, cBehind_lo n h]; rfl
theorem cPut_2 (n : Nat) (h : 253 ≤ n) (h2 : n < 65536) : cPut n = 253 :: leN 2 n := by
  have : cHead n = 253 := by unfold cHead; rw [if_neg (by omega), if_pos h2]
  unfold cPut; rw [this]; rfl
theorem cPut_4 (n : Nat) (h : 65536 ≤ n) (h2 : n < 4294967296) : cPut n = 254 :: leN 4 n := by
  have : cHead n = 254 := by unfold cHead; rw [if_neg (by omega), if_neg (by omega), if_pos h2]
  unfold cPut; rw [this]; rfl
theorem cPut_8 (n : Nat) (h : 4294967296 ≤ n) : cPut n = 255 :: leN 8 n := by
  have : cHead n = 255 := by unfold cHead; rw [if_neg (by omega), if_neg (by omega), if_neg (by omega)]
  unfold cPut; rw [this]; rfl

theorem cNext_put (n : Nat) (more : List UInt8) (h : n < 18446744073709551616) : cNext (cPut n ++ more) = (n, (cPut n).length, 0) := by
  rw [cPut_len]
  unfold cPut
  rw [List.cons_append, cNext, u8n _ (cHead_lt n)]
  by_cases c : n < 253
  · rw [cHead_lo n c, if_pos c, cBehind_lo n c]
  · have h1 := cHead_hi n (by omega)
    rw [if_neg (by omega), if_neg (by simp)]
    have e : (leN (cBehind (cHead n)) n ++ more).take (cBehind (cHead n)) = leN (cBehind (cHead n)) n := by
      have := List.take_left' (l₁ := leN (cBehind (cHead n)) n) (l₂ := more) (leN_length (cBehind (cHead n)) n)
      exact this
    rw [e, valL_leN _ _ (cFits n h (by omega)), if_neg (by simp)]
theorem cNext_bad (l : List UInt8) : (cNext l).2.2 = 0 ∨ cNext l = (0, 0, 2) ∨ cNext l = (0, 0, 3) := by
  cases l with
  | nil => exact .inr (.inl rfl)
  | cons b r =>
    rw [cNext]
    split
    · exact .inl rfl
    · split
      · exact .inr (.inl rfl)
      · split
        · exact .inr (.inr rfl)
        · exact .inl rfl
theorem cNext_ok {l : List UInt8} {N K : Nat} (h : cNext l = (N, K, 0)) : K ≤ l.length ∧ N < 18446744073709551616 ∧ cPut N = l.take K ∧ K ≤ 9 := by
  cases l with
  | nil => simp [cNext] at h
  | cons b r =>
    rw [cNext] at h
    have hb := b.toNat_lt
    split at h
    · rename_i c
      simp only [Prod.mk.injEq, and_true] at h
      obtain ⟨rfl, rfl⟩ := h
      refine ⟨by simp, by omega, ?_, by omega⟩
      rw [cPut_lo _ c]; simp
    · split at h
      · simp at h
      · split at h
        · simp at h
        · rename_i c1 c2 c3
          simp only [Prod.mk.injEq, and_true] at h
          obtain ⟨rfl, rfl⟩ := h
          have hl : (r.take (cBehind b.toNat)).length = cBehind b.toNat := by rw [List.length_take]; omega
          have hv := valL_lt (r.take (cBehind b.toNat))
          have h8 := cBehind_le b.toNat
          rw [hl] at hv
          have h3 : cHead (valL (r.take (cBehind b.toNat))) = b.toNat := by simpa using c3
          refine ⟨by simp; omega, Nat.lt_of_lt_of_le hv (Nat.le_trans (Nat.pow_le_pow_right (by decide) h8) (by decide)), ?_, by omega⟩
          have e := leN_valL (r.take (cBehind b.toNat))
          rw [hl] at e
          unfold cPut
          rw [h3, e, u8e (b := b) rfl, Nat.add_comm 1, List.take_succ_cons]
theorem cNext_take (l : List UInt8) (c : Nat) : cNext (l.take c) = (0, 0, 2) ∨ cNext (l.take c) = cNext l := by
  cases l with
  | nil => simp
  | cons b r =>
    cases c with
    | zero => exact .inl (by simp [cNext])
    | succ c =>
      rw [List.take_succ_cons, cNext, cNext]
      by_cases h1 : b.toNat < 253
      · rw [if_pos h1, if_pos h1]; exact .inr rfl
      · rw [if_neg h1, if_neg h1]
        by_cases h2 : (r.take c).length < cBehind b.toNat
        · rw [if_pos h2]; exact .inl rfl
        · rw [if_neg h2]
          rw [List.length_take] at h2
          rw [if_neg (show ¬ r.length < cBehind b.toNat by omega), List.take_take, Nat.min_eq_left (by omega)]
          exact .inr rfl
/-- Nine bytes tell it. -/
theorem cNext_nine (l : List UInt8) : cNext (l.take 9) = cNext l := by
  cases l with
  | nil => rfl
  | cons b r =>
    have h8 := cBehind_le b.toNat
    rw [List.take_succ_cons, cNext, cNext, List.take_take, Nat.min_eq_left h8, List.length_take]
    by_cases h2 : r.length < cBehind b.toNat
    · rw [if_pos (show min 8 r.length < _ by omega), if_pos h2]
    · rw [if_neg (show ¬ min 8 r.length < _ by omega), if_neg h2]
/-- The document's test: put, they are the same bytes. -/
theorem cNext_test (b : UInt8) (r : List UInt8) (hb : 253 ≤ b.toNat) (hr : cBehind b.toNat ≤ r.length) :
    cPut (valL (r.take (cBehind b.toNat))) = b :: r.take (cBehind b.toNat) ↔ cHead (valL (r.take (cBehind b.toNat))) = b.toNat := by
  have hl : (r.take (cBehind b.toNat)).length = cBehind b.toNat := by rw [List.length_take]; omega
  have e := leN_valL (r.take (cBehind b.toNat))
  rw [hl] at e
  constructor
  · intro h
    unfold cPut at h
    have := congrArg UInt8.toNat (List.cons.inj h).1
    rwa [u8n _ (cHead_lt _)] at this
  · intro h
    unfold cPut
    rw [h, e, u8e (b := b) rfl]
end Go.Proofs.YtknokfofjhlkeaaDoor
