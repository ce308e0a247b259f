/- Plain law of the roots' search: digits and powers. -/
import Derived.Test.YtemfecdpjegocaaShaProd
import Derived.Test.YtemfecdpjegocaaShaPlain
namespace Go.Proofs.Ytemfecdpjegocaa

theorem valD_drop {o : List Nat} (h : ∀ d ∈ o, d < 65536) (k : Nat) (hk : k ≤ o.length) : valD (o.drop k) = valD o / 65536 ^ k := by
  have h1 := valD_append (o.take k) (o.drop k)
  have h2 := valD_lt (o.take k) fun d hd => h d (List.mem_of_mem_take hd)
  rw [List.take_append_drop, List.length_take, Nat.min_eq_left hk] at h1
  rw [List.length_take, Nat.min_eq_left hk] at h2
  rw [h1, Nat.add_mul_div_left _ _ (Nat.pow_pos (by decide)), Nat.div_eq_of_lt h2, Nat.zero_add]
/-- What has been gathered from the top down to the k-th digit. -/
def Gathered (o : List Nat) (k whole : Nat) : Prop := whole = valD (o.drop k)
theorem Gathered.start (o : List Nat) (n : Nat) (h : o.length = n) : Gathered o n 0 := by
  unfold Gathered
  rw [List.drop_of_length_le (by omega)]; rfl
theorem Gathered.step {o : List Nat} {k whole d : Nat} (h : Gathered o (k + 1) whole) (hk : k < o.length) (hd : d = o.getD k 0) : Gathered o k (whole * 65536 + d) := by
  unfold Gathered at *
  rw [List.drop_eq_getElem_cons hk, valD_cons, ← h, hd, List.getD_eq_getElem?_getD, List.getElem?_eq_getElem hk]
  show whole * 65536 + o[k] = o[k] + 65536 * whole
  omega
theorem Gathered.lt {o : List Nat} {k whole : Nat} (h : Gathered o k whole) (ho : ∀ d ∈ o, d < 65536) (hk : o.length ≤ k + 2) : whole < 4294967296 := by
  unfold Gathered at h
  have h2 := valD_lt (o.drop k) fun d hd => ho d (List.mem_of_mem_drop hd)
  rw [List.length_drop] at h2
  have h3 : 65536 ^ (o.length - k) ≤ 65536 ^ 2 := Nat.pow_le_pow_right (by decide) (by omega)
  have h4 : (65536 : Nat) ^ 2 = 4294967296 := by decide
  omega
theorem pow4 : (65536 : Nat) ^ 4 = 2 ^ (32 * 2) := by decide
theorem pow6 : (65536 : Nat) ^ 6 = 2 ^ (32 * 3) := by decide
theorem Gathered.done2 {o : List Nat} {whole y : Nat} (h : Gathered o 4 whole) (ho : ∀ d ∈ o, d < 65536) (hl : o.length = 6) (hv : valD o = y * y) : whole = y ^ 2 / 2 ^ (32 * 2) := by
  unfold Gathered at h
  rw [h, valD_drop ho 4 (by omega), hv, pow4, Nat.pow_two]
theorem Gathered.done3 {o : List Nat} {whole y : Nat} (h : Gathered o 6 whole) (ho : ∀ d ∈ o, d < 65536) (hl : o.length = 9) (hv : valD o = y * y * y) : whole = y ^ 3 / 2 ^ (32 * 3) := by
  unfold Gathered at h
  have e : y ^ 3 = y * y * y := by rw [Nat.pow_succ, Nat.pow_two]
  rw [h, valD_drop ho 6 (by omega), hv, pow6, e]
/-- The digits of a number below 2^36. -/
def dig3 (y : Nat) : List Nat := [y % 65536, y / 65536 % 65536, y / 4294967296]
theorem dig3_val (y : Nat) : valD (dig3 y) = y := by
  show y % 65536 + 65536 * (y / 65536 % 65536 + 65536 * (y / 4294967296 + 65536 * 0)) = y
  omega
theorem dig3_lt (y : Nat) (h : y < 68719476736) : ∀ d ∈ dig3 y, d < 65536 := by
  intro d hd
  unfold dig3 at hd
  simp only [List.mem_cons, List.not_mem_nil, or_false] at hd
  rcases hd with rfl | rfl | rfl <;> omega
/-- What the search holds. -/
def FracInv (p deg n bit x R : Nat) : Prop := fracGo p deg n bit x = R ∧ bit = 2 ^ n / 2
theorem FracInv.start (p deg : Nat) : FracInv p deg 36 34359738368 0 (fracGo p deg 36 34359738368 0) := ⟨rfl, by decide⟩
theorem FracInv.step {p deg n bit x R whole : Nat} (h : FracInv p deg n bit x R) (hb : 0 < bit) (hw : whole = (x + bit) ^ deg / 2 ^ (32 * deg)) :
    ∃ m, FracInv p deg m (bit / 2) (if whole < p then x + bit else x) R := by
  obtain ⟨h1, h2⟩ := h
  obtain ⟨m, rfl⟩ : ∃ m, n = m + 1 := by
    cases n with
    | zero => simp at h2; omega
    | succ m => exact ⟨m, rfl⟩
  refine ⟨m, ?_, by rw [h2, Nat.pow_succ]; omega⟩
  rw [hw]
  exact h1
theorem FracInv.yes {p deg n bit x R whole : Nat} (h : FracInv p deg n bit x R) (hb : 0 < bit) (hw : whole = (x + bit) ^ deg / 2 ^ (32 * deg)) (hc : whole < p) : ∃ m, FracInv p deg m (bit / 2) (x + bit) R := by
  obtain ⟨m, hm⟩ := h.step hb hw
  rw [if_pos hc] at hm
  exact ⟨m, hm⟩
theorem FracInv.no {p deg n bit x R whole : Nat} (h : FracInv p deg n bit x R) (hb : 0 < bit) (hw : whole = (x + bit) ^ deg / 2 ^ (32 * deg)) (hc : ¬ whole < p) : ∃ m, FracInv p deg m (bit / 2) x R := by
  obtain ⟨m, hm⟩ := h.step hb hw
  rw [if_neg hc] at hm
  exact ⟨m, hm⟩
theorem FracInv.done {p deg n x R : Nat} (h : FracInv p deg n 0 x R) : x = R := by
  obtain ⟨h1, h2⟩ := h
  cases n with
  | zero => exact h1
  | succ m => rw [Nat.pow_succ, Nat.mul_div_cancel _ (by decide)] at h2; exact absurd h2.symm (Nat.ne_of_gt (Nat.pow_pos (by decide)))
end Go.Proofs.Ytemfecdpjegocaa
