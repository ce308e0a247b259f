/- Plain facts about numbers by digits of seven bits: no program in sight. -/
import Derived.WalkKit
import Derived.Test.YtemfecdpjegocaaOwn
namespace Go.Proofs.Ytemfecdpjegocaa
set_option linter.unusedVariables false

/-- The number with whose bytes a text begins: the number, how many bytes, the error. i: place, n: so far. -/
def lebNext : List UInt8 → Nat → Nat → Nat × Nat × Nat
  | [], _, _ => (0, 0, 2)
  | b :: r, i, n =>
    if i = 9 ∧ 1 < b.toNat ∨ 0 < i ∧ b.toNat = 0 then (0, 0, 3)
    else if b.toNat < 128 then (n + b.toNat % 128 * 128 ^ i, i + 1, 0)
    else lebNext r (i + 1) (n + b.toNat % 128 * 128 ^ i)

def lebVal (t : Nat × Nat × Nat) : Value := .tuple #[.int .u64 t.1, .int .i64 t.2.1, .int .i64 t.2.2]

theorem leb_ret {a b c : Int} {x y z : Nat} (h1 : a = x) (h2 : b = y) (h3 : c = z) :
    Ending.returned (.tuple #[.int .u64 a, .int .i64 b, .int .i64 c]) = .returned (lebVal (x, y, z)) := by rw [h1, h2, h3]; rfl

theorem drop_at (s : ByteArray) (k : Nat) (h : k < s.size) : s.data.toList.drop k = s[k] :: s.data.toList.drop (k + 1) := by
  have h' : k < s.data.toList.length := by simpa using h
  rw [List.drop_eq_getElem_cons h']; rfl

/-- The state of a reading: k bytes passed, n so far, still t in the end. -/
def LebAt (s : ByteArray) (t : Nat × Nat × Nat) (k n : Nat) : Prop := n < 128 ^ k ∧ lebNext (s.data.toList.drop k) k n = t

theorem LebAt.start (s : ByteArray) : LebAt s (lebNext s.data.toList 0 0) 0 0 := ⟨by simp, by simp⟩
theorem LebAt.short {s : ByteArray} {t : Nat × Nat × Nat} {k n : Nat} (h : LebAt s t k n) (hk : s.size ≤ k) : t = (0, 0, 2) := by
  rw [← h.2, List.drop_of_length_le (by simpa using hk)]; rfl
theorem LebAt.form {s : ByteArray} {t : Nat × Nat × Nat} {k n : Nat} (h : LebAt s t k n) (hk : k < s.size)
    (c : k = 9 ∧ 1 < s[k].toNat ∨ 0 < k ∧ s[k].toNat = 0) : t = (0, 0, 3) := by
  rw [← h.2, drop_at s k hk, lebNext, if_pos c]
theorem LebAt.done {s : ByteArray} {t : Nat × Nat × Nat} {k n : Nat} (h : LebAt s t k n) (hk : k < s.size)
    (c : ¬ (k = 9 ∧ 1 < s[k].toNat ∨ 0 < k ∧ s[k].toNat = 0)) (c2 : s[k].toNat < 128) : t = (n + s[k].toNat % 128 * 128 ^ k, k + 1, 0) := by
  rw [← h.2, drop_at s k hk, lebNext, if_neg c, if_pos c2]
theorem LebAt.step {s : ByteArray} {t : Nat × Nat × Nat} {k n : Nat} (h : LebAt s t k n) (hk : k < s.size)
    (c : ¬ (k = 9 ∧ 1 < s[k].toNat ∨ 0 < k ∧ s[k].toNat = 0)) (c2 : 128 ≤ s[k].toNat) : LebAt s t (k + 1) (n + s[k].toNat % 128 * 128 ^ k) := by
  refine ⟨?_, ?_⟩
  · have h1 := h.1
    have : s[k].toNat % 128 ≤ 127 := by omega
    have h2 := Nat.mul_le_mul_right (128 ^ k) this
    rw [Nat.pow_succ]; omega
  · rw [← h.2, drop_at s k hk, lebNext, if_neg c, if_neg (by omega)]

theorem pow_le (k : Nat) (h : k ≤ 9) : 128 ^ k ≤ 9223372036854775808 :=
  Nat.le_trans (Nat.pow_le_pow_right (by decide) h) (by decide)

theorem pow_le8 (k : Nat) (h : k ≤ 8) : 128 ^ k ≤ 72057594037927936 :=
  Nat.le_trans (Nat.pow_le_pow_right (by decide) h) (by decide)
theorem leb_lt (k b : Nat) (hk : k ≤ 9) (h9 : k = 9 → b % 128 ≤ 1) : b % 128 * 128 ^ k + 128 ^ k ≤ 18446744073709551616 := by
  have hp := pow_le k hk
  by_cases h : k = 9
  · have := Nat.mul_le_mul_right (128 ^ k) (h9 h)
    omega
  · have h8 := pow_le8 k (by omega)
    have h3 : b % 128 ≤ 127 := by omega
    have := Nat.mul_le_mul h3 h8
    omega
theorem leb_mul (k n b p : Nat) (hk : k ≤ 9) (hn : n < 128 ^ k) (hb : b < 256) (h9 : k = 9 → b % 128 ≤ 1) (hp : p = 128 ^ k) :
    IntKind.u64.wrap ((n : Int) + IntKind.u64.wrap ((b : Int) % 128 * (p : Int))) = ((n + b % 128 * 128 ^ k : Nat) : Int) := by
  have lt := leb_lt k b hk h9
  have hd : 0 ≤ b % 128 * 128 ^ k := Nat.zero_le _
  subst hp
  rw [show ((b : Int) % 128 * ((128 ^ k : Nat) : Int)) = ((b % 128 * 128 ^ k : Nat) : Int) from by rw [Int.natCast_mul]; rfl,
    IntWalk.u64_in ((b % 128 * 128 ^ k : Nat) : Int) ⟨by omega, by omega⟩, ← Int.natCast_add, IntWalk.u64_in _ ⟨by omega, by omega⟩]

/-- What Go's own operations make of the next digit. -/
theorem leb_or (k n b : Nat) (hk : k ≤ 9) (hn : n < 128 ^ k) (hb : b < 256) (h9 : k = 9 → b % 128 ≤ 1) :
    bits BinOp.or IntKind.u64 (n : Int) (IntKind.u64.wrap (IntKind.u64.wrap (bits BinOp.and IntKind.u8 (b : Int) 127) * 2 ^ (7 * k))) =
      ((n + b % 128 * 128 ^ k : Nat) : Int) := by
  have hp := pow_le k hk
  have e1 : bits BinOp.and IntKind.u8 (b : Int) 127 = ((b % 128 : Nat) : Int) := by
    rw [show (127 : Int) = ((127 : Nat) : Int) from rfl, u8_and_nat b 127 hb (by decide)]
    congr 1; exact Nat.and_two_pow_sub_one_eq_mod b 7
  have e2 : (2 : Int) ^ (7 * k) = ((128 ^ k : Nat) : Int) := by
    rw [Int.pow_mul]; simp
  have lt : b % 128 * 128 ^ k + 128 ^ k ≤ 18446744073709551616 := by
    by_cases h : k = 9
    · have := Nat.mul_le_mul_right (128 ^ k) (h9 h)
      omega
    · have h8 : 128 ^ k ≤ 72057594037927936 := Nat.le_trans (Nat.pow_le_pow_right (by decide) (show k ≤ 8 by omega)) (by decide)
      have h3 : b % 128 ≤ 127 := by omega
      have := Nat.mul_le_mul h3 h8
      omega
  have hd : 0 ≤ b % 128 * 128 ^ k := Nat.zero_le _
  rw [e1, e2, IntWalk.u64_in ((b % 128 : Nat) : Int) ⟨by omega, by omega⟩, ← Int.natCast_mul, IntWalk.u64_in _ ⟨by omega, by omega⟩,
    u64_or_nat n (b % 128 * 128 ^ k) (by omega) (by omega)]
  congr 1
  have hn' : n < 2 ^ (7 * k) := by rw [Nat.pow_mul]; exact hn
  have := Nat.two_pow_add_eq_or_of_lt hn' (b % 128)
  rw [Nat.pow_mul] at this
  rw [Nat.or_comm, Nat.mul_comm, show (128 : Nat) = 2 ^ 7 from rfl, ← this, Nat.add_comm]

/-- A number's bytes. -/
def lebPut (n : Nat) : List UInt8 := if h : n < 128 then [UInt8.ofNat n] else UInt8.ofNat (n % 128 + 128) :: lebPut (n / 128)
termination_by n
decreasing_by omega

theorem lebPut_lo (n : Nat) (h : n < 128) : lebPut n = [UInt8.ofNat n] := by rw [lebPut, dif_pos h]
theorem lebPut_hi (n : Nat) (h : 128 ≤ n) : lebPut n = UInt8.ofNat (n % 128 + 128) :: lebPut (n / 128) := by rw [lebPut, dif_neg (by omega)]
theorem lebPut_le : ∀ (k n : Nat), n < 128 ^ k → (lebPut n).length ≤ max 1 k
  | 0, n, h => by rw [lebPut_lo n (by simp at h; omega)]; simp
  | k + 1, n, h => by
    by_cases c : n < 128
    · rw [lebPut_lo n c]; simp
    · rw [lebPut_hi n (by omega)]
      have := lebPut_le k (n / 128) (by rw [Nat.pow_succ] at h; omega)
      simp only [List.length_cons]
      have : k ≠ 0 := by rintro rfl; simp at h; omega
      omega

/-- The state of a putting: l laid, m left, still t in the end. -/
def LebTo (t : List UInt8) (l : List UInt8) (m : Nat) : Prop := l ++ lebPut m = t ∧ t.length ≤ 10
theorem LebTo.start (n : Nat) (h : n < 18446744073709551616) : LebTo (lebPut n) [] n := by
  refine ⟨rfl, ?_⟩
  have := lebPut_le 10 n (Nat.lt_of_lt_of_le h (by decide))
  omega
theorem LebTo.le {t l : List UInt8} {m : Nat} (h : LebTo t l m) : l.length + 1 ≤ 10 := by
  have h1 := congrArg List.length h.1
  have h2 := h.2
  simp only [List.length_append] at h1
  have : 1 ≤ (lebPut m).length := by
    by_cases c : m < 128
    · rw [lebPut_lo m c]; simp
    · rw [lebPut_hi m (by omega)]; simp
  omega
theorem LebTo.step {t l : List UInt8} {m : Nat} (h : LebTo t l m) (c : 128 ≤ m) : LebTo t (l ++ [UInt8.ofNat (m % 128 + 128)]) (m / 128) := by
  refine ⟨?_, h.2⟩
  rw [List.append_assoc, ← h.1, lebPut_hi m c]; rfl
theorem LebTo.done {t l : List UInt8} {m : Nat} (h : LebTo t l m) (c : m < 128) : l ++ [UInt8.ofNat m] = t := by
  rw [← h.1, lebPut_lo m c]
theorem or128 (m : Nat) : bits BinOp.or IntKind.u8 ((m : Int) % 256) 128 = ((m % 128 + 128 : Nat) : Int) := by
  rw [show (m : Int) % 256 = ((m % 256 : Nat) : Int) from by omega, show (128 : Int) = ((128 : Nat) : Int) from rfl, u8_or_nat (m % 256) 128 (by omega) (by decide)]
  congr 1
  have key : ∀ a : Nat, a < 256 → a ||| 128 = a % 128 + 128 := by decide +kernel
  rw [key _ (by omega)]; omega
end Go.Proofs.Ytemfecdpjegocaa
