/- Plain law of a product by digits of base 65536: what the carry does. -/
import Derived.WalkKit
namespace Go.Proofs.Ytemfecdpjegocaa

def valD (l : List Nat) : Nat := l.foldr (fun d acc => d + 65536 * acc) 0
theorem valD_cons (d : Nat) (l : List Nat) : valD (d :: l) = d + 65536 * valD l := rfl
theorem valD_append (l m : List Nat) : valD (l ++ m) = valD l + 65536 ^ l.length * valD m := by
  induction l with
  | nil => simp [valD]
  | cons d r ih => rw [List.cons_append, valD_cons, ih, valD_cons, List.length_cons, Nat.pow_succ, Nat.mul_add, ← Nat.mul_assoc, Nat.mul_comm 65536 (65536 ^ r.length), Nat.add_assoc]
theorem valD_set : ∀ (l : List Nat) (i x : Nat), i < l.length → valD (l.set i x) + 65536 ^ i * l.getD i 0 = valD l + 65536 ^ i * x
  | [], i, x, h => by simp at h
  | d :: r, 0, x, _ => by simp [valD_cons]; omega
  | d :: r, i + 1, x, h => by
    have ih := valD_set r i x (by simpa using h)
    simp only [List.set_cons_succ, valD_cons, List.getD_cons_succ, Nat.pow_succ]
    have e : ∀ y, 65536 ^ i * 65536 * y = 65536 * (65536 ^ i * y) := fun y => by rw [Nat.mul_comm (65536 ^ i) 65536, Nat.mul_assoc]
    rw [e, e]
    omega
theorem valD_lt : ∀ (l : List Nat), (∀ d ∈ l, d < 65536) → valD l < 65536 ^ l.length
  | [], _ => by simp [valD]
  | d :: r, h => by
    have ih := valD_lt r fun x hx => h x (by simp [hx])
    have h0 := h d (by simp)
    rw [valD_cons, List.length_cons, Nat.pow_succ]
    omega
/-- What the carry leaves to do. -/
theorem carry_in {o : List Nat} {m x T : Nat} (h : valD o + 65536 ^ m * (x / 65536) = T) (hT : T < 65536 ^ o.length) (hx : 65536 ≤ x) : m < o.length := by
  have h1 : 1 ≤ x / 65536 := by omega
  have h2 : 65536 ^ m * 1 ≤ 65536 ^ m * (x / 65536) := Nat.mul_le_mul_left _ h1
  exact (Nat.pow_lt_pow_iff_right (by decide)).1 (show 65536 ^ m < 65536 ^ o.length by omega)
theorem carry_step {o : List Nat} {m x T : Nat} (h : valD o + 65536 ^ m * (x / 65536) = T) (hm : m < o.length) :
    valD (o.set m ((x / 65536 + o.getD m 0) % 65536)) + 65536 ^ (m + 1) * ((x / 65536 + o.getD m 0) / 65536) = T := by
  have h1 := valD_set o m ((x / 65536 + o.getD m 0) % 65536) hm
  generalize o.getD m 0 = d at *
  generalize x / 65536 = q at *
  have h2 : 65536 ^ m * ((q + d) % 65536) + 65536 ^ (m + 1) * ((q + d) / 65536) = 65536 ^ m * q + 65536 ^ m * d := by
    rw [Nat.pow_succ, Nat.mul_assoc, ← Nat.mul_add, ← Nat.mul_add]
    congr 1
    omega
  omega
theorem mul_step {o : List Nat} {j c : Nat} (hj : j < o.length) :
    valD (o.set j ((o.getD j 0 + c) % 65536)) + 65536 ^ (j + 1) * ((o.getD j 0 + c) / 65536) = valD o + 65536 ^ j * c := by
  have h1 := valD_set o j ((o.getD j 0 + c) % 65536) hj
  generalize o.getD j 0 = d at *
  have h2 : 65536 ^ j * ((d + c) % 65536) + 65536 ^ (j + 1) * ((d + c) / 65536) = 65536 ^ j * d + 65536 ^ j * c := by
    rw [Nat.pow_succ, Nat.mul_assoc, ← Nat.mul_add, ← Nat.mul_add]
    congr 1
    omega
  omega
theorem valD_take_succ (l : List Nat) (i : Nat) (h : i < l.length) : valD (l.take (i + 1)) = valD (l.take i) + 65536 ^ i * l.getD i 0 := by
  rw [List.take_succ_eq_append_getElem h, valD_append, List.length_take, Nat.min_eq_left (by omega)]
  congr 2
  rw [List.getD_eq_getElem?_getD, List.getElem?_eq_getElem h]
  rfl

/-- Each step of the inner loop stays within the row, and keeps digits digits. -/
theorem set_digits {o : List Nat} (h : ∀ d ∈ o, d < 65536) (i x : Nat) : ∀ d ∈ o.set i (x % 65536), d < 65536 := by
  intro d hd
  rcases List.mem_or_eq_of_mem_set hd with h1 | h1
  · exact h d h1
  · rw [h1]; exact Nat.mod_lt _ (by decide)
theorem prod_bound {a b : List Nat} (ha : ∀ d ∈ a, d < 65536) (hb : ∀ d ∈ b, d < 65536) {x y : Nat} (hx : x ≤ valD a) (hy : y ≤ valD b) : x * y < 65536 ^ (a.length + b.length) := by
  have h1 := valD_lt a ha
  have h2 := valD_lt b hb
  rw [Nat.pow_add]
  have h3 := Nat.mul_le_mul hx hy
  have h4 : valD a * valD b < 65536 ^ a.length * 65536 ^ b.length := Nat.mul_lt_mul_of_lt_of_le h1 (Nat.le_of_lt h2) (Nat.lt_of_le_of_lt (Nat.zero_le _) h2)
  omega
theorem valD_take_le (l : List Nat) (k : Nat) : valD (l.take k) ≤ valD l := by
  have h := valD_append (l.take k) (l.drop k)
  rw [List.take_append_drop] at h
  omega
/-- What is due behind k products of the i-th digit. -/
def dueD (a b : List Nat) (i k : Nat) : Nat := valD (a.take i) * valD b + 65536 ^ i * (a.getD i 0 * valD (b.take k))
theorem due_start (a b : List Nat) (i : Nat) : dueD a b i 0 = valD (a.take i) * valD b := by
  unfold dueD; simp [valD]
theorem due_end (a b : List Nat) (i : Nat) (h : i < a.length) : dueD a b i b.length = valD (a.take (i + 1)) * valD b := by
  unfold dueD
  rw [List.take_length, valD_take_succ a i h, Nat.add_mul, Nat.mul_assoc]
theorem due_step (a b : List Nat) (i k : Nat) (h : k < b.length) : dueD a b i k + 65536 ^ (i + k) * (a.getD i 0 * b.getD k 0) = dueD a b i (k + 1) := by
  unfold dueD
  rw [valD_take_succ b k h, Nat.mul_add (a.getD i 0), Nat.mul_add (65536 ^ i), Nat.pow_add, Nat.add_assoc]
  congr 2
  rw [Nat.mul_assoc]
  congr 1
  exact Nat.mul_left_comm _ _ _
theorem due_lt {a b : List Nat} (ha : ∀ d ∈ a, d < 65536) (hb : ∀ d ∈ b, d < 65536) (i k : Nat) (h : i < a.length) : dueD a b i k < 65536 ^ (a.length + b.length) := by
  refine Nat.lt_of_le_of_lt ?_ (prod_bound ha hb (valD_take_le a (i + 1)) (Nat.le_refl (valD b)))
  rw [← due_end a b i h]
  unfold dueD
  exact Nat.add_le_add_left (Nat.mul_le_mul_left _ (Nat.mul_le_mul_left _ (by rw [List.take_length]; exact valD_take_le b k))) _
theorem getD_lt {a : List Nat} (ha : ∀ d ∈ a, d < 65536) (i : Nat) : a.getD i 0 < 65536 := by
  rw [List.getD_eq_getElem?_getD]
  by_cases h : i < a.length
  · rw [List.getElem?_eq_getElem h]; exact ha _ (List.getElem_mem h)
  · rw [List.getElem?_eq_none (by omega)]; decide
/-- What is still to be carried. -/
def CarryEq (o : List Nat) (m x T : Nat) : Prop := valD o + 65536 ^ m * (x / 65536) = T
theorem CarryEq.in_ {o : List Nat} {m x T n : Nat} (h : CarryEq o m x T) (hT : T < 65536 ^ n) (ho : o.length = n) (hx : 65536 ≤ x) : m < n := by
  subst ho; exact carry_in h hT hx
theorem CarryEq.step {o : List Nat} {m x T d : Nat} (h : CarryEq o m x T) (hm : m < o.length) (hd : d = o.getD m 0) : CarryEq (o.set m ((x / 65536 + d) % 65536)) (m + 1) (x / 65536 + d) T := by
  subst hd; exact carry_step h hm
theorem CarryEq.done {o : List Nat} {m x T : Nat} (h : CarryEq o m x T) (hx : x < 65536) : valD o = T := by
  have h1 : valD o + 65536 ^ m * (x / 65536) = T := h
  rwa [Nat.div_eq_of_lt hx, Nat.mul_zero, Nat.add_zero] at h1
theorem CarryEq.start {o a b : List Nat} {j k z p : Nat} (hjk : j + k < o.length) (hz : z = o.getD (j + k) 0) (hk : k < b.length) (ho : valD o = dueD a b j k) (hp : p = a.getD j 0 * b.getD k 0) :
    CarryEq (o.set (j + k) ((z + p) % 65536)) (j + k + 1) (z + p) (dueD a b j (k + 1)) := by
  have h1 := mul_step (o := o) (j := j + k) (c := p) hjk
  subst hz
  rw [ho, hp, due_step a b j k hk] at h1
  rw [hp]
  exact h1
theorem digit_mul {x y z : Nat} (hx : x < 65536) (hy : y < 65536) (hz : z < 65536) : z + x * y < 4294967296 := by
  have h1 : x * y ≤ 65535 * 65535 := Nat.mul_le_mul (by omega) (by omega)
  omega
end Go.Proofs.Ytemfecdpjegocaa
