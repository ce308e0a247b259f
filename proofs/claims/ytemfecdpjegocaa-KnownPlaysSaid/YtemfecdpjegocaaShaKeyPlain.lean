/- Plain law of the document's key: which primes it finds, what its cells hold. -/
import Derived.Test.YtemfecdpjegocaaShaPlain
namespace Go.Proofs.Ytemfecdpjegocaa

def keyG (f3 f2 : Nat → Nat) (ps : List Nat) : List Nat :=
  (List.range 64).map (fun i => if i < ps.length then f3 (ps.getD i 0) else 0) ++ (List.range 8).map (fun i => if i < ps.length then f2 (ps.getD i 0) else 0)
theorem keyG_length (f3 f2 : Nat → Nat) (ps : List Nat) : (keyG f3 f2 ps).length = 72 := by simp [keyG]
theorem getD_snoc_lt {ps : List Nat} {p i : Nat} (h : i < ps.length) : (ps ++ [p]).getD i 0 = ps.getD i 0 := by
  rw [List.getD_eq_getElem?_getD, List.getElem?_append_left h, List.getD_eq_getElem?_getD]
theorem getD_snoc_eq {ps : List Nat} {p : Nat} : (ps ++ [p]).getD ps.length 0 = p := by
  rw [List.getD_eq_getElem?_getD, List.getElem?_append_right (Nat.le_refl _)]; simp
theorem snoc_val (f : Nat → Nat) (ps : List Nat) (p i : Nat) : (if i < (ps ++ [p]).length then f ((ps ++ [p]).getD i 0) else 0) = if i = ps.length then f p else if i < ps.length then f (ps.getD i 0) else 0 := by
  rw [List.length_append, List.length_singleton]
  by_cases h : i = ps.length
  · subst h
    rw [if_pos (by omega), if_pos rfl, getD_snoc_eq]
  · rw [if_neg h]
    by_cases h2 : i < ps.length
    · rw [if_pos (by omega), if_pos h2, getD_snoc_lt h2]
    · rw [if_neg (by omega), if_neg h2]
theorem keyG_getElem? (f3 f2 : Nat → Nat) (ps : List Nat) (i : Nat) : (keyG f3 f2 ps)[i]? = if i < 64 then some (if i < ps.length then f3 (ps.getD i 0) else 0) else if i < 72 then some (if i - 64 < ps.length then f2 (ps.getD (i - 64) 0) else 0) else none := by
  unfold keyG
  by_cases h : i < 64
  · rw [List.getElem?_append_left (by simpa using h), List.getElem?_map, List.getElem?_range h, if_pos h]; rfl
  · rw [List.getElem?_append_right (by simp; omega), List.getElem?_map, if_neg h]
    simp only [List.length_map, List.length_range]
    by_cases h2 : i < 72
    · rw [List.getElem?_range (by omega), if_pos h2]; rfl
    · rw [List.getElem?_eq_none (by simp; omega), if_neg h2]; rfl
theorem keyG_set3 (f3 f2 : Nat → Nat) (ps : List Nat) (p n : Nat) (hn : n = ps.length) (h8 : 8 ≤ n) (h64 : n < 64) : (keyG f3 f2 ps).set n (f3 p) = keyG f3 f2 (ps ++ [p]) := by
  subst hn
  apply List.ext_getElem?
  intro i
  rw [List.getElem?_set, keyG_length, keyG_getElem?, keyG_getElem?, snoc_val, snoc_val]
  by_cases h1 : ps.length = i
  · subst h1
    rw [if_pos rfl, if_pos (by omega), if_pos h64, if_pos rfl]
  · rw [if_neg h1, if_neg (show ¬ i = ps.length by omega)]
    by_cases h2 : i < 64
    · rw [if_pos h2, if_pos h2]
    · rw [if_neg h2, if_neg h2]
      by_cases h3 : i < 72
      · rw [if_pos h3, if_pos h3, if_neg (show ¬ i - 64 = ps.length by omega)]
      · rw [if_neg h3, if_neg h3]
theorem keyG_set2 (f3 f2 : Nat → Nat) (ps : List Nat) (p n : Nat) (hn : n = ps.length) (h8 : n < 8) : ((keyG f3 f2 ps).set n (f3 p)).set (64 + n) (f2 p) = keyG f3 f2 (ps ++ [p]) := by
  subst hn
  apply List.ext_getElem?
  intro i
  rw [List.getElem?_set, List.getElem?_set, List.length_set, keyG_length, keyG_getElem?, keyG_getElem?, snoc_val, snoc_val]
  by_cases h1 : 64 + ps.length = i
  · subst h1
    rw [if_pos rfl, if_pos (by omega), if_neg (by omega), if_pos (by omega), if_pos (by omega)]
  · rw [if_neg h1]
    by_cases h4 : ps.length = i
    · subst h4
      rw [if_pos rfl, if_pos (by omega), if_pos (by omega), if_pos rfl]
    · rw [if_neg h4, if_neg (show ¬ i = ps.length by omega)]
      by_cases h2 : i < 64
      · rw [if_pos h2, if_pos h2]
      · rw [if_neg h2, if_neg h2]
        by_cases h3 : i < 72
        · rw [if_pos h3, if_pos h3, if_neg (show ¬ i - 64 = ps.length by omega)]
        · rw [if_neg h3, if_neg h3]

/-- Is p no multiple of 2 .. d - 1? -/
def isPd (p d : Nat) : Bool := (List.range (d - 2)).all fun e => decide (0 < p % (e + 2))
theorem isPd_start (p : Nat) : isPd p 2 = true := rfl
theorem isPd_step (p d : Nat) (h : 2 ≤ d) : isPd p (d + 1) = (isPd p d && decide (0 < p % d)) := by
  unfold isPd
  obtain ⟨e, rfl⟩ : ∃ e, d = e + 2 := ⟨d - 2, by omega⟩
  rw [show e + 2 + 1 - 2 = e + 1 by omega, show e + 2 - 2 = e by omega, List.range_succ, List.all_append]
  simp
theorem isPd_all (p : Nat) : isPd p p = isP p := rfl
def primesB (p : Nat) : List Nat := ((List.range (p - 2)).map (· + 2)).filter isP
theorem primesB_start : primesB 2 = [] := rfl
theorem primesB_step (p : Nat) (h : 2 ≤ p) : primesB (p + 1) = primesB p ++ (if isP p then [p] else []) := by
  unfold primesB
  obtain ⟨e, rfl⟩ : ∃ e, p = e + 2 := ⟨p - 2, by omega⟩
  rw [show e + 2 + 1 - 2 = e + 1 by omega, show e + 2 - 2 = e by omega, List.range_succ, List.map_append, List.filter_append]
  congr 1
  rw [List.map_cons, List.map_nil, List.filter_cons]
  rfl
theorem primesB_yes (p : Nat) (h : 2 ≤ p) (hp : isPd p p = true) : primesB (p + 1) = primesB p ++ [p] := by
  rw [primesB_step p h, if_pos (by rw [← isPd_all]; exact hp)]
theorem primesB_no (p : Nat) (h : 2 ≤ p) (hp : isPd p p = false) : primesB (p + 1) = primesB p := by
  rw [primesB_step p h, if_neg (by rw [← isPd_all, hp]; decide), List.append_nil]
theorem primesB_312 : primesB 312 = primesN := primes_ok
theorem primesB_lt_aux : ((List.range 312).all fun p => decide ((primesB p).length < 64)) = true := by decide +kernel
theorem primesB_lt (p : Nat) (h : p < 312) : (primesB p).length < 64 := by
  have := List.all_eq_true.1 primesB_lt_aux p (List.mem_range.2 h)
  simpa using this
theorem primesB_len : (primesB 312).length = 64 := by rw [primesB_312]; rfl
/-- What the key holds. -/
def keyN : List Nat := keyG (fun p => fracN p 3) (fun p => fracN p 2) (primesB 312)
theorem keyN_is : keyN = ((List.range 64).map fun i => (kN i).toNat) ++ [firstS.a, firstS.b, firstS.c, firstS.d, firstS.e, firstS.f, firstS.g, firstS.h].map UInt32.toNat := by decide +kernel
end Go.Proofs.Ytemfecdpjegocaa
