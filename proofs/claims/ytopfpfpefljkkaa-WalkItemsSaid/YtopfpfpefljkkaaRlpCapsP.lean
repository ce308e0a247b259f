/- The law RlpCaps, plainly: caps that are too small. -/
import Derived.Test.YtopfpfpefljkkaaRlpPuts
namespace Go.Proofs.Ytopfpfpefljkkaa
open Go.RowKit
set_option linter.unusedVariables false
set_option linter.unusedSimpArgs false

def Bad (k d m c E : Nat) : Prop := (E = 6 ∧ k < d ∧ c ≤ m) ∨ (E = 4 ∧ d ≤ k ∧ m < c)

theorem rdL_bad {k E : Nat} : ∀ (s : List (Rose IL)) (f : Nat) (m : Nat) (sub : List (Rose IL)),
    (∀ x, x ∈ s → ∀ (m : Nat) (r : List UInt8), x.deep ≤ k → x.count ≤ m → rdI k (enc x ++ r) m = .ok (x, (enc x).length, m - x.count)) →
    (∀ x, x ∈ s → ∀ (m : Nat) (r : List UInt8), Bad k x.deep m x.count E → rdI k (enc x ++ r) m = .error E) →
    (encL s).length < f → Bad k (Rose.deepL s) m (Rose.countL s) E → rdL (rdI k) f (encL s) m sub = .error E := by
  intro s
  induction s with
  | nil =>
    intro f m sub _ _ hf hb
    simp only [Bad, Rose.deepL, Rose.countL] at hb
    omega
  | cons x xs ih =>
    intro f m sub h h' hf hb
    cases f with
    | zero => omega
    | succ f =>
      have hE2 : E ≠ 2 := by rcases hb with hb | hb <;> omega
      simp only [encL, List.length_append] at hf
      have hp := enc_pos x
      rw [show encL (x :: xs) = enc x ++ encL xs from rfl]
      simp only [rdL]
      rw [if_neg (by intro e; have := congrArg List.length e; rw [List.length_append, List.length_nil] at this; omega)]
      by_cases hx : Bad k x.deep m x.count E
      · rw [h' x (List.mem_cons_self ..) m _ hx]
        simp [hE2]
      · have hb2 : x.deep ≤ k ∧ x.count ≤ m ∧ Bad k (Rose.deepL xs) (m - x.count) (Rose.countL xs) E := by
          simp only [Bad, Rose.deepL, Rose.countL] at hb hx ⊢
          omega
        rw [h x (List.mem_cons_self ..) m _ hb2.1 hb2.2.1]
        simp only
        rw [List.drop_left' rfl, ih f (m - x.count) (sub ++ [x]) (fun z hz => h z (List.mem_cons_of_mem _ hz)) (fun z hz => h' z (List.mem_cons_of_mem _ hz)) (by omega) hb2.2.2]

theorem rdI_bad {E : Nat} : ∀ (k : Nat) (x : Rose IL) (m : Nat) (r : List UInt8), x.all iright = true → (enc x).length < 2 ^ 64 → Bad k x.deep m x.count E →
    rdI k (enc x ++ r) m = .error E := by
  intro k
  induction k with
  | zero =>
    intro x m r _ _ hb
    have h1 := Rose.deep_pos x
    have hp := enc_pos x
    have : E = 6 := by simp only [Bad] at hb; omega
    subst this
    exact rdI_deep (by intro e; have := congrArg List.length e; rw [List.length_append, List.length_nil] at this; omega)
  | succ k ih =>
    intro x m r hr hl hb
    have hx1 := Rose.count_pos x
    have hp := enc_pos x
    have hne : enc x ++ r ≠ [] := by intro e; have := congrArg List.length e; rw [List.length_append, List.length_nil] at this; omega
    by_cases hm : m = 0
    · subst hm
      have : E = 4 := by simp only [Bad] at hb; omega
      subst this
      exact rdI_many hne
    simp only [rdI]
    rw [if_neg hne, if_neg hm]
    cases x with
    | node a s =>
      obtain ⟨t, li⟩ := a
      simp only [Rose.all, Bool.and_eq_true, iright, irightK] at hr
      have hb2 : Bad k (Rose.deepL s) (m - 1) (Rose.countL s) E := by
        simp only [Bad, Rose.deep, Rose.count] at hb ⊢
        omega
      cases li with
      | true =>
        simp only [if_true, List.isEmpty_iff] at hr
        obtain ⟨rfl, hrL⟩ := hr
        simp only [enc, if_true] at hl ⊢
        rw [List.length_append] at hl
        have key := hd_hdr (list := true) (n := (encL s).length) (body := encL s) (r := r) (by omega) rfl (fun h => by cases h)
        simp only [if_true] at key
        rw [List.append_assoc, key]
        simp only [if_true]
        have hal : ∀ z, z ∈ s → z.all iright = true ∧ (enc z).length < 2 ^ 64 := fun z hz => by
          obtain ⟨i, hi⟩ := List.mem_iff_getElem?.1 hz
          refine ⟨?_, by have := enc_mem_le hz; omega⟩
          cases hza : z.all iright with
          | true => rfl
          | false => rw [Rose.allL_false hi hza] at hrL; cases hrL
        rw [List.drop_left' rfl, List.take_left' rfl, rdL_bad (E := E) s ((encL s).length + 1) (m - 1) [] (fun z hz m' r' h1 h2 => rdI_enc k z m' r' (hal z hz).1 (hal z hz).2 h1 h2) (fun z hz m' r' h1 => ih z m' r' (hal z hz).1 (hal z hz).2 h1) (by omega) hb2]
      | false =>
        simp only [Bool.false_eq_true, if_false, decide_eq_true_eq, List.length_eq_zero_iff] at hr
        obtain ⟨rfl, _⟩ := hr
        simp only [Bad, Rose.deepL, Rose.countL] at hb2
        omega
/-- What caps that are too small give. -/
theorem get_caps {x : Rose IL} (hm : mayI x = true) (hE : (enc x).length ≤ 100000) {K M E : Nat} (h : Bad K x.deep M x.count E) : getR (enc x) (rdI K (enc x) M) = .error E := by
  have h1 := rdI_bad K x M [] (may_parts hm).1 (by omega) h
  rw [List.append_nil] at h1
  rw [h1]
  rfl
end Go.Proofs.Ytopfpfpefljkkaa
