/- The law RlpCuts, plainly: an item's bytes cut are short. -/
import Derived.Test.YtopfpfpefljkkaaRlpCapsP
namespace Go.Proofs.Ytopfpfpefljkkaa
open Go.RowKit
set_option linter.unusedVariables false
set_option linter.unusedSimpArgs false

theorem hd2_short' {l : List UInt8} {li : Bool} {sz n : Nat} (h : l.length - sz < n) : hd2 l li sz n = .error 2 := by unfold hd2; rw [if_pos h]
theorem hd_cut {list : Bool} {n p : Nat} {body : List UInt8} (hn : n < 2 ^ 64) (hb : body.length = n) (hp : 0 < p) (hpl : p < (hdr (if list then 192 else 128) n).length + n) :
    hd ((hdr (if list then 192 else 128) n ++ body).take p) = .error 2 := by
  have hby : (if list then (192 : Nat) else 128) = 128 ∨ (if list then (192 : Nat) else 128) = 192 := by cases list <;> simp
  generalize (if list then (192 : Nat) else 128) = by' at *
  obtain ⟨p, rfl⟩ : ∃ q, p = q + 1 := ⟨p - 1, by omega⟩
  unfold hdr at hpl ⊢
  split
  · rename_i hle
    rw [if_pos hle] at hpl
    have e : (UInt8.ofNat (by' + n)).toNat = by' + n := u8n _ (by omega)
    simp only [List.cons_append, List.nil_append, List.take_succ_cons, hd, e]
    have hif : (if 192 ≤ by' + n then (192 : Nat) else 128) = by' := by rcases hby with h | h <;> simp [h] <;> omega
    rw [if_neg (by omega), hif, if_pos (by omega), Nat.add_sub_cancel_left]
    simp only [List.length_cons, List.length_nil] at hpl
    refine hd2_short' (by simp only [List.length_cons, List.length_take]; omega)
  · rename_i hgt
    rw [if_neg hgt] at hpl
    have h8 := lsN_le8 hn
    have h0 := lsN_pos_length (n := n) (by omega)
    have e : (UInt8.ofNat (by' + 55 + (lsN n).length)).toNat = by' + 55 + (lsN n).length := u8n _ (by omega)
    simp only [List.length_cons, List.length_reverse] at hpl
    simp only [List.cons_append, List.take_succ_cons, hd, e]
    have hif : (if 192 ≤ by' + 55 + (lsN n).length then (192 : Nat) else 128) = by' := by rcases hby with h | h <;> simp [h] <;> omega
    have hk : by' + 55 + (lsN n).length - by' - 55 = (lsN n).length := by omega
    rw [if_neg (by omega), hif, if_neg (by omega), hk]
    by_cases hs : p < (lsN n).length
    · rw [if_pos (by simp only [List.length_cons, List.length_take, List.length_append, List.length_reverse]; omega)]
    · rw [if_neg (by simp only [List.length_cons, List.length_take, List.length_append, List.length_reverse]; omega)]
      have hT : (((lsN n).reverse ++ body).take p).take (lsN n).length = (lsN n).reverse := by
        rw [List.take_take, Nat.min_eq_left (by omega), List.take_left' (by simp)]
      have hv : valB (lsN n).reverse = n := by unfold valB; rw [List.reverse_reverse, valL_lsN]
      rw [hT, hv, if_neg]
      · exact hd2_short' (by simp only [List.length_cons, List.length_take, List.length_append, List.length_reverse]; omega)
      · rintro (h | h)
        · obtain ⟨l, b, e1, e2⟩ := lsN_last n (by omega)
          obtain ⟨q, rfl⟩ : ∃ q, p = q + 1 := ⟨p - 1, by omega⟩
          rw [e1] at h
          simp at h
          rw [h] at e2
          exact e2 rfl
        · omega

/-- An item's bytes cut are short. -/
theorem rdI_cut {x : Rose IL} {k m p : Nat} (hr : x.all iright = true) (hl : (enc x).length < 2 ^ 64) (hp : p < (enc x).length) : rdI (k + 1) ((enc x).take p) (m + 1) = .error 2 := by
  by_cases h0 : p = 0
  · subst h0; exact rdI_nil
  have hne : (enc x).take p ≠ [] := by intro e; have := congrArg List.length e; rw [List.length_take, List.length_nil] at this; omega
  refine rdI_head hne ?_
  cases x with
  | node a s =>
    obtain ⟨t, li⟩ := a
    simp only [Rose.all, Bool.and_eq_true, iright, irightK] at hr
    cases li with
    | true =>
      simp only [if_true, List.isEmpty_iff] at hr
      obtain ⟨rfl, hrL⟩ := hr
      simp only [enc, if_true] at hl hp ⊢
      rw [List.length_append] at hl hp
      have key := hd_cut (list := true) (n := (encL s).length) (body := encL s) (p := p) (by omega) rfl (by omega)
      simp only [if_true] at key
      exact key hp
    | false =>
      simp only [enc, Bool.false_eq_true, if_false] at hl hp ⊢
      by_cases hs : single t = true
      · obtain ⟨b, rfl, hb⟩ := single_len hs
        rw [if_pos hs] at hp
        simp at hp
        omega
      · rw [if_neg hs, List.length_append] at hl hp
        simp only [if_neg hs]
        have key := hd_cut (list := false) (n := t.length) (body := t) (p := p) (by omega) rfl (by omega)
        simp only [Bool.false_eq_true, if_false] at key
        exact key hp
end Go.Proofs.Ytopfpfpefljkkaa
