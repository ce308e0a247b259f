/- The walks of package plain and of the document's frames. -/
import Derived.Test.YtekcehicjggmiaaPlainPlain
import Derived.Test.YtekcehicjggmiaaLebMore
import Derived.Test.YtekcehicjggmiaaLebNext
import Derived.Test.YtekcehicjggmiaaLebRefNext
import Derived.Test.YtekcehicjggmiaaLebRefPut
import Derived.Test.YtekcehicjggmiaaCursorCalls
namespace Go.Proofs.Ytekcehicjggmiaa
open Go.RowKit
set_option linter.unusedVariables false

set_option maxRecDepth 100000 in
set_option maxHeartbeats 400000 in
theorem plain_size (m : Int) (s : ByteArray) (w : World) (hm : -9223372036854775808 ≤ m ∧ m ≤ 9223372036854775807) (hs : s.size ≤ maxLen) :
    Calls Try.prog 44 #[.int .i64 m, .string s] w fun e w' => e = .returned (.tuple #[.int .i64 (pSize m s.data.toList).1, .int .i64 (pSize m s.data.toList).2.1, .int .i64 (pSize m s.data.toList).2.2]) ∧ w = w' := by
  have c1 := fun w => leb_next s w hs
  have hp : pSize m s.data.toList = if (lebNext s.data.toList 0 0).2.2 = 0 then if m < 0 ∨ m < ((lebNext s.data.toList 0 0).1 : Int) then (0, 0, 5) else lebNext s.data.toList 0 0 else (0, 0, (lebNext s.data.toList 0 0).2.2) := rfl
  have hlt := fun N K h => (lebNext_ok (l := s.data.toList) (N := N) (K := K) h).2.1
  obtain ⟨hm0, hm1⟩ := hm
  unfold maxLen at hs
  generalize pSize m s.data.toList = r at *
  generalize lebNext s.data.toList 0 0 = t at *
  obtain ⟨n, k, e⟩ := t
  have C1 : Hid (∀ w, Calls Try.prog 63 #[.string s] w fun e' w' => e' = .returned (.tuple #[.int .u64 n, .int .i64 k, .int .i64 e]) ∧ w = w') := c1
  clear c1
  by_cases he : e = 0
  · subst he
    have hn := hlt n k rfl
    clear hlt
    rw [if_pos rfl] at hp
    by_cases h1 : m < 0
    · rw [if_pos (.inl h1)] at hp
      subst hp
      go_enter Try.func44, Try.ntmps44
      go_wp2_with fail
      refine (C1.out _).mono ?_
      rintro e w' ⟨rfl, rfl⟩
      go_wp2_with fail
      go_returns
      exact ⟨rfl, rfl⟩
    · obtain ⟨M, rfl⟩ : ∃ M : Nat, m = M := ⟨m.toNat, by omega⟩
      by_cases h2 : M < n
      · rw [if_pos (.inr (by simp only; omega))] at hp
        subst hp
        clear h1
        go_enter Try.func44, Try.ntmps44
        go_wp2_with fail
        refine (C1.out _).mono ?_
        rintro e w' ⟨rfl, rfl⟩
        go_wp2_with fail
        go_returns
        exact ⟨rfl, rfl⟩
      · rw [if_neg (by simp only; omega)] at hp
        subst hp
        have h2' : decide (M < n) = false := by simp; omega
        have h3 : n ≤ M := by omega
        clear h1 h2
        go_enter Try.func44, Try.ntmps44
        go_wp2_with fail
        refine (C1.out _).mono ?_
        rintro e w' ⟨rfl, rfl⟩
        go_wp2_with fail
        go_returns
        exact ⟨rfl, rfl⟩
  · rw [if_neg he] at hp
    subst hp
    have he1 : ((e : Int) == 0) = false := by rw [beq_eq_false_iff_ne]; omega
    have he2 : ((e : Int) != 0) = true := by rw [bne_iff_ne]; omega
    clear he hlt
    go_enter Try.func44, Try.ntmps44
    go_wp2_with fail
    refine (C1.out _).mono ?_
    rintro e w' ⟨rfl, rfl⟩
    go_wp2_with fail
    go_returns
    exact ⟨rfl, rfl⟩

set_option maxRecDepth 100000 in
set_option maxHeartbeats 400000 in
theorem ref_size (m : Int) (s : ByteArray) (w : World) (hm : -9223372036854775808 ≤ m ∧ m ≤ 9223372036854775807) (hs : s.size ≤ maxLen) :
    Calls Try.prog 45 #[.int .i64 m, .string s] w fun e w' => e = .returned (.tuple #[.int .i64 (pSize m s.data.toList).1, .int .i64 (pSize m s.data.toList).2.1, .int .i64 (pSize m s.data.toList).2.2]) ∧ w = w' := by
  have c1 := fun w => leb_ref_next s w hs
  have hp : pSize m s.data.toList = if (lebNext s.data.toList 0 0).2.2 = 0 then if m < 0 ∨ m < ((lebNext s.data.toList 0 0).1 : Int) then (0, 0, 5) else lebNext s.data.toList 0 0 else (0, 0, (lebNext s.data.toList 0 0).2.2) := rfl
  have hlt := fun N K h => (lebNext_ok (l := s.data.toList) (N := N) (K := K) h).2.1
  obtain ⟨hm0, hm1⟩ := hm
  unfold maxLen at hs
  generalize pSize m s.data.toList = r at *
  generalize lebNext s.data.toList 0 0 = t at *
  obtain ⟨n, k, e⟩ := t
  have C1 : Hid (∀ w, Calls Try.prog 64 #[.string s] w fun e' w' => e' = .returned (.tuple #[.int .u64 n, .int .i64 k, .int .i64 e]) ∧ w = w') := c1
  clear c1
  by_cases he : e = 0
  · subst he
    have hn := hlt n k rfl
    clear hlt
    rw [if_pos rfl] at hp
    by_cases h1 : m < 0
    · rw [if_pos (.inl h1)] at hp
      subst hp
      go_enter Try.func45, Try.ntmps45
      go_wp2_with fail
      refine (C1.out _).mono ?_
      rintro e w' ⟨rfl, rfl⟩
      go_wp2_with fail
      go_returns
      exact ⟨rfl, rfl⟩
    · obtain ⟨M, rfl⟩ : ∃ M : Nat, m = M := ⟨m.toNat, by omega⟩
      by_cases h2 : M < n
      · rw [if_pos (.inr (by simp only; omega))] at hp
        subst hp
        clear h1
        go_enter Try.func45, Try.ntmps45
        go_wp2_with fail
        refine (C1.out _).mono ?_
        rintro e w' ⟨rfl, rfl⟩
        go_wp2_with fail
        go_returns
        exact ⟨rfl, rfl⟩
      · rw [if_neg (by simp only; omega)] at hp
        subst hp
        have h2' : decide (M < n) = false := by simp; omega
        have h3 : n ≤ M := by omega
        clear h1 h2
        go_enter Try.func45, Try.ntmps45
        go_wp2_with fail
        refine (C1.out _).mono ?_
        rintro e w' ⟨rfl, rfl⟩
        go_wp2_with fail
        go_returns
        exact ⟨rfl, rfl⟩
  · rw [if_neg he] at hp
    subst hp
    have he1 : ((e : Int) == 0) = false := by rw [beq_eq_false_iff_ne]; omega
    have he2 : ((e : Int) != 0) = true := by rw [bne_iff_ne]; omega
    clear he hlt
    go_enter Try.func45, Try.ntmps45
    go_wp2_with fail
    refine (C1.out _).mono ?_
    rintro e w' ⟨rfl, rfl⟩
    go_wp2_with fail
    go_returns
    exact ⟨rfl, rfl⟩
end Go.Proofs.Ytekcehicjggmiaa
