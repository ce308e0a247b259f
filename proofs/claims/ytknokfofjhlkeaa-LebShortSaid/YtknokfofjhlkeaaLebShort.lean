/- The walk of LebShort. -/
import Derived.Test.YtknokfofjhlkeaaLebReads
namespace Go.Proofs.Ytknokfofjhlkeaa
open Go.RowKit
set_option linter.unusedVariables false

set_option maxRecDepth 100000 in
set_option maxHeartbeats 400000 in
theorem leb_short (s : ByteArray) (c : Int) (w : World) (hs : s.size ≤ maxLen) (hc : (Lit.int .u8 c).wf = true) :
    Calls Try.prog 4 #[.string s, .int .u8 c] w fun e w' => e = .returned (.bool true) ∧ Below w.heap.size w w' := by
  have hc01 : 0 ≤ c ∧ c ≤ 255 := by simpa [Lit.wf, IntKind.min, IntKind.max, IntKind.signed, IntKind.bits] using hc
  obtain ⟨hc0, hc1⟩ := hc01
  clear hc
  have hs' := hs
  unfold maxLen at hs'
  by_cases hlen : 200 < s.size
  · go_enter Try.func4, Try.ntmps4
    go_wp2_with fail
    refine (leb_alive _).mono ?_
    rintro e w1 ⟨rfl, hb⟩
    go_wp2_with fail
    go_returns
    exact ⟨rfl, hb⟩
  · obtain ⟨m, hm, hm1⟩ : ∃ m : Nat, (if (s.size : Int) < c then (s.size : Int) else c) = (m : Int) ∧ m ≤ s.size :=
      ⟨min s.size c.toNat, by split <;> omega, by omega⟩
    have h1 := fun w => leb_next (s.extract 0 m) w (by rw [ByteArray.size_extract]; omega)
    have h2 := fun w => leb_next s w hs
    have htake := lebNext_take s.data.toList m 0 0
    have e1 : (s.extract 0 m).data.toList = s.data.toList.take m := by rw [Lib.extract_data]; simp
    rw [e1] at h1
    generalize lebNext (s.data.toList.take m) 0 0 = t1 at *
    generalize lebNext s.data.toList 0 0 = t2 at *
    clear e1
    by_cases her : t1.2.2 = 2
    · obtain ⟨n, k, er⟩ := t1
      obtain ⟨n', k', er'⟩ := t2
      simp only at her
      subst her
      clear htake
      have H1 := Lib.hid h1
      have H2 := Lib.hid h2
      clear h1 h2
      go_enter Try.func4, Try.ntmps4
      go_wp2_with fail
      refine (leb_alive _).mono ?_
      rintro e w1 ⟨rfl, hb⟩
      go_wp2_with fail
      refine (H1.out _).mono ?_
      rintro e w' ⟨rfl, rfl⟩
      unfold lebVal
      go_wp2_with fail
      refine (H2.out _).mono ?_
      rintro e w' ⟨rfl, rfl⟩
      unfold lebVal
      go_wp2_with fail
      go_returns
      exact ⟨rfl, hb⟩
    · have het : t1 = t2 := by
        rcases htake with h | h
        · rw [h] at her; exact absurd rfl her
        · exact h
      subst het
      obtain ⟨n, k, er⟩ := t1
      have hne : ((er : Int) == 2) = false := by rw [beq_eq_false_iff_ne]; simp only at her; omega
      clear htake her
      have H1 := Lib.hid h1
      have H2 := Lib.hid h2
      clear h1 h2
      go_enter Try.func4, Try.ntmps4
      go_wp2_with fail
      refine (leb_alive _).mono ?_
      rintro e w1 ⟨rfl, hb⟩
      go_wp2_with fail
      refine (H1.out _).mono ?_
      rintro e w' ⟨rfl, rfl⟩
      unfold lebVal
      go_wp2_with fail
      refine (H2.out _).mono ?_
      rintro e w' ⟨rfl, rfl⟩
      unfold lebVal
      go_wp2_with fail
      go_returns
      exact ⟨rfl, hb⟩
end Go.Proofs.Ytknokfofjhlkeaa
