/- leb.Size and the document's Put. -/
import Derived.Test.YtekcehicjggmiaaShelf
import Derived.Test.YtekcehicjggmiaaLebPut
import Derived.Test.YtekcehicjggmiaaLebLaws
import Derived.Deep.RegionWith
namespace Go.Proofs.Ytekcehicjggmiaa
open Go.RowKit
set_option linter.unusedVariables false

theorem leb_len : ∀ (k n : Nat), n < 128 ^ k → n < 18446744073709551616 → (lebPut n).length = max 1 ((Lib.bitLen n + 6) / 7)
  | k, n, hk, h => by
    by_cases c : n < 128
    · rw [lebPut_lo n c]
      have := Lib.bitLen_le n 7 (by omega) c
      simp; omega
    · match k, hk with
      | 0, hk => simp at hk; omega
      | k + 1, hk =>
      rw [lebPut_hi n (by omega), List.length_cons, leb_len k (n / 128) (by rw [Nat.pow_succ] at hk; omega) (by omega)]
      rw [Lib.bitLen_shift 7 n (by omega) h]
      have : n / 2 ^ 7 = n / 128 := rfl
      rw [this]
      have h1 : 1 ≤ Lib.bitLen (n / 128) := by
        rw [Lib.bitLen_half (n / 128) (by omega) (by omega)]; omega
      omega

set_option maxRecDepth 100000 in
theorem leb_size (n : Nat) (w : World) (hn : n < 18446744073709551616) :
    Calls Try.prog 57 #[.int .u64 n] w fun e w' => e = .returned (.int .i64 (lebPut n).length) ∧ w = w' := by
  have hl := Lib.hid (leb_len 10 n (Nat.lt_of_lt_of_le hn (by decide)) hn)
  have hb : Lib.bitLen n ≤ 64 := Lib.bitLen_le n 64 (by omega) hn
  have hc := fun w => Try.bits_Len64 n w (by omega) (by omega)
  rw [Int.toNat_natCast] at hc
  generalize Lib.bitLen n = m at *
  have Hc := Lib.hid hc
  clear hc
  go_enter Try.func57, Try.ntmps57
  go_wp2_with fail
  refine (Hc.out _).mono ?_
  rintro e w' ⟨rfl, rfl⟩
  go_wp2_with fail
  all_goals
    go_returns
    exact ⟨by rw [hl.out]; exact congrArg Ending.returned (congrArg (Value.int .i64) (by omega)), rfl⟩
end Go.Proofs.Ytekcehicjggmiaa
