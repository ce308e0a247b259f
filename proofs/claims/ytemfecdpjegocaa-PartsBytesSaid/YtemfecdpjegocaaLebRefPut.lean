/- The document's Put of numbers by digits of seven bits. -/
import Derived.Test.YtemfecdpjegocaaLebPut
import Derived.Deep.RegionWith
namespace Go.Proofs.Ytemfecdpjegocaa
open Go.RowKit
set_option linter.unusedVariables false

set_option maxRecDepth 100000 in
set_option maxHeartbeats 800000 in
theorem leb_ref_put_k (k : Nat) : ∀ (n : Nat) (w : World), n < 128 ^ k → n < 18446744073709551616 →
    Calls Try.prog 58 #[.int .u64 n] w fun e w' => e = .returned (.string ⟨(lebPut n).toArray⟩) ∧ Below w.heap.size w w' := by
  induction k with
  | zero =>
    intro n w hk hn
    have hk' : n < 1 := by simpa using hk
    have e := Lib.hid (lebPut_lo n (by omega))
    go_enter Try.func58, Try.ntmps58
    have hst := fun w => string_lit bt w [UInt8.ofNat n] #[.int .u8 n] 1 rfl (lit1 rfl (by omega)) (by decide)
    go_wp2_with fail
    go_returns
    exact ⟨by rw [e.out]; rfl, (Below.refl _ _).alloc (Nat.le_refl _) _⟩
  | succ k ih =>
    intro n w hk hn
    by_cases c : n < 128
    · have e := Lib.hid (lebPut_lo n (by omega))
      go_enter Try.func58, Try.ntmps58
      have hst := fun w => string_lit bt w [UInt8.ofNat n] #[.int .u8 n] 1 rfl (lit1 rfl (by omega)) (by decide)
      go_wp2_with fail
      go_returns
      exact ⟨by rw [e.out]; rfl, (Below.refl _ _).alloc (Nat.le_refl _) _⟩
    · have e := Lib.hid (lebPut_hi n (by omega))
      have hd : 128 ≤ n := by omega
      have ihn := Lib.hid (fun w => ih (n / 128) w (by rw [Nat.pow_succ] at hk; omega) (by omega))
      clear ih hk
      have hl : (lebPut (n / 128)).length ≤ 10 := by
        have := lebPut_le 10 (n / 128) (Nat.lt_of_lt_of_le (show n / 128 < 18446744073709551616 by omega) (by decide))
        omega
      generalize lebPut (n / 128) = l at *
      have hx : IntKind.u8.wrap (IntKind.u8.wrap ((n : Int).tmod 128) + 128) = ((n % 128 + 128 : Nat) : Int) := by
        rw [Int.tmod_eq_emod_of_nonneg (by omega), IntWalk.u8_in ((n : Int) % 128) ⟨by omega, by omega⟩, IntWalk.u8_in _ ⟨by omega, by omega⟩]; omega
      have HX := Lib.hid hx
      have hq : IntKind.u64.wrap ((n : Int) / 128) = ((n / 128 : Nat) : Int) := by rw [IntWalk.u64_in _ ⟨by omega, by omega⟩]; omega
      clear hx
      have hst := fun W b => string1 bt W b (IntKind.u8.wrap (IntKind.u8.wrap ((n : Int).tmod 128) + 128))
      go_enter Try.func58, Try.ntmps58
      go_wp2_with fail
      go_region_with (go_at_call 58; refine (ihn.out _).mono ?_; rintro e w2 ⟨rfl, hb2⟩; obtain ⟨hc2, hf2⟩ := bcell hb2)
      all_goals
        go_wp2_with fail
        go_returns
        refine ⟨by rw [e.out]; exact congrArg (fun b : ByteArray => Ending.returned (Value.string b)) (cat1 (by omega)), ?_⟩
        first
          | exact (((Below.refl w.heap.size w).alloc (Nat.le_refl _) _).drew).trans (hb2.mono (by simp))
          | exact ((Below.refl w.heap.size w).drew.trans (hb2.mono (Nat.le_refl _))).alloc (by have := hb2.size; simpa using this) _

theorem leb_ref_put (n : Nat) (w : World) (hn : n < 18446744073709551616) :
    Calls Try.prog 58 #[.int .u64 n] w fun e w' => e = .returned (.string ⟨(lebPut n).toArray⟩) ∧ Below w.heap.size w w' :=
  leb_ref_put_k 10 n w (Nat.lt_of_lt_of_le hn (by decide)) hn

end Go.Proofs.Ytemfecdpjegocaa
