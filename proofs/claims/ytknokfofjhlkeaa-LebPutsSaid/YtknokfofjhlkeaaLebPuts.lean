/- The walk of LebPuts. -/
import Derived.Test.YtknokfofjhlkeaaLebReads
import Derived.Test.YtknokfofjhlkeaaLebMore
import Derived.Test.YtknokfofjhlkeaaLebRefPut
namespace Go.Proofs.Ytknokfofjhlkeaa
open Go.RowKit
set_option linter.unusedVariables false

theorem u64_of_wf {x : Int} (h : (Lit.int .u64 x).wf = true) : ∃ n : Nat, x = n ∧ n < 18446744073709551616 := by
  have : 0 ≤ x ∧ x ≤ 18446744073709551615 := by simpa [Lit.wf, IntKind.min, IntKind.max, IntKind.signed, IntKind.bits] using h
  exact ⟨x.toNat, by omega, by omega⟩

set_option maxRecDepth 100000 in
set_option maxHeartbeats 400000 in
theorem leb_puts (x : Int) (more : ByteArray) (w : World) (hx : (Lit.int .u64 x).wf = true) (hs : more.size ≤ maxLen) :
    Calls Try.prog 5 #[.int .u64 x, .string more] w fun e w' => e = .returned (.bool true) ∧ Below w.heap.size w w' := by
  obtain ⟨n, rfl, hn⟩ := u64_of_wf hx
  clear hx
  have hs' := hs
  unfold maxLen at hs'
  by_cases hlen : 100 < more.size
  · go_enter Try.func5, Try.ntmps5
    go_wp2_with fail
    refine (leb_alive _).mono ?_
    rintro e w1 ⟨rfl, hb⟩
    go_wp2_with fail
    go_returns
    exact ⟨rfl, hb⟩
  · have hl : (lebPut n).length ≤ 10 := by
      have := lebPut_le 10 n (Nat.lt_of_lt_of_le hn (by decide)); omega
    have c1 := Lib.hid (fun w => leb_put n w hn)
    have c2 := Lib.hid (fun w => leb_ref_put n w hn)
    have c3 := Lib.hid (fun w => leb_size n w hn)
    have c4 : Hid (∀ w, Calls Try.prog 13 #[.string (⟨(lebPut n).toArray⟩ ++ more)] w fun e w' => e = .returned (lebVal (n, (lebPut n).length, 0)) ∧ w = w') := by
      intro w
      have := leb_next (⟨(lebPut n).toArray⟩ ++ more) w (by unfold maxLen; rw [ByteArray.size_append, size_mk]; omega)
      have e : ((⟨(lebPut n).toArray⟩ : ByteArray) ++ more).data.toList = lebPut n ++ more.data.toList := by simp
      rw [e, lebNext_put n _ hn] at this
      exact this
    generalize lebPut n = l at *
    go_enter Try.func5, Try.ntmps5
    go_wp2_with fail
    refine (leb_alive _).mono ?_
    rintro e w1 ⟨rfl, hb⟩
    go_wp2_with fail
    refine (c1.out _).mono ?_
    rintro e w2 ⟨rfl, hb2⟩
    go_wp2_with fail
    refine (c4.out _).mono ?_
    rintro e w' ⟨rfl, rfl⟩
    unfold lebVal
    go_wp2_with fail
    refine (c2.out _).mono ?_
    rintro e w3 ⟨rfl, hb3⟩
    go_wp2_with fail
    refine (c3.out _).mono ?_
    rintro e w' ⟨rfl, rfl⟩
    go_wp2_with fail
    go_returns
    exact ⟨rfl, hb.trans ((hb2.mono hb.size).trans (hb3.mono (Nat.le_trans hb.size hb2.size)))⟩
end Go.Proofs.Ytknokfofjhlkeaa
