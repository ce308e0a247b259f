/- The walk of the document's Next of numbers by digits of seven bits. -/
import Derived.Test.YtemfecdpjegocaaRows
import Derived.Test.YtemfecdpjegocaaLebPlain
import Derived.WalkKit
import Derived.WalkSpells
import Derived.Lib.Hide
import Derived.Handy
namespace Go.Proofs.Ytemfecdpjegocaa
open Go.RowKit

set_option maxRecDepth 100000 in
set_option maxHeartbeats 400000 in
theorem leb_ref_next (s : ByteArray) (w : World) (hs : s.size ≤ maxLen) :
    Calls Try.prog 59 #[.string s] w fun e w' => e = .returned (lebVal (lebNext s.data.toList 0 0)) ∧ w = w' := by
  unfold maxLen at hs
  have H0 := LebAt.start s
  generalize lebNext s.data.toList 0 0 = t at *
  go_enter Try.func59, Try.ntmps59
  go_wp2
  · go_loop [5, 6, 7] (fun acc by_ i => ∃ k n p : Nat, k ≤ s.size ∧ k ≤ 9 ∧ i = .int .i64 k ∧ acc = .int .u64 n ∧ by_ = .int .u64 p ∧ Hid (p = 128 ^ k) ∧ LebAt s t k n) (fun _ _ i => 10 - (intOf i).toNat)
    case atStart => exact ⟨0, 0, 1, by omega, by omega, rfl, rfl, rfl, rfl, H0⟩
    case round =>
      obtain ⟨k, n, p, hk, hk9, rfl, rfl, rfl, hp, hv⟩ := hrel
      by_cases hlt : k < s.size
      · have hb : s[k].toNat ≤ 255 := by have := s[k].toNat_lt; omega
        by_cases c : k = 9 ∧ 1 < s[k].toNat ∨ 0 < k ∧ s[k].toNat = 0
        · have ht := Lib.hid (hv.form hlt c)
          by_cases d : k = 9
          · have c1 : ((k : Int) == 9) = true := by rw [beq_iff_eq]; omega
            by_cases c2 : 1 < s[k].toNat
            · clear c d
              go_wp2
              go_returns
              exact ⟨by rw [ht.out]; rfl, rfl⟩
            · have c3 : ((s[k].toNat : Int) == 0) = true := by rw [beq_iff_eq]; omega
              have c4 : 0 < k := by omega
              clear c d
              go_wp2
              go_returns
              exact ⟨by rw [ht.out]; rfl, rfl⟩
          · have c1 : ((k : Int) == 9) = false := by rw [beq_eq_false_iff_ne]; omega
            have c3 : ((s[k].toNat : Int) == 0) = true := by rw [beq_iff_eq]; omega
            have c4 : 0 < k := by omega
            clear c d
            go_wp2
            go_returns
            exact ⟨by rw [ht.out]; rfl, rfl⟩
        · have hor := Lib.hid (leb_mul k n s[k].toNat p hk9 hv.1 (by omega) (by omega) hp.out)
          by_cases c2 : s[k].toNat < 128
          · have ht := Lib.hid (hv.done hlt c c2)
            by_cases d1 : k = 9
            · have c1 : ((k : Int) == 9) = true := by rw [beq_iff_eq]; omega
              have c5 : s[k].toNat ≤ 1 := by omega
              have c3 : ((s[k].toNat : Int) == 0) = false := by rw [beq_eq_false_iff_ne]; omega
              have c4 : 0 < k := by omega
              clear c d1
              go_wp2
              go_returns
              exact ⟨by rw [ht.out]; exact leb_ret hor.out rfl rfl, rfl⟩
            · have c1 : ((k : Int) == 9) = false := by rw [beq_eq_false_iff_ne]; omega
              by_cases d2 : 0 < k
              · have c3 : ((s[k].toNat : Int) == 0) = false := by rw [beq_eq_false_iff_ne]; omega
                clear c d1
                go_wp2
                go_returns
                exact ⟨by rw [ht.out]; exact leb_ret hor.out rfl rfl, rfl⟩
              · clear c d1
                go_wp2
                go_returns
                exact ⟨by rw [ht.out]; exact leb_ret hor.out rfl rfl, rfl⟩
          · have c4 : 128 ≤ s[k].toNat := by omega
            have hs' := hv.step hlt c c4
            have c1 : ((k : Int) == 9) = false := by rw [beq_eq_false_iff_ne]; omega
            have hk8 : k ≤ 8 := by omega
            have hp8 : p ≤ 72057594037927936 := by rw [hp.out]; exact pow_le8 k hk8
            have hp' : Hid (p * 128 = 128 ^ (k + 1)) := by unfold Hid; rw [hp.out, Nat.pow_succ]
            by_cases d2 : 0 < k
            · have c3 : ((s[k].toNat : Int) == 0) = false := by rw [beq_eq_false_iff_ne]; omega
              clear c c2
              go_wp2
              go_round
              case rel => exact ⟨k + 1, _, p * 128, by omega, by omega, by go_num, by rw [hor.out], by go_num, hp', hs'⟩
              case measure => simp [intOf]; omega
            · clear c c2
              go_wp2
              go_round
              case rel => exact ⟨k + 1, _, p * 128, by omega, by omega, by go_num, by rw [hor.out], by go_num, hp', hs'⟩
              case measure => simp [intOf]; omega
      · go_wp2
        go_returns
        exact ⟨by rw [hv.short (by omega)]; rfl, rfl⟩

end Go.Proofs.Ytemfecdpjegocaa
