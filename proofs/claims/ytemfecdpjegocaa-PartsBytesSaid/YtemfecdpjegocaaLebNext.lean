/- The walk of leb.Next and of the document's Next. -/
import Derived.Test.YtemfecdpjegocaaRows
import Derived.Test.YtemfecdpjegocaaLebPlain
import Derived.WalkKit
import Derived.WalkSpells
import Derived.Lib.Hide
import Derived.Handy
namespace Go.Proofs.Ytemfecdpjegocaa
open Go.RowKit

set_option maxRecDepth 100000 in
set_option maxHeartbeats 400000 in
theorem leb_next (s : ByteArray) (w : World) (hs : s.size ≤ maxLen) :
    Calls Try.prog 69 #[.string s] w fun e w' => e = .returned (lebVal (lebNext s.data.toList 0 0)) ∧ w = w' := by
  unfold maxLen at hs
  have H0 := LebAt.start s
  generalize lebNext s.data.toList 0 0 = t at *
  go_enter Try.func69, Try.ntmps69
  obtain ⟨m, hm, hm1, hm2, hm3⟩ : ∃ m : Nat, (if (10 : Int) < (s.size : Int) then 10 else (s.size : Int)) = (m : Int) ∧ m ≤ s.size ∧ m ≤ 10 ∧ (s.size ≤ m ∨ 10 ≤ m) :=
    ⟨min s.size 10, by split <;> omega, by omega, by omega, by omega⟩
  have HM3 := Lib.hid hm3
  clear hm3
  go_wp2
  · clear hm
    go_loop [5, 11] (fun acc i => ∃ k n : Nat, k ≤ s.size ∧ k ≤ 9 ∧ i = .int .i64 k ∧ acc = .int .u64 n ∧ LebAt s t k n) (fun _ i => 10 - (intOf i).toNat)
    case atStart => exact ⟨0, 0, by omega, by omega, rfl, rfl, H0⟩
    case round =>
      obtain ⟨k, n, hk, hk9, rfl, rfl, hv⟩ := hrel
      by_cases hlm : k < m
      · have hlt : k < s.size := by omega
        have hb : s[k].toNat ≤ 255 := by have := s[k].toNat_lt; omega
        by_cases c : k = 9 ∧ 1 < s[k].toNat ∨ 0 < k ∧ s[k].toNat = 0
        · have ht := Lib.hid (hv.form hlt c)
          by_cases d : k = 9
          · have c1 : ((k : Int) == 9) = true := by rw [beq_iff_eq]; omega
            by_cases c2 : 1 < s[k].toNat
            · clear c d
              go_wp2
              go_returns
              exact ⟨by rw [ht.out]; rfl, rfl⟩
            · have c3 : ((s[k].toNat : Int) == 0) = true := by rw [beq_iff_eq]; omega
              have c4 : 0 < k := by omega
              clear c d
              go_wp2
              go_returns
              exact ⟨by rw [ht.out]; rfl, rfl⟩
          · have c1 : ((k : Int) == 9) = false := by rw [beq_eq_false_iff_ne]; omega
            have c3 : ((s[k].toNat : Int) == 0) = true := by rw [beq_iff_eq]; omega
            have c4 : 0 < k := by omega
            clear c d
            go_wp2
            go_returns
            exact ⟨by rw [ht.out]; rfl, rfl⟩
        · have hor := Lib.hid (leb_or k n s[k].toNat hk9 hv.1 (by omega) (by omega))
          by_cases c2 : s[k].toNat < 128
          · have ht := Lib.hid (hv.done hlt c c2)
            by_cases d1 : k = 9
            · have c1 : ((k : Int) == 9) = true := by rw [beq_iff_eq]; omega
              have c5 : s[k].toNat ≤ 1 := by omega
              have c3 : ((s[k].toNat : Int) == 0) = false := by rw [beq_eq_false_iff_ne]; omega
              have c4 : 0 < k := by omega
              clear c d1
              go_wp2
              go_returns
              exact ⟨by rw [ht.out]; exact leb_ret hor.out rfl rfl, rfl⟩
            · have c1 : ((k : Int) == 9) = false := by rw [beq_eq_false_iff_ne]; omega
              by_cases d2 : 0 < k
              · have c3 : ((s[k].toNat : Int) == 0) = false := by rw [beq_eq_false_iff_ne]; omega
                clear c d1
                go_wp2
                go_returns
                exact ⟨by rw [ht.out]; exact leb_ret hor.out rfl rfl, rfl⟩
              · clear c d1
                go_wp2
                go_returns
                exact ⟨by rw [ht.out]; exact leb_ret hor.out rfl rfl, rfl⟩
          · have c4 : 128 ≤ s[k].toNat := by omega
            have hs' := hv.step hlt c c4
            have c1 : ((k : Int) == 9) = false := by rw [beq_eq_false_iff_ne]; omega
            have hk8 : k ≤ 8 := by omega
            by_cases d2 : 0 < k
            · have c3 : ((s[k].toNat : Int) == 0) = false := by rw [beq_eq_false_iff_ne]; omega
              clear c c2
              go_wp2
              go_round
              case rel => exact ⟨k + 1, _, by omega, by omega, by go_num, by rw [hor.out], hs'⟩
              case measure => simp [intOf]; omega
            · clear c c2
              go_wp2
              go_round
              case rel => exact ⟨k + 1, _, by omega, by omega, by go_num, by rw [hor.out], hs'⟩
              case measure => simp [intOf]; omega
      · go_wp2
        go_returns
        exact ⟨by rw [hv.short (by have := HM3.out; omega)]; rfl, rfl⟩

end Go.Proofs.Ytemfecdpjegocaa
