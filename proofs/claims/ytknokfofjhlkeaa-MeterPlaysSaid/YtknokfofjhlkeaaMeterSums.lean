/- The walks of alive and MeterSums. -/
import Derived.Test.YtknokfofjhlkeaaMeterCalls
import Derived.Test.YtknokfofjhlkeaaRow
namespace Go.Proofs.Ytknokfofjhlkeaa
open Go.RowKit
set_option linter.unusedVariables false

set_option maxRecDepth 100000 in
set_option maxHeartbeats 400000 in
theorem meter_alive (w : World) : Calls Try.prog 18 #[] w fun e w' => e = .returned (.bool true) ∧ Below w.heap.size w w' := by
  go_enter Try.func18, Try.ntmps18
  go_wp2_with fail
  refine (meter_new' 10 _).mono ?_
  rintro e w1 ⟨rfl, hb, hsz, h1⟩
  go_wp2_with fail
  refine (meter_take w.heap.size ⟨10, 0, 0, 0⟩ 7 _ (by constructor <;> decide) h1).mono ?_
  rintro e w2 ⟨rfl, u1, h2⟩
  change IsM w2 _ ⟨10, 7, 7, 7⟩ at h2
  simp only [show (MS.take ⟨10, 0, 0, 0⟩ 7).2 = 0 from rfl]
  go_wp2_with fail
  refine (meter_take w.heap.size ⟨10, 7, 7, 7⟩ 4 _ (by constructor <;> decide) h2).mono ?_
  rintro e w3 ⟨rfl, u2, h3⟩
  change IsM w3 _ ⟨10, 7, 7, 7⟩ at h3
  simp only [show (MS.take ⟨10, 7, 7, 7⟩ 4).2 = 5 from rfl]
  go_wp2_with fail
  refine (meter_give w.heap.size ⟨10, 7, 7, 7⟩ 2 _ (by constructor <;> decide) h3).mono ?_
  rintro e w4 ⟨rfl, u3, h4⟩
  change IsM w4 _ ⟨10, 5, 7, 7⟩ at h4
  simp only [show (MS.give ⟨10, 7, 7, 7⟩ 2).2 = 0 from rfl]
  go_wp2_with fail
  refine (meter_take w.heap.size ⟨10, 5, 7, 7⟩ 4 _ (by constructor <;> decide) h4).mono ?_
  rintro e w5 ⟨rfl, u4, h5⟩
  change IsM w5 _ ⟨10, 9, 11, 9⟩ at h5
  simp only [show (MS.take ⟨10, 5, 7, 7⟩ 4).2 = 0 from rfl]
  go_wp2_with fail
  refine (meter_us w.heap.size ⟨10, 9, 11, 9⟩ _ h5).mono ?_
  rintro e w' ⟨rfl, rfl⟩
  simp only []
  go_wp2_with fail
  refine (meter_ta w.heap.size ⟨10, 9, 11, 9⟩ _ h5).mono ?_
  rintro e w' ⟨rfl, rfl⟩
  simp only []
  go_wp2_with fail
  refine (meter_to w.heap.size ⟨10, 9, 11, 9⟩ _ h5).mono ?_
  rintro e w' ⟨rfl, rfl⟩
  simp only []
  go_wp2_with fail
  go_returns
  exact ⟨rfl, (((u1.trans u2).trans u3).trans u4).below hb (Nat.le_refl _) (by omega)⟩

theorem take_yes {mo a z : Int} (h0 : 0 ≤ a) (h1 : a + z ≤ mo) (h2 : mo ≤ 9223372036854775807) (hz : 0 ≤ z) : MS.take ⟨mo, a, a, a⟩ z = (⟨mo, a + z, a + z, a + z⟩, 0) := by
  unfold MS.take maxI
  rw [if_neg (by omega), if_neg (by simp only []; omega)]
  simp only []
  split
  · rfl
  · have : z = 0 := by omega
    subst this; simp
theorem take_not {mo a z : Int} (h0 : 0 ≤ a) (h1 : ¬ a + z ≤ mo) (h2 : mo ≤ 9223372036854775807) (hz : 0 ≤ z) : MS.take ⟨mo, a, a, a⟩ z = (⟨mo, a, a, a⟩, 5) := by
  unfold MS.take
  rw [if_neg (by omega), if_pos (.inl (by simp only []; omega))]
theorem give_all {mo a : Int} (h0 : 0 ≤ a) : MS.give ⟨mo, a, a, a⟩ a = (⟨mo, 0, a, a⟩, 0) := by
  unfold MS.give maxI
  rw [if_neg (by omega), if_neg (by simp only []; omega)]
  simp only [Int.sub_self]
  rw [if_neg (by omega)]

theorem i64_of_wf {x : Int} (h : (Lit.int .i64 x).wf = true) : -9223372036854775808 ≤ x ∧ x ≤ 9223372036854775807 := by
  simpa [Lit.wf, IntKind.min, IntKind.max, IntKind.signed, IntKind.bits] using h
theorem u16_of_wf {x : Int} (h : (Lit.int .u16 x).wf = true) : 0 ≤ x ∧ x ≤ 65535 := by
  simpa [Lit.wf, IntKind.min, IntKind.max, IntKind.signed, IntKind.bits] using h

set_option maxRecDepth 100000 in
set_option maxHeartbeats 1000000 in
theorem meter_sums (most : Int) (ao : Option Addr) (len cap : Nat) (zs : List Int) (w : World) (hwf : (Lit.int .i64 most).wf = true) (hrow : IsRow .u16 w ao len cap zs) :
    Calls Try.prog 6 #[.int .i64 most, .slice ao len cap] w fun e w' => e = .returned (.bool true) ∧ Below w.heap.size w w' := by
  have hlen0 := hrow.len_le.1
  unfold maxLen at hlen0
  by_cases hlen : 100 < len
  · go_enter Try.func6, Try.ntmps6
    go_wp2_with fail
    refine (meter_alive _).mono ?_
    rintro e w1 ⟨rfl, hb⟩
    go_wp2_with fail
    go_returns
    exact ⟨rfl, hb⟩
  · obtain ⟨hm1, hm2⟩ := i64_of_wf hwf
    obtain ⟨mo, hmo⟩ : ∃ mo, mo = (if most < 0 then 0 else most) := ⟨_, rfl⟩
    have hmo' : (if most < 0 then 0 else most) = mo := hmo.symm
    have hmo0 : 0 ≤ mo := by rw [hmo]; split <;> omega
    have hmoM : mo ≤ 9223372036854775807 := by rw [hmo]; split <;> omega
    have hnew : MS.new most = ⟨mo, 0, 0, 0⟩ := by rw [hmo]; rfl
    have cn := fun w => meter_new' most w
    rw [hnew] at cn
    have CN := Lib.hid cn
    have HM := Lib.hid hmo
    clear hnew cn hmo hwf
    go_enter Try.func6, Try.ntmps6
    go_wp2_with fail
    refine (meter_alive _).mono ?_
    rintro e w1 ⟨rfl, hb⟩
    go_wp2_with fail
    refine (CN.out _).mono ?_
    rintro e w2 ⟨rfl, hb2, hsz, hI⟩
    have hsz1 := hb.size
    have hB2 : Below w.heap.size w w2 := hb.trans (hb2.mono hb.size)
    go_wp2_with fail
    go_loopw [6, 7] (fun av iv wr => ∃ (k : Nat) (a : Int), iv = .int .i64 k ∧ k ≤ len ∧ av = .int .i64 a ∧ 0 ≤ a ∧ a ≤ 65535 * k ∧ a ≤ mo ∧ IsM wr w1.heap.size ⟨mo, a, a, a⟩ ∧ Below w.heap.size w wr) (fun _ iv _ => len - (intOf iv).toNat)
    case atStart => exact ⟨0, 0, rfl, by omega, rfl, by omega, by omega, hmo0, hI, hB2⟩
    case round =>
      obtain ⟨k, a, rfl, hk, rfl, ha0, hak, ham, hI', hB⟩ := hrel
      have hwr := hB.size
      by_cases hlt : k < len
      · obtain ⟨b, off, hao, hbl, hc, hz⟩ := hrow.at_ hlt
        subst hao
        generalize zs.getD k 0 = z at hc hz
        obtain ⟨hz0, hz1⟩ := u16_of_wf hz
        have hc' : wr.cell? ⟨b, off + k, none⟩ = some (.int .u16 z) := (hB.cell (p := ⟨b, off + k, none⟩) hbl).trans hc
        clear hz hc
        by_cases hyes : a + z ≤ mo
        · have ct := meter_take w1.heap.size ⟨mo, a, a, a⟩ z wr (by constructor <;> simp only [] <;> omega) hI'
          rw [take_yes ha0 hyes hmoM hz0] at ct
          have CT := Lib.hid ct
          clear ct
          go_wp2_with fail
          refine CT.out.mono ?_
          rintro e w3 ⟨rfl, hu, hI3⟩
          simp only []
          go_wp2_with fail
          go_roundw
          case rel => exact ⟨k + 1, a + z, by go_num, by omega, rfl, by omega, by omega, by omega, hI3, hu.below hB (by omega) hwr⟩
          case measure => simp [intOf]; omega
        · have ct := meter_take w1.heap.size ⟨mo, a, a, a⟩ z wr (by constructor <;> simp only [] <;> omega) hI'
          rw [take_not ha0 hyes hmoM hz0] at ct
          have CT := Lib.hid ct
          clear ct
          go_wp2_with fail
          refine CT.out.mono ?_
          rintro e w3 ⟨rfl, hu, hI3⟩
          simp only []
          go_wp2_with fail
          go_roundw
          case rel => exact ⟨k + 1, a, by go_num, by omega, rfl, by omega, by omega, by omega, hI3, hu.below hB (by omega) hwr⟩
          case measure => simp [intOf]; omega
      · have ct := meter_give w1.heap.size ⟨mo, a, a, a⟩ a wr (by constructor <;> simp only [] <;> omega) hI'
        rw [give_all ha0] at ct
        have CT := Lib.hid ct
        clear ct
        go_wp2_with fail
        refine (meter_us w1.heap.size _ _ hI').mono ?_
        rintro e w' ⟨rfl, rfl⟩
        simp only []
        go_wp2_with fail
        refine (meter_ta w1.heap.size _ _ hI').mono ?_
        rintro e w' ⟨rfl, rfl⟩
        simp only []
        go_wp2_with fail
        refine (meter_to w1.heap.size _ _ hI').mono ?_
        rintro e w' ⟨rfl, rfl⟩
        simp only []
        go_wp2_with fail
        refine CT.out.mono ?_
        rintro e w3 ⟨rfl, hu, hI3⟩
        simp only []
        go_wp2_with fail
        refine (meter_us w1.heap.size _ _ hI3).mono ?_
        rintro e w' ⟨rfl, rfl⟩
        simp only []
        go_wp2_with fail
        refine (meter_to w1.heap.size _ _ hI3).mono ?_
        rintro e w' ⟨rfl, rfl⟩
        simp only []
        go_wp2_with fail
        go_returns
        exact ⟨rfl, hu.below hB (by omega) hwr⟩
end Go.Proofs.Ytknokfofjhlkeaa
