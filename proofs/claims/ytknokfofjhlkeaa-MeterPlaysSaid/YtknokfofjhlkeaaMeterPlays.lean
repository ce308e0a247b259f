/- The walk of MeterPlays. -/
import Derived.Test.YtknokfofjhlkeaaMeterSums
import Derived.Test.YtknokfofjhlkeaaMeterRef
namespace Go.Proofs.Ytknokfofjhlkeaa
open Go.RowKit
set_option linter.unusedVariables false

/-- The acts that came in: kinds and numbers. -/
def IsActs (w : World) (a : Option Addr) (len : Nat) : Prop := len ≤ maxLen ∧ ∀ i, i < len → ∃ b off K n, a = some ⟨b, off, none⟩ ∧ b < w.heap.size ∧
  w.cell? ⟨b, off + i * 2, none⟩ = some (.int .u8 K) ∧ (Lit.int .u8 K).wf = true ∧ w.cell? ⟨b, off + i * 2 + 1, none⟩ = some (.int .i64 n) ∧ (Lit.int .i64 n).wf = true

theorem u8_of_wf {x : Int} (h : (Lit.int .u8 x).wf = true) : 0 ≤ x ∧ x ≤ 255 := by
  simpa [Lit.wf, IntKind.min, IntKind.max, IntKind.signed, IntKind.bits] using h

set_option maxRecDepth 100000 in
set_option maxHeartbeats 1000000 in
theorem meter_plays (most : Int) (ao : Option Addr) (len cap : Nat) (w : World) (hwf : (Lit.int .i64 most).wf = true) (hacts : IsActs w ao len) :
    Calls Try.prog 9 #[.int .i64 most, .slice ao len cap] w fun e w' => e = .returned (.bool true) ∧ Below w.heap.size w w' := by
  have hlen0 := hacts.1
  unfold maxLen at hlen0
  by_cases hlen : 100 < len
  · go_enter Try.func9, Try.ntmps9
    go_wp2_with fail
    refine (meter_alive _).mono ?_
    rintro e w1 ⟨rfl, hb⟩
    go_wp2_with fail
    go_returns
    exact ⟨rfl, hb⟩
  · obtain ⟨hm1, hm2⟩ := i64_of_wf hwf
    have hok := MS.Ok.new most hm2
    have cn := fun w => meter_new' most w
    have cr := fun w => ref_meter_new most w
    generalize MS.new most = m0 at *
    have CN := Lib.hid cn
    have CR := Lib.hid cr
    clear cn cr hwf
    go_enter Try.func9, Try.ntmps9
    go_wp2_with fail
    refine (meter_alive _).mono ?_
    rintro e w1 ⟨rfl, hb⟩
    go_wp2_with fail
    refine (CN.out _).mono ?_
    rintro e w2 ⟨rfl, hb2, hsz, hI⟩
    go_wp2_with fail
    refine (CR.out _).mono ?_
    rintro e w3 ⟨rfl, hb3⟩
    have hsz1 := hb.size
    have hsz3 := hb3.size
    have hB3 : Below w.heap.size w w3 := (hb.trans (hb2.mono hb.size)).trans (hb3.mono (by omega))
    have hI3 : IsM w3 w1.heap.size m0 := Below.blk hb3 hI hsz
    obtain ⟨mo, us, ta, to⟩ := m0
    unfold MS.agg MS.cs mcs
    go_wp2_with fail
    have hne : w1.heap.size ≠ w3.heap.size := by omega
    have hBm : w.heap.size ≤ w1.heap.size := by omega
    have hBx : w.heap.size ≤ w3.heap.size := by omega
    have hX3 : Blk (w3.alloc (.cells #[.int .i64 mo, .int .i64 us, .int .i64 ta, .int .i64 to] 50)) w3.heap.size (MS.cs ⟨mo, us, ta, to⟩) 50 := Blk.new _ _ _
    have hI4 := Blk.alloc hI3 (.cells #[.int .i64 mo, .int .i64 us, .int .i64 ta, .int .i64 to] 50)
    have hB4 := hB3.alloc (by omega) (.cells #[.int .i64 mo, .int .i64 us, .int .i64 ta, .int .i64 to] 50)
    generalize w1.heap.size = bm at *
    generalize w3.heap.size = bx at *
    generalize w3.alloc (.cells #[.int .i64 mo, .int .i64 us, .int .i64 ta, .int .i64 to] 50) = w4 at *
    clear hB3 hI3 hb3 hb hb2
    go_loopw [7] (fun iv wr => ∃ (k : Nat) (m : MS), iv = .int .i64 k ∧ k ≤ len ∧ m.Ok ∧ IsM wr bm m ∧ Blk wr bx m.cs 50 ∧ Below w.heap.size w wr) (fun iv _ => len - (intOf iv).toNat)
    case atStart => exact ⟨0, ⟨mo, us, ta, to⟩, rfl, by omega, hok, hI4, hX3, hB4⟩
    case round =>
      obtain ⟨k, m, rfl, hk, hmok, hIm, hX, hB⟩ := hrel
      have hwr := hB.size
      by_cases hlt : k < len
      · obtain ⟨b, off, K, n, hao, hbl, hcK, hwK, hcn, hwn⟩ := hacts.2 k hlt
        subst hao
        obtain ⟨hK0, hK1⟩ := u8_of_wf hwK
        obtain ⟨hn0, hn1⟩ := i64_of_wf hwn
        have hcK' : wr.cell? ⟨b, off + k * 2, none⟩ = some (.int .u8 K) := (hB.cell (p := ⟨b, off + k * 2, none⟩) hbl).trans hcK
        have hcn' : wr.cell? ⟨b, off + k * 2 + 1, none⟩ = some (.int .i64 n) := (hB.cell (p := ⟨b, off + k * 2 + 1, none⟩) hbl).trans hcn
        clear hcK hcn hwK hwn
        obtain ⟨mo1, us1, ta1, to1⟩ := m
        have x0 := hX.cell 0
        have x1 := hX.cell 1
        have x2 := hX.cell 2
        have x3 := hX.cell 3
        have xl := hX.lt
        simp [MS.cs, mcs] at x0 x1 x2 x3
        by_cases h2 : K % 4 = 2
        · have h2' : ((K % 4 : Int) == 2) = true := by rw [beq_iff_eq]; exact h2
          clear h2
          have hX2 : Blk ((wr.alloc (.cells #[.int .u8 K, .int .i64 n] 53)).alloc (.cells #[.int .i64 mo1, .int .i64 us1, .int .i64 ta1, .int .i64 to1] 50)) bx (MS.cs ⟨mo1, us1, ta1, to1⟩) 50 := (hX.alloc _).alloc _
          have hY2 : Blk ((wr.alloc (.cells #[.int .u8 K, .int .i64 n] 53)).alloc (.cells #[.int .i64 mo1, .int .i64 us1, .int .i64 ta1, .int .i64 to1] 50)) (wr.heap.size + 1) (MS.cs ⟨mo1, us1, ta1, to1⟩) 50 := by
            have := Blk.new (wr.alloc (.cells #[.int .u8 K, .int .i64 n] 53)) #[.int .i64 mo1, .int .i64 us1, .int .i64 ta1, .int .i64 to1] 50
            rw [World.size_alloc] at this
            exact this
          have hA2 : Blk ((wr.alloc (.cells #[.int .u8 K, .int .i64 n] 53)).alloc (.cells #[.int .i64 mo1, .int .i64 us1, .int .i64 ta1, .int .i64 to1] 50)) wr.heap.size #[.int .u8 K, .int .i64 n] 53 := (Blk.new _ _ _).alloc _
          have hI2 : IsM ((wr.alloc (.cells #[.int .u8 K, .int .i64 n] 53)).alloc (.cells #[.int .i64 mo1, .int .i64 us1, .int .i64 ta1, .int .i64 to1] 50)) bm ⟨mo1, us1, ta1, to1⟩ := (Blk.alloc hIm _).alloc _
          have hB2 : Below w.heap.size w ((wr.alloc (.cells #[.int .u8 K, .int .i64 n] 53)).alloc (.cells #[.int .i64 mo1, .int .i64 us1, .int .i64 ta1, .int .i64 to1] 50)) := (hB.alloc hwr _).alloc (by rw [World.size_alloc]; omega) _
          have hsz2 : ((wr.alloc (.cells #[.int .u8 K, .int .i64 n] 53)).alloc (.cells #[.int .i64 mo1, .int .i64 us1, .int .i64 ta1, .int .i64 to1] 50)).heap.size = wr.heap.size + 2 := by rw [World.size_alloc, World.size_alloc]
          have hsz2' := Lib.hid hsz2
          clear hsz2
          have ilt := Blk.lt hIm
          have cp := fun w' h => meter_give bm ⟨mo1, us1, ta1, to1⟩ n w' hmok h
          have cr := fun w' => ref_meter_give ⟨mo1, us1, ta1, to1⟩ n w' hmok
          have hok2 : (MS.give ⟨mo1, us1, ta1, to1⟩ n).1.Ok := hmok.give n
          generalize MS.give ⟨mo1, us1, ta1, to1⟩ n = r at cp cr hok2
          obtain ⟨⟨mo2, us2, ta2, to2⟩, er⟩ := r
          have CP := Lib.hid cp
          have CRF := Lib.hid cr
          clear cp cr
          have g1 : decide (mo2 < us2) = false := by have := hok2.b; have := hok2.c; simp only at *; simp; omega
          have g2 : decide (to2 < us2) = false := by have := hok2.b; simp only at *; simp; omega
          have g3 : decide (mo2 < to2) = false := by have := hok2.c; simp only at *; simp; omega
          go_wp2_with fail
          refine (CP.out _ hI2).mono ?_
          rintro e w5 ⟨rfl, hu, hI5⟩
          have hX5 := hu.blk hX2 (Ne.symm hne)
          have hY5 := hu.blk hY2 (by omega)
          have hA5 := hu.blk hA2 (by omega)
          have hB5 := hu.below hB2 hBm (by have := hB2.size; omega)
          have hs5 : wr.heap.size + 2 ≤ w5.heap.size := by have := hu.size; rw [hsz2'.out] at this; exact this
          clear hu hX2 hY2 hA2 hI2 hB2 hsz2' x0 x1 x2 x3 hcK' hcn'
          have x0 := hX5.cell 0
          have x1 := hX5.cell 1
          have x2 := hX5.cell 2
          have x3 := hX5.cell 3
          have an := hA5.cell 1
          simp [MS.cs, mcs] at x0 x1 x2 x3 an
          go_wp2_with fail
          refine (CRF.out _).mono ?_
          rintro e w6 ⟨rfl, hb6⟩
          have hs6 := hb6.size
          have hX6 := Below.blk hb6 hX5 (by omega)
          have hY6 := Below.blk hb6 hY5 (by omega)
          have hI6 : IsM w6 bm _ := Below.blk hb6 hI5 (by omega)
          have hB6 := hB5.trans (hb6.mono (by omega))
          clear hb6 hX5 hY5 hA5 hI5 hB5 x0 x1 x2 x3 an
          have y0 := hY6.cell 0
          have y1 := hY6.cell 1
          have y2 := hY6.cell 2
          have y3 := hY6.cell 3
          have x0 := hX6.cell 0
          have x1 := hX6.cell 1
          have x2 := hX6.cell 2
          have x3 := hX6.cell 3
          have yf0 := hY6.free 0
          have yf1 := hY6.free 1
          have yf2 := hY6.free 2
          have yf3 := hY6.free 3
          have xf0 := hX6.free 0
          have xf1 := hX6.free 1
          have xf2 := hX6.free 2
          have xf3 := hX6.free 3
          simp [MS.cs, mcs] at x0 x1 x2 x3 y0 y1 y2 y3
          unfold MS.agg MS.cs mcs
          have hyx : bx ≠ wr.heap.size + 1 := by omega
          have hmy : bm ≠ wr.heap.size + 1 := by omega
          go_wp2_with fail
          refine wp_gen (fun w7 => IsM w7 bm ⟨mo2, us2, ta2, to2⟩ ∧ Blk w7 bx (MS.cs ⟨mo2, us2, ta2, to2⟩) 50 ∧ Below w.heap.size w w7) ?_ ?_
          · refine ⟨((((((((Blk.setOther hI6 hmy _).setOther hmy _).setOther hmy _).setOther hmy _).setOther hne _).setOther hne _).setOther hne _).setOther hne _),
              ((((((((Blk.setOther hX6 hyx _).setOther hyx _).setOther hyx _).setOther hyx _).set 0 _).set 1 _).set 2 _).set 3 _),
              ((((((((Below.setCell hB6 (by simp; omega) _).setCell (by simp; omega) _).setCell (by simp; omega) _).setCell (by simp; omega) _).setCell (by simp; omega) _).setCell (by simp; omega) _).setCell (by simp; omega) _).setCell (by simp; omega) _)⟩
          rintro w7 ⟨hI7, hX7, hB7⟩
          clear y0 y1 y2 y3 x0 x1 x2 x3 yf0 yf1 yf2 yf3 xf0 xf1 xf2 xf3 hX6 hY6 hI6 hB6
          have x0 := hX7.cell 0
          have x1 := hX7.cell 1
          have x2 := hX7.cell 2
          have x3 := hX7.cell 3
          simp [MS.cs, mcs] at x0 x1 x2 x3
          go_quiet ((first | (go_at_call 21; exact Calls.quiet_eq (meter_us bm _ _ (Blk.drewN hI7 _))) | (go_at_call 22; exact Calls.quiet_eq (meter_ta bm _ _ (Blk.drewN hI7 _))) | (go_at_call 23; exact Calls.quiet_eq (meter_to bm _ _ (Blk.drewN hI7 _))) | (go_at_call 38; exact Calls.quiet_eq (meter_mo bm _ _ (Blk.drewN hI7 _)))))
          go_wp2_with fail
          go_roundw
          case rel => exact ⟨k + 1, ⟨mo2, us2, ta2, to2⟩, by go_num, by omega, hok2, Blk.drewN hI7 _, Blk.drewN hX7 _, ⟨hB7.os, hB7.tape, hB7.output, hB7.size, hB7.block⟩⟩
          case measure => simp [intOf]; omega
        · by_cases h3 : K % 4 = 3
          · have h2' : ((K % 4 : Int) == 2) = false := by rw [beq_eq_false_iff_ne]; exact h2
            have h3' : ((K % 4 : Int) == 3) = true := by rw [beq_iff_eq]; exact h3
            clear h2 h3
            have hX2 : Blk ((wr.alloc (.cells #[.int .u8 K, .int .i64 n] 53)).alloc (.cells #[.int .i64 mo1, .int .i64 us1, .int .i64 ta1, .int .i64 to1] 50)) bx (MS.cs ⟨mo1, us1, ta1, to1⟩) 50 := (hX.alloc _).alloc _
            have hY2 : Blk ((wr.alloc (.cells #[.int .u8 K, .int .i64 n] 53)).alloc (.cells #[.int .i64 mo1, .int .i64 us1, .int .i64 ta1, .int .i64 to1] 50)) (wr.heap.size + 1) (MS.cs ⟨mo1, us1, ta1, to1⟩) 50 := by
              have := Blk.new (wr.alloc (.cells #[.int .u8 K, .int .i64 n] 53)) #[.int .i64 mo1, .int .i64 us1, .int .i64 ta1, .int .i64 to1] 50
              rw [World.size_alloc] at this
              exact this
            have hA2 : Blk ((wr.alloc (.cells #[.int .u8 K, .int .i64 n] 53)).alloc (.cells #[.int .i64 mo1, .int .i64 us1, .int .i64 ta1, .int .i64 to1] 50)) wr.heap.size #[.int .u8 K, .int .i64 n] 53 := (Blk.new _ _ _).alloc _
            have hI2 : IsM ((wr.alloc (.cells #[.int .u8 K, .int .i64 n] 53)).alloc (.cells #[.int .i64 mo1, .int .i64 us1, .int .i64 ta1, .int .i64 to1] 50)) bm ⟨mo1, us1, ta1, to1⟩ := (Blk.alloc hIm _).alloc _
            have hB2 : Below w.heap.size w ((wr.alloc (.cells #[.int .u8 K, .int .i64 n] 53)).alloc (.cells #[.int .i64 mo1, .int .i64 us1, .int .i64 ta1, .int .i64 to1] 50)) := (hB.alloc hwr _).alloc (by rw [World.size_alloc]; omega) _
            have hsz2 : ((wr.alloc (.cells #[.int .u8 K, .int .i64 n] 53)).alloc (.cells #[.int .i64 mo1, .int .i64 us1, .int .i64 ta1, .int .i64 to1] 50)).heap.size = wr.heap.size + 2 := by rw [World.size_alloc, World.size_alloc]
            have hsz2' := Lib.hid hsz2
            clear hsz2
            have ilt := Blk.lt hIm
            have cp := fun w' h => meter_clear bm ⟨mo1, us1, ta1, to1⟩ w' h
            have cr := fun w' => ref_meter_clear ⟨mo1, us1, ta1, to1⟩ w'
            have hok2 : (MS.clear ⟨mo1, us1, ta1, to1⟩).Ok := hmok.clear
            generalize MS.clear ⟨mo1, us1, ta1, to1⟩ = r at cp cr hok2
            obtain ⟨mo2, us2, ta2, to2⟩ := r
            have CP := Lib.hid cp
            have CRF := Lib.hid cr
            clear cp cr
            have g1 : decide (mo2 < us2) = false := by have := hok2.b; have := hok2.c; simp only at *; simp; omega
            have g2 : decide (to2 < us2) = false := by have := hok2.b; simp only at *; simp; omega
            have g3 : decide (mo2 < to2) = false := by have := hok2.c; simp only at *; simp; omega
            go_wp2_with fail
            refine (CP.out _ hI2).mono ?_
            rintro e w5 ⟨rfl, hu, hI5⟩
            have hX5 := hu.blk hX2 (Ne.symm hne)
            have hY5 := hu.blk hY2 (by omega)
            have hA5 := hu.blk hA2 (by omega)
            have hB5 := hu.below hB2 hBm (by have := hB2.size; omega)
            have hs5 : wr.heap.size + 2 ≤ w5.heap.size := by have := hu.size; rw [hsz2'.out] at this; exact this
            clear hu hX2 hY2 hA2 hI2 hB2 hsz2' x0 x1 x2 x3 hcK' hcn'
            have x0 := hX5.cell 0
            have x1 := hX5.cell 1
            have x2 := hX5.cell 2
            have x3 := hX5.cell 3
            have an := hA5.cell 1
            simp [MS.cs, mcs] at x0 x1 x2 x3 an
            go_wp2_with fail
            refine (CRF.out _).mono ?_
            rintro e w6 ⟨rfl, hb6⟩
            have hs6 := hb6.size
            have hX6 := Below.blk hb6 hX5 (by omega)
            have hY6 := Below.blk hb6 hY5 (by omega)
            have hI6 : IsM w6 bm _ := Below.blk hb6 hI5 (by omega)
            have hB6 := hB5.trans (hb6.mono (by omega))
            clear hb6 hX5 hY5 hA5 hI5 hB5 x0 x1 x2 x3 an
            have y0 := hY6.cell 0
            have y1 := hY6.cell 1
            have y2 := hY6.cell 2
            have y3 := hY6.cell 3
            have x0 := hX6.cell 0
            have x1 := hX6.cell 1
            have x2 := hX6.cell 2
            have x3 := hX6.cell 3
            have yf0 := hY6.free 0
            have yf1 := hY6.free 1
            have yf2 := hY6.free 2
            have yf3 := hY6.free 3
            have xf0 := hX6.free 0
            have xf1 := hX6.free 1
            have xf2 := hX6.free 2
            have xf3 := hX6.free 3
            simp [MS.cs, mcs] at x0 x1 x2 x3 y0 y1 y2 y3
            unfold MS.agg MS.cs mcs
            have hyx : bx ≠ wr.heap.size + 1 := by omega
            have hmy : bm ≠ wr.heap.size + 1 := by omega
            go_wp2_with fail
            refine wp_gen (fun w7 => IsM w7 bm ⟨mo2, us2, ta2, to2⟩ ∧ Blk w7 bx (MS.cs ⟨mo2, us2, ta2, to2⟩) 50 ∧ Below w.heap.size w w7) ?_ ?_
            · refine ⟨((((((((Blk.setOther hI6 hmy _).setOther hmy _).setOther hmy _).setOther hmy _).setOther hne _).setOther hne _).setOther hne _).setOther hne _),
                ((((((((Blk.setOther hX6 hyx _).setOther hyx _).setOther hyx _).setOther hyx _).set 0 _).set 1 _).set 2 _).set 3 _),
                ((((((((Below.setCell hB6 (by simp; omega) _).setCell (by simp; omega) _).setCell (by simp; omega) _).setCell (by simp; omega) _).setCell (by simp; omega) _).setCell (by simp; omega) _).setCell (by simp; omega) _).setCell (by simp; omega) _)⟩
            rintro w7 ⟨hI7, hX7, hB7⟩
            clear y0 y1 y2 y3 x0 x1 x2 x3 yf0 yf1 yf2 yf3 xf0 xf1 xf2 xf3 hX6 hY6 hI6 hB6
            have x0 := hX7.cell 0
            have x1 := hX7.cell 1
            have x2 := hX7.cell 2
            have x3 := hX7.cell 3
            simp [MS.cs, mcs] at x0 x1 x2 x3
            go_quiet ((first | (go_at_call 21; exact Calls.quiet_eq (meter_us bm _ _ (Blk.drewN hI7 _))) | (go_at_call 22; exact Calls.quiet_eq (meter_ta bm _ _ (Blk.drewN hI7 _))) | (go_at_call 23; exact Calls.quiet_eq (meter_to bm _ _ (Blk.drewN hI7 _))) | (go_at_call 38; exact Calls.quiet_eq (meter_mo bm _ _ (Blk.drewN hI7 _)))))
            go_wp2_with fail
            go_roundw
            case rel => exact ⟨k + 1, ⟨mo2, us2, ta2, to2⟩, by go_num, by omega, hok2, Blk.drewN hI7 _, Blk.drewN hX7 _, ⟨hB7.os, hB7.tape, hB7.output, hB7.size, hB7.block⟩⟩
            case measure => simp [intOf]; omega
          · have h2' : ((K % 4 : Int) == 2) = false := by rw [beq_eq_false_iff_ne]; exact h2
            have h3' : ((K % 4 : Int) == 3) = false := by rw [beq_eq_false_iff_ne]; exact h3
            clear h2 h3
            have hX2 : Blk ((wr.alloc (.cells #[.int .u8 K, .int .i64 n] 53)).alloc (.cells #[.int .i64 mo1, .int .i64 us1, .int .i64 ta1, .int .i64 to1] 50)) bx (MS.cs ⟨mo1, us1, ta1, to1⟩) 50 := (hX.alloc _).alloc _
            have hY2 : Blk ((wr.alloc (.cells #[.int .u8 K, .int .i64 n] 53)).alloc (.cells #[.int .i64 mo1, .int .i64 us1, .int .i64 ta1, .int .i64 to1] 50)) (wr.heap.size + 1) (MS.cs ⟨mo1, us1, ta1, to1⟩) 50 := by
              have := Blk.new (wr.alloc (.cells #[.int .u8 K, .int .i64 n] 53)) #[.int .i64 mo1, .int .i64 us1, .int .i64 ta1, .int .i64 to1] 50
              rw [World.size_alloc] at this
              exact this
            have hA2 : Blk ((wr.alloc (.cells #[.int .u8 K, .int .i64 n] 53)).alloc (.cells #[.int .i64 mo1, .int .i64 us1, .int .i64 ta1, .int .i64 to1] 50)) wr.heap.size #[.int .u8 K, .int .i64 n] 53 := (Blk.new _ _ _).alloc _
            have hI2 : IsM ((wr.alloc (.cells #[.int .u8 K, .int .i64 n] 53)).alloc (.cells #[.int .i64 mo1, .int .i64 us1, .int .i64 ta1, .int .i64 to1] 50)) bm ⟨mo1, us1, ta1, to1⟩ := (Blk.alloc hIm _).alloc _
            have hB2 : Below w.heap.size w ((wr.alloc (.cells #[.int .u8 K, .int .i64 n] 53)).alloc (.cells #[.int .i64 mo1, .int .i64 us1, .int .i64 ta1, .int .i64 to1] 50)) := (hB.alloc hwr _).alloc (by rw [World.size_alloc]; omega) _
            have hsz2 : ((wr.alloc (.cells #[.int .u8 K, .int .i64 n] 53)).alloc (.cells #[.int .i64 mo1, .int .i64 us1, .int .i64 ta1, .int .i64 to1] 50)).heap.size = wr.heap.size + 2 := by rw [World.size_alloc, World.size_alloc]
            have hsz2' := Lib.hid hsz2
            clear hsz2
            have ilt := Blk.lt hIm
            have cp := fun w' h => meter_take bm ⟨mo1, us1, ta1, to1⟩ n w' hmok h
            have cr := fun w' => ref_meter_take ⟨mo1, us1, ta1, to1⟩ n w' hmok hn1
            have hok2 : (MS.take ⟨mo1, us1, ta1, to1⟩ n).1.Ok := hmok.take n
            generalize MS.take ⟨mo1, us1, ta1, to1⟩ n = r at cp cr hok2
            obtain ⟨⟨mo2, us2, ta2, to2⟩, er⟩ := r
            have CP := Lib.hid cp
            have CRF := Lib.hid cr
            clear cp cr
            have g1 : decide (mo2 < us2) = false := by have := hok2.b; have := hok2.c; simp only at *; simp; omega
            have g2 : decide (to2 < us2) = false := by have := hok2.b; simp only at *; simp; omega
            have g3 : decide (mo2 < to2) = false := by have := hok2.c; simp only at *; simp; omega
            go_wp2_with fail
            refine (CP.out _ hI2).mono ?_
            rintro e w5 ⟨rfl, hu, hI5⟩
            have hX5 := hu.blk hX2 (Ne.symm hne)
            have hY5 := hu.blk hY2 (by omega)
            have hA5 := hu.blk hA2 (by omega)
            have hB5 := hu.below hB2 hBm (by have := hB2.size; omega)
            have hs5 : wr.heap.size + 2 ≤ w5.heap.size := by have := hu.size; rw [hsz2'.out] at this; exact this
            clear hu hX2 hY2 hA2 hI2 hB2 hsz2' x0 x1 x2 x3 hcK' hcn'
            have x0 := hX5.cell 0
            have x1 := hX5.cell 1
            have x2 := hX5.cell 2
            have x3 := hX5.cell 3
            have an := hA5.cell 1
            simp [MS.cs, mcs] at x0 x1 x2 x3 an
            go_wp2_with fail
            refine (CRF.out _).mono ?_
            rintro e w6 ⟨rfl, hb6⟩
            have hs6 := hb6.size
            have hX6 := Below.blk hb6 hX5 (by omega)
            have hY6 := Below.blk hb6 hY5 (by omega)
            have hI6 : IsM w6 bm _ := Below.blk hb6 hI5 (by omega)
            have hB6 := hB5.trans (hb6.mono (by omega))
            clear hb6 hX5 hY5 hA5 hI5 hB5 x0 x1 x2 x3 an
            have y0 := hY6.cell 0
            have y1 := hY6.cell 1
            have y2 := hY6.cell 2
            have y3 := hY6.cell 3
            have x0 := hX6.cell 0
            have x1 := hX6.cell 1
            have x2 := hX6.cell 2
            have x3 := hX6.cell 3
            have yf0 := hY6.free 0
            have yf1 := hY6.free 1
            have yf2 := hY6.free 2
            have yf3 := hY6.free 3
            have xf0 := hX6.free 0
            have xf1 := hX6.free 1
            have xf2 := hX6.free 2
            have xf3 := hX6.free 3
            simp [MS.cs, mcs] at x0 x1 x2 x3 y0 y1 y2 y3
            unfold MS.agg MS.cs mcs
            have hyx : bx ≠ wr.heap.size + 1 := by omega
            have hmy : bm ≠ wr.heap.size + 1 := by omega
            go_wp2_with fail
            refine wp_gen (fun w7 => IsM w7 bm ⟨mo2, us2, ta2, to2⟩ ∧ Blk w7 bx (MS.cs ⟨mo2, us2, ta2, to2⟩) 50 ∧ Below w.heap.size w w7) ?_ ?_
            · refine ⟨((((((((Blk.setOther hI6 hmy _).setOther hmy _).setOther hmy _).setOther hmy _).setOther hne _).setOther hne _).setOther hne _).setOther hne _),
                ((((((((Blk.setOther hX6 hyx _).setOther hyx _).setOther hyx _).setOther hyx _).set 0 _).set 1 _).set 2 _).set 3 _),
                ((((((((Below.setCell hB6 (by simp; omega) _).setCell (by simp; omega) _).setCell (by simp; omega) _).setCell (by simp; omega) _).setCell (by simp; omega) _).setCell (by simp; omega) _).setCell (by simp; omega) _).setCell (by simp; omega) _)⟩
            rintro w7 ⟨hI7, hX7, hB7⟩
            clear y0 y1 y2 y3 x0 x1 x2 x3 yf0 yf1 yf2 yf3 xf0 xf1 xf2 xf3 hX6 hY6 hI6 hB6
            have x0 := hX7.cell 0
            have x1 := hX7.cell 1
            have x2 := hX7.cell 2
            have x3 := hX7.cell 3
            simp [MS.cs, mcs] at x0 x1 x2 x3
            go_quiet ((first | (go_at_call 21; exact Calls.quiet_eq (meter_us bm _ _ (Blk.drewN hI7 _))) | (go_at_call 22; exact Calls.quiet_eq (meter_ta bm _ _ (Blk.drewN hI7 _))) | (go_at_call 23; exact Calls.quiet_eq (meter_to bm _ _ (Blk.drewN hI7 _))) | (go_at_call 38; exact Calls.quiet_eq (meter_mo bm _ _ (Blk.drewN hI7 _)))))
            go_wp2_with fail
            go_roundw
            case rel => exact ⟨k + 1, ⟨mo2, us2, ta2, to2⟩, by go_num, by omega, hok2, Blk.drewN hI7 _, Blk.drewN hX7 _, ⟨hB7.os, hB7.tape, hB7.output, hB7.size, hB7.block⟩⟩
            case measure => simp [intOf]; omega
      · go_wp2_with fail
        refine (meter_clear_nil _).mono ?_
        rintro e w' ⟨rfl, rfl⟩
        go_wp2_with fail
        refine (meter_take_nil 1 _).mono ?_
        rintro e w5 ⟨rfl, hb5⟩
        go_wp2_with fail
        refine (meter_give_nil 0 _).mono ?_
        rintro e w6 ⟨rfl, hb6⟩
        go_wp2_with fail
        refine (meter_us_nil _).mono ?_
        rintro e w' ⟨rfl, rfl⟩
        go_wp2_with fail
        refine (meter_ta_nil _).mono ?_
        rintro e w' ⟨rfl, rfl⟩
        go_wp2_with fail
        refine (meter_to_nil _).mono ?_
        rintro e w' ⟨rfl, rfl⟩
        go_wp2_with fail
        refine (meter_mo_nil _).mono ?_
        rintro e w' ⟨rfl, rfl⟩
        go_wp2_with fail
        go_returns
        exact ⟨rfl, (hB.trans (hb5.mono hwr)).trans (hb6.mono (by have := hb5.size; omega))⟩
end Go.Proofs.Ytknokfofjhlkeaa
