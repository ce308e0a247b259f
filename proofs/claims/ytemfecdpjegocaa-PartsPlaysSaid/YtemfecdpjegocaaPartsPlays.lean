/- The walk of PartsPlays. -/
import Derived.Test.YtemfecdpjegocaaPlaysMem
namespace Go.Proofs.Ytemfecdpjegocaa
open Go.RowKit Go.Maps
set_option linter.unusedVariables false
set_option linter.unusedSimpArgs false

theorem u8_of_wf2 {x : Int} (h : (Lit.int .u8 x).wf = true) : 0 ≤ x ∧ x ≤ 255 := by
  simpa [Lit.wf, IntKind.min, IntKind.max, IntKind.signed, IntKind.bits] using h

set_option maxRecDepth 100000 in
theorem parts_plays_far {w : World} {ao : Option Addr} {len cap : Nat} (most open_ : Int) (hl : len ≤ maxLen) (h : 60 < len) :
    Calls Try.prog 8 #[.int .i64 most, .int .i64 open_, .slice ao len cap] w fun e w' => e = .returned (.bool true) ∧ Below w.heap.size w w' := by
  have d0 : decide (60 < (len : Int)) = true := by simp; omega
  unfold maxLen at hl
  go_enter Try.func8, Try.ntmps8
  go_wp2_with fail
  refine (parts_alive _).mono ?_
  rintro e w1 ⟨rfl, hb1⟩
  go_wp2_with fail
  go_returns
  exact ⟨rfl, hb1⟩

set_option maxRecDepth 100000 in
set_option maxHeartbeats 1000000 in
theorem parts_plays_bad {w : World} {ao : Option Addr} {len cap : Nat} (most open_ : Int) (h : ¬ 60 < len) (hbad : badLim most open_) :
    Calls Try.prog 8 #[.int .i64 most, .int .i64 open_, .slice ao len cap] w fun e w' => e = .returned (.bool true) ∧ Below w.heap.size w w' := by
  have d0 : decide (60 < (len : Int)) = false := by simp; omega
  have CN := Lib.hid (fun w => new_bad most open_ w hbad)
  have hb : (decide (most < 0) = true) ∨ (decide (most < 0) = false ∧ decide (1073741824 < most) = true) ∨ (decide (most < 0) = false ∧ decide (1073741824 < most) = false ∧ decide (open_ < 1) = true) ∨
      (decide (most < 0) = false ∧ decide (1073741824 < most) = false ∧ decide (open_ < 1) = false ∧ decide (32 < open_) = true) := by
    unfold badLim at hbad
    by_cases c1 : most < 0
    · exact .inl (by simp; exact c1)
    · by_cases c2 : 1073741824 < most
      · exact .inr (.inl ⟨by simp; omega, by simp; omega⟩)
      · by_cases c3 : open_ < 1
        · exact .inr (.inr (.inl ⟨by simp; omega, by simp; omega, by simp; omega⟩))
        · exact .inr (.inr (.inr ⟨by simp; omega, by simp; omega, by simp; omega, by simp; omega⟩))
  clear h hbad
  rcases hb with h0 | ⟨h0, h1⟩ | ⟨h0, h1, h2⟩ | ⟨h0, h1, h2, h3⟩
  all_goals
    go_enter Try.func8, Try.ntmps8
    go_wp2_with fail
    refine (parts_alive _).mono ?_
    rintro e w1 ⟨rfl, hb1⟩
    have HB1 := Lib.hid hb1
    clear hb1
    go_wp2_with fail
    refine (CN.out _).mono ?_
    rintro e w2 ⟨rfl, rfl⟩
    go_wp2_with fail
    refine (nil_add _ _).mono ?_
    rintro e w3 ⟨rfl, hb3⟩
    have HB3 := Lib.hid (HB1.out.trans (hb3.mono HB1.out.size))
    clear hb3
    go_wp2_with fail
    refine (nil_open _).mono ?_
    rintro e w4 ⟨rfl, rfl⟩
    go_wp2_with fail
    refine (nil_used _).mono ?_
    rintro e w5 ⟨rfl, rfl⟩
    go_wp2_with fail
    refine (nil_drop _ _).mono ?_
    rintro e w6 ⟨rfl, rfl⟩
    go_wp2_with fail
    go_returns
    exact ⟨rfl, HB3.out⟩

set_option maxRecDepth 100000 in
set_option maxHeartbeats 4000000 in
theorem parts_plays_near {w : World} {ao : Option Addr} {len cap : Nat} (most open_ : Int) (hacts : IsActs w ao len) (h0 : ¬ 60 < len) (hlim : ¬ badLim most open_) :
    Calls Try.prog 8 #[.int .i64 most, .int .i64 open_, .slice ao len cap] w fun e w' => e = .returned (.bool true) ∧ Below w.heap.size w w' := by
  unfold badLim at hlim
  have hm0 : 0 ≤ most := by omega
  have hm1 : most ≤ 1073741824 := by omega
  have ho0 : 1 ≤ open_ := by omega
  have ho1 : open_ ≤ 32 := by omega
  have d1 : decide (most < 0) = false := by simp; omega
  have d2 : decide (1073741824 < most) = false := by simp; omega
  have d3 : decide (open_ < 1) = false := by simp; omega
  have d4 : decide (32 < open_) = false := by simp; omega
  have d0 : decide (60 < (len : Int)) = false := by simp; omega
  have hl60 : len ≤ 60 := by omega
  have HA := Lib.hid hacts
  have CN := Lib.hid (fun w => new_joiner most open_ w ⟨hm0, hm1, ho0, ho1⟩)
  clear h0 hlim hacts
  go_enter Try.func8, Try.ntmps8
  go_wp2_with fail
  refine (parts_alive _).mono ?_
  rintro e w1 ⟨rfl, hb1⟩
  have hs1 := hb1.size
  have HB1 := Lib.hid hb1
  clear hb1
  go_wp2_with fail
  refine (CN.out _).mono ?_
  rintro e w2 ⟨rfl, hj2, hb2⟩
  obtain ⟨B, hB⟩ : ∃ B, w1.heap.size = B := ⟨_, rfl⟩
  obtain ⟨bj, hbj⟩ : ∃ bj, w1.heap.size + 2 = bj := ⟨_, rfl⟩
  obtain ⟨bx, hbx⟩ : ∃ bx, w2.heap.size = bx := ⟨_, rfl⟩
  have HJ2 := Lib.hid hj2
  have HB2 := Lib.hid hb2
  have hjlt := hj2.bd.lt
  rw [hbj] at HJ2 hjlt ⊢
  rw [hB] at HJ2 HB2 hs1
  rw [hbx] at hjlt
  clear hj2 hb2 CN
  go_upto_region 12 with fail
  have HP : Hid (P2 B bj bx 0 most open_ w1 (w2.alloc (.cells #[.int .i64 most, .int .i64 open_, .slice none 0 0] 84)) [] [] (.slice none 0 0)) := by
    have hb := (Below.refl w2.heap.size w2).alloc (Nat.le_refl _) (.cells #[.int .i64 most, .int .i64 open_, .slice none 0 0] 84)
    have hlo := HJ2.out.lo
    exact ⟨⟨_, _, _, HJ2.out.below hb⟩, hbx ▸ Blk.new w2 _ _, PV.nil _, ⟨by omega, by omega, hlo.1⟩, fun b hb => by (cases hb), HB2.out.trans (hb.mono (by omega))⟩
  have HI0 := Lib.hid (InvP.nil hm0 ho0)
  generalize w2.alloc (.cells #[.int .i64 most, .int .i64 open_, .slice none 0 0] 84) = w3 at *
  clear HJ2 HB2 hjlt hbj hbx
  go_wp2_with fail
  go_loopw [13] (fun iv wi => ∃ (k : Nat) (L : List Pt) (v : Value), iv = .int .i64 k ∧ k ≤ len ∧ Hid (P2 B bj bx k most open_ w1 wi L L v) ∧ Hid (InvP most open_ k L)) (fun iv _ => len - (intOf iv).toNat)
  case atStart => exact ⟨0, [], _, rfl, by omega, HP, HI0⟩
  case round =>
    clear HP HI0 w3 w2
    obtain ⟨k, L, v, rfl, hk, HP, HI⟩ := hrel
    obtain ⟨ao2, cap2, hv2⟩ := HP.out.pv.ps.slice
    obtain ⟨N, hN⟩ : ∃ N, L.length = N := ⟨_, rfl⟩
    rw [hN] at hv2
    subst hv2
    by_cases c : k < len
    · obtain ⟨b, off, K, q, rfl, hbl, hwK, hwq, x0, x1, x2, x3, x4⟩ := HA.out.2 k c
      have hcell : ∀ o, wr.cell? ⟨b, o, none⟩ = w.cell? ⟨b, o, none⟩ := fun o => (HP.out.bel.cell (p := ⟨b, o, none⟩) (show b < B by omega)).trans (HB1.out.cell (p := ⟨b, o, none⟩) hbl)
      have y0 := (hcell _).trans x0
      have y1 := (hcell _).trans x1
      have y2 := (hcell _).trans x2
      have y3 := (hcell _).trans x3
      have y4 := (hcell _).trans x4
      have hbB : b < B := by omega
      clear hcell x0 x1 x2 x3 x4
      obtain ⟨qi, qn, qo, qT⟩ := q
      simp only at y0 y1 y2 y3 y4
      go_upto_region 16 with fail
      have HW : Hid (∀ X, wr.alloc (.cells #[.int .u8 K, .int .i64 qi, .int .i64 qn, .int .i64 qo, .string qT] 86) = X → P2 B bj bx k most open_ w1 X L L (.slice ao2 N cap2) ∧ Blk X wr.heap.size #[.int .u8 K, .int .i64 qi, .int .i64 qn, .int .i64 qo, .string qT] 86 ∧ wr.heap.size ≠ bj ∧ wr.heap.size ≠ bx) := fun X hX => by
        subst hX
        have := HP.out.lt
        exact ⟨HP.out.below ((Below.refl _ _).alloc (Nat.le_refl _) _), Blk.new _ _ _, by omega, by omega⟩
      generalize wr.alloc (.cells #[.int .u8 K, .int .i64 qi, .int .i64 qn, .int .i64 qo, .string qT] 86) = wq at *
      obtain ⟨hp5, hb5, hn1, hn2⟩ := HW.out _ rfl
      clear HW HP y0 y1 y2 y3 y4
      have HP := Lib.hid hp5
      have HA5 := Lib.hid hb5
      clear hp5 hb5
      generalize wr.heap.size = ba at *
      clear wr
      have z0 : wq.cell? ⟨ba, 0, none⟩ = some (.int .u8 K) := HA5.out.cell 0
      have z1 : wq.cell? ⟨ba, 1, none⟩ = some (.int .i64 qi) := HA5.out.cell 1
      have z2 : wq.cell? ⟨ba, 2, none⟩ = some (.int .i64 qn) := HA5.out.cell 2
      have z3 : wq.cell? ⟨ba, 3, none⟩ = some (.int .i64 qo) := HA5.out.cell 3
      have z4 : wq.cell? ⟨ba, 4, none⟩ = some (.string qT) := HA5.out.cell 4
      have hTs := hwq.2.2.2
      simp only at hTs
      unfold maxLen at hTs
      have hK := u8_of_wf2 hwK
      by_cases h300 : 300 < qT.size
      · have d300 : decide (300 < (qT.size : Int)) = true := by simp; omega
        have HBF : Hid (Below w.heap.size w wq) := HB1.out.trans (HP.out.bel.mono hs1)
        go_wp2_with fail
        go_returns
        exact ⟨rfl, HBF.out⟩
      · have d300 : decide (300 < (qT.size : Int)) = false := by simp; omega
        have hNl := HI.out.len
        rw [hN] at hNl
        by_cases h3 : K % 4 = 3
        · have e3 : ((K % 4 : Int) == 3) = true := by rw [beq_iff_eq]; exact h3
          clear h3 h300
          have b0 : wq.cell? ⟨bx, 0, none⟩ = some (.int .i64 most) := HP.out.bk.cell 0
          have b1 : wq.cell? ⟨bx, 1, none⟩ = some (.int .i64 open_) := HP.out.bk.cell 1
          have b2 : wq.cell? ⟨bx, 2, none⟩ = some (.slice ao2 N cap2) := HP.out.bk.cell 2
          have CD := Lib.hid (doc_drop HP.out.pv (by omega) most open_ qi)
          go_wp2_with fail
          refine CD.out.mono ?_
          rintro e w4 ⟨v4, rfl, hpv4, hb4, hnew4⟩
          obtain ⟨ao4, cap4, hv4⟩ := hpv4.ps.slice
          have HW : Hid (∀ X, w4.alloc (.cells #[.int .i64 most, .int .i64 open_, v4] 84) = X → P2 B bj bx k most open_ w1 X L L (.slice ao2 N cap2) ∧ Blk X ba #[.int .u8 K, .int .i64 qi, .int .i64 qn, .int .i64 qo, .string qT] 86 ∧ Blk X w4.heap.size #[.int .i64 most, .int .i64 open_, v4] 84 ∧ PV X v4 (dropL L qi) ∧ bx ≠ w4.heap.size) := fun X hX => by
            subst hX
            have hal := (Below.refl w4.heap.size w4).alloc (Nat.le_refl _) (.cells #[.int .i64 most, .int .i64 open_, v4] 84)
            have h1 := HP.out.below hb4
            have := h1.lt.1
            exact ⟨h1.below hal, Below.blk hal (Below.blk hb4 HA5.out HA5.out.lt) (Below.blk hb4 HA5.out HA5.out.lt).lt, Blk.new _ _ _, hpv4.below hal, by omega⟩
          have HNV : Hid (∀ b, (v4 : Value).ownBlock = some b → b ≠ bj ∧ b ≠ bx ∧ B ≤ b) := fun b hb => by
            have := hnew4 b hb
            have := HP.out.lt
            omega
          have HI2 := Lib.hid (HI.out.drop qi)
          have HU := Lib.hid HI.out.used
          clear hpv4 hb4 hnew4 CD b0 b1 b2 z0 z1 z2 z3 z4 HA5 HP
          generalize hL2 : dropL L qi = L2 at *
          have HL2 := Lib.hid hL2
          clear hL2
          generalize L2.length = N2 at *
          subst hv4
          go_upto_region 20 with fail
          generalize w4.alloc (.cells #[.int .i64 most, .int .i64 open_, .slice ao4 N2 cap4] 84) = w5 at *
          obtain ⟨hp5, ha5, hy5, hpv5, hne5⟩ := HW.out _ rfl
          have HP5 := Lib.hid hp5
          have HA5 := Lib.hid ha5
          have HY5 := Lib.hid hy5
          have HPV5 := Lib.hid hpv5
          clear HW hp5 ha5 hy5 hpv5
          generalize w4.heap.size = by5 at *
          have b0 : w5.cell? ⟨bx, 0, none⟩ = some (.int .i64 most) := HP5.out.bk.cell 0
          have b1 : w5.cell? ⟨bx, 1, none⟩ = some (.int .i64 open_) := HP5.out.bk.cell 1
          have b2 : w5.cell? ⟨bx, 2, none⟩ = some (.slice ao2 N cap2) := HP5.out.bk.cell 2
          have y0 : w5.cell? ⟨by5, 0, none⟩ = some (.int .i64 most) := HY5.out.cell 0
          have y1 : w5.cell? ⟨by5, 1, none⟩ = some (.int .i64 open_) := HY5.out.cell 1
          have y2 : w5.cell? ⟨by5, 2, none⟩ = some (.slice ao4 N2 cap4) := HY5.out.cell 2
          have fx := fun i => HP5.out.bk.free i
          go_upto_region 21 with fail
          have HP6 := Lib.hid (HP5.out.stored HPV5.out HNV.out)
          have HA6 := Lib.hid (((HA5.out.setOther (a := ⟨bx, 0, none⟩) hn2 (.int .i64 most)).setOther (a := ⟨bx, 1, none⟩) hn2 (.int .i64 open_)).setOther (a := ⟨bx, 2, none⟩) hn2 (.slice ao4 N2 cap4))
          generalize ((w5.setCell ⟨bx, 0, none⟩ (.int .i64 most)).setCell ⟨bx, 1, none⟩ (.int .i64 open_)).setCell ⟨bx, 2, none⟩ (.slice ao4 N2 cap4) = w6 at *
          clear HP5 HA5 HY5 HPV5 b0 b1 b2 y0 y1 y2 fx w5
          have z1 : w6.cell? ⟨ba, 1, none⟩ = some (.int .i64 qi) := HA6.out.cell 1
          have CP := Lib.hid (plays_drop HP6.out qi hwq.1 hm1 HU.out)
          go_wp2_with fail
          refine CP.out.mono ?_
          rintro e w7 ⟨rfl, hp7, -, -⟩
          rw [HL2.out] at hp7
          have HP2 : Hid (P2 B bj bx (k + 1) most open_ w1 w7 L2 L2 (.slice ao4 N2 cap4)) := hp7.up (Nat.le_succ k)
          clear HL2
          clear hp7 CP HP6 HA6 z1 w6 HU HNV
          generalize decide (qi ∈ idsL L) = D at *
          clear HI hwq
          have hLl := HI2.out.len
          have hIu := HI2.out.used
          have hIi := HI2.out.ids
          have HALL := Lib.hid HP2.out.all
          have HSL : Hid ((sortI (idsL L2)).length = (idsL L2).length) := by unfold Hid sortI; exact List.length_mergeSort _
          have b0 : w7.cell? ⟨bx, 0, none⟩ = some (.int .i64 most) := HP2.out.bk.cell 0
          have b1 : w7.cell? ⟨bx, 1, none⟩ = some (.int .i64 open_) := HP2.out.bk.cell 1
          have b2 : w7.cell? ⟨bx, 2, none⟩ = some (.slice ao4 N2 cap4) := HP2.out.bk.cell 2
          have hbxl := HP2.out.lt.1
          have CI : Hid (∀ X, Below w7.heap.size w7 X → Calls Try.prog 43 #[.agg #[.int .i64 most, .int .i64 open_, .slice ao4 N2 cap4]] X (DIdsPost L2 X)) := fun X hb => doc_ids (HP2.out.pv.below hb) (by omega) (fun p hp => ⟨(HALL.out.1 p hp).1.1, (HALL.out.1 p hp).1.2⟩) most open_
          have CU : Hid (∀ X, Below w7.heap.size w7 X → Calls Try.prog 44 #[.agg #[.int .i64 most, .int .i64 open_, .slice ao4 N2 cap4]] X fun en w' => en = .returned (.int .i64 (usedL L2 : Nat)) ∧ Below X.heap.size X w') := fun X hb => doc_used (HP2.out.pv.below hb) (by omega) (by omega) most open_
          have hS0 := And.intro b0 (And.intro b1 b2)
          clear HALL
          go_wp2_with fail
          go_region_held3 (fun w' => w'.cell? ⟨bx, 0, none⟩ = some (.int .i64 most) ∧ w'.cell? ⟨bx, 1, none⟩ = some (.int .i64 open_) ∧ w'.cell? ⟨bx, 2, none⟩ = some (.slice ao4 N2 cap4))
            (first | assumption | exact hS0 | exact hS6 | exact hS7)
            (first
              | (go_at_call 38; refine (plays_open (HP2.out.below (Below.refl _ _).drew) (by omega)).mono ?_; rintro e w8 ⟨v6, rfl, hi6, hb6⟩; have hS6 := And.intro ((hb6.cell (p := ⟨bx, 0, none⟩) hbxl).trans b0) (And.intro ((hb6.cell (p := ⟨bx, 1, none⟩) hbxl).trans b1) ((hb6.cell (p := ⟨bx, 2, none⟩) hbxl).trans b2)))
              | (go_at_call 43; refine (CI.out _ ((Below.refl _ _).drew.trans hb6)).mono ?_; rintro e w9 ⟨v7, rfl, hi7, hb7⟩; have hS7 := And.intro ((hb7.cell (p := ⟨bx, 0, none⟩) (Nat.lt_of_lt_of_le hbxl hb6.size)).trans hS6.1) (And.intro ((hb7.cell (p := ⟨bx, 1, none⟩) (Nat.lt_of_lt_of_le hbxl hb6.size)).trans hS6.2.1) ((hb7.cell (p := ⟨bx, 2, none⟩) (Nat.lt_of_lt_of_le hbxl hb6.size)).trans hS6.2.2))))
          have HB9 : Hid (Below w7.heap.size w7 w9) := ((Below.refl _ _).drew.trans hb6).trans (hb7.mono hb6.size)
          have HI6 := Lib.hid (hi6.below hb7)
          have HI7 := Lib.hid hi7
          have HP9 := Lib.hid (HP2.out.below HB9.out)
          clear hi6 hi7 hb6 hS0 b0 b1 b2 HP2 CI
          obtain ⟨a6, c6, rfl, hx6⟩ := HI6.out
          obtain ⟨a7, c7, rfl, hx7⟩ := HI7.out
          have HX6 := Lib.hid hx6
          have HX7 := Lib.hid hx7
          have hSl : (sortI (idsL L2)).length ≤ open_.toNat := by rw [HSL.out]; omega
          clear hx6 hx7 HI6 HI7
          generalize sortI (idsL L2) = S at *
          clear HSL
          obtain ⟨M, hM⟩ : ∃ M, S.length = M := ⟨_, rfl⟩
          rw [hM] at hSl ⊢
          have hdo : decide (open_ < (M : Int)) = false := by simp; omega
          have CP9 : Hid (∀ x : Fut w9, P2 B bj bx (k + 1) most open_ w1 x.at_ L2 L2 (.slice ao4 N2 cap4)) := fun x => HP9.out.below x.is
          have CU9 : Hid (∀ x : Fut w9, Calls Try.prog 44 #[.agg #[.int .i64 most, .int .i64 open_, .slice ao4 N2 cap4]] x.at_ fun en w' => en = .returned (.int .i64 (usedL L2 : Nat)) ∧ Below x.at_.heap.size x.at_ w') := fun x => CU.out _ (HB9.out.trans (x.is.mono HB9.out.size))
          have CQ9 : Hid (∀ x : Fut w9, Calls Try.prog 39 #[.pointer (some ⟨bj, 0, none⟩)] x.at_ fun en w' => en = .returned (.int .i64 (usedL L2 : Nat)) ∧ Below x.at_.heap.size x.at_ w') := fun x => (plays_used (CP9.out x)).mono fun en w' ⟨h1, h2⟩ => ⟨h1, by rw [h2]; exact Below.refl _ _⟩
          have q0 := fun x : Fut w9 => (CP9.out x).bk.cell 0
          have q1 := fun x : Fut w9 => (CP9.out x).bk.cell 1
          have q2 := fun x : Fut w9 => (CP9.out x).bk.cell 2
          simp at q0 q1 q2
          have hdm : decide (most < (usedL L2 : Int)) = false := by simp; omega
          generalize usedL L2 = U at *
          clear HB9 hb7 CU hS6 hS7
          go_wp2_with fail
          refine wp_region_after (by kernel_rfl) (by kernel_rfl) ?_
          repeat (go_big_quiet_step (fail))
          go_big_quiet_step (exact Calls.after (CQ9.out _))
          repeat (go_big_quiet_step (fail))
          go_big_quiet_step (exact Calls.after (CU9.out _))
          repeat (go_big_quiet_step (fail))
          go_big_quiet_step (exact Calls.after (CQ9.out _))
          repeat (go_big_quiet_step (fail))
          refine wpQuiet_nil ?_
          intro x
          have HPX := Lib.hid (CP9.out x)
          have HY6 : Hid (∀ (i : Nat) (h : i < S.length), ∃ g off, a6 = some ⟨g, off, none⟩ ∧ x.at_.cell? ⟨g, off + i, none⟩ = some (.int .i64 S[i])) := fun i h => by
            obtain ⟨g, off, e1, e2, e3⟩ := HX6.out i h
            exact ⟨g, off, e1, (x.is.cell (p := ⟨g, off + i, none⟩) e2).trans e3⟩
          have HY7 : Hid (∀ (i : Nat) (h : i < S.length), ∃ g off, a7 = some ⟨g, off, none⟩ ∧ x.at_.cell? ⟨g, off + i, none⟩ = some (.int .i64 S[i])) := fun i h => by
            obtain ⟨g, off, e1, e2, e3⟩ := HX7.out i h
            exact ⟨g, off, e1, (x.is.cell (p := ⟨g, off + i, none⟩) e2).trans e3⟩
          clear CP9 CU9 CQ9 q0 q1 q2 HX6 HX7 HP9
          generalize x.at_ = wx at *
          clear x
          go_wp2_with fail
          go_loopw [26] (fun tv wi => ∃ (t nd : Nat), tv = .int .i64 t ∧ t ≤ M ∧ wi = wx.drewN nd) (fun tv _ => M - (intOf tv).toNat)
          case atStart => exact ⟨0, 0, rfl, by omega, rfl⟩
          case round =>
            obtain ⟨t, nd, rfl, ht, rfl⟩ := hrel
            by_cases ct : t < M
            · have ct2 : t < S.length := by omega
              obtain ⟨g6, o6, rfl, r6⟩ := HY6.out t ct2
              obtain ⟨g7, o7, rfl, r7⟩ := HY7.out t ct2
              generalize S[t] = Z at *
              go_wp2_with fail
              go_quiet (fail)
              go_wp2_with fail
              go_roundw
              case rel => exact ⟨t + 1, _, by go_num, by omega, rfl⟩
              case measure => simp [intOf]; omega
            · obtain rfl : t = M := by omega
              have HPX2 : Hid (P2 B bj bx (k + 1) most open_ w1 (wx.drewN nd) L2 L2 (.slice ao4 N2 cap4)) := HPX.out.below ⟨rfl, rfl, rfl, Nat.le_refl _, fun _ _ => rfl⟩
              clear HPX HY6 HY7
              generalize wx.drewN nd = wy at *
              go_wp2_with fail
              go_roundw
              case rel => exact ⟨k + 1, L2, _, by go_num, by omega, HPX2, HI2⟩
              case measure => simp [intOf]; omega
        · have e3 : ((K % 4 : Int) == 3) = false := by rw [beq_eq_false_iff_ne]; exact h3
          clear h3 h300
          have hall := HP.out.all
          have CAP := Lib.hid (fun W2 (h2 : P2 B bj bx k most open_ w1 W2 L L (.slice ao2 N cap2)) => plays_add h2 ⟨qi, qn, qo, qT⟩ hwq ⟨hm0, hm1⟩ HI.out.used (by omega))
          have CAD := Lib.hid (fun W2 (h2 : PV W2 (.slice ao2 N cap2) L) => doc_add h2 ⟨qi, qn, qo, qT⟩ hwq most open_ (by omega) (by have := HI.out.used; omega) hall.1 hall.2.1 (hall.2.2 qi) ⟨hm0, by omega⟩ ⟨by omega, by omega⟩)
          have HI2 := Lib.hid (HI.out.add ⟨qi, qn, qo, qT⟩)
          unfold PAddPost at CAP
          unfold DAddPost at CAD
          obtain ⟨R, hR⟩ : ∃ R, addJ most open_ L ⟨qi, qn, qo, qT⟩ = R := ⟨_, rfl⟩
          simp only [hR] at CAP CAD HI2
          clear hR hall
          obtain ⟨L2, rs, rb, re⟩ := R
          simp only [Pt.cs] at CAP CAD HI2
          go_wp2_with fail
          refine (law_of ⟨qi, qn, qo, qT⟩ _).mono ?_
          rintro e w3 ⟨rfl, hb3⟩
          have HP3 := Lib.hid (HP.out.below hb3)
          have HA3 := Lib.hid (Below.blk hb3 HA5.out HA5.out.lt)
          clear hb3 HP HA5 z0 z1 z2 z3 z4
          simp only [Pt.cs]
          go_wp2_with fail
          refine (CAP.out _ HP3.out).mono ?_
          rintro e w4 ⟨rfl, hp4, -, hbk4⟩
          have HP4 := Lib.hid hp4
          have HA4 := Lib.hid (hbk4 _ _ _ hn1 HA3.out (by simp))
          clear hp4 hbk4 HP3 HA3 CAP
          have b0 : w4.cell? ⟨bx, 0, none⟩ = some (.int .i64 most) := HP4.out.bk.cell 0
          have b1 : w4.cell? ⟨bx, 1, none⟩ = some (.int .i64 open_) := HP4.out.bk.cell 1
          have b2 : w4.cell? ⟨bx, 2, none⟩ = some (.slice ao2 N cap2) := HP4.out.bk.cell 2
          have z1 : w4.cell? ⟨ba, 1, none⟩ = some (.int .i64 qi) := HA4.out.cell 1
          have z2 : w4.cell? ⟨ba, 2, none⟩ = some (.int .i64 qn) := HA4.out.cell 2
          have z3 : w4.cell? ⟨ba, 3, none⟩ = some (.int .i64 qo) := HA4.out.cell 3
          have z4 : w4.cell? ⟨ba, 4, none⟩ = some (.string qT) := HA4.out.cell 4
          have CD := Lib.hid (CAD.out _ HP4.out.pv)
          clear CAD
          go_wp2_with fail
          refine CD.out.mono ?_
          rintro e w5 ⟨v5, rfl, hpv5, hb5, hnew5⟩
          obtain ⟨ao4, cap4, hv5⟩ := hpv5.ps.slice
          have HW : Hid (∀ X, w5.alloc (.cells #[.int .i64 most, .int .i64 open_, v5] 84) = X → P2 B bj bx (k + 1) most open_ w1 X L2 L (.slice ao2 N cap2) ∧ Blk X w5.heap.size #[.int .i64 most, .int .i64 open_, v5] 84 ∧ PV X v5 L2 ∧ bx ≠ w5.heap.size) := fun X hX => by
            subst hX
            have hal := (Below.refl w5.heap.size w5).alloc (Nat.le_refl _) (.cells #[.int .i64 most, .int .i64 open_, v5] 84)
            have h1 := HP4.out.below hb5
            have := h1.lt.1
            exact ⟨h1.below hal, Blk.new _ _ _, hpv5.below hal, by omega⟩
          have HNV : Hid (∀ b, (v5 : Value).ownBlock = some b → b ≠ bj ∧ b ≠ bx ∧ B ≤ b) := fun b hb => by
            rcases hnew5 b hb with h | h
            · exact HP4.out.nv b h
            · have := HP4.out.lt
              omega
          clear hpv5 hb5 hnew5 CD b0 b1 b2 z1 z2 z3 z4 HA4 HP4
          generalize L2.length = N2 at *
          subst hv5
          go_upto_region 25 with fail
          generalize w5.alloc (.cells #[.int .i64 most, .int .i64 open_, .slice ao4 N2 cap4] 84) = w6 at *
          obtain ⟨hp6, hy6, hpv6, hne6⟩ := HW.out _ rfl
          have HP6 := Lib.hid hp6
          have HY6 := Lib.hid hy6
          have HPV6 := Lib.hid hpv6
          clear HW hp6 hy6 hpv6
          generalize w5.heap.size = by5 at *
          have b0 : w6.cell? ⟨bx, 0, none⟩ = some (.int .i64 most) := HP6.out.bk.cell 0
          have b1 : w6.cell? ⟨bx, 1, none⟩ = some (.int .i64 open_) := HP6.out.bk.cell 1
          have b2 : w6.cell? ⟨bx, 2, none⟩ = some (.slice ao2 N cap2) := HP6.out.bk.cell 2
          have y0 : w6.cell? ⟨by5, 0, none⟩ = some (.int .i64 most) := HY6.out.cell 0
          have y1 : w6.cell? ⟨by5, 1, none⟩ = some (.int .i64 open_) := HY6.out.cell 1
          have y2 : w6.cell? ⟨by5, 2, none⟩ = some (.slice ao4 N2 cap4) := HY6.out.cell 2
          have fx := fun i => HP6.out.bk.free i
          go_upto_region 26 with fail
          have HP2 := Lib.hid (HP6.out.stored HPV6.out HNV.out)
          generalize ((w6.setCell ⟨bx, 0, none⟩ (.int .i64 most)).setCell ⟨bx, 1, none⟩ (.int .i64 open_)).setCell ⟨bx, 2, none⟩ (.slice ao4 N2 cap4) = w7 at *
          clear HP6 HY6 HPV6 b0 b1 b2 y0 y1 y2 fx w6
          have hs0 : (rs.toList == rs.toList) = true := by simp
          clear HI hwq HNV
          have hLl := HI2.out.len
          have hIu := HI2.out.used
          have hIi := HI2.out.ids
          have HALL := Lib.hid HP2.out.all
          have HSL : Hid ((sortI (idsL L2)).length = (idsL L2).length) := by unfold Hid sortI; exact List.length_mergeSort _
          have b0 : w7.cell? ⟨bx, 0, none⟩ = some (.int .i64 most) := HP2.out.bk.cell 0
          have b1 : w7.cell? ⟨bx, 1, none⟩ = some (.int .i64 open_) := HP2.out.bk.cell 1
          have b2 : w7.cell? ⟨bx, 2, none⟩ = some (.slice ao4 N2 cap4) := HP2.out.bk.cell 2
          have hbxl := HP2.out.lt.1
          have CI : Hid (∀ X, Below w7.heap.size w7 X → Calls Try.prog 43 #[.agg #[.int .i64 most, .int .i64 open_, .slice ao4 N2 cap4]] X (DIdsPost L2 X)) := fun X hb => doc_ids (HP2.out.pv.below hb) (by omega) (fun p hp => ⟨(HALL.out.1 p hp).1.1, (HALL.out.1 p hp).1.2⟩) most open_
          have CU : Hid (∀ X, Below w7.heap.size w7 X → Calls Try.prog 44 #[.agg #[.int .i64 most, .int .i64 open_, .slice ao4 N2 cap4]] X fun en w' => en = .returned (.int .i64 (usedL L2 : Nat)) ∧ Below X.heap.size X w') := fun X hb => doc_used (HP2.out.pv.below hb) (by omega) (by omega) most open_
          have hS0 := And.intro b0 (And.intro b1 b2)
          clear HALL
          go_wp2_with fail
          go_region_held3 (fun w' => w'.cell? ⟨bx, 0, none⟩ = some (.int .i64 most) ∧ w'.cell? ⟨bx, 1, none⟩ = some (.int .i64 open_) ∧ w'.cell? ⟨bx, 2, none⟩ = some (.slice ao4 N2 cap4))
            (first | assumption | exact hS0 | exact hS6 | exact hS7)
            (first
              | (go_at_call 38; refine (plays_open (HP2.out.below (Below.refl _ _).drew) (by omega)).mono ?_; rintro e w8 ⟨v6, rfl, hi6, hb6⟩; have hS6 := And.intro ((hb6.cell (p := ⟨bx, 0, none⟩) hbxl).trans b0) (And.intro ((hb6.cell (p := ⟨bx, 1, none⟩) hbxl).trans b1) ((hb6.cell (p := ⟨bx, 2, none⟩) hbxl).trans b2)))
              | (go_at_call 43; refine (CI.out _ ((Below.refl _ _).drew.trans hb6)).mono ?_; rintro e w9 ⟨v7, rfl, hi7, hb7⟩; have hS7 := And.intro ((hb7.cell (p := ⟨bx, 0, none⟩) (Nat.lt_of_lt_of_le hbxl hb6.size)).trans hS6.1) (And.intro ((hb7.cell (p := ⟨bx, 1, none⟩) (Nat.lt_of_lt_of_le hbxl hb6.size)).trans hS6.2.1) ((hb7.cell (p := ⟨bx, 2, none⟩) (Nat.lt_of_lt_of_le hbxl hb6.size)).trans hS6.2.2))))
          have HB9 : Hid (Below w7.heap.size w7 w9) := ((Below.refl _ _).drew.trans hb6).trans (hb7.mono hb6.size)
          have HI6 := Lib.hid (hi6.below hb7)
          have HI7 := Lib.hid hi7
          have HP9 := Lib.hid (HP2.out.below HB9.out)
          clear hi6 hi7 hb6 hS0 b0 b1 b2 HP2 CI
          obtain ⟨a6, c6, rfl, hx6⟩ := HI6.out
          obtain ⟨a7, c7, rfl, hx7⟩ := HI7.out
          have HX6 := Lib.hid hx6
          have HX7 := Lib.hid hx7
          have hSl : (sortI (idsL L2)).length ≤ open_.toNat := by rw [HSL.out]; omega
          clear hx6 hx7 HI6 HI7
          generalize sortI (idsL L2) = S at *
          clear HSL
          obtain ⟨M, hM⟩ : ∃ M, S.length = M := ⟨_, rfl⟩
          rw [hM] at hSl ⊢
          have hdo : decide (open_ < (M : Int)) = false := by simp; omega
          have CP9 : Hid (∀ x : Fut w9, P2 B bj bx (k + 1) most open_ w1 x.at_ L2 L2 (.slice ao4 N2 cap4)) := fun x => HP9.out.below x.is
          have CU9 : Hid (∀ x : Fut w9, Calls Try.prog 44 #[.agg #[.int .i64 most, .int .i64 open_, .slice ao4 N2 cap4]] x.at_ fun en w' => en = .returned (.int .i64 (usedL L2 : Nat)) ∧ Below x.at_.heap.size x.at_ w') := fun x => CU.out _ (HB9.out.trans (x.is.mono HB9.out.size))
          have CQ9 : Hid (∀ x : Fut w9, Calls Try.prog 39 #[.pointer (some ⟨bj, 0, none⟩)] x.at_ fun en w' => en = .returned (.int .i64 (usedL L2 : Nat)) ∧ Below x.at_.heap.size x.at_ w') := fun x => (plays_used (CP9.out x)).mono fun en w' ⟨h1, h2⟩ => ⟨h1, by rw [h2]; exact Below.refl _ _⟩
          have q0 := fun x : Fut w9 => (CP9.out x).bk.cell 0
          have q1 := fun x : Fut w9 => (CP9.out x).bk.cell 1
          have q2 := fun x : Fut w9 => (CP9.out x).bk.cell 2
          simp at q0 q1 q2
          have hdm : decide (most < (usedL L2 : Int)) = false := by simp; omega
          generalize usedL L2 = U at *
          clear HB9 hb7 CU hS6 hS7
          go_wp2_with fail
          refine wp_region_after (by kernel_rfl) (by kernel_rfl) ?_
          repeat (go_big_quiet_step (fail))
          go_big_quiet_step (exact Calls.after (CQ9.out _))
          repeat (go_big_quiet_step (fail))
          go_big_quiet_step (exact Calls.after (CU9.out _))
          repeat (go_big_quiet_step (fail))
          go_big_quiet_step (exact Calls.after (CQ9.out _))
          repeat (go_big_quiet_step (fail))
          refine wpQuiet_nil ?_
          intro x
          have HPX := Lib.hid (CP9.out x)
          have HY6 : Hid (∀ (i : Nat) (h : i < S.length), ∃ g off, a6 = some ⟨g, off, none⟩ ∧ x.at_.cell? ⟨g, off + i, none⟩ = some (.int .i64 S[i])) := fun i h => by
            obtain ⟨g, off, e1, e2, e3⟩ := HX6.out i h
            exact ⟨g, off, e1, (x.is.cell (p := ⟨g, off + i, none⟩) e2).trans e3⟩
          have HY7 : Hid (∀ (i : Nat) (h : i < S.length), ∃ g off, a7 = some ⟨g, off, none⟩ ∧ x.at_.cell? ⟨g, off + i, none⟩ = some (.int .i64 S[i])) := fun i h => by
            obtain ⟨g, off, e1, e2, e3⟩ := HX7.out i h
            exact ⟨g, off, e1, (x.is.cell (p := ⟨g, off + i, none⟩) e2).trans e3⟩
          clear CP9 CU9 CQ9 q0 q1 q2 HX6 HX7 HP9
          generalize x.at_ = wx at *
          clear x
          go_wp2_with fail
          go_loopw [26] (fun tv wi => ∃ (t nd : Nat), tv = .int .i64 t ∧ t ≤ M ∧ wi = wx.drewN nd) (fun tv _ => M - (intOf tv).toNat)
          case atStart => exact ⟨0, 0, rfl, by omega, rfl⟩
          case round =>
            obtain ⟨t, nd, rfl, ht, rfl⟩ := hrel
            by_cases ct : t < M
            · have ct2 : t < S.length := by omega
              obtain ⟨g6, o6, rfl, r6⟩ := HY6.out t ct2
              obtain ⟨g7, o7, rfl, r7⟩ := HY7.out t ct2
              generalize S[t] = Z at *
              go_wp2_with fail
              go_quiet (fail)
              go_wp2_with fail
              go_roundw
              case rel => exact ⟨t + 1, _, by go_num, by omega, rfl⟩
              case measure => simp [intOf]; omega
            · obtain rfl : t = M := by omega
              have HPX2 : Hid (P2 B bj bx (k + 1) most open_ w1 (wx.drewN nd) L2 L2 (.slice ao4 N2 cap4)) := HPX.out.below ⟨rfl, rfl, rfl, Nat.le_refl _, fun _ _ => rfl⟩
              clear HPX HY6 HY7
              generalize wx.drewN nd = wy at *
              go_wp2_with fail
              go_roundw
              case rel => exact ⟨k + 1, L2, _, by go_num, by omega, HPX2, HI2⟩
              case measure => simp [intOf]; omega
    · obtain rfl : k = len := by omega
      have HBF : Hid (Below w.heap.size w wr) := HB1.out.trans (HP.out.bel.mono hs1)
      clear HP HI HA
      go_wp2_with fail
      go_returns
      exact ⟨rfl, HBF.out⟩

theorem parts_plays_all (most open_ : Int) (ao : Option Addr) (len cap : Nat) (w : World) (hm : (Lit.int .i64 most).wf = true) (ho : (Lit.int .i64 open_).wf = true) (hacts : IsActs w ao len) :
    Calls Try.prog 8 #[.int .i64 most, .int .i64 open_, .slice ao len cap] w fun e w' => e = .returned (.bool true) ∧ Below w.heap.size w w' := by
  by_cases h : 60 < len
  · exact parts_plays_far most open_ hacts.1 h
  · by_cases hb : badLim most open_
    · exact parts_plays_bad most open_ h hb
    · exact parts_plays_near most open_ hacts h hb
end Go.Proofs.Ytemfecdpjegocaa
