/- The walks of ref29.Points, Right and of ScoreBans. -/
import Derived.Test.YtemfecdpjegocaaDoorScoreOne
import Derived.Test.YtemfecdpjegocaaDoorRow
namespace Go.Proofs.YtemfecdpjegocaaDoor
open Go.RowKit
set_option linter.unusedVariables false
set_option linter.unusedSimpArgs false

set_option maxRecDepth 100000 in
theorem ref_points (e : Nat) (he : e < 13) (w : World) : Calls Tryd.prog 11 #[.int .i64 e] w fun en w' => en = .returned (.int .i64 (ptsN e : Nat)) ∧ w' = w := by
  have hc : e = 0 ∨ e = 1 ∨ e = 2 ∨ e = 3 ∨ e = 4 ∨ e = 5 ∨ e = 6 ∨ e = 7 ∨ e = 8 ∨ e = 9 ∨ e = 10 ∨ e = 11 ∨ e = 12 := by omega
  rcases hc with rfl | rfl | rfl | rfl | rfl | rfl | rfl | rfl | rfl | rfl | rfl | rfl | rfl
  all_goals
    go_enter Tryd.func11, Tryd.ntmps11
    go_wp2_with fail
    go_returns
    exact ⟨rfl, rfl⟩

def RightI (L H N : Int) : Prop := 1 ≤ L ∧ L ≤ 1000000 ∧ 1 ≤ H ∧ H ≤ 1099511627776 ∧ 1 ≤ N ∧ N ≤ 1099511627776
set_option maxRecDepth 100000 in
theorem ref_right (L H N : Int) (w : World) (h : RightI L H N) : Calls Tryd.prog 7 #[.int .i64 L, .int .i64 H, .int .i64 N] w fun en w' => en = .returned (.bool true) ∧ w' = w := by
  obtain ⟨h1, h2, h3, h4, h5, h6⟩ := h
  have g1 : decide ((1 : Int) ≤ L) = true := by simpa using h1
  have g2 : decide (L ≤ 1000000) = true := by simpa using h2
  have g3 : decide ((1 : Int) ≤ H) = true := by simpa using h3
  have g4 : decide (H ≤ 1099511627776) = true := by simpa using h4
  have g5 : decide ((1 : Int) ≤ N) = true := by simpa using h5
  have g6 : decide (N ≤ 1099511627776) = true := by simpa using h6
  clear h1 h2 h3 h4 h5 h6
  go_enter Tryd.func7, Tryd.ntmps7
  go_wp2_with fail
  go_returns
  exact ⟨rfl, rfl⟩
set_option maxRecDepth 100000 in
theorem ref_wrong (L H N : Int) (w : World) (h : ¬ RightI L H N) : Calls Tryd.prog 7 #[.int .i64 L, .int .i64 H, .int .i64 N] w fun en w' => en = .returned (.bool false) ∧ w' = w := by
  have hc : decide ((1 : Int) ≤ L) = false ∨ (decide ((1 : Int) ≤ L) = true ∧ decide (L ≤ 1000000) = false) ∨ (decide ((1 : Int) ≤ L) = true ∧ decide (L ≤ 1000000) = true ∧ decide ((1 : Int) ≤ H) = false) ∨
      (decide ((1 : Int) ≤ L) = true ∧ decide (L ≤ 1000000) = true ∧ decide ((1 : Int) ≤ H) = true ∧ decide (H ≤ 1099511627776) = false) ∨ (decide ((1 : Int) ≤ L) = true ∧ decide (L ≤ 1000000) = true ∧ decide ((1 : Int) ≤ H) = true ∧ decide (H ≤ 1099511627776) = true ∧ decide ((1 : Int) ≤ N) = false) ∨
      (decide ((1 : Int) ≤ L) = true ∧ decide (L ≤ 1000000) = true ∧ decide ((1 : Int) ≤ H) = true ∧ decide (H ≤ 1099511627776) = true ∧ decide ((1 : Int) ≤ N) = true ∧ decide (N ≤ 1099511627776) = false) := by
    unfold RightI at h
    simp only [decide_eq_true_eq, decide_eq_false_iff_not]
    omega
  clear h
  rcases hc with g1 | ⟨g1, g2⟩ | ⟨g1, g2, g3⟩ | ⟨g1, g2, g3, g4⟩ | ⟨g1, g2, g3, g4, g5⟩ | ⟨g1, g2, g3, g4, g5, g6⟩
  all_goals
    go_enter Tryd.func7, Tryd.ntmps7
    go_wp2_with fail
    go_returns
    exact ⟨rfl, rfl⟩

/-- What the law holds as long as the limit is not reached. -/
def BansInv (t : Nat) (st : PS) (all : Nat) : Prop := (st = none ∧ all = 0) ∨ st = some (all, t, 0)
theorem BansInv.score {t all : Nat} {st : PS} (h : BansInv t st all) : scoreS 1 st t = all := by
  rcases h with ⟨rfl, rfl⟩ | rfl
  · rfl
  · show pAt 1 all t t = all
    unfold pAt; rw [if_pos (Nat.le_refl _)]
theorem BansInv.til {t all : Nat} {st : PS} (h : BansInv t st all) : untilS st = 0 := by
  rcases h with ⟨rfl, rfl⟩ | rfl <;> rfl
theorem pAt_now (H p t : Nat) : pAt H p t t = p := by unfold pAt; rw [if_pos (Nat.le_refl _)]
theorem BansInv.step {t all L N e : Nat} {st : PS} (h : BansInv t st all) (hlt : all + ptsN e < L) : (faultS L 1 N st t e).2 = all + ptsN e ∧ BansInv t (faultS L 1 N st t e).1 (all + ptsN e) := by
  unfold faultS
  by_cases hz : ptsN e = 0
  · rw [if_pos hz, hz, Nat.add_zero]
    exact ⟨h.score, h⟩
  · rw [if_neg hz]
    rcases h with ⟨rfl, rfl⟩ | rfl
    · simp only [Option.getD_none, pAt_now]
      rw [if_neg (by omega)]
      exact ⟨by omega, .inr (by simp)⟩
    · simp only [Option.getD_some, pAt_now]
      rw [if_neg (by omega)]
      exact ⟨rfl, .inr (by simp)⟩
theorem BansInv.hit {t all L N e : Nat} {st : PS} (h : BansInv t st all) (hall : all < L) (hge : L ≤ all + ptsN e) : faultS L 1 N st t e = (some (0, t, t + N), 0) := by
  unfold faultS
  rw [if_neg (by omega)]
  rcases h with ⟨rfl, rfl⟩ | rfl
  · simp only [Option.getD_none, pAt_now]
    rw [if_pos (by omega)]
    simp
  · simp only [Option.getD_some, pAt_now]
    rw [if_pos (by omega)]
    simp

theorem u8_nat {x : Int} (h : (Lit.int .u8 x).wf = true) : ∃ n : Nat, x = n ∧ n < 256 := by
  have : 0 ≤ x ∧ x ≤ 255 := by simpa [Lit.wf, IntKind.min, IntKind.max, IntKind.signed, IntKind.bits] using h
  exact ⟨x.toNat, by omega, by omega⟩
theorem i64_bd {x : Int} (h : (Lit.int .i64 x).wf = true) : -9223372036854775808 ≤ x ∧ x ≤ 9223372036854775807 := by
  simpa [Lit.wf, IntKind.min, IntKind.max, IntKind.signed, IntKind.bits] using h

set_option maxRecDepth 100000 in
theorem score_bans_far (L N now : Int) (ao : Option Addr) (len cap : Nat) (w : World) (hlen : len ≤ maxLen) (hT : TabP w) (h : ¬ (RightI L 1 N ∧ len ≤ 50 ∧ 0 ≤ now ∧ now ≤ 1152921504606846976)) :
    Calls Tryd.prog 4 #[.int .i64 L, .int .i64 N, .int .i64 now, .slice ao len cap] w fun e w' => e = .returned (.bool true) ∧ Below w.heap.size w w' := by
  unfold maxLen at hlen
  have HT := Lib.hid hT
  clear hT
  by_cases hr : RightI L 1 N
  · have cr := Lib.hid (fun w => ref_right L 1 N w hr)
    have hc : decide ((50 : Int) < len) = true ∨ (decide ((50 : Int) < len) = false ∧ decide (now < 0) = true) ∨ (decide ((50 : Int) < len) = false ∧ decide (now < 0) = false ∧ decide (1152921504606846976 < now) = true) := by
      simp only [decide_eq_true_eq, decide_eq_false_iff_not]
      have : ¬ (len ≤ 50 ∧ 0 ≤ now ∧ now ≤ 1152921504606846976) := fun x => h ⟨hr, x⟩
      omega
    clear h hr
    rcases hc with g1 | ⟨g1, g2⟩ | ⟨g1, g2, g3⟩
    all_goals
      go_enter Tryd.func4, Tryd.ntmps4
      go_wp2_with fail
      refine (score_alive _ HT.out).mono ?_
      rintro e w1 ⟨rfl, hb⟩
      go_wp2_with fail
      refine (cr.out _).mono ?_
      rintro e w1 ⟨rfl, rfl⟩
      go_wp2_with fail
      go_returns
      exact ⟨rfl, hb⟩
  · have cr := Lib.hid (fun w => ref_wrong L 1 N w hr)
    clear h hr
    go_enter Tryd.func4, Tryd.ntmps4
    go_wp2_with fail
    refine (score_alive _ HT.out).mono ?_
    rintro e w1 ⟨rfl, hb⟩
    go_wp2_with fail
    refine (cr.out _).mono ?_
    rintro e w1 ⟨rfl, rfl⟩
    go_wp2_with fail
    go_returns
    exact ⟨rfl, hb⟩

set_option maxRecDepth 100000 in
set_option maxHeartbeats 2000000 in
theorem score_bans_near (L N t : Nat) (ao : Option Addr) (len cap : Nat) (zs : List Int) (w : World) (hrow : IsRow .u8 w ao len cap zs) (hT : TabP w) (hL : 1 ≤ L ∧ L ≤ 1000000) (hN : 1 ≤ N ∧ N ≤ 1099511627776) (ht : t ≤ 1152921504606846976) (hlen : len ≤ 50) :
    Calls Tryd.prog 4 #[.int .i64 L, .int .i64 N, .int .i64 t, .slice ao len cap] w fun e w' => e = .returned (.bool true) ∧ Below w.heap.size w w' := by
  have HT := Lib.hid hT
  have hgl := hT.lt
  have cr := Lib.hid (fun w => ref_right L 1 N w ⟨by omega, by omega, by omega, by omega, by omega, by omega⟩)
  have cn := Lib.hid (fun w => ob_new L 1 N w hL (by decide) hN)
  have hct : clampN (t : Int) = t := clampN_nat t (by omega)
  have hcm : clampN ((t : Int) + (N : Int) - 1) = t + N - 1 := by rw [show (t : Int) + (N : Int) - 1 = ((t + N - 1 : Nat) : Int) by omega]; exact clampN_nat _ (by omega)
  have hcp : clampN ((t : Int) + (N : Int)) = t + N := by rw [show (t : Int) + (N : Int) = ((t + N : Nat) : Int) by omega]; exact clampN_nat _ (by omega)
  have HC := Lib.hid (And.intro hct (And.intro hcm hcp))
  have g1 : decide ((50 : Int) < len) = false := by simp; omega
  have g2 : decide ((t : Int) < 0) = false := by simp
  have g3 : decide (1152921504606846976 < (t : Int)) = false := by simp; omega
  clear hT hct hcm hcp
  go_enter Tryd.func4, Tryd.ntmps4
  go_wp2_with fail
  refine (score_alive _ HT.out).mono ?_
  rintro e w1 ⟨rfl, hb1⟩
  go_wp2_with fail
  refine (cr.out _).mono ?_
  rintro e w2 ⟨rfl, rfl⟩
  go_wp2_with fail
  refine (cn.out _).mono ?_
  rintro e w3 ⟨rfl, ob0⟩
  have hs1 := hb1.size
  have HB1 := Lib.hid hb1
  have OB0 := Lib.hid ob0
  clear hb1 ob0 cr cn
  obtain ⟨B, hB⟩ : ∃ B, w2.heap.size = B := ⟨_, rfl⟩
  rw [hB] at OB0 hs1 ⊢
  have HBE := Lib.hid hB
  clear hB
  go_wp2_with fail
  go_loopw [11, 12] (fun av iv wr => ∃ (k all : Nat) (st : PS), av = .int .i64 all ∧ iv = .int .i64 k ∧ k ≤ len ∧ all < L ∧ Hid (BansInv t st all) ∧ Hid (OB B (B + 1) k L 1 N w2 wr st)) (fun _ iv _ => len - (intOf iv).toNat)
  case atStart => exact ⟨0, 0, none, rfl, rfl, by omega, by omega, .inl ⟨rfl, rfl⟩, OB0⟩
  case round =>
    clear OB0 w3
    obtain ⟨k, all, st, rfl, rfl, hk, hall, hI, hO⟩ := hrel
    have hBB : Hid (Below w.heap.size w wr) := HB1.out.trans (hO.out.below.mono hs1)
    by_cases hlt : k < len
    · obtain ⟨b, off, hao, hbl, hc, hz⟩ := hrow.at_ hlt
      subst hao
      generalize zs.getD k 0 = z at hc hz
      obtain ⟨zn, rfl, hzn⟩ := u8_nat hz
      have hc' : wr.cell? ⟨b, off + k, none⟩ = some (.int .u8 (zn : Int)) := (hBB.out.cell (p := ⟨b, off + k, none⟩) hbl).trans hc
      clear hz hc
      have hem : ((zn % 13 : Nat) : Int) = (zn : Int) % 13 := by omega
      have he13 : zn % 13 < 13 := Nat.mod_lt _ (by decide)
      have cp := fun w => ref_points (zn % 13) he13 w
      have cf := ob_fault hO.out (t : Int) (zn % 13) he13 (HT.out.below hBB.out hgl) (by unfold maxLen; omega)
      rw [HC.out.1] at cf
      have hpl := ptsN_le (zn % 13)
      by_cases hge : L ≤ all + ptsN (zn % 13)
      · have hf := hI.out.hit (N := N) hall hge
        rw [hf] at cf
        rw [hem] at cp cf
        generalize ptsN (zn % 13) = pe at *
        have CP := Lib.hid cp
        have CF := Lib.hid cf
        have hd : decide ((L : Int) ≤ (all : Int) + (pe : Int)) = true := by simp; omega
        clear cp cf hf hge hI hO hem he13
        go_wp2_with fail
        refine (CP.out _).mono ?_
        rintro e w4 ⟨rfl, rfl⟩
        go_wp2_with fail
        refine CF.out.mono ?_
        rintro e w5 ⟨rfl, ob5⟩
        have c1 := ob_banned ob5 (t : Int)
        have c2 := ob_banned ob5 ((t : Int) + (N : Int) - 1)
        have c3 := ob_banned ob5 ((t : Int) + (N : Int))
        have c4 := ob_until ob5
        have c5 := ob_bannedB ob5 (t : Int)
        rw [HC.out.1, show decide (t < untilS (some (0, t, t + N))) = true from decide_eq_true (show t < t + N by omega)] at c1
        rw [HC.out.2.1, show decide (t + N - 1 < untilS (some (0, t, t + N))) = true from decide_eq_true (show t + N - 1 < t + N by omega)] at c2
        rw [HC.out.2.2, show decide (t + N < untilS (some (0, t, t + N))) = false by simp [untilS]] at c3
        have c4' : Hid (Calls Tryd.prog 13 #[.pointer (some ⟨B + 1, 0, none⟩), .string ⟨#[97]⟩] w5 fun en w' => en = .returned (.int .i64 ((t : Int) + (N : Int))) ∧ w' = w5) := c4
        have C1 := Lib.hid c1
        have C2 := Lib.hid c2
        have C3 := Lib.hid c3
        have C5 := Lib.hid c5
        have hB5 := Lib.hid (HB1.out.trans (ob5.below.mono hs1))
        clear c1 c2 c3 c4 c5 ob5 CP CF
        simp only []
        go_wp2_with fail
        refine C1.out.mono ?_
        rintro e w6 ⟨rfl, rfl⟩
        go_wp2_with fail
        refine C2.out.mono ?_
        rintro e w6 ⟨rfl, rfl⟩
        go_wp2_with fail
        refine C3.out.mono ?_
        rintro e w6 ⟨rfl, rfl⟩
        go_wp2_with fail
        refine c4'.out.mono ?_
        rintro e w6 ⟨rfl, rfl⟩
        go_wp2_with fail
        refine C5.out.mono ?_
        rintro e w6 ⟨rfl, rfl⟩
        go_wp2_with fail
        go_returns
        exact ⟨rfl, hB5.out⟩
      · have hf := hI.out.step (L := L) (N := N) (e := zn % 13) (by omega)
        rw [hf.1] at cf
        have hI2 := Lib.hid hf.2
        generalize (faultS L 1 N st t (zn % 13)).1 = st2 at *
        rw [hem] at cp cf
        generalize ptsN (zn % 13) = pe at *
        have CP := Lib.hid cp
        have CF := Lib.hid cf
        have hd : decide ((L : Int) ≤ (all : Int) + (pe : Int)) = false := by simp; omega
        have hu := hI2.out.til
        have HU := Lib.hid hu
        clear cp cf hf hI hO hem he13 hu
        go_wp2_with fail
        refine (CP.out _).mono ?_
        rintro e w4 ⟨rfl, rfl⟩
        go_wp2_with fail
        refine CF.out.mono ?_
        rintro e w5 ⟨rfl, ob5⟩
        have c1 := ob_banned ob5 (t : Int)
        rw [HU.out, show decide (clampN (t : Int) < 0) = false by simp] at c1
        have C1 := Lib.hid c1
        have O5 := Lib.hid ob5
        clear c1 ob5 CP CF
        go_wp2_with fail
        refine C1.out.mono ?_
        rintro e w6 ⟨rfl, rfl⟩
        go_wp2_with fail
        exact ⟨⟨k + 1, all + pe, st2, by go_num, by go_num, by omega, by omega, hI2, O5⟩, by simp [intOf]; omega⟩
    · obtain rfl : k = len := by omega
      have cu := ob_until hO.out
      rw [hI.out.til] at cu
      have CU := Lib.hid cu
      clear cu
      go_wp2_with fail
      refine CU.out.mono ?_
      rintro e w6 ⟨rfl, rfl⟩
      go_wp2_with fail
      go_returns
      exact ⟨rfl, hBB.out⟩

theorem score_bans (L N now : Int) (ao : Option Addr) (len cap : Nat) (zs : List Int) (w : World) (hL : (Lit.int .i64 L).wf = true) (hN : (Lit.int .i64 N).wf = true) (hn : (Lit.int .i64 now).wf = true) (hrow : IsRow .u8 w ao len cap zs) (hT : TabP w) :
    Calls Tryd.prog 4 #[.int .i64 L, .int .i64 N, .int .i64 now, .slice ao len cap] w fun e w' => e = .returned (.bool true) ∧ Below w.heap.size w w' := by
  by_cases h : RightI L 1 N ∧ len ≤ 50 ∧ 0 ≤ now ∧ now ≤ 1152921504606846976
  · obtain ⟨⟨h1, h2, _, _, h5, h6⟩, h7, h8, h9⟩ := h
    have k := score_bans_near L.toNat N.toNat now.toNat ao len cap zs w hrow hT (by omega) (by omega) (by omega) h7
    rwa [show ((L.toNat : Nat) : Int) = L by omega, show ((N.toNat : Nat) : Int) = N by omega, show ((now.toNat : Nat) : Int) = now by omega] at k
  · exact score_bans_far L N now ao len cap w hrow.len_le.1 hT h
end Go.Proofs.YtemfecdpjegocaaDoor
