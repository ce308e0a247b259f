/- The walk of ScoreFades. -/
import Derived.Test.YtemfecdpjegocaaDoorScoreBans
namespace Go.Proofs.YtemfecdpjegocaaDoor
open Go.RowKit
set_option linter.unusedVariables false
set_option linter.unusedSimpArgs false

/-- Of faults at the time 0 alone. -/
def FadeInv (L : Nat) (st : PS) : Prop := st = none ∨ ∃ p u, st = some (p, 0, u) ∧ p ≤ L
theorem FadeInv.step {L H e : Nat} {st : PS} (h : FadeInv L st) : FadeInv L (faultS L H 1 st 0 e).1 := by
  unfold faultS
  by_cases hz : ptsN e = 0
  · rw [if_pos hz]; exact h
  · rw [if_neg hz]
    rcases h with rfl | ⟨p, u, rfl, hp⟩
    · simp only [Option.getD_none]
      split
      · exact .inr ⟨_, _, rfl, Nat.zero_le _⟩
      · exact .inr ⟨_, _, rfl, by omega⟩
    · simp only [Option.getD_some]
      split
      · exact .inr ⟨_, _, rfl, Nat.zero_le _⟩
      · exact .inr ⟨_, _, rfl, by omega⟩
theorem halfN_mono {H a b : Nat} (h : a ≤ b) : halfN H a ≤ halfN H b := by
  unfold halfN
  have := Nat.div_le_div_right (c := H) h
  split <;> split <;> omega
theorem div_pow_mono (p : Nat) {a b : Nat} (h : a ≤ b) : p / 2 ^ b ≤ p / 2 ^ a :=
  Nat.div_le_div_left (Nat.pow_le_pow_right (by decide) h) (Nat.pow_pos (by decide))
theorem FadeInv.falls {L H t u : Nat} {st : PS} (h : FadeInv L st) (htu : t ≤ u) : scoreS H st u ≤ scoreS H st t := by
  rcases h with rfl | ⟨p, x, rfl, _⟩
  · exact Nat.le_refl _
  · show pAt H p 0 u ≤ pAt H p 0 t
    unfold pAt
    by_cases ht : t ≤ 0
    · rw [if_pos ht]
      split
      · exact Nat.le_refl _
      · exact Nat.div_le_self _ _
    · rw [if_neg ht, if_neg (by omega)]
      exact div_pow_mono p (halfN_mono (by omega))
theorem FadeInv.ends {L H : Nat} {st : PS} (h : FadeInv L st) (hL : L ≤ 1000000) (hH : 1 ≤ H) : scoreS H st (20 * H) = 0 := by
  rcases h with rfl | ⟨p, x, rfl, hp⟩
  · rfl
  · show pAt H p 0 (20 * H) = 0
    unfold pAt halfN
    rw [if_neg (by omega), Nat.sub_zero, Nat.mul_div_cancel _ (by omega), if_pos (by decide)]
    exact Nat.div_eq_of_lt (by have : (2 : Nat) ^ 20 = 1048576 := by decide
                               omega)
theorem score_le {L H t : Nat} {st : PS} (h : FadeInv L st) : scoreS H st t ≤ L := by
  rcases h with rfl | ⟨p, x, rfl, hp⟩
  · exact Nat.zero_le _
  · exact Nat.le_trans (pAt_le _ _ _ _) hp

set_option maxRecDepth 100000 in
theorem score_fades_far (L H : Int) (ao : Option Addr) (len cap : Nat) (bo : Option Addr) (blen bcap : Nat) (w : World) (hlen : len ≤ maxLen) (hbl : blen ≤ maxLen) (hT : TabP w) (h : ¬ (RightI L H 1 ∧ len ≤ 50 ∧ blen ≤ 50)) :
    Calls Tryd.prog 3 #[.int .i64 L, .int .i64 H, .slice ao len cap, .slice bo blen bcap] w fun e w' => e = .returned (.bool true) ∧ Below w.heap.size w w' := by
  unfold maxLen at hlen hbl
  have HT := Lib.hid hT
  clear hT
  by_cases hr : RightI L H 1
  · have cr := Lib.hid (fun w => ref_right L H 1 w hr)
    have hc : decide ((50 : Int) < len) = true ∨ (decide ((50 : Int) < len) = false ∧ decide ((50 : Int) < blen) = true) := by
      simp only [decide_eq_true_eq, decide_eq_false_iff_not]
      have : ¬ (len ≤ 50 ∧ blen ≤ 50) := fun x => h ⟨hr, x⟩
      omega
    clear h hr
    rcases hc with g1 | ⟨g1, g2⟩
    all_goals
      go_enter Tryd.func3, Tryd.ntmps3
      go_wp2_with fail
      refine (score_alive _ HT.out).mono ?_
      rintro e w1 ⟨rfl, hb⟩
      go_wp2_with fail
      refine (cr.out _).mono ?_
      rintro e w1 ⟨rfl, rfl⟩
      go_wp2_with fail
      go_returns
      exact ⟨rfl, hb⟩
  · have cr := Lib.hid (fun w => ref_wrong L H 1 w hr)
    clear h hr
    go_enter Tryd.func3, Tryd.ntmps3
    go_wp2_with fail
    refine (score_alive _ HT.out).mono ?_
    rintro e w1 ⟨rfl, hb⟩
    go_wp2_with fail
    refine (cr.out _).mono ?_
    rintro e w1 ⟨rfl, rfl⟩
    go_wp2_with fail
    go_returns
    exact ⟨rfl, hb⟩

set_option maxRecDepth 100000 in
set_option maxHeartbeats 2000000 in
theorem score_fades_near (L H : Nat) (ao : Option Addr) (len cap : Nat) (zs : List Int) (bo : Option Addr) (blen bcap : Nat) (ys : List Int) (w : World) (hrow : IsRow .u8 w ao len cap zs) (hrow2 : IsRow .i64 w bo blen bcap ys) (hT : TabP w) (hL : 1 ≤ L ∧ L ≤ 1000000) (hH : 1 ≤ H ∧ H ≤ 1099511627776) (hlen : len ≤ 50) (hbl : blen ≤ 50) :
    Calls Tryd.prog 3 #[.int .i64 L, .int .i64 H, .slice ao len cap, .slice bo blen bcap] w fun e w' => e = .returned (.bool true) ∧ Below w.heap.size w w' := by
  have HT := Lib.hid hT
  have hgl := hT.lt
  have cr := Lib.hid (fun w => ref_right L H 1 w ⟨by omega, by omega, by omega, by omega, by omega, by omega⟩)
  have cn := Lib.hid (fun w => ob_new L H 1 w hL hH (by decide))
  have g1 : decide ((50 : Int) < len) = false := by simp; omega
  have g2 : decide ((50 : Int) < blen) = false := by simp; omega
  clear hT
  go_enter Tryd.func3, Tryd.ntmps3
  go_wp2_with fail
  refine (score_alive _ HT.out).mono ?_
  rintro e w1 ⟨rfl, hb1⟩
  go_wp2_with fail
  refine (cr.out _).mono ?_
  rintro e w2 ⟨rfl, rfl⟩
  go_wp2_with fail
  refine (cn.out _).mono ?_
  rintro e w3 ⟨rfl, ob0⟩
  have hs1 := hb1.size
  have HB1 := Lib.hid hb1
  have OB0 := Lib.hid ob0
  clear hb1 ob0 cr cn
  obtain ⟨B, hB⟩ : ∃ B, w2.heap.size = B := ⟨_, rfl⟩
  rw [hB] at OB0 hs1 ⊢
  clear hB
  go_wp2_with fail
  go_loopw [11] (fun iv wr => ∃ (k : Nat) (st : PS), iv = .int .i64 k ∧ k ≤ len ∧ Hid (FadeInv L st) ∧ Hid (OB B (B + 1) k L H 1 w2 wr st)) (fun iv _ => len - (intOf iv).toNat)
  case atStart => exact ⟨0, none, rfl, by omega, .inl rfl, OB0⟩
  case round =>
    clear OB0 w3
    obtain ⟨k, st, rfl, hk, hI, hO⟩ := hrel
    have hBB : Hid (Below w.heap.size w wr) := HB1.out.trans (hO.out.below.mono hs1)
    by_cases hlt : k < len
    · obtain ⟨b, off, hao, hbl1, hc, hz⟩ := hrow.at_ hlt
      subst hao
      generalize zs.getD k 0 = z at hc hz
      obtain ⟨zn, rfl, hzn⟩ := u8_nat hz
      have hc' : wr.cell? ⟨b, off + k, none⟩ = some (.int .u8 (zn : Int)) := (hBB.out.cell (p := ⟨b, off + k, none⟩) hbl1).trans hc
      clear hz hc
      have hem : ((zn % 13 : Nat) : Int) = (zn : Int) % 13 := by omega
      have he13 : zn % 13 < 13 := Nat.mod_lt _ (by decide)
      have cf := ob_fault hO.out 0 (zn % 13) he13 (HT.out.below hBB.out hgl) (by unfold maxLen; omega)
      rw [show clampN 0 = 0 from rfl] at cf
      have hI2 := Lib.hid (hI.out.step (H := H) (e := zn % 13))
      generalize (faultS L H 1 st 0 (zn % 13)).1 = st2 at *
      generalize (faultS L H 1 st 0 (zn % 13)).2 = n2 at *
      rw [hem] at cf
      have CF := Lib.hid cf
      clear cf hI hO hem he13
      go_wp2_with fail
      refine CF.out.mono ?_
      rintro e w5 ⟨rfl, ob5⟩
      have O5 := Lib.hid ob5
      clear ob5 CF
      go_wp2_with fail
      exact ⟨⟨k + 1, st2, by go_num, by omega, hI2, O5⟩, by simp [intOf]; omega⟩
    · obtain rfl : k = len := by omega
      clear hlt
      have c0 := ob_score hO.out 0
      rw [show clampN 0 = 0 from rfl] at c0
      have C0 := Lib.hid c0
      have h0 := Lib.hid (show scoreS H st 0 ≤ scoreS H st 0 from Nat.le_refl _)
      have hsl : scoreS H st 0 ≤ 1000000 := Nat.le_trans (score_le hI.out) hL.2
      have HSE : Hid (∃ s0, s0 = scoreS H st 0) := ⟨_, rfl⟩
      obtain ⟨s0, hs0⟩ := HSE.out
      rw [← hs0] at C0 hsl
      have HS0 := Lib.hid hs0
      clear c0 hs0 h0 HSE
      go_wp2_with fail
      refine C0.out.mono ?_
      rintro e w4 ⟨rfl, ob4⟩
      have O4 := Lib.hid ob4
      clear ob4 C0 hO hBB wr
      go_wp2_with fail
      go_loopw [12, 13, 14] (fun lv nv iv wr => ∃ (j t la : Nat), lv = .int .i64 la ∧ nv = .int .i64 t ∧ iv = .int .i64 j ∧ j ≤ blen ∧ Hid (t ≤ 1099511627776 * j) ∧ la ≤ 1000000 ∧ Hid (la = scoreS H st t) ∧ Hid (OB B (B + 1) k L H 1 w2 wr st)) (fun _ _ iv _ => blen - (intOf iv).toNat)
      case atStart => exact ⟨0, 0, s0, rfl, rfl, rfl, by omega, Nat.zero_le _, hsl, HS0, O4⟩
      case round =>
        clear O4 HS0 hsl w4
        obtain ⟨j, t, la, rfl, rfl, rfl, hj, ht, hla, hle, hO⟩ := hrel
        have hBB : Hid (Below w.heap.size w wr) := HB1.out.trans (hO.out.below.mono hs1)
        have ht50 : t ≤ 56000000000000 := by have := ht.out; omega
        by_cases hlt : j < blen
        · obtain ⟨b, off, hao, hbl1, hc, hz⟩ := hrow2.at_ hlt
          subst hao
          generalize ys.getD j 0 = z at hc hz
          obtain ⟨hz1, hz2⟩ := i64_bd hz
          have hc' : wr.cell? ⟨b, off + j, none⟩ = some (.int .i64 z) := (hBB.out.cell (p := ⟨b, off + j, none⟩) hbl1).trans hc
          clear hz hc
          by_cases hz3 : z < 0
          · have d1 : decide (z < 0) = true := by simpa using hz3
            go_wp2_with fail
            go_returns
            exact ⟨rfl, hBB.out⟩
          · have d1 : decide (z < 0) = false := by simpa using hz3
            by_cases hz4 : 1099511627776 < z
            · have d2 : decide (1099511627776 < z) = true := by simpa using hz4
              go_wp2_with fail
              go_returns
              exact ⟨rfl, hBB.out⟩
            · have d2 : decide (1099511627776 < z) = false := by simpa using hz4
              obtain ⟨zn, rfl⟩ : ∃ zn : Nat, z = zn := ⟨z.toNat, by omega⟩
              have hcl : clampN ((t : Int) + (zn : Int)) = t + zn := by rw [show (t : Int) + (zn : Int) = ((t + zn : Nat) : Int) by omega]; exact clampN_nat _ (by omega)
              have htn : Hid (t + zn ≤ 1099511627776 * (j + 1)) := by have := ht.out; unfold Hid; omega
              have cs := ob_score hO.out ((t : Int) + (zn : Int))
              rw [hcl] at cs
              have hfl := hI.out.falls (H := H) (t := t) (u := t + zn) (by omega)
              rw [← hle.out] at hfl
              obtain ⟨s1, hs1'⟩ : ∃ s1, s1 = scoreS H st (t + zn) := ⟨_, rfl⟩
              rw [← hs1'] at cs hfl
              have HS1 := Lib.hid hs1'
              have CS := Lib.hid cs
              have d3 : decide ((la : Int) < (s1 : Int)) = false := by simp; omega
              have d4 : decide ((s1 : Int) < 0) = false := by simp
              have hz40 : zn ≤ 1099511627776 := by omega
              clear cs hs1' hcl hO hle hz1 hz2 hz3 hz4 ht
              go_wp2_with fail
              refine CS.out.mono ?_
              rintro e w5 ⟨rfl, ob5⟩
              have O5 := Lib.hid ob5
              clear ob5 CS
              go_wp2_with fail
              exact ⟨⟨j + 1, t + zn, s1, rfl, by go_num, by go_num, by omega, htn, Nat.le_trans hfl hla, HS1, O5⟩, by simp [intOf]; omega⟩
        · obtain rfl : j = blen := by omega
          have hcl : clampN (20 * (H : Int)) = 20 * H := by rw [show 20 * (H : Int) = ((20 * H : Nat) : Int) by omega]; exact clampN_nat _ (by omega)
          have cs := ob_score hO.out (20 * (H : Int))
          rw [hcl, hI.out.ends hL.2 hH.1] at cs
          have CS := Lib.hid cs
          clear cs hcl
          go_wp2_with fail
          refine CS.out.mono ?_
          rintro e w5 ⟨rfl, ob5⟩
          have hB5 := Lib.hid (HB1.out.trans (ob5.below.mono hs1))
          clear ob5 CS
          simp only []
          go_wp2_with fail
          go_returns
          exact ⟨rfl, hB5.out⟩

theorem score_fades (L H : Int) (ao : Option Addr) (len cap : Nat) (zs : List Int) (bo : Option Addr) (blen bcap : Nat) (ys : List Int) (w : World) (hL : (Lit.int .i64 L).wf = true) (hH : (Lit.int .i64 H).wf = true) (hrow : IsRow .u8 w ao len cap zs) (hrow2 : IsRow .i64 w bo blen bcap ys) (hT : TabP w) :
    Calls Tryd.prog 3 #[.int .i64 L, .int .i64 H, .slice ao len cap, .slice bo blen bcap] w fun e w' => e = .returned (.bool true) ∧ Below w.heap.size w w' := by
  by_cases h : RightI L H 1 ∧ len ≤ 50 ∧ blen ≤ 50
  · obtain ⟨⟨h1, h2, h3, h4, _, _⟩, h7, h8⟩ := h
    have k := score_fades_near L.toNat H.toNat ao len cap zs bo blen bcap ys w hrow hrow2 hT (by omega) (by omega) h7 h8
    rwa [show ((L.toNat : Nat) : Int) = L by omega, show ((H.toNat : Nat) : Int) = H by omega] at k
  · exact score_fades_far L H ao len cap bo blen bcap w hrow.len_le.1 hrow2.len_le.1 hT h
end Go.Proofs.YtemfecdpjegocaaDoor
