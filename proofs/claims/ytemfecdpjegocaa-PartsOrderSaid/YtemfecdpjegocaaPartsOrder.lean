/- The walk of PartsOrder. -/
import Derived.Test.YtemfecdpjegocaaOrderMem
namespace Go.Proofs.Ytemfecdpjegocaa
open Go.RowKit Go.Maps
set_option linter.unusedVariables false
set_option linter.unusedSimpArgs false

set_option maxRecDepth 100000 in
theorem parts_order_far (id : Int) (s : ByteArray) (size : Int) (oa : Option Addr) (ol oc : Nat) (w : World) (h : 2000 < s.size ∨ 300 < ol) :
    Calls Try.prog 9 #[.int .i64 id, .string s, .int .i64 size, .slice oa ol oc] w fun e w' => e = .returned (.bool true) ∧ Below w.heap.size w w' := by
  have hd : decide (2000 < (s.size : Int)) = true ∨ (decide (2000 < (s.size : Int)) = false ∧ decide (300 < (ol : Int)) = true) := by
    by_cases c : 2000 < s.size
    · exact .inl (by simp; omega)
    · exact .inr ⟨by simp; omega, by simp; omega⟩
  clear h
  rcases hd with d1 | ⟨d1, d2⟩
  all_goals
    go_enter Try.func9, Try.ntmps9
    go_wp2_with fail
    refine (parts_alive _).mono ?_
    rintro e w1 ⟨rfl, hb1⟩
    go_wp2_with fail
    go_returns
    exact ⟨rfl, hb1⟩

set_option maxRecDepth 100000 in
theorem parts_order_bad (id : Int) (s : ByteArray) (size : Int) (oa : Option Addr) (ol oc : Nat) (w : World) (h1 : s.size ≤ 2000) (h2 : ol ≤ 300) (hbad : badCut id size) :
    Calls Try.prog 9 #[.int .i64 id, .string s, .int .i64 size, .slice oa ol oc] w fun e w' => e = .returned (.bool true) ∧ Below w.heap.size w w' := by
  have d1 : decide (2000 < (s.size : Int)) = false := by simp; omega
  have d2 : decide (300 < (ol : Int)) = false := by simp; omega
  have C1 := Lib.hid (fun w => cut_bad id s size w hbad)
  clear hbad
  go_enter Try.func9, Try.ntmps9
  go_wp2_with fail
  refine (parts_alive _).mono ?_
  rintro e w1 ⟨rfl, hb1⟩
  go_wp2_with fail
  refine (C1.out _).mono ?_
  rintro e w2 ⟨rfl, hb2⟩
  have HB := Lib.hid (hb1.trans (hb2.mono hb1.size))
  clear hb1 hb2
  go_wp2_with fail
  go_returns
  exact ⟨rfl, HB.out⟩

theorem mayP_wf' {p : Pt} (h : mayP p) : p.wf := by
  obtain ⟨⟨hi0, hi1⟩, ⟨ho0, ho1⟩, ⟨hn0, hn1⟩, hT, _⟩ := h
  have I : ∀ x : Int, 0 ≤ x → x ≤ 2147483647 → (Lit.int .i64 x).wf = true := fun x h0 h1 => by simp [Lit.wf, IntKind.min, IntKind.max, IntKind.signed, IntKind.bits]; omega
  exact ⟨I _ hi0 hi1, I _ (by omega) (by omega), I _ (by omega) (by omega), by unfold maxLen; omega⟩
/-- What the joiner has behind k of the parts. -/
def stL (M : List Pt) (K k : Nat) : List Pt := if k = K then [] else M.take k

set_option maxRecDepth 100000 in
set_option maxHeartbeats 4000000 in
theorem parts_order_near (id : Int) (s : ByteArray) (size : Nat) (oa : Option Addr) (ol oc : Nat) (zs : List Int) (w : World) (h1 : s.size ≤ 2000) (h2 : ol ≤ 300) (hok : ¬ badCut id size) (hrow : IsRow .u8 w oa ol oc zs) :
    Calls Try.prog 9 #[.int .i64 id, .string s, .int .i64 size, .slice oa ol oc] w fun e w' => e = .returned (.bool true) ∧ Below w.heap.size w w' := by
  have d1 : decide (2000 < (s.size : Int)) = false := by simp; omega
  have d2 : decide (300 < (ol : Int)) = false := by simp; omega
  have C1 := Lib.hid (fun w => cut_right id s size w hok (by omega))
  have CC := Lib.hid (cut_cuts id s size hok)
  have CN := Lib.hid (fun w => jk_new 1048576 1 w (by decide))
  have HR := Lib.hid hrow
  obtain ⟨B, hB⟩ : ∃ B, w.heap.size = B := ⟨_, rfl⟩
  clear hok hrow
  go_enter Try.func9, Try.ntmps9
  go_wp2_with fail
  refine (parts_alive _).mono ?_
  rintro e w1 ⟨rfl, hb1⟩
  have HB1 : Hid (Below B w w1) := hB ▸ hb1
  clear hb1
  go_wp2_with fail
  refine (C1.out _).mono ?_
  rintro e w2 ⟨hb2, hc2⟩
  obtain ⟨L, hL⟩ : ∃ L, cutL id s size = L := ⟨_, rfl⟩
  rw [hL] at hc2 CC
  have HB2 : Hid (Below B w w2) := HB1.out.trans (hb2.mono (by have := HB1.out.size; omega))
  rcases hc2 with ⟨hbig, rfl⟩ | ⟨hsm, v, rfl, hown⟩
  · clear hb2
    go_wp2_with fail
    go_returns
    exact ⟨rfl, hB ▸ HB2.out⟩
  obtain ⟨hcuts, husum, hallT, hpos⟩ := CC.out hsm
  obtain ⟨g, cap, rfl, hgB, hbp⟩ := BP.of_own hown hpos
  have HG : Hid (B ≤ g) := by have := HB1.out.size; show B ≤ g; omega
  have HBP := Lib.hid hbp
  have HCUT := Lib.hid hcuts
  have HU := Lib.hid husum
  have HT := Lib.hid hallT
  obtain ⟨K, hK⟩ : ∃ K, L.length = K := ⟨_, rfl⟩
  rw [hK] at hsm hpos HCUT HT ⊢
  clear hown hbp hcuts husum hallT hb2 HB1 hgB
  go_wp2_with fail
  refine (CN.out _).mono ?_
  rintro e w3 ⟨rfl, k3⟩
  obtain ⟨bj, hbj⟩ : ∃ bj, w2.heap.size + 2 = bj := ⟨_, rfl⟩
  obtain ⟨B2, hB2⟩ : ∃ B2, w2.heap.size = B2 := ⟨_, rfl⟩
  rw [hbj] at k3 ⊢
  rw [hB2] at k3
  have hg2 : g < B2 := hB2 ▸ HBP.out.lt
  have K3 := Lib.hid k3.self
  have HB3 : Hid (Below B w w3) := HB2.out.trans (k3.bel.mono (by have := HB2.out.size; omega))
  have HBP3 : Hid (BP w3 g 33 L) := HBP.out.kept (k3.bel.block g hg2)
  clear k3 HBP HB2 CN C1 CC
  go_wp2_with fail
  go_loopw [13, 14] (fun iv kv wi => ∃ (k : Nat) (M : List Pt), iv = .int .i64 k ∧ k ≤ ol ∧ k ≤ K ∧ M.Perm L ∧ Hid (BP wi g 33 M) ∧ Hid (JK B2 bj 0 1048576 1 wi wi []) ∧ Hid (Below B w wi)) (fun iv _ _ => K - (intOf iv).toNat)
  case atStart => exact ⟨0, L, rfl, by omega, by omega, .refl _, HBP3, K3, HB3⟩
  case round =>
    obtain ⟨k, M, rfl, hk1, hk2, hperm, hbp, hjk, hbe⟩ := hrel
    clear HBP3 K3 HB3
    have hcase : (k < ol ∧ k < K) ∨ ol = k ∨ (k < ol ∧ K = k) := by omega
    rcases hcase with ⟨c1, c2⟩ | c1 | ⟨c1, c2⟩
    case inl =>
      have HR2 : Hid (IsRow .u8 w oa ol oc zs) := HR
      obtain ⟨ob, oo, rfl, hob, hoc, hwf⟩ := HR2.out.at_ c1
      have hz := bounds_u8 hwf
      generalize zs.getD k 0 = z at *
      have hoc2 : wr.cell? ⟨ob, oo + k, none⟩ = some (.int .u8 z) := (hbe.out.cell (p := ⟨ob, oo + k, none⟩) (hB ▸ hob)).trans hoc
      clear hoc
      obtain ⟨t, ht, htk, htK⟩ : ∃ t : Nat, wrap64 (↑k + z % (↑K - ↑k)) = (t : Int) ∧ k ≤ t ∧ t < K := by
        have hm := Int.emod_nonneg z (show ((K : Int) - k) ≠ 0 by omega)
        have hm2 := Int.emod_lt_of_pos z (show 0 < ((K : Int) - k) by omega)
        refine ⟨(k + z % (K - k)).toNat, ?_, by omega, by omega⟩
        unfold wrap64; omega
      have hMl : M.length = K := hperm.length_eq.trans hK
      have hkM : k < M.length := by omega
      have htM : t < M.length := by omega
      obtain ⟨a0, a1, a2, a3⟩ := hbp.out.at_ hkM
      obtain ⟨b0, b1, b2, b3⟩ := hbp.out.at_ htM
      have f0 := fun i => hbp.out.free i
      go_upto_region 13 with fail
      obtain ⟨W8, hW8⟩ : ∃ W8, ((((((((wr.setCell ⟨g, k * 4, none⟩ (.int .i64 M[t].id)).setCell ⟨g, k * 4 + 1, none⟩ (.int .i64 M[t].n)).setCell ⟨g, k * 4 + 2, none⟩ (.int .i64 M[t].of_)).setCell ⟨g, k * 4 + 3, none⟩ (.string M[t].text)).setCell
          ⟨g, t * 4, none⟩ (.int .i64 M[k].id)).setCell ⟨g, t * 4 + 1, none⟩ (.int .i64 M[k].n)).setCell ⟨g, t * 4 + 2, none⟩ (.int .i64 M[k].of_)).setCell ⟨g, t * 4 + 3, none⟩ (.string M[k].text)).drew = W8 := ⟨_, rfl⟩
      have hs : Hid (BP W8 g 33 (swapL M k t hkM htM) ∧ JK B2 bj 0 1048576 1 W8 W8 [] ∧ Below B w W8) := by
        have h8 := swap8 hbp.out hkM htM
        rw [hW8] at h8
        exact ⟨h8.1, hjk.out.upd h8.2 hg2, h8.2.below hbe.out HG.out (by have := hbe.out.size; omega)⟩
      have hp2 := (swapL_perm M k t hkM htM).trans hperm
      clear hbp hjk hbe
      by_cases hkt : k = t
      · subst hkt
        go_big_region
        clear hW8
        go_wp2_with fail
        go_roundw
        case rel => exact ⟨k + 1, swapL M k k hkM htM, by go_num, by omega, by omega, hp2, hs.out.1, hs.out.2.1, hs.out.2.2⟩
        case measure => simp [intOf]; omega
      · go_big_region
        clear hW8
        go_wp2_with fail
        go_roundw
        case rel => exact ⟨k + 1, swapL M k t hkM htM, by go_num, by omega, by omega, hp2, hs.out.1, hs.out.2.1, hs.out.2.2⟩
        case measure => simp [intOf]; omega
    all_goals
      have hMl : M.length = K := hperm.length_eq.trans hK
      have HCM := Lib.hid (HCUT.out.perm hperm.symm)
      have HUM : Hid (usedL M = s.size) := (usedL_perm hperm).trans HU.out
      have hj0 : Hid (JK B2 bj 0 1048576 1 wr wr (stL M K 0)) := by
        rw [show stL M K 0 = [] by unfold stL; split <;> rfl]; exact hjk
      clear hjk hperm
      first | (obtain rfl : ol = k := c1) | (obtain rfl : K = k := c2)
      go_wp2_with fail
      go_loopw [15, 16, 17, 18] (fun iv x16 x17 x18 wi => ∃ (i : Nat), iv = .int .i64 i ∧ i ≤ K ∧ Hid (BP wi g 33 M) ∧ Hid (JK B2 bj i 1048576 1 wi wi (stL M K i)) ∧ Hid (Below B w wi)) (fun iv _ _ _ _ => K - (intOf iv).toNat)
      case atStart => exact ⟨0, rfl, by omega, hbp, hj0, hbe⟩
      case round =>
        obtain ⟨i, rfl, hi, hbp2, hjk2, hbe2⟩ := hrel
        clear hbp hj0 hbe
        by_cases c : i < K
        · have hiM : i < M.length := by omega
          obtain ⟨a0, a1, a2, a3⟩ := hbp2.out.at_ hiM
          have hst := order_step (most := 1048576) HCM.out (by rw [HUM.out]; omega) i c
          have hm : mayP M[i] := (HCM.out.all _ (List.getElem_mem hiM)).2.2.1
          have hsl : stL M K i = M.take i := if_neg (by omega)
          have hub : usedL (stL M K i) ≤ 1099511627776 := by
            rw [hsl]
            have := usedL_take M i hiM
            have := HUM.out
            omega
          have hadd := jk_add hjk2.out M[i] (mayP_wf' hm) hub (by omega) (by omega)
          unfold JKPost at hadd
          rw [hsl, hst] at hadd
          rw [HT.out] at hadd
          have HADD := Lib.hid hadd
          clear hadd hst hm hub hsl hjk2
          generalize M[i] = p at *
          obtain ⟨pi, pn, po, pT⟩ := p
          simp only [Pt.cs] at HADD
          simp only at a0 a1 a2 a3
          by_cases hlast : i + 1 = K
          · simp only [hlast, if_true] at HADD
            have hkey : ((i : Int) == (K : Int) - 1) = true := by simp; omega
            go_wp2_with fail
            refine HADD.out.mono ?_
            rintro e w4 ⟨rfl, k4, O, hO, hkp⟩
            have h1 : Hid (BP w4 g 33 M) := hbp2.out.kept (hkp.block g hbp2.out.lt (fun ho => by have := (hO g ho).1; omega))
            have h2 : Hid (JK B2 bj (i + 1) 1048576 1 w4 w4 (stL M K (i + 1))) := by rw [show stL M K (i + 1) = [] from if_pos hlast]; exact k4.self.up (by omega)
            have h3 : Hid (Below B w w4) := hkp.below hbe2.out (fun b hb => by have := (hO b hb).1; have := HG.out; omega) (by have := hbe2.out.size; omega)
            clear k4 hkp hO hbp2 hbe2 HADD
            go_wp2_with fail
            go_roundw
            case rel => exact ⟨i + 1, by go_num, by omega, h1, h2, h3⟩
            case measure => simp [intOf]; omega
          · simp only [hlast, if_false] at HADD
            have hkey : ((i : Int) == (K : Int) - 1) = false := by simp; omega
            go_wp2_with fail
            refine HADD.out.mono ?_
            rintro e w4 ⟨rfl, k4, O, hO, hkp⟩
            have h1 : Hid (BP w4 g 33 M) := hbp2.out.kept (hkp.block g hbp2.out.lt (fun ho => by have := (hO g ho).1; omega))
            have h2 : Hid (JK B2 bj (i + 1) 1048576 1 w4 w4 (stL M K (i + 1))) := by rw [show stL M K (i + 1) = M.take (i + 1) from if_neg hlast]; exact k4.self.up (by omega)
            have h3 : Hid (Below B w w4) := hkp.below hbe2.out (fun b hb => by have := (hO b hb).1; have := HG.out; omega) (by have := hbe2.out.size; omega)
            clear k4 hkp hO hbp2 hbe2 HADD
            go_wp2_with fail
            go_roundw
            case rel => exact ⟨i + 1, by go_num, by omega, h1, h2, h3⟩
            case measure => simp [intOf]; omega
        · obtain rfl : i = K := by omega
          have hjn : Hid (JK B2 bj i 1048576 1 wr wr []) := by rw [show stL M i i = [] from if_pos rfl] at hjk2; exact hjk2
          have hs0 : (sortI (idsL [])).length = 0 := by unfold sortI; rw [List.length_mergeSort]; rfl
          have CU := Lib.hid (jk_used hjn.out)
          have CO := Lib.hid (jk_open hjn.out (by omega))
          clear hjk2
          go_wp2_with fail
          refine CU.out.mono ?_
          rintro e w5 ⟨rfl, rfl⟩
          go_wp2_with fail
          refine CO.out.mono ?_
          rintro e w6 ⟨v, rfl, ⟨ao, cap2, rfl, _⟩, hb6⟩
          have h6 : Hid (Below B w w6) := hbe2.out.trans (hb6.mono (by have := hbe2.out.size; omega))
          clear hb6
          go_wp2_with fail
          go_returns
          exact ⟨rfl, hB ▸ h6.out⟩

theorem parts_order (id : Int) (s : ByteArray) (size : Int) (oa : Option Addr) (ol oc : Nat) (zs : List Int) (w : World) (h1 : (Lit.int .i64 id).wf = true) (h2 : s.size ≤ maxLen) (h3 : (Lit.int .i64 size).wf = true) (hrow : IsRow .u8 w oa ol oc zs) :
    Calls Try.prog 9 #[.int .i64 id, .string s, .int .i64 size, .slice oa ol oc] w fun e w' => e = .returned (.bool true) ∧ Below w.heap.size w w' := by
  by_cases h : 2000 < s.size ∨ 300 < ol
  · exact parts_order_far id s size oa ol oc w h
  · by_cases hb : badCut id size
    · exact parts_order_bad id s size oa ol oc w (by omega) (by omega) hb
    · obtain ⟨m, rfl⟩ : ∃ m : Nat, size = m := ⟨size.toNat, by unfold badCut at hb; omega⟩
      exact parts_order_near id s m oa ol oc zs w (by omega) (by omega) hb hrow
end Go.Proofs.Ytemfecdpjegocaa
