/- The document's read: a text's head. -/
import Derived.Test.YtopfpfpefljkkaaRlpGot
namespace Go.Proofs.Ytopfpfpefljkkaa
open Go.RowKit
set_option linter.unusedVariables false
set_option linter.unusedSimpArgs false

set_option maxRecDepth 100000 in
set_option maxHeartbeats 8000000 in
theorem got_false (depth items : Int) (s : ByteArray) (d a m : Nat) (w : World) (R : RdR) (hs : s.size ≤ 100000) (hp : 0 < s.size) (hb : 128 ≤ s[0].toNat) (hL : decide (192 ≤ s[0].toNat) = false) (hdd : (d : Int) ≤ depth) (hd16 : d ≤ 16) (hd1 : 1 ≤ d) (hit : (a : Int) + 1 ≤ items) (hi1024 : a + 1 ≤ 1024)
    (hRH : ∀ er, hd s.data.toList = .error er → R = .error er) (hRT : ∀ z n, hd s.data.toList = .ok (false, z, n) → R = .ok (.node ⟨(s.data.toList.drop z).take n, false⟩ [], z + n, m)) :
    Calls Try.prog 37 #[.string s, .int .i64 d, .int .i64 a, .int .i64 depth, .int .i64 items] w (GotPost R (m + 1) w) := by
  obtain ⟨POST, hP⟩ : ∃ P0, GotPost R (m + 1) w = P0 := ⟨_, rfl⟩
  have HP := Lib.hid hP
  rw [hP]
  obtain ⟨g, hg⟩ : ∃ g, w.heap.size = g := ⟨_, rfl⟩
  obtain ⟨wa, hwa⟩ : ∃ wa, w.alloc (.cells #[.string ⟨#[]⟩, .bool false, .slice none 0 0, .int .i64 0, .int .i64 0, .int .i64 0] GT) = wa := ⟨_, rfl⟩
  obtain ⟨hba, hbea, hsa⟩ := got_ini hg hwa
  have HBA := Lib.hid hba
  have HBE := Lib.hid hbea
  have HPUT := Lib.hid (got_put hba hbea)
  obtain ⟨c0, c1, c2, c3, c4, c5⟩ := blk6 (show Blk wa g #[_, _, _, _, _, _] GT from hba)
  obtain ⟨z0, z1, z2, z3, z4, z5⟩ := free6 hba
  have hie := isEmpty_no' s hp
  have hlen : s.data.toList.length = s.size := by simp
  have HL := Lib.hid hlen
  have HB := Lib.hid (fun t by' => hd_big hp (by' := by') (t := t) hL)
  obtain ⟨b, hb0⟩ : ∃ b, s[0].toNat = b := ⟨_, rfl⟩
  have hb255 : b ≤ 255 := by have := s[0].toNat_lt; omega
  have hb128 : 128 ≤ b := by omega
  obtain ⟨t, ht⟩ : ∃ t, b = 128 + t := ⟨b - 128, by simp at hL; omega⟩
  have HT := Lib.hid (HB.out t 128 rfl (hb0.trans ht))
  have HE := Lib.hid ht
  have HRH := Lib.hid hRH
  clear HB ht hP hba hbea hlen hRH
  have HRT := Lib.hid hRT
  have hb5 : b < 192 := by simp at hL; omega
  clear hRT hL hb
  go_enter Try.func37, Try.ntmps37
  go_upto_if 56 with (fail)
  go_cut [14, 13] (fun zv nv wx => ∃ Z N : Nat, zv = .int .i64 (Z : Int) ∧ nv = .int .i64 (N : Int) ∧ 1 ≤ Z ∧ Z ≤ s.size ∧ N ≤ 100000 ∧ Hid (hd s.data.toList = hd2 s.data.toList false Z N) ∧ wx = wa)
  case first =>
    by_cases c : t ≤ 55
    · have d2 : b ≤ 183 := by have := HE.out; omega
      have hq := Lib.hid (HT.out.1 c)
      go_wp2_with fail
      go_meet
      exact ⟨1, t, rfl, by congr 1; have := HE.out; omega, by omega, by omega, by omega, hq, rfl⟩
    · obtain ⟨j, hj⟩ : ∃ j, t = 55 + j := ⟨t - 55, by omega⟩
      have hj0 : 0 < j := by omega
      have hj8 : j ≤ 8 := by have := HE.out; omega
      have HJ := Lib.hid (HT.out.2 j hj hj0)
      have d2 : 183 < b := by have := HE.out; omega
      have ek : ((b : Int) - 128 - 55) = (j : Int) := by have := HE.out; omega
      go_upto_region 17 with fail
      by_cases c2 : s.size < 1 + j
      · have hRE := Lib.hid (HRH.out _ (HJ.out.1 c2))
        go_wp2_with fail
        rw [put6_eq]
        obtain ⟨hblk6, hbel6⟩ := HPUT.out (.string ⟨#[]⟩) (.bool false) (.slice none 0 0) (.int .i64 0) (.int .i64 0) (.int .i64 2)
        obtain ⟨d0, d1, d2, d3, d4, d5⟩ := blk6 hblk6
        have HB6 := Lib.hid hbel6
        clear hblk6 hbel6
        refine bodyPost_ret (v := .agg #[.string ⟨#[]⟩, .bool false, .slice none 0 0, .int .i64 0, .int .i64 0, .int .i64 2]) (by simp [results, Try.results37, go_sem, d0, d1, d2, d3, d4, d5]) rfl ?_
        rw [← HP.out, hRE.out]
        exact got_err (hg.symm ▸ HB6.out)
      · have hk1 : 1 + j ≤ s.size := by omega
        have hs1 : 1 < s.size := by omega
        obtain ⟨hx1, hx2, hx3⟩ := HJ.out.2 hk1
        have CN := Lib.hid (ref_number (s.extract 1 (1 + j)) wa (by simp [ByteArray.size_extract]; omega))
        rw [hx1] at CN
        have hv64 := valB_lt8 (l := s.data.toList.drop 1) hj8
        have hh1 := head1 s hs1
        rw [hh1] at hx2 hx3
        have HX2 := Lib.hid hx2
        have HX3 := Lib.hid hx3
        have hb1 : s[1].toNat ≤ 255 := by have := s[1].toNat_lt; omega
        clear hx1 hx2 hx3 HJ HT c2 c hj hh1
        generalize valB ((s.data.toList.drop 1).take j) = v at *
        go_upto_region 20 with fail
        simp only [show (1 + (j : Int)) = ((1 + j : Nat) : Int) by omega]
        by_cases c3 : s[1].toNat = 0
        · have e3 : ((s[1].toNat : Int) == 0) = true := by rw [beq_iff_eq]; omega
          have hRE := Lib.hid (HRH.out _ (HX2.out (.inl (by congr 1; exact UInt8.toNat_inj.1 c3))))
          clear HX2 HX3 c3
          go_wp2_with fail
          refine CN.out.mono ?_
          rintro e w1 ⟨rfl, rfl⟩
          go_wp2_with fail
          rw [put6_eq]
          obtain ⟨hblk6, hbel6⟩ := HPUT.out (.string ⟨#[]⟩) (.bool false) (.slice none 0 0) (.int .i64 0) (.int .i64 0) (.int .i64 3)
          obtain ⟨d0, d1, d2, d3, d4, d5⟩ := blk6 hblk6
          have HB6 := Lib.hid hbel6
          clear hblk6 hbel6
          refine bodyPost_ret (v := .agg #[.string ⟨#[]⟩, .bool false, .slice none 0 0, .int .i64 0, .int .i64 0, .int .i64 3]) (by simp [results, Try.results37, go_sem, d0, d1, d2, d3, d4, d5]) rfl ?_
          rw [← HP.out, hRE.out]
          exact got_err (hg.symm ▸ HB6.out)
        have e3 : ((s[1].toNat : Int) == 0) = false := by rw [beq_eq_false_iff_ne]; omega
        by_cases c4 : v < 56
        · have hRE := Lib.hid (HRH.out _ (HX2.out (.inr c4)))
          clear HX2 HX3 c3
          go_wp2_with fail
          refine CN.out.mono ?_
          rintro e w1 ⟨rfl, rfl⟩
          go_wp2_with fail
          rw [put6_eq]
          obtain ⟨hblk6, hbel6⟩ := HPUT.out (.string ⟨#[]⟩) (.bool false) (.slice none 0 0) (.int .i64 0) (.int .i64 0) (.int .i64 3)
          obtain ⟨d0, d1, d2, d3, d4, d5⟩ := blk6 hblk6
          have HB6 := Lib.hid hbel6
          clear hblk6 hbel6
          refine bodyPost_ret (v := .agg #[.string ⟨#[]⟩, .bool false, .slice none 0 0, .int .i64 0, .int .i64 0, .int .i64 3]) (by simp [results, Try.results37, go_sem, d0, d1, d2, d3, d4, d5]) rfl ?_
          rw [← HP.out, hRE.out]
          exact got_err (hg.symm ▸ HB6.out)
        have c4' : 56 ≤ v := by omega
        have hq := Lib.hid (HX3.out (fun h => h.elim (fun h => c3 (by have := Option.some.inj h; rw [this]; rfl)) fun h => c4 h))
        clear HX2 HX3 c3 c4
        by_cases c5 : s.size - (1 + j) < v
        · have hRE := Lib.hid (HRH.out _ (hq.out.trans (hd2_short (by rw [HL.out]; omega))))
          have d5 : (s.size : Int) - ((1 + j : Nat) : Int) < (v : Int) := by omega
          clear c5
          go_wp2_with fail
          refine CN.out.mono ?_
          rintro e w1 ⟨rfl, rfl⟩
          go_wp2_with fail
          rw [put6_eq]
          obtain ⟨hblk6, hbel6⟩ := HPUT.out (.string ⟨#[]⟩) (.bool false) (.slice none 0 0) (.int .i64 0) (.int .i64 0) (.int .i64 2)
          obtain ⟨d0, d1, d2, d3, d4, d5⟩ := blk6 hblk6
          have HB6 := Lib.hid hbel6
          clear hblk6 hbel6
          refine bodyPost_ret (v := .agg #[.string ⟨#[]⟩, .bool false, .slice none 0 0, .int .i64 0, .int .i64 0, .int .i64 2]) (by simp [results, Try.results37, go_sem, d0, d1, d2, d3, d4, d5]) rfl ?_
          rw [← HP.out, hRE.out]
          exact got_err (hg.symm ▸ HB6.out)
        · have hvs : v ≤ 100000 := by omega
          have d5 : (v : Int) ≤ (s.size : Int) - ((1 + j : Nat) : Int) := by omega
          clear c5
          go_wp2_with fail
          refine CN.out.mono ?_
          rintro e w1 ⟨rfl, rfl⟩
          go_wp2_with fail
          go_meet
          exact ⟨1 + j, v, by first | rfl | go_num, by first | rfl | go_num, by omega, hk1, hvs, hq, rfl⟩
  case rest =>
    obtain ⟨Z, N, rfl, rfl, hZ1, hZ, hN, hq, hwc⟩ := hcut
    have hwc2 := hwc.symm
    clear hwc
    subst hwc2
    by_cases c1 : s.size - Z < N
    · have hRE := Lib.hid (HRH.out _ (hq.out.trans (hd2_short (by rw [HL.out]; omega))))
      have d2 : (s.size : Int) - (Z : Int) < (N : Int) := by omega
      clear c1
      go_wp2_with fail
      rw [put6_eq]
      obtain ⟨hblk6, hbel6⟩ := HPUT.out (.string ⟨#[]⟩) (.bool false) (.slice none 0 0) (.int .i64 0) (.int .i64 0) (.int .i64 2)
      obtain ⟨d0, d1, d2, d3, d4, d5⟩ := blk6 hblk6
      have HB6 := Lib.hid hbel6
      clear hblk6 hbel6
      refine bodyPost_ret (v := .agg #[.string ⟨#[]⟩, .bool false, .slice none 0 0, .int .i64 0, .int .i64 0, .int .i64 2]) (by simp [results, Try.results37, go_sem, d0, d1, d2, d3, d4, d5]) rfl ?_
      rw [← HP.out, hRE.out]
      exact got_err (hg.symm ▸ HB6.out)
    have d2 : (N : Int) ≤ (s.size : Int) - (Z : Int) := by omega
    have hZN : Z + N ≤ s.size := by omega
    clear c1
    have hT : Hid (s.extract Z (Z + N) = txt ⟨(s.data.toList.drop Z).take N, false⟩) := Lib.hid (txt_ext rfl Z N).symm
    by_cases c2 : N = 1
    · subst c2
      have hZs : Z < s.size := by omega
      have hgd : s.data.toList.getD Z 0 = s[Z] := by rw [List.getD_eq_getElem?_getD, List.getElem?_eq_getElem (by rw [HL.out]; exact hZs)]; rfl
      have hes : (s.extract Z (Z + 1)).size = 1 := by simp [ByteArray.size_extract]; omega
      have hex : (s.extract Z (Z + 1))[0] = s[Z] := by simp [ByteArray.getElem_extract]
      obtain ⟨IN, hIN⟩ : ∃ IN, s.extract Z (Z + 1) = IN := ⟨_, rfl⟩
      have hex2 : ∀ h : 0 < IN.size, IN[0].toNat = s[Z].toNat := by subst hIN; intro h; rw [hex]
      rw [hIN] at hes hT
      have hsz1 : 0 < IN.size := by omega
      clear hex
      by_cases c3 : s[Z].toNat < 128
      · have hRE := Lib.hid (HRH.out 3 (hq.out.trans (by unfold hd2; rw [if_neg (by rw [HL.out]; omega), if_pos ⟨rfl, rfl, by rw [hgd]; exact c3⟩])))
        have d3 : IN[0].toNat < 128 := by rw [hex2 hsz1]; exact c3
        clear hgd hex2 c3 hes
        go_wp2_with fail
        rw [put6_eq]
        obtain ⟨hblk6, hbel6⟩ := HPUT.out (.string ⟨#[]⟩) (.bool false) (.slice none 0 0) (.int .i64 0) (.int .i64 0) (.int .i64 3)
        obtain ⟨d0, d1, d2, d3, d4, d5⟩ := blk6 hblk6
        have HB6 := Lib.hid hbel6
        clear hblk6 hbel6
        refine bodyPost_ret (v := .agg #[.string ⟨#[]⟩, .bool false, .slice none 0 0, .int .i64 0, .int .i64 0, .int .i64 3]) (by simp [results, Try.results37, go_sem, d0, d1, d2, d3, d4, d5]) rfl ?_
        rw [← HP.out, hRE.out]
        exact got_err (hg.symm ▸ HB6.out)
      · have hRE := Lib.hid (HRT.out _ _ (hq.out.trans (by unfold hd2; rw [if_neg (by rw [HL.out]; omega), if_neg (by rw [hgd]; intro h; exact c3 h.2.2)])))
        have d3 : 128 ≤ IN[0].toNat := by rw [hex2 hsz1]; omega
        clear hgd hex2 c3 hes
        go_wp2_with fail
        rw [put6_eq]
        obtain ⟨hblk6, hbel6⟩ := HPUT.out (.string IN) (.bool false) (.slice none 0 0) (.int .i64 ((Z : Int) + (1 : Int))) (.int .i64 1) (.int .i64 0)
        obtain ⟨d0, d1, d2, d3, d4, d5⟩ := blk6 hblk6
        have HB6 := Lib.hid hbel6
        clear hblk6 hbel6
        refine bodyPost_ret (v := .agg #[.string IN, .bool false, .slice none 0 0, .int .i64 ((Z : Int) + (1 : Int)), .int .i64 1, .int .i64 0]) (by simp [results, Try.results37, go_sem, d0, d1, d2, d3, d4, d5]) rfl ?_
        rw [← HP.out, hRE.out]
        exact got_text hT.out (by omega) (hg.symm ▸ HB6.out)
    · have hRE := Lib.hid (HRT.out _ _ (hq.out.trans (by unfold hd2; rw [if_neg (by rw [HL.out]; omega), if_neg (fun h => c2 h.2.1)])))
      have d3 : ((N : Int) == 1) = false := by rw [beq_eq_false_iff_ne]; omega
      clear c2
      go_wp2_with fail
      rw [put6_eq]
      obtain ⟨hblk6, hbel6⟩ := HPUT.out (.string (s.extract Z (Z + N))) (.bool false) (.slice none 0 0) (.int .i64 ((Z : Int) + (N : Int))) (.int .i64 1) (.int .i64 0)
      obtain ⟨d0, d1, d2, d3, d4, d5⟩ := blk6 hblk6
      have HB6 := Lib.hid hbel6
      clear hblk6 hbel6
      refine bodyPost_ret (v := .agg #[.string (s.extract Z (Z + N)), .bool false, .slice none 0 0, .int .i64 ((Z : Int) + (N : Int)), .int .i64 1, .int .i64 0]) (by simp [results, Try.results37, go_sem, d0, d1, d2, d3, d4, d5]) rfl ?_
      rw [← HP.out, hRE.out]
      exact got_text hT.out (by omega) (hg.symm ▸ HB6.out)
end Go.Proofs.Ytopfpfpefljkkaa
