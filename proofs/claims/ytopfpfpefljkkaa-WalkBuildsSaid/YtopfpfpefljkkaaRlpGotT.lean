/- The document's read: a list. -/
import Derived.Test.YtopfpfpefljkkaaRlpGotMid
namespace Go.Proofs.Ytopfpfpefljkkaa
open Go.RowKit
set_option linter.unusedVariables false
set_option linter.unusedSimpArgs false

set_option maxRecDepth 100000 in
set_option maxHeartbeats 8000000 in
theorem got_true (depth items : Int) (s : ByteArray) (d a m k : Nat) (w : World) (R : RdR) (hs : s.size ≤ 100000) (hp : 0 < s.size) (hb : 128 ≤ s[0].toNat) (hL : decide (192 ≤ s[0].toNat) = true) (hdd : (d : Int) ≤ depth) (hd16 : d ≤ 16) (hd1 : 1 ≤ d) (hit : (a : Int) + 1 ≤ items) (hi1024 : a + 1 ≤ 1024)
    (hRH : ∀ er, hd s.data.toList = .error er → R = .error er)
    (hRL : ∀ z n, hd s.data.toList = .ok (true, z, n) → R = match rdS k ((s.data.toList.drop z).take n) m [] with
      | .error e => .error e
      | .ok y => .ok (.node ⟨[], true⟩ y.1, z + n, y.2))
    (K M : Nat) (hM1024 : M ≤ 1024) (hkd : K + 1 - d = k + 1) (hMa : M - a = m + 1) (ih : ∀ (s : ByteArray) (d a : Nat) (w : World), s.size ≤ 100000 → 1 ≤ d → d ≤ 17 → a ≤ 1024 → K + 1 - d = k → Calls Try.prog 37 #[.string s, .int .i64 d, .int .i64 a, .int .i64 depth, .int .i64 items] w (GotPost (rdI k s.data.toList (M - a)) (M - a) w)) :
    Calls Try.prog 37 #[.string s, .int .i64 d, .int .i64 a, .int .i64 depth, .int .i64 items] w (GotPost R (m + 1) w) := by
  obtain ⟨POST, hP⟩ : ∃ P0, GotPost R (m + 1) w = P0 := ⟨_, rfl⟩
  have HP := Lib.hid hP
  rw [hP]
  obtain ⟨g, hg⟩ : ∃ g, w.heap.size = g := ⟨_, rfl⟩
  obtain ⟨wa, hwa⟩ : ∃ wa, w.alloc (.cells #[.string ⟨#[]⟩, .bool false, .slice none 0 0, .int .i64 0, .int .i64 0, .int .i64 0] GT) = wa := ⟨_, rfl⟩
  obtain ⟨hba, hbea, hsa⟩ := got_ini hg hwa
  have HBA := Lib.hid hba
  have HBE := Lib.hid hbea
  have HPUT := Lib.hid (got_put hba hbea)
  obtain ⟨c0, c1, c2, c3, c4, c5⟩ := blk6 (show Blk wa g #[_, _, _, _, _, _] GT from hba)
  obtain ⟨z0, z1, z2, z3, z4, z5⟩ := free6 hba
  have hie := isEmpty_no' s hp
  have hlen : s.data.toList.length = s.size := by simp
  have HL := Lib.hid hlen
  have HB := Lib.hid (fun t by' => hd_big hp (by' := by') (t := t) hL)
  obtain ⟨b, hb0⟩ : ∃ b, s[0].toNat = b := ⟨_, rfl⟩
  have hb255 : b ≤ 255 := by have := s[0].toNat_lt; omega
  have hb128 : 128 ≤ b := by omega
  obtain ⟨t, ht⟩ : ∃ t, b = 192 + t := ⟨b - 192, by simp at hL; omega⟩
  have HT := Lib.hid (HB.out t 192 rfl (hb0.trans ht))
  have HE := Lib.hid ht
  have HRH := Lib.hid hRH
  clear HB ht hP hba hbea hlen hRH
  have HRL := Lib.hid hRL
  have IH := Lib.hid ih
  have hb5 : 192 ≤ b := by simp at hL; omega
  clear hRL ih hL hb
  go_enter Try.func37, Try.ntmps37
  go_upto_if 56 with (fail)
  go_cut [14, 13] (fun zv nv wx => ∃ Z N : Nat, zv = .int .i64 (Z : Int) ∧ nv = .int .i64 (N : Int) ∧ 1 ≤ Z ∧ Z ≤ s.size ∧ N ≤ 100000 ∧ Hid (hd s.data.toList = hd2 s.data.toList true Z N) ∧ wx = wa)
  case first =>
    by_cases c : t ≤ 55
    · have d2 : b ≤ 247 := by have := HE.out; omega
      have hq := Lib.hid (HT.out.1 c)
      go_wp2_with fail
      go_meet
      exact ⟨1, t, rfl, by congr 1; have := HE.out; omega, by omega, by omega, by omega, hq, rfl⟩
    · obtain ⟨j, hj⟩ : ∃ j, t = 55 + j := ⟨t - 55, by omega⟩
      have hj0 : 0 < j := by omega
      have hj8 : j ≤ 8 := by have := HE.out; omega
      have HJ := Lib.hid (HT.out.2 j hj hj0)
      have d2 : 247 < b := by have := HE.out; omega
      have ek : ((b : Int) - 192 - 55) = (j : Int) := by have := HE.out; omega
      go_upto_region 17 with fail
      by_cases c2 : s.size < 1 + j
      · have hRE := Lib.hid (HRH.out _ (HJ.out.1 c2))
        go_wp2_with fail
        rw [put6_eq]
        obtain ⟨hblk6, hbel6⟩ := HPUT.out (.string ⟨#[]⟩) (.bool false) (.slice none 0 0) (.int .i64 0) (.int .i64 0) (.int .i64 2)
        obtain ⟨d0, d1, d2, d3, d4, d5⟩ := blk6 hblk6
        have HB6 := Lib.hid hbel6
        clear hblk6 hbel6
        refine bodyPost_ret (v := .agg #[.string ⟨#[]⟩, .bool false, .slice none 0 0, .int .i64 0, .int .i64 0, .int .i64 2]) (by simp [results, Try.results37, go_sem, d0, d1, d2, d3, d4, d5]) rfl ?_
        rw [← HP.out, hRE.out]
        exact got_err (hg.symm ▸ HB6.out)
      · have hk1 : 1 + j ≤ s.size := by omega
        have hs1 : 1 < s.size := by omega
        obtain ⟨hx1, hx2, hx3⟩ := HJ.out.2 hk1
        have CN := Lib.hid (ref_number (s.extract 1 (1 + j)) wa (by simp [ByteArray.size_extract]; omega))
        rw [hx1] at CN
        have hv64 := valB_lt8 (l := s.data.toList.drop 1) hj8
        have hh1 := head1 s hs1
        rw [hh1] at hx2 hx3
        have HX2 := Lib.hid hx2
        have HX3 := Lib.hid hx3
        have hb1 : s[1].toNat ≤ 255 := by have := s[1].toNat_lt; omega
        clear hx1 hx2 hx3 HJ HT c2 c hj hh1
        generalize valB ((s.data.toList.drop 1).take j) = v at *
        go_upto_region 20 with fail
        simp only [show (1 + (j : Int)) = ((1 + j : Nat) : Int) by omega]
        by_cases c3 : s[1].toNat = 0
        · have e3 : ((s[1].toNat : Int) == 0) = true := by rw [beq_iff_eq]; omega
          have hRE := Lib.hid (HRH.out _ (HX2.out (.inl (by congr 1; exact UInt8.toNat_inj.1 c3))))
          clear HX2 HX3 c3
          go_wp2_with fail
          refine CN.out.mono ?_
          rintro e w1 ⟨rfl, rfl⟩
          go_wp2_with fail
          rw [put6_eq]
          obtain ⟨hblk6, hbel6⟩ := HPUT.out (.string ⟨#[]⟩) (.bool false) (.slice none 0 0) (.int .i64 0) (.int .i64 0) (.int .i64 3)
          obtain ⟨d0, d1, d2, d3, d4, d5⟩ := blk6 hblk6
          have HB6 := Lib.hid hbel6
          clear hblk6 hbel6
          refine bodyPost_ret (v := .agg #[.string ⟨#[]⟩, .bool false, .slice none 0 0, .int .i64 0, .int .i64 0, .int .i64 3]) (by simp [results, Try.results37, go_sem, d0, d1, d2, d3, d4, d5]) rfl ?_
          rw [← HP.out, hRE.out]
          exact got_err (hg.symm ▸ HB6.out)
        have e3 : ((s[1].toNat : Int) == 0) = false := by rw [beq_eq_false_iff_ne]; omega
        by_cases c4 : v < 56
        · have hRE := Lib.hid (HRH.out _ (HX2.out (.inr c4)))
          clear HX2 HX3 c3
          go_wp2_with fail
          refine CN.out.mono ?_
          rintro e w1 ⟨rfl, rfl⟩
          go_wp2_with fail
          rw [put6_eq]
          obtain ⟨hblk6, hbel6⟩ := HPUT.out (.string ⟨#[]⟩) (.bool false) (.slice none 0 0) (.int .i64 0) (.int .i64 0) (.int .i64 3)
          obtain ⟨d0, d1, d2, d3, d4, d5⟩ := blk6 hblk6
          have HB6 := Lib.hid hbel6
          clear hblk6 hbel6
          refine bodyPost_ret (v := .agg #[.string ⟨#[]⟩, .bool false, .slice none 0 0, .int .i64 0, .int .i64 0, .int .i64 3]) (by simp [results, Try.results37, go_sem, d0, d1, d2, d3, d4, d5]) rfl ?_
          rw [← HP.out, hRE.out]
          exact got_err (hg.symm ▸ HB6.out)
        have c4' : 56 ≤ v := by omega
        have hq := Lib.hid (HX3.out (fun h => h.elim (fun h => c3 (by have := Option.some.inj h; rw [this]; rfl)) fun h => c4 h))
        clear HX2 HX3 c3 c4
        by_cases c5 : s.size - (1 + j) < v
        · have hRE := Lib.hid (HRH.out _ (hq.out.trans (hd2_short (by rw [HL.out]; omega))))
          have d5 : (s.size : Int) - ((1 + j : Nat) : Int) < (v : Int) := by omega
          clear c5
          go_wp2_with fail
          refine CN.out.mono ?_
          rintro e w1 ⟨rfl, rfl⟩
          go_wp2_with fail
          rw [put6_eq]
          obtain ⟨hblk6, hbel6⟩ := HPUT.out (.string ⟨#[]⟩) (.bool false) (.slice none 0 0) (.int .i64 0) (.int .i64 0) (.int .i64 2)
          obtain ⟨d0, d1, d2, d3, d4, d5⟩ := blk6 hblk6
          have HB6 := Lib.hid hbel6
          clear hblk6 hbel6
          refine bodyPost_ret (v := .agg #[.string ⟨#[]⟩, .bool false, .slice none 0 0, .int .i64 0, .int .i64 0, .int .i64 2]) (by simp [results, Try.results37, go_sem, d0, d1, d2, d3, d4, d5]) rfl ?_
          rw [← HP.out, hRE.out]
          exact got_err (hg.symm ▸ HB6.out)
        · have hvs : v ≤ 100000 := by omega
          have d5 : (v : Int) ≤ (s.size : Int) - ((1 + j : Nat) : Int) := by omega
          clear c5
          go_wp2_with fail
          refine CN.out.mono ?_
          rintro e w1 ⟨rfl, rfl⟩
          go_wp2_with fail
          go_meet
          exact ⟨1 + j, v, by first | rfl | go_num, by first | rfl | go_num, by omega, hk1, hvs, hq, rfl⟩
  case rest =>
    obtain ⟨Z, N, rfl, rfl, hZ1, hZ, hN, hq, hwc⟩ := hcut
    have hwc2 := hwc.symm
    clear hwc
    subst hwc2
    by_cases c1 : s.size - Z < N
    · have hRE := Lib.hid (HRH.out _ (hq.out.trans (hd2_short (by rw [HL.out]; omega))))
      have d2 : (s.size : Int) - (Z : Int) < (N : Int) := by omega
      clear c1
      go_wp2_with fail
      rw [put6_eq]
      obtain ⟨hblk6, hbel6⟩ := HPUT.out (.string ⟨#[]⟩) (.bool false) (.slice none 0 0) (.int .i64 0) (.int .i64 0) (.int .i64 2)
      obtain ⟨d0, d1, d2, d3, d4, d5⟩ := blk6 hblk6
      have HB6 := Lib.hid hbel6
      clear hblk6 hbel6
      refine bodyPost_ret (v := .agg #[.string ⟨#[]⟩, .bool false, .slice none 0 0, .int .i64 0, .int .i64 0, .int .i64 2]) (by simp [results, Try.results37, go_sem, d0, d1, d2, d3, d4, d5]) rfl ?_
      rw [← HP.out, hRE.out]
      exact got_err (hg.symm ▸ HB6.out)
    have d2 : (N : Int) ≤ (s.size : Int) - (Z : Int) := by omega
    have hZN : Z + N ≤ s.size := by omega
    clear c1
    have hE2 : hd s.data.toList = .ok (true, Z, N) := hq.out.trans (by unfold hd2; rw [if_neg (by rw [HL.out]; omega), if_neg (by simp)])
    have hRE := Lib.hid (HRL.out _ _ hE2)
    clear hE2
    have hINl : (s.extract Z (Z + N)).data.toList = (s.data.toList.drop Z).take N := by
      have := txt_ext (l := s.data.toList) rfl Z N
      rw [← this]; rfl
    have hINs : (s.extract Z (Z + N)).size ≤ 100000 := by simp [ByteArray.size_extract]; omega
    obtain ⟨l0, hl0⟩ : ∃ l0, (s.data.toList.drop Z).take N = l0 := ⟨_, rfl⟩
    rw [hl0] at hRE hINl
    obtain ⟨IN, hINe⟩ : ∃ IN, s.extract Z (Z + N) = IN := ⟨_, rfl⟩
    rw [hINe] at hINl hINs
    have HG0 : Hid (∀ W, wa.alloc (.cells #[.string ⟨#[]⟩, .bool true, .slice none 0 0, .int .i64 ((Z : Int) + (N : Int)), .int .i64 1, .int .i64 0] GT) = W → GLp g w W l0 k m ((Z : Int) + (N : Int)) l0 (.slice none 0 0) [] 1) := Lib.hid fun W h => gl_ini HBA.out HBE.out hsa h
    have HIL := Lib.hid hINl
    clear hl0 hINl
    go_wp2_with fail
    have HG1 := Lib.hid (HG0.out _ rfl)
    generalize wa.alloc (.cells #[.string ⟨#[]⟩, .bool true, .slice none 0 0, .int .i64 ((Z : Int) + (N : Int)), .int .i64 1, .int .i64 0] GT) = wb at *
    clear HG0
    simp only [hINe]
    go_loopw [17] (fun iv wi => ∃ (I : ByteArray) (v : Value) (L : List (Elt IL)) (cnt : Nat), iv = .string I ∧ I.size ≤ 100000 ∧ Hid (GLp g w wi l0 k m ((Z : Int) + (N : Int)) I.data.toList v L cnt)) (fun iv _ => strN iv)
    case atStart => exact ⟨IN, _, [], 1, rfl, hINs, by rw [HIL.out]; exact HG1⟩
    case round =>
      obtain ⟨I, v, L, cnt, rfl, hIs, HG⟩ := hrel
      obtain ⟨ML, hML⟩ : ∃ ML, L.length = ML := ⟨_, rfl⟩
      obtain ⟨ov, cv, hv⟩ : ∃ ov cv, v = .slice ov ML cv := by obtain ⟨ov, cv, h⟩ := HG.out.own.slice; exact ⟨ov, cv, by rw [h, hML]⟩
      subst hv
      have HML := Lib.hid hML
      obtain ⟨o0, o1, o2, o3, o4, o5⟩ := blk6 HG.out.out
      by_cases hI : I.size = 0
      · have e : I = ⟨#[]⟩ := bext (List.length_eq_zero_iff.1 (by simpa using hI))
        subst e
        obtain ⟨r0, r1, r2, r3, r4, r5⟩ := blk6 (show Blk wr g #[_, _, _, _, _, _] GT from HG.out.res)
        obtain ⟨x0, x1, x2, x3, x4, x5⟩ := free6 HG.out.res
        have HFIN := Lib.hid (gl_end (x := .bool true) (y := .bool true) (z := .bool true) hg HG.out hRE.out)
        have hb6 := put6_blk (a := .string ⟨#[]⟩) (b := .bool true) (c := .slice ov ML cv) (d := .int .i64 ((Z : Int) + (N : Int))) (e := .int .i64 (cnt : Nat)) (f := .int .i64 0) (show Blk wr g #[.string ⟨#[]⟩, .bool false, .slice none 0 0, .int .i64 0, .int .i64 0, .int .i64 0] GT from HG.out.res)
        have HB6 := Lib.hid (blk6 hb6)
        clear hb6
        go_wp2_with fail
        rw [put6_eq]
        obtain ⟨d0, d1, d2, d3, d4, d5⟩ := HB6.out
        refine bodyPost_ret (v := .agg #[.string ⟨#[]⟩, .bool true, .slice ov ML cv, .int .i64 ((Z : Int) + (N : Int)), .int .i64 (cnt : Nat), .int .i64 0]) (by simp [results, Try.results37, go_sem, d0, d1, d2, d3, d4, d5]) rfl ?_
        rw [← HP.out]
        exact HFIN.out
      · have hIp : 0 < I.size := by omega
        have hie2 := isEmpty_no' I hIp
        have hIne : I.data.toList ≠ [] := fun h => hI (by have := congrArg List.length h; simpa using this)
        have hc1 := HG.out.c1
        have hc2 := HG.out.c2
        have CR := IH.out I (d + 1) (a + cnt) wr hIs (by omega) (by omega) (by omega) (by omega)
        rw [show M - (a + cnt) = m + 1 - cnt by omega] at CR
        obtain ⟨Y, hY⟩ : ∃ Y, rdI k I.data.toList (m + 1 - cnt) = Y := ⟨_, rfl⟩
        rw [hY] at CR
        have hEQ := HG.out.eq
        rw [rdS_cons hIne, hY] at hEQ
        have CR : Hid (Calls Try.prog 37 #[.string I, .int .i64 ((d : Int) + 1), .int .i64 ((a : Int) + (cnt : Int)), .int .i64 depth, .int .i64 items] wr (GotPost Y (m + 1 - cnt) wr)) := Lib.hid CR
        cases Y with
        | error er =>
          have her := rdI_errs _ _ _ _ hY
          simp only at hEQ
          have hRE2 : Hid (R = .error (if er = 2 then 3 else er)) := Lib.hid (by rw [hRE.out, hEQ])
          clear hEQ hY hIne
          by_cases e2 : er = 2
          · rw [if_pos e2] at hRE2
            have e1 : ((er : Int) == 2) = true := by simp [e2]
            clear e2
            go_wp2_with fail
            refine CR.out.mono ?_
            rintro e w2 ⟨rfl, hb2⟩
            have HG2 : Hid (∀ W, w2.alloc (.cells #[.string ⟨#[]⟩, .bool false, .slice none 0 0, .int .i64 0, .int .i64 0, .int .i64 (er : Nat)] GT) = W → GLp g w W l0 k m ((Z : Int) + (N : Int)) I.data.toList (.slice ov ML cv) L cnt ∧ Blk W w2.heap.size #[.string ⟨#[]⟩, .bool false, .slice none 0 0, .int .i64 0, .int .i64 0, .int .i64 (er : Nat)] GT ∧ Below wr.heap.size wr W) := Lib.hid fun W h => by
              subst h
              have h2 := hb2.alloc hb2.size (.cells #[.string ⟨#[]⟩, .bool false, .slice none 0 0, .int .i64 0, .int .i64 0, .int .i64 (er : Nat)] GT)
              exact ⟨HG.out.below h2, Blk.new w2 _ _, h2⟩
            clear hb2
            go_upto_region 36 with fail
            generalize w2.alloc (.cells #[.string ⟨#[]⟩, .bool false, .slice none 0 0, .int .i64 0, .int .i64 0, .int .i64 (er : Nat)] GT) = w3 at *
            obtain ⟨hG3, hB3, hb3⟩ := HG2.out _ rfl
            obtain ⟨r0, r1, r2, r3, r4, r5⟩ := blk6 (show Blk w3 g #[_, _, _, _, _, _] GT from hG3.res)
            obtain ⟨x0, x1, x2, x3, x4, x5⟩ := free6 hG3.res
            have y5 := hB3.cell 5
            simp only [List.getElem?_toArray, List.getElem?_cons_zero, List.getElem?_cons_succ] at y5
            have HPUT3 := Lib.hid (gl_put hG3)
            clear HG2 hG3 hB3 hb3 o0 o1 o2 o3 o4 o5
            go_wp2_with fail
            rw [put6_eq]
            obtain ⟨hblk6, hbel6⟩ := HPUT3.out (.string ⟨#[]⟩) (.bool false) (.slice none 0 0) (.int .i64 0) (.int .i64 0) (.int .i64 3)
            obtain ⟨d0, d1, d2, d3, d4, d5⟩ := blk6 hblk6
            have HB6 := Lib.hid hbel6
            clear hblk6 hbel6
            refine bodyPost_ret (v := .agg #[.string ⟨#[]⟩, .bool false, .slice none 0 0, .int .i64 0, .int .i64 0, .int .i64 3]) (by simp [results, Try.results37, go_sem, d0, d1, d2, d3, d4, d5]) rfl ?_
            rw [← HP.out, hRE2.out]
            exact got_err (hg.symm ▸ HB6.out)
          · rw [if_neg e2] at hRE2
            have e1 : ((er : Int) == 2) = false := by rw [beq_eq_false_iff_ne]; omega
            have e0 : ((er : Int) != 0) = true := by simp; omega
            clear e2
            go_wp2_with fail
            refine CR.out.mono ?_
            rintro e w2 ⟨rfl, hb2⟩
            have HG2 : Hid (∀ W, w2.alloc (.cells #[.string ⟨#[]⟩, .bool false, .slice none 0 0, .int .i64 0, .int .i64 0, .int .i64 (er : Nat)] GT) = W → GLp g w W l0 k m ((Z : Int) + (N : Int)) I.data.toList (.slice ov ML cv) L cnt ∧ Blk W w2.heap.size #[.string ⟨#[]⟩, .bool false, .slice none 0 0, .int .i64 0, .int .i64 0, .int .i64 (er : Nat)] GT ∧ Below wr.heap.size wr W) := Lib.hid fun W h => by
              subst h
              have h2 := hb2.alloc hb2.size (.cells #[.string ⟨#[]⟩, .bool false, .slice none 0 0, .int .i64 0, .int .i64 0, .int .i64 (er : Nat)] GT)
              exact ⟨HG.out.below h2, Blk.new w2 _ _, h2⟩
            clear hb2
            go_upto_region 36 with fail
            generalize w2.alloc (.cells #[.string ⟨#[]⟩, .bool false, .slice none 0 0, .int .i64 0, .int .i64 0, .int .i64 (er : Nat)] GT) = w3 at *
            obtain ⟨hG3, hB3, hb3⟩ := HG2.out _ rfl
            obtain ⟨r0, r1, r2, r3, r4, r5⟩ := blk6 (show Blk w3 g #[_, _, _, _, _, _] GT from hG3.res)
            obtain ⟨x0, x1, x2, x3, x4, x5⟩ := free6 hG3.res
            have y5 := hB3.cell 5
            simp only [List.getElem?_toArray, List.getElem?_cons_zero, List.getElem?_cons_succ] at y5
            have HPUT3 := Lib.hid (gl_put hG3)
            clear HG2 hG3 hB3 hb3 o0 o1 o2 o3 o4 o5
            go_wp2_with fail
            rw [put6_eq]
            obtain ⟨hblk6, hbel6⟩ := HPUT3.out (.string ⟨#[]⟩) (.bool false) (.slice none 0 0) (.int .i64 0) (.int .i64 0) (.int .i64 (er : Nat))
            obtain ⟨d0, d1, d2, d3, d4, d5⟩ := blk6 hblk6
            have HB6 := Lib.hid hbel6
            clear hblk6 hbel6
            refine bodyPost_ret (v := .agg #[.string ⟨#[]⟩, .bool false, .slice none 0 0, .int .i64 0, .int .i64 0, .int .i64 (er : Nat)]) (by simp [results, Try.results37, go_sem, d0, d1, d2, d3, d4, d5]) rfl ?_
            rw [← HP.out, hRE2.out]
            exact got_err (hg.symm ▸ HB6.out)
        | ok y =>
          obtain ⟨⟨xa, xs⟩, sz, m2⟩ := y
          obtain ⟨hsz0, hszl, hcnt, _, _, _⟩ := rdI_spec _ _ _ _ hY
          simp only at hsz0 hszl hcnt hEQ
          have hxp := Rose.count_pos (Rose.node xa xs)
          have hIl : I.data.toList.length = I.size := by simp
          rw [hIl] at hszl
          have hxl : xa.text.length ≤ 100000 := got_textlen hIs hY
          obtain ⟨it, hit2⟩ : ∃ it, m + 1 - cnt - m2 = it := ⟨_, rfl⟩
          have hit3 : 1 ≤ it := by omega
          have HEQ : Hid (rdS k I.data.toList (m + 1 - cnt) (L.map Elt.tree) = rdS k (I.extract sz I.size).data.toList (m + 1 - (cnt + it)) (L.map Elt.tree ++ [.node xa xs])) := Lib.hid (by
            rw [rdS_cons hIne, hY]
            show rdS k (I.data.toList.drop sz) m2 (L.map Elt.tree ++ [.node xa xs]) = _
            rw [got_drop I sz, show m + 1 - (cnt + it) = m2 by omega])
          have hci : cnt + it ≤ m + 1 := by omega
          have hsI : (I.extract sz I.size).size ≤ 100000 := by simp [ByteArray.size_extract]; omega
          have hsI2 : (I.extract sz I.size).size < I.size := by simp [ByteArray.size_extract]; omega
          clear hEQ hY hIne hIl hcnt hxp
          go_wp2_with fail
          refine CR.out.mono ?_
          rintro e w2 ⟨xv, rfl, hx2, hb2⟩
          simp only [Rose.lab_node, Rose.sub_node] at hx2 ⊢
          rw [hit2]
          obtain ⟨xo, xn, xc, rfl, _⟩ : ∃ xo xn xc, xv = .slice xo xn xc ∧ True := by obtain ⟨o, c, h1, _⟩ := ISubsQ.slice hx2; exact ⟨o, _, c, h1, trivial⟩
          have HG2 : Hid (∀ W, w2.alloc (.cells #[.string (txt xa), .bool xa.list, .slice xo xn xc, .int .i64 (sz : Nat), .int .i64 (it : Nat), .int .i64 0] GT) = W → GLp g w W l0 k m ((Z : Int) + (N : Int)) I.data.toList (.slice ov ML cv) L cnt ∧
              Blk W w2.heap.size #[.string (txt xa), .bool xa.list, .slice xo xn xc, .int .i64 (sz : Nat), .int .i64 (it : Nat), .int .i64 0] GT ∧ Below wr.heap.size wr W ∧ ISubsQ W (fun c => wr.heap.size ≤ c) (.slice xo xn xc) xs ∧ w2.heap.size < W.heap.size ∧ wr.heap.size ≤ w2.heap.size) := Lib.hid fun W h => by
            subst h
            have h2 := hb2.alloc hb2.size (.cells #[.string (txt xa), .bool xa.list, .slice xo xn xc, .int .i64 (sz : Nat), .int .i64 (it : Nat), .int .i64 0] GT)
            exact ⟨HG.out.below h2, Blk.new w2 _ _, h2, Shape.Subs.below hx2 ((Below.refl _ w2).alloc (Nat.le_refl _) _), by simp, hb2.size⟩
          clear hb2 hx2
          go_upto_region 36 with fail
          generalize w2.alloc (.cells #[.string (txt xa), .bool xa.list, .slice xo xn xc, .int .i64 (sz : Nat), .int .i64 (it : Nat), .int .i64 0] GT) = w3 at *
          obtain ⟨hG3, hB3, hb3, hx3, hw23, hwr2⟩ := HG2.out _ rfl
          obtain ⟨p0, p1, p2, p3, p4, p5⟩ := blk6 hG3.out
          obtain ⟨y0, y1, y2, y3, y4, y5⟩ := blk6 hB3
          have HG3 := Lib.hid hG3
          have HB3 := Lib.hid hB3
          have HB3w := Lib.hid hb3
          have HX3 := Lib.hid hx3
          clear HG2 hG3 hB3 hb3 hx3 o0 o1 o2 o3 o4 o5
          go_upto_region 40 with fail
          have hvb : ∀ b, (Value.slice ov ML cv).ownBlock = some b → b ≠ w2.heap.size := fun b hb e => by
            have := (HG.out.own.1.block b hb).2.1
            omega
          have HVB := Lib.hid hvb
          have hne1 : w2.heap.size ≠ g + 1 := by have := HG.out.out.lt; omega
          have hne2 : g + 1 ≠ w2.heap.size := fun h => hne1 h.symm
          clear hvb
          go_upto_region 41 with (at_builtin; go_loud (refine wpList_append_g it_row itf_len rfl _ _ rfl (B := 0) (v := .slice ov ML cv) (L := L) (y := ⟨xa, .slice xo xn xc, xs⟩) rfl (HG3.out.own.1.below ((Below.refl _ w3).alloc (Nat.le_refl _) _)) rfl (Blk.new w3 #[.string (txt xa), .bool xa.list, .slice xo xn xc] IT) rfl (by simp [itf, Value.oneCell']) (by rw [HML.out]; omega) (Nat.zero_le _) ?_); intro gg cap w5 hown5 hgrow5 hat5 hlt5; obtain ⟨⟨k0, k1⟩, ⟨k2, k3⟩, k4⟩ := gl_cells HG3.out HVB.out HB3.out ((Below.refl _ w3).alloc (Nat.le_refl _) _) hgrow5; have k5 := k4 3; have k6 := k4 4; simp only [List.getElem?_toArray, List.getElem?_cons_zero, List.getElem?_cons_succ] at k5 k6; have HNX := Lib.hid (And.intro hown5 (And.intro hgrow5 hat5)); rw [HML.out]; clear hown5 hgrow5 hat5 hlt5 k4)
          have hal4 := (Below.refl _ w3).alloc (Nat.le_refl _) (.cells #[.string (txt xa), .bool xa.list, .slice xo xn xc] IT)
          have HNEXT := Lib.hid (GLp.next (cnt' := cnt + it) (I' := (I.extract sz I.size).data.toList) HG.out (HB3w.out.trans (hal4.mono HB3w.out.size)) (Shape.Subs.below HX3.out hal4) HNX.out.1 HNX.out.2.1 HNX.out.2.2 (by show xa.text.length ≤ maxLen; unfold maxLen; omega) HEQ.out (by omega) hci)
          clear hal4
          rw [HML.out] at HNEXT
          go_wp2_with fail
          go_roundw
          case rel =>
            rw [show ((cnt + it : Nat) : Int) = (cnt : Int) + (it : Int) by omega] at HNEXT
            exact ⟨_, _, _, cnt + it, rfl, hsI, HNEXT⟩
          case measure => exact hsI2
end Go.Proofs.Ytopfpfpefljkkaa
