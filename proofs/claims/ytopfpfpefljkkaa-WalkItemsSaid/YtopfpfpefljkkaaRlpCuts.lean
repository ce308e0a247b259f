/- The law RlpCuts (UNDER WAY). -/
import Derived.Test.YtopfpfpefljkkaaRlpCutsP
import Derived.Test.YtopfpfpefljkkaaRlpReads
namespace Go.Proofs.Ytopfpfpefljkkaa
open Go.RowKit
set_option linter.unusedVariables false
set_option linter.unusedSimpArgs false

theorem great_enc2 {x : Rose IL} (h : greatI x = false) : (enc x).length ≤ 20000 := by
  unfold greatI at h
  simp only [Bool.or_eq_false_iff, decide_eq_false_iff_not] at h
  obtain ⟨h1, h2⟩ := h
  have := enc_le x (by omega)
  omega

set_option maxRecDepth 100000 in
set_option maxHeartbeats 8000000 in
theorem rlp_cuts (x : Rose IL) (v : Value) (n : Int) (mo : ByteArray) (w : World) (h : ISubs w v x.sub ∧ x.lab.text.length ≤ maxLen) (hnw : (Lit.int .u16 n).wf = true) (hmo : mo.size ≤ maxLen) :
    Calls Try.prog 5 #[.agg #[.string (txt x.lab), .bool x.lab.list, v], .int .u16 n, .string mo] w fun e w' => e = .returned (.bool true) ∧ Below w.heap.size w w' := by
  have hn0 : 0 ≤ n := by simp [Lit.wf, IntKind.min, IntKind.max, IntKind.signed, IntKind.bits] at hnw; omega
  have hn1 : n < 65536 := by simp [Lit.wf, IntKind.min, IntKind.max, IntKind.signed, IntKind.bits] at hnw; omega
  clear hnw
  obtain ⟨hv, hxl⟩ := h
  have HW := Lib.hid (box_item (T := txt x.lab) (l := x.lab.list) (t := IT) hv)
  obtain ⟨oa, cap, rfl, hcap, hml⟩ := ISubsQ.slice hv
  obtain ⟨g, hg⟩ : ∃ g, w.heap.size = g := ⟨_, rfl⟩
  have HXL := Lib.hid hxl
  obtain ⟨M, hM⟩ : ∃ M, x.sub.length = M := ⟨_, rfl⟩
  rw [hg] at HW ⊢
  rw [hM] at HW ⊢
  have HM := Lib.hid hM
  clear hv hcap hml hxl hM
  go_enter Try.func5, Try.ntmps5
  go_upto_region 1 with fail
  generalize w.alloc (.cells #[.string (txt x.lab), .bool x.lab.list, .slice oa M cap] IT) = w1 at *
  obtain ⟨hb1, ht1, hsz, c0, c1, c2, hB1⟩ := HW.out _ rfl
  have hsz1 : w1.heap.size = g + 1 := hsz
  have HC : Hid (∀ W, Below (g + 1) w1 W → Below (g + 1) w1 W ∧ W.cell? ⟨g, 0, none⟩ = some (.string (txt x.lab)) ∧ W.cell? ⟨g, 1, none⟩ = some (.bool x.lab.list) ∧ W.cell? ⟨g, 2, none⟩ = some (.slice oa M cap)) := Lib.hid fun W hb =>
    ⟨hb, (hb.cell (p := ⟨g, 0, none⟩) (Nat.lt_succ_self g)).trans c0, (hb.cell (p := ⟨g, 1, none⟩) (Nat.lt_succ_self g)).trans c1, (hb.cell (p := ⟨g, 2, none⟩) (Nat.lt_succ_self g)).trans c2⟩
  have HF : Hid (∀ W, Below (g + 1) w1 W → Below g w W) := Lib.hid fun W hb => hb1.trans (hb.mono (by omega))
  have HS : Hid (∀ W, Below (g + 1) w1 W → ISubs W (.slice oa M cap) x.sub) := Lib.hid fun W hb => Shape.Subs.below ht1 (hsz1 ▸ hb)
  have HZ : Hid (∀ W W', Below (g + 1) w1 W → Below W.heap.size W W' → Below (g + 1) w1 W') := Lib.hid fun W W' hb hb' => hb.trans (hb'.mono (by have := hb.size; omega))
  have HR1 : Hid (Below (g + 1) w1 w1) := Lib.hid (Below.refl _ _)
  clear HW hb1 ht1 hsz hB1
  have CA := Lib.hid rlp_alive
  go_wp2_with fail
  refine (CA.out _).mono ?_
  rintro e w2 ⟨rfl, hb2⟩
  have H2 := Lib.hid (HZ.out _ _ HR1.out hb2)
  obtain ⟨_, c0, c1, c2⟩ := HC.out _ H2.out
  clear hb2
  have CG := Lib.hid (ilaw_great x w2 _ (HS.out _ H2.out) HXL.out)
  cases hgr : greatI x with
  | true =>
    rw [hgr] at CG
    go_wp2_with fail
    refine CG.out.mono ?_
    rintro e w3 ⟨rfl, hb3⟩
    have H3 := Lib.hid (HF.out _ (HZ.out _ _ H2.out hb3))
    clear hb3
    go_wp2_with fail
    go_returns
    exact ⟨rfl, H3.out⟩
  | false =>
    obtain ⟨hct, hen, htl⟩ := great_enc hgr
    rw [hgr] at CG
    have HEN := Lib.hid hen
    have hen2 := great_enc2 hgr
    go_wp2_with fail
    refine CG.out.mono ?_
    rintro e w3 ⟨rfl, hb3⟩
    have H3 := Lib.hid (HZ.out _ _ H2.out hb3)
    obtain ⟨_, c0, c1, c2⟩ := HC.out _ H3.out
    clear hb3 CG
    have CM := Lib.hid (fun W (hb : Below (g + 1) w1 W) => Calls.chain (idoc_may x W _ (HS.out _ hb) (by omega)) (fun W' hb' => HZ.out W W' hb hb'))
    cases hmy : mayI x with
    | false =>
      rw [hmy] at CM
      go_wp2_with fail
      refine (CM.out _ H3.out).mono ?_
      rintro e w5 ⟨rfl, hb5⟩
      have H5 := Lib.hid (HF.out _ hb5)
      clear hb5
      go_wp2_with fail
      go_returns
      exact ⟨rfl, H5.out⟩
    | true =>
      obtain ⟨S, hS⟩ : ∃ S : ByteArray, ⟨(enc x).toArray⟩ = S := ⟨_, rfl⟩
      have hSs : S.size = (enc x).length := by rw [← hS, size_mk]
      have hSl : S.data.toList = enc x := by rw [← hS]
      obtain ⟨hmr, hmd, hmc⟩ := may_parts hmy
      rw [hmy] at CM
      have hS1 : S.size ≤ 100000 := by omega
      have CR := Lib.hid (fun W (hb : Below (g + 1) w1 W) => Calls.chain (ref_put x W _ (HS.out _ hb) hen (by omega) hmr) (fun W' hb' => HZ.out W W' hb hb'))
      rw [hS] at CR
      have hSp : 0 < S.size := by have := enc_pos x; omega
      have hS3 : S.size ≤ 100000 := hS1
      obtain ⟨p, hpe, hpl⟩ : ∃ p : Nat, n % (S.size : Int) = (p : Int) ∧ p < S.size := by
        have a1 := Int.emod_nonneg n (show (S.size : Int) ≠ 0 by omega)
        have a2 := Int.emod_lt_of_pos n (show (0 : Int) < S.size by omega)
        exact ⟨(n % (S.size : Int)).toNat, by omega, by omega⟩
      have CN : Hid (∀ W, Below (g + 1) w1 W → Calls Try.prog 11 #[.string (S.extract 0 p), .int .i64 16, .int .i64 1024] W fun e W' => e = .returned (.tuple #[.agg #[.string ⟨#[]⟩, .bool false, .slice none 0 0], .int .i64 0, .int .i64 2]) ∧ Below (g + 1) w1 W') := Lib.hid fun W hb => by
        have h1 : (S.extract 0 p).data.toList = (enc x).take p := by rw [← hSl]; simp
        have := rlp_next (S.extract 0 p) 16 1024 W (by simp; omega) (by decide) (by decide)
        rw [h1, show (min (16 : Int) 16).toNat = 15 + 1 from rfl, show (min (1024 : Int) 1024).toNat = 1023 + 1 from rfl, rdI_cut hmr (by omega) (by omega)] at this
        exact this.mono fun e W' h => ⟨h.1, HZ.out _ _ hb h.2⟩
      have hcat : (S ++ mo).data.toList = enc x ++ mo.data.toList := by rw [← hSl]; simp
      have hR2 := rdI_enc 16 x 1024 mo.data.toList hmr (by omega) hmd hmc
      have CN2 : Hid (mo.size ≤ 300 → ∀ W, Below (g + 1) w1 W → Calls Try.prog 11 #[.string (S ++ mo), .int .i64 16, .int .i64 1024] W fun e W' => ∃ ou cu, e = .returned (.tuple #[.agg #[.string (txt x.lab), .bool x.lab.list, .slice ou M cu], .int .i64 (S.size : Nat), .int .i64 0]) ∧ ISubs W' (.slice ou M cu) x.sub ∧ Below (g + 1) w1 W' ∧ Below W.heap.size W W') := Lib.hid fun hm3 W hb => by
        have := rlp_next (S ++ mo) 16 1024 W (by simp; omega) (by decide) (by decide)
        rw [hcat, show (min (16 : Int) 16).toNat = 16 from rfl, show (min (1024 : Int) 1024).toNat = 1024 from rfl, hR2] at this
        refine this.mono fun e W' ⟨u, h1, h2, h3⟩ => ?_
        obtain ⟨ou, cu, rfl, _, _⟩ := h2.slice
        dsimp only at h1 h2
        rw [HM.out] at h1 h2
        rw [← hSs] at h1
        exact ⟨ou, cu, h1, h2.any, HZ.out _ _ hb h3, h3⟩
      have CG2 : Hid (mo.size ≤ 300 → ∀ W, Below (g + 1) w1 W → Calls Try.prog 14 #[.string (S ++ mo), .int .i64 16, .int .i64 1024] W fun e W' => ∃ (T : ByteArray) (l : Bool) (ou : Option Addr) (nu cu : Nat) (er : Int), e = .returned (.tuple #[.agg #[.string T, .bool l, .slice ou nu cu], .int .i64 er]) ∧ er = (if mo.size = 0 then 0 else 3) ∧ Below W.heap.size W W') := Lib.hid fun hm3 W hb => by
        have := rlp_get 16 1024 16 1024 rfl rfl (S ++ mo) W (by simp; omega) (by decide) (by decide)
        rw [hcat, hR2] at this
        have hll : (enc x ++ mo.data.toList).length = (enc x).length + mo.size := by rw [List.length_append]; rfl
        unfold getR at this
        simp only [hll] at this
        by_cases h0 : mo.size = 0
        · rw [if_neg (by omega)] at this
          refine this.mono fun e W' ⟨u, h1, h2, h3⟩ => by
            obtain ⟨ou, cu, rfl, _, _⟩ := h2.slice
            exact ⟨_, _, _, _, _, 0, h1, by rw [if_pos h0], h3⟩
        · rw [if_pos (by omega)] at this
          refine this.mono fun e W' ⟨h1, h3⟩ => ⟨_, _, _, _, _, 3, h1, by rw [if_neg h0], h3⟩
      have CSX := Lib.hid (fun W u u' h1 h2 => idoc_same x x W u u' h1 h2)
      simp only [isame_refl] at CSX
      clear hS hSs hSl hmr htl hen hcat hR2 hen2
      go_wp2_with fail
      refine (CM.out _ H3.out).mono ?_
      rintro e w5 ⟨rfl, hb5⟩
      have H5 := Lib.hid hb5
      obtain ⟨_, c0, c1, c2⟩ := HC.out _ H5.out
      clear hb5
      by_cases hbg : 300 < mo.size
      · have H6 := Lib.hid (HF.out _ H5.out)
        go_wp2_with fail
        go_returns
        exact ⟨rfl, H6.out⟩
      · have hmo3 : mo.size ≤ 300 := by omega
        clear hbg
        go_wp2_with fail
        refine (CR.out _ H5.out).mono ?_
        rintro e w6 ⟨rfl, hb6⟩
        have H6 := Lib.hid hb6
        obtain ⟨_, c0, c1, c2⟩ := HC.out _ H6.out
        clear hb6
        go_wp2_with fail
        refine (CN.out _ H6.out).mono ?_
        rintro e w7 ⟨rfl, hb7⟩
        have H7 := Lib.hid hb7
        clear hb7
        go_wp2_with fail
        obtain ⟨w8, ew8, HG⟩ := gen_gotc (gotc_a (B := g + 1) (w1 := w1) (s := []) (T := ⟨#[]⟩) (l := false) (u := .slice none 0 0) H7.out (Nat.le_of_eq hsz1.symm) (subs_nil _ _))
        rw [ew8]
        clear ew8
        have HGo := HG
        clear HG
        obtain ⟨c8, ec8, HG⟩ := gen_atc HGo
        clear HGo
        rw [ec8]
        clear ec8
        have H8 := Lib.hid HG.1
        clear HG
        refine (CN2.out hmo3 _ H8.out).mono ?_
        rintro e w9 ⟨ou, cu, rfl, hu9, hb9, hc9⟩
        have HU9 := Lib.hid hu9
        have H9 := Lib.hid hb9
        clear hu9 hb9 hc9
        go_wp2_with fail
        obtain ⟨w10, ew10, HG⟩ := gen_gotc (gotc_a (B := g + 1) (w1 := w1) (s := x.sub) (T := txt x.lab) (l := x.lab.list) H9.out (Nat.le_of_eq hsz1.symm) HU9.out)
        rw [ew10]
        clear ew10
        have HGo := HG
        clear HG
        obtain ⟨c10, ec10, HG⟩ := gen_atc HGo
        clear HGo
        rw [ec10]
        clear ec10
        have H10 := Lib.hid HG
        clear HG
        refine (CG2.out hmo3 _ H10.out.1).mono ?_
        rintro e w11 ⟨T, l, o5, n5, c5, er, rfl, her, hb11⟩
        have H11 := Lib.hid (H10.out.below (Nat.le_of_eq hsz1.symm) hb11)
        have HER := Lib.hid her
        clear hb11 her
        have H12 := Lib.hid (H11.out.below (Nat.le_of_eq hsz1.symm) ((Below.refl _ _).alloc (Nat.le_refl _) (.cells #[.string T, .bool l, .slice o5 n5 c5] IT)))
        obtain ⟨h12b, h12u, d0, d1, d2, _⟩ := H12.out
        obtain ⟨_, c0, c1, c2⟩ := HC.out _ h12b
        clear h12b h12u
        go_wp2_with fail
        refine (CSX.out _ _ _ (HS.out _ H12.out.1) H12.out.2.1).mono ?_
        rintro e w13 ⟨rfl, hb13⟩
        have H13 := Lib.hid (HF.out _ (H12.out.below (Nat.le_of_eq hsz1.symm) hb13).1)
        clear hb13
        have her := HER.out
        by_cases h0 : mo.size = 0
        · rw [if_pos h0] at her
          obtain rfl : mo = ⟨#[]⟩ := by
            obtain ⟨⟨l⟩⟩ := mo
            have : l = [] := List.length_eq_zero_iff.1 h0
            subst this
            rfl
          subst her
          clear h0
          go_wp2_with fail
          go_returns
          exact ⟨rfl, H13.out⟩
        · rw [if_neg h0] at her
          subst her
          have hq := str_nil mo
          rw [decide_eq_false h0] at hq
          clear h0
          go_wp2_with fail
          go_returns
          exact ⟨rfl, H13.out⟩
end Go.Proofs.Ytopfpfpefljkkaa
