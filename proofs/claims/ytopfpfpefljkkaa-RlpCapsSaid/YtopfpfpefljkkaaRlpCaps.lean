/- The law RlpCaps. -/
import Derived.Test.YtopfpfpefljkkaaRlpCapsP
namespace Go.Proofs.Ytopfpfpefljkkaa
open Go.RowKit
set_option linter.unusedVariables false
set_option linter.unusedSimpArgs false

set_option maxRecDepth 100000 in
set_option maxHeartbeats 8000000 in
theorem rlp_caps (x : Rose IL) (v : Value) (n : Int) (w : World) (h : ISubs w v x.sub ∧ x.lab.text.length ≤ maxLen) (hnw : (Lit.int .u8 n).wf = true) :
    Calls Try.prog 4 #[.agg #[.string (txt x.lab), .bool x.lab.list, v], .int .u8 n] w fun e w' => e = .returned (.bool true) ∧ Below w.heap.size w w' := by
  have hn0 : 0 ≤ n := by simp [Lit.wf, IntKind.min, IntKind.max, IntKind.signed, IntKind.bits] at hnw; omega
  have hn1 : n < 256 := by simp [Lit.wf, IntKind.min, IntKind.max, IntKind.signed, IntKind.bits] at hnw; omega
  clear hnw
  obtain ⟨hv, hxl⟩ := h
  have HW := Lib.hid (box_item (T := txt x.lab) (l := x.lab.list) (t := IT) hv)
  obtain ⟨oa, cap, rfl, hcap, hml⟩ := ISubsQ.slice hv
  obtain ⟨g, hg⟩ : ∃ g, w.heap.size = g := ⟨_, rfl⟩
  have HXL := Lib.hid hxl
  obtain ⟨M, hM⟩ : ∃ M, x.sub.length = M := ⟨_, rfl⟩
  rw [hg] at HW ⊢
  rw [hM] at HW ⊢
  have HM := Lib.hid hM
  clear hv hcap hml hxl hM
  go_enter Try.func4, Try.ntmps4
  go_upto_region 1 with fail
  generalize w.alloc (.cells #[.string (txt x.lab), .bool x.lab.list, .slice oa M cap] IT) = w1 at *
  obtain ⟨hb1, ht1, hsz, c0, c1, c2, hB1⟩ := HW.out _ rfl
  have hsz1 : w1.heap.size = g + 1 := hsz
  have HC : Hid (∀ W, Below (g + 1) w1 W → Below (g + 1) w1 W ∧ W.cell? ⟨g, 0, none⟩ = some (.string (txt x.lab)) ∧ W.cell? ⟨g, 1, none⟩ = some (.bool x.lab.list) ∧ W.cell? ⟨g, 2, none⟩ = some (.slice oa M cap)) := Lib.hid fun W hb =>
    ⟨hb, (hb.cell (p := ⟨g, 0, none⟩) (Nat.lt_succ_self g)).trans c0, (hb.cell (p := ⟨g, 1, none⟩) (Nat.lt_succ_self g)).trans c1, (hb.cell (p := ⟨g, 2, none⟩) (Nat.lt_succ_self g)).trans c2⟩
  have HF : Hid (∀ W, Below (g + 1) w1 W → Below g w W) := Lib.hid fun W hb => hb1.trans (hb.mono (by omega))
  have HS : Hid (∀ W, Below (g + 1) w1 W → ISubs W (.slice oa M cap) x.sub) := Lib.hid fun W hb => Shape.Subs.below ht1 (hsz1 ▸ hb)
  have HZ : Hid (∀ W W', Below (g + 1) w1 W → Below W.heap.size W W' → Below (g + 1) w1 W') := Lib.hid fun W W' hb hb' => hb.trans (hb'.mono (by have := hb.size; omega))
  have HR1 : Hid (Below (g + 1) w1 w1) := Lib.hid (Below.refl _ _)
  clear HW hb1 ht1 hsz hB1
  have CA := Lib.hid rlp_alive
  go_wp2_with fail
  refine (CA.out _).mono ?_
  rintro e w2 ⟨rfl, hb2⟩
  have H2 := Lib.hid (HZ.out _ _ HR1.out hb2)
  obtain ⟨_, c0, c1, c2⟩ := HC.out _ H2.out
  clear hb2
  have CG := Lib.hid (ilaw_great x w2 _ (HS.out _ H2.out) HXL.out)
  cases hgr : greatI x with
  | true =>
    rw [hgr] at CG
    go_wp2_with fail
    refine CG.out.mono ?_
    rintro e w3 ⟨rfl, hb3⟩
    have H3 := Lib.hid (HF.out _ (HZ.out _ _ H2.out hb3))
    clear hb3
    go_wp2_with fail
    go_returns
    exact ⟨rfl, H3.out⟩
  | false =>
    obtain ⟨hct, hen, htl⟩ := great_enc hgr
    rw [hgr] at CG
    have HEN := Lib.hid hen
    go_wp2_with fail
    refine CG.out.mono ?_
    rintro e w3 ⟨rfl, hb3⟩
    have H3 := Lib.hid (HZ.out _ _ H2.out hb3)
    obtain ⟨_, c0, c1, c2⟩ := HC.out _ H3.out
    clear hb3 CG
    have CM := Lib.hid (fun W (hb : Below (g + 1) w1 W) => Calls.chain (idoc_may x W _ (HS.out _ hb) (by omega)) (fun W' hb' => HZ.out W W' hb hb'))
    cases hmy : mayI x with
    | false =>
      rw [hmy] at CM
      go_wp2_with fail
      refine (CM.out _ H3.out).mono ?_
      rintro e w5 ⟨rfl, hb5⟩
      have H5 := Lib.hid (HF.out _ hb5)
      clear hb5
      go_wp2_with fail
      go_returns
      exact ⟨rfl, H5.out⟩
    | true =>
      obtain ⟨S, hS⟩ : ∃ S : ByteArray, ⟨(enc x).toArray⟩ = S := ⟨_, rfl⟩
      have hSs : S.size = (enc x).length := by rw [← hS, size_mk]
      have hSl : S.data.toList = enc x := by rw [← hS]
      obtain ⟨hmr, hmd, hmc⟩ := may_parts hmy
      rw [hmy] at CM
      have hS1 : S.size ≤ 100000 := by omega
      have CD := Lib.hid (fun W (hb : Below (g + 1) w1 W) => Calls.chain (idoc_deep x W _ (HS.out _ hb) (by omega)) (fun W' hb' => HZ.out W W' hb hb'))
      have CC := Lib.hid (fun W (hb : Below (g + 1) w1 W) => Calls.chain (idoc_count x W _ (HS.out _ hb) (by omega)) (fun W' hb' => HZ.out W W' hb hb'))
      have CR := Lib.hid (fun W (hb : Below (g + 1) w1 W) => Calls.chain (ref_put x W _ (HS.out _ hb) hen (by omega) hmr) (fun W' hb' => HZ.out W W' hb hb'))
      rw [hS] at CR
      have hwf : ∀ n : Nat, n ≤ 2000 → (Lit.int .i64 (n : Int)).wf = true := fun n hn => by
        simp [Lit.wf, IntKind.min, IntKind.max, IntKind.signed, IntKind.bits]; omega
      have CGE : Hid (∀ (W : World) (k m E : Nat), Below (g + 1) w1 W → k ≤ 16 → m ≤ 1024 → Bad k x.deep m x.count E → Calls Try.prog 14 #[.string S, .int .i64 (k : Nat), .int .i64 (m : Nat)] W fun e W' => e = .returned (.tuple #[.agg #[.string ⟨#[]⟩, .bool false, .slice none 0 0], .int .i64 (E : Nat)]) ∧ Below (g + 1) w1 W') := Lib.hid fun W k m E hb hk hm hbad => by
        have := rlp_get (k : Nat) (m : Nat) k m (by omega) (by omega) S W hS1 (hwf _ (by omega)) (hwf _ (by omega))
        rw [hSl, get_caps hmy hen hbad] at this
        exact this.mono fun e W' h => ⟨h.1, HZ.out _ _ hb h.2⟩
      have CG2 : Hid (∀ W, Below (g + 1) w1 W → Calls Try.prog 14 #[.string S, .int .i64 (x.deep : Nat), .int .i64 (x.count : Nat)] W fun e W' => ∃ ou cu, e = .returned (.tuple #[.agg #[.string (txt x.lab), .bool x.lab.list, .slice ou M cu], .int .i64 0]) ∧ Below (g + 1) w1 W') := Lib.hid fun W hb => by
        have := rlp_get (x.deep : Nat) (x.count : Nat) x.deep x.count (by omega) (by omega) S W hS1 (hwf _ (by omega)) (hwf _ (by omega))
        rw [hSl, get_put hmy hen (Nat.le_refl x.deep) (Nat.le_refl x.count)] at this
        refine this.mono fun e W' ⟨u, h1, h2, h3⟩ => ?_
        obtain ⟨ou, cu, rfl, _, _⟩ := h2.slice
        rw [HM.out] at h1
        exact ⟨ou, cu, h1, HZ.out _ _ hb h3⟩
      have hdp := Rose.deep_pos x
      have hcp := Rose.count_pos x
      simp only [Bad] at CGE
      have CG6 : Hid (∀ (W : World) (k : Nat), Below (g + 1) w1 W → k < x.deep → Calls Try.prog 14 #[.string S, .int .i64 (k : Nat), .int .i64 1024] W fun e W' => e = .returned (.tuple #[.agg #[.string ⟨#[]⟩, .bool false, .slice none 0 0], .int .i64 6]) ∧ Below (g + 1) w1 W') := Lib.hid fun W k hb hk =>
        CGE.out W k 1024 6 hb (by omega) (by omega) (.inl ⟨rfl, hk, hmc⟩)
      have CG4 : Hid (∀ (W : World) (k : Nat), Below (g + 1) w1 W → k < x.count → Calls Try.prog 14 #[.string S, .int .i64 16, .int .i64 (k : Nat)] W fun e W' => e = .returned (.tuple #[.agg #[.string ⟨#[]⟩, .bool false, .slice none 0 0], .int .i64 4]) ∧ Below (g + 1) w1 W') := Lib.hid fun W k hb hk =>
        CGE.out W 16 k 4 hb (by omega) (by omega) (.inr ⟨rfl, hmd, hk⟩)
      clear CGE
      have hcut : ∀ d : Nat, 0 < d → d ≤ 2000 → ∃ k : Nat, wrap64 ((d : Int) - 1 - n % (d : Int)) = (k : Int) ∧ k < d := fun d h0 h1 => by
        have a1 := Int.emod_nonneg n (show (d : Int) ≠ 0 by omega)
        have a2 := Int.emod_lt_of_pos n (show (0 : Int) < d by omega)
        refine ⟨((d : Int) - 1 - n % (d : Int)).toNat, ?_, by omega⟩
        unfold wrap64
        omega
      have HAL : Hid (∀ (W : World) (o : Obj), Below (g + 1) w1 W → Below (g + 1) w1 (W.alloc o)) := Lib.hid fun W o hb => HZ.out _ _ hb ((Below.refl _ _).alloc (Nat.le_refl _) _)
      have HD1 := Lib.hid (hcut x.deep (Rose.deep_pos x) (by omega))
      have HC1 := Lib.hid (hcut x.count (Rose.count_pos x) (by omega))
      clear hcut
      clear hS hSs hSl hmr hwf htl hen
      generalize x.deep = dp at *
      generalize x.count = ct at *
      go_wp2_with fail
      refine (CM.out _ H3.out).mono ?_
      rintro e w5 ⟨rfl, hb5⟩
      have H5 := Lib.hid hb5
      obtain ⟨_, c0, c1, c2⟩ := HC.out _ H5.out
      clear hb5
      go_wp2_with fail
      refine (CR.out _ H5.out).mono ?_
      rintro e w6 ⟨rfl, hb6⟩
      have H6 := Lib.hid hb6
      obtain ⟨_, c0, c1, c2⟩ := HC.out _ H6.out
      clear hb6
      go_upto_region 6 with fail
      have hb0 := H6.out.drew
      have hS0 := HC.out _ hb0
      go_region_held3 (fun W => Below (g + 1) w1 W ∧ W.cell? ⟨g, 0, none⟩ = some (.string (txt x.lab)) ∧ W.cell? ⟨g, 1, none⟩ = some (.bool x.lab.list) ∧ W.cell? ⟨g, 2, none⟩ = some (.slice oa M cap))
        (first | assumption | exact hS0 | exact HC.out _ hbd | exact HC.out _ hbk)
        (first
          | (go_at_call 20; refine (CD.out _ hb0).mono ?_; rintro e wd ⟨rfl, hbd⟩)
          | (go_at_call 21; refine (CC.out _ hbd).mono ?_; rintro e wk ⟨rfl, hbk⟩))
      have H8 := Lib.hid hbk
      clear hb0 hS0 hbd hbk
      obtain ⟨_, c0, c1, c2⟩ := HC.out _ H8.out
      go_wp2_with fail
      obtain ⟨k1, hk1, hk1d⟩ := HD1.out
      rw [hk1]
      clear hk1 HD1
      refine (CG6.out _ k1 H8.out hk1d).mono ?_
      rintro e w9 ⟨rfl, hb9⟩
      have H9 := Lib.hid hb9
      clear hb9
      go_wp2_with fail
      obtain ⟨k2, hk2, hk2d⟩ := HC1.out
      rw [hk2]
      clear hk2 HC1
      refine (CG4.out _ k2 (HAL.out _ _ H9.out) hk2d).mono ?_
      rintro e w10 ⟨rfl, hb10⟩
      have H10 := Lib.hid hb10
      clear hb10
      go_wp2_with fail
      refine (CG2.out _ (HAL.out _ _ H10.out)).mono ?_
      rintro e w11 ⟨ou, cu, rfl, hb11⟩
      have H11 := Lib.hid (HF.out _ (HAL.out _ (.cells #[.string (txt x.lab), .bool x.lab.list, .slice ou M cu] IT) hb11))
      clear hb11
      go_wp2_with fail
      go_returns
      exact ⟨rfl, H11.out⟩
end Go.Proofs.Ytopfpfpefljkkaa
