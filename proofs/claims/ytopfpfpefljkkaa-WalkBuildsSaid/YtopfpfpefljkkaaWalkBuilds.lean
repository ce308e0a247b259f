/- The law WalkBuilds. -/
import Derived.Test.YtopfpfpefljkkaaDocBuild
import Derived.Test.YtopfpfpefljkkaaWalkOf2
import Derived.Test.YtopfpfpefljkkaaWalkBytes
namespace Go.Proofs.Ytopfpfpefljkkaa
open Go.RowKit
set_option linter.unusedVariables false
set_option linter.unusedSimpArgs false

theorem toks_ge (x : Rose IL) : x.all iright = true → x.count ≤ (toks x).length ∧ tsz x = totT (toks x) := by
  refine Rose.ind (P := fun x => x.all iright = true → x.count ≤ (toks x).length ∧ tsz x = totT (toks x)) (fun a s ih => ?_) x
  have hL : ∀ (s : List (Rose IL)), (∀ x, x ∈ s → x.all iright = true → x.count ≤ (toks x).length ∧ tsz x = totT (toks x)) → Rose.allL iright s = true → Rose.countL s ≤ (toksL s).length ∧ tszL s = totT (toksL s) := by
    intro s
    induction s with
    | nil => intro _ _; simp [Rose.countL, toksL, tszL, totT]
    | cons x s ih =>
      intro h hs
      simp only [Rose.allL, Bool.and_eq_true] at hs
      have h1 := h x List.mem_cons_self hs.1
      have h2 := ih (fun y hy => h y (List.mem_cons_of_mem _ hy)) hs.2
      rw [toksL_cons]
      simp only [Rose.countL, tszL, List.length_append]
      refine ⟨by omega, ?_⟩
      unfold totT at h1 h2 ⊢
      rw [List.map_append, List.sum_append]
      omega
  intro h
  simp only [Rose.all, Bool.and_eq_true, iright, irightK] at h
  rw [tsz_node]
  simp only [Rose.count]
  cases hl : a.list with
  | false =>
    rw [hl] at h
    simp only [Bool.false_eq_true, if_false, decide_eq_true_eq] at h
    have hs : s = [] := List.length_eq_zero_iff.1 h.1
    subst hs
    rw [toks_word (x := .node a []) hl]
    simp [Rose.countL, tszL, totT, tWord, txt_size]
  | true =>
    rw [hl] at h
    simp only [if_true] at h
    have h2 := hL s ih h.2
    have h3 : a.text.length = 0 := by have := h.1; rw [List.isEmpty_iff] at this; rw [this]; rfl
    rw [toks_list (x := .node a s) hl]
    simp only [Rose.sub_node, List.length_cons, List.length_append, List.length_nil]
    refine ⟨by omega, ?_⟩
    rw [h3, h2.2]
    simp only [totT, tOpen, tShut, List.map_cons, List.map_append, List.map_nil, List.sum_cons, List.sum_append, List.sum_nil]
    show 0 + _ = 0 + (_ + (0 + 0))
    omega
theorem doc_bounds {T : List Tk} {y : Rose IL} (h : docB T = some y) (hg : greatT T = false) : y.count ≤ 1500 ∧ (enc y).length ≤ 100000 ∧ y.lab.text.length ≤ 6000 ∧ y.all iright = true := by
  obtain ⟨rfl, hr, _⟩ := doc_spec h
  unfold greatT at hg
  simp only [Bool.or_eq_false_iff, decide_eq_false_iff_not] at hg
  obtain ⟨h1, h2⟩ := toks_ge y hr
  have := enc_le y (by omega)
  refine ⟨by omega, by omega, ?_, hr⟩
  cases y with
  | node a s => rw [tsz_node] at h2; simp only [Rose.lab_node]; omega
def zI : Rose IL := .node ⟨[], false⟩ []
theorem of_cc (T : List Tk) (w : World) (v : Value) (h : RdG tkf 2 w v T) (hT : T.length ≤ 100000) : Calls Try.prog 32 #[v] w (TkPost T w) :=
  (law_of T w v h hT).mono fun e w' ⟨u, h1, h2, h3⟩ => by
    obtain ⟨o, c, rfl⟩ := h2.slice
    exact ⟨o, c, h1, h2.rd tkf_len, h3⟩
/-- What is known from a call on. -/
structure WuI (B : Nat) (w1 : World) (v : Value) (L : List Tk) (W : World) : Prop where
  bel : Below B w1 W
  rd : RdG tkf 2 W v L
theorem WuI.below {B : Nat} {w1 : World} {v : Value} {L : List Tk} {W W' : World} (h : WuI B w1 v L W) (hB : B ≤ w1.heap.size) (hb : Below W.heap.size W W') : WuI B w1 v L W' :=
  ⟨h.bel.trans (hb.mono (Nat.le_trans hB h.bel.size)), h.rd.below hb⟩

set_option maxRecDepth 100000 in
set_option maxHeartbeats 8000000 in
theorem walk_builds (T : List Tk) (v : Value) (w : World) (h : RdG tkf 2 w v T) (htx : ∀ t, t ∈ T → t.text.size ≤ maxLen) (hTm : T.length ≤ maxLen) :
    Calls Try.prog 8 #[v] w fun e w' => e = .returned (.bool true) ∧ Below w.heap.size w w' := by
  obtain ⟨oa, cap, rfl⟩ := h.slice
  obtain ⟨N, hN⟩ : ∃ N, T.length = N := ⟨_, rfl⟩
  have HR := Lib.hid h
  have HN := Lib.hid hN
  have HTX := Lib.hid htx
  obtain ⟨g, hg⟩ : ∃ g, w.heap.size = g := ⟨_, rfl⟩
  have hg0 : g ≤ w.heap.size := Nat.le_of_eq hg.symm
  have CG := Lib.hid (fun W (hr : RdG tkf 2 W (.slice oa T.length cap) T) => law_tgreat T W _ hr htx (by unfold maxLen at hTm; omega))
  rw [hN] at HR CG ⊢
  rw [hg]
  have H0 : Hid (WuI g w (.slice oa N cap) T w) := Lib.hid ⟨Below.refl _ _, HR.out⟩
  clear h htx hN hTm
  have CA := Lib.hid walk_alive
  go_enter Try.func8, Try.ntmps8
  go_wp2_with fail
  refine (CA.out _).mono ?_
  rintro e w2 ⟨rfl, hb2⟩
  have H2 := Lib.hid (H0.out.below hg0 hb2)
  clear hb2
  have CG2 := Lib.hid (CG.out _ H2.out.rd)
  cases hgr : greatT T with
  | true =>
    rw [hgr] at CG2
    go_wp2_with fail
    refine CG2.out.mono ?_
    rintro e w3 ⟨rfl, rfl⟩
    go_wp2_with fail
    go_returns
    exact ⟨rfl, H2.out.bel⟩
  | false =>
    rw [hgr] at CG2
    have hgr' := hgr
    unfold greatT at hgr'
    simp only [Bool.or_eq_false_iff, decide_eq_false_iff_not] at hgr'
    have hTl : T.length ≤ 100000 := by omega
    have hN6 : N ≤ 100000 := by rw [← HN.out]; exact hTl
    have CO := Lib.hid (fun W u (hr : RdG tkf 2 W u T) => of_cc T W u hr hTl)
    have CB := Lib.hid (fun W u (hr : RdG tkf 2 W u T) => walk_build T W u hr hTl HTX.out)
    have CD := Lib.hid (fun W u (hr : RdG tkf 2 W u T) => doc_build T hTl HTX.out W u hr)
    have CU := Lib.hid (fun W u (hr : RdG tkf 2 W u T) => walk_put T W u hr hTl HTX.out (fun y hy => by
      rw [build_doc] at hy
      cases hd : docB T with
      | none => rw [hd] at hy; cases hy
      | some z =>
        rw [hd] at hy
        simp only at hy
        split at hy
        · cases hy; exact (doc_bounds hd hgr).2.1
        · cases hy))
    have CS := Lib.hid (fun x y W u u' h1 h2 => idoc_same x y W u u' h1 h2)
    unfold BuildPost at CB
    unfold WPutPost at CU
    unfold DocPost at CD
    unfold TkPost at CO
    rw [build_doc] at CB CU
    rw [HN.out] at CO
    clear hgr' hTl
    cases hd : docB T with
    | none =>
      simp only [hd] at CB CU CD
      clear hd hgr
      go_wp2_with fail
      refine CG2.out.mono ?_
      rintro e w3 ⟨rfl, rfl⟩
      go_wp2_with fail
      refine (CO.out _ _ H2.out.rd).mono ?_
      rintro e w4 ⟨o4, c4, rfl, hr4, hb4⟩
      have H4 := Lib.hid (H2.out.below hg0 hb4)
      have HR4 := Lib.hid hr4
      clear hr4 hb4
      go_wp2_with fail
      refine (CB.out _ _ HR4.out).mono ?_
      rintro e w5 ⟨rfl, hb5⟩
      have H5 := Lib.hid (H4.out.below hg0 hb5)
      have hz5 : ISubs w5 (.slice none 0 0) zI.sub := subs_nil _ _
      have HGX := Lib.hid (gotc_a (T := ⟨#[]⟩) (l := false) H5.out.bel hg0 hz5)
      have HRX := Lib.hid (H5.out.rd.below ((Below.refl _ w5).alloc (Nat.le_refl _) (.cells #[.string ⟨#[]⟩, .bool false, .slice none 0 0] IT)))
      clear hb5 hz5 HR4 H4 H5
      go_upto_region 6 with fail
      generalize w5.alloc _ = w6 at *
      generalize w5.heap.size = gx at *
      go_wp2_with fail
      refine (CO.out _ _ HRX.out).mono ?_
      rintro e w7 ⟨o7, c7, rfl, hr7, hb7⟩
      have HGX7 := Lib.hid (HGX.out.below hg0 hb7)
      have HRX7 := Lib.hid (HRX.out.below hb7)
      have HR7 := Lib.hid hr7
      clear hr7 hb7
      go_wp2_with fail
      refine (CU.out _ _ HR7.out).mono ?_
      rintro e w8 ⟨rfl, hb8⟩
      have HGX8 := Lib.hid (HGX7.out.below hg0 hb8)
      have HRX8 := Lib.hid (HRX7.out.below hb8)
      clear hb8
      go_wp2_with fail
      refine (CD.out _ _ HRX8.out).mono ?_
      rintro e w9 ⟨rfl, hb9⟩
      have HGX9 := Lib.hid (HGX8.out.below hg0 (hb9.alloc hb9.size (.cells #[.string ⟨#[]⟩, .bool false, .slice none 0 0] IT)))
      clear hb9
      go_upto_region 8 with fail
      generalize w9.alloc _ = w10 at *
      have HGXF := HGX9
      go_upto_region 9 with fail
      obtain ⟨_, hx, a0, a1, a2, _⟩ := HGXF.out
      have CZ := Lib.hid (CS.out zI zI _ _ _ hx ((subs_nil _ _ : ISubs _ (.slice none 0 0) zI.sub)))
      rw [isame_refl] at CZ
      have CZ : Hid (Calls Try.prog 13 #[.agg #[.string ⟨#[]⟩, .bool false, .slice none 0 0], .agg #[.string ⟨#[]⟩, .bool false, .slice none 0 0]] _ fun e w' => e = .returned (.bool true) ∧ Below _ _ w') := CZ
      go_wp2_with fail
      refine CZ.out.mono ?_
      rintro e wz ⟨rfl, hbz⟩
      have HF := Lib.hid (HGXF.out.below hg0 hbz).1
      clear hbz
      go_wp2_with fail
      go_returns
      exact ⟨rfl, HF.out⟩
    | some y =>
      obtain ⟨hyc, hye, hyt, hyr⟩ := doc_bounds hd hgr
      have CM := Lib.hid (fun W u (hu : ISubs W u y.sub) => idoc_may y W u hu (by omega))
      obtain ⟨M, hM⟩ : ∃ M, y.sub.length = M := ⟨_, rfl⟩
      have HM := Lib.hid hM
      cases hmy : mayI y with
      | false =>
        simp only [hd, hmy, Bool.false_eq_true, if_false] at CB CU CD
        rw [hmy] at CM
        rw [hM] at CD
        clear hd hgr hyc hye hyt hyr hmy hM
        go_wp2_with fail
        refine CG2.out.mono ?_
        rintro e w3 ⟨rfl, rfl⟩
        go_wp2_with fail
        refine (CO.out _ _ H2.out.rd).mono ?_
        rintro e w4 ⟨o4, c4, rfl, hr4, hb4⟩
        have H4 := Lib.hid (H2.out.below hg0 hb4)
        have HR4 := Lib.hid hr4
        clear hr4 hb4
        go_wp2_with fail
        refine (CB.out _ _ HR4.out).mono ?_
        rintro e w5 ⟨rfl, hb5⟩
        have H5 := Lib.hid (H4.out.below hg0 hb5)
        have hz5 : ISubs w5 (.slice none 0 0) zI.sub := subs_nil _ _
        have HGX := Lib.hid (gotc_a (T := ⟨#[]⟩) (l := false) H5.out.bel hg0 hz5)
        have HRX := Lib.hid (H5.out.rd.below ((Below.refl _ w5).alloc (Nat.le_refl _) (.cells #[.string ⟨#[]⟩, .bool false, .slice none 0 0] IT)))
        clear hb5 hz5 HR4 H4 H5
        go_upto_region 6 with fail
        generalize w5.alloc _ = w6 at *
        generalize w5.heap.size = gx at *
        go_wp2_with fail
        refine (CO.out _ _ HRX.out).mono ?_
        rintro e w7 ⟨o7, c7, rfl, hr7, hb7⟩
        have HGX7 := Lib.hid (HGX.out.below hg0 hb7)
        have HRX7 := Lib.hid (HRX.out.below hb7)
        have HR7 := Lib.hid hr7
        clear hr7 hb7
        go_wp2_with fail
        refine (CU.out _ _ HR7.out).mono ?_
        rintro e w8 ⟨rfl, hb8⟩
        have HGX8 := Lib.hid (HGX7.out.below hg0 hb8)
        have HRX8 := Lib.hid (HRX7.out.below hb8)
        clear hb8
        go_wp2_with fail
        refine (CD.out _ _ HRX8.out).mono ?_
        rintro e w9 ⟨o9, c9, rfl, hu9, _, hb9⟩
        have HGX9 := Lib.hid (HGX8.out.below hg0 (hb9.alloc hb9.size (.cells #[.string (txt y.lab), .bool y.lab.list, .slice o9 M c9] IT)))
        have HGY9 := Lib.hid (gotc_a (T := txt y.lab) (l := y.lab.list) (HGX8.out.below hg0 hb9).1 hg0 hu9)
        clear hb9 hu9
        go_upto_region 8 with fail
        generalize w9.alloc _ = w10 at *
        generalize w9.heap.size = gy at *
        obtain ⟨_, hy10, b0, b1, b2, _⟩ := HGY9.out
        go_wp2_with fail
        refine (CM.out _ _ hy10).mono ?_
        rintro e w11 ⟨rfl, hb11⟩
        have HGXF := Lib.hid (HGX9.out.below hg0 hb11)
        clear hb11 hy10 b0 b1 b2 HGY9
        go_upto_region 9 with fail
        obtain ⟨_, hx, a0, a1, a2, _⟩ := HGXF.out
        have CZ := Lib.hid (CS.out zI zI _ _ _ hx ((subs_nil _ _ : ISubs _ (.slice none 0 0) zI.sub)))
        rw [isame_refl] at CZ
        have CZ : Hid (Calls Try.prog 13 #[.agg #[.string ⟨#[]⟩, .bool false, .slice none 0 0], .agg #[.string ⟨#[]⟩, .bool false, .slice none 0 0]] _ fun e w' => e = .returned (.bool true) ∧ Below _ _ w') := CZ
        go_wp2_with fail
        refine CZ.out.mono ?_
        rintro e wz ⟨rfl, hbz⟩
        have HF := Lib.hid (HGXF.out.below hg0 hbz).1
        clear hbz
        go_wp2_with fail
        go_returns
        exact ⟨rfl, HF.out⟩
      | true =>
        have CR := Lib.hid (fun W u (hu : ISubs W u y.sub) => ref_put y W u hu hye (by omega) hyr)
        simp only [hd, hmy, if_true] at CB CU CD
        rw [hmy] at CM
        rw [hM] at CD CB
        obtain ⟨S, hS⟩ : ∃ S : ByteArray, ⟨(enc y).toArray⟩ = S := ⟨_, rfl⟩
        rw [hS] at CR CU
        clear hd hgr hyc hye hyt hyr hmy hM hS
        go_wp2_with fail
        refine CG2.out.mono ?_
        rintro e w3 ⟨rfl, rfl⟩
        go_wp2_with fail
        refine (CO.out _ _ H2.out.rd).mono ?_
        rintro e w4 ⟨o4, c4, rfl, hr4, hb4⟩
        have H4 := Lib.hid (H2.out.below hg0 hb4)
        have HR4 := Lib.hid hr4
        clear hr4 hb4
        go_wp2_with fail
        refine (CB.out _ _ HR4.out).mono ?_
        rintro e w5 ⟨o5, c5, rfl, hu5, _, hb5⟩
        have H5 := Lib.hid (H4.out.below hg0 hb5)
        have HGX := Lib.hid (gotc_a (T := txt y.lab) (l := y.lab.list) H5.out.bel hg0 hu5)
        have HRX := Lib.hid (H5.out.rd.below ((Below.refl _ w5).alloc (Nat.le_refl _) (.cells #[.string (txt y.lab), .bool y.lab.list, .slice o5 M c5] IT)))
        clear hb5 hu5 HR4 H4 H5
        go_upto_region 6 with fail
        generalize w5.alloc _ = w6 at *
        generalize w5.heap.size = gx at *
        go_wp2_with fail
        refine (CO.out _ _ HRX.out).mono ?_
        rintro e w7 ⟨o7, c7, rfl, hr7, hb7⟩
        have HGX7 := Lib.hid (HGX.out.below hg0 hb7)
        have HRX7 := Lib.hid (HRX.out.below hb7)
        have HR7 := Lib.hid hr7
        clear hr7 hb7
        go_wp2_with fail
        refine (CU.out _ _ HR7.out).mono ?_
        rintro e w8 ⟨rfl, hb8⟩
        have HGX8 := Lib.hid (HGX7.out.below hg0 hb8)
        have HRX8 := Lib.hid (HRX7.out.below hb8)
        clear hb8
        go_wp2_with fail
        refine (CD.out _ _ HRX8.out).mono ?_
        rintro e w9 ⟨o9, c9, rfl, hu9, _, hb9⟩
        have HGX9 := Lib.hid (HGX8.out.below hg0 (hb9.alloc hb9.size (.cells #[.string (txt y.lab), .bool y.lab.list, .slice o9 M c9] IT)))
        have HGY9 := Lib.hid (gotc_a (T := txt y.lab) (l := y.lab.list) (HGX8.out.below hg0 hb9).1 hg0 hu9)
        clear hb9 hu9
        go_upto_region 8 with fail
        generalize w9.alloc _ = w10 at *
        generalize w9.heap.size = gy at *
        obtain ⟨_, hy10, b0, b1, b2, _⟩ := HGY9.out
        go_wp2_with fail
        refine (CM.out _ _ hy10).mono ?_
        rintro e w11 ⟨rfl, hb11⟩
        have HGX11 := Lib.hid (HGX9.out.below hg0 hb11)
        have HGY11 := Lib.hid (HGY9.out.below hg0 hb11)
        clear hb11 hy10 b0 b1 b2
        obtain ⟨_, hx11, a0, a1, a2, _⟩ := HGX11.out
        obtain ⟨_, hy11, b0, b1, b2, _⟩ := HGY11.out
        have CZ := Lib.hid (CS.out y y _ _ _ hx11 hy11)
        rw [isame_refl] at CZ
        go_wp2_with fail
        refine CZ.out.mono ?_
        rintro e w12 ⟨rfl, hb12⟩
        have HGX12 := Lib.hid (HGX11.out.below hg0 hb12)
        have HGY12 := Lib.hid (HGY11.out.below hg0 hb12)
        clear hb12 hx11 hy11 a0 a1 a2 b0 b1 b2
        obtain ⟨_, hy12, b0, b1, b2, _⟩ := HGY12.out
        go_wp2_with fail
        refine (CR.out _ _ hy12).mono ?_
        rintro e w13 ⟨rfl, hb13⟩
        have HF := Lib.hid (HGX12.out.below hg0 hb13).1
        clear hb13
        go_wp2_with fail
        go_returns
        exact ⟨rfl, HF.out⟩
end Go.Proofs.Ytopfpfpefljkkaa
