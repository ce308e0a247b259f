/- The law WalkItems. -/
import Derived.Test.YtopfpfpefljkkaaBuildA
import Derived.Test.YtopfpfpefljkkaaWalkBytes
import Derived.Test.YtopfpfpefljkkaaRlpCuts
namespace Go.Proofs.Ytopfpfpefljkkaa
open Go.RowKit
set_option linter.unusedVariables false
set_option linter.unusedSimpArgs false

theorem toks_text (x : Rose IL) : ∀ t, t ∈ toks x → t.text.size ≤ tsz x := by
  refine Rose.ind (P := fun x => ∀ t, t ∈ toks x → t.text.size ≤ tsz x) (fun a s ih => ?_) x
  have hL : ∀ (s : List (Rose IL)), (∀ x, x ∈ s → ∀ t, t ∈ toks x → t.text.size ≤ tsz x) → ∀ t, t ∈ toksL s → t.text.size ≤ tszL s := by
    intro s
    induction s with
    | nil => intro _ t h; simp [toksL] at h
    | cons x s ih =>
      intro h t ht
      rw [toksL_cons, List.mem_append] at ht
      simp only [tszL]
      rcases ht with ht | ht
      · have := h x List.mem_cons_self t ht; omega
      · have := ih (fun y hy => h y (List.mem_cons_of_mem _ hy)) t ht; omega
  intro t ht
  rw [tsz_node]
  cases hl : a.list with
  | false =>
    rw [toks_word (x := .node a s) hl] at ht
    simp at ht
    subst ht
    simp only [tWord, Rose.lab_node, txt_size]; omega
  | true =>
    rw [toks_list (x := .node a s) hl] at ht
    simp only [Rose.sub_node, List.mem_cons, List.mem_append, List.not_mem_nil, or_false] at ht
    rcases ht with rfl | ht | rfl
    · exact Nat.zero_le _
    · have := hL s ih t ht; omega
    · exact Nat.zero_le _

/-- What is known at the last region. -/
structure WtI (B : Nat) (w1 : World) (gx gy : Nat) (T : ByteArray) (l : Bool) (u uy : Value) (s : List (Rose IL)) (v : Value) (L : List Tk) (W : World) : Prop where
  gx : GotC B w1 T l u s gx W
  gy : GotC B w1 T l uy s gy W
  rd : RdG tkf 2 W v L
theorem WtI.below {B : Nat} {w1 : World} {gx gy : Nat} {T : ByteArray} {l : Bool} {u uy : Value} {s : List (Rose IL)} {v : Value} {L : List Tk} {W W' : World} (h : WtI B w1 gx gy T l u uy s v L W) (hB : B ≤ w1.heap.size) (hb : Below W.heap.size W W') : WtI B w1 gx gy T l u uy s v L W' :=
  ⟨h.gx.below hB hb, h.gy.below hB hb, h.rd.below hb⟩

set_option maxRecDepth 100000 in
set_option maxHeartbeats 8000000 in
theorem walk_items (x : Rose IL) (v : Value) (w : World) (h : ISubs w v x.sub ∧ x.lab.text.length ≤ maxLen) :
    Calls Try.prog 6 #[.agg #[.string (txt x.lab), .bool x.lab.list, v]] w fun e w' => e = .returned (.bool true) ∧ Below w.heap.size w w' := by
  obtain ⟨hv, hxl⟩ := h
  have HW := Lib.hid (box_item (T := txt x.lab) (l := x.lab.list) (t := IT) hv)
  obtain ⟨oa, cap, rfl, hcap, hml⟩ := ISubsQ.slice hv
  obtain ⟨g, hg⟩ : ∃ g, w.heap.size = g := ⟨_, rfl⟩
  have HXL := Lib.hid hxl
  obtain ⟨M, hM⟩ : ∃ M, x.sub.length = M := ⟨_, rfl⟩
  have HM := Lib.hid hM
  have hg0 : g ≤ w.heap.size := Nat.le_of_eq hg.symm
  rw [hg] at HW ⊢
  rw [hM] at HW ⊢
  clear hv hcap hml hxl hM
  go_enter Try.func6, Try.ntmps6
  go_upto_region 1 with fail
  generalize w.alloc (.cells #[.string (txt x.lab), .bool x.lab.list, .slice oa M cap] IT) = w1 at *
  obtain ⟨hb1, ht1, hsz, c0, c1, c2, hB1⟩ := HW.out _ rfl
  have H1 : Hid (GotC g w (txt x.lab) x.lab.list (.slice oa M cap) x.sub g w1) := Lib.hid ⟨hb1, ht1, c0, c1, c2, by omega⟩
  clear HW hb1 ht1 hsz hB1 c0 c1 c2
  have CA := Lib.hid walk_alive
  go_wp2_with fail
  refine (CA.out _).mono ?_
  rintro e w2 ⟨rfl, hb2⟩
  have H2 := Lib.hid (H1.out.below hg0 hb2)
  obtain ⟨_, _, c0, c1, c2, _⟩ := H2.out
  clear hb2
  have CG := Lib.hid (ilaw_great x w2 _ H2.out.2.1 HXL.out)
  cases hgr : greatI x with
  | true =>
    rw [hgr] at CG
    go_wp2_with fail
    refine CG.out.mono ?_
    rintro e w3 ⟨rfl, hb3⟩
    have H3 := Lib.hid (H2.out.below hg0 hb3).1
    clear hb3
    go_wp2_with fail
    go_returns
    exact ⟨rfl, H3.out⟩
  | false =>
    obtain ⟨hct, hen, htl⟩ := great_enc hgr
    have htz : tsz x ≤ 6000 := by unfold greatI at hgr; simp only [Bool.or_eq_false_iff, decide_eq_false_iff_not] at hgr; omega
    have hml : (6000 : Nat) ≤ maxLen := by decide +kernel
    have htx : ∀ t, t ∈ toks x → t.text.size ≤ maxLen := fun t ht => by have := toks_text x t ht; omega
    have hTl : (toks x).length ≤ 100000 := by have := (toks_le x).1; omega
    rw [hgr] at CG
    go_wp2_with fail
    refine CG.out.mono ?_
    rintro e w3 ⟨rfl, hb3⟩
    have H3 := Lib.hid (H2.out.below hg0 hb3)
    obtain ⟨_, _, c0, c1, c2, _⟩ := H3.out
    clear hb3 CG hgr
    have CO := Lib.hid (walk_of x w3 _ H3.out.2.1 HXL.out)
    unfold OfPost at CO
    have CM := Lib.hid (fun W (hu : ISubs W (.slice oa M cap) x.sub) => idoc_may x W _ hu (by omega))
    cases hmy : mayI x with
    | false =>
      rw [hmy] at CM
      simp only [hmy, Bool.false_eq_true, if_false] at CO
      go_wp2_with fail
      refine CO.out.mono ?_
      rintro e w4 ⟨rfl, hb4⟩
      have H4 := Lib.hid (H3.out.below hg0 hb4)
      obtain ⟨_, _, c0, c1, c2, _⟩ := H4.out
      clear hb4
      go_wp2_with fail
      refine (CM.out _ H4.out.2.1).mono ?_
      rintro e w5 ⟨rfl, hb5⟩
      have H5 := Lib.hid (H4.out.below hg0 hb5).1
      clear hb5
      go_wp2_with fail
      go_returns
      exact ⟨rfl, H5.out⟩
    | true =>
      simp only [hmy, if_true] at CO
      obtain ⟨hmr, hmd, hmc⟩ := may_parts hmy
      rw [hmy] at CM
      have CB := Lib.hid (fun W u (hr : RdG tkf 2 W u (toks x)) => walk_build (toks x) W u hr hTl htx)
      have CU := Lib.hid (fun W u (hr : RdG tkf 2 W u (toks x)) => walk_put (toks x) W u hr hTl htx (fun y hy => by rw [build_toks hmy] at hy; cases hy; exact hen))
      have CK := Lib.hid (fun W u (hr : RdG tkf 2 W u (toks x)) => walk_skip x W u hr hTl)
      have CP := Lib.hid (fun W v (h : RdG tkf 2 W v (toks x)) => plain_c (toks x) W v h hTl)
      have CF := Lib.hid (fun W v (h : ISubs W v x.sub) => of_c x W v h (by omega))
      have CS := Lib.hid (fun W v u (h : RdG tkf 2 W v (toks x)) (h2 : RdG tkf 2 W u (toks x)) => law_same (toks x) W v u h h2 hTl)
      have CI := Lib.hid (fun W u u' h1 h2 => idoc_same x x W u u' h1 h2)
      simp only [isame_refl] at CI
      have CR := Lib.hid (fun W u (hu : ISubs W u x.sub) => ref_put x W u hu hen (by omega) hmr)
      unfold BuildPost WPutPost at *
      simp only [build_toks hmy] at CB CU
      unfold TkPost at CP CF
      obtain ⟨S, hS⟩ : ∃ S : ByteArray, ⟨(enc x).toArray⟩ = S := ⟨_, rfl⟩
      obtain ⟨N, hN⟩ : ∃ N, (toks x).length = N := ⟨_, rfl⟩
      rw [hS] at CR CU
      rw [hN] at CP CF CK CO
      rw [HM.out] at CB
      have hN6 : N ≤ 100000 := by omega
      clear hmr hmd hmc hmy hS hN hct hen htl htz hml htx hTl
      go_wp2_with fail
      refine CO.out.mono ?_
      rintro e w4 ⟨o4, c4, rfl, ho4, hb4⟩
      have H4 := Lib.hid (H3.out.below hg0 hb4)
      have HR4 := Lib.hid (ho4.rd tkf_len)
      obtain ⟨_, _, c0, c1, c2, _⟩ := H4.out
      clear hb4 ho4
      go_wp2_with fail
      refine (CM.out _ H4.out.2.1).mono ?_
      rintro e w5 ⟨rfl, hb5⟩
      have H5 := Lib.hid (H4.out.below hg0 hb5)
      have HR5 := Lib.hid (HR4.out.below hb5)
      clear hb5
      go_wp2_with fail
      refine (CB.out _ _ HR5.out).mono ?_
      rintro e w6 ⟨o6, c6, rfl, hs6, hx6, hb6⟩
      have hI : WtI g w g w6.heap.size (txt x.lab) x.lab.list (.slice oa M cap) (.slice o6 M c6) x.sub (.slice o4 N c4) (toks x) (w6.alloc (.cells #[.string (txt x.lab), .bool x.lab.list, .slice o6 M c6] IT)) := by
        have hal := (Below.refl w6.heap.size w6).alloc (Nat.le_refl _) (.cells #[.string (txt x.lab), .bool x.lab.list, .slice o6 M c6] IT)
        have h6 := H5.out.below hg0 hb6
        exact ⟨h6.below hg0 hal, gotc_a h6.1 hg0 hs6, (HR5.out.below hb6).below hal⟩
      have HI := Lib.hid hI
      clear hb6 hs6 hx6 hI
      go_upto_region 9 with fail
      generalize w6.alloc _ = w7 at *
      generalize w6.heap.size = g6 at *
      go_wp2_with fail
      refine (CU.out _ _ HI.out.rd).mono ?_
      rintro e w8 ⟨rfl, hb8⟩
      have HI8 := Lib.hid (HI.out.below hg0 hb8)
      clear hb8
      go_wp2_with fail
      refine (CK.out _ _ HI8.out.rd).mono ?_
      rintro e w9 ⟨rfl, hb9⟩
      have HI9 := Lib.hid (HI8.out.below hg0 hb9)
      clear hb9
      go_upto_region 11 with fail
      have hI0 := HI9.out.below hg0 Below.drewS
      have HS : Hid (∀ W, WtI g w g g6 (txt x.lab) x.lab.list (.slice oa M cap) (.slice o6 M c6) x.sub (.slice o4 N c4) (toks x) W → WtI g w g g6 (txt x.lab) x.lab.list (.slice oa M cap) (.slice o6 M c6) x.sub (.slice o4 N c4) (toks x) W ∧
          (W.cell? ⟨g, 0, none⟩ = some (.string (txt x.lab)) ∧ W.cell? ⟨g, 1, none⟩ = some (.bool x.lab.list) ∧ W.cell? ⟨g, 2, none⟩ = some (.slice oa M cap)) ∧
          (W.cell? ⟨g6, 0, none⟩ = some (.string (txt x.lab)) ∧ W.cell? ⟨g6, 1, none⟩ = some (.bool x.lab.list) ∧ W.cell? ⟨g6, 2, none⟩ = some (.slice o6 M c6))) := Lib.hid fun W h => ⟨h, ⟨h.gx.2.2.1, h.gx.2.2.2.1, h.gx.2.2.2.2.1⟩, h.gy.2.2.1, h.gy.2.2.2.1, h.gy.2.2.2.2.1⟩
      have hS0 := HS.out _ hI0
      go_region_held3 (fun W => WtI g w g g6 (txt x.lab) x.lab.list (.slice oa M cap) (.slice o6 M c6) x.sub (.slice o4 N c4) (toks x) W ∧
          (W.cell? ⟨g, 0, none⟩ = some (.string (txt x.lab)) ∧ W.cell? ⟨g, 1, none⟩ = some (.bool x.lab.list) ∧ W.cell? ⟨g, 2, none⟩ = some (.slice oa M cap)) ∧
          (W.cell? ⟨g6, 0, none⟩ = some (.string (txt x.lab)) ∧ W.cell? ⟨g6, 1, none⟩ = some (.bool x.lab.list) ∧ W.cell? ⟨g6, 2, none⟩ = some (.slice o6 M c6)))
        (first | assumption | exact hS0 | exact HS.out _ (by assumption))
        (first
          | (go_at_call 28; refine (CP.out _ _ hI0.rd).mono ?_; rintro e wd ⟨op, cp, rfl, hpd, hbd⟩; have hId := hI0.below hg0 hbd)
          | (go_at_call 29; refine (CF.out _ _ hId.gx.2.1).mono ?_; rintro e wk ⟨oo, co, rfl, hok, hbk⟩; have hIk := hId.below hg0 hbk; have hpdk := hpd.below hbk)
          | (go_at_call 27; refine (CS.out _ _ _ hpdk hok).mono ?_; rintro e ws ⟨rfl, hbs⟩; have hIs := hIk.below hg0 hbs)
          | (go_at_call 13; refine (CI.out _ _ _ hIs.gx.2.1 hIs.gy.2.1).mono ?_; rintro e wt ⟨rfl, hbt⟩; have hIt := hIs.below hg0 hbt)
          | (go_at_call 19; refine (CR.out _ _ hIt.gx.2.1).mono ?_; rintro e wu ⟨rfl, hbu⟩; have hIu := hIt.below hg0 hbu))
      all_goals
        have HF := Lib.hid hIu.gx.1
        go_wp2_with fail
        go_returns
        exact ⟨rfl, HF.out⟩
end Go.Proofs.Ytopfpfpefljkkaa
