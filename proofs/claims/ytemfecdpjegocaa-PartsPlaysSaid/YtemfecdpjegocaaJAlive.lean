/- Add, whole; alive of hatchwaylaw30. -/
import Derived.Test.YtemfecdpjegocaaJAddNew
import Derived.Test.YtemfecdpjegocaaCut
namespace Go.Proofs.Ytemfecdpjegocaa
open Go.RowKit Go.Maps
set_option linter.unusedVariables false
set_option linter.unusedSimpArgs false

theorem parts_add {B bj bb bo n : Nat} {f : Int → Nat} {most open_ : Int} {w : World} {L : List Pt} (h : JAt B bj bb bo n f most open_ w L) (p : Pt) (hwf : p.wf) (hub : usedL L ≤ 1099511627776) (hmost : 0 ≤ most ∧ most ≤ 1099511627776) (hnn : n ≤ 100000) :
    Calls Try.prog 37 #[.pointer (some ⟨bj, 0, none⟩), .agg p.cs] w (AddJPost B bj bb bo n f most open_ L p w) := by
  by_cases hm : mayP p
  · by_cases hin : p.id ∈ idsL L
    · exact add_there h p hwf hm hin hub hmost hnn
    · exact add_new h p hwf hm hin hub hmost hnn
  · exact add_bad h p hwf hm

/-- A joiner that the call itself made. -/
def JK (B bj n : Nat) (most open_ : Int) (w0 w : World) (L : List Pt) : Prop := ∃ bb bo f, JAt B bj bb bo n f most open_ w L ∧ Below B w0 w
theorem JK.after {B bj n : Nat} {most open_ : Int} {w0 w w' : World} {L : List Pt} (h : JK B bj n most open_ w0 w L) (hb : Below w.heap.size w w') : JK B bj n most open_ w0 w' L := by
  obtain ⟨bb, bo, f, h1, h2⟩ := h
  exact ⟨bb, bo, f, h1.below hb, h2.trans (hb.mono (by have := h1.bd.lt; have := h1.lo.1; omega))⟩
theorem JK.lt {B bj n : Nat} {most open_ : Int} {w0 w : World} {L : List Pt} (h : JK B bj n most open_ w0 w L) : B ≤ bj ∧ bj < w.heap.size := by
  obtain ⟨bb, bo, f, h1, h2⟩ := h
  exact ⟨h1.lo.1, h1.bd.lt⟩
theorem JK.bel {B bj n : Nat} {most open_ : Int} {w0 w : World} {L : List Pt} (h : JK B bj n most open_ w0 w L) : Below B w0 w := let ⟨_, _, _, _, h⟩ := h; h
theorem jk_new (most open_ : Int) (w : World) (h : 0 ≤ most ∧ most ≤ 1073741824 ∧ 1 ≤ open_ ∧ open_ ≤ 32) :
    Calls Try.prog 36 #[.int .i64 most, .int .i64 open_] w fun en w' => en = .returned (.tuple #[.pointer (some ⟨w.heap.size + 2, 0, none⟩), .int .i64 0]) ∧ JK w.heap.size (w.heap.size + 2) 0 most open_ w w' [] :=
  (new_joiner most open_ w h).mono fun en w' ⟨h1, h2, h3⟩ => ⟨h1, _, _, _, h2, h3⟩
theorem OwnJ.lo {B bj bb bo n : Nat} {f : Int → Nat} {most open_ : Int} {w : World} {L : List Pt} (h : JAt B bj bb bo n f most open_ w L) : ∀ b, OwnJ bj bb bo f L b → B ≤ b := by
  rintro b (rfl | rfl | rfl | ⟨i, hi, rfl⟩)
  · exact h.lo.1
  · exact h.lo.2.1
  · exact h.lo.2.2.1
  · exact h.lo.2.2.2 i hi
def JKPost (B bj n : Nat) (most open_ : Int) (w0 w : World) (L : List Pt) (p : Pt) (en : Ending) (w' : World) : Prop :=
  en = .returned (.tuple #[.string (addJ most open_ L p).2.1, .bool (addJ most open_ L p).2.2.1, .int .i64 (addJ most open_ L p).2.2.2]) ∧ JK B bj (n + 1) most open_ w0 w' (addJ most open_ L p).1 ∧ ∃ O : Nat → Prop, (∀ b, O b → B ≤ b ∧ b < w.heap.size) ∧ KpO O w w'
theorem jk_add {B bj n : Nat} {most open_ : Int} {w0 w : World} {L : List Pt} (h : JK B bj n most open_ w0 w L) (p : Pt) (hwf : p.wf) (hub : usedL L ≤ 1099511627776) (hmost : 0 ≤ most ∧ most ≤ 1099511627776) (hnn : n ≤ 100000) :
    Calls Try.prog 37 #[.pointer (some ⟨bj, 0, none⟩), .agg p.cs] w (JKPost B bj n most open_ w0 w L p) := by
  obtain ⟨bb, bo, f, h1, h2⟩ := h
  refine (parts_add h1 p hwf hub hmost hnn).mono fun en w' ⟨f', he, hj, hk⟩ => ⟨he, ⟨bb, bo, f', hj, hk.below h2 (OwnJ.lo h1) ?_⟩, _, fun b hb => ⟨OwnJ.lo h1 b hb, h1.lt b hb⟩, hk⟩
  have := h1.bd.lt; have := h1.lo.1; omega

def al0 : Pt := ⟨7, 0, 2, ⟨#[97, 98]⟩⟩
def al1 : Pt := ⟨7, 1, 2, ⟨#[99]⟩⟩
theorem al_cut : cutL 7 ⟨#[97, 98, 99]⟩ 2 = [al0, al1] := by
  have h1 : chunksN 3 2 = 2 := by decide
  have h2 : (⟨#[97, 98, 99]⟩ : ByteArray).size = 3 := rfl
  unfold cutL
  rw [if_neg (by rw [h2]; decide), h2, h1]
  rfl
theorem al_add1 : addJ 9 1 [] al1 = ([al1], ByteArray.empty, false, 0) := by
  unfold addJ
  rw [if_neg (not_not_intro (by decide)), if_neg (by decide), if_neg (by decide), if_neg (by decide), if_neg (by decide)]
  rfl
theorem al_add2 : addJ 9 1 [al1] al0 = ([], ⟨#[97, 98, 99]⟩, true, 0) := by
  unfold addJ
  rw [if_neg (not_not_intro (by decide)), if_neg (by decide), if_neg (by decide), if_pos (by decide)]
  rfl

theorem wf_al (p : Pt) (h1 : (Lit.int .i64 p.id).wf = true) (h2 : (Lit.int .i64 p.n).wf = true) (h3 : (Lit.int .i64 p.of_).wf = true) (h4 : p.text.size ≤ maxLen) : p.wf := ⟨h1, h2, h3, h4⟩
set_option maxRecDepth 100000 in
set_option maxHeartbeats 2000000 in
theorem parts_alive (w : World) : Calls Try.prog 10 #[] w fun e w' => e = .returned (.bool true) ∧ Below w.heap.size w w' := by
  have CC := Lib.hid (cut_right 7 ⟨#[97, 98, 99]⟩ 2 w (by unfold badCut; omega) (by decide))
  have CN := Lib.hid (fun w => jk_new 9 1 w (by decide))
  obtain ⟨B, hB⟩ : ∃ B, w.heap.size = B := ⟨_, rfl⟩
  go_enter Try.func10, Try.ntmps10
  go_wp2_with fail
  refine CC.out.mono ?_
  rintro e w1 ⟨hb1, ⟨hbig, _⟩ | ⟨_, v, rfl, hown⟩⟩
  · rw [al_cut] at hbig; exact absurd hbig (by decide)
  rw [al_cut] at hown
  obtain ⟨ao, cap, hv⟩ := hown.ps.slice
  have hv2 : v = .slice ao 2 cap := hv
  subst hv2
  have hps := hown.ps
  have hps2 : PS w1 (.slice ao 2 cap) [al0, al1] := hps
  obtain ⟨gp, off, rfl, hgl, p00, p01, p02, p03⟩ := hps2.at_ (i := 0) (by decide)
  obtain ⟨gp', off', he', _, p10, p11, p12, p13⟩ := hps2.at_ (i := 1) (by decide)
  cases he'
  have HP := Lib.hid (And.intro (And.intro p00 (And.intro p01 (And.intro p02 p03))) (And.intro p10 (And.intro p11 (And.intro p12 p13))))
  have hb1' : Hid (Below B w w1) := hB ▸ hb1
  have hs1 : B ≤ w1.heap.size := by have := hb1'.out.size; omega
  clear hv hown hps hps2 hb1 p00 p01 p02 p03 p10 p11 p12 p13 CC
  go_wp2_with fail
  refine (CN.out _).mono ?_
  rintro e w2 ⟨rfl, k2⟩
  have K2 := Lib.hid k2
  clear k2
  obtain ⟨c, hc⟩ : ∃ c, w1.heap.size = c := ⟨_, rfl⟩
  rw [hc] at K2 hs1 hgl ⊢
  have hcell : ∀ w3, Below c w1 w3 → ∀ o x, w1.cell? ⟨gp, o, none⟩ = some x → w3.cell? ⟨gp, o, none⟩ = some x := fun w3 hb o x hx => (hb.cell (p := ⟨gp, o, none⟩) hgl).trans hx
  have q0 : w2.cell? ⟨gp, off + 4, none⟩ = some (.int .i64 7) := hcell _ K2.out.bel _ _ HP.out.2.1
  have q1 : w2.cell? ⟨gp, off + 4 + 1, none⟩ = some (.int .i64 1) := hcell _ K2.out.bel _ _ HP.out.2.2.1
  have q2 : w2.cell? ⟨gp, off + 4 + 2, none⟩ = some (.int .i64 2) := hcell _ K2.out.bel _ _ HP.out.2.2.2.1
  have q3 : w2.cell? ⟨gp, off + 4 + 3, none⟩ = some (.string ⟨#[99]⟩) := hcell _ K2.out.bel _ _ HP.out.2.2.2.2
  have HC := Lib.hid hcell
  clear hcell
  go_wp2_with fail
  have hj1 := jk_add K2.out al1 (wf_al al1 (by decide) (by decide) (by decide) (by decide)) (by decide) (by decide) (by decide)
  unfold JKPost at hj1
  rw [al_add1] at hj1
  refine hj1.mono ?_
  rintro e w3 ⟨rfl, k3, _⟩
  have K3 := Lib.hid k3
  clear k3 hj1 q0 q1 q2 q3
  have q0 : w3.cell? ⟨gp, off, none⟩ = some (.int .i64 7) := HC.out _ K3.out.bel _ _ HP.out.1.1
  have q1 : w3.cell? ⟨gp, off + 1, none⟩ = some (.int .i64 0) := HC.out _ K3.out.bel _ _ HP.out.1.2.1
  have q2 : w3.cell? ⟨gp, off + 2, none⟩ = some (.int .i64 2) := HC.out _ K3.out.bel _ _ HP.out.1.2.2.1
  have q3 : w3.cell? ⟨gp, off + 3, none⟩ = some (.string ⟨#[97, 98]⟩) := HC.out _ K3.out.bel _ _ HP.out.1.2.2.2
  go_wp2_with fail
  have hj2 := jk_add K3.out al0 (wf_al al0 (by decide) (by decide) (by decide) (by decide)) (by decide) (by decide) (by decide)
  unfold JKPost at hj2
  rw [al_add2] at hj2
  refine hj2.mono ?_
  rintro e w4 ⟨rfl, k4, _⟩
  have K4 := Lib.hid k4
  clear k4 hj2 q0 q1 q2 q3
  have hbe : Hid (Below B w w4) := hb1'.out.trans (K4.out.bel.mono hs1)
  go_wp2_with fail
  go_returns
  exact ⟨rfl, hB ▸ hbe.out⟩
end Go.Proofs.Ytemfecdpjegocaa
