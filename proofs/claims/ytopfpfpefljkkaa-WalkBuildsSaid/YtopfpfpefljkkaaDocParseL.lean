/- The document's parse of tokens: at a list's beginning. -/
import Derived.Test.YtopfpfpefljkkaaDocParseA
namespace Go.Proofs.Ytopfpfpefljkkaa
open Go.RowKit
set_option linter.unusedVariables false
set_option linter.unusedSimpArgs false

theorem pl_open {g : Nat} {w0 w : World} {v : Value} {L : List (Elt IL)} (h : PLp g w0 w v L) : w.cell? ⟨g, 0, none⟩ = some (.string ⟨#[]⟩) ∧ w.cell? ⟨g, 1, none⟩ = some (.bool false) ∧ w.cell? ⟨g, 2, none⟩ = some (.slice none 0 0) ∧
    w.frozen? ⟨g, 0, none⟩ = false ∧ w.frozen? ⟨g, 1, none⟩ = false ∧ w.frozen? ⟨g, 2, none⟩ = false := ⟨h.res.cell 0, h.res.cell 1, h.res.cell 2, h.res.free 0, h.res.free 1, h.res.free 2⟩
theorem pl_put {g : Nat} {w0 w : World} {v a b c : Value} {L : List (Elt IL)} (h : PLp g w0 w v L) :
    (put3 w g 0 a b c).cell? ⟨g, 0, none⟩ = some a ∧ (put3 w g 0 a b c).cell? ⟨g, 1, none⟩ = some b ∧ (put3 w g 0 a b c).cell? ⟨g, 2, none⟩ = some c := by
  have hB : Blk (put3 w g 0 a b c) g #[a, b, c] IT := ((h.res.set 0 _).set 1 _).set 2 _
  exact ⟨hB.cell 0, hB.cell 1, hB.cell 2⟩
theorem pl_bel {g : Nat} {w0 w : World} {v a b c : Value} {L : List (Elt IL)} (h : PLp g w0 w v L) : Below g w0 (put3 w g 0 a b c) := Upd.below (put3_upd w g 0 a b c) h.bel (Nat.le_refl _) (Nat.le_of_lt h.res.lt)
theorem pl_none {g : Nat} {w0 w : World} {v : Value} {L : List (Elt IL)} {T : List Tk} {R : Option (Rose IL × List Tk)} (hg : w0.heap.size = g) (h : PLp g w0 w v L) (hR : R = none) :
    ParsePost T R w0 (.returned (.tuple #[.agg #[.string ⟨#[]⟩, .bool false, .slice none 0 0], .int .i64 (-1)])) (put3 w g 0 (.string ⟨#[]⟩) (.bool false) (.slice none 0 0)) :=
  parse_no hR (hg.symm ▸ pl_bel h)
theorem pl_end {g a cv : Nat} {ov : Option Addr} {w0 w : World} {L : List (Elt IL)} {T l' : List Tk} {R : Option (Rose IL × List Tk)} (hg : w0.heap.size = g) (h : PLp g w0 w (.slice ov L.length cv) L) (hR : R = some (.node ⟨[], true⟩ (L.map Elt.tree), l')) (ha : a + 1 = T.length - l'.length) :
    ParsePost T R w0 (.returned (.tuple #[.agg #[.string ⟨#[]⟩, .bool true, .slice ov L.length cv], .int .i64 ((a : Int) + 1)])) (put3 w g 0 (.string ⟨#[]⟩) (.bool true) (.slice ov L.length cv)) := by
  rw [hR]
  refine ⟨ov, cv, ?_, ?_, Nat.zero_le _, hg.symm ▸ pl_bel h⟩
  · show Ending.returned (.tuple #[.agg #[.string ⟨#[]⟩, .bool true, .slice ov L.length cv], .int .i64 ((a : Int) + 1)]) = .returned (.tuple #[.agg #[.string ⟨#[]⟩, .bool true, .slice ov (L.map Elt.tree).length cv], .int .i64 ((T.length - l'.length : Nat) : Int)])
    rw [List.length_map, ← ha]
    rfl
  · show ISubsQ _ _ (.slice ov (L.map Elt.tree).length cv) (L.map Elt.tree)
    rw [List.length_map]
    refine Shape.Subs.keep h.own.subs (by rw [put3_size]; exact Nat.le_refl _) (fun c _ hc => ?_) fun c _ hc => put3_heap c ?_
    · show w0.heap.size ≤ c; have : g + 2 ≤ c := hc; omega
    · have : g + 2 ≤ c := hc; omega

set_option maxRecDepth 100000 in
set_option maxHeartbeats 4000000 in
theorem parse_list (T : List Tk) (N : Nat) (hN : T.length = N) (hT : N ≤ 100000) (htx : ∀ t, t ∈ T → t.text.size ≤ maxLen) (k : Nat)
    (ih : ∀ (at_ : Nat) (w : World) (v : Value), RdG tkf 2 w v T → k ≤ 16 → at_ ≤ N → Calls Try.prog 48 #[v, .int .i64 at_, .int .i64 ((17 - k : Nat) : Int)] w (ParsePost T (parseK k (T.drop at_)) w))
    (at_ : Nat) (w : World) (v : Value) (h : RdG tkf 2 w v T) (hk16 : k + 1 ≤ 16) (hlt : at_ < N) (r : List Tk) (hdr : T.drop at_ = ⟨1, ⟨#[]⟩⟩ :: r) :
    Calls Try.prog 48 #[v, .int .i64 at_, .int .i64 ((17 - (k + 1) : Nat) : Int)] w (ParsePost T (parseK (k + 1) (T.drop at_)) w) := by
  have hget : T[at_]? = some ⟨1, ⟨#[]⟩⟩ := by rw [← List.head?_drop, hdr]; rfl
  have hr : r = T.drop (at_ + 1) := by
    have := List.drop_eq_getElem_cons (l := T) (i := at_) (by omega)
    rw [hdr] at this
    exact (List.cons.inj this).2
  have hps := parse_open (k := k) hdr
  obtain ⟨R0, hR0⟩ : ∃ R0, loopP (parseK k) (r.length + 1) r [] = R0 := ⟨_, rfl⟩
  rw [hR0] at hps
  have HQ0 : Hid (LQ k T R0 (at_ + 1) []) := Lib.hid (by rw [← hR0, hr]; exact LQ.ini k T (at_ + 1))
  have HPS := Lib.hid hps
  have HN := Lib.hid hN
  have HTX := Lib.hid htx
  have IH := Lib.hid ih
  obtain ⟨oa, cap, rfl⟩ := h.slice
  rw [HN.out] at h ⊢
  have HR := Lib.hid h
  obtain ⟨b, off, rfl, hb, hc⟩ := h.at_ hget
  obtain ⟨POST, hP⟩ : ∃ P0, ParsePost T (parseK (k + 1) (T.drop at_)) w = P0 := ⟨_, rfl⟩
  have HP := Lib.hid hP
  rw [hP]
  obtain ⟨g, hg⟩ : ∃ g, w.heap.size = g := ⟨_, rfl⟩
  have hres := Blk.new w #[.string ⟨#[]⟩, .bool false, .slice none 0 0] IT
  have hb1 := (Below.refl w.heap.size w).alloc (Nat.le_refl _) (.cells #[.string ⟨#[]⟩, .bool false, .slice none 0 0] IT)
  have hs1 : (w.alloc (.cells #[.string ⟨#[]⟩, .bool false, .slice none 0 0] IT)).heap.size = w.heap.size + 1 := by simp
  have hrd1 := h.below hb1
  rw [hg] at hres hb1 hs1
  have HRES := Lib.hid hres
  have HB1 := Lib.hid hb1
  have HRT : Hid (∀ W, Below g w W → RdG tkf 2 W (.slice (some ⟨b, off, none⟩) N cap) T) := Lib.hid fun W hW => HR.out.below (hg.symm ▸ hW)
  obtain ⟨dp, hdp, hdp16⟩ : ∃ dp : Nat, 17 - (k + 1) = dp ∧ dp ≤ 16 := ⟨_, rfl, by omega⟩
  have hdp1 : 17 - k = dp + 1 := by omega
  rw [hdp]
  rw [hdp1] at IH
  have HK : Hid (k ≤ 16) := Lib.hid (by omega)
  obtain ⟨b', off', hbe, _, hcc⟩ := hrd1.at_ hget
  cases hbe
  have y0 := hcc 0 (by decide)
  have y1 := hcc 1 (by decide)
  simp only [Nat.add_zero, tkf, List.getElem?_cons_zero, List.getElem?_cons_succ] at y0 y1
  have hge : ¬ N ≤ at_ := by omega
  have HINI : Hid (∀ W, (w.alloc (.cells #[.string ⟨#[]⟩, .bool false, .slice none 0 0] IT)).alloc (.cells #[.string ⟨#[]⟩, .bool true, .slice none 0 0] IT) = W → PLp g w W (.slice none 0 0) []) := Lib.hid fun W hW => PLp.ini hg hres hb1 hs1 hW
  have hpos : at_ + 1 ≤ N := by omega
  clear h hP hres hb1 ih hb hc hcc hrd1 hget hr hps hR0 hdr htx hN hk16 hdp1
  go_enter Try.func48, Try.ntmps48
  go_upto_region 1 with fail
  generalize w.alloc (.cells #[.string ⟨#[]⟩, .bool false, .slice none 0 0] IT) = w1 at *
  go_upto_region 8 with fail
  have HG0 := Lib.hid (HINI.out _ (by rfl))
  generalize w1.alloc (.cells #[.string ⟨#[]⟩, .bool true, .slice none 0 0] IT) = w2 at *
  clear HINI y0 y1
  go_wp2_with fail
  go_loopw [1] (fun av wi => ∃ (a : Nat) (v' : Value) (L : List (Elt IL)), av = .int .i64 (a : Int) ∧ a ≤ N ∧ L.length ≤ a ∧ Hid (PLp g w wi v' L ∧ LQ k T R0 a (L.map Elt.tree))) (fun av _ => N - intN av)
  case atStart => exact ⟨at_ + 1, _, [], rfl, hpos, Nat.zero_le _, Lib.hid ⟨HG0.out, HQ0.out⟩⟩
  case round =>
    obtain ⟨a, v', L, rfl, haN, hLa, HG⟩ := hrel
    obtain ⟨ML, hML⟩ : ∃ ML, L.length = ML := ⟨_, rfl⟩
    obtain ⟨ov, cv, hv⟩ : ∃ ov cv, v' = .slice ov ML cv := by obtain ⟨ov, cv, h⟩ := HG.out.1.own.slice; exact ⟨ov, cv, by rw [h, hML]⟩
    subst hv
    have HML := Lib.hid hML
    rw [hML] at hLa
    have p0 := HG.out.1.out.cell 0
    have p1 := HG.out.1.out.cell 1
    have p2 := HG.out.1.out.cell 2
    simp only [List.getElem?_toArray, List.getElem?_cons_zero, List.getElem?_cons_succ] at p0 p1 p2
    clear hML HG0 HQ0
    by_cases hla : a < N
    case neg =>
      obtain rfl : a = N := by omega
      have hR0 : Hid (R0 = some (L.map Elt.tree, [])) := Lib.hid (HG.out.2.none_left (Nat.le_of_eq HN.out))

      obtain ⟨q0, q1, q2, z0, z1, z2⟩ := pl_open HG.out.1
      have HD := Lib.hid (pl_put (a := .string ⟨#[]⟩) (b := .bool false) (c := .slice none 0 0) HG.out.1)
      go_wp2_with fail
      rw [put3_eq]
      obtain ⟨d0, d1, d2⟩ := HD.out
      refine bodyPost_ret (v := .tuple #[.agg #[.string ⟨#[]⟩, .bool false, .slice none 0 0], .int .i64 (-1)]) (by simp [results, Try.results48, go_sem, d0, d1, d2]) rfl ?_
      rw [← HP.out]
      exact pl_none hg HG.out.1 (by rw [HPS.out, hR0.out])
    obtain ⟨t, ht⟩ : ∃ t, T[a]? = some t := ⟨_, List.getElem?_eq_getElem (by rw [HN.out]; exact hla)⟩
    have hdr : T.drop a = t :: T.drop (a + 1) := by
      rw [List.drop_eq_getElem_cons (by rw [HN.out]; exact hla)]
      congr 1
      rw [List.getElem?_eq_getElem (by rw [HN.out]; exact hla)] at ht
      exact Option.some.inj ht
    obtain ⟨b'', off'', he, _, hc⟩ := (HRT.out _ HG.out.1.bel).at_ ht
    cases he
    have y0 := hc 0 (by decide)
    have y1 := hc 1 (by decide)
    simp only [Nat.add_zero, tkf, List.getElem?_cons_zero, List.getElem?_cons_succ] at y0 y1
    have htt := HTX.out t (List.mem_of_getElem? ht)
    obtain ⟨kk, tt⟩ := t
    dsimp only at y0 y1 htt
    have HDR := Lib.hid hdr
    have hge2 : ¬ N ≤ a := by omega
    clear hc ht hdr
    by_cases h2 : kk = 2
    · subst h2
      have hR0 : Hid (R0 = some (L.map Elt.tree, ⟨2, tt⟩ :: T.drop (a + 1))) := Lib.hid (HG.out.2.shut HDR.out rfl)
      by_cases hz : tt.size = 0
      · obtain rfl := bytes_nil hz
        have hln : Hid (a + 1 = T.length - (T.drop (a + 1)).length) := Lib.hid (by rw [List.length_drop, HN.out]; omega)
        have HGE : Hid (PLp g w wr (.slice ov L.length cv) L) := Lib.hid (by rw [HML.out]; exact HG.out.1)

        obtain ⟨q0, q1, q2, z0, z1, z2⟩ := pl_open HG.out.1
        have HD := Lib.hid (pl_put (a := .string ⟨#[]⟩) (b := .bool true) (c := .slice ov ML cv) HG.out.1)
        go_wp2_with fail
        rw [put3_eq]
        obtain ⟨d0, d1, d2⟩ := HD.out
        refine bodyPost_ret (v := .tuple #[.agg #[.string ⟨#[]⟩, .bool true, .slice ov ML cv], .int .i64 ((a : Int) + 1)]) (by simp [results, Try.results48, go_sem, d0, d1, d2]) rfl ?_
        rw [← HP.out]
        have hq := pl_end (R := parseK (k + 1) (T.drop at_)) hg HGE.out (by rw [HPS.out, hR0.out]; exact if_pos rfl) hln.out
        rw [HML.out] at hq
        exact hq
      · have hq := str_nil tt
        rw [decide_eq_false hz] at hq
        have hR1 : Hid (parseK (k + 1) (T.drop at_) = none) := Lib.hid (by rw [HPS.out, hR0.out]; exact if_neg hz)
        have HPS := hR1
        clear hz
        obtain ⟨q0, q1, q2, z0, z1, z2⟩ := pl_open HG.out.1
        have HD := Lib.hid (pl_put (a := .string ⟨#[]⟩) (b := .bool false) (c := .slice none 0 0) HG.out.1)
        go_wp2_with fail
        rw [put3_eq]
        obtain ⟨d0, d1, d2⟩ := HD.out
        refine bodyPost_ret (v := .tuple #[.agg #[.string ⟨#[]⟩, .bool false, .slice none 0 0], .int .i64 (-1)]) (by simp [results, Try.results48, go_sem, d0, d1, d2]) rfl ?_
        rw [← HP.out]
        exact pl_none hg HG.out.1 hR1.out
    have e2 : (kk != 2) = true := by simp [h2]
    have H2 := Lib.hid h2
    obtain ⟨Y, hY⟩ : ∃ Y, parseK k (T.drop a) = Y := ⟨_, rfl⟩
    have CR := Lib.hid (IH.out a wr _ (HRT.out _ HG.out.1.bel) HK.out haN)
    rw [hY] at CR
    clear h2 htt
    cases Y with
    | none =>
      have hR0 : Hid (R0 = none) := Lib.hid (HG.out.2.bad HDR.out H2.out hY)
      unfold ParsePost at CR
      dsimp only at CR
      clear hY
      go_wp2_with fail
      refine CR.out.mono ?_
      rintro e w3 ⟨rfl, hb3⟩
      have HG2 : Hid (∀ W, w3.alloc (.cells #[.string ⟨#[]⟩, .bool false, .slice none 0 0] IT) = W → PLp g w W (.slice ov ML cv) L) := Lib.hid fun W h => by
        subst h
        exact HG.out.1.below (hb3.alloc hb3.size _)
      clear hb3 y0 y1 p0 p1 p2
      go_upto_region 11 with fail
      have HG3 := Lib.hid (HG2.out _ rfl)
      generalize w3.alloc (.cells #[.string ⟨#[]⟩, .bool false, .slice none 0 0] IT) = w4 at *

      obtain ⟨q0, q1, q2, z0, z1, z2⟩ := pl_open HG3.out
      have HD := Lib.hid (pl_put (a := .string ⟨#[]⟩) (b := .bool false) (c := .slice none 0 0) HG3.out)
      go_wp2_with fail
      rw [put3_eq]
      obtain ⟨d0, d1, d2⟩ := HD.out
      refine bodyPost_ret (v := .tuple #[.agg #[.string ⟨#[]⟩, .bool false, .slice none 0 0], .int .i64 (-1)]) (by simp [results, Try.results48, go_sem, d0, d1, d2]) rfl ?_
      rw [← HP.out]
      exact pl_none hg HG3.out (by rw [HPS.out, hR0.out])
    | some y =>
      obtain ⟨⟨xa, xs⟩, yl⟩ := y
      obtain ⟨hq1, hq2, hq3, hq4⟩ := HG.out.2.next HDR.out H2.out hY
      dsimp only at hq1 hq2 hq3 hq4
      rw [HN.out] at hq1 hq2 hq3 hq4
      have HQ1 := Lib.hid hq1
      unfold ParsePost at CR
      dsimp only [Rose.lab_node, Rose.sub_node] at CR
      rw [HN.out] at CR
      obtain ⟨a2, ha2⟩ : ∃ a2, N - yl.length = a2 := ⟨_, rfl⟩
      rw [ha2] at CR HQ1 hq2 hq3
      clear hY hq1 hq4 ha2
      go_wp2_with fail
      refine CR.out.mono ?_
      rintro e w3 ⟨xo, xc, rfl, hx3, hxl, hb3⟩
      have HXL := Lib.hid hxl
      obtain ⟨xn, hxn⟩ : ∃ xn, xs.length = xn := ⟨_, rfl⟩
      rw [hxn] at hx3 ⊢
      have HG2 : Hid (∀ W, w3.alloc (.cells #[.string (txt xa), .bool xa.list, .slice xo xn xc] IT) = W → PLp g w W (.slice ov ML cv) L ∧ Blk W w3.heap.size #[.string (txt xa), .bool xa.list, .slice xo xn xc] IT ∧ Below wr.heap.size wr W ∧ ISubsQ W (fun c => wr.heap.size ≤ c) (.slice xo xn xc) xs) := Lib.hid fun W h => by
        subst h
        have h2 := hb3.alloc hb3.size (.cells #[.string (txt xa), .bool xa.list, .slice xo xn xc] IT)
        exact ⟨HG.out.1.below h2, Blk.new w3 _ _, h2, Shape.Subs.below hx3 ((Below.refl _ w3).alloc (Nat.le_refl _) _)⟩
      clear hb3 hx3 hxl y0 y1 p0 p1 p2 hxn
      go_upto_region 11 with fail
      obtain ⟨hG4, hB4, hb4, hx4⟩ := HG2.out _ rfl
      generalize w3.alloc (.cells #[.string (txt xa), .bool xa.list, .slice xo xn xc] IT) = w4 at *
      have p2 := hG4.out.cell 2
      have y0 := hB4.cell 0
      have y1 := hB4.cell 1
      have y2 := hB4.cell 2
      simp only [List.getElem?_toArray, List.getElem?_cons_zero, List.getElem?_cons_succ] at p2 y0 y1 y2
      have HG4 := Lib.hid hG4
      have HB4w := Lib.hid hb4
      have HX4 := Lib.hid hx4
      clear HG2 hG4 hB4 hb4 hx4
      have hML6 : ML ≤ 100000 := by omega
      go_upto_region 13 with fail
      go_upto_region 14 with (at_builtin; go_loud (refine wpList_append_g it_row itf_len rfl _ _ rfl (B := 0) (v := .slice ov ML cv) (L := L) (y := ⟨xa, .slice xo xn xc, xs⟩) rfl (HG4.out.own.1.below ((Below.refl _ w4).alloc (Nat.le_refl _) _)) rfl (Blk.new w4 #[.string (txt xa), .bool xa.list, .slice xo xn xc] IT) rfl (by simp [itf, Value.oneCell']) (by rw [HML.out]; omega) (Nat.zero_le _) ?_); intro gg cap5 w5 hown5 hgrow5 hat5 hlt5; obtain ⟨k0, k1⟩ := HG4.out.cells ((Below.refl _ w4).alloc (Nat.le_refl _) _) hgrow5; have HNX := Lib.hid (And.intro hown5 (And.intro hgrow5 hat5)); rw [HML.out]; clear hown5 hgrow5 hat5 hlt5)
      have hal := (Below.refl _ w4).alloc (Nat.le_refl _) (.cells #[.string (txt xa), .bool xa.list, .slice xo xn xc] IT)
      have HNEXT := Lib.hid (PLp.next HG.out.1 (HB4w.out.trans (hal.mono HB4w.out.size)) (Shape.Subs.below HX4.out hal) HNX.out.1 HNX.out.2.1 HNX.out.2.2 HXL.out)
      clear hal
      rw [HML.out] at HNEXT
      go_wp2_with fail
      go_roundw
      case rel => exact ⟨a2, _, L ++ [⟨xa, .slice xo xn xc, xs⟩], rfl, hq3, by rw [List.length_append, HML.out]; simp; omega, Lib.hid ⟨HNEXT.out, by rw [List.map_append]; exact HQ1.out⟩⟩
      case measure => simp only [intN]; omega
end Go.Proofs.Ytopfpfpefljkkaa
