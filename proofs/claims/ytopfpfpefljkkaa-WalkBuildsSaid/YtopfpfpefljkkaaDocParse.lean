/- The document's parse of tokens. -/
import Derived.Test.YtopfpfpefljkkaaDocParseL
namespace Go.Proofs.Ytopfpfpefljkkaa
open Go.RowKit
set_option linter.unusedVariables false
set_option linter.unusedSimpArgs false

set_option maxRecDepth 100000 in
set_option maxHeartbeats 4000000 in
theorem doc_parse (T : List Tk) (hT : T.length ≤ 100000) (htx : ∀ t, t ∈ T → t.text.size ≤ maxLen) : ∀ (k : Nat) (at_ : Nat) (w : World) (v : Value), RdG tkf 2 w v T → k ≤ 16 → at_ ≤ T.length →
    Calls Try.prog 48 #[v, .int .i64 at_, .int .i64 ((17 - k : Nat) : Int)] w (ParsePost T (parseK k (T.drop at_)) w) := by
  obtain ⟨N, hN⟩ : ∃ N, T.length = N := ⟨_, rfl⟩
  have HN := Lib.hid hN
  have HTX := Lib.hid htx
  rw [hN] at hT
  clear htx hN
  intro k
  induction k with
  | zero =>
    intro at_ w v h _ ha
    obtain ⟨oa, cap, rfl⟩ := h.slice
    obtain ⟨POST, hP⟩ : ∃ P0, ParsePost T (parseK 0 (T.drop at_)) w = P0 := ⟨_, rfl⟩
    have HP := Lib.hid hP
    rw [hP]
    obtain ⟨g, hg⟩ : ∃ g, w.heap.size = g := ⟨_, rfl⟩
    have hres := Blk.new w #[.string ⟨#[]⟩, .bool false, .slice none 0 0] IT
    have hb1 := (Below.refl w.heap.size w).alloc (Nat.le_refl _) (.cells #[.string ⟨#[]⟩, .bool false, .slice none 0 0] IT)
    rw [hg] at hres hb1
    have HRES := Lib.hid hres
    have HB1 := Lib.hid hb1
    rw [HN.out] at ha ⊢
    have hsz : (17 - 0 : Nat) = 17 := rfl
    rw [hsz]
    clear h hP hres hb1 hsz
    go_enter Try.func48, Try.ntmps48
    go_upto_region 1 with fail
    generalize w.alloc (.cells #[.string ⟨#[]⟩, .bool false, .slice none 0 0] IT) = w1 at *
    by_cases hlt : at_ < N
    · have hge : ¬ N ≤ at_ := by omega

      have c0 : w1.cell? ⟨g, 0, none⟩ = some (.string ⟨#[]⟩) := HRES.out.cell 0
      have c1 : w1.cell? ⟨g, 1, none⟩ = some (.bool false) := HRES.out.cell 1
      have c2 : w1.cell? ⟨g, 2, none⟩ = some (.slice none 0 0) := HRES.out.cell 2
      have z0 := Blk.free HRES.out 0
      have z1 := Blk.free HRES.out 1
      have z2 := Blk.free HRES.out 2
      have hblk3 : Blk (put3 w1 g 0 (.string ⟨#[]⟩) (.bool false) (.slice none 0 0)) g #[.string ⟨#[]⟩, .bool false, .slice none 0 0] IT := (((Blk.set HRES.out 0 _)).set 1 _).set 2 _
      have HFB : Hid (Below g w (put3 w1 g 0 (.string ⟨#[]⟩) (.bool false) (.slice none 0 0))) := Lib.hid (Upd.below (put3_upd w1 g 0 (.string ⟨#[]⟩) (.bool false) (.slice none 0 0)) HB1.out (Nat.le_refl _) (by have := Blk.lt HRES.out; omega))
      have d0 := hblk3.cell 0
      have d1 := hblk3.cell 1
      have d2 := hblk3.cell 2
      have HD := Lib.hid (And.intro d0 (And.intro d1 d2))
      clear hblk3 d0 d1 d2
      go_wp2_with fail
      rw [put3_eq]
      obtain ⟨d0, d1, d2⟩ := HD.out
      simp only [List.getElem?_toArray, List.getElem?_cons_zero, List.getElem?_cons_succ] at d0 d1 d2
      refine bodyPost_ret (v := .tuple #[.agg #[.string ⟨#[]⟩, .bool false, .slice none 0 0], .int .i64 (-1)]) (by simp [results, Try.results48, go_sem, d0, d1, d2]) rfl ?_
      rw [← HP.out]
      exact parse_no rfl (hg.symm ▸ HFB.out)
    · have hge : N ≤ at_ := by omega
      have c0 : w1.cell? ⟨g, 0, none⟩ = some (.string ⟨#[]⟩) := HRES.out.cell 0
      have c1 : w1.cell? ⟨g, 1, none⟩ = some (.bool false) := HRES.out.cell 1
      have c2 : w1.cell? ⟨g, 2, none⟩ = some (.slice none 0 0) := HRES.out.cell 2
      have z0 := Blk.free HRES.out 0
      have z1 := Blk.free HRES.out 1
      have z2 := Blk.free HRES.out 2
      have hblk3 : Blk (put3 w1 g 0 (.string ⟨#[]⟩) (.bool false) (.slice none 0 0)) g #[.string ⟨#[]⟩, .bool false, .slice none 0 0] IT := (((Blk.set HRES.out 0 _)).set 1 _).set 2 _
      have HFB : Hid (Below g w (put3 w1 g 0 (.string ⟨#[]⟩) (.bool false) (.slice none 0 0))) := Lib.hid (Upd.below (put3_upd w1 g 0 (.string ⟨#[]⟩) (.bool false) (.slice none 0 0)) HB1.out (Nat.le_refl _) (by have := Blk.lt HRES.out; omega))
      have d0 := hblk3.cell 0
      have d1 := hblk3.cell 1
      have d2 := hblk3.cell 2
      have HD := Lib.hid (And.intro d0 (And.intro d1 d2))
      clear hblk3 d0 d1 d2
      go_wp2_with fail
      rw [put3_eq]
      obtain ⟨d0, d1, d2⟩ := HD.out
      simp only [List.getElem?_toArray, List.getElem?_cons_zero, List.getElem?_cons_succ] at d0 d1 d2
      refine bodyPost_ret (v := .tuple #[.agg #[.string ⟨#[]⟩, .bool false, .slice none 0 0], .int .i64 (-1)]) (by simp [results, Try.results48, go_sem, d0, d1, d2]) rfl ?_
      rw [← HP.out]
      exact parse_no rfl (hg.symm ▸ HFB.out)
  | succ k ih =>
    intro at_ w v h hk16 ha
    have IH := Lib.hid ih
    have HR := Lib.hid h
    by_cases hop : T[at_]? = some ⟨1, ⟨#[]⟩⟩
    · have hlt : at_ < N := by rw [← HN.out]; exact (List.getElem?_eq_some_iff.1 hop).1
      have hdr : T.drop at_ = ⟨1, ⟨#[]⟩⟩ :: T.drop (at_ + 1) := by
        rw [List.drop_eq_getElem_cons (by rw [HN.out]; exact hlt)]
        congr 1
        rw [List.getElem?_eq_getElem (by rw [HN.out]; exact hlt)] at hop
        exact Option.some.inj hop
      exact parse_list T N HN.out hT HTX.out k (fun a w' v' h1 h2 h3 => IH.out a w' v' h1 h2 (by rw [HN.out]; exact h3)) at_ w v h hk16 hlt _ hdr
    have HOP := Lib.hid hop
    clear hop
    obtain ⟨oa, cap, rfl⟩ := h.slice
    obtain ⟨POST, hP⟩ : ∃ P0, ParsePost T (parseK (k + 1) (T.drop at_)) w = P0 := ⟨_, rfl⟩
    have HP := Lib.hid hP
    rw [hP]
    obtain ⟨g, hg⟩ : ∃ g, w.heap.size = g := ⟨_, rfl⟩
    have hres := Blk.new w #[.string ⟨#[]⟩, .bool false, .slice none 0 0] IT
    have hb1 := (Below.refl w.heap.size w).alloc (Nat.le_refl _) (.cells #[.string ⟨#[]⟩, .bool false, .slice none 0 0] IT)
    have hs1 : (w.alloc (.cells #[.string ⟨#[]⟩, .bool false, .slice none 0 0] IT)).heap.size = w.heap.size + 1 := by simp
    rw [hg] at hres hb1 hs1
    have HRES := Lib.hid hres
    have HB1 := Lib.hid hb1
    have HRT := Lib.hid (h.below (hg.symm ▸ hb1))
    rw [HN.out] at ha ⊢
    obtain ⟨dp, hdp, hdp16⟩ : ∃ dp : Nat, 17 - (k + 1) = dp ∧ dp ≤ 16 := ⟨_, rfl, by omega⟩
    have hdp1 : 17 - k = dp + 1 := by omega
    rw [hdp]
    rw [hdp1] at IH
    clear h hP hres hb1 ih
    go_enter Try.func48, Try.ntmps48
    go_upto_region 1 with fail
    generalize w.alloc (.cells #[.string ⟨#[]⟩, .bool false, .slice none 0 0] IT) = w1 at *
    by_cases hlt : at_ < N
    case neg =>
      obtain rfl : at_ = N := by omega
      have hpn : Hid (parseK (k + 1) (T.drop at_) = none) := Lib.hid (by rw [← HN.out, List.drop_length]; rfl)

      have c0 : w1.cell? ⟨g, 0, none⟩ = some (.string ⟨#[]⟩) := HRES.out.cell 0
      have c1 : w1.cell? ⟨g, 1, none⟩ = some (.bool false) := HRES.out.cell 1
      have c2 : w1.cell? ⟨g, 2, none⟩ = some (.slice none 0 0) := HRES.out.cell 2
      have z0 := Blk.free HRES.out 0
      have z1 := Blk.free HRES.out 1
      have z2 := Blk.free HRES.out 2
      have hblk3 : Blk (put3 w1 g 0 (.string ⟨#[]⟩) (.bool false) (.slice none 0 0)) g #[.string ⟨#[]⟩, .bool false, .slice none 0 0] IT := (((Blk.set HRES.out 0 _)).set 1 _).set 2 _
      have HFB : Hid (Below g w (put3 w1 g 0 (.string ⟨#[]⟩) (.bool false) (.slice none 0 0))) := Lib.hid (Upd.below (put3_upd w1 g 0 (.string ⟨#[]⟩) (.bool false) (.slice none 0 0)) HB1.out (Nat.le_refl _) (by have := Blk.lt HRES.out; omega))
      have d0 := hblk3.cell 0
      have d1 := hblk3.cell 1
      have d2 := hblk3.cell 2
      have HD := Lib.hid (And.intro d0 (And.intro d1 d2))
      clear hblk3 d0 d1 d2
      go_wp2_with fail
      rw [put3_eq]
      obtain ⟨d0, d1, d2⟩ := HD.out
      simp only [List.getElem?_toArray, List.getElem?_cons_zero, List.getElem?_cons_succ] at d0 d1 d2
      refine bodyPost_ret (v := .tuple #[.agg #[.string ⟨#[]⟩, .bool false, .slice none 0 0], .int .i64 (-1)]) (by simp [results, Try.results48, go_sem, d0, d1, d2]) rfl ?_
      rw [← HP.out]
      exact parse_no hpn.out (hg.symm ▸ HFB.out)
    obtain ⟨t, ht⟩ : ∃ t, T[at_]? = some t := ⟨_, List.getElem?_eq_getElem (by rw [HN.out]; exact hlt)⟩
    have hdr : T.drop at_ = t :: T.drop (at_ + 1) := by
      rw [List.drop_eq_getElem_cons (by rw [HN.out]; exact hlt)]
      congr 1
      rw [List.getElem?_eq_getElem (by rw [HN.out]; exact hlt)] at ht
      exact Option.some.inj ht
    obtain ⟨b, off, rfl, hb, hc⟩ := HRT.out.at_ ht
    have y0 := hc 0 (by decide)
    have y1 := hc 1 (by decide)
    simp only [Nat.add_zero, tkf, List.getElem?_cons_zero, List.getElem?_cons_succ] at y0 y1
    have htt := HTX.out t (List.mem_of_getElem? ht)
    obtain ⟨kk, tt⟩ := t
    dsimp only at y0 y1 htt
    have HDR := Lib.hid hdr
    have hnop : ¬ (kk = 1 ∧ tt.size = 0) := fun ⟨e1, e2⟩ => HOP.out (by rw [ht, e1, bytes_nil e2])
    have hge : ¬ N ≤ at_ := by omega
    clear hc ht hdr
    by_cases h3 : kk = 3
    · subst h3
      have hps : Hid (parseK (k + 1) (T.drop at_) = some (.node ⟨tt.data.toList, false⟩ [], T.drop (at_ + 1))) := Lib.hid (by rw [HDR.out]; simp [parseK])
      have hln : Hid (T.length - (T.drop (at_ + 1)).length = at_ + 1) := Lib.hid (by rw [List.length_drop, HN.out]; omega)
      have HTT := Lib.hid htt
      clear htt
      have c0 : w1.cell? ⟨g, 0, none⟩ = some (.string ⟨#[]⟩) := HRES.out.cell 0
      have c1 : w1.cell? ⟨g, 1, none⟩ = some (.bool false) := HRES.out.cell 1
      have c2 : w1.cell? ⟨g, 2, none⟩ = some (.slice none 0 0) := HRES.out.cell 2
      have z0 := Blk.free HRES.out 0
      have z1 := Blk.free HRES.out 1
      have z2 := Blk.free HRES.out 2
      have hblk3 : Blk (put3 w1 g 0 (.string tt) (.bool false) (.slice none 0 0)) g #[.string tt, .bool false, .slice none 0 0] IT := (((Blk.set HRES.out 0 _)).set 1 _).set 2 _
      have HFB : Hid (Below g w (put3 w1 g 0 (.string tt) (.bool false) (.slice none 0 0))) := Lib.hid (Upd.below (put3_upd w1 g 0 (.string tt) (.bool false) (.slice none 0 0)) HB1.out (Nat.le_refl _) (by have := Blk.lt HRES.out; omega))
      have d0 := hblk3.cell 0
      have d1 := hblk3.cell 1
      have d2 := hblk3.cell 2
      have HD := Lib.hid (And.intro d0 (And.intro d1 d2))
      clear hblk3 d0 d1 d2
      go_wp2_with fail
      rw [put3_eq]
      obtain ⟨d0, d1, d2⟩ := HD.out
      simp only [List.getElem?_toArray, List.getElem?_cons_zero, List.getElem?_cons_succ] at d0 d1 d2
      refine bodyPost_ret (v := .tuple #[.agg #[.string tt, .bool false, .slice none 0 0], .int .i64 ((at_ : Int) + 1)]) (by simp [results, Try.results48, go_sem, d0, d1, d2]) rfl ?_
      rw [← HP.out]
      unfold ParsePost
      rw [hps.out]
      dsimp only
      rw [hln.out]
      refine ⟨none, 0, by simp only [Rose.lab_node, Rose.sub_node, txt_of, List.length_nil]; congr 3, subs_nil _ _, ?_, hg.symm ▸ HFB.out⟩
      rw [Rose.lab_node, ← txt_size ⟨tt.data.toList, false⟩, txt_of]
      exact HTT.out
    have e3 : (kk == 3) = false := by simp [h3]
    by_cases hbad : kk ≠ 1 ∨ tt.size ≠ 0
    · have hpn : Hid (parseK (k + 1) (T.drop at_) = none) := Lib.hid (by
        rw [HDR.out]
        simp only [parseK]
        rw [if_neg h3, if_neg (by rintro ⟨a, b⟩; rcases hbad with h | h; exact h a; exact h b)])
      by_cases h1 : kk = 1
      · subst h1
        have hz : tt.size ≠ 0 := hbad.elim (fun h => absurd rfl h) id
        have hq := str_nil tt
        rw [decide_eq_false hz] at hq
        clear hbad hz e3 h3
        have c0 : w1.cell? ⟨g, 0, none⟩ = some (.string ⟨#[]⟩) := HRES.out.cell 0
        have c1 : w1.cell? ⟨g, 1, none⟩ = some (.bool false) := HRES.out.cell 1
        have c2 : w1.cell? ⟨g, 2, none⟩ = some (.slice none 0 0) := HRES.out.cell 2
        have z0 := Blk.free HRES.out 0
        have z1 := Blk.free HRES.out 1
        have z2 := Blk.free HRES.out 2
        have hblk3 : Blk (put3 w1 g 0 (.string ⟨#[]⟩) (.bool false) (.slice none 0 0)) g #[.string ⟨#[]⟩, .bool false, .slice none 0 0] IT := (((Blk.set HRES.out 0 _)).set 1 _).set 2 _
        have HFB : Hid (Below g w (put3 w1 g 0 (.string ⟨#[]⟩) (.bool false) (.slice none 0 0))) := Lib.hid (Upd.below (put3_upd w1 g 0 (.string ⟨#[]⟩) (.bool false) (.slice none 0 0)) HB1.out (Nat.le_refl _) (by have := Blk.lt HRES.out; omega))
        have d0 := hblk3.cell 0
        have d1 := hblk3.cell 1
        have d2 := hblk3.cell 2
        have HD := Lib.hid (And.intro d0 (And.intro d1 d2))
        clear hblk3 d0 d1 d2
        go_wp2_with fail
        rw [put3_eq]
        obtain ⟨d0, d1, d2⟩ := HD.out
        simp only [List.getElem?_toArray, List.getElem?_cons_zero, List.getElem?_cons_succ] at d0 d1 d2
        refine bodyPost_ret (v := .tuple #[.agg #[.string ⟨#[]⟩, .bool false, .slice none 0 0], .int .i64 (-1)]) (by simp [results, Try.results48, go_sem, d0, d1, d2]) rfl ?_
        rw [← HP.out]
        exact parse_no hpn.out (hg.symm ▸ HFB.out)
      · have e1 : (kk != 1) = true := by simp [h1]
        clear hbad h3 h1
        have c0 : w1.cell? ⟨g, 0, none⟩ = some (.string ⟨#[]⟩) := HRES.out.cell 0
        have c1 : w1.cell? ⟨g, 1, none⟩ = some (.bool false) := HRES.out.cell 1
        have c2 : w1.cell? ⟨g, 2, none⟩ = some (.slice none 0 0) := HRES.out.cell 2
        have z0 := Blk.free HRES.out 0
        have z1 := Blk.free HRES.out 1
        have z2 := Blk.free HRES.out 2
        have hblk3 : Blk (put3 w1 g 0 (.string ⟨#[]⟩) (.bool false) (.slice none 0 0)) g #[.string ⟨#[]⟩, .bool false, .slice none 0 0] IT := (((Blk.set HRES.out 0 _)).set 1 _).set 2 _
        have HFB : Hid (Below g w (put3 w1 g 0 (.string ⟨#[]⟩) (.bool false) (.slice none 0 0))) := Lib.hid (Upd.below (put3_upd w1 g 0 (.string ⟨#[]⟩) (.bool false) (.slice none 0 0)) HB1.out (Nat.le_refl _) (by have := Blk.lt HRES.out; omega))
        have d0 := hblk3.cell 0
        have d1 := hblk3.cell 1
        have d2 := hblk3.cell 2
        have HD := Lib.hid (And.intro d0 (And.intro d1 d2))
        clear hblk3 d0 d1 d2
        go_wp2_with fail
        rw [put3_eq]
        obtain ⟨d0, d1, d2⟩ := HD.out
        simp only [List.getElem?_toArray, List.getElem?_cons_zero, List.getElem?_cons_succ] at d0 d1 d2
        refine bodyPost_ret (v := .tuple #[.agg #[.string ⟨#[]⟩, .bool false, .slice none 0 0], .int .i64 (-1)]) (by simp [results, Try.results48, go_sem, d0, d1, d2]) rfl ?_
        rw [← HP.out]
        exact parse_no hpn.out (hg.symm ▸ HFB.out)
    · exact absurd ⟨Classical.byContradiction fun h => hbad (.inl h), Classical.byContradiction fun h => hbad (.inr h)⟩ hnop
end Go.Proofs.Ytopfpfpefljkkaa
