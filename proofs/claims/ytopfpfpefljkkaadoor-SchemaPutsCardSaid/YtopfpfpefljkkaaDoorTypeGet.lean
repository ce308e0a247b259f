/- Package schema: Get; the document's example. -/
import Derived.Test.YtopfpfpefljkkaaDoorRdAll
namespace Go.Proofs.YtopfpfpefljkkaaDoor
open Go.RowKit
set_option linter.unusedVariables false
set_option linter.unusedSimpArgs false

/-- What Get leaves. -/
def GetPost (l : List UInt8) (w : World) (e : Ending) (w' : World) : Prop :=
  ∃ (a : TL) (o : Option Addr) (n c : Nat) (er : Int) (sub : List (Rose TL)), e = .returned (.tuple #[.agg #[.int .i64 a.kind, .int .i64 a.size, .slice o n c, .int .i64 a.tail], .int .i64 er]) ∧ Below w.heap.size w w' ∧ TL.wf a ∧ TSubs w' (.slice o n c) sub ∧
    (getT l = some (.node a sub) ∧ er = 0 ∨ getT l = none ∧ er = 3 ∧ a = ⟨0, 0, 0⟩ ∧ sub = [])

theorem tailS_zero (s : ByteArray) : tailS s 0 = s.data.toList := rfl
theorem getT_none1 {l : List UInt8} (h : rd 8 l 64 = none) : getT l = none := by unfold getT; rw [h]
theorem getT_none2 {l r : List UInt8} {x : Rose TL} {n : Nat} (h : rd 8 l 64 = some (x, r, n)) (hr : r ≠ []) : getT l = none := by
  unfold getT; rw [h]
  cases r with
  | nil => exact absurd rfl hr
  | cons _ _ => rfl
theorem getT_some {l : List UInt8} {x : Rose TL} {n : Nat} (h : rd 8 l 64 = some (x, [], n)) : getT l = if mayT x then some x else none := by unfold getT; rw [h]

set_option maxRecDepth 100000 in
set_option maxHeartbeats 2000000 in
theorem prog_get (s : ByteArray) (w : World) (hs : s.size ≤ maxLen) (hT : TabU w) :
    Calls Tryd.prog 11 #[.string s] w (GetPost s.data.toList w) := by
  have hT0 := hT.lt
  obtain ⟨g, hg⟩ : ∃ g, w.heap.size = g := ⟨_, rfl⟩
  have HA : Hid (∀ W, (w.alloc (.cells #[.int .i64 0, .int .i64 0, .slice none 0 0, .int .i64 0] TT)).alloc (.cells #[.string s, .int .i64 0, .int .i64 64] 39) = W → Below g w W ∧ RdB W (g + 1) s 0 64 ∧
      Blk W g #[.int .i64 0, .int .i64 0, .slice none 0 0, .int .i64 0] TT ∧ W.heap.size = g + 2) := Lib.hid fun W h => by
    subst h
    have hal := (Below.refl w.heap.size w).alloc (Nat.le_refl _) (.cells #[.int .i64 0, .int .i64 0, .slice none 0 0, .int .i64 0] TT)
    have hb1 := Blk.new w #[.int .i64 0, .int .i64 0, .slice none 0 0, .int .i64 0] TT
    have hs1 : (w.alloc (.cells #[.int .i64 0, .int .i64 0, .slice none 0 0, .int .i64 0] TT)).heap.size = g + 1 := by simp; omega
    rw [hg] at hal hb1
    generalize w.alloc (.cells #[.int .i64 0, .int .i64 0, .slice none 0 0, .int .i64 0] TT) = w1 at *
    have hal2 := (Below.refl w1.heap.size w1).alloc (Nat.le_refl _) (.cells #[.string s, .int .i64 0, .int .i64 64] 39)
    have hb2 := Blk.new w1 #[.string s, .int .i64 0, .int .i64 64] 39
    rw [hs1] at hb2
    exact ⟨hal.trans (hal2.mono (by omega)), hb2, Below.blk hal2 hb1 (by omega), by simp; omega⟩
  have HT := Lib.hid hT
  have hT1 : 0 < g := hg ▸ hT0
  obtain ⟨POST, hP⟩ : ∃ POST, GetPost s.data.toList w = POST := ⟨_, rfl⟩
  have HP := Lib.hid hP
  rw [hP]
  clear hT hT0 hP
  go_enter Tryd.func11, Tryd.ntmps11
  go_upto_region 2 with fail
  generalize (w.alloc (.cells #[.int .i64 0, .int .i64 0, .slice none 0 0, .int .i64 0] TT)).alloc (.cells #[.string s, .int .i64 0, .int .i64 64] 39) = w1 at *
  obtain ⟨hbl1, hr1, hB1, hs1⟩ := HA.out _ rfl
  have CR : Hid (Calls Tryd.prog 23 #[.pointer (some ⟨g + 1, 0, none⟩), .int .i64 1] w1 (ResPost (rd 8 (tailS s 0) 64) (g + 1) s w1)) := Lib.hid (rd_read (g + 1) s hs 8 1 0 64 w1 rfl (Nat.zero_le _) (Nat.le_refl _) hr1)
  have H1 := Lib.hid (And.intro hbl1 (And.intro hB1 hs1))
  clear HA hbl1 hr1 hB1 hs1
  go_wp2_with fail
  refine (CR.out).mono ?_
  rintro e w2 ⟨a, o, n, c, ok, p2, l2, rfl, hu2, hr2, hp2, hl2, hok, hno⟩
  have hsz2 : g + 2 ≤ w2.heap.size := by have := hu2.size; have := H1.out.2.2; omega
  have HB2 : Hid (Below g w w2 ∧ RdB w2 (g + 1) s p2 l2 ∧ Blk w2 g #[.int .i64 0, .int .i64 0, .slice none 0 0, .int .i64 0] TT) := Lib.hid ⟨hu2.below H1.out.1 (by omega) (by have := H1.out.2.2; omega), hr2, hu2.blk H1.out.2.1 (by omega)⟩
  have HOK := Lib.hid (And.intro hok hno)
  have HA2 : Hid (∀ W, w2.alloc (.cells #[.int .i64 a.kind, .int .i64 a.size, .slice o n c, .int .i64 a.tail] TT) = W → Below w2.heap.size w2 W ∧ Blk W w2.heap.size #[.int .i64 a.kind, .int .i64 a.size, .slice o n c, .int .i64 a.tail] TT ∧ W.heap.size = w2.heap.size + 1) := Lib.hid fun W h => by
    subst h
    exact ⟨(Below.refl w2.heap.size w2).alloc (Nat.le_refl _) _, Blk.new w2 _ _, by simp⟩
  have HW1 := Lib.hid H1.out.2.2
  clear hu2 hr2 hok hno CR H1
  go_upto_region 3 with fail
  generalize w2.alloc (.cells #[.int .i64 a.kind, .int .i64 a.size, .slice o n c, .int .i64 a.tail] TT) = w3 at *
  obtain ⟨hbl3, hB3, hs3⟩ := HA2.out _ rfl
  have HB3 : Hid (Below g w w3 ∧ RdB w3 (g + 1) s p2 l2 ∧ Blk w3 g #[.int .i64 0, .int .i64 0, .slice none 0 0, .int .i64 0] TT ∧ Blk w3 w2.heap.size #[.int .i64 a.kind, .int .i64 a.size, .slice o n c, .int .i64 a.tail] TT ∧ Below w2.heap.size w2 w3) :=
    Lib.hid ⟨HB2.out.1.trans (hbl3.mono (by omega)), RdB.below HB2.out.2.1 hbl3, Below.blk hbl3 HB2.out.2.2 (by omega), hB3, hbl3⟩
  have hs3' : w2.heap.size < w3.heap.size := by omega
  clear HA2 hbl3 hB3 hs3
  have k0 := HB3.out.2.2.2.1.cell 0
  have k1 := HB3.out.2.2.2.1.cell 1
  have k2 := HB3.out.2.2.2.1.cell 2
  have k3 := HB3.out.2.2.2.1.cell 3
  have r0 := HB3.out.2.2.1.cell 0
  have r1 := HB3.out.2.2.1.cell 1
  have r2 := HB3.out.2.2.1.cell 2
  have r3 := HB3.out.2.2.1.cell 3
  have y0 := HB3.out.2.2.1.free 0
  have y1 := HB3.out.2.2.1.free 1
  have y2 := HB3.out.2.2.1.free 2
  have y3 := HB3.out.2.2.1.free 3
  have c0 := HB3.out.2.1.c0
  have c1 := HB3.out.2.1.c1
  simp only [List.getElem?_toArray, List.getElem?_cons_zero, List.getElem?_cons_succ] at k0 k1 k2 k3 r0 r1 r2 r3
  have HNONE : Hid (∀ W, Below g w W → (∃ cs, Blk W g cs TT ∧ cs.size = 4) → getT s.data.toList = none → (put4 W g (.int .i64 0) (.int .i64 0) (.slice none 0 0) (.int .i64 0)).cell? ⟨g, 0, none⟩ = some (.int .i64 0) ∧ (put4 W g (.int .i64 0) (.int .i64 0) (.slice none 0 0) (.int .i64 0)).cell? ⟨g, 1, none⟩ = some (.int .i64 0) ∧
      (put4 W g (.int .i64 0) (.int .i64 0) (.slice none 0 0) (.int .i64 0)).cell? ⟨g, 2, none⟩ = some (.slice none 0 0) ∧ (put4 W g (.int .i64 0) (.int .i64 0) (.slice none 0 0) (.int .i64 0)).cell? ⟨g, 3, none⟩ = some (.int .i64 0) ∧
      POST (.returned (.tuple #[.agg #[.int .i64 0, .int .i64 0, .slice none 0 0, .int .i64 0], .int .i64 3])) (put4 W g (.int .i64 0) (.int .i64 0) (.slice none 0 0) (.int .i64 0))) := Lib.hid fun W hW hB hN => by
    obtain ⟨cs, hB1, hB2⟩ := hB
    have h4 := put4_blk' (a := .int .i64 0) (b := .int .i64 0) (c := .slice none 0 0) (d := .int .i64 0) hB1 hB2
    refine ⟨h4.cell 0, h4.cell 1, h4.cell 2, h4.cell 3, ?_⟩
    rw [← HP.out]
    refine ⟨⟨0, 0, 0⟩, none, 0, 0, 3, [], rfl, ?_, tl_wf (by omega), subs_nil _ _ _, .inr ⟨hN, rfl, rfl, rfl⟩⟩
    rw [hg]
    exact ⟨hW.os, hW.tape, hW.output, Nat.le_trans hW.size (Nat.le_of_eq put4_size.symm), fun k hk => (put4_heap k (by omega)).trans (hW.block k hk)⟩
  cases ok with
  | false =>
    have HN := Lib.hid (getT_none1 (HOK.out.2 rfl))
    clear HOK
    go_wp2_with fail
    rw [put4_eq]
    obtain ⟨e0, e1, e2, e3, hpost⟩ := HNONE.out w3 HB3.out.1 ⟨_, HB3.out.2.2.1, rfl⟩ HN.out
    refine bodyPost_ret (v := .tuple #[.agg #[.int .i64 0, .int .i64 0, .slice none 0 0, .int .i64 0], .int .i64 3]) (by simp [results, Tryd.results11, go_sem, e0, e1, e2, e3]) rfl ?_
    exact hpost
  | true =>
    by_cases hend : p2 = s.size
    · have d0 : ((p2 : Int) != s.size) = false := by simp [hend]
      have HSUB : Hid (∃ sub, rd 8 s.data.toList 64 = some (.node a sub, [], l2) ∧ TL.wf a ∧ tshape.Subs w3 (fun k => g + 2 ≤ k) (.slice o n c) sub) := Lib.hid (by
        obtain ⟨sub, h1, h2, h3⟩ := HOK.out.1 rfl
        rw [tailS_zero, tailS_end (s := s) (p := p2) (by omega)] at h1
        exact ⟨sub, h1, h2, h3.keep HB3.out.2.2.2.2.size (fun k _ hk => by have := HW1.out; omega) fun k hk _ => HB3.out.2.2.2.2.block k hk⟩)
      obtain ⟨sub, h1, h2, h3⟩ := HSUB.out
      have HGT := Lib.hid (getT_some h1)
      have HWF := Lib.hid h2
      have HTS := Lib.hid h3
      have CM := Lib.hid (prog_May (.node a sub) w3 (.slice o n c) (h3.keep (Nat.le_refl _) (fun _ _ _ => trivial) fun _ _ _ => rfl) (HT.out.below HB3.out.1 hT1))
      have HEND := Lib.hid hend
      clear h1 h2 h3 HSUB hend
      simp only [Rose.lab_node] at CM
      cases hm : mayT (.node a sub) with
      | false =>
        rw [hm] at CM HGT
        clear hm
        go_wp2_with fail
        refine (CM.out).mono ?_
        rintro e w4 ⟨rfl, hb4⟩
        have HB4 := Lib.hid hb4
        have r0' := (hb4.cell (p := ⟨g, 0, none⟩) (show g < w3.heap.size by omega)).trans r0
        have r1' := (hb4.cell (p := ⟨g, 1, none⟩) (show g < w3.heap.size by omega)).trans r1
        have r2' := (hb4.cell (p := ⟨g, 2, none⟩) (show g < w3.heap.size by omega)).trans r2
        have r3' := (hb4.cell (p := ⟨g, 3, none⟩) (show g < w3.heap.size by omega)).trans r3
        have y0' := (hb4.frozen (p := ⟨g, 0, none⟩) (show g < w3.heap.size by omega)).trans y0
        have y1' := (hb4.frozen (p := ⟨g, 1, none⟩) (show g < w3.heap.size by omega)).trans y1
        have y2' := (hb4.frozen (p := ⟨g, 2, none⟩) (show g < w3.heap.size by omega)).trans y2
        have y3' := (hb4.frozen (p := ⟨g, 3, none⟩) (show g < w3.heap.size by omega)).trans y3
        clear hb4 r0 r1 r2 r3 y0 y1 y2 y3 k0 k1 k2 k3 c0 c1
        go_wp2_with fail
        rw [put4_eq]
        obtain ⟨e0, e1, e2, e3, hpost⟩ := HNONE.out w4 (HB3.out.1.trans (HB4.out.mono (by omega))) ⟨_, Below.blk HB4.out HB3.out.2.2.1 (by omega), rfl⟩ (by rw [HGT.out]; rfl)
        refine bodyPost_ret (v := .tuple #[.agg #[.int .i64 0, .int .i64 0, .slice none 0 0, .int .i64 0], .int .i64 3]) (by simp [results, Tryd.results11, go_sem, e0, e1, e2, e3]) rfl ?_
        exact hpost
      | true =>
        rw [hm] at CM HGT
        clear hm
        go_wp2_with fail
        refine (CM.out).mono ?_
        rintro e w4 ⟨rfl, hb4⟩
        have HB4 := Lib.hid hb4
        have r0' := (hb4.cell (p := ⟨g, 0, none⟩) (show g < w3.heap.size by omega)).trans r0
        have r1' := (hb4.cell (p := ⟨g, 1, none⟩) (show g < w3.heap.size by omega)).trans r1
        have r2' := (hb4.cell (p := ⟨g, 2, none⟩) (show g < w3.heap.size by omega)).trans r2
        have r3' := (hb4.cell (p := ⟨g, 3, none⟩) (show g < w3.heap.size by omega)).trans r3
        have y0' := (hb4.frozen (p := ⟨g, 0, none⟩) (show g < w3.heap.size by omega)).trans y0
        have y1' := (hb4.frozen (p := ⟨g, 1, none⟩) (show g < w3.heap.size by omega)).trans y1
        have y2' := (hb4.frozen (p := ⟨g, 2, none⟩) (show g < w3.heap.size by omega)).trans y2
        have y3' := (hb4.frozen (p := ⟨g, 3, none⟩) (show g < w3.heap.size by omega)).trans y3
        have k0' := (hb4.cell (p := ⟨w2.heap.size, 0, none⟩) hs3').trans k0
        have k1' := (hb4.cell (p := ⟨w2.heap.size, 1, none⟩) hs3').trans k1
        have k2' := (hb4.cell (p := ⟨w2.heap.size, 2, none⟩) hs3').trans k2
        have k3' := (hb4.cell (p := ⟨w2.heap.size, 3, none⟩) hs3').trans k3
        clear hb4 r0 r1 r2 r3 y0 y1 y2 y3 k0 k1 k2 k3 c0 c1
        go_wp2_with fail
        rw [put4_eq]
        have h4 := put4_blk' (a := .int .i64 a.kind) (b := .int .i64 a.size) (c := .slice o n c) (d := .int .i64 a.tail) (Below.blk HB4.out HB3.out.2.2.1 (by omega)) rfl
        have e0 := h4.cell 0
        have e1 := h4.cell 1
        have e2 := h4.cell 2
        have e3 := h4.cell 3
        simp only [List.getElem?_toArray, List.getElem?_cons_zero, List.getElem?_cons_succ] at e0 e1 e2 e3
        refine bodyPost_ret (v := .tuple #[.agg #[.int .i64 a.kind, .int .i64 a.size, .slice o n c, .int .i64 a.tail], .int .i64 0]) (by simp [results, Tryd.results11, go_sem, e0, e1, e2, e3]) rfl ?_
        rw [← HP.out]
        have hW : Below g w w4 := HB3.out.1.trans (HB4.out.mono (by omega))
        refine ⟨a, o, n, c, 0, sub, rfl, ?_, HWF.out, ?_, .inl ⟨by rw [HGT.out]; rfl, rfl⟩⟩
        · rw [hg]
          exact ⟨hW.os, hW.tape, hW.output, Nat.le_trans hW.size (Nat.le_of_eq put4_size.symm), fun k hk => (put4_heap k (by omega)).trans (hW.block k hk)⟩
        · exact (put4_subs (Shape.Subs.below HTS.out HB4.out) (fun k hk => by omega)).keep (Nat.le_refl _) (fun _ _ _ => trivial) fun _ _ _ => rfl
    · have d0 : ((p2 : Int) != s.size) = true := by rw [bne_iff_ne]; omega
      have HN : Hid (getT s.data.toList = none) := Lib.hid (by
        obtain ⟨sub, h1, h2, h3⟩ := HOK.out.1 rfl
        exact getT_none2 h1 fun h => hend (tailS_nil hp2 h))
      clear hend HOK
      go_wp2_with fail
      rw [put4_eq]
      obtain ⟨e0, e1, e2, e3, hpost⟩ := HNONE.out w3 HB3.out.1 ⟨_, HB3.out.2.2.1, rfl⟩ HN.out
      refine bodyPost_ret (v := .tuple #[.agg #[.int .i64 0, .int .i64 0, .slice none 0 0, .int .i64 0], .int .i64 3]) (by simp [results, Tryd.results11, go_sem, e0, e1, e2, e3]) rfl ?_
      exact hpost
end Go.Proofs.YtopfpfpefljkkaaDoor
