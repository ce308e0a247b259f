/- The document's types: Get. -/
import Derived.Test.YtopfpfpefljkkaaDoorRefParse
import Derived.Test.YtopfpfpefljkkaaDoorTypeGet
namespace Go.Proofs.YtopfpfpefljkkaaDoor
open Go.RowKit
set_option linter.unusedVariables false
set_option linter.unusedSimpArgs false

/-- What the document's Get leaves. -/
def DGetPost (l : List UInt8) (w : World) (e : Ending) (w' : World) : Prop :=
  ∃ (a : TL) (o : Option Addr) (n c : Nat) (er : Int) (sub : List (Rose TL)), e = .returned (.tuple #[.agg #[.int .i64 a.kind, .int .i64 a.size, .slice o n c, .int .i64 a.tail], .int .i64 er]) ∧ Below w.heap.size w w' ∧ TL.wf a ∧ TSubs w' (.slice o n c) sub ∧
    (getP l = some (.node a sub) ∧ er = 0 ∨ getP l = none ∧ er = 3 ∧ a = ⟨0, 0, 0⟩ ∧ sub = [])
theorem getP_none1 {l : List UInt8} (h : ps 8 l = none) : getP l = none := by unfold getP; rw [h]
theorem getP_none2 {l r : List UInt8} {x : Rose TL} (h : ps 8 l = some (x, r)) (hr : r ≠ []) : getP l = none := by
  unfold getP; rw [h]
  cases r with
  | nil => exact absurd rfl hr
  | cons _ _ => rfl
theorem getP_some {l : List UInt8} {x : Rose TL} (h : ps 8 l = some (x, [])) : getP l = if mayT x then some x else none := by unfold getP; rw [h]

/-- How many nodes what is parsed has. -/
theorem pflds_count {pf : List UInt8 → Option (Rose TL × List UInt8)} (h : ∀ l y, pf l = some y → y.1.count + y.2.length ≤ l.length) :
    ∀ (g : Nat) (l : List UInt8) (sub : List (Rose TL)) (tail : Nat) (y : Rose TL × List UInt8), pflds pf g l sub tail = some y → y.1.count + y.2.length ≤ l.length + Rose.countL sub := by
  intro g
  induction g with
  | zero => intro l sub tail y hy; simp [pflds] at hy
  | succ g ih =>
    intro l sub tail y hy
    cases l with
    | nil => simp [pflds] at hy
    | cons b r =>
      simp only [pflds] at hy
      split at hy
      · cases hy
        simp only [Rose.count, List.length_cons]; omega
      · simp only [Option.bind_eq_some_iff] at hy
        obtain ⟨l1, h1, q, h2, x, h3, h4⟩ := hy
        have a1 := ih _ _ _ _ h4
        have a2 := h _ _ h3
        have a3 := mark_length h2
        have a4 : l1.length ≤ (b :: r).length := by
          split at h1
          · cases h1; exact Nat.le_refl _
          · split at h1
            · cases h1; simp
            · cases h1
        simp only [Rose.countL_append, Rose.countL] at a1
        omega
theorem ps_count : ∀ (d : Nat) (l : List UInt8) (y : Rose TL × List UInt8), ps d l = some y → y.1.count + y.2.length ≤ l.length := by
  intro d
  induction d with
  | zero => intro l y h; simp [ps] at h
  | succ d ih =>
    intro l y h
    cases l with
    | nil => simp [ps] at h
    | cons b r =>
      simp only [ps] at h
      split at h
      · simp only [Option.bind_eq_some_iff] at h
        obtain ⟨q, h1, h2⟩ := h
        have := numC_length h1
        split at h2
        · cases h2; simp [Rose.count, Rose.countL]; omega
        · cases h2
      split at h
      · simp only [Option.bind_eq_some_iff] at h
        obtain ⟨q, h1, h2⟩ := h
        have := numC_length h1
        cases h2; simp [Rose.count, Rose.countL]; omega
      split at h
      · simp only [Option.bind_eq_some_iff] at h
        obtain ⟨q, h1, h2⟩ := h
        have := numC_length h1
        cases h2; simp [Rose.count, Rose.countL]; omega
      split at h
      · simp only [Option.bind_eq_some_iff] at h
        obtain ⟨x, h1, h2⟩ := h
        have a1 := ih _ _ h1
        split at h2
        · rename_i r2 e
          simp only [Option.bind_eq_some_iff] at h2
          obtain ⟨q, h3, h4⟩ := h2
          have a2 := numC_length h3
          rw [e] at a1
          split at h4
          · rename_i r4 e4
            cases h4
            rw [e4] at a2
            simp only [List.length_cons, Rose.count, Rose.countL] at a1 a2 ⊢
            omega
          · cases h4
        · cases h2
      split at h
      · have := pflds_count ih _ _ _ _ _ h
        simp only [List.length_cons, Rose.countL] at this ⊢
        omega
      · cases h

set_option maxRecDepth 100000 in
set_option maxHeartbeats 2000000 in
theorem doc_get (s : ByteArray) (w : World) (hs : s.size ≤ 1000) :
    Calls Tryd.prog 12 #[.string s] w (DGetPost s.data.toList w) := by
  obtain ⟨g, hg⟩ : ∃ g, w.heap.size = g := ⟨_, rfl⟩
  have HA : Hid (∀ W, w.alloc (.cells #[.int .i64 0, .int .i64 0, .slice none 0 0, .int .i64 0] TT) = W → Below g w W ∧ Blk W g #[.int .i64 0, .int .i64 0, .slice none 0 0, .int .i64 0] TT ∧ W.heap.size = g + 1) := Lib.hid fun W h => by
    subst h
    have hal := (Below.refl w.heap.size w).alloc (Nat.le_refl _) (.cells #[.int .i64 0, .int .i64 0, .slice none 0 0, .int .i64 0] TT)
    have hb1 := Blk.new w #[.int .i64 0, .int .i64 0, .slice none 0 0, .int .i64 0] TT
    rw [hg] at hal hb1
    exact ⟨hal, hb1, by simp; omega⟩
  obtain ⟨POST, hP⟩ : ∃ POST, DGetPost s.data.toList w = POST := ⟨_, rfl⟩
  have HP := Lib.hid hP
  rw [hP]
  clear hP
  go_enter Tryd.func12, Tryd.ntmps12
  go_upto_region 1 with fail
  generalize w.alloc (.cells #[.int .i64 0, .int .i64 0, .slice none 0 0, .int .i64 0] TT) = w1 at *
  have H1 := Lib.hid (HA.out _ rfl)
  have CR : Hid (Calls Tryd.prog 24 #[.string s, .int .i64 0, .int .i64 1] w1 (PPost (ps 8 (tailS s 0)) s w1)) := Lib.hid (ref_parse s hs 8 1 0 w1 rfl (Nat.zero_le _))
  clear HA
  go_wp2_with fail
  refine (CR.out).mono ?_
  rintro e w2 ⟨a, o, n, c, z, rfl, hb2, hres⟩
  have hsz2 : g + 1 ≤ w2.heap.size := by have := hb2.size; have := H1.out.2.2; omega
  have HB2 : Hid (Below g w w2 ∧ Blk w2 g #[.int .i64 0, .int .i64 0, .slice none 0 0, .int .i64 0] TT) := Lib.hid ⟨H1.out.1.trans (hb2.mono (by have := H1.out.2.2; omega)), Below.blk hb2 H1.out.2.1 H1.out.2.1.lt⟩
  have HRES : Hid ((∃ sub q, ps 8 s.data.toList = some (.node a sub, tailS s q) ∧ z = (q : Nat) ∧ q ≤ s.size ∧ TL.wf a ∧ tshape.Subs w2 (fun k => g + 1 ≤ k) (.slice o n c) sub) ∨ (ps 8 s.data.toList = none ∧ z = -1)) := Lib.hid (by
    rcases hres with ⟨sub, q, h1, h2, h3, h4, h5⟩ | h
    · exact .inl ⟨sub, q, h1, h2, h3, h4, h5.keep (Nat.le_refl _) (fun k _ hk => by have := H1.out.2.2; omega) fun _ _ _ => rfl⟩
    · exact .inr h)
  have HA2 : Hid (∀ W, w2.alloc (.cells #[.int .i64 a.kind, .int .i64 a.size, .slice o n c, .int .i64 a.tail] TT) = W → Below w2.heap.size w2 W ∧ Blk W w2.heap.size #[.int .i64 a.kind, .int .i64 a.size, .slice o n c, .int .i64 a.tail] TT ∧ W.heap.size = w2.heap.size + 1) := Lib.hid fun W h => by
    subst h
    exact ⟨(Below.refl w2.heap.size w2).alloc (Nat.le_refl _) _, Blk.new w2 _ _, by simp⟩
  clear hb2 hres CR H1
  go_upto_region 2 with fail
  generalize w2.alloc (.cells #[.int .i64 a.kind, .int .i64 a.size, .slice o n c, .int .i64 a.tail] TT) = w3 at *
  obtain ⟨hbl3, hB3, hs3⟩ := HA2.out _ rfl
  have HB3 : Hid (Below g w w3 ∧ Blk w3 g #[.int .i64 0, .int .i64 0, .slice none 0 0, .int .i64 0] TT ∧ Blk w3 w2.heap.size #[.int .i64 a.kind, .int .i64 a.size, .slice o n c, .int .i64 a.tail] TT ∧ Below w2.heap.size w2 w3) :=
    Lib.hid ⟨HB2.out.1.trans (hbl3.mono (by omega)), Below.blk hbl3 HB2.out.2 (by omega), hB3, hbl3⟩
  have hs3' : w2.heap.size < w3.heap.size := by omega
  clear HA2 hbl3 hB3 hs3
  have k0 := HB3.out.2.2.1.cell 0
  have k1 := HB3.out.2.2.1.cell 1
  have k2 := HB3.out.2.2.1.cell 2
  have k3 := HB3.out.2.2.1.cell 3
  have r0 := HB3.out.2.1.cell 0
  have r1 := HB3.out.2.1.cell 1
  have r2 := HB3.out.2.1.cell 2
  have r3 := HB3.out.2.1.cell 3
  have y0 := HB3.out.2.1.free 0
  have y1 := HB3.out.2.1.free 1
  have y2 := HB3.out.2.1.free 2
  have y3 := HB3.out.2.1.free 3
  simp only [List.getElem?_toArray, List.getElem?_cons_zero, List.getElem?_cons_succ] at k0 k1 k2 k3 r0 r1 r2 r3
  have HNONE : Hid (∀ W, Below g w W → (∃ cs, Blk W g cs TT ∧ cs.size = 4) → getP s.data.toList = none → (put4 W g (.int .i64 0) (.int .i64 0) (.slice none 0 0) (.int .i64 0)).cell? ⟨g, 0, none⟩ = some (.int .i64 0) ∧ (put4 W g (.int .i64 0) (.int .i64 0) (.slice none 0 0) (.int .i64 0)).cell? ⟨g, 1, none⟩ = some (.int .i64 0) ∧
      (put4 W g (.int .i64 0) (.int .i64 0) (.slice none 0 0) (.int .i64 0)).cell? ⟨g, 2, none⟩ = some (.slice none 0 0) ∧ (put4 W g (.int .i64 0) (.int .i64 0) (.slice none 0 0) (.int .i64 0)).cell? ⟨g, 3, none⟩ = some (.int .i64 0) ∧
      POST (.returned (.tuple #[.agg #[.int .i64 0, .int .i64 0, .slice none 0 0, .int .i64 0], .int .i64 3])) (put4 W g (.int .i64 0) (.int .i64 0) (.slice none 0 0) (.int .i64 0))) := Lib.hid fun W hW hB hN => by
    obtain ⟨e0, e1, e2, e3, hbl⟩ := res_end hW hB (.int .i64 0) (.int .i64 0) (.slice none 0 0) (.int .i64 0)
    refine ⟨e0, e1, e2, e3, ?_⟩
    rw [← HP.out]
    exact ⟨⟨0, 0, 0⟩, none, 0, 0, 3, [], rfl, hg ▸ hbl, tl_wf (by omega), subs_nil' _ _, .inr ⟨hN, rfl, rfl, rfl⟩⟩
  rcases HRES.out with ⟨sub, q, h1, rfl, h3, h4, h5⟩ | ⟨h1, rfl⟩
  · by_cases hend : q = s.size
    · have d0 : ((q : Int) != s.size) = false := by simp [hend]
      have h1' : ps 8 s.data.toList = some (.node a sub, []) := by rw [h1, tailS_end (by omega)]
      have HGT := Lib.hid (getP_some h1')
      have HWF := Lib.hid h4
      have HTS : Hid (tshape.Subs w3 (fun k => g + 1 ≤ k) (.slice o n c) sub) := Lib.hid (h5.keep HB3.out.2.2.2.size (fun _ _ h => h) fun k hk _ => HB3.out.2.2.2.block k hk)
      have hcn := ps_count _ _ _ h1'
      have hln : s.data.toList.length = s.size := rfl
      have CM := Lib.hid (doc_may (.node a sub) w3 (.slice o n c) (HTS.out.keep (Nat.le_refl _) (fun _ _ _ => trivial) fun _ _ _ => rfl) (by simp only [List.length_nil] at hcn; omega))
      have HEND := Lib.hid hend
      clear h1 h1' h4 h5 hend HRES hcn hln
      simp only [Rose.lab_node] at CM
      have KEEP : Hid (∀ W, Below w3.heap.size w3 W → Below g w W ∧ (∃ cs, Blk W g cs TT ∧ cs.size = 4) ∧ tshape.Subs W (fun k => g + 1 ≤ k) (.slice o n c) sub ∧ Blk W g #[.int .i64 0, .int .i64 0, .slice none 0 0, .int .i64 0] TT ∧ Blk W w2.heap.size #[.int .i64 a.kind, .int .i64 a.size, .slice o n c, .int .i64 a.tail] TT) := Lib.hid fun W h =>
        ⟨HB3.out.1.trans (h.mono (by omega)), ⟨_, Below.blk h HB3.out.2.1 (by omega), rfl⟩, HTS.out.below h, Below.blk h HB3.out.2.1 (by omega), Below.blk h HB3.out.2.2.1 hs3'⟩
      cases hm : mayT (.node a sub) with
      | false =>
        rw [hm] at CM HGT
        clear hm
        go_wp2_with fail
        refine (CM.out).mono ?_
        rintro e w4 ⟨rfl, hb4⟩
        have K4 := Lib.hid (KEEP.out w4 hb4)
        clear hb4 r0 r1 r2 r3 y0 y1 y2 y3 k0 k1 k2 k3
        obtain ⟨⟨x0, r0⟩, ⟨x1, r1⟩, ⟨x2, r2⟩, ⟨x3, r3⟩, y0, y1, y2, y3⟩ := res_cells K4.out.2.1
        go_wp2_with fail
        rw [put4_eq]
        obtain ⟨e0, e1, e2, e3, hpost⟩ := HNONE.out w4 K4.out.1 K4.out.2.1 (by rw [HGT.out]; rfl)
        refine bodyPost_ret (v := .tuple #[.agg #[.int .i64 0, .int .i64 0, .slice none 0 0, .int .i64 0], .int .i64 3]) (by simp [results, Tryd.results12, go_sem, e0, e1, e2, e3]) rfl ?_
        exact hpost
      | true =>
        rw [hm] at CM HGT
        clear hm
        go_wp2_with fail
        refine (CM.out).mono ?_
        rintro e w4 ⟨rfl, hb4⟩
        have K4 := Lib.hid (KEEP.out w4 hb4)
        clear hb4 r0 r1 r2 r3 y0 y1 y2 y3 k0 k1 k2 k3
        obtain ⟨⟨x0, r0⟩, ⟨x1, r1⟩, ⟨x2, r2⟩, ⟨x3, r3⟩, y0, y1, y2, y3⟩ := res_cells K4.out.2.1
        have k0 := K4.out.2.2.2.2.cell 0
        have k1 := K4.out.2.2.2.2.cell 1
        have k2 := K4.out.2.2.2.2.cell 2
        have k3 := K4.out.2.2.2.2.cell 3
        simp only [List.getElem?_toArray, List.getElem?_cons_zero, List.getElem?_cons_succ] at k0 k1 k2 k3
        go_wp2_with fail
        rw [put4_eq]
        obtain ⟨e0, e1, e2, e3, hbl⟩ := res_end K4.out.1 K4.out.2.1 (.int .i64 a.kind) (.int .i64 a.size) (.slice o n c) (.int .i64 a.tail)
        refine bodyPost_ret (v := .tuple #[.agg #[.int .i64 a.kind, .int .i64 a.size, .slice o n c, .int .i64 a.tail], .int .i64 0]) (by simp [results, Tryd.results12, go_sem, e0, e1, e2, e3]) rfl ?_
        rw [← HP.out]
        exact ⟨a, o, n, c, 0, sub, rfl, hg ▸ hbl, HWF.out, (put4_subs K4.out.2.2.1 (fun k hk => by omega)).keep (Nat.le_refl _) (fun _ _ _ => trivial) (fun _ _ _ => rfl), .inl ⟨by rw [HGT.out]; rfl, rfl⟩⟩
    · have d0 : ((q : Int) != s.size) = true := by rw [bne_iff_ne]; omega
      have HN : Hid (getP s.data.toList = none) := Lib.hid (getP_none2 h1 fun h => hend (tailS_nil h3 h))
      clear hend HRES h1 h4 h5
      go_wp2_with fail
      rw [put4_eq]
      obtain ⟨e0, e1, e2, e3, hpost⟩ := HNONE.out w3 HB3.out.1 ⟨_, HB3.out.2.1, rfl⟩ HN.out
      refine bodyPost_ret (v := .tuple #[.agg #[.int .i64 0, .int .i64 0, .slice none 0 0, .int .i64 0], .int .i64 3]) (by simp [results, Tryd.results12, go_sem, e0, e1, e2, e3]) rfl ?_
      exact hpost
  · have d0 : ((-1 : Int) != s.size) = true := by rw [bne_iff_ne]; omega
    have HN : Hid (getP s.data.toList = none) := Lib.hid (getP_none1 h1)
    clear HRES h1
    go_wp2_with fail
    rw [put4_eq]
    obtain ⟨e0, e1, e2, e3, hpost⟩ := HNONE.out w3 HB3.out.1 ⟨_, HB3.out.2.1, rfl⟩ HN.out
    refine bodyPost_ret (v := .tuple #[.agg #[.int .i64 0, .int .i64 0, .slice none 0 0, .int .i64 0], .int .i64 3]) (by simp [results, Tryd.results12, go_sem, e0, e1, e2, e3]) rfl ?_
    exact hpost
end Go.Proofs.YtopfpfpefljkkaaDoor
