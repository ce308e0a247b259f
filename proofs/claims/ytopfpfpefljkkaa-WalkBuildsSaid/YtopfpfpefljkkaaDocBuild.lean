/- The document's Build of tokens. -/
import Derived.Test.YtopfpfpefljkkaaDocParse
namespace Go.Proofs.Ytopfpfpefljkkaa
open Go.RowKit
set_option linter.unusedVariables false
set_option linter.unusedSimpArgs false

/-- What the document's Build tells. -/
def DocPost (T : List Tk) (w : World) (e : Ending) (w' : World) : Prop := match docB T with
  | none => e = .returned (.tuple #[.agg #[.string ⟨#[]⟩, .bool false, .slice none 0 0], .bool false]) ∧ Below w.heap.size w w'
  | some x => ∃ o c, e = .returned (.tuple #[.agg #[.string (txt x.lab), .bool x.lab.list, .slice o x.sub.length c], .bool true]) ∧ ISubs w' (.slice o x.sub.length c) x.sub ∧ x.lab.text.length ≤ maxLen ∧ Below w.heap.size w w'
theorem put3_at {W : World} {g : Nat} {a b c a2 b2 c2 : Value} {t : TypeId} (h : Blk W g #[a2, b2, c2] t) :
    (put3 W g 0 a b c).cell? ⟨g, 0, none⟩ = some a ∧ (put3 W g 0 a b c).cell? ⟨g, 1, none⟩ = some b ∧ (put3 W g 0 a b c).cell? ⟨g, 2, none⟩ = some c := by
  have hB : Blk (put3 W g 0 a b c) g #[a, b, c] t := ((h.set 0 _).set 1 _).set 2 _
  exact ⟨hB.cell 0, hB.cell 1, hB.cell 2⟩
/-- Two blocks of Build: the result's, the item's. -/
structure BI (g : Nat) (w0 : World) (c : Nat) (T : ByteArray) (l : Bool) (u : Value) (W : World) : Prop where
  res : Blk W g #[.string ⟨#[]⟩, .bool false, .slice none 0 0] IT
  x : Blk W c #[.string T, .bool l, u] IT
  bel : Below g w0 W

set_option maxRecDepth 100000 in
set_option maxHeartbeats 2000000 in
theorem doc_build (T : List Tk) (hT : T.length ≤ 100000) (htx : ∀ t, t ∈ T → t.text.size ≤ maxLen) (w : World) (v : Value) (h : RdG tkf 2 w v T) :
    Calls Try.prog 33 #[v] w (DocPost T w) := by
  obtain ⟨oa, cap, rfl⟩ := h.slice
  obtain ⟨g, hg⟩ : ∃ g, w.heap.size = g := ⟨_, rfl⟩
  obtain ⟨POST, hP⟩ : ∃ P0, DocPost T w = P0 := ⟨_, rfl⟩
  have HP := Lib.hid hP
  rw [hP]
  have hb1 := (Below.refl w.heap.size w).alloc (Nat.le_refl _) (.cells #[.string ⟨#[]⟩, .bool false, .slice none 0 0] IT)
  have hres := Blk.new w #[.string ⟨#[]⟩, .bool false, .slice none 0 0] IT
  have CP0 := Lib.hid (doc_parse T hT htx 16 0 _ _ (h.below hb1) (by decide) (Nat.zero_le _))
  have hs1 : (w.alloc (.cells #[.string ⟨#[]⟩, .bool false, .slice none 0 0] IT)).heap.size = g + 1 := by simp [hg]
  rw [hg] at hb1 hres
  have HB1 := Lib.hid hb1
  have HRES := Lib.hid hres
  rw [List.drop_zero] at CP0
  obtain ⟨Y, hY⟩ : ∃ Y, parseK 16 T = Y := ⟨_, rfl⟩
  rw [hY] at CP0
  have hY' := hY
  obtain ⟨N, hN⟩ : ∃ N, T.length = N := ⟨_, rfl⟩
  have CP : Hid (Calls Try.prog 48 #[.slice oa T.length cap, .int .i64 0, .int .i64 1] (w.alloc (.cells #[.string ⟨#[]⟩, .bool false, .slice none 0 0] IT)) (ParsePost T Y (w.alloc (.cells #[.string ⟨#[]⟩, .bool false, .slice none 0 0] IT)))) := CP0
  clear CP0
  rw [hN] at CP hT ⊢
  have HN := Lib.hid hN
  clear h hb1 hres hP hY htx
  have HINI : Hid (∀ c Tx l u w2, Below (g + 1) (w.alloc (.cells #[.string ⟨#[]⟩, .bool false, .slice none 0 0] IT)) w2 → w2.heap.size = c → BI g w c Tx l u (w2.alloc (.cells #[.string Tx, .bool l, u] IT))) := Lib.hid fun c Tx l u w2 hb hc => by
    subst hc
    have hb' := hb.alloc (by rw [← hs1]; exact hb.size) (.cells #[.string Tx, .bool l, u] IT)
    exact ⟨Below.blk hb' HRES.out (Nat.lt_succ_self _), Blk.new _ _ _, HB1.out.trans (hb'.mono (by omega))⟩
  cases Y with
  | none =>
    have HD : Hid (docB T = none) := Lib.hid (by unfold docB; rw [hY'])
    unfold ParsePost at CP
    dsimp only at CP
    go_enter Try.func33, Try.ntmps33
    go_wp2_with fail
    refine CP.out.mono ?_
    rintro e w2 ⟨rfl, hb2⟩
    rw [hs1] at hb2
    have HI := Lib.hid (HINI.out _ ⟨#[]⟩ false (.slice none 0 0) w2 hb2 rfl)
    clear hb2 CP HINI
    go_upto_region 2 with fail
    generalize w2.alloc _ = w3 at *
    have z0 := HI.out.res.free 0
    have z1 := HI.out.res.free 1
    have z2 := HI.out.res.free 2
    have q0 := HI.out.res.cell 0
    have q1 := HI.out.res.cell 1
    have q2 := HI.out.res.cell 2
    have HQ := Lib.hid (put3_at (a := .string ⟨#[]⟩) (b := .bool false) (c := .slice none 0 0) HI.out.res)
    go_wp2_with fail
    rw [put3_eq]
    obtain ⟨d0, d1, d2⟩ := HQ.out
    refine bodyPost_ret (v := .tuple #[.agg #[.string ⟨#[]⟩, .bool false, .slice none 0 0], .bool false]) (by simp [results, Try.results33, go_sem, d0, d1, d2]) rfl ?_
    rw [← HP.out]
    unfold DocPost
    rw [HD.out]
    exact ⟨rfl, hg.symm ▸ Upd.below (put3_upd w3 g 0 _ _ _) HI.out.bel (Nat.le_refl _) (Nat.le_of_lt HI.out.res.lt)⟩
  | some y =>
    obtain ⟨⟨xa, xs⟩, yl⟩ := y
    unfold ParsePost at CP
    dsimp only [Rose.lab_node, Rose.sub_node] at CP
    rw [HN.out] at CP
    obtain ⟨a2, ha2⟩ : ∃ a2, N - yl.length = a2 := ⟨_, rfl⟩
    have hyl : yl.length ≤ N := by
      have := congrArg List.length (parse_sound _ _ _ _ hY').1
      rw [List.length_append, HN.out] at this
      omega
    obtain ⟨xn, hxn⟩ : ∃ xn, xs.length = xn := ⟨_, rfl⟩
    rw [ha2, hxn] at CP
    cases yl with
    | cons t r =>
      have HD : Hid (docB T = none) := Lib.hid (by unfold docB; rw [hY'])
      simp only [List.length_cons] at ha2 hyl
      have hne : ((a2 : Int) != (N : Int)) = true := by simp; omega
      have ha3 : ¬ (a2 : Int) < 0 := by omega
      clear ha2 hyl hxn hY' HN
      go_enter Try.func33, Try.ntmps33
      go_wp2_with fail
      refine CP.out.mono ?_
      rintro e w2 ⟨o, c, rfl, _, _, hb2⟩
      rw [hs1] at hb2
      have HI := Lib.hid (HINI.out _ (txt xa) xa.list (.slice o xn c) w2 hb2 rfl)
      clear hb2 CP HINI
      go_upto_region 2 with fail
      generalize w2.alloc _ = w3 at *
      have z0 := HI.out.res.free 0
      have z1 := HI.out.res.free 1
      have z2 := HI.out.res.free 2
      have q0 := HI.out.res.cell 0
      have q1 := HI.out.res.cell 1
      have q2 := HI.out.res.cell 2
      have HQ := Lib.hid (put3_at (a := .string ⟨#[]⟩) (b := .bool false) (c := .slice none 0 0) HI.out.res)
      go_wp2_with fail
      rw [put3_eq]
      obtain ⟨d0, d1, d2⟩ := HQ.out
      refine bodyPost_ret (v := .tuple #[.agg #[.string ⟨#[]⟩, .bool false, .slice none 0 0], .bool false]) (by simp [results, Try.results33, go_sem, d0, d1, d2]) rfl ?_
      rw [← HP.out]
      unfold DocPost
      rw [HD.out]
      exact ⟨rfl, hg.symm ▸ Upd.below (put3_upd w3 g 0 _ _ _) HI.out.bel (Nat.le_refl _) (Nat.le_of_lt HI.out.res.lt)⟩
    | nil =>
      have HD : Hid (docB T = some (.node xa xs)) := Lib.hid (by unfold docB; rw [hY'])
      obtain rfl : a2 = N := by simp at ha2; omega
      go_enter Try.func33, Try.ntmps33
      go_wp2_with fail
      refine CP.out.mono ?_
      rintro e w2 ⟨o, c, rfl, hx2, hxl, hb2⟩
      rw [hs1] at hb2
      have HI := Lib.hid (HINI.out _ (txt xa) xa.list (.slice o xn c) w2 hb2 rfl)
      have HX : Hid (ISubsQ (w2.alloc (.cells #[.string (txt xa), .bool xa.list, .slice o xn c] IT)) (fun c => g + 1 ≤ c) (.slice o xn c) xs) := Lib.hid (hs1 ▸ Shape.Subs.below hx2 ((Below.refl _ w2).alloc (Nat.le_refl _) _))
      have HXL := Lib.hid hxl
      clear hb2 CP HINI hx2 hxl
      go_upto_region 2 with fail
      generalize w2.alloc _ = w3 at *
      have z0 := HI.out.res.free 0
      have z1 := HI.out.res.free 1
      have z2 := HI.out.res.free 2
      have q0 := HI.out.res.cell 0
      have q1 := HI.out.res.cell 1
      have q2 := HI.out.res.cell 2
      have x0 := HI.out.x.cell 0
      have x1 := HI.out.x.cell 1
      have x2 := HI.out.x.cell 2
      simp only [List.getElem?_toArray, List.getElem?_cons_zero, List.getElem?_cons_succ] at x0 x1 x2 q0 q1 q2
      have HQ := Lib.hid (put3_at (a := .string (txt xa)) (b := .bool xa.list) (c := .slice o xn c) HI.out.res)
      go_wp2_with fail
      rw [put3_eq]
      obtain ⟨d0, d1, d2⟩ := HQ.out
      refine bodyPost_ret (v := .tuple #[.agg #[.string (txt xa), .bool xa.list, .slice o xn c], .bool true]) (by simp [results, Try.results33, go_sem, d0, d1, d2]) rfl ?_
      rw [← HP.out]
      unfold DocPost
      rw [HD.out]
      refine ⟨o, c, by rw [Rose.sub_node, hxn, Rose.lab_node], ?_, HXL.out, hg.symm ▸ Upd.below (put3_upd w3 g 0 _ _ _) HI.out.bel (Nat.le_refl _) (Nat.le_of_lt HI.out.res.lt)⟩
      rw [Rose.sub_node, hxn]
      exact Shape.Subs.keep HX.out (by rw [put3_size]; exact Nat.le_refl _) (fun _ _ _ => trivial) fun c _ hc => put3_heap c (by have : g + 1 ≤ c := hc; omega)
end Go.Proofs.Ytopfpfpefljkkaa
