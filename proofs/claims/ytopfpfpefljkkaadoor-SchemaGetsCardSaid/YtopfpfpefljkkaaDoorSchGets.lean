/- The walk of SchemaGets. -/
import Derived.Test.YtopfpfpefljkkaaDoorSchSame
import Derived.Test.YtopfpfpefljkkaaDoorRefGet
import Derived.Test.YtopfpfpefljkkaaDoorTypePut
import Derived.Lib.Strings
namespace Go.Proofs.YtopfpfpefljkkaaDoor
open Go.RowKit
set_option linter.unusedVariables false
set_option linter.unusedSimpArgs false

theorem bs_mk (a : ByteArray) : (⟨a.data.toList.toArray⟩ : ByteArray) = a := by
  apply ByteArray.ext
  simp

set_option maxRecDepth 100000 in
theorem schema_gets_far (s : ByteArray) (w : World) (hs : s.size ≤ maxLen) (hT : TabU w) (h : 1000 < s.size) :
    Calls Tryd.prog 4 #[.string s] w fun e w' => e = .returned (.bool true) ∧ Below w.heap.size w w' := by
  have CA := Lib.hid (sch_alive w hT)
  have d0 : decide (1000 < s.size) = true := decide_eq_true h
  have d1 : decide ((1000 : Int) < (s.size : Int)) = true := by simp; omega
  unfold maxLen at hs
  clear hT h
  go_enter Tryd.func4, Tryd.ntmps4
  go_wp2_with fail
  refine (CA.out).mono ?_
  rintro e w1 ⟨rfl, hb1⟩
  have HB := Lib.hid hb1
  clear hb1
  go_wp2_with fail
  go_returns
  exact ⟨rfl, HB.out⟩

set_option maxRecDepth 100000 in
set_option maxHeartbeats 4000000 in
theorem schema_gets_near (s : ByteArray) (w : World) (hs : s.size ≤ maxLen) (hT : TabU w) (hS : TabS w) (h : s.size ≤ 1000) :
    Calls Tryd.prog 4 #[.string s] w fun e w' => e = .returned (.bool true) ∧ Below w.heap.size w w' := by
  have hT0 := hT.lt
  have hS0 := hS.lt
  have CA := Lib.hid (sch_alive w hT)
  obtain ⟨B, hB⟩ : ∃ B, w.heap.size = B := ⟨_, rfl⟩
  have HTT := Lib.hid (And.intro hT hS)
  rw [hB] at hT0 hS0 ⊢
  have HB0 := Lib.hid hB
  have d0 : decide (1000 < s.size) = false := decide_eq_false (by omega)
  have d1 : decide ((1000 : Int) < (s.size : Int)) = false := by simp; omega
  have HH := Lib.hid h
  have HSM := Lib.hid hs
  clear hT hS hB h hs
  go_enter Tryd.func4, Tryd.ntmps4
  go_wp2_with fail
  refine (CA.out).mono ?_
  rintro e w1 ⟨rfl, hb1⟩
  rw [HB0.out] at hb1
  have L1 := Lib.hid hb1
  have CG := Lib.hid (prog_get s w1 HSM.out (HTT.out.1.below hb1 hT0))
  have hz1 : B ≤ w1.heap.size := by have := hb1.size; have := HB0.out; omega
  clear hb1 CA
  go_wp2_with fail
  refine (CG.out).mono ?_
  rintro e w2 ⟨a, o, n, c, er, sub, rfl, hb2, hwf, hs2, hres⟩
  have R1 := Lib.hid hres
  have L2 := Lib.hid (L1.out.trans (hb2.mono hz1))
  have hz2 : w1.heap.size ≤ w2.heap.size := hb2.size
  have HA2 : Hid (∀ W, w2.alloc (.cells #[.int .i64 a.kind, .int .i64 a.size, .slice o n c, .int .i64 a.tail] TT) = W → Below w2.heap.size w2 W ∧ Blk W w2.heap.size #[.int .i64 a.kind, .int .i64 a.size, .slice o n c, .int .i64 a.tail] TT ∧ TSubs W (.slice o n c) sub ∧ W.heap.size = w2.heap.size + 1) := Lib.hid fun W h => by
    subst h
    have hal := (Below.refl w2.heap.size w2).alloc (Nat.le_refl _) (.cells #[.int .i64 a.kind, .int .i64 a.size, .slice o n c, .int .i64 a.tail] TT)
    exact ⟨hal, Blk.new w2 _ _, Shape.Subs.below hs2 hal, by simp⟩
  clear hres hb2 hwf hs2 CG
  go_upto_region 6 with fail
  generalize w2.alloc (.cells #[.int .i64 a.kind, .int .i64 a.size, .slice o n c, .int .i64 a.tail] TT) = w3 at *
  have G3 := Lib.hid (HA2.out _ rfl)
  have L3 := Lib.hid (L2.out.trans (G3.out.1.mono (by omega)))
  have hz3 : w2.heap.size < w3.heap.size := by have := G3.out.2.2.2; omega
  have CD := Lib.hid (doc_get s w3 HH.out)
  clear HA2
  go_wp2_with fail
  refine (CD.out).mono ?_
  rintro e w4 ⟨a', o', n', c', er', sub', rfl, hb4, hwf, hs4, hres⟩
  have HEQ : Hid (a' = a ∧ sub' = sub ∧ er' = er ∧ ((er = 0 ∧ getT s.data.toList = some (.node a sub)) ∨ er = 3)) := Lib.hid (by
    have e := getT_getP s.data.toList
    rcases R1.out with ⟨h1, h2⟩ | ⟨h1, h2, h3, h4⟩
    · rcases hres with ⟨g1, g2⟩ | ⟨g1, g2, g3, g4⟩
      · rw [h1, g1] at e
        have e2 := Option.some.inj e
        simp only [Rose.node.injEq] at e2
        exact ⟨e2.1.symm, e2.2.symm, by rw [g2, h2], .inl ⟨h2, h1⟩⟩
      · rw [h1, g1] at e; cases e
    · rcases hres with ⟨g1, g2⟩ | ⟨g1, g2, g3, g4⟩
      · rw [h1, g1] at e; cases e
      · exact ⟨by rw [g3, h3], by rw [g4, h4], by rw [g2, h2], .inr h2⟩)
  obtain ⟨rfl, rfl, rfl, her⟩ := HEQ.out
  have HER := Lib.hid her
  have hz4 : w3.heap.size ≤ w4.heap.size := hb4.size
  have L4 := Lib.hid (L3.out.trans (hb4.mono (by omega)))
  have HA4 : Hid (∀ W, w4.alloc (.cells #[.int .i64 a'.kind, .int .i64 a'.size, .slice o' n' c', .int .i64 a'.tail] TT) = W → Below B w W ∧ Blk W w4.heap.size #[.int .i64 a'.kind, .int .i64 a'.size, .slice o' n' c', .int .i64 a'.tail] TT ∧ TSubs W (.slice o' n' c') sub' ∧ W.heap.size = w4.heap.size + 1 ∧
      Blk W w2.heap.size #[.int .i64 a'.kind, .int .i64 a'.size, .slice o n c, .int .i64 a'.tail] TT ∧ TSubs W (.slice o n c) sub') := Lib.hid fun W h => by
    subst h
    have hal := (Below.refl w4.heap.size w4).alloc (Nat.le_refl _) (.cells #[.int .i64 a'.kind, .int .i64 a'.size, .slice o' n' c', .int .i64 a'.tail] TT)
    exact ⟨L4.out.trans (hal.mono (by omega)), Blk.new w4 _ _, Shape.Subs.below hs4 hal, by simp, Below.blk hal (Below.blk hb4 G3.out.2.1 hz3) (by omega), Shape.Subs.below (Shape.Subs.below G3.out.2.2.1 hb4) hal⟩
  clear hres hb4 hwf hs4 CD her
  go_upto_region 7 with fail
  generalize w4.alloc (.cells #[.int .i64 a'.kind, .int .i64 a'.size, .slice o' n' c', .int .i64 a'.tail] TT) = w5 at *
  have G5 := Lib.hid (HA4.out _ rfl)
  have k0 := G5.out.2.2.2.2.1.cell 0
  have k1 := G5.out.2.2.2.2.1.cell 1
  have k2 := G5.out.2.2.2.2.1.cell 2
  have k3 := G5.out.2.2.2.2.1.cell 3
  have q0 := G5.out.2.1.cell 0
  have q1 := G5.out.2.1.cell 1
  have q2 := G5.out.2.1.cell 2
  have q3 := G5.out.2.1.cell 3
  simp only [List.getElem?_toArray, List.getElem?_cons_zero, List.getElem?_cons_succ] at k0 k1 k2 k3 q0 q1 q2 q3
  have CS : Hid (Calls Tryd.prog 10 #[.agg #[.int .i64 a'.kind, .int .i64 a'.size, .slice o n c, .int .i64 a'.tail], .agg #[.int .i64 a'.kind, .int .i64 a'.size, .slice o' n' c', .int .i64 a'.tail]] w5 fun e w' => e = .returned (.bool true) ∧ Below w5.heap.size w5 w') := Lib.hid (by
    have := doc_same (.node a' sub') (.node a' sub') w5 (.slice o n c) (.slice o' n' c') G5.out.2.2.2.2.2 G5.out.2.2.1
    rwa [same_refl] at this)
  have hz5 : w4.heap.size < w5.heap.size := by have := G5.out.2.2.2.1; omega
  clear HA4 R1 HEQ
  rcases HER.out with ⟨rfl, hget⟩ | rfl
  · have HG := Lib.hid (put_getT hget)
    clear hget HER
    go_wp2_with fail
    refine (CS.out).mono ?_
    rintro e w6 ⟨rfl, hb6⟩
    have hlt2 : w2.heap.size < w5.heap.size := by omega
    have l0 := (hb6.cell (p := ⟨w2.heap.size, 0, none⟩) hlt2).trans k0
    have l1 := (hb6.cell (p := ⟨w2.heap.size, 1, none⟩) hlt2).trans k1
    have l2 := (hb6.cell (p := ⟨w2.heap.size, 2, none⟩) hlt2).trans k2
    have l3 := (hb6.cell (p := ⟨w2.heap.size, 3, none⟩) hlt2).trans k3
    have L6 := Lib.hid (G5.out.1.trans (hb6.mono (by omega)))
    have CP : Hid (Calls Tryd.prog 13 #[.agg #[.int .i64 a'.kind, .int .i64 a'.size, .slice o n c, .int .i64 a'.tail]] w6 fun e w' => e = .returned (.tuple #[.string s, .int .i64 0]) ∧ Below w6.heap.size w6 w') := Lib.hid (by
      have := prog_put (.node a' sub') w6 (.slice o n c) (Shape.Subs.below G5.out.2.2.2.2.2 hb6) (HTT.out.1.below L6.out hT0) (HTT.out.2.below L6.out hS0)
      rw [if_pos HG.out.2, HG.out.1, bs_mk s] at this
      exact this)
    have hz6 : B ≤ w6.heap.size := by have := hb6.size; omega
    have hbe : (s.toList == s.toList) = true := by simp
    clear hb6 k0 k1 k2 k3 q0 q1 q2 q3 CS
    go_wp2_with fail
    refine (CP.out).mono ?_
    rintro e w7 ⟨rfl, hb7⟩
    have L7 := Lib.hid (L6.out.trans (hb7.mono hz6))
    clear hb7 l0 l1 l2 l3
    go_wp2_with fail
    go_returns
    exact ⟨rfl, L7.out⟩
  · clear HER
    go_wp2_with fail
    refine (CS.out).mono ?_
    rintro e w6 ⟨rfl, hb6⟩
    have L6 := Lib.hid (G5.out.1.trans (hb6.mono (by omega)))
    clear hb6 k0 k1 k2 k3 q0 q1 q2 q3 CS
    go_wp2_with fail
    go_returns
    exact ⟨rfl, L6.out⟩

theorem schema_gets (s : ByteArray) (w : World) (hs : s.size ≤ maxLen) (hTT : TabU w ∧ TabS w) :
    Calls Tryd.prog 4 #[.string s] w fun e w' => e = .returned (.bool true) ∧ Below w.heap.size w w' := by
  rcases Nat.lt_or_ge 1000 s.size with h | h
  · exact schema_gets_far s w hs hTT.1 h
  · exact schema_gets_near s w hs hTT.1 hTT.2 h
end Go.Proofs.YtopfpfpefljkkaaDoor
