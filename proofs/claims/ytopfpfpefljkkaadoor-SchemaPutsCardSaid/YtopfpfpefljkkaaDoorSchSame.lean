/- The walks of alive and of SchemaSame. -/
import Derived.Test.YtopfpfpefljkkaaDoorTypeGet
namespace Go.Proofs.YtopfpfpefljkkaaDoor
open Go.RowKit
set_option linter.unusedVariables false
set_option linter.unusedSimpArgs false

def exText : List UInt8 := [123, 117, 51, 50, 44, 91, 98, 50, 58, 57, 93, 44, 63, 115, 53, 125]
def exType : Rose TL := .node ⟨5, 0, 1⟩ [.node ⟨1, 4, 0⟩ [], .node ⟨4, 9, 0⟩ [.node ⟨2, 2, 0⟩ []], .node ⟨3, 5, 0⟩ []]
theorem ex_get : getT exText = some exType := by kernel_rfl
theorem ex_same : exType.same teq exType = true := by kernel_rfl
theorem row_cons {S : Shape TL} {w : World} {Q : Nat → Prop} {x : Rose TL} {xs : List (Rose TL)} {b off : Nat} (h : S.NodeAt w Q x b off) (h2 : S.RowAt w Q xs b (off + S.k)) : S.RowAt w Q (x :: xs) b off := by simp only [Shape.RowAt]; exact ⟨h, h2⟩
theorem row_nil {S : Shape TL} {w : World} {Q : Nat → Prop} {b off : Nat} : S.RowAt w Q [] b off := by simp only [Shape.RowAt]
theorem node_at {S : Shape TL} {w : World} {Q : Nat → Prop} {a : TL} {s : List (Rose TL)} {b off : Nat} (h : S.ok a) (v : Value) (hc : ∀ j, j < S.k → w.cell? ⟨b, off + j, none⟩ = (S.cells a v)[j]?) (hs : S.Subs w Q v s) : S.NodeAt w Q (.node a s) b off := by simp only [Shape.NodeAt]; exact ⟨h, v, hc, hs⟩

/-- What the law builds. -/
theorem ex_want (w : World) : ∀ W, (((w.alloc (.cells #[.int .i64 2, .int .i64 2, .slice none 0 0, .int .i64 0] TT)).alloc (.cells #[.int .i64 1, .int .i64 4, .slice none 0 0, .int .i64 0, .int .i64 4, .int .i64 9, .slice (some ⟨w.heap.size, 0, none⟩) 1 1, .int .i64 0, .int .i64 3, .int .i64 5, .slice none 0 0, .int .i64 0] TT)).alloc
      (.cells #[.int .i64 5, .int .i64 0, .slice (some ⟨w.heap.size + 1, 0, none⟩) 3 3, .int .i64 1] TT)) = W → Below w.heap.size w W ∧ W.heap.size = w.heap.size + 3 ∧ Blk W (w.heap.size + 2) #[.int .i64 5, .int .i64 0, .slice (some ⟨w.heap.size + 1, 0, none⟩) 3 3, .int .i64 1] TT ∧
      TSubs W (.slice (some ⟨w.heap.size + 1, 0, none⟩) 3 3) exType.sub := by
  rintro W rfl
  have b1 := (Below.refl w.heap.size w).alloc (Nat.le_refl _) (.cells #[.int .i64 2, .int .i64 2, .slice none 0 0, .int .i64 0] TT)
  have k1 := Blk.new w #[.int .i64 2, .int .i64 2, .slice none 0 0, .int .i64 0] TT
  have s1 : (w.alloc (.cells #[.int .i64 2, .int .i64 2, .slice none 0 0, .int .i64 0] TT)).heap.size = w.heap.size + 1 := by simp
  generalize w.alloc (.cells #[.int .i64 2, .int .i64 2, .slice none 0 0, .int .i64 0] TT) = w1 at *
  generalize w.heap.size = h at *
  have b2 := (Below.refl w1.heap.size w1).alloc (Nat.le_refl _) (.cells #[.int .i64 1, .int .i64 4, .slice none 0 0, .int .i64 0, .int .i64 4, .int .i64 9, .slice (some ⟨h, 0, none⟩) 1 1, .int .i64 0, .int .i64 3, .int .i64 5, .slice none 0 0, .int .i64 0] TT)
  have k2 := Blk.new w1 #[.int .i64 1, .int .i64 4, .slice none 0 0, .int .i64 0, .int .i64 4, .int .i64 9, .slice (some ⟨h, 0, none⟩) 1 1, .int .i64 0, .int .i64 3, .int .i64 5, .slice none 0 0, .int .i64 0] TT
  have s2 : (w1.alloc (.cells #[.int .i64 1, .int .i64 4, .slice none 0 0, .int .i64 0, .int .i64 4, .int .i64 9, .slice (some ⟨h, 0, none⟩) 1 1, .int .i64 0, .int .i64 3, .int .i64 5, .slice none 0 0, .int .i64 0] TT)).heap.size = h + 2 := by simp; omega
  generalize w1.alloc (.cells #[.int .i64 1, .int .i64 4, .slice none 0 0, .int .i64 0, .int .i64 4, .int .i64 9, .slice (some ⟨h, 0, none⟩) 1 1, .int .i64 0, .int .i64 3, .int .i64 5, .slice none 0 0, .int .i64 0] TT) = w2 at *
  have b3 := (Below.refl w2.heap.size w2).alloc (Nat.le_refl _) (.cells #[.int .i64 5, .int .i64 0, .slice (some ⟨h + 1, 0, none⟩) 3 3, .int .i64 1] TT)
  have k3 := Blk.new w2 #[.int .i64 5, .int .i64 0, .slice (some ⟨h + 1, 0, none⟩) 3 3, .int .i64 1] TT
  have s3 : (w2.alloc (.cells #[.int .i64 5, .int .i64 0, .slice (some ⟨h + 1, 0, none⟩) 3 3, .int .i64 1] TT)).heap.size = h + 3 := by simp; omega
  generalize w2.alloc (.cells #[.int .i64 5, .int .i64 0, .slice (some ⟨h + 1, 0, none⟩) 3 3, .int .i64 1] TT) = w3 at *
  rw [s1] at b2 k2
  rw [s2] at b3 k3
  have q1 : Blk w3 h #[.int .i64 2, .int .i64 2, .slice none 0 0, .int .i64 0] TT := Below.blk b3 (Below.blk b2 k1 (by omega)) (by omega)
  have q2 := Below.blk b3 k2 (by omega)
  have sub1 : TSubs w3 (.slice (some ⟨h, 0, none⟩) 1 1) [.node ⟨2, 2, 0⟩ []] := subs_one (a := ⟨2, 2, 0⟩) q1 (tl_wf (by omega)) (subs_nil _ _ _) trivial
  refine ⟨b1.trans (b2.mono (by omega)) |>.trans (b3.mono (by omega)), s3, k3, ?_⟩
  refine ⟨some ⟨h + 1, 0, none⟩, 3, rfl, Nat.le_refl _, by unfold maxLen; decide, fun _ => ⟨h + 1, 0, rfl, q2.lt, trivial, ?_⟩⟩
  simp only [exType, Rose.sub_node]
  refine row_cons (node_at (tl_wf (by omega)) (.slice none 0 0) (fun j hj => ?_) (subs_nil _ _ _)) (row_cons (node_at (tl_wf (by omega)) (.slice (some ⟨h, 0, none⟩) 1 1) (fun j hj => ?_) sub1) (row_cons (node_at (tl_wf (by omega)) (.slice none 0 0) (fun j hj => ?_) (subs_nil _ _ _)) row_nil))
  all_goals
    have hj4 : j < 4 := hj
    rw [q2.cell]
    have : j = 0 ∨ j = 1 ∨ j = 2 ∨ j = 3 := by omega
    rcases this with rfl | rfl | rfl | rfl <;> rfl

set_option maxRecDepth 100000 in
set_option maxHeartbeats 1000000 in
theorem sch_alive (w : World) (hT : TabU w) : Calls Tryd.prog 6 #[] w fun e w' => e = .returned (.bool true) ∧ Below w.heap.size w w' := by
  have CG : Hid (Calls Tryd.prog 11 #[.string ⟨#[123, 117, 51, 50, 44, 91, 98, 50, 58, 57, 93, 44, 63, 115, 53, 125]⟩] w (GetPost exText w)) := Lib.hid (prog_get ⟨#[123, 117, 51, 50, 44, 91, 98, 50, 58, 57, 93, 44, 63, 115, 53, 125]⟩ w (by unfold maxLen; decide) hT)
  obtain ⟨B, hB⟩ : ∃ B, w.heap.size = B := ⟨_, rfl⟩
  have HB := Lib.hid hB
  rw [hB]
  clear hT hB
  go_enter Tryd.func6, Tryd.ntmps6
  go_wp2_with fail
  refine (CG.out).mono ?_
  rintro e w1 ⟨a, o, n, c, er, sub, rfl, hb1, hwf, hs1, hres⟩
  obtain ⟨hget, rfl⟩ : exType = .node a sub ∧ er = 0 := by
    rcases hres with ⟨h1, h2⟩ | ⟨h1, _⟩
    · rw [ex_get] at h1; exact ⟨Option.some.inj h1, h2⟩
    · rw [ex_get] at h1; cases h1
  have HA1 : Hid (∀ W, w1.alloc (.cells #[.int .i64 a.kind, .int .i64 a.size, .slice o n c, .int .i64 a.tail] TT) = W → Below w1.heap.size w1 W ∧ Blk W w1.heap.size #[.int .i64 a.kind, .int .i64 a.size, .slice o n c, .int .i64 a.tail] TT ∧ W.heap.size = w1.heap.size + 1) := Lib.hid fun W h => by
    subst h
    exact ⟨(Below.refl w1.heap.size w1).alloc (Nat.le_refl _) _, Blk.new w1 _ _, by simp⟩
  have H1 := Lib.hid (And.intro hb1 (And.intro hs1 hget))
  clear hb1 hwf hs1 hres hget CG
  go_upto_region 2 with fail
  generalize w1.alloc (.cells #[.int .i64 a.kind, .int .i64 a.size, .slice o n c, .int .i64 a.tail] TT) = w2 at *
  obtain ⟨hb2, hB2, hz2⟩ := HA1.out _ rfl
  have H2 := Lib.hid (And.intro hb2 (And.intro hB2 hz2))
  have HX := Lib.hid (ex_want w2)
  clear hb2 hB2 hz2 HA1
  go_upto_region 3 with fail
  generalize ((w2.alloc (.cells #[.int .i64 2, .int .i64 2, .slice none 0 0, .int .i64 0] TT)).alloc (.cells #[.int .i64 1, .int .i64 4, .slice none 0 0, .int .i64 0, .int .i64 4, .int .i64 9, .slice (some ⟨w2.heap.size, 0, none⟩) 1 1, .int .i64 0, .int .i64 3, .int .i64 5, .slice none 0 0, .int .i64 0] TT)).alloc
      (.cells #[.int .i64 5, .int .i64 0, .slice (some ⟨w2.heap.size + 1, 0, none⟩) 3 3, .int .i64 1] TT) = w3 at *
  obtain ⟨hb3, hs3, hB3, hT3⟩ := HX.out _ rfl
  have hz2 : w2.heap.size = w1.heap.size + 1 := H2.out.2.2
  have hB2' := Below.blk hb3 H2.out.2.1 (by omega)
  have q0 := hB2'.cell 0
  have q1 := hB2'.cell 1
  have q2 := hB2'.cell 2
  have q3 := hB2'.cell 3
  have k0 := hB3.cell 0
  have k1 := hB3.cell 1
  have k2 := hB3.cell 2
  have k3 := hB3.cell 3
  simp only [List.getElem?_toArray, List.getElem?_cons_zero, List.getElem?_cons_succ] at q0 q1 q2 q3 k0 k1 k2 k3
  have hTa : TSubs w3 (.slice o n c) sub := Shape.Subs.below (Shape.Subs.below H1.out.2.1 H2.out.1) hb3
  have CS := Lib.hid (doc_same (.node a sub) exType w3 _ _ hTa hT3)
  rw [← H1.out.2.2, ex_same] at CS
  have HF : Hid (Below B w w3) := Lib.hid (by
    have h1 := H1.out.1
    rw [HB.out] at h1
    exact (h1.trans (H2.out.1.mono (by have := h1.size; have := HB.out; omega))).trans (hb3.mono (by have := h1.size; have := HB.out; omega)))
  simp only [exType, Rose.lab_node, Rose.sub_node] at CS
  have e5 : a = ⟨5, 0, 1⟩ := by
    have := H1.out.2.2
    simp only [exType, Rose.node.injEq] at this
    exact this.1.symm
  subst e5
  clear hb3 hs3 hB3 hT3 hB2' hTa HX hz2
  go_wp2_with fail
  refine (CS.out).mono ?_
  rintro e w4 ⟨rfl, hb4⟩
  have HB4 := Lib.hid (HF.out.trans (hb4.mono (by have := HF.out.size; have := HB.out; omega)))
  clear hb4
  go_wp2_with fail
  go_returns
  exact ⟨rfl, HB4.out⟩
theorem teq_refl (a : TL) : teq a a = true := by simp [teq]
mutual
theorem same_refl (x : Rose TL) : x.same teq x = true := by
  cases x with
  | node a s => simp only [Rose.same, teq_refl, sameL_refl s, Bool.and_self]
theorem sameL_refl (s : List (Rose TL)) : Rose.sameL teq s s = true := by
  cases s with
  | nil => rfl
  | cons x xs => simp only [Rose.sameL, same_refl x, sameL_refl xs, Bool.and_self]
end

set_option maxRecDepth 100000 in
set_option maxHeartbeats 8000000 in
theorem schema_same (x y : Rose TL) (v v2 : Value) (w : World) (hv : TSubs w v x.sub) (hv2 : TSubs w v2 y.sub) (hT : TabU w) :
    Calls Tryd.prog 3 #[.agg #[.int .i64 x.lab.kind, .int .i64 x.lab.size, v, .int .i64 x.lab.tail], .agg #[.int .i64 y.lab.kind, .int .i64 y.lab.size, v2, .int .i64 y.lab.tail]] w fun e w' => e = .returned (.bool true) ∧ Below w.heap.size w w' := by
  have hT0 := hT.lt
  have HW := Lib.hid (box_types (k := x.lab.kind) (z := x.lab.size) (l := x.lab.tail) (k2 := y.lab.kind) (z2 := y.lab.size) (l2 := y.lab.tail) (t := 24) hv hv2)
  obtain ⟨g, hg⟩ : ∃ g, w.heap.size = g := ⟨_, rfl⟩
  rw [hg] at HW hT0 ⊢
  have HT := Lib.hid (fun (W : World) (h : Below g w W) => hT.below h hT0)
  have CA := Lib.hid (fun (W : World) (h : TabU W) => sch_alive W h)
  have CG1 := Lib.hid (fun (W : World) (h : TSubs W v x.sub) => law_great x W v h)
  have CG2 := Lib.hid (fun (W : World) (h : TSubs W v2 y.sub) => law_great y W v2 h)
  have CPS := Lib.hid (fun (W : World) (h1 : TSubs W v x.sub) (h2 : TSubs W v2 y.sub) (h3 : TabU W) => prog_same x y W v v2 h1 h2 h3)
  have CPX : Hid (∀ (W : World) (h1 : TSubs W v x.sub) (h3 : TabU W), Calls Tryd.prog 8 #[.agg #[.int .i64 x.lab.kind, .int .i64 x.lab.size, v, .int .i64 x.lab.tail], .agg #[.int .i64 x.lab.kind, .int .i64 x.lab.size, v, .int .i64 x.lab.tail]] W fun e w' => e = .returned (.bool (mayT x)) ∧ Below W.heap.size W w') :=
    Lib.hid (fun W h1 h3 => (prog_same x x W v v h1 h1 h3).mono fun e w' h => ⟨by rw [h.1, same_refl]; simp, h.2⟩)
  have CM1 := Lib.hid (fun (hc : x.count ≤ 1000) (W : World) (h : TSubs W v x.sub) => doc_may x W v h hc)
  have CM2 := Lib.hid (fun (hc : y.count ≤ 1000) (W : World) (h : TSubs W v2 y.sub) => doc_may y W v2 h hc)
  have CS := Lib.hid (fun (W : World) (h1 : TSubs W v x.sub) (h2 : TSubs W v2 y.sub) => doc_same x y W v v2 h1 h2)
  clear hv hv2 hT
  generalize mayT x = m1 at *
  generalize mayT y = m2 at *
  generalize x.same teq y = sm at *
  obtain ⟨r, hr⟩ : ∃ r, (m1 && m2 && sm) = r := ⟨_, rfl⟩
  rw [hr] at CPS
  have HRR := Lib.hid hr
  clear hr
  go_enter Tryd.func3, Tryd.ntmps3
  go_upto_region 1 with fail
  generalize (w.alloc (.cells #[.int .i64 x.lab.kind, .int .i64 x.lab.size, v, .int .i64 x.lab.tail] 24)).alloc (.cells #[.int .i64 y.lab.kind, .int .i64 y.lab.size, v2, .int .i64 y.lab.tail] 24) = w1 at *
  obtain ⟨hb1, ht1, ht2, hsz, ⟨c0, c1, c2, c3⟩, e0, e1, e2, e3⟩ := HW.out _ rfl
  have HZ : Hid (g + 2 = w1.heap.size) := Lib.hid hsz.symm
  -- what stays, in every later world
  have K : Hid (∀ W, Below (g + 2) w1 W → Below g w W ∧ TSubs W v x.sub ∧ TSubs W v2 y.sub ∧ TabU W ∧
      (W.cell? ⟨g, 0, none⟩ = some (.int .i64 x.lab.kind) ∧ W.cell? ⟨g, 1, none⟩ = some (.int .i64 x.lab.size) ∧ W.cell? ⟨g, 2, none⟩ = some v ∧ W.cell? ⟨g, 3, none⟩ = some (.int .i64 x.lab.tail)) ∧
      (W.cell? ⟨g + 1, 0, none⟩ = some (.int .i64 y.lab.kind) ∧ W.cell? ⟨g + 1, 1, none⟩ = some (.int .i64 y.lab.size) ∧ W.cell? ⟨g + 1, 2, none⟩ = some v2 ∧ W.cell? ⟨g + 1, 3, none⟩ = some (.int .i64 y.lab.tail))) := Lib.hid fun W h => by
    have h1 : Below g w W := hb1.trans (h.mono (by omega))
    have l0 : g < g + 2 := by omega
    have l1 : g + 1 < g + 2 := by omega
    exact ⟨h1, Shape.Subs.below ht1 (hsz ▸ h), Shape.Subs.below ht2 (hsz ▸ h), HT.out _ h1,
      ⟨(h.cell (p := ⟨g, 0, none⟩) l0).trans c0, (h.cell (p := ⟨g, 1, none⟩) l0).trans c1, (h.cell (p := ⟨g, 2, none⟩) l0).trans c2, (h.cell (p := ⟨g, 3, none⟩) l0).trans c3⟩,
      (h.cell (p := ⟨g + 1, 0, none⟩) l1).trans e0, (h.cell (p := ⟨g + 1, 1, none⟩) l1).trans e1, (h.cell (p := ⟨g + 1, 2, none⟩) l1).trans e2, (h.cell (p := ⟨g + 1, 3, none⟩) l1).trans e3⟩
  clear HW hb1 ht1 ht2 hsz c0 c1 c2 c3 e0 e1 e2 e3
  have K1 := Lib.hid (K.out w1 (Below.refl _ _))
  have CA1 := Lib.hid (CA.out w1 K1.out.2.2.2.1)
  go_wp2_with fail
  refine (CA1.out).mono ?_
  rintro e w2 ⟨rfl, hb2⟩
  rw [← HZ.out] at hb2
  have HB2 := Lib.hid hb2
  have K2 := Lib.hid (K.out w2 hb2)
  obtain ⟨_, _, _, _, ⟨c0, c1, c2, c3⟩, e0, e1, e2, e3⟩ := K2.out
  have CG := Lib.hid (CG1.out w2 K2.out.2.1)
  clear hb2
  have hz2 : g + 2 ≤ w2.heap.size := by have := HB2.out.size; have := HZ.out; omega
  by_cases hx : 100 ≤ x.count
  · rw [decide_eq_true hx] at CG
    have HX := Lib.hid hx
    clear hx
    go_wp2_with fail
    refine (CG.out).mono ?_
    rintro e w3 ⟨rfl, hb3⟩
    have HF := Lib.hid (K.out w3 (HB2.out.trans (hb3.mono hz2))).1
    clear hb3
    go_wp2_with fail
    go_returns
    exact ⟨rfl, HF.out⟩
  · rw [decide_eq_false hx] at CG
    have CM1 := Lib.hid (CM1.out (by omega))
    clear hx
    go_wp2_with fail
    refine (CG.out).mono ?_
    rintro e w3 ⟨rfl, hb3⟩
    have HB3 := Lib.hid (HB2.out.trans (hb3.mono hz2))
    have K3 := Lib.hid (K.out w3 HB3.out)
    clear hb3 c0 c1 c2 c3 e0 e1 e2 e3
    obtain ⟨_, _, _, _, ⟨c0, c1, c2, c3⟩, e0, e1, e2, e3⟩ := K3.out
    have CG := Lib.hid (CG2.out w3 K3.out.2.2.1)
    have hz3 : g + 2 ≤ w3.heap.size := by have := HB3.out.size; have := HZ.out; omega
    by_cases hy : 100 ≤ y.count
    · rw [decide_eq_true hy] at CG
      have HY := Lib.hid hy
      clear hy
      go_wp2_with fail
      refine (CG.out).mono ?_
      rintro e w4 ⟨rfl, hb4⟩
      have HF := Lib.hid (K.out w4 (HB3.out.trans (hb4.mono hz3))).1
      clear hb4
      go_wp2_with fail
      go_returns
      exact ⟨rfl, HF.out⟩
    · rw [decide_eq_false hy] at CG
      have CM2 := Lib.hid (CM2.out (by omega))
      clear hy
      go_wp2_with fail
      refine (CG.out).mono ?_
      rintro e w4 ⟨rfl, hb4⟩
      have HB4 := Lib.hid (HB3.out.trans (hb4.mono hz3))
      have hz4 : g + 2 ≤ w4.heap.size := by have := HB4.out.size; have := HZ.out; omega
      clear hb4 c0 c1 c2 c3 e0 e1 e2 e3
      have KF := Lib.hid (fun x : Fut w4 => K.out x.at_ (HB4.out.trans (x.is.mono hz4)))
      have f0 := fun x => (KF.out x).2.2.2.2.1.1
      have f1 := fun x => (KF.out x).2.2.2.2.1.2.1
      have f2 := fun x => (KF.out x).2.2.2.2.1.2.2.1
      have f3 := fun x => (KF.out x).2.2.2.2.1.2.2.2
      have g0 := fun x => (KF.out x).2.2.2.2.2.1
      have g1 := fun x => (KF.out x).2.2.2.2.2.2.1
      have g2 := fun x => (KF.out x).2.2.2.2.2.2.2.1
      have g3 := fun x => (KF.out x).2.2.2.2.2.2.2.2
      have D1 := Lib.hid (fun x : Fut w4 => CPS.out x.at_ (KF.out x).2.1 (KF.out x).2.2.1 (KF.out x).2.2.2.1)
      have D2 := Lib.hid (fun x : Fut w4 => CM1.out x.at_ (KF.out x).2.1)
      have D3 := Lib.hid (fun x : Fut w4 => CM2.out x.at_ (KF.out x).2.2.1)
      have D4 := Lib.hid (fun x : Fut w4 => CS.out x.at_ (KF.out x).2.1 (KF.out x).2.2.1)
      have D5 := Lib.hid (fun x : Fut w4 => CPX.out x.at_ (KF.out x).2.1 (KF.out x).2.2.2.1)
      have HF := Lib.hid (fun x : Fut w4 => (KF.out x).1)
      clear K1 K2 K3 CA CA1 CG CG1 CG2 CPS CPX CM1 CM2 CS HT
      go_upto_region 5 with fail
      have hr := HRR.out
      clear HRR
      rcases m1 with _ | _
      · obtain rfl : r = false := by rw [← hr]; simp
        clear hr
        refine wp_region_after (by kernel_rfl) (by kernel_rfl) ?_
        repeat (go_big_quiet_step (fail))
        go_big_quiet_step (exact Calls.after (D1.out _))
        repeat (go_big_quiet_step (fail))
        go_big_quiet_step (exact Calls.after (D2.out _))
        repeat (go_big_quiet_step (fail))
        go_big_quiet_step (exact Calls.after (D5.out _))
        repeat (go_big_quiet_step (fail))
        go_big_quiet_step (exact Calls.after (D2.out _))
        repeat (go_big_quiet_step (fail))
        refine wpQuiet_nil ?_
        intro x
        go_wp2_with fail
        go_returns
        exact ⟨rfl, HF.out x⟩
      rcases m2 with _ | _
      · obtain rfl : r = false := by rw [← hr]; simp
        clear hr
        refine wp_region_after (by kernel_rfl) (by kernel_rfl) ?_
        repeat (go_big_quiet_step (fail))
        go_big_quiet_step (exact Calls.after (D1.out _))
        repeat (go_big_quiet_step (fail))
        go_big_quiet_step (exact Calls.after (D2.out _))
        repeat (go_big_quiet_step (fail))
        go_big_quiet_step (exact Calls.after (D3.out _))
        repeat (go_big_quiet_step (fail))
        go_big_quiet_step (exact Calls.after (D5.out _))
        repeat (go_big_quiet_step (fail))
        go_big_quiet_step (exact Calls.after (D2.out _))
        repeat (go_big_quiet_step (fail))
        refine wpQuiet_nil ?_
        intro x
        go_wp2_with fail
        go_returns
        exact ⟨rfl, HF.out x⟩
      obtain rfl : r = sm := by rw [← hr]; simp
      clear hr
      rcases r with _ | _
      · refine wp_region_after (by kernel_rfl) (by kernel_rfl) ?_
        repeat (go_big_quiet_step (fail))
        go_big_quiet_step (exact Calls.after (D1.out _))
        repeat (go_big_quiet_step (fail))
        go_big_quiet_step (exact Calls.after (D2.out _))
        repeat (go_big_quiet_step (fail))
        go_big_quiet_step (exact Calls.after (D3.out _))
        repeat (go_big_quiet_step (fail))
        go_big_quiet_step (exact Calls.after (D4.out _))
        repeat (go_big_quiet_step (fail))
        go_big_quiet_step (exact Calls.after (D5.out _))
        repeat (go_big_quiet_step (fail))
        go_big_quiet_step (exact Calls.after (D2.out _))
        repeat (go_big_quiet_step (fail))
        refine wpQuiet_nil ?_
        intro x
        go_wp2_with fail
        go_returns
        exact ⟨rfl, HF.out x⟩
      · refine wp_region_after (by kernel_rfl) (by kernel_rfl) ?_
        repeat (go_big_quiet_step (fail))
        go_big_quiet_step (exact Calls.after (D1.out _))
        repeat (go_big_quiet_step (fail))
        go_big_quiet_step (exact Calls.after (D2.out _))
        repeat (go_big_quiet_step (fail))
        go_big_quiet_step (exact Calls.after (D3.out _))
        repeat (go_big_quiet_step (fail))
        go_big_quiet_step (exact Calls.after (D4.out _))
        repeat (go_big_quiet_step (fail))
        go_big_quiet_step (exact Calls.after (D5.out _))
        repeat (go_big_quiet_step (fail))
        go_big_quiet_step (exact Calls.after (D2.out _))
        repeat (go_big_quiet_step (fail))
        refine wpQuiet_nil ?_
        intro x
        go_wp2_with fail
        go_returns
        exact ⟨rfl, HF.out x⟩
theorem schema_same_row (x : Rose TL) (v : Value) (y : Rose TL) (v2 : Value) (w : World) (hv : TSubs w v x.sub) (hv2 : TSubs w v2 y.sub) (hT : TabU w) :
    Calls Tryd.prog 3 #[.agg #[.int .i64 x.lab.kind, .int .i64 x.lab.size, v, .int .i64 x.lab.tail], .agg #[.int .i64 y.lab.kind, .int .i64 y.lab.size, v2, .int .i64 y.lab.tail]] w fun e w' => e = .returned (.bool true) ∧ Below w.heap.size w w' :=
  schema_same x y v v2 w hv hv2 hT
end Go.Proofs.YtopfpfpefljkkaaDoor
