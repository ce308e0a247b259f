/- The document's functions of types: May, Same. -/
import Derived.Test.YtopfpfpefljkkaaDoorTypeDoc2
namespace Go.Proofs.YtopfpfpefljkkaaDoor
open Go.RowKit
set_option linter.unusedVariables false
set_option linter.unusedSimpArgs false

theorem mayT_eq (x : Rose TL) : mayT x = (decide (x.count ≤ 64) && decide (x.deep ≤ 8) && x.all right1) := rfl
set_option maxRecDepth 100000 in
theorem doc_may (x : Rose TL) (w : World) (v : Value) (hv : TSubs w v x.sub) (hc : x.count ≤ 1000) :
    Calls Tryd.prog 9 #[.agg #[.int .i64 x.lab.kind, .int .i64 x.lab.size, v, .int .i64 x.lab.tail]] w fun e w' => e = .returned (.bool (mayT x)) ∧ Below w.heap.size w w' := by
  have HW := Lib.hid (box_type (k := x.lab.kind) (z := x.lab.size) (l := x.lab.tail) (t := 24) hv)
  obtain ⟨oa, cap, rfl, hcap, hml⟩ := TSubs.slice hv
  obtain ⟨g, hg⟩ : ∃ g, w.heap.size = g := ⟨_, rfl⟩
  have C1 := Lib.hid (fun (W : World) (h : TSubs W (.slice oa x.sub.length cap) x.sub) => doc_count x W _ h hc)
  have C2 := Lib.hid (fun (W : World) (h : TSubs W (.slice oa x.sub.length cap) x.sub) => doc_deep x W _ h hc)
  have C3 := Lib.hid (fun (W : World) (h : TSubs W (.slice oa x.sub.length cap) x.sub) => doc_right x W _ h hc)
  have HM := Lib.hid (mayT_eq x)
  have hd := Rose.deep_le_count_aux x
  rw [hg] at HW ⊢
  clear hv hcap hml
  generalize mayT x = R at *
  generalize x.count = cn at *
  generalize x.deep = dn at *
  generalize x.all right1 = rn at *
  generalize x.sub.length = M at *
  have c64 := leOr (cn : Int) 64
  have d8 := leOr (dn : Int) 8
  go_enter Tryd.func9, Tryd.ntmps9
  go_upto_region 1 with fail
  generalize w.alloc (.cells #[.int .i64 x.lab.kind, .int .i64 x.lab.size, .slice oa M cap, .int .i64 x.lab.tail] 24) = w1 at *
  obtain ⟨hb1, ht1, hsz, c0, c1, c2, c3⟩ := HW.out _ rfl
  have HT := Lib.hid ht1
  have HB := Lib.hid hb1
  have HS := Lib.hid hsz
  clear HW ht1 hb1 hsz
  have HF : ∀ w2, Below w1.heap.size w1 w2 → Hid (Below g w w2 ∧ TSubs w2 (.slice oa M cap) x.sub) := fun w2 h => ⟨HB.out.trans (h.mono (by have := HS.out; omega)), Shape.Subs.below HT.out h⟩
  have HF := Lib.hid HF
  have hlt : g < w1.heap.size := by have := HS.out; omega
  rcases c64 with ⟨c64, C64⟩ | ⟨c64, C64⟩
  · rcases d8 with ⟨d8, D8⟩ | ⟨d8, D8⟩
    all_goals
      go_wp2_with fail
      refine (C1.out _ HT.out).mono ?_
      rintro e w2 ⟨rfl, hb2⟩
      have f2 := HF.out _ hb2
      have hb2' := Lib.hid hb2
      have c0' := (hb2.cell (p := ⟨g, 0, none⟩) hlt).trans c0
      have c1' := (hb2.cell (p := ⟨g, 1, none⟩) hlt).trans c1
      have c2' := (hb2.cell (p := ⟨g, 2, none⟩) hlt).trans c2
      have c3' := (hb2.cell (p := ⟨g, 3, none⟩) hlt).trans c3
      have hlt2 : g < w2.heap.size := by have := hb2.size; omega
      clear hb2
      go_wp2_with fail
      refine (C2.out _ f2.out.2).mono ?_
      rintro e w3 ⟨rfl, hb3⟩
    · have hb3' := Lib.hid (hb2'.out.trans (hb3.mono hb2'.out.size))
      have f3 := HF.out _ hb3'.out
      have c0'' := (hb3.cell (p := ⟨g, 0, none⟩) hlt2).trans c0'
      have c1'' := (hb3.cell (p := ⟨g, 1, none⟩) hlt2).trans c1'
      have c2'' := (hb3.cell (p := ⟨g, 2, none⟩) hlt2).trans c2'
      have c3'' := (hb3.cell (p := ⟨g, 3, none⟩) hlt2).trans c3'
      clear hb3
      go_wp2_with fail
      refine (C3.out _ f3.out.2).mono ?_
      rintro e w4 ⟨rfl, hb4⟩
      have hb4' := Lib.hid (f3.out.1.trans (hb4.mono (by have := f3.out.1.size; omega)))
      clear hb4
      go_wp2_with fail
      go_returns
      refine ⟨?_, hb4'.out⟩
      have q1 := C64.out
      have q2 := D8.out
      rw [HM.out, decide_eq_true (by omega : cn ≤ 64), decide_eq_true (by omega : dn ≤ 8)]; rfl
    · have hb3' := Lib.hid (hb2'.out.trans (hb3.mono hb2'.out.size))
      have f3 := HF.out _ hb3'.out
      clear hb3
      go_wp2_with fail
      go_returns
      refine ⟨?_, f3.out.1⟩
      have q2 := D8.out
      rw [HM.out, decide_eq_false (by omega : ¬ dn ≤ 8), Bool.and_false]; rfl
  · go_wp2_with fail
    refine (C1.out _ HT.out).mono ?_
    rintro e w2 ⟨rfl, hb2⟩
    have f2 := HF.out _ hb2
    clear hb2
    go_wp2_with fail
    go_returns
    refine ⟨?_, f2.out.1⟩
    have q1 := C64.out
    rw [HM.out, decide_eq_false (by omega : ¬ cn ≤ 64)]; rfl

/-- What lies in the two new blocks of types that are handed over. -/
theorem box_types {w : World} {t : TypeId} {k z l k2 z2 l2 : Int} {v v2 : Value} {s s2 : List (Rose TL)} (h : TSubs w v s) (h2 : TSubs w v2 s2) :
    ∀ W, (w.alloc (.cells #[.int .i64 k, .int .i64 z, v, .int .i64 l] t)).alloc (.cells #[.int .i64 k2, .int .i64 z2, v2, .int .i64 l2] t) = W → Below w.heap.size w W ∧ TSubs W v s ∧ TSubs W v2 s2 ∧ W.heap.size = w.heap.size + 2 ∧
      (W.cell? ⟨w.heap.size, 0, none⟩ = some (.int .i64 k) ∧ W.cell? ⟨w.heap.size, 1, none⟩ = some (.int .i64 z) ∧ W.cell? ⟨w.heap.size, 2, none⟩ = some v ∧ W.cell? ⟨w.heap.size, 3, none⟩ = some (.int .i64 l)) ∧
      (W.cell? ⟨w.heap.size + 1, 0, none⟩ = some (.int .i64 k2) ∧ W.cell? ⟨w.heap.size + 1, 1, none⟩ = some (.int .i64 z2) ∧ W.cell? ⟨w.heap.size + 1, 2, none⟩ = some v2 ∧ W.cell? ⟨w.heap.size + 1, 3, none⟩ = some (.int .i64 l2)) := by
  rintro W rfl
  obtain ⟨a1, a2, a3, a4, a5, a6, a7⟩ := box_type (k := k) (z := z) (l := l) (t := t) h _ rfl
  obtain ⟨b1, b2, b3, b4, b5, b6, b7⟩ := box_type (w := w.alloc (.cells #[.int .i64 k, .int .i64 z, v, .int .i64 l] t)) (k := k2) (z := z2) (l := l2) (t := t) (h2.below a1) _ rfl
  rw [a3] at b1 b3 b4 b5 b6 b7
  have hlt : w.heap.size < w.heap.size + 1 := Nat.lt_succ_self _
  exact ⟨a1.trans (b1.mono (by omega)), a2.below (a3 ▸ b1), b2, b3, ⟨(b1.cell (p := ⟨w.heap.size, 0, none⟩) hlt).trans a4, (b1.cell (p := ⟨w.heap.size, 1, none⟩) hlt).trans a5, (b1.cell (p := ⟨w.heap.size, 2, none⟩) hlt).trans a6, (b1.cell (p := ⟨w.heap.size, 3, none⟩) hlt).trans a7⟩, b4, b5, b6, b7⟩
theorem neOr (z c : Int) : ((z != c) = false ∧ Hid (z = c)) ∨ ((z != c) = true ∧ Hid (z ≠ c)) := by
  by_cases h : z = c
  · exact .inl ⟨by simp [h], h⟩
  · exact .inr ⟨by simp [h], h⟩
theorem same_node (a b : TL) (s t : List (Rose TL)) : (Rose.node a s).same teq (.node b t) = (teq a b && Rose.sameL teq s t) := rfl
set_option maxRecDepth 100000 in
set_option maxHeartbeats 2000000 in
theorem doc_same (x : Rose TL) : ∀ (y : Rose TL) (w : World) (v v2 : Value), TSubs w v x.sub → TSubs w v2 y.sub →
    Calls Tryd.prog 10 #[.agg #[.int .i64 x.lab.kind, .int .i64 x.lab.size, v, .int .i64 x.lab.tail], .agg #[.int .i64 y.lab.kind, .int .i64 y.lab.size, v2, .int .i64 y.lab.tail]] w
      fun e w' => e = .returned (.bool (x.same teq y)) ∧ Below w.heap.size w w' := by
  induction x using Rose.ind with
  | h a s ih =>
    intro y w v v2 hv hv2
    obtain ⟨a2, s2⟩ := y
    obtain ⟨kind, size, tail⟩ := a
    obtain ⟨kind2, size2, tail2⟩ := a2
    simp only [Rose.sub_node, Rose.lab_node] at hv hv2 ⊢
    obtain ⟨oa, cap, rfl, hcap, hml⟩ := TSubs.slice hv
    obtain ⟨oa2, cap2, rfl, hcap2, hml2⟩ := TSubs.slice hv2
    obtain ⟨g, hg⟩ : ∃ g, w.heap.size = g := ⟨_, rfl⟩
    have HW := Lib.hid (box_types (k := kind) (z := size) (l := tail) (k2 := kind2) (z2 := size2) (l2 := tail2) (t := 24) hv hv2)
    have hlm : s.length ≤ 9223372036854775807 := by unfold maxLen at hml; omega
    have HR : Hid ((Rose.node ⟨kind, size, tail⟩ s).same teq (.node ⟨kind2, size2, tail2⟩ s2) = (teq ⟨kind, size, tail⟩ ⟨kind2, size2, tail2⟩ && Rose.sameL teq s s2)) := Lib.hid rfl
    generalize (Rose.node ⟨kind, size, tail⟩ s).same teq (.node ⟨kind2, size2, tail2⟩ s2) = R at *
    obtain ⟨M, hM⟩ : ∃ M, s.length = M := ⟨_, rfl⟩
    have HM := Lib.hid hM
    obtain ⟨M2, hM2⟩ : ∃ M2, s2.length = M2 := ⟨_, rfl⟩
    have HM2 := Lib.hid hM2
    have IH := Lib.hid ih
    rw [hg] at HW ⊢
    rw [hM] at HW hlm ⊢
    rw [hM2] at HW ⊢
    clear hv hv2 hcap hml hcap2 hml2 ih hM hM2
    have k0 := neOr kind kind2
    have z0 := neOr size size2
    have t0 := neOr tail tail2
    have m0 := neOr (M : Int) (M2 : Int)
    go_enter Tryd.func10, Tryd.ntmps10
    go_upto_region 1 with fail
    generalize (w.alloc (.cells #[.int .i64 kind, .int .i64 size, .slice oa M cap, .int .i64 tail] 24)).alloc (.cells #[.int .i64 kind2, .int .i64 size2, .slice oa2 M2 cap2, .int .i64 tail2] 24) = w1 at *
    obtain ⟨hb1, ht1, ht2, hsz, ⟨c0, c1, c2, c3⟩, e0, e1, e2, e3⟩ := HW.out _ rfl
    have H1 := Lib.hid (And.intro hb1 (And.intro ht1 ht2))
    clear HW hb1 ht1 ht2
    rcases k0 with ⟨k0, K0⟩ | ⟨k0, K0⟩
    case inr =>
      go_wp2_with fail
      go_returns
      refine ⟨?_, H1.out.1⟩
      have q := K0.out
      rw [HR.out]; simp [teq, q]
    rcases z0 with ⟨z0, Z0⟩ | ⟨z0, Z0⟩
    case inr =>
      go_wp2_with fail
      go_returns
      refine ⟨?_, H1.out.1⟩
      have q := Z0.out
      rw [HR.out]; simp [teq, q]
    rcases t0 with ⟨t0, T0⟩ | ⟨t0, T0⟩
    case inr =>
      go_wp2_with fail
      go_returns
      refine ⟨?_, H1.out.1⟩
      have q := T0.out
      rw [HR.out]; simp [teq, q]
    rcases m0 with ⟨m0, M0⟩ | ⟨m0, M0⟩
    case inr =>
      go_wp2_with fail
      go_returns
      refine ⟨?_, H1.out.1⟩
      have q := M0.out
      rw [HR.out, Rose.sameL_length (by rw [HM.out, HM2.out]; omega), Bool.and_false]; rfl
    obtain rfl : M = M2 := by have := M0.out; omega
    have HR2 : Hid (R = Rose.sameL teq s s2) := by
      have q1 := K0.out
      have q2 := Z0.out
      have q3 := T0.out
      unfold Hid
      rw [HR.out]; simp [teq, q1, q2, q3]
    clear HR
    go_wp2_with fail
    clear k0 z0 t0 m0 c0 c1 c3 e0 e1 e3
    go_loopw [5] (fun iv wi => ∃ k : Nat, iv = .int .i64 k ∧ k ≤ M ∧ Hid (Rose.sameL teq (s.take k) (s2.take k) = true) ∧ Hid (Below (g + 2) w1 wi)) (fun iv _ => M - (intOf iv).toNat)
    case atStart => exact ⟨0, rfl, by omega, by simp [Hid, Rose.sameL], Lib.hid (Below.refl _ _)⟩
    case round =>
      obtain ⟨k, rfl, hk, HS, hbe⟩ := hrel
      have hcr : wr.cell? ⟨g, 2, none⟩ = some (.slice oa M cap) := (hbe.out.cell (p := ⟨g, 2, none⟩) (show g < g + 2 by omega)).trans c2
      have HF : Hid (Below g w wr) := Lib.hid (H1.out.1.trans (hbe.out.mono (by omega)))
      by_cases c : k < M
      · obtain ⟨y, hy⟩ : ∃ y, s[k]? = some y := ⟨_, List.getElem?_eq_getElem (by rw [HM.out]; exact c)⟩
        obtain ⟨y', hy'⟩ : ∃ y, s2[k]? = some y := ⟨_, List.getElem?_eq_getElem (by rw [HM2.out]; exact c)⟩
        obtain ⟨b, off, u, rfl, hlt, y0, y1, y2, y3, hu, hwf⟩ := TSubs.at_ (Shape.Subs.below H1.out.2.1 (hsz ▸ hbe.out)) hy
        obtain ⟨b', off', u', rfl, hlt', y0', y1', y2', y3', hu', hwf'⟩ := TSubs.at_ (Shape.Subs.below H1.out.2.2 (hsz ▸ hbe.out)) hy'
        have hgw : g + 2 ≤ wr.heap.size := by have := hbe.out.size; omega
        have cg : ∀ x : Fut wr, x.at_.cell? ⟨g, 2, none⟩ = some (.slice (some ⟨b, off, none⟩) M cap) := fun x => (x.is.cell (p := ⟨g, 2, none⟩) (show g < wr.heap.size by omega)).trans hcr
        have cg' : ∀ x : Fut wr, x.at_.cell? ⟨g + 1, 2, none⟩ = some (.slice (some ⟨b', off', none⟩) M cap2) := fun x => (x.is.cell (p := ⟨g + 1, 2, none⟩) (show g + 1 < wr.heap.size by omega)).trans ((hbe.out.cell (p := ⟨g + 1, 2, none⟩) (show g + 1 < g + 2 by omega)).trans e2)
        have x0 : ∀ x : Fut wr, x.at_.cell? ⟨b, off + k * 4, none⟩ = some (.int .i64 y.lab.kind) := fun x => (x.is.cell (p := ⟨b, off + k * 4, none⟩) hlt).trans y0
        have x1 : ∀ x : Fut wr, x.at_.cell? ⟨b, off + k * 4 + 1, none⟩ = some (.int .i64 y.lab.size) := fun x => (x.is.cell (p := ⟨b, off + k * 4 + 1, none⟩) hlt).trans y1
        have x2 : ∀ x : Fut wr, x.at_.cell? ⟨b, off + k * 4 + 2, none⟩ = some u := fun x => (x.is.cell (p := ⟨b, off + k * 4 + 2, none⟩) hlt).trans y2
        have x3 : ∀ x : Fut wr, x.at_.cell? ⟨b, off + k * 4 + 3, none⟩ = some (.int .i64 y.lab.tail) := fun x => (x.is.cell (p := ⟨b, off + k * 4 + 3, none⟩) hlt).trans y3
        have x0' : ∀ x : Fut wr, x.at_.cell? ⟨b', off' + k * 4, none⟩ = some (.int .i64 y'.lab.kind) := fun x => (x.is.cell (p := ⟨b', off' + k * 4, none⟩) hlt').trans y0'
        have x1' : ∀ x : Fut wr, x.at_.cell? ⟨b', off' + k * 4 + 1, none⟩ = some (.int .i64 y'.lab.size) := fun x => (x.is.cell (p := ⟨b', off' + k * 4 + 1, none⟩) hlt').trans y1'
        have x2' : ∀ x : Fut wr, x.at_.cell? ⟨b', off' + k * 4 + 2, none⟩ = some u' := fun x => (x.is.cell (p := ⟨b', off' + k * 4 + 2, none⟩) hlt').trans y2'
        have x3' : ∀ x : Fut wr, x.at_.cell? ⟨b', off' + k * 4 + 3, none⟩ = some (.int .i64 y'.lab.tail) := fun x => (x.is.cell (p := ⟨b', off' + k * 4 + 3, none⟩) hlt').trans y3'
        have CY := Lib.hid (fun x : Fut wr => IH.out y (List.mem_of_getElem? hy) y' x.at_ u u' (Shape.Subs.below hu x.is) (Shape.Subs.below hu' x.is))
        have HST : Hid (Rose.sameL teq (s.take (k + 1)) (s2.take (k + 1)) = y.same teq y') := by
          unfold Hid; rw [Rose.sameL_take hy hy', HS.out]; rfl
        have HSF : Hid (y.same teq y' = false → R = false) := Lib.hid fun h => by rw [HR2.out]; exact Rose.sameL_false hy hy' h
        have hbk : Hid (∀ x : Fut wr, Below (g + 2) w1 x.at_) := Lib.hid fun x => hbe.out.trans (x.is.mono hgw)
        have hbf : Hid (∀ x : Fut wr, Below g w x.at_) := Lib.hid fun x => HF.out.trans (x.is.mono (by omega))
        clear hu hwf hu' hwf' y0 y1 y2 y3 y0' y1' y2' y3'
        generalize y.same teq y' = sm at *
        go_upto_region 6 with fail
        refine wp_region_after (by kernel_rfl) (by kernel_rfl) ?_
        repeat (go_big_quiet_step (exact Calls.after (CY.out _)))
        refine wpQuiet_nil ?_
        intro x
        cases sm with
        | true =>
          go_wp2_with fail
          exact ⟨⟨k + 1, by go_num, by omega, HST, Lib.hid (hbk.out x)⟩, by simp [intOf]; omega⟩
        | false =>
          have HE := Lib.hid (HSF.out rfl)
          go_wp2_with fail
          go_returns
          rw [HE.out]
          exact ⟨rfl, hbf.out x⟩
      · obtain rfl : k = M := by omega
        have HE : Hid (R = true) := by
          unfold Hid
          have h1 : s.take k = s := by rw [← HM.out, List.take_length]
          have h2 : s2.take k = s2 := by rw [← HM2.out, List.take_length]
          have h3 := HS.out
          rw [h1, h2] at h3
          rw [HR2.out, h3]
        go_wp2_with fail
        go_returns
        rw [HE.out]
        exact ⟨rfl, HF.out⟩
end Go.Proofs.YtopfpfpefljkkaaDoor
