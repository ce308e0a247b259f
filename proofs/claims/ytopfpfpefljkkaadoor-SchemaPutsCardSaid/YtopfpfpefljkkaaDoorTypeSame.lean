/- Package schema: whether two types are alike. -/
import Derived.Test.YtopfpfpefljkkaaDoorTypeMay
namespace Go.Proofs.YtopfpfpefljkkaaDoor
open Go.RowKit
set_option linter.unusedVariables false
set_option linter.unusedSimpArgs false

def funAlike : Value := .func (Fn.func 19) #[] #[]

set_option maxRecDepth 100000 in
set_option maxHeartbeats 2000000 in
/-- slices.EqualFunc with alike. -/
theorem prog_eqfunc (s : List (Rose TL)) (ih : ∀ x, x ∈ s → ∀ (y : Rose TL) (w : World) (v v2 : Value), TSubs w v x.sub → TSubs w v2 y.sub →
      Calls Tryd.prog 19 #[.agg #[.int .i64 x.lab.kind, .int .i64 x.lab.size, v, .int .i64 x.lab.tail], .agg #[.int .i64 y.lab.kind, .int .i64 y.lab.size, v2, .int .i64 y.lab.tail]] w
        fun e w' => e = .returned (.bool (x.same teq y)) ∧ Below w.heap.size w w') (s2 : List (Rose TL)) (w : World) (v v2 : Value) (hv : TSubs w v s) (hv2 : TSubs w v2 s2) :
    Calls Tryd.prog 31 #[v, v2, funAlike] w fun e w' => e = .returned (.bool (Rose.sameL teq s s2)) ∧ Below w.heap.size w w' := by
  unfold funAlike
  obtain ⟨oa, cap, rfl, hcap, hml⟩ := TSubs.slice hv
  obtain ⟨oa2, cap2, rfl, hcap2, hml2⟩ := TSubs.slice hv2
  obtain ⟨g, hg⟩ : ∃ g, w.heap.size = g := ⟨_, rfl⟩
  have hlm : s.length ≤ 9223372036854775807 := by unfold maxLen at hml; omega
  obtain ⟨M, hM⟩ : ∃ M, s.length = M := ⟨_, rfl⟩
  have HM := Lib.hid hM
  obtain ⟨M2, hM2⟩ : ∃ M2, s2.length = M2 := ⟨_, rfl⟩
  have HM2 := Lib.hid hM2
  have IH := Lib.hid ih
  have H1 := Lib.hid (And.intro hv hv2)
  obtain ⟨R, hR⟩ : ∃ R, Rose.sameL teq s s2 = R := ⟨_, rfl⟩
  have HR := Lib.hid hR
  rw [hM] at H1 hlm ⊢
  rw [hM2] at H1 ⊢
  rw [hR, hg]
  clear hv hv2 hcap hml hcap2 hml2 ih hM hM2 hR
  rcases neOr (M : Int) (M2 : Int) with ⟨m0, M0⟩ | ⟨m0, M0⟩
  case inr =>
    go_enter Tryd.func31, Tryd.ntmps31
    go_wp2_with fail
    go_returns
    have q := M0.out
    rw [← HR.out, Rose.sameL_length (by rw [HM.out, HM2.out]; omega)]
    exact ⟨rfl, hg ▸ Below.refl _ _⟩
  obtain rfl : M = M2 := by have := M0.out; omega
  go_enter Tryd.func31, Tryd.ntmps31
  go_wp2_with fail
  clear m0
  go_loopw [7, 8, 9, 17] (fun _ _ _ iv wi => ∃ k : Nat, iv = .int .i64 k ∧ k ≤ M ∧ Hid (Rose.sameL teq (s.take k) (s2.take k) = true) ∧ Hid (Below g w wi)) (fun _ _ _ iv _ => M - (intOf iv).toNat)
  case atStart => exact ⟨0, rfl, by omega, by simp [Hid, Rose.sameL], Lib.hid (hg ▸ Below.refl _ _)⟩
  case round =>
    obtain ⟨k, rfl, hk, HS, hbe⟩ := hrel
    by_cases c : k < M
    · obtain ⟨y, hy⟩ : ∃ y, s[k]? = some y := ⟨_, List.getElem?_eq_getElem (by rw [HM.out]; exact c)⟩
      obtain ⟨y', hy'⟩ : ∃ y, s2[k]? = some y := ⟨_, List.getElem?_eq_getElem (by rw [HM2.out]; exact c)⟩
      obtain ⟨b, off, u, rfl, hlt, y0, y1, y2, y3, hu, hwf⟩ := TSubs.at_ (Shape.Subs.below H1.out.1 (hg ▸ hbe.out)) hy
      obtain ⟨b', off', u', rfl, hlt', y0', y1', y2', y3', hu', hwf'⟩ := TSubs.at_ (Shape.Subs.below H1.out.2 (hg ▸ hbe.out)) hy'
      obtain ⟨ou, cu, rfl, _, _⟩ := TSubs.slice hu
      obtain ⟨ou', cu', rfl, _, _⟩ := TSubs.slice hu'
      obtain ⟨ny, hny⟩ : ∃ ny, y.sub.length = ny := ⟨_, rfl⟩
      rw [hny] at hu y2
      obtain ⟨ny', hny'⟩ : ∃ ny, y'.sub.length = ny := ⟨_, rfl⟩
      rw [hny'] at hu' y2'
      clear hny hny'
      have HST : Hid (Rose.sameL teq (s.take (k + 1)) (s2.take (k + 1)) = y.same teq y') := by
        unfold Hid; rw [Rose.sameL_take hy hy', HS.out]; rfl
      have HSF : Hid (y.same teq y' = false → R = false) := Lib.hid fun h => by rw [← HR.out]; exact Rose.sameL_false hy hy' h
      have HB2 : Hid (∀ W, (wr.alloc (.cells #[.int .i64 y.lab.kind, .int .i64 y.lab.size, .slice ou ny cu, .int .i64 y.lab.tail] 24)).alloc (.cells #[.int .i64 y'.lab.kind, .int .i64 y'.lab.size, .slice ou' ny' cu', .int .i64 y'.lab.tail] 24) = W → _) := Lib.hid (box_types (k := y.lab.kind) (z := y.lab.size) (l := y.lab.tail) (k2 := y'.lab.kind) (z2 := y'.lab.size) (l2 := y'.lab.tail) (t := 24) hu hu')
      have z0 := (hbe.out.size)
      have hq : ∀ o, (wr.alloc o).cell? ⟨b', off' + k * 4, none⟩ = some (.int .i64 y'.lab.kind) ∧ (wr.alloc o).cell? ⟨b', off' + k * 4 + 1, none⟩ = some (.int .i64 y'.lab.size) ∧ (wr.alloc o).cell? ⟨b', off' + k * 4 + 2, none⟩ = some (.slice ou' ny' cu') ∧ (wr.alloc o).cell? ⟨b', off' + k * 4 + 3, none⟩ = some (.int .i64 y'.lab.tail) := fun o => by
        have hal := (Below.refl wr.heap.size wr).alloc (Nat.le_refl _) o
        exact ⟨(hal.cell (p := ⟨b', off' + k * 4, none⟩) hlt').trans y0', (hal.cell (p := ⟨b', off' + k * 4 + 1, none⟩) hlt').trans y1', (hal.cell (p := ⟨b', off' + k * 4 + 2, none⟩) hlt').trans y2', (hal.cell (p := ⟨b', off' + k * 4 + 3, none⟩) hlt').trans y3'⟩
      obtain ⟨q0, q1, q2, q3⟩ := hq (.cells #[.int .i64 y.lab.kind, .int .i64 y.lab.size, .slice ou ny cu, .int .i64 y.lab.tail] 24)
      have hs1 : ∀ o, (wr.alloc o).heap.size = wr.heap.size + 1 := fun o => by simp
      have HS1 := Lib.hid hs1
      clear hu hwf hu' hwf' y0' y1' y2' y3' hq z0 hs1
      go_upto_region 7 with fail
      generalize (wr.alloc (.cells #[.int .i64 y.lab.kind, .int .i64 y.lab.size, .slice ou ny cu, .int .i64 y.lab.tail] 24)).alloc (.cells #[.int .i64 y'.lab.kind, .int .i64 y'.lab.size, .slice ou' ny' cu', .int .i64 y'.lab.tail] 24) = w4 at *
      obtain ⟨d1, d2, d3, d4, ⟨e0, e1, e2, e3⟩, f0, f1, f2, f3⟩ := HB2.out _ rfl
      have CY := Lib.hid (IH.out y (List.mem_of_getElem? hy) y' w4 _ _ d2 d3)
      have HB4 := Lib.hid (hbe.out.trans (d1.mono (by have := hbe.out.size; omega)))
      have HSZ := Lib.hid d4
      clear HB2 d1 d2 d3 d4
      generalize y.same teq y' = sm at *
      cases sm with
      | true =>
        go_wp2_with fail
        refine (CY.out).mono ?_
        rintro e w5 ⟨rfl, hb5⟩
        have HB5 := Lib.hid (HB4.out.trans (hb5.mono (by have := HB4.out.size; omega)))
        clear hb5
        go_wp2_with fail
        go_roundw
        case rel => exact ⟨k + 1, by go_num, by omega, HST, Lib.hid HB5.out⟩
        case measure => simp [intOf]; omega
      | false =>
        have HE := Lib.hid (HSF.out (by trivial))
        go_wp2_with fail
        refine (CY.out).mono ?_
        rintro e w5 ⟨rfl, hb5⟩
        have HB5 := Lib.hid (HB4.out.trans (hb5.mono (by have := HB4.out.size; omega)))
        clear hb5
        go_wp2_with fail
        go_returns
        rw [HE.out]
        exact ⟨rfl, HB5.out⟩
    · obtain rfl : k = M := by omega
      have HE : Hid (R = true) := by
        unfold Hid
        have h1 : s.take k = s := by rw [← HM.out, List.take_length]
        have h2 : s2.take k = s2 := by rw [← HM2.out, List.take_length]
        have h3 := HS.out
        rw [h1, h2] at h3
        rw [← HR.out, h3]
      go_wp2_with fail
      go_returns
      rw [HE.out]
      exact ⟨rfl, hbe.out⟩
set_option maxRecDepth 100000 in
set_option maxHeartbeats 2000000 in
theorem prog_alike (x : Rose TL) : ∀ (y : Rose TL) (w : World) (v v2 : Value), TSubs w v x.sub → TSubs w v2 y.sub →
    Calls Tryd.prog 19 #[.agg #[.int .i64 x.lab.kind, .int .i64 x.lab.size, v, .int .i64 x.lab.tail], .agg #[.int .i64 y.lab.kind, .int .i64 y.lab.size, v2, .int .i64 y.lab.tail]] w
      fun e w' => e = .returned (.bool (x.same teq y)) ∧ Below w.heap.size w w' := by
  induction x using Rose.ind with
  | h a s ih =>
    intro y w v v2 hv hv2
    obtain ⟨a2, s2⟩ := y
    obtain ⟨kind, size, tail⟩ := a
    obtain ⟨kind2, size2, tail2⟩ := a2
    simp only [Rose.sub_node, Rose.lab_node] at hv hv2 ⊢
    obtain ⟨oa, cap, hve, hcap, hml⟩ := TSubs.slice hv
    obtain ⟨oa2, cap2, hve2, hcap2, hml2⟩ := TSubs.slice hv2
    obtain ⟨g, hg⟩ : ∃ g, w.heap.size = g := ⟨_, rfl⟩
    have HW := Lib.hid (box_types (k := kind) (z := size) (l := tail) (k2 := kind2) (z2 := size2) (l2 := tail2) (t := 24) hv hv2)
    have HR : Hid ((Rose.node ⟨kind, size, tail⟩ s).same teq (.node ⟨kind2, size2, tail2⟩ s2) = (teq ⟨kind, size, tail⟩ ⟨kind2, size2, tail2⟩ && Rose.sameL teq s s2)) := Lib.hid rfl
    generalize (Rose.node ⟨kind, size, tail⟩ s).same teq (.node ⟨kind2, size2, tail2⟩ s2) = R at *
    have CE := Lib.hid (fun (W : World) (h1 : TSubs W v s) (h2 : TSubs W v2 s2) => prog_eqfunc s ih s2 W v v2 h1 h2)
    rw [hg] at HW ⊢
    clear hv hv2 hcap hml hcap2 hml2 ih hve hve2
    generalize Rose.sameL teq s s2 = SL at *
    unfold funAlike at CE
    go_enter Tryd.func19, Tryd.ntmps19
    go_upto_region 1 with fail
    generalize (w.alloc (.cells #[.int .i64 kind, .int .i64 size, v, .int .i64 tail] 24)).alloc (.cells #[.int .i64 kind2, .int .i64 size2, v2, .int .i64 tail2] 24) = w1 at *
    obtain ⟨hb1, ht1, ht2, hsz, ⟨c0, c1, c2, c3⟩, e0, e1, e2, e3⟩ := HW.out _ rfl
    have CE1 := Lib.hid (CE.out w1 ht1 ht2)
    have H1 := Lib.hid hb1
    have HS := Lib.hid hsz
    clear HW hb1 ht1 ht2 CE
    rcases eqOr kind kind2 with ⟨k0, K0⟩ | ⟨k0, K0⟩
    case inr =>
      go_wp2_with fail
      go_returns
      refine ⟨?_, H1.out⟩
      have q := K0.out
      rw [HR.out]; simp [teq, q]
    rcases eqOr size size2 with ⟨z0, Z0⟩ | ⟨z0, Z0⟩
    case inr =>
      go_wp2_with fail
      go_returns
      refine ⟨?_, H1.out⟩
      have q := Z0.out
      rw [HR.out]; simp [teq, q]
    rcases eqOr tail tail2 with ⟨t0, T0⟩ | ⟨t0, T0⟩
    case inr =>
      go_wp2_with fail
      go_returns
      refine ⟨?_, H1.out⟩
      have q := T0.out
      rw [HR.out]; simp [teq, q]
    go_wp2_with fail
    refine (CE1.out).mono ?_
    rintro e w5 ⟨rfl, hb5⟩
    have HB5 := Lib.hid (H1.out.trans (hb5.mono (by have := H1.out.size; omega)))
    clear hb5
    go_wp2_with fail
    go_returns
    refine ⟨?_, HB5.out⟩
    have q1 := K0.out
    have q2 := Z0.out
    have q3 := T0.out
    rw [HR.out]; simp [teq, q1, q2, q3]

set_option maxRecDepth 100000 in
set_option maxHeartbeats 2000000 in
theorem prog_same (x y : Rose TL) (w : World) (v v2 : Value) (hv : TSubs w v x.sub) (hv2 : TSubs w v2 y.sub) (hT : TabU w) :
    Calls Tryd.prog 8 #[.agg #[.int .i64 x.lab.kind, .int .i64 x.lab.size, v, .int .i64 x.lab.tail], .agg #[.int .i64 y.lab.kind, .int .i64 y.lab.size, v2, .int .i64 y.lab.tail]] w
      fun e w' => e = .returned (.bool (mayT x && mayT y && x.same teq y)) ∧ Below w.heap.size w w' := by
  have hT0 := hT.lt
  have HW := Lib.hid (box_types (k := x.lab.kind) (z := x.lab.size) (l := x.lab.tail) (k2 := y.lab.kind) (z2 := y.lab.size) (l2 := y.lab.tail) (t := 24) hv hv2)
  obtain ⟨g, hg⟩ : ∃ g, w.heap.size = g := ⟨_, rfl⟩
  rw [hg] at HW hT0 ⊢
  have HT := Lib.hid (fun (W : World) (h : Below g w W) => hT.below h hT0)
  have C1 := Lib.hid (fun (W : World) (h : TSubs W v x.sub) (h2 : TabU W) => prog_May x W v h h2)
  have C2 := Lib.hid (fun (W : World) (h : TSubs W v2 y.sub) (h2 : TabU W) => prog_May y W v2 h h2)
  have C3 := Lib.hid (fun (W : World) (h1 : TSubs W v x.sub) (h2 : TSubs W v2 y.sub) => prog_alike x y W v v2 h1 h2)
  clear hv hv2 hT
  generalize mayT x = m1 at *
  generalize mayT y = m2 at *
  generalize x.same teq y = sm at *
  go_enter Tryd.func8, Tryd.ntmps8
  go_upto_region 1 with fail
  generalize (w.alloc (.cells #[.int .i64 x.lab.kind, .int .i64 x.lab.size, v, .int .i64 x.lab.tail] 24)).alloc (.cells #[.int .i64 y.lab.kind, .int .i64 y.lab.size, v2, .int .i64 y.lab.tail] 24) = w1 at *
  obtain ⟨hb1, ht1, ht2, hsz, ⟨c0, c1, c2, c3⟩, e0, e1, e2, e3⟩ := HW.out _ rfl
  have CM1 := Lib.hid (C1.out w1 ht1 (HT.out _ hb1))
  have H1 := Lib.hid hb1
  have HT1 := Lib.hid (And.intro ht1 ht2)
  have hs : g + 2 ≤ w1.heap.size := by omega
  clear HW hb1 ht1 ht2 hsz
  cases m1 with
  | false =>
    go_wp2_with fail
    refine (CM1.out).mono ?_
    rintro e w2 ⟨rfl, hb2⟩
    have HB2 := Lib.hid (H1.out.trans (hb2.mono (by omega)))
    clear hb2
    go_wp2_with fail
    go_returns
    exact ⟨rfl, HB2.out⟩
  | true =>
    go_wp2_with fail
    refine (CM1.out).mono ?_
    rintro e w2 ⟨rfl, hb2⟩
    have HB2 := Lib.hid (H1.out.trans (hb2.mono (by omega)))
    have c0' := (hb2.cell (p := ⟨g, 0, none⟩) (show g < w1.heap.size by omega)).trans c0
    have c1' := (hb2.cell (p := ⟨g, 1, none⟩) (show g < w1.heap.size by omega)).trans c1
    have c2' := (hb2.cell (p := ⟨g, 2, none⟩) (show g < w1.heap.size by omega)).trans c2
    have c3' := (hb2.cell (p := ⟨g, 3, none⟩) (show g < w1.heap.size by omega)).trans c3
    have e0' := (hb2.cell (p := ⟨g + 1, 0, none⟩) (show g + 1 < w1.heap.size by omega)).trans e0
    have e1' := (hb2.cell (p := ⟨g + 1, 1, none⟩) (show g + 1 < w1.heap.size by omega)).trans e1
    have e2' := (hb2.cell (p := ⟨g + 1, 2, none⟩) (show g + 1 < w1.heap.size by omega)).trans e2
    have e3' := (hb2.cell (p := ⟨g + 1, 3, none⟩) (show g + 1 < w1.heap.size by omega)).trans e3
    have hs2 : g + 2 ≤ w2.heap.size := by have := hb2.size; omega
    have HT2 := Lib.hid (And.intro (Shape.Subs.below HT1.out.1 hb2) (Shape.Subs.below HT1.out.2 hb2))
    have CM2 := Lib.hid (C2.out w2 HT2.out.2 (HT.out _ HB2.out))
    clear hb2 c0 c1 c2 c3 e0 e1 e2 e3
    cases m2 with
    | false =>
      go_wp2_with fail
      refine (CM2.out).mono ?_
      rintro e w3 ⟨rfl, hb3⟩
      have HB3 := Lib.hid (HB2.out.trans (hb3.mono (by omega)))
      clear hb3
      go_wp2_with fail
      go_returns
      exact ⟨rfl, HB3.out⟩
    | true =>
      go_wp2_with fail
      refine (CM2.out).mono ?_
      rintro e w3 ⟨rfl, hb3⟩
      have HB3 := Lib.hid (HB2.out.trans (hb3.mono (by omega)))
      have c0 := (hb3.cell (p := ⟨g, 0, none⟩) (show g < w2.heap.size by omega)).trans c0'
      have c1 := (hb3.cell (p := ⟨g, 1, none⟩) (show g < w2.heap.size by omega)).trans c1'
      have c2 := (hb3.cell (p := ⟨g, 2, none⟩) (show g < w2.heap.size by omega)).trans c2'
      have c3 := (hb3.cell (p := ⟨g, 3, none⟩) (show g < w2.heap.size by omega)).trans c3'
      have e0 := (hb3.cell (p := ⟨g + 1, 0, none⟩) (show g + 1 < w2.heap.size by omega)).trans e0'
      have e1 := (hb3.cell (p := ⟨g + 1, 1, none⟩) (show g + 1 < w2.heap.size by omega)).trans e1'
      have e2 := (hb3.cell (p := ⟨g + 1, 2, none⟩) (show g + 1 < w2.heap.size by omega)).trans e2'
      have e3 := (hb3.cell (p := ⟨g + 1, 3, none⟩) (show g + 1 < w2.heap.size by omega)).trans e3'
      have hs3 : g + 2 ≤ w3.heap.size := by have := hb3.size; omega
      have CM3 := Lib.hid (C3.out w3 (Shape.Subs.below HT2.out.1 hb3) (Shape.Subs.below HT2.out.2 hb3))
      clear hb3 c0' c1' c2' c3' e0' e1' e2' e3'
      go_wp2_with fail
      refine (CM3.out).mono ?_
      rintro e w4 ⟨rfl, hb4⟩
      have HB4 := Lib.hid (HB3.out.trans (hb4.mono (by omega)))
      clear hb4
      go_wp2_with fail
      go_returns
      exact ⟨rfl, HB4.out⟩
end Go.Proofs.YtopfpfpefljkkaaDoor
