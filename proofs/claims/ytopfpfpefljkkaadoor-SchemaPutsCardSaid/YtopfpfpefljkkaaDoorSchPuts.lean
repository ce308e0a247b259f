/- The walk of SchemaPuts. -/
import Derived.Test.YtopfpfpefljkkaaDoorSchSame
import Derived.Test.YtopfpfpefljkkaaDoorRefPut
import Derived.Test.YtopfpfpefljkkaaDoorTypeFlat
import Derived.Lib.Strings
namespace Go.Proofs.YtopfpfpefljkkaaDoor
open Go.RowKit
set_option linter.unusedVariables false
set_option linter.unusedSimpArgs false

set_option maxRecDepth 100000 in
set_option maxHeartbeats 8000000 in
theorem schema_puts (x : Rose TL) (v : Value) (w : World) (hv : TSubs w v x.sub) (hTT : TabU w ∧ TabS w) :
    Calls Tryd.prog 5 #[.agg #[.int .i64 x.lab.kind, .int .i64 x.lab.size, v, .int .i64 x.lab.tail]] w fun e w' => e = .returned (.bool true) ∧ Below w.heap.size w w' := by
  have hT0 := hTT.1.lt
  have hS0 := hTT.2.lt
  have HW := Lib.hid (box_type (k := x.lab.kind) (z := x.lab.size) (l := x.lab.tail) (t := 24) hv)
  obtain ⟨g, hg⟩ : ∃ g, w.heap.size = g := ⟨_, rfl⟩
  rw [hg] at HW hT0 hS0 ⊢
  have HT := Lib.hid (fun (W : World) (h : Below g w W) => (⟨hTT.1.below h hT0, hTT.2.below h hS0⟩ : TabU W ∧ TabS W))
  have CA := Lib.hid (fun (W : World) (h : TabU W) => sch_alive W h)
  have CG := Lib.hid (fun (W : World) (h : TSubs W v x.sub) => law_great x W v h)
  have CP := Lib.hid (fun (W : World) (h : TSubs W v x.sub) (h1 : TabU W) (h2 : TabS W) => prog_put x W v h h1 h2)
  have CM := Lib.hid (fun (W : World) (h : TSubs W v x.sub) (h1 : TabU W) => prog_May x W v h h1)
  have CDM := Lib.hid (fun (hc : x.count ≤ 1000) (W : World) (h : TSubs W v x.sub) => doc_may x W v h hc)
  have CF := Lib.hid (fun (W : World) (h : TSubs W v x.sub) (h1 : TabU W) => prog_flat x W v h h1)
  have CDF := Lib.hid (fun (hc : x.count ≤ 1000) (W : World) (h : TSubs W v x.sub) => doc_flat x W v h hc)
  have CDP := Lib.hid (fun (h1 : x.all right1 = true) (h2 : (put x).length ≤ 5000) (W : World) (h : TSubs W v x.sub) => doc_put x W v h h1 h2)
  have CS : Hid (∀ (W : World) (u : Value), TSubs W v x.sub → TSubs W u x.sub → Calls Tryd.prog 10 #[.agg #[.int .i64 x.lab.kind, .int .i64 x.lab.size, v, .int .i64 x.lab.tail], .agg #[.int .i64 x.lab.kind, .int .i64 x.lab.size, u, .int .i64 x.lab.tail]] W fun e w' => e = .returned (.bool true) ∧ Below W.heap.size W w') :=
    Lib.hid (fun W u h1 h2 => (doc_same x x W v u h1 h2).mono fun e w' h => ⟨by rw [h.1, same_refl], h.2⟩)
  have HMT : Hid (mayT x = true → x.all right1 = true ∧ x.count ≤ 64 ∧ getT (put x) = some x) := Lib.hid fun h => by
    have h0 := getT_put h
    simp only [mayT, Bool.and_eq_true, decide_eq_true_eq] at h
    exact ⟨h.2, h.1.1, h0⟩
  clear hv hTT
  generalize mayT x = m at *
  generalize (Rose.allL p0 x.sub && m) = fl at *
  go_enter Tryd.func5, Tryd.ntmps5
  go_upto_region 1 with fail
  generalize w.alloc (.cells #[.int .i64 x.lab.kind, .int .i64 x.lab.size, v, .int .i64 x.lab.tail] 24) = w1 at *
  obtain ⟨hb1, ht1, hsz, c0, c1, c2, c3⟩ := HW.out _ rfl
  have HZ : Hid (g + 1 = w1.heap.size) := Lib.hid hsz.symm
  -- what stays, in every later world
  have K : Hid (∀ W, Below (g + 1) w1 W → Below g w W ∧ TSubs W v x.sub ∧ (TabU W ∧ TabS W) ∧
      (W.cell? ⟨g, 0, none⟩ = some (.int .i64 x.lab.kind) ∧ W.cell? ⟨g, 1, none⟩ = some (.int .i64 x.lab.size) ∧ W.cell? ⟨g, 2, none⟩ = some v ∧ W.cell? ⟨g, 3, none⟩ = some (.int .i64 x.lab.tail))) := Lib.hid fun W h => by
    have h1 : Below g w W := hb1.trans (h.mono (by omega))
    have l0 : g < g + 1 := by omega
    exact ⟨h1, Shape.Subs.below ht1 (hsz ▸ h), HT.out _ h1,
      ⟨(h.cell (p := ⟨g, 0, none⟩) l0).trans c0, (h.cell (p := ⟨g, 1, none⟩) l0).trans c1, (h.cell (p := ⟨g, 2, none⟩) l0).trans c2, (h.cell (p := ⟨g, 3, none⟩) l0).trans c3⟩⟩
  clear HW hb1 ht1 hsz c0 c1 c2 c3
  have K1 := Lib.hid (K.out w1 (Below.refl _ _))
  have CA1 := Lib.hid (CA.out w1 K1.out.2.2.1.1)
  clear CA
  go_wp2_with fail
  refine (CA1.out).mono ?_
  rintro e w2 ⟨rfl, hb2⟩
  rw [← HZ.out] at hb2
  have HB2 := Lib.hid hb2
  have K2 := Lib.hid (K.out w2 hb2)
  obtain ⟨_, _, _, c0, c1, c2, c3⟩ := K2.out
  have CG1 := Lib.hid (CG.out w2 K2.out.2.1)
  clear hb2 CA1 CG K1
  have hz2 : g + 1 ≤ w2.heap.size := by have := HB2.out.size; have := HZ.out; omega
  by_cases hx : 100 ≤ x.count
  · rw [decide_eq_true hx] at CG1
    have HX := Lib.hid hx
    clear hx
    go_wp2_with fail
    refine (CG1.out).mono ?_
    rintro e w3 ⟨rfl, hb3⟩
    have HF := Lib.hid (K.out w3 (HB2.out.trans (hb3.mono hz2))).1
    clear hb3
    go_wp2_with fail
    go_returns
    exact ⟨rfl, HF.out⟩
  rw [decide_eq_false hx] at CG1
  have CDM := Lib.hid (CDM.out (by omega))
  have CDF := Lib.hid (CDF.out (by omega))
  clear hx
  go_wp2_with fail
  refine (CG1.out).mono ?_
  rintro e w3 ⟨rfl, hb3⟩
  have HB3 := Lib.hid (HB2.out.trans (hb3.mono hz2))
  have K3 := Lib.hid (K.out w3 HB3.out)
  clear hb3 c0 c1 c2 c3
  obtain ⟨_, _, _, c0, c1, c2, c3⟩ := K3.out
  have CP1 := Lib.hid (CP.out w3 K3.out.2.1 K3.out.2.2.1.1 K3.out.2.2.1.2)
  have hz3 : g + 1 ≤ w3.heap.size := by have := HB3.out.size; have := HZ.out; omega
  clear K2 CP CG1
  cases m with
  | false =>
    simp only [Bool.false_eq_true, if_false] at CP1
    clear CDP CS HMT
    go_wp2_with fail
    refine (CP1.out).mono ?_
    rintro e w4 ⟨rfl, hb4⟩
    have HB4 := Lib.hid (HB3.out.trans (hb4.mono hz3))
    have hz4 : g + 1 ≤ w4.heap.size := by have := HB4.out.size; have := HZ.out; omega
    clear hb4 c0 c1 c2 c3 K3
    have KF := Lib.hid (fun x : Fut w4 => K.out x.at_ (HB4.out.trans (x.is.mono hz4)))
    have f0 := fun x => (KF.out x).2.2.2.1
    have f1 := fun x => (KF.out x).2.2.2.2.1
    have f2 := fun x => (KF.out x).2.2.2.2.2.1
    have f3 := fun x => (KF.out x).2.2.2.2.2.2
    have D1 := Lib.hid (fun x : Fut w4 => CM.out x.at_ (KF.out x).2.1 (KF.out x).2.2.1.1)
    have D2 := Lib.hid (fun x : Fut w4 => CDM.out x.at_ (KF.out x).2.1)
    have D3 := Lib.hid (fun x : Fut w4 => CF.out x.at_ (KF.out x).2.1 (KF.out x).2.2.1.1)
    have D4 := Lib.hid (fun x : Fut w4 => CDF.out x.at_ (KF.out x).2.1)
    clear CM CF CDF HT CP1
    go_upto_region 6 with fail
    have HNEXT : Hid (∀ x : Fut w4, Below (g + 1) w1 x.at_) := Lib.hid fun x => HB4.out.trans (x.is.mono hz4)
    clear KF
    rcases fl with _ | _
    all_goals
      refine wp_region_after (by kernel_rfl) (by kernel_rfl) ?_
      repeat (go_big_quiet_step (fail))
      go_big_quiet_step (exact Calls.after (D1.out _))
      repeat (go_big_quiet_step (fail))
      go_big_quiet_step (exact Calls.after (D2.out _))
      repeat (go_big_quiet_step (fail))
      go_big_quiet_step (exact Calls.after (D3.out _))
      repeat (go_big_quiet_step (fail))
      go_big_quiet_step (exact Calls.after (D4.out _))
      repeat (go_big_quiet_step (fail))
      refine wpQuiet_nil ?_
      intro xf
      have HB5 := Lib.hid (HNEXT.out xf)
      generalize xf.at_ = w5 at *
      have K5 := Lib.hid (K.out w5 HB5.out)
      clear HNEXT D1 D2 D3 D4 f0 f1 f2 f3
      obtain ⟨_, _, _, c0, c1, c2, c3⟩ := K5.out
      have CM5 := Lib.hid (CDM.out w5 K5.out.2.1)
      have hz5 : g + 1 ≤ w5.heap.size := by have := HB5.out.size; have := HZ.out; omega
      go_wp2_with fail
      refine (CM5.out).mono ?_
      rintro e w6 ⟨rfl, hb6⟩
      have HB6 := Lib.hid (HB5.out.trans (hb6.mono hz5))
      have hz6 : g + 1 ≤ w6.heap.size := by have := HB6.out.size; have := HZ.out; omega
      clear hb6 c0 c1 c2 c3 CM5
      have HF := Lib.hid (K.out w6 HB6.out).1
      go_wp2_with fail
      go_returns
      exact ⟨rfl, HF.out⟩
  | true =>
    simp only [if_true] at CP1
    have HMX := Lib.hid (HMT.out rfl)
    have hpl : (put x).length ≤ 5000 := by have := put_len x HMX.out.1; have := HMX.out.2.1; omega
    have CDP1 := Lib.hid (CDP.out HMX.out.1 hpl)
    have HGP := Lib.hid HMX.out.2.2
    clear CDP HMX HMT
    obtain ⟨S, hS⟩ : ∃ S : ByteArray, S = ⟨(put x).toArray⟩ := ⟨_, rfl⟩
    have hSL : Hid (S.data.toList = put x) := Lib.hid (by rw [hS])
    have hSs : S.size ≤ 5000 := by rw [hS]; have : (⟨(put x).toArray⟩ : ByteArray).size = (put x).length := List.size_toArray; omega
    rw [← hS] at CP1 CDP1
    clear hS hpl
    go_wp2_with fail
    refine (CP1.out).mono ?_
    rintro e w4 ⟨rfl, hb4⟩
    have HB4 := Lib.hid (HB3.out.trans (hb4.mono hz3))
    have hz4 : g + 1 ≤ w4.heap.size := by have := HB4.out.size; have := HZ.out; omega
    clear hb4 c0 c1 c2 c3 K3
    have KF := Lib.hid (fun x : Fut w4 => K.out x.at_ (HB4.out.trans (x.is.mono hz4)))
    have f0 := fun x => (KF.out x).2.2.2.1
    have f1 := fun x => (KF.out x).2.2.2.2.1
    have f2 := fun x => (KF.out x).2.2.2.2.2.1
    have f3 := fun x => (KF.out x).2.2.2.2.2.2
    have D1 := Lib.hid (fun x : Fut w4 => CM.out x.at_ (KF.out x).2.1 (KF.out x).2.2.1.1)
    have D2 := Lib.hid (fun x : Fut w4 => CDM.out x.at_ (KF.out x).2.1)
    have D3 := Lib.hid (fun x : Fut w4 => CF.out x.at_ (KF.out x).2.1 (KF.out x).2.2.1.1)
    have D4 := Lib.hid (fun x : Fut w4 => CDF.out x.at_ (KF.out x).2.1)
    clear CM CF CDF HT CP1
    go_upto_region 6 with fail
    have HNEXT : Hid (∀ x : Fut w4, Below (g + 1) w1 x.at_) := Lib.hid fun x => HB4.out.trans (x.is.mono hz4)
    clear KF
    rcases fl with _ | _
    all_goals
      refine wp_region_after (by kernel_rfl) (by kernel_rfl) ?_
      repeat (go_big_quiet_step (fail))
      go_big_quiet_step (exact Calls.after (D1.out _))
      repeat (go_big_quiet_step (fail))
      go_big_quiet_step (exact Calls.after (D2.out _))
      repeat (go_big_quiet_step (fail))
      go_big_quiet_step (exact Calls.after (D3.out _))
      repeat (go_big_quiet_step (fail))
      go_big_quiet_step (exact Calls.after (D4.out _))
      repeat (go_big_quiet_step (fail))
      refine wpQuiet_nil ?_
      intro xf
      have HB5 := Lib.hid (HNEXT.out xf)
      generalize xf.at_ = w5 at *
      have K5 := Lib.hid (K.out w5 HB5.out)
      clear HNEXT D1 D2 D3 D4 f0 f1 f2 f3
      obtain ⟨_, _, _, c0, c1, c2, c3⟩ := K5.out
      have CM5 := Lib.hid (CDM.out w5 K5.out.2.1)
      have hz5 : g + 1 ≤ w5.heap.size := by have := HB5.out.size; have := HZ.out; omega
      go_wp2_with fail
      refine (CM5.out).mono ?_
      rintro e w6 ⟨rfl, hb6⟩
      have HB6 := Lib.hid (HB5.out.trans (hb6.mono hz5))
      have hz6 : g + 1 ≤ w6.heap.size := by have := HB6.out.size; have := HZ.out; omega
      clear hb6 c0 c1 c2 c3 CM5
      have K6 := Lib.hid (K.out w6 HB6.out)
      have CGT := Lib.hid (prog_get S w6 (by unfold maxLen; omega) K6.out.2.2.1.1)
      clear K5
      go_wp2_with fail
      refine (CGT.out).mono ?_
      rintro e w7 ⟨a, o, n, c, er, sub, rfl, hb7, hwf, hs7, hres⟩
      have HEQ : Hid (er = 0 ∧ x = .node a sub) := Lib.hid (by
        rcases hres with ⟨h1, h2⟩ | ⟨h1, _⟩
        · rw [hSL.out, HGP.out] at h1
          exact ⟨h2, Option.some.inj h1⟩
        · rw [hSL.out, HGP.out] at h1; cases h1)
      obtain ⟨rfl, hxe⟩ := HEQ.out
      obtain ⟨rfl, rfl⟩ : a = x.lab ∧ sub = x.sub := by rw [hxe]; exact ⟨rfl, rfl⟩
      have HB7 := Lib.hid (HB6.out.trans (hb7.mono hz6))
      have hz7 : g + 1 ≤ w7.heap.size := by have := HB7.out.size; have := HZ.out; omega
      have HA7 : Hid (∀ W, w7.alloc (.cells #[.int .i64 x.lab.kind, .int .i64 x.lab.size, .slice o n c, .int .i64 x.lab.tail] TT) = W → Below (g + 1) w1 W ∧ Blk W w7.heap.size #[.int .i64 x.lab.kind, .int .i64 x.lab.size, .slice o n c, .int .i64 x.lab.tail] TT ∧ TSubs W (.slice o n c) x.sub) := Lib.hid fun W h => by
        subst h
        have hal := (Below.refl w7.heap.size w7).alloc (Nat.le_refl _) (.cells #[.int .i64 x.lab.kind, .int .i64 x.lab.size, .slice o n c, .int .i64 x.lab.tail] TT)
        exact ⟨HB7.out.trans (hal.mono hz7), Blk.new w7 _ _, Shape.Subs.below hs7 hal⟩
      clear hres hb7 hwf hs7 CGT HEQ hxe
      go_upto_region 11 with fail
      generalize w7.alloc (.cells #[.int .i64 x.lab.kind, .int .i64 x.lab.size, .slice o n c, .int .i64 x.lab.tail] TT) = w8 at *
      obtain ⟨hb8, hB8, ht8⟩ := HA7.out _ rfl
      have HB8 := Lib.hid hb8
      have K8 := Lib.hid (K.out w8 hb8)
      obtain ⟨_, _, _, c0, c1, c2, c3⟩ := K8.out
      have CDP8 := Lib.hid (CDP1.out w8 K8.out.2.1)
      have hz8 : g + 1 ≤ w8.heap.size := by have := HB8.out.size; have := HZ.out; omega
      have HB8B := Lib.hid hB8
      have HT8 := Lib.hid ht8
      have hbe : (S.toList == S.toList) = true := by simp
      have hlt8 : w7.heap.size < w8.heap.size := hB8.lt
      clear HA7 hb8 hB8 ht8 CDP1 K6
      go_wp2_with fail
      refine (CDP8.out).mono ?_
      rintro e w9 ⟨rfl, hb9⟩
      have HB9 := Lib.hid (HB8.out.trans (hb9.mono hz8))
      have K9 := Lib.hid (K.out w9 HB9.out)
      have hB9 := Below.blk hb9 HB8B.out hlt8
      have q0 := hB9.cell 0
      have q1 := hB9.cell 1
      have q2 := hB9.cell 2
      have q3 := hB9.cell 3
      simp only [List.getElem?_toArray, List.getElem?_cons_zero, List.getElem?_cons_succ] at q0 q1 q2 q3
      have CS9 := Lib.hid (CS.out w9 (.slice o n c) K9.out.2.1 (Shape.Subs.below HT8.out hb9))
      have hz9 : g + 1 ≤ w9.heap.size := by have := HB9.out.size; have := HZ.out; omega
      clear hb9 hB9 c0 c1 c2 c3 CDP8 CS K8
      obtain ⟨_, _, _, c0, c1, c2, c3⟩ := K9.out
      go_wp2_with fail
      refine (CS9.out).mono ?_
      rintro e w10 ⟨rfl, hb10⟩
      have HF := Lib.hid (K.out w10 (HB9.out.trans (hb10.mono hz9))).1
      clear hb10
      go_wp2_with fail
      go_returns
      exact ⟨rfl, HF.out⟩
end Go.Proofs.YtopfpfpefljkkaaDoor
