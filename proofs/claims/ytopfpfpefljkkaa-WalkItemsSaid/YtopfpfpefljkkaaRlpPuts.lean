/- The law RlpPuts. -/
import Derived.Test.YtopfpfpefljkkaaRlpLaw
import Derived.Deep.RegionHeld3
namespace Go.Proofs.Ytopfpfpefljkkaa
open Go.RowKit
set_option linter.unusedVariables false
set_option linter.unusedSimpArgs false

theorem Calls.chain2 {P : Program} {f : FuncId} {args : Array Value} {W : World} {v : Value} {F : World → Prop} (h : Calls P f args W fun e w' => e = .returned v ∧ Below W.heap.size W w') (hz : ∀ W', Below W.heap.size W W' → F W') :
    Calls P f args W fun e w' => e = .returned v ∧ F w' ∧ Below W.heap.size W w' := h.mono fun _ _ ⟨a, b⟩ => ⟨a, hz _ b, b⟩
theorem Calls.chain {P : Program} {f : FuncId} {args : Array Value} {W : World} {v : Value} {F : World → Prop} (h : Calls P f args W fun e w' => e = .returned v ∧ Below W.heap.size W w') (hz : ∀ W', Below W.heap.size W W' → F W') :
    Calls P f args W fun e w' => e = .returned v ∧ F w' := h.mono fun _ _ ⟨a, b⟩ => ⟨a, hz _ b⟩
theorem great_enc {x : Rose IL} (h : greatI x = false) : x.count ≤ 1199 ∧ (enc x).length ≤ 100000 ∧ x.lab.text.length ≤ 6000 := by
  unfold greatI at h
  simp only [Bool.or_eq_false_iff, decide_eq_false_iff_not] at h
  obtain ⟨h1, h2⟩ := h
  have := enc_le x (by omega)
  refine ⟨by omega, by omega, ?_⟩
  cases x with
  | node a s => rw [tsz_node] at h2; simp only [Rose.lab_node]; omega
theorem may_parts {x : Rose IL} (h : mayI x = true) : x.all iright = true ∧ x.deep ≤ 16 ∧ x.count ≤ 1024 := by
  unfold mayI at h
  simp only [Bool.and_eq_true, decide_eq_true_eq] at h
  exact ⟨h.1.1, h.1.2, h.2⟩
/-- What is put is got. -/
theorem get_put {x : Rose IL} (hm : mayI x = true) (hE : (enc x).length ≤ 100000) {K M : Nat} (hK : x.deep ≤ K) (hM : x.count ≤ M) : getR (enc x) (rdI K (enc x) M) = .ok x := by
  have h1 := rdI_enc K x M [] (may_parts hm).1 (by omega) hK hM
  rw [List.append_nil] at h1
  rw [h1]
  simp [getR]

/-- A new item's block, known whole. -/
def GB (B : Nat) (W : World) (c : Nat) : Prop := B ≤ c ∧ Blk W c #[.string ⟨#[]⟩, .bool false, .slice none 0 0] IT
theorem GB.below {B c : Nat} {W W' : World} (h : GB B W c) (hb : Below W.heap.size W W') : GB B W' c := ⟨h.1, Below.blk hb h.2 h.2.lt⟩
theorem GB.new {B : Nat} {W : World} (h : B ≤ W.heap.size) : GB B (W.alloc (.cells #[.string ⟨#[]⟩, .bool false, .slice none 0 0] IT)) W.heap.size := ⟨h, Blk.new _ _ _⟩
theorem GB.apart {B c : Nat} {W W' : World} {v : Value} {s : List (Rose IL)} (h : GB B W c) (hu : ISubsQ W' (fun k => W.heap.size ≤ k) v s) : ISubsQ W' (fun k => k ≠ c) v s :=
  Shape.Subs.keep hu (Nat.le_refl _) (fun b _ hq e => by have := h.2.lt; subst e; omega) fun _ _ _ => rfl
theorem GB.facts {B c : Nat} {W : World} (h : GB B W c) : W.cell? ⟨c, 0, none⟩ = some (.string ⟨#[]⟩) ∧ W.cell? ⟨c, 1, none⟩ = some (.bool false) ∧ W.cell? ⟨c, 2, none⟩ = some (.slice none 0 0) ∧ W.frozen? ⟨c, 0, none⟩ = false ∧ W.frozen? ⟨c, 1, none⟩ = false ∧ W.frozen? ⟨c, 2, none⟩ = false :=
  ⟨h.2.cell 0, h.2.cell 1, h.2.cell 2, h.2.free 0, h.2.free 1, h.2.free 2⟩
theorem below_set3 {B c : Nat} {w1 W : World} (h : Below B w1 W) (hc : B ≤ c) (x y z : Value) : Below B w1 (((W.setCell ⟨c, 0, none⟩ x).setCell ⟨c, 1, none⟩ y).setCell ⟨c, 2, none⟩ z) :=
  ((h.setCell hc x).setCell hc y).setCell hc z
/-- What is known of the got item's block. -/
def GotIn (B : Nat) (w1 : World) (x : Rose IL) (u : Value) (c : Nat) (W : World) : Prop := Below B w1 W ∧ ISubs W u x.sub ∧ W.cell? ⟨c, 0, none⟩ = some (.string (txt x.lab)) ∧ W.cell? ⟨c, 1, none⟩ = some (.bool x.lab.list) ∧ W.cell? ⟨c, 2, none⟩ = some u ∧ B ≤ c ∧ c < W.heap.size
theorem got_b {B c : Nat} {w1 W : World} {x : Rose IL} {u : Value} (h : Below B w1 W) (hn : GB B W c) (hu : ISubsQ W (fun k => k ≠ c) u x.sub) :
    GotIn B w1 x u c (((W.setCell ⟨c, 0, none⟩ (.string (txt x.lab))).setCell ⟨c, 1, none⟩ (.bool x.lab.list)).setCell ⟨c, 2, none⟩ u) := by
  have hb := ((hn.2.set 0 (.string (txt x.lab))).set 1 (.bool x.lab.list)).set 2 u
  refine ⟨below_set3 h hn.1 _ _ _, Shape.Subs.keep hu (by simp) (fun _ _ _ => trivial) (fun k _ hk => ?_), (hb.cell 0).trans (by simp), (hb.cell 1).trans (by simp), (hb.cell 2).trans (by simp), hn.1, hb.lt⟩
  rw [Below.heap_setCell _ _ _ _ hk, Below.heap_setCell _ _ _ _ hk, Below.heap_setCell _ _ _ _ hk]
theorem got_a {B : Nat} {w1 W : World} {x : Rose IL} {u : Value} (h : Below B w1 W) (hB : B ≤ W.heap.size) (hu : ISubsQ W (fun k => W.heap.size ≤ k) u x.sub ∨ ISubs W u x.sub) :
    GotIn B w1 x u W.heap.size (W.alloc (.cells #[.string (txt x.lab), .bool x.lab.list, u] IT)) := by
  have hu : ISubs W u x.sub := hu.elim ISubsQ.any id
  obtain ⟨a1, a2, a3, a4, a5, a6, _⟩ := box_item (T := txt x.lab) (l := x.lab.list) (t := IT) hu _ rfl
  exact ⟨h.trans (a1.mono hB), a2, a4, a5, a6, hB, by rw [a3]; exact Nat.lt_succ_self _⟩

theorem gen_got {W : World} {c : Nat} {B : Nat} {w1 : World} {x : Rose IL} {u : Value}  (h : GotIn B w1 x u c W) : ∃ W', W = W' ∧ GotIn B w1 x u c W' := ⟨W, rfl, h⟩
theorem gen_at {c : Nat} {W : World} {B : Nat} {w1 : World} {x : Rose IL} {u : Value}  (h : GotIn B w1 x u c W) : ∃ c', c = c' ∧ GotIn B w1 x u c' W := ⟨c, rfl, h⟩

set_option maxRecDepth 100000 in
set_option maxHeartbeats 8000000 in
theorem rlp_puts (x : Rose IL) (v : Value) (w : World) (h : ISubs w v x.sub ∧ x.lab.text.length ≤ maxLen) :
    Calls Try.prog 9 #[.agg #[.string (txt x.lab), .bool x.lab.list, v]] w fun e w' => e = .returned (.bool true) ∧ Below w.heap.size w w' := by
  obtain ⟨hv, hxl⟩ := h
  have HW := Lib.hid (box_item (T := txt x.lab) (l := x.lab.list) (t := IT) hv)
  obtain ⟨oa, cap, rfl, hcap, hml⟩ := ISubsQ.slice hv
  obtain ⟨g, hg⟩ : ∃ g, w.heap.size = g := ⟨_, rfl⟩
  have HXL := Lib.hid hxl
  obtain ⟨M, hM⟩ : ∃ M, x.sub.length = M := ⟨_, rfl⟩
  rw [hg] at HW ⊢
  rw [hM] at HW ⊢
  have HM := Lib.hid hM
  clear hv hcap hml hxl hM
  go_enter Try.func9, Try.ntmps9
  go_upto_region 1 with fail
  generalize w.alloc (.cells #[.string (txt x.lab), .bool x.lab.list, .slice oa M cap] IT) = w1 at *
  obtain ⟨hb1, ht1, hsz, c0, c1, c2, hB1⟩ := HW.out _ rfl
  have hsz1 : w1.heap.size = g + 1 := hsz
  have HC : Hid (∀ W, Below (g + 1) w1 W → Below (g + 1) w1 W ∧ W.cell? ⟨g, 0, none⟩ = some (.string (txt x.lab)) ∧ W.cell? ⟨g, 1, none⟩ = some (.bool x.lab.list) ∧ W.cell? ⟨g, 2, none⟩ = some (.slice oa M cap)) := Lib.hid fun W hb =>
    ⟨hb, (hb.cell (p := ⟨g, 0, none⟩) (Nat.lt_succ_self g)).trans c0, (hb.cell (p := ⟨g, 1, none⟩) (Nat.lt_succ_self g)).trans c1, (hb.cell (p := ⟨g, 2, none⟩) (Nat.lt_succ_self g)).trans c2⟩
  have HF : Hid (∀ W, Below (g + 1) w1 W → Below g w W) := Lib.hid fun W hb => hb1.trans (hb.mono (by omega))
  have HS : Hid (∀ W, Below (g + 1) w1 W → ISubs W (.slice oa M cap) x.sub) := Lib.hid fun W hb => Shape.Subs.below ht1 (hsz1 ▸ hb)
  have HZ : Hid (∀ W W', Below (g + 1) w1 W → Below W.heap.size W W' → Below (g + 1) w1 W') := Lib.hid fun W W' hb hb' => hb.trans (hb'.mono (by have := hb.size; omega))
  have HR1 : Hid (Below (g + 1) w1 w1) := Lib.hid (Below.refl _ _)
  clear HW hb1 ht1 hsz hB1
  have CA := Lib.hid rlp_alive
  go_wp2_with fail
  refine (CA.out _).mono ?_
  rintro e w2 ⟨rfl, hb2⟩
  have H2 := Lib.hid (HZ.out _ _ HR1.out hb2)
  obtain ⟨_, c0, c1, c2⟩ := HC.out _ H2.out
  clear hb2
  have CG := Lib.hid (ilaw_great x w2 _ (HS.out _ H2.out) HXL.out)
  cases hgr : greatI x with
  | true =>
    rw [hgr] at CG
    go_wp2_with fail
    refine CG.out.mono ?_
    rintro e w3 ⟨rfl, hb3⟩
    have H3 := Lib.hid (HF.out _ (HZ.out _ _ H2.out hb3))
    clear hb3
    go_wp2_with fail
    go_returns
    exact ⟨rfl, H3.out⟩
  | false =>
    obtain ⟨hct, hen, htl⟩ := great_enc hgr
    rw [hgr] at CG
    have HEN := Lib.hid hen
    go_wp2_with fail
    refine CG.out.mono ?_
    rintro e w3 ⟨rfl, hb3⟩
    have H3 := Lib.hid (HZ.out _ _ H2.out hb3)
    obtain ⟨_, c0, c1, c2⟩ := HC.out _ H3.out
    clear hb3 CG
    have CP := Lib.hid (fun W (hb : Below (g + 1) w1 W) => Calls.chain (rlp_put x W _ (HS.out _ hb) HXL.out (fun _ => HEN.out)) (fun W' hb' => HZ.out W W' hb hb'))
    have CM := Lib.hid (fun W (hb : Below (g + 1) w1 W) => Calls.chain (idoc_may x W _ (HS.out _ hb) (by omega)) (fun W' hb' => HZ.out W W' hb hb'))
    have CS := Lib.hid (fun W (hb : Below (g + 1) w1 W) => Calls.chain2 (rlp_size x W _ (HS.out _ hb) HXL.out (fun _ => HEN.out)) (fun W' hb' => HZ.out W W' hb hb'))
    cases hmy : mayI x with
    | false =>
      have hpv : putV x = .tuple #[.string ⟨#[]⟩, .int .i64 1] := by unfold putV; rw [hmy]; rfl
      have hsv : sizeI x = 0 := by unfold sizeI; rw [hmy]; rfl
      rw [hmy] at CM
      rw [hpv] at CP
      rw [hsv] at CS
      go_wp2_with fail
      refine (CP.out _ H3.out).mono ?_
      rintro e w4 ⟨rfl, hb4⟩
      have H4 := Lib.hid hb4
      obtain ⟨_, c0, c1, c2⟩ := HC.out _ H4.out
      clear hb4
      go_wp2_with fail
      refine (CM.out _ H4.out).mono ?_
      rintro e w5 ⟨rfl, hb5⟩
      have H5 := Lib.hid hb5
      obtain ⟨_, c0, c1, c2⟩ := HC.out _ H5.out
      clear hb5
      go_wp2_with fail
      refine (CS.out _ H5.out).mono ?_
      rintro e w6 ⟨rfl, hb6, _⟩
      have H6 := Lib.hid (HF.out _ hb6)
      clear hb6
      go_wp2_with fail
      go_returns
      exact ⟨rfl, H6.out⟩
    | true =>
      obtain ⟨S, hS⟩ : ∃ S : ByteArray, ⟨(enc x).toArray⟩ = S := ⟨_, rfl⟩
      have hSs : S.size = (enc x).length := by rw [← hS, size_mk]
      have hSl : S.data.toList = enc x := by rw [← hS]
      have hpv : putV x = .tuple #[.string S, .int .i64 0] := by unfold putV; rw [if_pos hmy, hS]
      have hsv : sizeI x = S.size := by unfold sizeI; rw [if_pos hmy, hSs]
      obtain ⟨hmr, hmd, hmc⟩ := may_parts hmy
      rw [hmy] at CM
      rw [hpv] at CP
      rw [hsv] at CS
      have hS1 : S.size ≤ 100000 := by omega
      have CD := Lib.hid (fun W (hb : Below (g + 1) w1 W) => Calls.chain2 (idoc_deep x W _ (HS.out _ hb) (by omega)) (fun W' hb' => HZ.out W W' hb hb'))
      have CC := Lib.hid (fun W (hb : Below (g + 1) w1 W) => Calls.chain2 (idoc_count x W _ (HS.out _ hb) (by omega)) (fun W' hb' => HZ.out W W' hb hb'))
      have CR := Lib.hid (fun W (hb : Below (g + 1) w1 W) => Calls.chain2 (ref_put x W _ (HS.out _ hb) hen (by omega) hmr) (fun W' hb' => HZ.out W W' hb hb'))
      rw [hS] at CR
      have hgp := get_put hmy hen (Nat.le_refl x.deep) (Nat.le_refl x.count)
      have hwf : ∀ n : Nat, n ≤ 2000 → (Lit.int .i64 (n : Int)).wf = true := fun n hn => by
        simp [Lit.wf, IntKind.min, IntKind.max, IntKind.signed, IntKind.bits]; omega
      have CG2 : Hid (∀ W, Below (g + 1) w1 W → Calls Try.prog 14 #[.string S, .int .i64 (x.deep : Nat), .int .i64 (x.count : Nat)] W fun e W' => ∃ ou cu, e = .returned (.tuple #[.agg #[.string (txt x.lab), .bool x.lab.list, .slice ou M cu], .int .i64 0]) ∧ ISubsQ W' (fun k => W.heap.size ≤ k) (.slice ou M cu) x.sub ∧ Below (g + 1) w1 W' ∧ Below W.heap.size W W') := Lib.hid fun W hb => by
        have := rlp_get (x.deep : Nat) (x.count : Nat) x.deep x.count (by omega) (by omega) S W hS1 (hwf _ (by omega)) (hwf _ (by omega))
        rw [hSl, hgp] at this
        refine this.mono fun e W' ⟨u, h1, h2, h3⟩ => ?_
        obtain ⟨ou, cu, rfl, _, _⟩ := h2.slice
        rw [HM.out] at h1 h2
        exact ⟨ou, cu, h1, h2, HZ.out _ _ hb h3, h3⟩
      have HSAME := Lib.hid (fun W u u' h1 h2 => idoc_same x x W u u' h1 h2)
      simp only [isame_refl] at HSAME
      clear hS hSs hSl hpv hsv hmr hgp hwf htl hen
      generalize x.deep = dp at *
      generalize x.count = ct at *
      go_wp2_with fail
      refine (CP.out _ H3.out).mono ?_
      rintro e w4 ⟨rfl, hb4⟩
      have H4 := Lib.hid hb4
      obtain ⟨_, c0, c1, c2⟩ := HC.out _ H4.out
      clear hb4
      go_wp2_with fail
      refine (CM.out _ H4.out).mono ?_
      rintro e w5 ⟨rfl, hb5⟩
      have H5 := Lib.hid hb5
      obtain ⟨_, c0, c1, c2⟩ := HC.out _ H5.out
      clear hb5
      go_upto_region 8 with fail
      have hb0 := H5.out.drew
      have hS0 := HC.out _ hb0
      have HA : Hid (∀ W, Below (g + 1) w1 W → Below (g + 1) w1 (W.alloc (.cells #[.string ⟨#[]⟩, .bool false, .slice none 0 0] IT)) ∧ GB (g + 1) (W.alloc (.cells #[.string ⟨#[]⟩, .bool false, .slice none 0 0] IT)) W.heap.size) := Lib.hid fun W hb => ⟨HZ.out _ _ hb ((Below.refl _ _).alloc (Nat.le_refl _) _), GB.new (by have := hb.size; omega)⟩
      have hA0 : Below (g + 1) w1 (w5.alloc (.cells #[.string ⟨#[]⟩, .bool false, .slice none 0 0] IT)).drew := (HA.out _ H5.out).1.drew
      have hN0 : GB (g + 1) (w5.alloc (.cells #[.string ⟨#[]⟩, .bool false, .slice none 0 0] IT)).drew w5.heap.size := (HA.out _ H5.out).2
      go_region_held3 (fun W => Below (g + 1) w1 W ∧ W.cell? ⟨g, 0, none⟩ = some (.string (txt x.lab)) ∧ W.cell? ⟨g, 1, none⟩ = some (.bool x.lab.list) ∧ W.cell? ⟨g, 2, none⟩ = some (.slice oa M cap))
        (first | assumption | exact hS0 | exact HC.out _ (by assumption) | exact HC.out _ hA0 | exact HC.out _ (HA.out _ hbd).1 | exact HC.out _ (HA.out _ hbk).1 | exact HC.out _ (below_set3 hbg hng.1 _ _ _) | exact HC.out _ (HZ.out _ _ hbg ((Below.refl _ _).alloc (Nat.le_refl _) _)))
        (first
          | (go_at_call 20; refine (CD.out _ hb0).mono ?_; rintro e wd ⟨rfl, hbd, hed⟩)
          | (go_at_call 20; refine (CD.out _ hA0).mono ?_; rintro e wd ⟨rfl, hbd, hed⟩; have hnd := hN0.below hed)
          | (go_at_call 21; refine (CC.out _ hbd).mono ?_; rintro e wk ⟨rfl, hbk, hek⟩; have hnk := hnd.below hek)
          | (go_at_call 21; refine (CC.out _ hbd).mono ?_; rintro e wk ⟨rfl, hbk, hek⟩)
          | (go_at_call 21; refine (CC.out _ (HA.out _ hbd).1).mono ?_; rintro e wk ⟨rfl, hbk, hek⟩; have hnk := (HA.out _ hbd).2.below hek)
          | (go_at_call 14; refine (CG2.out _ hbk).mono ?_; rintro e wg ⟨ou, cu, rfl, hug, hbg, heg⟩; have hng := hnk.below heg; have hug2 := hnk.apart hug; obtain ⟨z0, z1, z2, z3, z4, z5⟩ := hng.facts)
          | (go_at_call 14; refine (CG2.out _ hbk).mono ?_; rintro e wg ⟨ou, cu, rfl, hug, hbg, heg⟩)
          | (go_at_call 14; refine (CG2.out _ (HA.out _ hbk).1).mono ?_; rintro e wg ⟨ou, cu, rfl, hug, hbg, heg⟩; have hng := (HA.out _ hbk).2.below heg; have hug2 := (HA.out _ hbk).2.apart hug; obtain ⟨z0, z1, z2, z3, z4, z5⟩ := hng.facts))
      all_goals
        first
          | (obtain ⟨w7, ew7, HG⟩ := gen_got (got_b (x := x) hbg hng hug2); rw [ew7]; clear ew7)
          | (obtain ⟨w7, ew7, HG⟩ := gen_got (got_a (x := x) hbg (by have := hbg.size; omega) (.inr hug.any)); rw [ew7]; clear ew7)
      all_goals
        have HGo := HG
        clear HG
        obtain ⟨c7, ec7, HG⟩ := gen_at HGo
        clear HGo
        rw [ec7]
        clear ec7
        obtain ⟨hb7, hu7, y0, y1, y2, hc7, hc8⟩ := HG
        have H7 := Lib.hid hb7
        have HU := Lib.hid hu7
        have HY : Hid (∀ W, Below w7.heap.size w7 W → ISubs W (.slice ou M cu) x.sub ∧ W.cell? ⟨c7, 0, none⟩ = some (.string (txt x.lab)) ∧ W.cell? ⟨c7, 1, none⟩ = some (.bool x.lab.list) ∧ W.cell? ⟨c7, 2, none⟩ = some (.slice ou M cu)) := Lib.hid fun W hb =>
          ⟨Shape.Subs.below hu7 hb, (hb.cell (p := ⟨c7, 0, none⟩) hc8).trans y0, (hb.cell (p := ⟨c7, 1, none⟩) hc8).trans y1, (hb.cell (p := ⟨c7, 2, none⟩) hc8).trans y2⟩
        obtain ⟨_, c0, c1, c2⟩ := HC.out _ H7.out
        clear hb7 hu7 hbg heg hug hbk hek hbd hed hA0 hN0 hS0 hb0
        try clear hug2 hng z0 z1 z2 z3 z4 z5
        try clear hnk
        try clear hnd
        go_wp2_with fail
        refine (CR.out _ H7.out).mono ?_
        rintro e w8 ⟨rfl, hb8, he8⟩
        have H8 := Lib.hid hb8
        have E8 := Lib.hid he8
        obtain ⟨_, c0, c1, c2⟩ := HC.out _ H8.out
        clear hb8 he8 y0 y1 y2
        go_wp2_with fail
        refine (CS.out _ H8.out).mono ?_
        rintro e w9 ⟨rfl, hb9, he9⟩
        have H9 := Lib.hid hb9
        have E9 : Hid (Below w7.heap.size w7 w9) := Lib.hid (E8.out.trans (he9.mono E8.out.size))
        obtain ⟨_, c0, c1, c2⟩ := HC.out _ H9.out
        obtain ⟨hu9, y0, y1, y2⟩ := HY.out _ E9.out
        have HU9 := Lib.hid hu9
        clear hb9 he9 hu9
        go_wp2_with fail
        refine (HSAME.out _ _ _ (HS.out _ H9.out) HU9.out).mono ?_
        rintro e w10 ⟨rfl, hb10⟩
        have H10 := Lib.hid (HF.out _ (HZ.out _ _ H9.out hb10))
        clear hb10
        go_wp2_with fail
        go_returns
        exact ⟨rfl, H10.out⟩
end Go.Proofs.Ytopfpfpefljkkaa
