/- rlp.Get; the document's Next and Get. -/
import Derived.Test.YtopfpfpefljkkaaRlpNext
import Derived.Test.YtopfpfpefljkkaaRlpGotAll
namespace Go.Proofs.Ytopfpfpefljkkaa
open Go.RowKit
set_option linter.unusedVariables false
set_option linter.unusedSimpArgs false

set_option maxRecDepth 100000 in
set_option maxHeartbeats 2000000 in
theorem ref_next (depth items : Int) (K M : Nat) (hK : (min depth 16).toNat = K) (hM : (min items 1024).toNat = M) (s : ByteArray) (w : World) (hs : s.size ≤ 100000) :
    Calls Try.prog 12 #[.string s, .int .i64 depth, .int .i64 items] w (GotPost (rdI K s.data.toList M) M w) := by
  obtain ⟨R, hR⟩ : ∃ R, rdI K s.data.toList M = R := ⟨_, rfl⟩
  obtain ⟨g, hg⟩ : ∃ g, w.heap.size = g := ⟨_, rfl⟩
  obtain ⟨wa, hwa⟩ : ∃ wa, w.alloc (.cells #[.string ⟨#[]⟩, .bool false, .slice none 0 0, .int .i64 0, .int .i64 0, .int .i64 0] GT) = wa := ⟨_, rfl⟩
  obtain ⟨hba, hbea, hsa⟩ := got_ini hg hwa
  have CR := ref_read depth items K M hK hM K s 1 0 wa hs (by decide) (by decide) (by decide) (by omega)
  rw [Nat.sub_zero, hR] at CR
  have CR := Lib.hid CR
  have HBA := Lib.hid hba
  have HBE := Lib.hid hbea
  obtain ⟨POST, hP⟩ : ∃ P0, GotPost R M w = P0 := ⟨_, rfl⟩
  have HP := Lib.hid hP
  rw [hR, hP]
  clear hba hbea hP hR
  go_enter Try.func12, Try.ntmps12
  go_wp2_with fail
  refine CR.out.mono ?_
  intro e w2 hpost
  cases R with
  | error er =>
    obtain ⟨rfl, hb2⟩ := hpost
    have hres := Below.blk (hb2.mono (show g + 1 ≤ wa.heap.size by omega)) HBA.out (Nat.lt_succ_self g)
    obtain ⟨c0, c1, c2, c3, c4, c5⟩ := blk6 (show Blk w2 g #[_, _, _, _, _, _] GT from hres)
    obtain ⟨z0, z1, z2, z3, z4, z5⟩ := free6 hres
    have HPUT := Lib.hid (got_put hres (HBE.out.trans (hb2.mono (by omega))))
    clear hres hb2
    go_wp2_with fail
    rw [put6_eq]
    obtain ⟨hblk6, hbel6⟩ := HPUT.out (.string ⟨#[]⟩) (.bool false) (.slice none 0 0) (.int .i64 0) (.int .i64 0) (.int .i64 (er : Nat))
    obtain ⟨d0, d1, d2, d3, d4, d5⟩ := blk6 hblk6
    have HB6 := Lib.hid hbel6
    clear hblk6 hbel6
    refine bodyPost_ret (v := .agg #[.string ⟨#[]⟩, .bool false, .slice none 0 0, .int .i64 0, .int .i64 0, .int .i64 (er : Nat)]) (by simp [results, Try.results12, go_sem, d0, d1, d2, d3, d4, d5]) rfl ?_
    rw [← HP.out]
    exact got_err (hg.symm ▸ HB6.out)
  | ok y =>
    obtain ⟨v, rfl, hv, hb2⟩ := hpost
    obtain ⟨x, n, m⟩ := y
    simp only at hv ⊢
    obtain ⟨o, c, hv1, _⟩ := ISubsQ.slice hv
    subst hv1
    obtain ⟨sn, hsn⟩ : ∃ sn, x.sub.length = sn := ⟨_, rfl⟩
    rw [hsn] at hv ⊢
    have hres := Below.blk (hb2.mono (show g + 1 ≤ wa.heap.size by omega)) HBA.out (Nat.lt_succ_self g)
    obtain ⟨c0, c1, c2, c3, c4, c5⟩ := blk6 (show Blk w2 g #[_, _, _, _, _, _] GT from hres)
    obtain ⟨z0, z1, z2, z3, z4, z5⟩ := free6 hres
    have HPUT := Lib.hid (got_put hres (HBE.out.trans (hb2.mono (by omega))))
    have HV := Lib.hid hv
    clear hres hb2 hv hsn
    go_wp2_with fail
    rw [put6_eq]
    obtain ⟨hblk6, hbel6⟩ := HPUT.out (.string (txt x.lab)) (.bool x.lab.list) (.slice o sn c) (.int .i64 (n : Nat)) (.int .i64 ((M - m : Nat) : Int)) (.int .i64 0)
    obtain ⟨d0, d1, d2, d3, d4, d5⟩ := blk6 hblk6
    have HB6 := Lib.hid hbel6
    clear hblk6 hbel6
    refine bodyPost_ret (v := .agg #[.string (txt x.lab), .bool x.lab.list, .slice o sn c, .int .i64 (n : Nat), .int .i64 ((M - m : Nat) : Int), .int .i64 0]) (by simp [results, Try.results12, go_sem, d0, d1, d2, d3, d4, d5]) rfl ?_
    rw [← HP.out]
    refine ⟨.slice o sn c, rfl, Shape.Subs.keep HV.out (by rw [put6_size]; exact Nat.le_refl _) (fun c' _ hc => ?_) fun c' _ hc => put6_heap c' ?_, hg.symm ▸ HB6.out⟩
    · show w.heap.size ≤ c'; have : wa.heap.size ≤ c' := hc; omega
    · have : wa.heap.size ≤ c' := hc; omega

/-- What Get tells: the item of just these bytes. -/
def getR (l : List UInt8) (R : RdR) : Except Nat (Rose IL) := match R with
  | .error er => .error er
  | .ok y => if y.2.1 < l.length then .error 3 else .ok y.1
def GetsPost (R : Except Nat (Rose IL)) (w : World) (e : Ending) (w' : World) : Prop := match R with
  | .error er => e = .returned (.tuple #[.agg zero3, .int .i64 (er : Nat)]) ∧ Below w.heap.size w w'
  | .ok x => ∃ v, e = .returned (.tuple #[.agg #[.string (txt x.lab), .bool x.lab.list, v], .int .i64 0]) ∧ ISubsQ w' (fun c => w.heap.size ≤ c) v x.sub ∧ Below w.heap.size w w'

theorem get_ini {w wa : World} {g : Nat} (hg : w.heap.size = g) (h : w.alloc (.cells #[.string ⟨#[]⟩, .bool false, .slice none 0 0] IT) = wa) : Blk wa g zero3 IT ∧ Below g w wa ∧ wa.heap.size = g + 1 := by
  subst h
  exact ⟨hg ▸ Blk.new w _ _, hg ▸ (Below.refl _ w).alloc (Nat.le_refl _) _, by simp; omega⟩

set_option maxRecDepth 100000 in
set_option maxHeartbeats 4000000 in
theorem ref_get (depth items : Int) (K M : Nat) (hK : (min depth 16).toNat = K) (hM : (min items 1024).toNat = M) (s : ByteArray) (w : World) (hs : s.size ≤ 100000) :
    Calls Try.prog 15 #[.string s, .int .i64 depth, .int .i64 items] w (GetsPost (getR s.data.toList (rdI K s.data.toList M)) w) := by
  obtain ⟨R, hR⟩ : ∃ R, rdI K s.data.toList M = R := ⟨_, rfl⟩
  obtain ⟨g, hg⟩ : ∃ g, w.heap.size = g := ⟨_, rfl⟩
  obtain ⟨wa, hwa⟩ : ∃ wa, w.alloc (.cells #[.string ⟨#[]⟩, .bool false, .slice none 0 0] IT) = wa := ⟨_, rfl⟩
  obtain ⟨hba, hbea, hsa⟩ := get_ini hg hwa
  have CR := ref_next depth items K M hK hM s wa hs
  rw [hR] at CR
  have HRD : Hid (∀ y, R = .ok y → y.2.1 ≤ s.size ∧ 0 < y.2.1) := Lib.hid fun y hy => by
    rw [← hR] at hy
    have h := rdI_pos hy
    have hl : s.data.toList.length = s.size := by simp
    omega
  have CR := Lib.hid CR
  have HBA := Lib.hid hba
  have HBE := Lib.hid hbea
  have HSL : Hid (s.data.toList.length = s.size) := Lib.hid (by simp)
  obtain ⟨POST, hP⟩ : ∃ P0, GetsPost (getR s.data.toList R) w = P0 := ⟨_, rfl⟩
  have HP := Lib.hid hP
  rw [hR, hP]
  clear hba hbea hP
  go_enter Try.func15, Try.ntmps15
  go_wp2_with fail
  refine CR.out.mono ?_
  intro e w2 hpost
  cases R with
  | error er =>
    have her := rdI_errs _ _ _ _ hR
    have hRE : Hid (getR s.data.toList (.error er) = .error er) := Lib.hid rfl
    obtain ⟨rfl, hb2⟩ := hpost
    have e0 : ((er : Int) != 0) = true := by simp; omega
    have e1 : ((er : Int) == 0) = false := by rw [beq_eq_false_iff_ne]; omega
    have HA : Hid (∀ W, w2.alloc (.cells #[.string ⟨#[]⟩, .bool false, .slice none 0 0, .int .i64 0, .int .i64 0, .int .i64 (er : Nat)] GT) = W → Below wa.heap.size wa W ∧ Blk W w2.heap.size #[.string ⟨#[]⟩, .bool false, .slice none 0 0, .int .i64 0, .int .i64 0, .int .i64 (er : Nat)] GT ∧ Below w2.heap.size w2 W) := Lib.hid fun W h => by
      subst h
      exact ⟨hb2.alloc hb2.size _, Blk.new w2 _ _, (Below.refl _ w2).alloc (Nat.le_refl _) _⟩
    clear hb2
    go_upto_region 2 with fail
    generalize w2.alloc (.cells #[.string ⟨#[]⟩, .bool false, .slice none 0 0, .int .i64 0, .int .i64 0, .int .i64 (er : Nat)] GT) = w3 at *
    obtain ⟨hb3, hblk, hbe3⟩ := HA.out _ rfl
    have hres := Below.blk (hb3.mono (show g + 1 ≤ wa.heap.size by omega)) HBA.out (Nat.lt_succ_self g)
    have c0 : w3.cell? ⟨g, 0, none⟩ = some (.string ⟨#[]⟩) := hres.cell 0
    have c1 : w3.cell? ⟨g, 1, none⟩ = some (.bool false) := hres.cell 1
    have c2 : w3.cell? ⟨g, 2, none⟩ = some (.slice none 0 0) := hres.cell 2
    have z0 := hres.free 0
    have z1 := hres.free 1
    have z2 := hres.free 2
    have HPUT := Lib.hid (fun a b c => n_put (a := a) (b := b) (c := c) HBE.out HBA.out.lt (hb3.mono (show g + 1 ≤ wa.heap.size by omega)) hres)
    obtain ⟨y0, y1, y2, y3, y4, y5⟩ := blk6 hblk
    clear hb3 hblk hbe3 hres HA
    go_wp2_with fail
    go_big_region
    go_wp2_with fail
    rw [put3_eq]
    obtain ⟨hblk3, hbel3⟩ := HPUT.out (.string ⟨#[]⟩) (.bool false) (.slice none 0 0)
    have d0 := hblk3.cell 0
    have d1 := hblk3.cell 1
    have d2 := hblk3.cell 2
    simp only [List.getElem?_toArray, List.getElem?_cons_zero, List.getElem?_cons_succ] at d0 d1 d2
    have hbel4 := hbel3.drew
    have HB6 := Lib.hid hbel4
    clear hblk3 hbel3 hbel4
    refine bodyPost_ret (v := .tuple #[.agg #[.string ⟨#[]⟩, .bool false, .slice none 0 0], .int .i64 (er : Nat)]) (by simp [results, Try.results15, go_sem, d0, d1, d2, zero3]) rfl ?_
    rw [← HP.out, hRE.out]
    exact ⟨rfl, hg.symm ▸ HB6.out⟩
  | ok y =>
    obtain ⟨hn1, hn0⟩ := HRD.out _ rfl
    obtain ⟨v, rfl, hv, hb2⟩ := hpost
    obtain ⟨x, n, m⟩ := y
    simp only at hv hn1 hn0 ⊢
    obtain ⟨o, c, hv1, _⟩ := ISubsQ.slice hv
    subst hv1
    obtain ⟨sn, hsn⟩ : ∃ sn, x.sub.length = sn := ⟨_, rfl⟩
    rw [hsn] at hv ⊢
    have HA : Hid (∀ W, w2.alloc (.cells #[.string (txt x.lab), .bool x.lab.list, .slice o sn c, .int .i64 (n : Nat), .int .i64 ((M - m : Nat) : Int), .int .i64 0] GT) = W → Below wa.heap.size wa W ∧ Blk W w2.heap.size #[.string (txt x.lab), .bool x.lab.list, .slice o sn c, .int .i64 (n : Nat), .int .i64 ((M - m : Nat) : Int), .int .i64 0] GT ∧ Below w2.heap.size w2 W) := Lib.hid fun W h => by
      subst h
      exact ⟨hb2.alloc hb2.size _, Blk.new w2 _ _, (Below.refl _ w2).alloc (Nat.le_refl _) _⟩
    have HV2 := Lib.hid hv
    clear hb2 hv hsn
    go_upto_region 2 with fail
    generalize w2.alloc (.cells #[.string (txt x.lab), .bool x.lab.list, .slice o sn c, .int .i64 (n : Nat), .int .i64 ((M - m : Nat) : Int), .int .i64 0] GT) = w3 at *
    obtain ⟨hb3, hblk, hbe3⟩ := HA.out _ rfl
    have hres := Below.blk (hb3.mono (show g + 1 ≤ wa.heap.size by omega)) HBA.out (Nat.lt_succ_self g)
    have c0 : w3.cell? ⟨g, 0, none⟩ = some (.string ⟨#[]⟩) := hres.cell 0
    have c1 : w3.cell? ⟨g, 1, none⟩ = some (.bool false) := hres.cell 1
    have c2 : w3.cell? ⟨g, 2, none⟩ = some (.slice none 0 0) := hres.cell 2
    have z0 := hres.free 0
    have z1 := hres.free 1
    have z2 := hres.free 2
    have HPUT := Lib.hid (fun a b c => n_put (a := a) (b := b) (c := c) HBE.out HBA.out.lt (hb3.mono (show g + 1 ≤ wa.heap.size by omega)) hres)
    obtain ⟨y0, y1, y2, y3, y4, y5⟩ := blk6 hblk
    have HV : Hid (ISubsQ w3 (fun c => wa.heap.size ≤ c) (.slice o sn c) x.sub) := Lib.hid (Shape.Subs.below HV2.out hbe3)
    clear hb3 hblk hbe3 hres HA
    by_cases hlt : n < s.size
    · have hRE : Hid (getR s.data.toList (.ok (x, n, m)) = .error 3) := Lib.hid (by simp only [getR]; rw [if_pos (by rw [HSL.out]; exact hlt)])
      go_wp2_with fail
      rw [put3_eq]
      obtain ⟨hblk3, hbel3⟩ := HPUT.out (.string ⟨#[]⟩) (.bool false) (.slice none 0 0)
      have d0 := hblk3.cell 0
      have d1 := hblk3.cell 1
      have d2 := hblk3.cell 2
      simp only [List.getElem?_toArray, List.getElem?_cons_zero, List.getElem?_cons_succ] at d0 d1 d2
      have HB6 := Lib.hid hbel3
      clear hblk3 hbel3
      refine bodyPost_ret (v := .tuple #[.agg #[.string ⟨#[]⟩, .bool false, .slice none 0 0], .int .i64 3]) (by simp [results, Try.results15, go_sem, d0, d1, d2, zero3]) rfl ?_
      rw [← HP.out, hRE.out]
      exact ⟨rfl, hg.symm ▸ HB6.out⟩
    · have hRE : Hid (getR s.data.toList (.ok (x, n, m)) = .ok x) := Lib.hid (by simp only [getR]; rw [if_neg (by rw [HSL.out]; exact hlt)])
      have hge : s.size ≤ n := by omega
      clear hlt
      go_wp2_with fail
      rw [put3_eq]
      obtain ⟨hblk3, hbel3⟩ := HPUT.out (.string (txt x.lab)) (.bool x.lab.list) (.slice o sn c)
      have d0 := hblk3.cell 0
      have d1 := hblk3.cell 1
      have d2 := hblk3.cell 2
      simp only [List.getElem?_toArray, List.getElem?_cons_zero, List.getElem?_cons_succ] at d0 d1 d2
      have HB6 := Lib.hid hbel3
      clear hblk3 hbel3
      refine bodyPost_ret (v := .tuple #[.agg #[.string (txt x.lab), .bool x.lab.list, .slice o sn c], .int .i64 0]) (by simp [results, Try.results15, go_sem, d0, d1, d2, zero3]) rfl ?_
      rw [← HP.out, hRE.out]
      refine ⟨.slice o sn c, rfl, Shape.Subs.keep HV.out (by rw [put3_size]; exact Nat.le_refl _) (fun c' _ hc => ?_) fun c' _ hc => put3_heap c' ?_, hg.symm ▸ HB6.out⟩
      · show w.heap.size ≤ c'; have : wa.heap.size ≤ c' := hc; omega
      · have : wa.heap.size ≤ c' := hc; omega

set_option maxRecDepth 100000 in
set_option maxHeartbeats 4000000 in
theorem rlp_get (depth items : Int) (K M : Nat) (hK : (min depth 16).toNat = K) (hM : (min items 1024).toNat = M) (s : ByteArray) (w : World) (hs : s.size ≤ 100000) (hd1 : (Lit.int .i64 depth).wf = true) (hi1 : (Lit.int .i64 items).wf = true) :
    Calls Try.prog 14 #[.string s, .int .i64 depth, .int .i64 items] w (GetsPost (getR s.data.toList (rdI K s.data.toList M)) w) := by
  obtain ⟨R, hR⟩ : ∃ R, rdI K s.data.toList M = R := ⟨_, rfl⟩
  obtain ⟨g, hg⟩ : ∃ g, w.heap.size = g := ⟨_, rfl⟩
  obtain ⟨wa, hwa⟩ : ∃ wa, w.alloc (.cells #[.string ⟨#[]⟩, .bool false, .slice none 0 0] IT) = wa := ⟨_, rfl⟩
  obtain ⟨hba, hbea, hsa⟩ := get_ini hg hwa
  have CR := rlp_next s depth items wa hs hd1 hi1
  rw [hK, hM, hR] at CR
  have HRD : Hid (∀ y, R = .ok y → y.2.1 ≤ s.size ∧ 0 < y.2.1) := Lib.hid fun y hy => by
    rw [← hR] at hy
    have h := rdI_pos hy
    have hl : s.data.toList.length = s.size := by simp
    omega
  have CR := Lib.hid CR
  have HBA := Lib.hid hba
  have HBE := Lib.hid hbea
  have HSL : Hid (s.data.toList.length = s.size) := Lib.hid (by simp)
  obtain ⟨POST, hP⟩ : ∃ P0, GetsPost (getR s.data.toList R) w = P0 := ⟨_, rfl⟩
  have HP := Lib.hid hP
  rw [hR, hP]
  clear hba hbea hP
  go_enter Try.func14, Try.ntmps14
  go_wp2_with fail
  refine CR.out.mono ?_
  intro e w2 hpost
  cases R with
  | error er =>
    have her := rdI_errs _ _ _ _ hR
    have hRE : Hid (getR s.data.toList (.error er) = .error er) := Lib.hid rfl
    obtain ⟨rfl, hb2⟩ := hpost
    unfold zero3
    have e0 : ((er : Int) != 0) = true := by simp; omega
    have e1 : ((er : Int) == 0) = false := by rw [beq_eq_false_iff_ne]; omega
    have HA : Hid (∀ W, w2.alloc (.cells #[.string ⟨#[]⟩, .bool false, .slice none 0 0] IT) = W → Below wa.heap.size wa W ∧ Blk W w2.heap.size #[.string ⟨#[]⟩, .bool false, .slice none 0 0] IT ∧ Below w2.heap.size w2 W) := Lib.hid fun W h => by
      subst h
      exact ⟨hb2.alloc hb2.size _, Blk.new w2 _ _, (Below.refl _ w2).alloc (Nat.le_refl _) _⟩
    clear hb2
    go_upto_region 2 with fail
    generalize w2.alloc (.cells #[.string ⟨#[]⟩, .bool false, .slice none 0 0] IT) = w3 at *
    obtain ⟨hb3, hblk, hbe3⟩ := HA.out _ rfl
    have hres := Below.blk (hb3.mono (show g + 1 ≤ wa.heap.size by omega)) HBA.out (Nat.lt_succ_self g)
    have c0 : w3.cell? ⟨g, 0, none⟩ = some (.string ⟨#[]⟩) := hres.cell 0
    have c1 : w3.cell? ⟨g, 1, none⟩ = some (.bool false) := hres.cell 1
    have c2 : w3.cell? ⟨g, 2, none⟩ = some (.slice none 0 0) := hres.cell 2
    have z0 := hres.free 0
    have z1 := hres.free 1
    have z2 := hres.free 2
    have HPUT := Lib.hid (fun a b c => n_put (a := a) (b := b) (c := c) HBE.out HBA.out.lt (hb3.mono (show g + 1 ≤ wa.heap.size by omega)) hres)
    have y0 := hblk.cell 0
    have y1 := hblk.cell 1
    have y2 := hblk.cell 2
    simp only [List.getElem?_toArray, List.getElem?_cons_zero, List.getElem?_cons_succ] at y0 y1 y2
    clear hb3 hblk hbe3 hres HA
    go_wp2_with fail
    rw [put3_eq]
    obtain ⟨hblk3, hbel3⟩ := HPUT.out (.string ⟨#[]⟩) (.bool false) (.slice none 0 0)
    have d0 := hblk3.cell 0
    have d1 := hblk3.cell 1
    have d2 := hblk3.cell 2
    simp only [List.getElem?_toArray, List.getElem?_cons_zero, List.getElem?_cons_succ] at d0 d1 d2
    have HB6 := Lib.hid hbel3
    clear hblk3 hbel3
    refine bodyPost_ret (v := .tuple #[.agg #[.string ⟨#[]⟩, .bool false, .slice none 0 0], .int .i64 (er : Nat)]) (by simp [results, Try.results14, go_sem, d0, d1, d2, zero3]) rfl ?_
    rw [← HP.out, hRE.out]
    exact ⟨rfl, hg.symm ▸ HB6.out⟩
  | ok y =>
    obtain ⟨hn1, hn0⟩ := HRD.out _ rfl
    obtain ⟨v, rfl, hv, hb2⟩ := hpost
    obtain ⟨x, n, m⟩ := y
    simp only at hv hn1 hn0 ⊢
    obtain ⟨o, c, hv1, _⟩ := ISubsQ.slice hv
    subst hv1
    obtain ⟨sn, hsn⟩ : ∃ sn, x.sub.length = sn := ⟨_, rfl⟩
    rw [hsn] at hv ⊢
    have HA : Hid (∀ W, w2.alloc (.cells #[.string (txt x.lab), .bool x.lab.list, .slice o sn c] IT) = W → Below wa.heap.size wa W ∧ Blk W w2.heap.size #[.string (txt x.lab), .bool x.lab.list, .slice o sn c] IT ∧ Below w2.heap.size w2 W) := Lib.hid fun W h => by
      subst h
      exact ⟨hb2.alloc hb2.size _, Blk.new w2 _ _, (Below.refl _ w2).alloc (Nat.le_refl _) _⟩
    have HV2 := Lib.hid hv
    clear hb2 hv hsn
    go_upto_region 2 with fail
    generalize w2.alloc (.cells #[.string (txt x.lab), .bool x.lab.list, .slice o sn c] IT) = w3 at *
    obtain ⟨hb3, hblk, hbe3⟩ := HA.out _ rfl
    have hres := Below.blk (hb3.mono (show g + 1 ≤ wa.heap.size by omega)) HBA.out (Nat.lt_succ_self g)
    have c0 : w3.cell? ⟨g, 0, none⟩ = some (.string ⟨#[]⟩) := hres.cell 0
    have c1 : w3.cell? ⟨g, 1, none⟩ = some (.bool false) := hres.cell 1
    have c2 : w3.cell? ⟨g, 2, none⟩ = some (.slice none 0 0) := hres.cell 2
    have z0 := hres.free 0
    have z1 := hres.free 1
    have z2 := hres.free 2
    have HPUT := Lib.hid (fun a b c => n_put (a := a) (b := b) (c := c) HBE.out HBA.out.lt (hb3.mono (show g + 1 ≤ wa.heap.size by omega)) hres)
    have y0 := hblk.cell 0
    have y1 := hblk.cell 1
    have y2 := hblk.cell 2
    simp only [List.getElem?_toArray, List.getElem?_cons_zero, List.getElem?_cons_succ] at y0 y1 y2
    have HV : Hid (ISubsQ w3 (fun c => wa.heap.size ≤ c) (.slice o sn c) x.sub) := Lib.hid (Shape.Subs.below HV2.out hbe3)
    clear hb3 hblk hbe3 hres HA
    by_cases hlt : n < s.size
    · have hRE : Hid (getR s.data.toList (.ok (x, n, m)) = .error 3) := Lib.hid (by simp only [getR]; rw [if_pos (by rw [HSL.out]; exact hlt)])
      go_wp2_with fail
      rw [put3_eq]
      obtain ⟨hblk3, hbel3⟩ := HPUT.out (.string ⟨#[]⟩) (.bool false) (.slice none 0 0)
      have d0 := hblk3.cell 0
      have d1 := hblk3.cell 1
      have d2 := hblk3.cell 2
      simp only [List.getElem?_toArray, List.getElem?_cons_zero, List.getElem?_cons_succ] at d0 d1 d2
      have HB6 := Lib.hid hbel3
      clear hblk3 hbel3
      refine bodyPost_ret (v := .tuple #[.agg #[.string ⟨#[]⟩, .bool false, .slice none 0 0], .int .i64 3]) (by simp [results, Try.results14, go_sem, d0, d1, d2, zero3]) rfl ?_
      rw [← HP.out, hRE.out]
      exact ⟨rfl, hg.symm ▸ HB6.out⟩
    · have hRE : Hid (getR s.data.toList (.ok (x, n, m)) = .ok x) := Lib.hid (by simp only [getR]; rw [if_neg (by rw [HSL.out]; exact hlt)])
      have hge : s.size ≤ n := by omega
      clear hlt
      go_wp2_with fail
      rw [put3_eq]
      obtain ⟨hblk3, hbel3⟩ := HPUT.out (.string (txt x.lab)) (.bool x.lab.list) (.slice o sn c)
      have d0 := hblk3.cell 0
      have d1 := hblk3.cell 1
      have d2 := hblk3.cell 2
      simp only [List.getElem?_toArray, List.getElem?_cons_zero, List.getElem?_cons_succ] at d0 d1 d2
      have HB6 := Lib.hid hbel3
      clear hblk3 hbel3
      refine bodyPost_ret (v := .tuple #[.agg #[.string (txt x.lab), .bool x.lab.list, .slice o sn c], .int .i64 0]) (by simp [results, Try.results14, go_sem, d0, d1, d2, zero3]) rfl ?_
      rw [← HP.out, hRE.out]
      refine ⟨.slice o sn c, rfl, Shape.Subs.keep HV.out (by rw [put3_size]; exact Nat.le_refl _) (fun c' _ hc => ?_) fun c' _ hc => put3_heap c' ?_, hg.symm ▸ HB6.out⟩
      · show w.heap.size ≤ c'; have : wa.heap.size ≤ c' := hc; omega
      · have : wa.heap.size ≤ c' := hc; omega
end Go.Proofs.Ytopfpfpefljkkaa
