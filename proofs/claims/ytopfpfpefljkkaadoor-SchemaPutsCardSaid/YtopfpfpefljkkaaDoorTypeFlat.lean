/- Flat: of the program, and of the document. -/
import Derived.Test.YtopfpfpefljkkaaDoorTypeMay
import Derived.Test.YtopfpfpefljkkaaDoorTypeDoc3
namespace Go.Proofs.YtopfpfpefljkkaaDoor
open Go.RowKit
set_option linter.unusedVariables false
set_option linter.unusedSimpArgs false

/-- Nothing may lack. -/
def p0 (a : TL) (_ : List (Rose TL)) : Bool := decide (a.tail = 0)
theorem p0_all (x : Rose TL) : x.all p0 = (decide (x.lab.tail = 0) && Rose.allL p0 x.sub) := by
  cases x with
  | node a s => rfl

theorem p0_node (a : TL) (s : List (Rose TL)) : (Rose.node a s).all p0 = (decide (a.tail = 0) && Rose.allL p0 s) := rfl
set_option maxRecDepth 100000 in
set_option maxHeartbeats 1000000 in
theorem prog_full (x : Rose TL) : ∀ (w : World) (v : Value), TSubs w v x.sub →
    Calls Tryd.prog 28 #[.agg #[.int .i64 x.lab.kind, .int .i64 x.lab.size, v, .int .i64 x.lab.tail]] w fun e w' => e = .returned (.bool (Rose.allL p0 x.sub)) ∧ Below w.heap.size w w' := by
  induction x using Rose.ind with
  | h a s ih =>
    intro w v hv
    simp only [Rose.sub_node, Rose.lab_node] at hv ⊢
    obtain ⟨oa, cap, rfl, hcap, hml⟩ := TSubs.slice hv
    obtain ⟨g, hg⟩ : ∃ g, w.heap.size = g := ⟨_, rfl⟩
    have HW := Lib.hid (box_type (k := a.kind) (z := a.size) (l := a.tail) (t := 24) hv)
    have hlm : s.length ≤ 9223372036854775807 := by unfold maxLen at hml; omega
    obtain ⟨M, hM⟩ : ∃ M, s.length = M := ⟨_, rfl⟩
    have HM := Lib.hid hM
    have IH := Lib.hid ih
    obtain ⟨R, hR⟩ : ∃ R, Rose.allL p0 s = R := ⟨_, rfl⟩
    have HR := Lib.hid hR
    rw [hg] at HW ⊢
    rw [hM] at HW hlm ⊢
    rw [hR]
    clear hv hcap hml ih hM hR
    go_enter Tryd.func28, Tryd.ntmps28
    go_upto_region 1 with fail
    generalize w.alloc (.cells #[.int .i64 a.kind, .int .i64 a.size, .slice oa M cap, .int .i64 a.tail] 24) = w1 at *
    obtain ⟨hb1, ht1, hsz, c0, c1, c2, c3⟩ := HW.out _ rfl
    have H1 := Lib.hid (And.intro hb1 ht1)
    clear HW hb1 ht1 c0 c1 c3
    go_wp2_with fail
    clear c2
    go_loopw [4, 8] (fun _ iv wi => ∃ k : Nat, iv = .int .i64 k ∧ k ≤ M ∧ Hid (Rose.allL p0 (s.take k) = true) ∧ Hid (Below (g + 1) w1 wi)) (fun _ iv _ => M - (intOf iv).toNat)
    case atStart => exact ⟨0, rfl, by omega, by simp [Hid, Rose.allL], Lib.hid (Below.refl _ _)⟩
    case round =>
      obtain ⟨k, rfl, hk, HA, hbe⟩ := hrel
      have HF : Hid (Below g w wr) := Lib.hid (H1.out.1.trans (hbe.out.mono (by omega)))
      have hgr : g + 1 ≤ wr.heap.size := by have := hbe.out.size; omega
      by_cases c : k < M
      · obtain ⟨y, hy⟩ : ∃ y, s[k]? = some y := ⟨_, List.getElem?_eq_getElem (by rw [HM.out]; exact c)⟩
        obtain ⟨b, off, u, rfl, hlt, y0, y1, y2, y3, hu, hwf⟩ := TSubs.at_ (Shape.Subs.below H1.out.2 (hsz ▸ hbe.out)) hy
        obtain ⟨ou, cu, rfl, _, _⟩ := TSubs.slice hu
        obtain ⟨ny, hny⟩ : ∃ ny, y.sub.length = ny := ⟨_, rfl⟩
        rw [hny] at hu y2
        clear hny
        have HT : Hid (Rose.allL p0 (s.take (k + 1)) = y.all p0) := Lib.hid (by rw [Rose.allL_take hy, HA.out]; rfl)
        have HFa : Hid (y.all p0 = false → R = false) := Lib.hid fun h => by rw [← HR.out]; exact Rose.allL_false hy h
        have HP := Lib.hid (p0_all y)
        have HU := Lib.hid hu
        have CY := Lib.hid (IH.out y (List.mem_of_getElem? hy))
        have HX : Hid (∀ W, wr.alloc (.cells #[.int .i64 y.lab.kind, .int .i64 y.lab.size, .slice ou ny cu, .int .i64 y.lab.tail] 24) = W → Below wr.heap.size wr W ∧ TSubs W (.slice ou ny cu) y.sub ∧ W.heap.size = wr.heap.size + 1 ∧
            Blk W wr.heap.size #[.int .i64 y.lab.kind, .int .i64 y.lab.size, .slice ou ny cu, .int .i64 y.lab.tail] 24) := Lib.hid fun W h => by
          subst h
          have hal := (Below.refl wr.heap.size wr).alloc (Nat.le_refl _) (.cells #[.int .i64 y.lab.kind, .int .i64 y.lab.size, .slice ou ny cu, .int .i64 y.lab.tail] 24)
          exact ⟨hal, Shape.Subs.below HU.out hal, by simp, Blk.new wr _ _⟩
        clear hu hwf
        go_upto_region 4 with fail
        generalize wr.alloc (.cells #[.int .i64 y.lab.kind, .int .i64 y.lab.size, .slice ou ny cu, .int .i64 y.lab.tail] 24) = w4 at *
        obtain ⟨hb4, ht4, hz4, hB4⟩ := HX.out _ rfl
        have b0 := hB4.cell 0
        have b1 := hB4.cell 1
        have b2 := hB4.cell 2
        have b3 := hB4.cell 3
        simp only [List.getElem?_toArray, List.getElem?_cons_zero, List.getElem?_cons_succ] at b0 b1 b2 b3
        have CY4 := Lib.hid (CY.out w4 (.slice ou ny cu) ht4)
        have HB4 := Lib.hid (hbe.out.trans (hb4.mono hgr))
        have hgr4 : g + 1 ≤ w4.heap.size := by omega
        clear HX hb4 ht4 hB4 CY y0 y1 y2 y3
        generalize Rose.allL p0 y.sub = q at *
        rcases neOr y.lab.tail 0 with ⟨t0, T0⟩ | ⟨t0, T0⟩
        · cases q with
          | true =>
            have HT2 : Hid (Rose.allL p0 (s.take (k + 1)) = true) := Lib.hid (by rw [HT.out, HP.out, decide_eq_true T0.out]; rfl)
            clear HT HFa HP
            go_wp2_with fail
            refine (CY4.out).mono ?_
            rintro e w5 ⟨rfl, hb5⟩
            have HB5 := Lib.hid (HB4.out.trans (hb5.mono hgr4))
            clear hb5
            go_wp2_with fail
            go_roundw
            case rel => exact ⟨k + 1, by go_num, by omega, HT2, HB5⟩
            case measure => simp [intOf]; omega
          | false =>
            have HR2 : Hid (R = false) := Lib.hid (HFa.out (by rw [HP.out, Bool.and_false]))
            clear HT HFa HP
            go_wp2_with fail
            refine (CY4.out).mono ?_
            rintro e w5 ⟨rfl, hb5⟩
            have HB5 := Lib.hid (H1.out.1.trans ((HB4.out.trans (hb5.mono hgr4)).mono (Nat.le_succ g)))
            clear hb5
            go_wp2_with fail
            go_returns
            exact ⟨by rw [HR2.out]; rfl, HB5.out⟩
        · have HR2 : Hid (R = false) := Lib.hid (HFa.out (by rw [HP.out, decide_eq_false T0.out]; rfl))
          have HB5 := Lib.hid (H1.out.1.trans (HB4.out.mono (Nat.le_succ g)))
          clear HT HFa HP
          go_wp2_with fail
          go_returns
          exact ⟨by rw [HR2.out]; rfl, HB5.out⟩
      · obtain rfl : k = M := by omega
        have HE : Hid (R = true) := by
          unfold Hid
          have h1 : s.take k = s := by rw [← HM.out, List.take_length]
          have h3 := HA.out
          rw [h1] at h3
          rw [← HR.out, h3]
        go_wp2_with fail
        go_returns
        exact ⟨by rw [HE.out]; rfl, HF.out⟩

set_option maxRecDepth 100000 in
set_option maxHeartbeats 1000000 in
theorem doc_tails (x : Rose TL) : ∀ (w : World) (v : Value), TSubs w v x.sub →
    Calls Tryd.prog 29 #[.agg #[.int .i64 x.lab.kind, .int .i64 x.lab.size, v, .int .i64 x.lab.tail]] w fun e w' => e = .returned (.bool (!x.all p0)) ∧ Below w.heap.size w w' := by
  induction x using Rose.ind with
  | h a s ih =>
    intro w v hv
    simp only [Rose.sub_node, Rose.lab_node] at hv ⊢
    have HP := Lib.hid (p0_node a s)
    obtain ⟨oa, cap, rfl, hcap, hml⟩ := TSubs.slice hv
    obtain ⟨g, hg⟩ : ∃ g, w.heap.size = g := ⟨_, rfl⟩
    have HW := Lib.hid (box_type (k := a.kind) (z := a.size) (l := a.tail) (t := 24) hv)
    have hlm : s.length ≤ 9223372036854775807 := by unfold maxLen at hml; omega
    obtain ⟨M, hM⟩ : ∃ M, s.length = M := ⟨_, rfl⟩
    have HM := Lib.hid hM
    have IH := Lib.hid ih
    obtain ⟨R, hR⟩ : ∃ R, Rose.allL p0 s = R := ⟨_, rfl⟩
    have HR := Lib.hid hR
    rw [hg] at HW ⊢
    rw [hM] at HW hlm ⊢
    rw [hR] at HP
    generalize (Rose.node a s).all p0 = Z at *
    clear hv hcap hml ih hM hR
    have t0 := neOr a.tail 0
    go_enter Tryd.func29, Tryd.ntmps29
    go_upto_region 1 with fail
    generalize w.alloc (.cells #[.int .i64 a.kind, .int .i64 a.size, .slice oa M cap, .int .i64 a.tail] 24) = w1 at *
    obtain ⟨hb1, ht1, hsz, c0, c1, c2, c3⟩ := HW.out _ rfl
    have H1 := Lib.hid (And.intro hb1 ht1)
    clear HW hb1 ht1
    rcases t0 with ⟨t0, T0⟩ | ⟨t0, T0⟩
    case inr =>
      have HE : Hid ((!Z) = true) := Lib.hid (by rw [HP.out, decide_eq_false T0.out]; rfl)
      go_wp2_with fail
      go_returns
      exact ⟨by rw [HE.out]; rfl, H1.out.1⟩
    have HZ : Hid (Z = R) := Lib.hid (by rw [HP.out, decide_eq_true T0.out]; rfl)
    clear HP T0
    go_wp2_with fail
    clear c0 c1 c3 t0
    go_loopw [3] (fun iv wi => ∃ k : Nat, iv = .int .i64 k ∧ k ≤ M ∧ Hid (Rose.allL p0 (s.take k) = true) ∧ Hid (Below (g + 1) w1 wi)) (fun iv _ => M - (intOf iv).toNat)
    case atStart => exact ⟨0, rfl, by omega, by simp [Hid, Rose.allL], Lib.hid (Below.refl _ _)⟩
    case round =>
      obtain ⟨k, rfl, hk, HA, hbe⟩ := hrel
      have hcr : wr.cell? ⟨g, 2, none⟩ = some (.slice oa M cap) := (hbe.out.cell (p := ⟨g, 2, none⟩) (Nat.lt_succ_self g)).trans c2
      have HF : Hid (Below g w wr) := Lib.hid (H1.out.1.trans (hbe.out.mono (by omega)))
      have hgr : g + 1 ≤ wr.heap.size := by have := hbe.out.size; omega
      by_cases c : k < M
      · obtain ⟨y, hy⟩ : ∃ y, s[k]? = some y := ⟨_, List.getElem?_eq_getElem (by rw [HM.out]; exact c)⟩
        obtain ⟨b, off, u, rfl, hlt, y0, y1, y2, y3, hu, hwf⟩ := TSubs.at_ (Shape.Subs.below H1.out.2 (hsz ▸ hbe.out)) hy
        have HT : Hid (Rose.allL p0 (s.take (k + 1)) = y.all p0) := Lib.hid (by rw [Rose.allL_take hy, HA.out]; rfl)
        have HFa : Hid (y.all p0 = false → R = false) := Lib.hid fun h => by rw [← HR.out]; exact Rose.allL_false hy h
        have CY := Lib.hid (IH.out y (List.mem_of_getElem? hy) wr u hu)
        clear hu hwf
        generalize y.all p0 = q at *
        cases q with
        | true =>
          go_wp2_with fail
          refine (CY.out).mono ?_
          rintro e w5 ⟨rfl, hb5⟩
          have HB5 := Lib.hid (hbe.out.trans (hb5.mono hgr))
          clear hb5
          go_wp2_with fail
          go_roundw
          case rel => exact ⟨k + 1, by go_num, by omega, HT, HB5⟩
          case measure => simp [intOf]; omega
        | false =>
          have HE : Hid ((!Z) = true) := Lib.hid (by rw [HZ.out, HFa.out rfl]; rfl)
          clear HFa
          go_wp2_with fail
          refine (CY.out).mono ?_
          rintro e w5 ⟨rfl, hb5⟩
          have HB5 := Lib.hid (HF.out.trans (hb5.mono (by omega)))
          clear hb5
          go_wp2_with fail
          go_returns
          exact ⟨by rw [HE.out]; rfl, HB5.out⟩
      · obtain rfl : k = M := by omega
        have HE : Hid ((!Z) = false) := by
          unfold Hid
          have h1 : s.take k = s := by rw [← HM.out, List.take_length]
          have h3 := HA.out
          rw [h1] at h3
          rw [HZ.out, ← HR.out, h3]; rfl
        go_wp2_with fail
        go_returns
        exact ⟨by rw [HE.out]; rfl, HF.out⟩

set_option maxRecDepth 100000 in
set_option maxHeartbeats 1000000 in
theorem doc_flat (x : Rose TL) (w : World) (v : Value) (hv : TSubs w v x.sub) (hc : x.count ≤ 1000) :
    Calls Tryd.prog 16 #[.agg #[.int .i64 x.lab.kind, .int .i64 x.lab.size, v, .int .i64 x.lab.tail]] w fun e w' => e = .returned (.bool (Rose.allL p0 x.sub && mayT x)) ∧ Below w.heap.size w w' := by
  obtain ⟨oa, cap, rfl, hcap, hml⟩ := TSubs.slice hv
  obtain ⟨g, hg⟩ : ∃ g, w.heap.size = g := ⟨_, rfl⟩
  have HW := Lib.hid (box_type (k := x.lab.kind) (z := x.lab.size) (l := x.lab.tail) (t := 24) hv)
  have hlm : x.sub.length ≤ 9223372036854775807 := by unfold maxLen at hml; omega
  have CM := Lib.hid (fun (W : World) (h : TSubs W (.slice oa x.sub.length cap) x.sub) => doc_may x W _ h hc)
  obtain ⟨M, hM⟩ : ∃ M, x.sub.length = M := ⟨_, rfl⟩
  have HM := Lib.hid hM
  obtain ⟨R, hR⟩ : ∃ R, Rose.allL p0 x.sub = R := ⟨_, rfl⟩
  have HR := Lib.hid hR
  rw [hg] at HW ⊢
  rw [hM] at HW hlm CM ⊢
  rw [hR]
  generalize mayT x = mt at *
  clear hv hcap hml hM hR hc
  go_enter Tryd.func16, Tryd.ntmps16
  go_upto_region 1 with fail
  generalize w.alloc (.cells #[.int .i64 x.lab.kind, .int .i64 x.lab.size, .slice oa M cap, .int .i64 x.lab.tail] 24) = w1 at *
  obtain ⟨hb1, ht1, hsz, c0, c1, c2, c3⟩ := HW.out _ rfl
  have H1 := Lib.hid (And.intro hb1 ht1)
  have HC := Lib.hid (And.intro c0 (And.intro c1 (And.intro c2 c3)))
  clear HW hb1 ht1
  go_wp2_with fail
  clear c0 c1 c3
  go_loopw [3] (fun iv wi => ∃ k : Nat, iv = .int .i64 k ∧ k ≤ M ∧ Hid (Rose.allL p0 (x.sub.take k) = true) ∧ Hid (Below (g + 1) w1 wi)) (fun iv _ => M - (intOf iv).toNat)
  case atStart => exact ⟨0, rfl, by omega, by simp [Hid, Rose.allL], Lib.hid (Below.refl _ _)⟩
  case round =>
    obtain ⟨k, rfl, hk, HA, hbe⟩ := hrel
    have hcr : wr.cell? ⟨g, 2, none⟩ = some (.slice oa M cap) := (hbe.out.cell (p := ⟨g, 2, none⟩) (Nat.lt_succ_self g)).trans c2
    have HF : Hid (Below g w wr) := Lib.hid (H1.out.1.trans (hbe.out.mono (by omega)))
    have hgr : g + 1 ≤ wr.heap.size := by have := hbe.out.size; omega
    by_cases c : k < M
    · obtain ⟨y, hy⟩ : ∃ y, x.sub[k]? = some y := ⟨_, List.getElem?_eq_getElem (by rw [HM.out]; exact c)⟩
      obtain ⟨b, off, u, rfl, hlt, y0, y1, y2, y3, hu, hwf⟩ := TSubs.at_ (Shape.Subs.below H1.out.2 (hsz ▸ hbe.out)) hy
      have HT : Hid (Rose.allL p0 (x.sub.take (k + 1)) = y.all p0) := Lib.hid (by rw [Rose.allL_take hy, HA.out]; rfl)
      have HFa : Hid (y.all p0 = false → R = false) := Lib.hid fun h => by rw [← HR.out]; exact Rose.allL_false hy h
      have CY := Lib.hid (doc_tails y wr u hu)
      clear hu hwf
      generalize y.all p0 = q at *
      cases q with
      | true =>
        go_wp2_with fail
        refine (CY.out).mono ?_
        rintro e w5 ⟨rfl, hb5⟩
        have HB5 := Lib.hid (hbe.out.trans (hb5.mono hgr))
        clear hb5
        go_wp2_with fail
        go_roundw
        case rel => exact ⟨k + 1, by go_num, by omega, HT, HB5⟩
        case measure => simp [intOf]; omega
      | false =>
        have HE : Hid (R = false) := Lib.hid (HFa.out rfl)
        clear HFa
        go_wp2_with fail
        refine (CY.out).mono ?_
        rintro e w5 ⟨rfl, hb5⟩
        have HB5 := Lib.hid (HF.out.trans (hb5.mono (by omega)))
        clear hb5
        go_wp2_with fail
        go_returns
        exact ⟨by rw [HE.out, Bool.false_and]; rfl, HB5.out⟩
    · obtain rfl : k = M := by omega
      have HE : Hid (R = true) := by
        unfold Hid
        have h1 : x.sub.take k = x.sub := by rw [← HM.out, List.take_length]
        have h3 := HA.out
        rw [h1] at h3
        rw [← HR.out, h3]
      have d0 := (hbe.out.cell (p := ⟨g, 0, none⟩) (Nat.lt_succ_self g)).trans HC.out.1
      have d1 := (hbe.out.cell (p := ⟨g, 1, none⟩) (Nat.lt_succ_self g)).trans HC.out.2.1
      have d3 := (hbe.out.cell (p := ⟨g, 3, none⟩) (Nat.lt_succ_self g)).trans HC.out.2.2.2
      have CM1 := Lib.hid (CM.out wr (Shape.Subs.below H1.out.2 (hsz ▸ hbe.out)))
      clear CM
      go_wp2_with fail
      refine (CM1.out).mono ?_
      rintro e w5 ⟨rfl, hb5⟩
      have HB5 := Lib.hid (HF.out.trans (hb5.mono (by omega)))
      clear hb5
      go_wp2_with fail
      go_returns
      exact ⟨by rw [HE.out, Bool.true_and]; rfl, HB5.out⟩

set_option maxRecDepth 100000 in
set_option maxHeartbeats 1000000 in
theorem prog_flat (x : Rose TL) (w : World) (v : Value) (hv : TSubs w v x.sub) (hT : TabU w) :
    Calls Tryd.prog 15 #[.agg #[.int .i64 x.lab.kind, .int .i64 x.lab.size, v, .int .i64 x.lab.tail]] w fun e w' => e = .returned (.bool (Rose.allL p0 x.sub && mayT x)) ∧ Below w.heap.size w w' := by
  have hT0 := hT.lt
  have HW := Lib.hid (box_type (k := x.lab.kind) (z := x.lab.size) (l := x.lab.tail) (t := 24) hv)
  obtain ⟨g, hg⟩ : ∃ g, w.heap.size = g := ⟨_, rfl⟩
  rw [hg] at HW hT0 ⊢
  have HT := Lib.hid (fun (W : World) (h : Below g w W) => hT.below h hT0)
  clear hv hT
  have CMay := Lib.hid (fun (W : World) (h : TSubs W v x.sub) (h2 : TabU W) => prog_May x W v h h2)
  have CF := Lib.hid (fun (W : World) (h : TSubs W v x.sub) => prog_full x W v h)
  generalize mayT x = mt at *
  generalize Rose.allL p0 x.sub = R at *
  go_enter Tryd.func15, Tryd.ntmps15
  go_upto_region 1 with fail
  generalize w.alloc (.cells #[.int .i64 x.lab.kind, .int .i64 x.lab.size, v, .int .i64 x.lab.tail] 24) = w1 at *
  obtain ⟨hb1, ht1, hsz, c0, c1, c2, c3⟩ := HW.out _ rfl
  have CM1 := Lib.hid (CMay.out w1 ht1 (HT.out w1 hb1))
  have H1 := Lib.hid (And.intro hb1 ht1)
  have hlt : g < w1.heap.size := by omega
  have HS := Lib.hid hsz
  clear HW hb1 ht1 CMay hsz
  cases mt with
  | false =>
    go_wp2_with fail
    refine (CM1.out).mono ?_
    rintro e w2 ⟨rfl, hb2⟩
    have HB2 := Lib.hid (H1.out.1.trans (hb2.mono (by omega)))
    clear hb2
    go_wp2_with fail
    go_returns
    exact ⟨by rw [Bool.and_false]; rfl, HB2.out⟩
  | true =>
    go_wp2_with fail
    refine (CM1.out).mono ?_
    rintro e w2 ⟨rfl, hb2⟩
    have HB2 := Lib.hid (H1.out.1.trans (hb2.mono (by omega)))
    have d0 := (hb2.cell (p := ⟨g, 0, none⟩) hlt).trans c0
    have d1 := (hb2.cell (p := ⟨g, 1, none⟩) hlt).trans c1
    have d2 := (hb2.cell (p := ⟨g, 2, none⟩) hlt).trans c2
    have d3 := (hb2.cell (p := ⟨g, 3, none⟩) hlt).trans c3
    have CF2 := Lib.hid (CF.out w2 (Shape.Subs.below H1.out.2 hb2))
    have hz2 : g ≤ w2.heap.size := by have := hb2.size; omega
    clear hb2 c0 c1 c2 c3 CF
    go_wp2_with fail
    refine (CF2.out).mono ?_
    rintro e w3 ⟨rfl, hb3⟩
    have HB3 := Lib.hid (HB2.out.trans (hb3.mono hz2))
    clear hb3
    go_wp2_with fail
    go_returns
    exact ⟨by rw [Bool.and_true]; rfl, HB3.out⟩
end Go.Proofs.YtopfpfpefljkkaaDoor
