/- Package schema: whether a type may be. -/
import Derived.Test.YtopfpfpefljkkaaDoorTypeKind
namespace Go.Proofs.YtopfpfpefljkkaaDoor
open Go.RowKit
set_option linter.unusedVariables false
set_option linter.unusedSimpArgs false

/-- A type whose blocks are not b. -/
abbrev TOff (b : Nat) (w : World) (v : Value) (s : List (Rose TL)) : Prop := tshape.Subs w (fun c => c ≠ b) v s
theorem TOff.upd {b : Nat} {w w' : World} {v : Value} {s : List (Rose TL)} (h : TOff b w v s) (hu : Upd b w w') : TOff b w' v s :=
  Shape.Subs.keep h hu.size (fun _ _ h => h) fun c hc hq => hu.block c hc (by simpa using fun e => hq (by rw [e]))
theorem TOff.of {b : Nat} {w w' : World} {v : Value} {s : List (Rose TL)} (h : TSubs w v s) (hb : Below w.heap.size w w') (hle : w.heap.size ≤ b) : TOff b w' v s :=
  Shape.Subs.keep h hb.size (fun c hc _ => by omega) fun c hc _ => hb.block c hc
theorem TOff.any {b : Nat} {w : World} {v : Value} {s : List (Rose TL)} (h : TOff b w v s) : TSubs w v s :=
  Shape.Subs.keep h (Nat.le_refl _) (fun _ _ _ => trivial) fun _ _ _ => rfl
theorem TOff.at_ {bo : Nat} {w : World} {oa : Option Addr} {n cap : Nat} {s : List (Rose TL)} (h : TOff bo w (.slice oa n cap) s) {i : Nat} {x : Rose TL} (hx : s[i]? = some x) :
    ∃ b off u, oa = some ⟨b, off, none⟩ ∧ b < w.heap.size ∧ b ≠ bo ∧ w.cell? ⟨b, off + i * 4, none⟩ = some (.int .i64 x.lab.kind) ∧ w.cell? ⟨b, off + i * 4 + 1, none⟩ = some (.int .i64 x.lab.size) ∧
      w.cell? ⟨b, off + i * 4 + 2, none⟩ = some u ∧ w.cell? ⟨b, off + i * 4 + 3, none⟩ = some (.int .i64 x.lab.tail) ∧ TOff bo w u x.sub ∧ TL.wf x.lab := by
  obtain ⟨oa', cap', hv, h1, h2, h3⟩ := Shape.Subs.get h
  cases hv
  obtain ⟨b, off, u, e, hb, hq, ho, hc, hs⟩ := h3 i x hx
  exact ⟨b, off, u, e, hb, hq, by simpa [tshape, Nat.add_assoc] using hc 0 (by decide), by simpa [tshape, Nat.add_assoc] using hc 1 (by decide), by simpa [tshape, Nat.add_assoc] using hc 2 (by decide), by simpa [tshape, Nat.add_assoc] using hc 3 (by decide), hs, ho⟩

def IntB (w : World) (b : Nat) (l : Nat) : Prop := Blk w b #[.int .i64 (l : Int)] 3
theorem IntB.upd {w w' : World} {b c : Nat} {l : Nat} (h : IntB w b l) (hu : Upd c w w') (hne : b ≠ c) : IntB w' b l := hu.blk h hne
def mayR (x : Rose TL) (d l : Nat) : Bool := decide (d + x.deep ≤ 9) && decide (x.count ≤ l) && x.all right1
/-- What may leaves. -/
def MayPost (x : Rose TL) (d l b : Nat) (w : World) (e : Ending) (w' : World) : Prop :=
  e = .returned (.bool (mayR x d l)) ∧ Upd b w w' ∧ (∃ l', l' ≤ 64 ∧ IntB w' b l') ∧ (mayR x d l = true → IntB w' b (l - x.count))

theorem rd1 (a : TL) (s : List (Rose TL)) : right1 a s = rightK a s.length := rfl

set_option maxRecDepth 100000 in
set_option maxHeartbeats 2000000 in
theorem prog_may (x : Rose TL) : ∀ (w : World) (v : Value) (d l bl : Nat), TOff bl w v x.sub → IntB w bl l → TabU w → 0 ≠ bl → 1 ≤ d → d ≤ 9 → l ≤ 64 →
    Calls Tryd.prog 27 #[.agg #[.int .i64 x.lab.kind, .int .i64 x.lab.size, v, .int .i64 x.lab.tail], .int .i64 d, .pointer (some ⟨bl, 0, none⟩)] w (MayPost x d l bl w) := by
  induction x using Rose.ind with
  | h a s ih =>
    intro w v d l bl hv hI hT hne hd1 hd9 hl
    simp only [Rose.sub_node, Rose.lab_node] at hv ⊢
    obtain ⟨oa, cap, rfl, hcap, hml⟩ := TSubs.slice hv.any
    obtain ⟨g, hg⟩ : ∃ g, w.heap.size = g := ⟨_, rfl⟩
    have hblt : bl < g := hg ▸ hI.lt
    have hlm : s.length ≤ 9223372036854775807 := by unfold maxLen at hml; omega
    have HDEF : Hid (mayR (.node a s) d l = (decide (d + (Rose.deepL s + 1) ≤ 9) && decide (1 + Rose.countL s ≤ l) && (rightK a s.length && Rose.allL right1 s))) := Lib.hid rfl
    have HP : Hid (∀ e w', e = .returned (.bool (mayR (.node a s) d l)) ∧ Upd bl w w' ∧ (∃ l', l' ≤ 64 ∧ IntB w' bl l') ∧ (mayR (.node a s) d l = true → IntB w' bl (l - (1 + Rose.countL s))) → MayPost (.node a s) d l bl w e w') := Lib.hid fun e w' h => h
    have HW : Hid (∀ W, w.alloc (.cells #[.int .i64 a.kind, .int .i64 a.size, .slice oa s.length cap, .int .i64 a.tail] 24) = W → Upd bl w W ∧ TOff bl W (.slice oa s.length cap) s ∧ IntB W bl l ∧ TabU W ∧ W.heap.size = g + 1 ∧
        Blk W g #[.int .i64 a.kind, .int .i64 a.size, .slice oa s.length cap, .int .i64 a.tail] 24) := Lib.hid fun W h => by
      subst h
      have hal := (Below.refl w.heap.size w).alloc (Nat.le_refl _) (.cells #[.int .i64 a.kind, .int .i64 a.size, .slice oa s.length cap, .int .i64 a.tail] 24)
      exact ⟨Upd.of hal, hv.upd (Upd.of hal), Below.blk hal hI hI.lt, hT.below hal hT.lt, by simp; omega, hg ▸ Blk.new w _ _⟩
    generalize mayR (.node a s) d l = R at *
    obtain ⟨M, hM⟩ : ∃ M, s.length = M := ⟨_, rfl⟩
    have HM := Lib.hid hM
    have IH := Lib.hid ih
    obtain ⟨C, hC⟩ : ∃ C, Rose.countL s = C := ⟨_, rfl⟩
    have HC := Lib.hid hC
    obtain ⟨D, hD⟩ : ∃ D, Rose.deepL s = D := ⟨_, rfl⟩
    have HD := Lib.hid hD
    rw [hM] at HW hlm HDEF ⊢
    rw [hC] at HDEF HP
    rw [hD] at HDEF
    clear hv hcap hml ih hM hC hD hI hT
    generalize hMP : MayPost (.node a s) d l bl w = POST at HP ⊢
    clear hMP
    go_enter Tryd.func27, Tryd.ntmps27
    go_upto_region 1 with fail
    generalize w.alloc (.cells #[.int .i64 a.kind, .int .i64 a.size, .slice oa M cap, .int .i64 a.tail] 24) = w1 at *
    obtain ⟨hu1, ht1, hI1, hT1, hsz, hB⟩ := HW.out _ rfl
    have c0 := hB.cell 0
    have c1 := hB.cell 1
    have c2 := hB.cell 2
    have c3 := hB.cell 3
    have l0 : w1.cell? ⟨bl, 0, none⟩ = some (.int .i64 l) := hI1.cell 0
    simp only [List.getElem?_toArray, List.getElem?_cons_zero, List.getElem?_cons_succ] at c0 c1 c2 c3
    have HBl := Lib.hid hB
    clear hB HW
    have HU1 := Lib.hid (And.intro hu1 (And.intro ht1 (And.intro hI1 hT1)))
    have CF := Lib.hid (prog_fits a oa M cap w1 hT1)
    clear hu1 ht1 hI1 hT1
    by_cases cd : 8 < d
    · have d0 : decide (8 < (d : Int)) = true := by simp; omega
      go_wp2_with fail
      refine HP.out _ _ ⟨?_, HU1.out.1, ⟨l, hl, HU1.out.2.2.1⟩, fun h => ?_⟩
      · rw [HDEF.out, decide_eq_false (by omega)]; rfl
      · rw [HDEF.out, decide_eq_false (by omega)] at h; simp at h
    have d0 : decide (8 < (d : Int)) = false := by simp; omega
    by_cases cl : l = 0
    · have e0 : ((l : Int) == 0) = true := by simp [cl]
      have CL := Lib.hid cl
      clear cl
      go_wp2_with fail
      refine HP.out _ _ ⟨?_, HU1.out.1, ⟨l, hl, HU1.out.2.2.1⟩, fun h => ?_⟩
      · rw [HDEF.out, decide_eq_false (by have := CL.out; omega : ¬ 1 + C ≤ l), Bool.and_false]; rfl
      · rw [HDEF.out, decide_eq_false (by have := CL.out; omega : ¬ 1 + C ≤ l), Bool.and_false] at h; simp at h
    have e0 : ((l : Int) == 0) = false := by simp; omega
    have hl1 : 1 ≤ l := by omega
    have hd8 : d ≤ 8 := by omega
    clear cl cd
    generalize rightK a M = K at *
    cases K with
    | false =>
      go_wp2_with fail
      refine (CF.out).mono ?_
      rintro e w2 ⟨rfl, hb2⟩
      have HU2 := Lib.hid (HU1.out.1.trans (Upd.of hb2))
      have HI2 := Lib.hid (HU1.out.2.2.1.upd (Upd.of hb2) (c := g) (by omega))
      clear hb2
      go_wp2_with fail
      refine HP.out _ _ ⟨?_, HU2.out, ⟨l, hl, HI2.out⟩, fun h => ?_⟩
      · rw [HDEF.out]; simp
      · rw [HDEF.out] at h; simp at h
    | true =>
      go_wp2_with fail
      refine (CF.out).mono ?_
      rintro e w2 ⟨rfl, hb2⟩
      have hu2 : Upd bl w1 w2 := Upd.of hb2
      have l2 : w2.cell? ⟨bl, 0, none⟩ = some (.int .i64 l) := (HU1.out.2.2.1.upd (Upd.of hb2) (c := g) (by omega)).cell 0
      have fz : w2.frozen? ⟨bl, 0, none⟩ = false := Blk.free (HU1.out.2.2.1.upd (Upd.of hb2) (c := g) (by omega)) 0
      have hst : Hid (∀ W, w2.setCell ⟨bl, 0, none⟩ (.int .i64 ((l : Int) - 1)) = W → Upd bl w1 W ∧ IntB W bl (l - 1) ∧ Blk W g #[.int .i64 a.kind, .int .i64 a.size, .slice oa M cap, .int .i64 a.tail] 24) := Lib.hid fun W h => by
        subst h
        have h1 : IntB w2 bl l := HU1.out.2.2.1.upd (Upd.of hb2) (c := g) (by omega)
        have h2 := Blk.set h1 0 (.int .i64 ((l : Int) - 1))
        refine ⟨hu2.set 0 _, ?_, ?_⟩
        · unfold IntB
          rw [show ((l - 1 : Nat) : Int) = (l : Int) - 1 by omega]
          exact h2
        · exact Blk.setOther ((Upd.of (b := bl) hb2).blk HBl.out (by omega)) (by simp; omega) _
      clear hb2 hu2
      have HU1' := Lib.hid HU1.out.2
      have HU1W := Lib.hid HU1.out.1
      clear HU1 CF
      go_upto_region 4 with fail
      generalize w2.setCell ⟨bl, 0, none⟩ (.int .i64 ((l : Int) - 1)) = w3 at *
      obtain ⟨hu3, hI3, hB3⟩ := hst.out _ rfl
      have g2 : w3.cell? ⟨g, 2, none⟩ = some (.slice oa M cap) := hB3.cell 2
      have hs3 : g + 1 ≤ w3.heap.size := by have := hu3.size; omega
      have H3 := Lib.hid (And.intro hu3 (And.intro hI3 hB3))
      clear hst hu3 hI3 hB3 l2 fz
      go_wp2_with fail
      go_loopw [8, 30] (fun _ iv wi => ∃ k : Nat, iv = .int .i64 k ∧ k ≤ M ∧ Hid (Upd bl w1 wi) ∧ Hid (IntB wi bl (l - 1 - Rose.countL (s.take k))) ∧
        Hid (Rose.countL (s.take k) ≤ l - 1 ∧ d + 1 + Rose.deepL (s.take k) ≤ 9 ∧ Rose.allL right1 (s.take k) = true)) (fun _ iv _ => M - (intOf iv).toNat)
      case atStart => exact ⟨0, rfl, by omega, Lib.hid H3.out.1, Lib.hid (by simpa [Rose.countL] using H3.out.2.1), Lib.hid ⟨by simp [Rose.countL], by simp [Rose.deepL]; omega, by simp [Rose.allL]⟩⟩
      case round =>
        obtain ⟨k, rfl, hk, HU, HI, HX⟩ := hrel
        have HF : Hid (Upd bl w wr) := Lib.hid (HU1W.out.trans HU.out)
        by_cases c : k < M
        · obtain ⟨y, hy⟩ : ∃ y, s[k]? = some y := ⟨_, List.getElem?_eq_getElem (by rw [HM.out]; exact c)⟩
          obtain ⟨b, off, u, rfl, hlt, hbne, y0, y1, y2, y3, hu, hwf⟩ := TOff.at_ (TOff.upd HU1'.out.1 HU.out) hy
          obtain ⟨ou, cu, rfl, _, _⟩ := TSubs.slice (TOff.any hu)
          obtain ⟨ny, hny⟩ : ∃ ny, y.sub.length = ny := ⟨_, rfl⟩
          rw [hny] at hu y2
          clear hny
          have hct := Rose.countL_take hy
          have hdt := Rose.deepL_take hy
          have hrt := Rose.allL_take (p := right1) hy
          have hle := Rose.countL_take_le s (k + 1)
          have hdl := Rose.deepL_take_le s (k + 1)
          rw [HC.out] at hle
          rw [HD.out] at hdl
          have hrf : Hid (y.all right1 = false → Rose.allL right1 s = false) := Lib.hid fun h => Rose.allL_false hy h
          have HY := Lib.hid (And.intro hct (And.intro hdt (And.intro hrt (And.intro hle hdl))))
          obtain ⟨lk, hlk⟩ : ∃ lk, l - 1 - Rose.countL (s.take k) = lk := ⟨_, rfl⟩
          have HLK := Lib.hid hlk
          have hlk64 : lk ≤ 64 := by omega
          rw [hlk] at HI
          have HA : Hid (∀ W, wr.alloc (.cells #[.int .i64 y.lab.kind, .int .i64 y.lab.size, .slice ou ny cu, .int .i64 y.lab.tail] 24) = W → Upd bl w1 W ∧ TOff bl W (.slice ou ny cu) y.sub ∧ IntB W bl lk ∧ TabU W ∧
              Blk W wr.heap.size #[.int .i64 y.lab.kind, .int .i64 y.lab.size, .slice ou ny cu, .int .i64 y.lab.tail] 24) := Lib.hid fun W h => by
            subst h
            have hal := (Below.refl wr.heap.size wr).alloc (Nat.le_refl _) (.cells #[.int .i64 y.lab.kind, .int .i64 y.lab.size, .slice ou ny cu, .int .i64 y.lab.tail] 24)
            exact ⟨HU.out.trans (Upd.of hal), TOff.upd hu (Upd.of hal), Below.blk hal HI.out HI.out.lt, (TabU.upd HU1'.out.2.2 HU.out hne).below hal (TabU.upd HU1'.out.2.2 HU.out hne).lt, Blk.new wr _ _⟩
          clear hu hwf hct hdt hrt hle hdl hlk
          go_upto_region 7 with fail
          generalize wr.alloc (.cells #[.int .i64 y.lab.kind, .int .i64 y.lab.size, .slice ou ny cu, .int .i64 y.lab.tail] 24) = w4 at *
          obtain ⟨hu4, ht4, hI4, hT4, hB4⟩ := HA.out _ rfl
          have b0 : w4.cell? ⟨wr.heap.size, 0, none⟩ = some (.int .i64 y.lab.kind) := hB4.cell 0
          have b1 : w4.cell? ⟨wr.heap.size, 1, none⟩ = some (.int .i64 y.lab.size) := hB4.cell 1
          have b2 : w4.cell? ⟨wr.heap.size, 2, none⟩ = some (.slice ou ny cu) := hB4.cell 2
          have b3 : w4.cell? ⟨wr.heap.size, 3, none⟩ = some (.int .i64 y.lab.tail) := hB4.cell 3
          have CY : Hid (Calls Tryd.prog 27 #[.agg #[.int .i64 y.lab.kind, .int .i64 y.lab.size, .slice ou ny cu, .int .i64 y.lab.tail], .int .i64 ((d : Int) + 1), .pointer (some ⟨bl, 0, none⟩)] w4
              fun e w' => e = .returned (.bool (mayR y (d + 1) lk)) ∧ Upd bl w1 w' ∧ (∃ l', l' ≤ 64 ∧ IntB w' bl l') ∧ (mayR y (d + 1) lk = true → IntB w' bl (lk - y.count))) :=
            Lib.hid ((IH.out y (List.mem_of_getElem? hy) w4 (.slice ou ny cu) (d + 1) lk bl ht4 hI4 hT4 hne (by omega) (by omega) hlk64).mono fun e w' h => ⟨h.1, hu4.trans h.2.1, h.2.2⟩)
          have HRD : Hid (mayR y (d + 1) lk = (decide (d + 1 + y.deep ≤ 9) && decide (y.count ≤ lk) && y.all right1)) := Lib.hid rfl
          clear HA hu4 ht4 hI4 hT4 hB4
          generalize mayR y (d + 1) lk = r at *
          cases r with
          | true =>
            go_wp2_with fail
            refine (CY.out).mono ?_
            rintro e w5 ⟨rfl, hu5, ⟨l', hl', hI5⟩, hIT⟩
            have HU5 := Lib.hid hu5
            have HIT := Lib.hid (hIT (by trivial))
            clear hu5 hI5 hIT
            go_wp2_with fail
            have h1 := HRD.out
            have h2 := HY.out
            have h3 := HLK.out
            have h4 := HX.out
            simp only [Bool.true_eq, Bool.and_eq_true, decide_eq_true_eq] at h1
            go_roundw
            case rel =>
              refine ⟨k + 1, by go_num, by omega, Lib.hid HU5.out, Lib.hid ?_, Lib.hid ⟨by rw [h2.1]; omega, by rw [h2.2.1]; omega, by rw [h2.2.2.1, h4.2.2, h1.2]; rfl⟩⟩
              rw [h2.1, show l - 1 - (Rose.countL (s.take k) + y.count) = lk - y.count by omega]
              exact HIT.out
            case measure => simp [intOf]; omega
          | false =>
            go_wp2_with fail
            refine (CY.out).mono ?_
            rintro e w5 ⟨rfl, hu5, ⟨l', hl', hI5⟩, hIT⟩
            have HU5 := Lib.hid (HU1W.out.trans hu5)
            have HI5 := Lib.hid hI5
            clear hu5 hI5 hIT
            go_wp2_with fail
            have hR : R = false := by
              have h1 := HRD.out
              have h2 := HY.out
              have h3 := HLK.out
              rw [HDEF.out]
              have h5 : ¬ (d + (D + 1) ≤ 9 ∧ 1 + C ≤ l ∧ Rose.allL right1 s = true) := by
                rintro ⟨g1, g2, g3⟩
                have e1 : d + 1 + y.deep ≤ 9 := by have := h2.2.1; have := h2.2.2.2.2; omega
                have e2 : y.count ≤ lk := by have := h2.1; have := h2.2.2.2.1; omega
                have e3 : y.all right1 = true := by
                  cases hya : y.all right1 with
                  | true => rfl
                  | false => rw [hrf.out hya] at g3; cases g3
                rw [decide_eq_true e1, decide_eq_true e2, e3] at h1
                cases h1
              cases h6 : (decide (d + (D + 1) ≤ 9) && decide (1 + C ≤ l) && (true && Rose.allL right1 s)) with
              | false => rfl
              | true =>
                exfalso
                simp only [Bool.true_and, Bool.and_eq_true, decide_eq_true_eq] at h6
                exact h5 ⟨h6.1.1, h6.1.2, h6.2⟩
            exact HP.out _ _ ⟨by rw [hR]; rfl, HU5.out, ⟨l', hl', HI5.out⟩, fun h => by rw [hR] at h; cases h⟩
        · obtain rfl : k = M := by omega
          have htk : s.take k = s := by rw [← HM.out, List.take_length]
          rw [htk] at HI HX
          rw [HC.out, HD.out] at HX
          rw [HC.out] at HI
          go_wp2_with fail
          have hx := HX.out
          have hR : R = true := by
            rw [HDEF.out, decide_eq_true (by omega), decide_eq_true (by omega), hx.2.2]; rfl
          refine HP.out _ _ ⟨by rw [hR]; rfl, HF.out, ⟨l - 1 - C, by omega, HI.out⟩, fun _ => ?_⟩
          rw [show l - (1 + C) = l - 1 - C by omega]
          exact HI.out
theorem mayR_mayT (x : Rose TL) : mayR x 1 64 = mayT x := by
  unfold mayR mayT
  rw [show decide (1 + x.deep ≤ 9) = decide (x.deep ≤ 8) by rw [decide_eq_decide]; omega, Bool.and_comm (decide (x.deep ≤ 8))]

set_option maxRecDepth 100000 in
theorem prog_May (x : Rose TL) (w : World) (v : Value) (hv : TSubs w v x.sub) (hT : TabU w) :
    Calls Tryd.prog 14 #[.agg #[.int .i64 x.lab.kind, .int .i64 x.lab.size, v, .int .i64 x.lab.tail]] w fun e w' => e = .returned (.bool (mayT x)) ∧ Below w.heap.size w w' := by
  rw [← mayR_mayT]
  have hT0 := hT.lt
  have HW := Lib.hid (box_type (k := x.lab.kind) (z := x.lab.size) (l := x.lab.tail) (t := 24) hv)
  obtain ⟨g, hg⟩ : ∃ g, w.heap.size = g := ⟨_, rfl⟩
  rw [hg] at HW hT0 ⊢
  have HA : Hid (∀ W W2, w.alloc (.cells #[.int .i64 x.lab.kind, .int .i64 x.lab.size, v, .int .i64 x.lab.tail] 24) = W → W.alloc (.cells #[.int .i64 64] 3) = W2 →
      Calls Tryd.prog 27 #[.agg #[.int .i64 x.lab.kind, .int .i64 x.lab.size, v, .int .i64 x.lab.tail], .int .i64 1, .pointer (some ⟨g + 1, 0, none⟩)] W2 fun e w' => e = .returned (.bool (mayR x 1 64)) ∧ Below g w w') := Lib.hid fun W W2 h h2 => by
    obtain ⟨a1, a2, a3, _⟩ := HW.out W h
    have b1 := (Below.refl W.heap.size W).alloc (Nat.le_refl _) (.cells #[.int .i64 64] 3)
    rw [h2] at b1
    have hI : IntB W2 (g + 1) 64 := by
      subst h2
      have := Blk.new W #[.int .i64 64] 3
      rw [a3] at this; exact this
    have hT2 : TabU W2 := (hT.below (hg ▸ a1 : Below w.heap.size w W) hT.lt).below b1 (by omega)
    refine (prog_may x W2 v 1 64 (g + 1) (TOff.of a2 b1 (by omega)) hI hT2 (by omega) (by decide) (by decide) (by decide)).mono fun e w' h => ⟨h.1, ?_⟩
    have h3 : Below g w W2 := a1.trans (b1.mono (by omega))
    exact h.2.1.below h3 (by omega) (by have := b1.size; omega)
  clear hv hT
  generalize mayR x 1 64 = R at *
  go_enter Tryd.func14, Tryd.ntmps14
  go_upto_region 1 with fail
  have HS : Hid ((w.alloc (.cells #[.int .i64 x.lab.kind, .int .i64 x.lab.size, v, .int .i64 x.lab.tail] 24)).heap.size = g + 1) := Lib.hid (HW.out _ rfl).2.2.1
  have HA2 := Lib.hid (fun W2 => HA.out _ W2 rfl)
  obtain ⟨c0, c1, c2, c3⟩ := (HW.out _ rfl).2.2.2
  generalize w.alloc (.cells #[.int .i64 x.lab.kind, .int .i64 x.lab.size, v, .int .i64 x.lab.tail] 24) = w1 at *
  have hs := HS.out
  have hB : Hid (∀ W2, w1.alloc (.cells #[.int .i64 64] 3) = W2 → Below (g + 1) w1 W2) := Lib.hid fun W2 h => by
    subst h
    have := (Below.refl w1.heap.size w1).alloc (Nat.le_refl _) (.cells #[.int .i64 64] 3)
    rwa [hs] at this
  clear HW HA
  go_upto_region 2 with fail
  generalize w1.alloc (.cells #[.int .i64 64] 3) = w2 at *
  have hb2 := hB.out _ rfl
  have CM := Lib.hid (HA2.out _ rfl)
  have d0 := (hb2.cell (p := ⟨g, 0, none⟩) (Nat.lt_succ_self g)).trans c0
  have d1 := (hb2.cell (p := ⟨g, 1, none⟩) (Nat.lt_succ_self g)).trans c1
  have d2 := (hb2.cell (p := ⟨g, 2, none⟩) (Nat.lt_succ_self g)).trans c2
  have d3 := (hb2.cell (p := ⟨g, 3, none⟩) (Nat.lt_succ_self g)).trans c3
  clear hb2 hB HA2 c0 c1 c2 c3
  go_wp2_with fail
  refine (CM.out).mono ?_
  rintro e w3 ⟨rfl, hb3⟩
  have HB3 := Lib.hid hb3
  clear hb3
  go_wp2_with fail
  go_returns
  exact ⟨rfl, HB3.out⟩
end Go.Proofs.YtopfpfpefljkkaaDoor
