/- Package item: whether an item may be (scan, its closure visit, formed). -/
import Derived.Test.YtopfpfpefljkkaaItemSame
import Derived.Test.YtopfpfpefljkkaaObj2
import Derived.Laws.EntriesVeiled
namespace Go.Proofs.Ytopfpfpefljkkaa
open Go.RowKit
set_option linter.unusedVariables false
set_option linter.unusedSimpArgs false

set_option maxRecDepth 100000 in
set_option maxHeartbeats 1000000 in
theorem item_formed (a : IL) (oa : Option Addr) (n cap : Nat) (w : World) (hn : n ≤ 9223372036854775807) :
    Calls Try.prog 52 #[.agg #[.string (txt a), .bool a.list, .slice oa n cap]] w fun e w' => e = .returned (.bool (irightK a n)) ∧ Below w.heap.size w w' := by
  obtain ⟨g, hg⟩ : ∃ g, w.heap.size = g := ⟨_, rfl⟩
  have HW : Hid (∀ W, w.alloc (.cells #[.string (txt a), .bool a.list, .slice oa n cap] IT) = W → Below g w W ∧ Blk W g #[.string (txt a), .bool a.list, .slice oa n cap] IT) := Lib.hid fun W h => by
    subst h
    exact ⟨hg ▸ (Below.refl _ w).alloc (Nat.le_refl _) _, hg ▸ Blk.new w _ _⟩
  have HK : Hid (irightK a n = if a.list then decide ((txt a).size = 0) else decide (n = 0)) := Lib.hid (by rw [emp_size]; rfl)
  have HS := Lib.hid (str_nil (txt a))
  rw [hg]
  generalize irightK a n = K at *
  generalize txt a = T at *
  generalize a.list = L at *
  go_enter Try.func52, Try.ntmps52
  go_upto_region 1 with fail
  generalize w.alloc (.cells #[.string T, .bool L, .slice oa n cap] IT) = w1 at *
  obtain ⟨hb, hB⟩ := HW.out _ rfl
  have c0 := hB.cell 0
  have c1 := hB.cell 1
  have c2 := hB.cell 2
  simp only [List.getElem?_toArray, List.getElem?_cons_zero, List.getElem?_cons_succ] at c0 c1 c2
  have HB := Lib.hid hb
  clear HW hb hB
  cases L with
  | true =>
    obtain ⟨q, hq⟩ : ∃ q, (T.toList == ([] : List UInt8)) = q := ⟨_, rfl⟩
    have HE : Hid (K = q) := Lib.hid (by rw [HK.out, ← hq, HS.out]; rfl)
    clear HK HS
    go_wp2_with fail
    go_returns
    exact ⟨by rw [HE.out]; rfl, HB.out⟩
  | false =>
    obtain ⟨q, hq⟩ : ∃ q, ((n : Int) == 0) = q := ⟨_, rfl⟩
    have HE : Hid (K = q) := Lib.hid (by
      rw [HK.out, ← hq]
      by_cases h : n = 0
      · simp [h]
      · simp [h])
    clear HK HS
    go_wp2_with fail
    go_returns
    exact ⟨by rw [HE.out]; rfl, HB.out⟩

def NB (w : World) (b : Nat) (n : Nat) : Prop := Blk w b #[.int .i64 (n : Int)] 3
/-- Items whose blocks are neither. -/
abbrev IOff2 (b q : Nat) (w : World) (v : Value) (s : List (Rose IL)) : Prop := ishape.Subs w (fun c => c ≠ b ∧ c ≠ q) v s
theorem IOff2.upd {b q : Nat} {w w' : World} {v : Value} {s : List (Rose IL)} (h : IOff2 b q w v s) (hu : Upd2 b q w w') : IOff2 b q w' v s :=
  Shape.Subs.keep h hu.size (fun _ _ h => h) fun c hc hq => hu.block c hc hq.1 hq.2
theorem Upd2.of {b q : Nat} {w w' : World} (h : Below w.heap.size w w') : Upd2 b q w w' := ⟨h.os, h.tape, h.output, h.size, fun i hi _ _ => h.block i hi⟩
/-- The closure's variables. -/
structure VisAt (w : World) (bc be bd bv : Nat) : Prop where
  each : Blk w be #[.func (.func 52) #[] #[]] 38
  visit : Blk w bv #[.func (.func 62) #[] #[.pointer (some ⟨bc, 0, none⟩), .pointer (some ⟨be, 0, none⟩), .pointer (some ⟨bd, 0, none⟩), .pointer (some ⟨bv, 0, none⟩)]] 101
  e1 : be ≠ bc
  e2 : be ≠ bd
  v1 : bv ≠ bc
  v2 : bv ≠ bd
  cd : bc ≠ bd
theorem VisAt.upd {w w' : World} {bc be bd bv : Nat} (h : VisAt w bc be bd bv) (hu : Upd2 bc bd w w') : VisAt w' bc be bd bv := ⟨hu.blk h.each h.e1 h.e2, hu.blk h.visit h.v1 h.v2, h.e1, h.e2, h.v1, h.v2, h.cd⟩
theorem VisAt.below {w w' : World} {bc be bd bv : Nat} (h : VisAt w bc be bd bv) (hb : Below w.heap.size w w') : VisAt w' bc be bd bv := h.upd (Upd2.of hb)
theorem NB.below {w w' : World} {b n : Nat} (h : NB w b n) (hb : Below w.heap.size w w') : NB w' b n := Below.blk hb h (Blk.lt h)
/-- Whether an item may stand so deep, behind so many. -/
def mayV (x : Rose IL) (d n : Nat) : Bool := decide (d + x.deep ≤ 17) && decide (n + x.count ≤ 1024) && x.all iright
def VisPost (x : Rose IL) (d n bc bd : Nat) (w : World) (e : Ending) (w' : World) : Prop :=
  e = .returned (.bool (mayV x d n)) ∧ Upd2 bc bd w w' ∧ (∃ n', n' ≤ 1024 ∧ NB w' bc n') ∧ (∃ dd, dd ≤ 16 ∧ NB w' bd dd) ∧ (mayV x d n = true → NB w' bc (n + x.count))

set_option maxRecDepth 100000 in
set_option maxHeartbeats 4000000 in
theorem item_visit (x : Rose IL) : ∀ (w : World) (v : Value) (d n dd bc be bd bv : Nat), IOff2 bc bd w v x.sub → NB w bc n → NB w bd dd → VisAt w bc be bd bv → d ≤ 17 → n ≤ 1024 → dd ≤ 16 →
    Calls Try.prog 62 #[.agg #[.string (txt x.lab), .bool x.lab.list, v], .int .i64 d, .pointer (some ⟨bc, 0, none⟩), .pointer (some ⟨be, 0, none⟩), .pointer (some ⟨bd, 0, none⟩), .pointer (some ⟨bv, 0, none⟩)] w (VisPost x d n bc bd w) := by
  induction x using Rose.ind with
  | h a s ih =>
    intro w v d n dd bc be bd bv hv hC hD hV hd hn hdd
    simp only [Rose.sub_node, Rose.lab_node] at hv ⊢
    obtain ⟨oa, cap, rfl, hcap, hml⟩ := ISubsQ.slice hv
    obtain ⟨g, hg⟩ : ∃ g, w.heap.size = g := ⟨_, rfl⟩
    have hlm : s.length ≤ 9223372036854775807 := by unfold maxLen at hml; omega
    have HP : Hid (∀ e w', (e = .returned (.bool (mayV (.node a s) d n)) ∧ Upd2 bc bd w w' ∧ (∃ n', n' ≤ 1024 ∧ NB w' bc n') ∧ (∃ dd, dd ≤ 16 ∧ NB w' bd dd) ∧ (mayV (.node a s) d n = true → NB w' bc (n + (1 + Rose.countL s)))) → VisPost (.node a s) d n bc bd w e w') := Lib.hid fun _ _ h => h
    generalize hMP : VisPost (.node a s) d n bc bd w = POST at HP ⊢
    have HDEF : Hid (mayV (.node a s) d n = (decide (d + (Rose.deepL s + 1) ≤ 17) && decide (n + (1 + Rose.countL s) ≤ 1024) && (irightK a s.length && Rose.allL iright s))) := Lib.hid rfl
    have hcg : bc < g := hg ▸ Blk.lt hC
    have hdg : bd < g := hg ▸ Blk.lt hD
    have HW : Hid (∀ W, w.alloc (.cells #[.string (txt a), .bool a.list, .slice oa s.length cap] IT) = W → Upd2 bc bd w W ∧ IOff2 bc bd W (.slice oa s.length cap) s ∧ NB W bc n ∧ NB W bd dd ∧ VisAt W bc be bd bv ∧ W.heap.size = g + 1 ∧
        Blk W g #[.string (txt a), .bool a.list, .slice oa s.length cap] IT) := Lib.hid fun W h => by
      subst h
      have hal := (Below.refl w.heap.size w).alloc (Nat.le_refl _) (.cells #[.string (txt a), .bool a.list, .slice oa s.length cap] IT)
      exact ⟨Upd2.of hal, hv.upd (Upd2.of hal), hC.below hal, hD.below hal, hV.below hal, by simp; omega, hg ▸ Blk.new w _ _⟩
    generalize mayV (.node a s) d n = R at *
    obtain ⟨M, hM⟩ : ∃ M, s.length = M := ⟨_, rfl⟩
    have HM := Lib.hid hM
    have IH := Lib.hid ih
    obtain ⟨C, hC'⟩ : ∃ C, Rose.countL s = C := ⟨_, rfl⟩
    have HC := Lib.hid hC'
    obtain ⟨D, hD'⟩ : ∃ D, Rose.deepL s = D := ⟨_, rfl⟩
    have HD := Lib.hid hD'
    rw [hM] at HW hlm HDEF ⊢
    rw [hC', hD'] at HDEF
    rw [hC'] at HP
    clear hv hcap hml ih hM hC hD hC' hD' hMP hV
    go_enter Try.func62, Try.ntmps62
    go_upto_region 1 with fail
    generalize w.alloc (.cells #[.string (txt a), .bool a.list, .slice oa M cap] IT) = w1 at *
    obtain ⟨hu1, hv1, hC1, hD1, hV1, hsz, hB⟩ := HW.out _ rfl
    have g0 := hB.cell 0
    have g1 := hB.cell 1
    have g2 := hB.cell 2
    have l0 : w1.cell? ⟨bc, 0, none⟩ = some (.int .i64 n) := hC1.cell 0
    have e0 : w1.cell? ⟨be, 0, none⟩ = some (.func (.func 52) #[] #[]) := hV1.each.cell 0
    simp only [List.getElem?_toArray, List.getElem?_cons_zero, List.getElem?_cons_succ] at g0 g1 g2
    have HU1 := Lib.hid hu1
    have HX1 := Lib.hid (And.intro hv1 (And.intro hC1 (And.intro hD1 (And.intro hV1 hB))))
    have CF := Lib.hid (item_formed a oa M cap w1 hlm)
    clear HW hu1 hv1 hC1 hD1 hV1 hB
    by_cases cd : 16 < d
    · have d0 : decide (16 < (d : Int)) = true := by simp; omega
      have HE : Hid (R = false) := Lib.hid (by rw [HDEF.out, decide_eq_false (by omega)]; rfl)
      clear cd
      go_wp2_with fail
      exact HP.out _ _ ⟨by rw [HE.out]; rfl, HU1.out, ⟨n, hn, HX1.out.2.1⟩, ⟨dd, hdd, HX1.out.2.2.1⟩, fun h => by rw [HE.out] at h; cases h⟩
    have d0 : decide (16 < (d : Int)) = false := by simp; omega
    have hd16 : d ≤ 16 := by omega
    clear cd
    by_cases cn : n = 1024
    · have n0 : ((n : Int) == 1024) = true := by simp [cn]
      have HE : Hid (R = false) := Lib.hid (by rw [HDEF.out, decide_eq_false (by omega : ¬ n + (1 + C) ≤ 1024), Bool.and_false]; rfl)
      clear cn
      go_wp2_with fail
      exact HP.out _ _ ⟨by rw [HE.out]; rfl, HU1.out, ⟨n, hn, HX1.out.2.1⟩, ⟨dd, hdd, HX1.out.2.2.1⟩, fun h => by rw [HE.out] at h; cases h⟩
    have n0 : ((n : Int) == 1024) = false := by rw [beq_eq_false_iff_ne]; omega
    have hn1 : n ≤ 1023 := by omega
    clear cn
    generalize irightK a M = q at *
    cases q with
    | false =>
      have HE : Hid (R = false) := Lib.hid (by rw [HDEF.out]; simp)
      go_wp2_with fail
      refine CF.out.mono ?_
      rintro e w2 ⟨rfl, hb2⟩
      have HU2 := Lib.hid (HU1.out.trans (Upd2.of hb2))
      have HC2 := Lib.hid (HX1.out.2.1.below hb2)
      have HD2 := Lib.hid (HX1.out.2.2.1.below hb2)
      clear hb2
      go_wp2_with fail
      exact HP.out _ _ ⟨by rw [HE.out]; rfl, HU2.out, ⟨n, hn, HC2.out⟩, ⟨dd, hdd, HD2.out⟩, fun h => by rw [HE.out] at h; cases h⟩
    | true =>
      have HR : Hid (R = (decide (d + (D + 1) ≤ 17) && decide (n + (1 + C) ≤ 1024) && Rose.allL iright s)) := Lib.hid (by rw [HDEF.out]; simp)
      clear HDEF
      obtain ⟨dm, hdm⟩ : ∃ dm, max dd d = dm := ⟨_, rfl⟩
      have hdm1 : (if dd < d then (d : Int) else (dd : Int)) = (dm : Int) := by split <;> omega
      have hdm2 : dm ≤ 16 := by omega
      clear hdm
      go_wp2_with fail
      refine CF.out.mono ?_
      rintro e w2 ⟨rfl, hb2⟩
      have hc2 := HX1.out.2.1.below hb2
      have hd2 := HX1.out.2.2.1.below hb2
      have a0 : w2.cell? ⟨bc, 0, none⟩ = some (.int .i64 n) := hc2.cell 0
      have a1 : w2.frozen? ⟨bc, 0, none⟩ = false := hc2.free 0
      have b0 : w2.cell? ⟨bd, 0, none⟩ = some (.int .i64 dd) := hd2.cell 0
      have b1 : w2.frozen? ⟨bd, 0, none⟩ = false := hd2.free 0
      have hcd : bc ≠ bd := HX1.out.2.2.2.1.cd
      have g2' := (hb2.cell (p := ⟨g, 2, none⟩) (show g < w1.heap.size by omega)).trans g2
      have hgc : g ≠ bc := by omega
      have hgd : g ≠ bd := by omega
      have HU2 := Lib.hid (HU1.out.trans (Upd2.of hb2))
      have H2 := Lib.hid (And.intro hc2 (And.intro hd2 (And.intro (HX1.out.1.upd (Upd2.of hb2)) (And.intro (HX1.out.2.2.2.1.below hb2) (Below.blk hb2 HX1.out.2.2.2.2 (by omega))))))
      clear hb2 hc2 hd2 CF g0 g1 g2 e0 l0
      have hst : Hid (∀ W, (w2.setCell ⟨bc, 0, none⟩ (.int .i64 ((n : Int) + 1))).setCell ⟨bd, 0, none⟩ (.int .i64 dm) = W → Upd2 bc bd w2 W ∧ NB W bc (n + 1) ∧ NB W bd dm ∧ Blk W g #[.string (txt a), .bool a.list, .slice oa M cap] IT ∧ IOff2 bc bd W (.slice oa M cap) s ∧ VisAt W bc be bd bv) := Lib.hid fun W h => by
        subst h
        obtain ⟨k1, k2, k3, k4, k5⟩ := H2.out
        have hu : Upd2 bc bd w2 ((w2.setCell ⟨bc, 0, none⟩ (.int .i64 ((n : Int) + 1))).setCell ⟨bd, 0, none⟩ (.int .i64 dm)) := ((Upd2.refl bc bd w2).setL 0 _).setR 0 _
        refine ⟨hu, ?_, ?_, hu.blk k5 hgc hgd, k3.upd hu, k4.upd hu⟩
        · have := (Blk.set k1 0 (.int .i64 ((n : Int) + 1))).setOther (a := ⟨bd, 0, none⟩) hcd (.int .i64 dm)
          exact this
        · have := (Blk.setOther k2 (a := ⟨bc, 0, none⟩) (Ne.symm hcd) (.int .i64 ((n : Int) + 1))).set 0 (.int .i64 dm)
          exact this
      go_upto_region 5 with fail
      generalize (w2.setCell ⟨bc, 0, none⟩ (.int .i64 ((n : Int) + 1))).setCell ⟨bd, 0, none⟩ (.int .i64 dm) = w3 at *
      obtain ⟨hu3, hC3, hD3, hB3, hv3, hV3⟩ := hst.out _ rfl
      have q2 : w3.cell? ⟨g, 2, none⟩ = some (.slice oa M cap) := hB3.cell 2
      have hs3 : g + 1 ≤ w3.heap.size := Blk.lt hB3
      have H3 := Lib.hid (And.intro hu3 (And.intro hC3 (And.intro hD3 (And.intro hv3 hV3))))
      clear hst hu3 hC3 hD3 hB3 hv3 hV3 a0 a1 b0 b1 g2'
      go_wp2_with fail
      go_loopw [10, 31] (fun _ iv wi => ∃ k : Nat, iv = .int .i64 k ∧ k ≤ M ∧ Hid (Upd2 bc bd w3 wi) ∧ Hid (NB wi bc (n + 1 + Rose.countL (s.take k)) ∧ n + 1 + Rose.countL (s.take k) ≤ 1024) ∧ Hid (∃ e, e ≤ 16 ∧ NB wi bd e) ∧
        Hid (d + 1 + Rose.deepL (s.take k) ≤ 17 ∧ Rose.allL iright (s.take k) = true)) (fun _ iv _ => M - (intOf iv).toNat)
      case atStart => exact ⟨0, rfl, by omega, Lib.hid (Upd2.refl _ _ _), Lib.hid (by simpa [Rose.countL] using ⟨H3.out.2.1, by omega⟩), Lib.hid ⟨dm, hdm2, H3.out.2.2.1⟩, Lib.hid ⟨by simp [Rose.deepL]; omega, by simp [Rose.allL]⟩⟩
      case round =>
        obtain ⟨k, rfl, hk, HU, HCN, HDD, HX⟩ := hrel
        have HF : Hid (Upd2 bc bd w wr) := Lib.hid (HU2.out.trans (H3.out.1.trans HU.out))
        by_cases c : k < M
        · obtain ⟨y, hy⟩ : ∃ y, s[k]? = some y := ⟨_, List.getElem?_eq_getElem (by rw [HM.out]; exact c)⟩
          have hvr := H3.out.2.2.2.1.upd HU.out
          obtain ⟨b, off, u, rfl, hlt, hbne, y0, y1, y2, hu, hwf⟩ := ISubsQ.at_ hvr hy
          have hVr := H3.out.2.2.2.2.upd HU.out
          obtain ⟨ou, cu, rfl, _, _⟩ := ISubsQ.slice hu
          obtain ⟨ny, hny⟩ : ∃ ny, y.sub.length = ny := ⟨_, rfl⟩
          rw [hny] at hu y2
          obtain ⟨e, he, hDe⟩ := HDD.out
          obtain ⟨nk, hnk⟩ : ∃ nk, n + 1 + Rose.countL (s.take k) = nk := ⟨_, rfl⟩
          have hCk := HCN.out
          rw [hnk] at hCk
          have HA : Hid (∀ W, wr.alloc (.cells #[.string (txt y.lab), .bool y.lab.list, .slice ou ny cu] IT) = W → Upd2 bc bd w3 W ∧ IOff2 bc bd W (.slice ou ny cu) y.sub ∧ NB W bc nk ∧ NB W bd e ∧ VisAt W bc be bd bv ∧
              Blk W wr.heap.size #[.string (txt y.lab), .bool y.lab.list, .slice ou ny cu] IT) := Lib.hid fun W h => by
            subst h
            have hal := (Below.refl wr.heap.size wr).alloc (Nat.le_refl _) (.cells #[.string (txt y.lab), .bool y.lab.list, .slice ou ny cu] IT)
            exact ⟨HU.out.trans (Upd2.of hal), IOff2.upd hu (Upd2.of hal), hCk.1.below hal, hDe.below hal, hVr.below hal, Blk.new wr _ _⟩
          have HCK := Lib.hid hCk.2
          have HNK := Lib.hid hnk
          clear hu hwf hny hDe hvr hVr hCk hnk hbne
          go_upto_region 8 with fail
          generalize wr.alloc (.cells #[.string (txt y.lab), .bool y.lab.list, .slice ou ny cu] IT) = w4 at *
          obtain ⟨hu4, hv4, hC4, hD4, hV4, hB4⟩ := HA.out _ rfl
          have b0 : w4.cell? ⟨wr.heap.size, 0, none⟩ = some (.string (txt y.lab)) := hB4.cell 0
          have b1 : w4.cell? ⟨wr.heap.size, 1, none⟩ = some (.bool y.lab.list) := hB4.cell 1
          have b2 : w4.cell? ⟨wr.heap.size, 2, none⟩ = some (.slice ou ny cu) := hB4.cell 2
          have v0 : w4.cell? ⟨bv, 0, none⟩ = some (.func (.func 62) #[] #[.pointer (some ⟨bc, 0, none⟩), .pointer (some ⟨be, 0, none⟩), .pointer (some ⟨bd, 0, none⟩), .pointer (some ⟨bv, 0, none⟩)]) := hV4.visit.cell 0
          have CY : Hid (Calls Try.prog 62 #[.agg #[.string (txt y.lab), .bool y.lab.list, .slice ou ny cu], .int .i64 ((d : Int) + 1), .pointer (some ⟨bc, 0, none⟩), .pointer (some ⟨be, 0, none⟩), .pointer (some ⟨bd, 0, none⟩), .pointer (some ⟨bv, 0, none⟩)] w4
              (VisPost y (d + 1) nk bc bd w4)) := Lib.hid (IH.out y (List.mem_of_getElem? hy) w4 (.slice ou ny cu) (d + 1) nk e bc be bd bv hv4 hC4 hD4 hV4 (by omega) HCK.out he)
          have HU4 := Lib.hid (HU2.out.trans (H3.out.1.trans hu4))
          have HU34 := Lib.hid hu4
          have HRD : Hid (mayV y (d + 1) nk = (decide (d + 1 + y.deep ≤ 17) && decide (nk + y.count ≤ 1024) && y.all iright)) := Lib.hid rfl
          clear HA hu4 hv4 hC4 hD4 hV4 hB4
          obtain ⟨r, hr⟩ : ∃ r, mayV y (d + 1) nk = r := ⟨_, rfl⟩
          rw [hr] at HRD
          have HRR := Lib.hid hr
          clear hr
          cases r with
          | true =>
            go_wp2_with fail
            refine (CY.out).mono ?_
            rintro e2 w5 ⟨rfl, hu5, hn5, hd5, hok⟩
            rw [HRR.out] at hok ⊢
            have HU5 := Lib.hid (HU34.out.trans hu5)
            have HN5 := Lib.hid (hok rfl)
            have HD5 := Lib.hid hd5
            clear hu5 hn5 hd5 hok
            go_wp2_with fail
            have h1 := HRD.out
            have h2 := Rose.countL_take hy
            have h3 := Rose.deepL_take hy
            have h4 := Rose.allL_take (p := iright) hy
            have h5 := HNK.out
            have h6 := HX.out
            simp only [Bool.true_eq, Bool.and_eq_true, decide_eq_true_eq] at h1
            go_roundw
            case rel =>
              refine ⟨k + 1, by go_num, by omega, Lib.hid HU5.out, Lib.hid ⟨?_, by rw [h2]; omega⟩, Lib.hid HD5.out, Lib.hid ⟨by rw [h3]; omega, by rw [h4, h6.2, h1.2]; rfl⟩⟩
              rw [h2, show n + 1 + (Rose.countL (s.take k) + y.count) = nk + y.count by omega]
              exact HN5.out
            case measure => simp [intOf]; omega
          | false =>
            go_wp2_with fail
            refine (CY.out).mono ?_
            rintro e2 w5 ⟨rfl, hu5, hn5, hd5, hok⟩
            rw [HRR.out]
            have HU5 := Lib.hid (HU4.out.trans hu5)
            have HN5 := Lib.hid hn5
            have HD5 := Lib.hid hd5
            clear hu5 hn5 hd5 hok
            go_wp2_with fail
            have hRF : R = false := by
              have h1 := HRD.out
              have h2 := Rose.countL_take hy
              have h3 := Rose.deepL_take hy
              have h5 := HNK.out
              have h7 := Rose.countL_take_le s (k + 1)
              have h8 := IRose.deepL_take_le s (k + 1)
              rw [HC.out] at h7
              rw [HD.out] at h8
              have h9 : ¬ (d + (D + 1) ≤ 17 ∧ n + (1 + C) ≤ 1024 ∧ Rose.allL iright s = true) := by
                rintro ⟨g1, g2, g3⟩
                have e3 : y.all iright = true := by
                  cases hya : y.all iright with
                  | true => rfl
                  | false => rw [Rose.allL_false hy hya] at g3; cases g3
                rw [decide_eq_true (by omega), decide_eq_true (by omega), e3] at h1
                cases h1
              rw [HR.out]
              cases h6 : (decide (d + (D + 1) ≤ 17) && decide (n + (1 + C) ≤ 1024) && Rose.allL iright s) with
              | false => rfl
              | true =>
                exfalso
                simp only [Bool.and_eq_true, decide_eq_true_eq] at h6
                exact h9 ⟨h6.1.1, h6.1.2, h6.2⟩
            exact HP.out _ _ ⟨by rw [hRF]; rfl, HU5.out, HN5.out, HD5.out, fun h => by rw [hRF] at h; cases h⟩
        · obtain rfl : k = M := by omega
          have htk : s.take k = s := by rw [← HM.out, List.take_length]
          rw [htk] at HCN HX
          rw [HC.out] at HCN
          rw [HD.out] at HX
          go_wp2_with fail
          have hx := HX.out
          have hc := HCN.out
          have hRT : R = true := by rw [HR.out, decide_eq_true (by omega), decide_eq_true (by omega), hx.2]; rfl
          exact HP.out _ _ ⟨by rw [hRT]; rfl, HF.out, ⟨_, hc.2, hc.1⟩, HDD.out, fun _ => by rw [show n + (1 + C) = n + 1 + C by omega]; exact hc.1⟩

theorem mayV_mayI (x : Rose IL) : mayV x 1 0 = mayI x := by
  unfold mayV mayI
  rw [show decide (1 + x.deep ≤ 17) = decide (x.deep ≤ 16) by rw [decide_eq_decide]; omega, show decide (0 + x.count ≤ 1024) = decide (x.count ≤ 1024) by rw [decide_eq_decide]; omega]
  cases x.all iright <;> cases decide (x.deep ≤ 16) <;> cases decide (x.count ≤ 1024) <;> rfl

abbrev visF (g : Nat) : Value := .func (.func 62) #[] #[.pointer (some ⟨g + 2, 0, none⟩), .pointer (some ⟨g + 1, 0, none⟩), .pointer (some ⟨g + 3, 0, none⟩), .pointer (some ⟨g + 4, 0, none⟩)]
/-- What scan makes, block by block. -/
structure ScanW (g : Nat) (w w1 w2 w3 w4 w5 : World) (a : IL) (v : Value) : Prop where
  e1 : w.alloc (.cells #[.string (txt a), .bool a.list, v] IT) = w1
  e2 : w1.alloc (.cells #[.func (.func 52) #[] #[]] 38) = w2
  e3 : w2.alloc (.cells #[.int .i64 0] 3) = w3
  e4 : w3.alloc (.cells #[.int .i64 0] 3) = w4
  e5 : w4.alloc (.cells #[.nilFunc] 101) = w5
/-- What scan makes. -/
structure ScanIni (g : Nat) (w W : World) (a : IL) (v : Value) (s : List (Rose IL)) : Prop where
  bel : Below g w W
  item : Blk W g #[.string (txt a), .bool a.list, v] IT
  off : IOff2 (g + 2) (g + 3) W v s
  c : NB W (g + 2) 0
  d : NB W (g + 3) 0
  vis : VisAt W (g + 2) (g + 1) (g + 3) (g + 4)
  size : W.heap.size = g + 5
theorem scan_ini {g : Nat} {w w1 w2 w3 w4 w5 W : World} {a : IL} {v : Value} {s : List (Rose IL)} (hg : w.heap.size = g) (hv : ISubs w v s) (hw : ScanW g w w1 w2 w3 w4 w5 a v) (h : w5.setCell ⟨g + 4, 0, none⟩ (visF g) = W) :
    ScanIni g w W a v s ∧ w1.heap.size = g + 1 ∧ w2.heap.size = g + 2 ∧ w3.heap.size = g + 3 ∧ w4.heap.size = g + 4 ∧ w5.cell? ⟨g + 4, 0, none⟩ = some .nilFunc ∧ w5.frozen? ⟨g + 4, 0, none⟩ = false := by
  obtain ⟨e1, e2, e3, e4, e5⟩ := hw
  have s1 : w1.heap.size = g + 1 := by rw [← e1]; simp; omega
  have s2 : w2.heap.size = g + 2 := by rw [← e2]; simp; omega
  have s3 : w3.heap.size = g + 3 := by rw [← e3]; simp; omega
  have s4 : w4.heap.size = g + 4 := by rw [← e4]; simp; omega
  have s5 : w5.heap.size = g + 5 := by rw [← e5]; simp; omega
  have b1 : Below g w w1 := by rw [← e1, ← hg]; exact (Below.refl _ w).alloc (Nat.le_refl _) _
  have b2 : Below (g + 1) w1 w2 := by rw [← e2, ← s1]; exact (Below.refl _ w1).alloc (Nat.le_refl _) _
  have b3 : Below (g + 2) w2 w3 := by rw [← e3, ← s2]; exact (Below.refl _ w2).alloc (Nat.le_refl _) _
  have b4 : Below (g + 3) w3 w4 := by rw [← e4, ← s3]; exact (Below.refl _ w3).alloc (Nat.le_refl _) _
  have b5 : Below (g + 4) w4 w5 := by rw [← e5, ← s4]; exact (Below.refl _ w4).alloc (Nat.le_refl _) _
  have k0 : Blk w1 g #[.string (txt a), .bool a.list, v] IT := by have := Blk.new w #[.string (txt a), .bool a.list, v] IT; rw [e1, hg] at this; exact this
  have k1 : Blk w2 (g + 1) #[.func (.func 52) #[] #[]] 38 := by have := Blk.new w1 #[.func (.func 52) #[] #[]] 38; rw [e2, s1] at this; exact this
  have k2 : Blk w3 (g + 2) #[.int .i64 0] 3 := by have := Blk.new w2 #[.int .i64 0] 3; rw [e3, s2] at this; exact this
  have k3 : Blk w4 (g + 3) #[.int .i64 0] 3 := by have := Blk.new w3 #[.int .i64 0] 3; rw [e4, s3] at this; exact this
  have k4 : Blk w5 (g + 4) #[.nilFunc] 101 := by have := Blk.new w4 #[.nilFunc] 101; rw [e5, s4] at this; exact this
  have bb : Below (g + 4) w4 W := by
    rw [← h]
    exact Upd.below ((Upd.refl (g + 4) w5).set 0 _) b5 (Nat.le_refl _) (by omega)
  have c34 : Below (g + 3) w3 W := b4.trans (bb.mono (by omega))
  have c23 : Below (g + 2) w2 W := b3.trans (c34.mono (by omega))
  have c12 : Below (g + 1) w1 W := b2.trans (c23.mono (by omega))
  have c01 : Below g w W := b1.trans (c12.mono (by omega))
  refine ⟨?_, s1, s2, s3, s4, k4.cell 0, k4.free 0⟩
  refine ⟨c01, Below.blk c12 k0 (by omega), ?_, Below.blk c34 k2 (by omega), Below.blk bb k3 (by omega), ⟨Below.blk c23 k1 (by omega), ?_, by omega, by omega, by omega, by omega, by omega⟩, by rw [← h]; simp [World.setCell, s5]⟩
  · exact Shape.Subs.keep hv c01.size (fun c hc _ => by omega) fun c hc _ => c01.block c (by omega)
  · rw [← h]
    exact k4.set 0 (visF g)

set_option maxRecDepth 100000 in
set_option maxHeartbeats 2000000 in
theorem item_scan (x : Rose IL) (w : World) (v : Value) (hv : ISubs w v x.sub) :
    Calls Try.prog 51 #[.agg #[.string (txt x.lab), .bool x.lab.list, v], .func (.func 52) #[] #[]] w fun e w' => (∃ a b : Int, e = .returned (.tuple #[.int .i64 a, .int .i64 b, .bool (mayI x)])) ∧ Below w.heap.size w w' := by
  obtain ⟨g, hg⟩ : ∃ g, w.heap.size = g := ⟨_, rfl⟩
  obtain ⟨oa, cap, rfl, hcap, hml⟩ := ISubsQ.slice hv
  obtain ⟨w1, e1⟩ : ∃ w1, w.alloc (.cells #[.string (txt x.lab), .bool x.lab.list, .slice oa x.sub.length cap] IT) = w1 := ⟨_, rfl⟩
  obtain ⟨w2, e2⟩ : ∃ w2, w1.alloc (.cells #[.func (.func 52) #[] #[]] 38) = w2 := ⟨_, rfl⟩
  obtain ⟨w3, e3⟩ : ∃ w3, w2.alloc (.cells #[.int .i64 0] 3) = w3 := ⟨_, rfl⟩
  obtain ⟨w4, e4⟩ : ∃ w4, w3.alloc (.cells #[.int .i64 0] 3) = w4 := ⟨_, rfl⟩
  obtain ⟨w5, e5⟩ : ∃ w5, w4.alloc (.cells #[.nilFunc] 101) = w5 := ⟨_, rfl⟩
  have hini := scan_ini (W := w5.setCell ⟨g + 4, 0, none⟩ (visF g)) hg hv ⟨e1, e2, e3, e4, e5⟩ rfl
  obtain ⟨hI, s1, s2, s3, s4, q0, q1⟩ := hini
  obtain ⟨R, hR⟩ : ∃ R, mayI x = R := ⟨_, rfl⟩
  have HR := Lib.hid hR
  have HI := Lib.hid hI
  have CV := Lib.hid (fun (h : ScanIni g w (w5.setCell ⟨g + 4, 0, none⟩ (visF g)) x.lab (.slice oa x.sub.length cap) x.sub) => item_visit x (w5.setCell ⟨g + 4, 0, none⟩ (visF g)) (.slice oa x.sub.length cap) 1 0 0 (g + 2) (g + 1) (g + 3) (g + 4) h.off h.c h.d h.vis (by decide) (by decide) (by decide))
  rw [hg, hR]
  clear hv hcap hml hR hI
  generalize x.sub.length = M at *
  go_enter Try.func51, Try.ntmps51
  go_upto_region 3 with fail
  generalize w5.setCell ⟨g + 4, 0, none⟩ (visF g) = w6 at *
  have v0 : w6.cell? ⟨g + 4, 0, none⟩ = some (visF g) := HI.out.vis.visit.cell 0
  have i0 : w6.cell? ⟨g, 0, none⟩ = some (.string (txt x.lab)) := HI.out.item.cell 0
  have i1 : w6.cell? ⟨g, 1, none⟩ = some (.bool x.lab.list) := HI.out.item.cell 1
  have i2 : w6.cell? ⟨g, 2, none⟩ = some (.slice oa M cap) := HI.out.item.cell 2
  have CV2 := Lib.hid (CV.out HI.out)
  clear CV e1 e2 e3 e4 e5 q0 q1 s1 s2 s3 s4
  go_wp2_with fail
  refine (CV2.out).mono ?_
  rintro e w7 ⟨rfl, hu7, ⟨n7, hn7, hc7⟩, ⟨d7, hd7, hD7⟩, _⟩
  rw [mayV_mayI, HR.out]
  have a0 : w7.cell? ⟨g + 2, 0, none⟩ = some (.int .i64 n7) := hc7.cell 0
  have a1 : w7.frozen? ⟨g + 2, 0, none⟩ = false := hc7.free 0
  have b0 : w7.cell? ⟨g + 3, 0, none⟩ = some (.int .i64 d7) := hD7.cell 0
  have b1 : w7.frozen? ⟨g + 3, 0, none⟩ = false := hD7.free 0
  have hne : g + 2 ≠ g + 3 := by omega
  have HB7 : Hid (∀ u v : Value, Below g w ((w7.setCell ⟨g + 2, 0, none⟩ u).setCell ⟨g + 3, 0, none⟩ v)) := Lib.hid fun u v => by
    have h1 : Upd2 (g + 2) (g + 3) w6 ((w7.setCell ⟨g + 2, 0, none⟩ u).setCell ⟨g + 3, 0, none⟩ v) := (hu7.setL 0 u).setR 0 v
    have h0 := HI.out.bel
    refine ⟨h1.os.trans h0.os, h1.tape.trans h0.tape, h1.output.trans h0.output, Nat.le_trans h0.size h1.size, fun c hc => ?_⟩
    exact (h1.block c (by have := HI.out.size; omega) (by omega) (by omega)).trans (h0.block c hc)
  have HC7 : Hid (∀ u v : Value, ((w7.setCell ⟨g + 2, 0, none⟩ u).setCell ⟨g + 3, 0, none⟩ v).cell? ⟨g + 2, 0, none⟩ = some u ∧ ((w7.setCell ⟨g + 2, 0, none⟩ u).setCell ⟨g + 3, 0, none⟩ v).cell? ⟨g + 3, 0, none⟩ = some v) := Lib.hid fun u v =>
    ⟨((Blk.set hc7 0 u).setOther (a := ⟨g + 3, 0, none⟩) hne v).cell 0, ((Blk.setOther hD7 (a := ⟨g + 2, 0, none⟩) (Ne.symm hne) u).set 0 v).cell 0⟩
  clear hu7 hc7 hD7
  cases R with
  | false =>
    go_wp2_with fail
    obtain ⟨k0, k1⟩ := HC7.out (.int .i64 0) (.int .i64 0)
    refine bodyPost_ret (v := .tuple #[.int .i64 0, .int .i64 0, .bool false]) (by simp [results, Try.results51, go_sem, k0, k1]) rfl ?_
    exact ⟨⟨0, 0, rfl⟩, HB7.out _ _⟩
  | true =>
    go_wp2_with fail
    go_big_region
    obtain ⟨k0, k1⟩ := HC7.out (.int .i64 n7) (.int .i64 d7)
    have hb8 := (HB7.out (.int .i64 n7) (.int .i64 d7)).drew
    have HB9 := Lib.hid hb8
    clear hb8
    go_wp2_with fail
    refine bodyPost_ret (v := .tuple #[.int .i64 n7, .int .i64 d7, .bool true]) (by simp [results, Try.results51, go_sem, k0, k1]) rfl ?_
    exact ⟨⟨_, _, rfl⟩, HB9.out⟩

set_option maxRecDepth 100000 in
set_option maxHeartbeats 1000000 in
theorem item_may (x : Rose IL) (w : World) (v : Value) (hv : ISubs w v x.sub) :
    Calls Try.prog 38 #[.agg #[.string (txt x.lab), .bool x.lab.list, v]] w fun e w' => e = .returned (.bool (mayI x)) ∧ Below w.heap.size w w' := by
  have HW := Lib.hid (box_item (T := txt x.lab) (l := x.lab.list) (t := IT) hv)
  obtain ⟨oa, cap, rfl, hcap, hml⟩ := ISubsQ.slice hv
  obtain ⟨g, hg⟩ : ∃ g, w.heap.size = g := ⟨_, rfl⟩
  have CS := Lib.hid (fun (W : World) (h : ISubs W (.slice oa x.sub.length cap) x.sub) => item_scan x W _ h)
  rw [hg] at HW ⊢
  clear hv hcap hml
  generalize mayI x = R at *
  generalize x.sub.length = M at *
  go_enter Try.func38, Try.ntmps38
  go_upto_region 1 with fail
  generalize w.alloc (.cells #[.string (txt x.lab), .bool x.lab.list, .slice oa M cap] IT) = w1 at *
  obtain ⟨hb1, ht1, hsz, c0, c1, c2, _⟩ := HW.out _ rfl
  have HT := Lib.hid ht1
  have HB := Lib.hid hb1
  have HS := Lib.hid hsz
  clear HW ht1 hb1 hsz
  go_wp2_with fail
  refine (CS.out _ HT.out).mono ?_
  rintro e w2 ⟨⟨a, b, rfl⟩, hb2⟩
  have HB2 := Lib.hid (HB.out.trans (hb2.mono (by have := HS.out; omega)))
  clear hb2
  go_wp2_with fail
  go_returns
  exact ⟨rfl, HB2.out⟩
end Go.Proofs.Ytopfpfpefljkkaa
