/- The law's measure of an item: room, size, Great. -/
import Derived.Test.YtopfpfpefljkkaaItemSame
namespace Go.Proofs.Ytopfpfpefljkkaa
open Go.RowKit
set_option linter.unusedVariables false
set_option linter.unusedSimpArgs false

set_option maxRecDepth 100000 in
set_option maxHeartbeats 1000000 in
theorem ilaw_room (x : Rose IL) : ∀ (w : World) (v : Value) (n : Nat), ISubs w v x.sub → 0 < n → n ≤ 10000 →
    Calls Try.prog 41 #[.agg #[.string (txt x.lab), .bool x.lab.list, v], .int .i64 n] w fun e w' => e = .returned (.int .i64 ((n - x.count : Nat) : Int)) ∧ Below w.heap.size w w' := by
  induction x using Rose.ind with
  | h a s ih =>
    intro w v n hv hn0 hn
    simp only [Rose.sub_node, Rose.lab_node, Rose.count] at hv ⊢
    obtain ⟨oa, cap, rfl, hcap, hml⟩ := ISubsQ.slice hv
    obtain ⟨g, hg⟩ : ∃ g, w.heap.size = g := ⟨_, rfl⟩
    have HW := Lib.hid (box_item (T := txt a) (l := a.list) (t := IT) hv)
    have hlm : s.length ≤ 9223372036854775807 := by unfold maxLen at hml; omega
    obtain ⟨M, hM⟩ : ∃ M, s.length = M := ⟨_, rfl⟩
    have HM := Lib.hid hM
    have IH := Lib.hid ih
    obtain ⟨C, hC⟩ : ∃ C, Rose.countL s = C := ⟨_, rfl⟩
    have HC := Lib.hid hC
    rw [hg] at HW ⊢
    rw [hM] at HW hlm ⊢
    rw [hC]
    clear hv hcap hml ih hM hC
    go_enter Try.func41, Try.ntmps41
    go_upto_region 1 with fail
    generalize w.alloc (.cells #[.string (txt a), .bool a.list, .slice oa M cap] IT) = w1 at *
    obtain ⟨hb1, ht1, hsz, c0, c1, c2, _⟩ := HW.out _ rfl
    have H1 := Lib.hid (And.intro hb1 ht1)
    clear HW hb1 ht1 c0 c1
    go_wp2_with fail
    go_loopw [1, 5] (fun nv iv wi => ∃ k l : Nat, iv = .int .i64 k ∧ k ≤ M ∧ nv = .int .i64 l ∧ Hid (l = n - 1 - Rose.countL (s.take k)) ∧ l ≤ 10000 ∧ Hid (Below (g + 1) w1 wi)) (fun _ iv _ => M - (intOf iv).toNat)
    case atStart => exact ⟨0, n - 1, rfl, by omega, by go_num, by simp [Hid, Rose.countL], by omega, Lib.hid (Below.refl _ _)⟩
    case round =>
      obtain ⟨k, l, rfl, hk, rfl, HL, hl, hbe⟩ := hrel
      have hcr : wr.cell? ⟨g, 2, none⟩ = some (.slice oa M cap) := (hbe.out.cell (p := ⟨g, 2, none⟩) (Nat.lt_succ_self g)).trans c2
      have HF : Hid (Below g w wr) := Lib.hid (H1.out.1.trans (hbe.out.mono (by omega)))
      have hend : Hid (k = M ∨ l = 0 → l = n - (1 + C)) := Lib.hid fun h => by
        have h1 := HL.out
        have h2 := Rose.countL_take_le s k
        rw [HC.out] at h2
        rcases h with h | h
        · have htk : s.take k = s := by rw [h, ← HM.out, List.take_length]
          rw [htk, HC.out] at h1; omega
        · omega
      by_cases c : k < M
      · by_cases cl : 0 < l
        · obtain ⟨hc', y, hy⟩ : ∃ h : k < s.length, ∃ y, s[k]? = some y := ⟨by rw [HM.out]; exact c, _, List.getElem?_eq_getElem (by rw [HM.out]; exact c)⟩
          obtain ⟨b, off, u, rfl, hlt, _, y0, y1, y2, hu, hwf⟩ := ISubsQ.at_ (Shape.Subs.below H1.out.2 (hsz ▸ hbe.out)) hy
          have CY := Lib.hid (IH.out y (List.mem_of_getElem? hy) wr u l hu cl hl)
          have HCT : Hid (l - y.count = n - 1 - Rose.countL (s.take (k + 1))) := by
            unfold Hid; rw [Rose.countL_take hy]; have := HL.out; omega
          have hbk : Hid (∀ w2, Below wr.heap.size wr w2 → Below (g + 1) w1 w2) := Lib.hid fun w2 hb2 => hbe.out.trans (hb2.mono (by have := hbe.out.size; omega))
          clear hu hwf
          go_wp2_with fail
          refine (CY.out).mono ?_
          rintro e w2 ⟨rfl, hb2⟩
          go_wp2_with fail
          go_roundw
          case rel => exact ⟨k + 1, l - y.count, by go_num, by omega, rfl, HCT, by omega, Lib.hid (hbk.out _ hb2)⟩
          case measure => simp [intOf]; omega
        · obtain rfl : l = 0 := by omega
          have e := hend.out (.inr rfl)
          have HE := Lib.hid e
          clear e
          go_wp2_with fail
          go_returns
          rw [← HE.out]
          exact ⟨rfl, HF.out⟩
      · obtain rfl : k = M := by omega
        have HE := Lib.hid (hend.out (.inl rfl))
        obtain ⟨mx, hmx⟩ : ∃ mx : Int, (if (l : Int) < 0 then (0 : Int) else l) = mx := ⟨_, rfl⟩
        have HMX : Hid (mx = l) := by unfold Hid; rw [← hmx, if_neg (by omega)]
        go_wp2_with fail
        go_returns
        rw [← HE.out]
        exact ⟨by first | rfl | (simp; omega) | (rw [HMX.out]), HF.out⟩

theorem tszL_append (s t : List (Rose IL)) : tszL (s ++ t) = tszL s + tszL t := by
  induction s with
  | nil => simp [tszL]
  | cons x xs ih => simp [tszL, ih, Nat.add_assoc]
theorem tszL_take {s : List (Rose IL)} {i : Nat} {x : Rose IL} (h : s[i]? = some x) : tszL (s.take (i + 1)) = tszL (s.take i) + tsz x := by
  rw [List.take_add_one, h]
  simp [tszL_append, tszL]
theorem tsz_node (a : IL) (s : List (Rose IL)) : tsz (.node a s) = a.text.length + tszL s := rfl

set_option maxRecDepth 100000 in
set_option maxHeartbeats 1000000 in
theorem ilaw_size (x : Rose IL) : ∀ (w : World) (v : Value), ISubs w v x.sub → x.lab.text.length ≤ maxLen →
    Calls Try.prog 42 #[.agg #[.string (txt x.lab), .bool x.lab.list, v]] w fun e w' => e = .returned (.int .i64 ((min (tsz x) 10000 : Nat) : Int)) ∧ Below w.heap.size w w' := by
  induction x using Rose.ind with
  | h a s ih =>
    intro w v hv hal
    simp only [Rose.sub_node, Rose.lab_node, tsz_node] at hv hal ⊢
    obtain ⟨oa, cap, rfl, hcap, hml⟩ := ISubsQ.slice hv
    obtain ⟨g, hg⟩ : ∃ g, w.heap.size = g := ⟨_, rfl⟩
    have HW := Lib.hid (box_item (T := txt a) (l := a.list) (t := IT) hv)
    have hlm : s.length ≤ 9223372036854775807 := by unfold maxLen at hml; omega
    obtain ⟨M, hM⟩ : ∃ M, s.length = M := ⟨_, rfl⟩
    have HM := Lib.hid hM
    have IH := Lib.hid ih
    have hts := txt_size a
    obtain ⟨m0, hm0⟩ : ∃ m0, min a.text.length 10000 = m0 := ⟨_, rfl⟩
    have hm1 : (if (10000 : Int) < ((txt a).size : Int) then (10000 : Int) else ((txt a).size : Int)) = (m0 : Int) := by rw [hts]; split <;> omega
    have HM0 := Lib.hid hm0
    have hm2 : m0 ≤ 10000 := by omega
    rw [hg] at HW ⊢
    rw [hM] at HW hlm ⊢
    clear hv hcap hml ih hM hts hm0 hal
    go_enter Try.func42, Try.ntmps42
    go_upto_region 1 with fail
    generalize w.alloc (.cells #[.string (txt a), .bool a.list, .slice oa M cap] IT) = w1 at *
    obtain ⟨hb1, ht1, hsz, c0, c1, c2, _⟩ := HW.out _ rfl
    have H1 := Lib.hid (And.intro hb1 ht1)
    clear HW hb1 ht1 c1
    go_wp2_with fail
    clear c0 hm1
    go_loopw [3, 4] (fun nv iv wi => ∃ k l : Nat, iv = .int .i64 k ∧ k ≤ M ∧ nv = .int .i64 l ∧ Hid (l = min (a.text.length + tszL (s.take k)) 10000) ∧ l ≤ 10000 ∧ Hid (Below (g + 1) w1 wi)) (fun _ iv _ => M - (intOf iv).toNat)
    case atStart => exact ⟨0, m0, rfl, by omega, rfl, Lib.hid (by simp [tszL, HM0.out]), hm2, Lib.hid (Below.refl _ _)⟩
    case round =>
      obtain ⟨k, l, rfl, hk, rfl, HL, hl, hbe⟩ := hrel
      have hcr : wr.cell? ⟨g, 2, none⟩ = some (.slice oa M cap) := (hbe.out.cell (p := ⟨g, 2, none⟩) (Nat.lt_succ_self g)).trans c2
      have HF : Hid (Below g w wr) := Lib.hid (H1.out.1.trans (hbe.out.mono (by omega)))
      by_cases c : k < M
      · obtain ⟨hc', y, hy⟩ : ∃ h : k < s.length, ∃ y, s[k]? = some y := ⟨by rw [HM.out]; exact c, _, List.getElem?_eq_getElem (by rw [HM.out]; exact c)⟩
        obtain ⟨b, off, u, rfl, hlt, _, y0, y1, y2, hu, hwf⟩ := ISubsQ.at_ (Shape.Subs.below H1.out.2 (hsz ▸ hbe.out)) hy
        have CY := IH.out y (List.mem_of_getElem? hy) wr u hu hwf
        obtain ⟨yt, hyt⟩ : ∃ yt, min (tsz y) 10000 = yt := ⟨_, rfl⟩
        rw [hyt] at CY
        obtain ⟨l2, hl2⟩ : ∃ l2, min (l + yt) 10000 = l2 := ⟨_, rfl⟩
        have hl3 : (if (10000 : Int) < (l : Int) + (yt : Int) then (10000 : Int) else (l : Int) + (yt : Int)) = (l2 : Int) := by split <;> omega
        have hyt1 : yt ≤ 10000 := by omega
        have HL2 : Hid (l2 = min (a.text.length + tszL (s.take (k + 1))) 10000) := by
          unfold Hid
          rw [tszL_take hy]
          have := HL.out
          omega
        have hl4 : l2 ≤ 10000 := by omega
        have CY := Lib.hid CY
        have hbk : Hid (∀ w2, Below wr.heap.size wr w2 → Below (g + 1) w1 w2) := Lib.hid fun w2 hb2 => hbe.out.trans (hb2.mono (by have := hbe.out.size; omega))
        clear hu hwf hyt hl2
        go_wp2_with fail
        refine (CY.out).mono ?_
        rintro e w2 ⟨rfl, hb2⟩
        go_wp2_with fail
        go_roundw
        case rel => exact ⟨k + 1, l2, by go_num, by omega, rfl, HL2, hl4, Lib.hid (hbk.out _ hb2)⟩
        case measure => simp [intOf]; omega
      · obtain rfl : k = M := by omega
        have HE : Hid (l = min (a.text.length + tszL s) 10000) := by
          unfold Hid
          have h1 := HL.out
          have htk : s.take k = s := by rw [← HM.out, List.take_length]
          rw [htk] at h1; exact h1
        go_wp2_with fail
        go_returns
        exact ⟨by rw [HE.out]; rfl, HF.out⟩

def greatI (x : Rose IL) : Bool := decide (1200 ≤ x.count) || decide (6000 < tsz x)
set_option maxRecDepth 100000 in
set_option maxHeartbeats 1000000 in
theorem ilaw_great (x : Rose IL) (w : World) (v : Value) (hv : ISubs w v x.sub) (hx : x.lab.text.length ≤ maxLen) :
    Calls Try.prog 17 #[.agg #[.string (txt x.lab), .bool x.lab.list, v]] w fun e w' => e = .returned (.bool (greatI x)) ∧ Below w.heap.size w w' := by
  have HW := Lib.hid (box_item (T := txt x.lab) (l := x.lab.list) (t := IT) hv)
  have HV := Lib.hid hv
  obtain ⟨oa, cap, rfl, hcap, hml⟩ := ISubsQ.slice hv
  obtain ⟨g, hg⟩ : ∃ g, w.heap.size = g := ⟨_, rfl⟩
  have CR := Lib.hid (fun (W : World) (h : ISubs W (.slice oa x.sub.length cap) x.sub) => ilaw_room x W _ 1200 h (by decide) (by decide))
  have CS := Lib.hid (fun (W : World) (h : ISubs W (.slice oa x.sub.length cap) x.sub) => ilaw_size x W _ h hx)
  obtain ⟨R, hR⟩ : ∃ R, 1200 - x.count = R := ⟨_, rfl⟩
  obtain ⟨Z, hZ⟩ : ∃ Z, min (tsz x) 10000 = Z := ⟨_, rfl⟩
  rw [hR] at CR
  rw [hZ] at CS
  have HG : Hid (greatI x = (decide (R = 0) || decide (6000 < Z))) := Lib.hid (by
    unfold greatI
    congr 1 <;> (rw [decide_eq_decide]; omega))
  rw [hg] at HW ⊢
  generalize greatI x = G at *
  clear hv hcap hml hR hZ hx
  generalize x.sub.length = M at *
  go_enter Try.func17, Try.ntmps17
  go_upto_region 1 with fail
  generalize w.alloc (.cells #[.string (txt x.lab), .bool x.lab.list, .slice oa M cap] IT) = w1 at *
  obtain ⟨hb1, ht1, hsz, c0, c1, c2, _⟩ := HW.out _ rfl
  have HT := Lib.hid ht1
  have HB := Lib.hid hb1
  have HS := Lib.hid hsz
  have hlt : g < w1.heap.size := by omega
  clear HW ht1 hb1 hsz
  by_cases hR0 : R = 0
  · have e0 : ((R : Int) == 0) = true := by simp [hR0]
    have HE : Hid (G = true) := Lib.hid (by rw [HG.out]; simp [hR0])
    clear hR0
    go_wp2_with fail
    refine (CR.out _ HT.out).mono ?_
    rintro e w2 ⟨rfl, hb2⟩
    have HB2 := Lib.hid (HB.out.trans (hb2.mono (by have := HS.out; omega)))
    clear hb2
    go_wp2_with fail
    go_returns
    exact ⟨by rw [HE.out]; rfl, HB2.out⟩
  · have e0 : ((R : Int) == 0) = false := by rw [beq_eq_false_iff_ne]; omega
    have HE : Hid (G = decide (6000 < Z)) := Lib.hid (by rw [HG.out]; simp [hR0])
    clear hR0
    go_wp2_with fail
    refine (CR.out _ HT.out).mono ?_
    rintro e w2 ⟨rfl, hb2⟩
    have HB2 := Lib.hid (HB.out.trans (hb2.mono (by have := HS.out; omega)))
    have c0' := (hb2.cell (p := ⟨g, 0, none⟩) hlt).trans c0
    have c1' := (hb2.cell (p := ⟨g, 1, none⟩) hlt).trans c1
    have c2' := (hb2.cell (p := ⟨g, 2, none⟩) hlt).trans c2
    have HT2 := Lib.hid (Shape.Subs.below HT.out hb2)
    have hg2 : g ≤ w2.heap.size := by have := hb2.size; omega
    clear hb2
    have dz : (Z < 6001 ∨ 6000 < Z) := by omega
    by_cases hz : 6000 < Z
    all_goals
      go_wp2_with fail
      refine (CS.out _ HT2.out).mono ?_
      rintro e w3 ⟨rfl, hb3⟩
      have HB3 := Lib.hid (HB2.out.trans (hb3.mono hg2))
      clear hb3
      go_wp2_with fail
      go_returns
      refine ⟨?_, HB3.out⟩
      rw [HE.out]
      have hzz : decide ((6000 : Int) < (Z : Int)) = decide (6000 < Z) := by rw [decide_eq_decide]; omega
      first | rfl | (rw [← hzz]; done) | (simp [hz]; omega)
end Go.Proofs.Ytopfpfpefljkkaa
