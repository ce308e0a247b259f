/- The document's functions of items: Count, Deep, right, May, Same. -/
import Derived.Test.YtopfpfpefljkkaaItemAt
namespace Go.Proofs.Ytopfpfpefljkkaa
open Go.RowKit
set_option linter.unusedVariables false
set_option linter.unusedSimpArgs false

theorem str_nil (T : ByteArray) : (T.toList == ([] : List UInt8)) = decide (T.size = 0) := by
  rw [Lib.toList_data]
  by_cases h : T.size = 0
  · rw [decide_eq_true h]
    have : T.data.toList = [] := List.length_eq_zero_iff.1 (by simpa using h)
    rw [this]; rfl
  · rw [decide_eq_false h, beq_eq_false_iff_ne]
    intro e
    apply h
    have := congrArg List.length e
    simpa using this
theorem emp_size (a : IL) : decide ((txt a).size = 0) = a.text.isEmpty := by
  rw [txt_size]
  cases a.text <;> simp

set_option maxRecDepth 100000 in
set_option maxHeartbeats 1000000 in
theorem idoc_count (x : Rose IL) : ∀ (w : World) (v : Value), ISubs w v x.sub → x.count ≤ 100000 →
    Calls Try.prog 21 #[.agg #[.string (txt x.lab), .bool x.lab.list, v]] w fun e w' => e = .returned (.int .i64 (x.count : Nat)) ∧ Below w.heap.size w w' := by
  induction x using Rose.ind with
  | h a s ih =>
    intro w v hv hc
    simp only [Rose.sub_node, Rose.lab_node, Rose.count] at hv hc ⊢
    obtain ⟨oa, cap, rfl, hcap, hml⟩ := ISubsQ.slice hv
    obtain ⟨g, hg⟩ : ∃ g, w.heap.size = g := ⟨_, rfl⟩
    have HW := Lib.hid (box_item (T := txt a) (l := a.list) (t := IT) hv)
    have hls := Rose.length_le_countL s
    obtain ⟨M, hM⟩ : ∃ M, s.length = M := ⟨_, rfl⟩
    have HM := Lib.hid hM
    have IH := Lib.hid ih
    obtain ⟨C, hC⟩ : ∃ C, Rose.countL s = C := ⟨_, rfl⟩
    have HC := Lib.hid hC
    rw [hg] at HW ⊢
    rw [hM] at HW hls ⊢
    rw [hC] at hc hls ⊢
    clear hv hcap hml ih hM hC
    go_enter Try.func21, Try.ntmps21
    go_upto_region 1 with fail
    generalize w.alloc (.cells #[.string (txt a), .bool a.list, .slice oa M cap] IT) = w1 at *
    obtain ⟨hb1, ht1, hsz, c0, c1, c2, _⟩ := HW.out _ rfl
    have H1 := Lib.hid (And.intro hb1 ht1)
    clear HW hb1 ht1 c0 c1
    go_wp2_with fail
    go_loopw [3, 4] (fun nv iv wi => ∃ k : Nat, iv = .int .i64 k ∧ k ≤ M ∧ nv = .int .i64 ((1 + Rose.countL (s.take k) : Nat) : Int) ∧ Hid (Below (g + 1) w1 wi)) (fun _ iv _ => M - (intOf iv).toNat)
    case atStart => exact ⟨0, rfl, by omega, by simp [Rose.countL], Lib.hid (Below.refl _ _)⟩
    case round =>
      obtain ⟨k, rfl, hk, rfl, hbe⟩ := hrel
      have hcr : wr.cell? ⟨g, 2, none⟩ = some (.slice oa M cap) := (hbe.out.cell (p := ⟨g, 2, none⟩) (Nat.lt_succ_self g)).trans c2
      by_cases c : k < M
      · obtain ⟨hc', y, hy⟩ : ∃ h : k < s.length, ∃ y, s[k]? = some y := ⟨by rw [HM.out]; exact c, _, List.getElem?_eq_getElem (by rw [HM.out]; exact c)⟩
        obtain ⟨b, off, u, rfl, hlt, _, y0, y1, y2, hu, hwf⟩ := ISubsQ.at_ (Shape.Subs.below H1.out.2 (hsz ▸ hbe.out)) hy
        have CY := Lib.hid (IH.out y (List.mem_of_getElem? hy) wr u hu)
        have hct : Rose.countL (s.take (k + 1)) = Rose.countL (s.take k) + y.count := Rose.countL_take hy
        have hle := Rose.countL_take_le s (k + 1)
        rw [HC.out] at hle
        have HCT := Lib.hid hct
        rw [hct] at hle
        generalize Rose.countL (s.take k) = ck at *
        clear hu hwf hct
        go_wp2_with fail
        refine (CY.out (by omega)).mono ?_
        rintro e w2 ⟨rfl, hb2⟩
        go_wp2_with fail
        go_roundw
        case rel => exact ⟨k + 1, by go_num, by omega, by rw [HCT.out]; go_num, Lib.hid (hbe.out.trans (hb2.mono (by have := hbe.out.size; omega)))⟩
        case measure => simp [intOf]; omega
      · obtain rfl : k = M := by omega
        have htk : s.take k = s := by rw [← HM.out, List.take_length]
        rw [htk, HC.out]
        have HF : Hid (Below g w wr) := Lib.hid (H1.out.1.trans (hbe.out.mono (by omega)))
        go_wp2_with fail
        go_returns
        exact ⟨rfl, HF.out⟩
set_option maxRecDepth 100000 in
set_option maxHeartbeats 1000000 in
theorem idoc_deep (x : Rose IL) : ∀ (w : World) (v : Value), ISubs w v x.sub → x.count ≤ 100000 →
    Calls Try.prog 20 #[.agg #[.string (txt x.lab), .bool x.lab.list, v]] w fun e w' => e = .returned (.int .i64 (x.deep : Nat)) ∧ Below w.heap.size w w' := by
  induction x using Rose.ind with
  | h a s ih =>
    intro w v hv hc
    simp only [Rose.sub_node, Rose.lab_node, Rose.count, Rose.deep] at hv hc ⊢
    obtain ⟨oa, cap, rfl, hcap, hml⟩ := ISubsQ.slice hv
    obtain ⟨g, hg⟩ : ∃ g, w.heap.size = g := ⟨_, rfl⟩
    have HW := Lib.hid (box_item (T := txt a) (l := a.list) (t := IT) hv)
    have hls := Rose.length_le_countL s
    obtain ⟨M, hM⟩ : ∃ M, s.length = M := ⟨_, rfl⟩
    have HM := Lib.hid hM
    have IH := Lib.hid ih
    obtain ⟨C, hC⟩ : ∃ C, Rose.countL s = C := ⟨_, rfl⟩
    have HC := Lib.hid hC
    obtain ⟨D, hD⟩ : ∃ D, Rose.deepL s = D := ⟨_, rfl⟩
    have HD := Lib.hid hD
    have hDC := (IRose.deepL_le s).1
    rw [hg] at HW ⊢
    rw [hM] at HW hls ⊢
    rw [hC] at hc hls hDC
    rw [hD] at hDC ⊢
    clear hv hcap hml ih hM hC hD
    go_enter Try.func20, Try.ntmps20
    go_upto_region 1 with fail
    generalize w.alloc (.cells #[.string (txt a), .bool a.list, .slice oa M cap] IT) = w1 at *
    obtain ⟨hb1, ht1, hsz, c0, c1, c2, _⟩ := HW.out _ rfl
    have H1 := Lib.hid (And.intro hb1 ht1)
    clear HW hb1 ht1 c0 c1
    go_wp2_with fail
    go_loopw [3, 4, 5] (fun nv iv dv wi => ∃ k : Nat, iv = .int .i64 k ∧ k ≤ M ∧ nv = .int .i64 (Rose.deepL (s.take k) : Nat) ∧ Hid (Below (g + 1) w1 wi)) (fun _ iv _ _ => M - (intOf iv).toNat)
    case atStart => exact ⟨0, rfl, by omega, by simp [Rose.deepL], Lib.hid (Below.refl _ _)⟩
    case round =>
      obtain ⟨k, rfl, hk, rfl, hbe⟩ := hrel
      have hcr : wr.cell? ⟨g, 2, none⟩ = some (.slice oa M cap) := (hbe.out.cell (p := ⟨g, 2, none⟩) (Nat.lt_succ_self g)).trans c2
      by_cases c : k < M
      · obtain ⟨hc', y, hy⟩ : ∃ h : k < s.length, ∃ y, s[k]? = some y := ⟨by rw [HM.out]; exact c, _, List.getElem?_eq_getElem (by rw [HM.out]; exact c)⟩
        obtain ⟨b, off, u, rfl, hlt, _, y0, y1, y2, hu, hwf⟩ := ISubsQ.at_ (Shape.Subs.below H1.out.2 (hsz ▸ hbe.out)) hy
        have hle := Rose.countL_mem (List.mem_of_getElem? hy)
        rw [HC.out] at hle
        have CY := Lib.hid (IH.out y (List.mem_of_getElem? hy) wr u hu (by omega))
        have hct : Rose.deepL (s.take (k + 1)) = max (Rose.deepL (s.take k)) y.deep := Rose.deepL_take hy
        have hl1 := IRose.deepL_take_le s (k + 1)
        rw [HD.out, hct] at hl1
        have HCT := Lib.hid hct
        generalize Rose.deepL (s.take k) = ck at *
        generalize y.deep = yd at *
        have hbk : Hid (∀ w2, Below wr.heap.size wr w2 → Below (g + 1) w1 w2) := Lib.hid fun w2 hb2 => hbe.out.trans (hb2.mono (by have := hbe.out.size; omega))
        clear hu hwf hct
        by_cases cd : ck < yd
        · have d1 : decide ((ck : Int) < yd) = true := by simp; omega
          go_wp2_with fail
          refine (CY.out).mono ?_
          rintro e w2 ⟨rfl, hb2⟩
          go_wp2_with fail
          go_roundw
          case rel => exact ⟨k + 1, by go_num, by omega, by rw [HCT.out, Nat.max_eq_right (by omega)], Lib.hid (hbk.out _ hb2)⟩
          case measure => simp [intOf]; omega
        · have d1 : decide ((ck : Int) < yd) = false := by simp; omega
          go_wp2_with fail
          refine (CY.out).mono ?_
          rintro e w2 ⟨rfl, hb2⟩
          go_wp2_with fail
          go_roundw
          case rel => exact ⟨k + 1, by go_num, by omega, by rw [HCT.out, Nat.max_eq_left (by omega)], Lib.hid (hbk.out _ hb2)⟩
          case measure => simp [intOf]; omega
      · obtain rfl : k = M := by omega
        have htk : s.take k = s := by rw [← HM.out, List.take_length]
        rw [htk, HD.out]
        have HF : Hid (Below g w wr) := Lib.hid (H1.out.1.trans (hbe.out.mono (by omega)))
        go_wp2_with fail
        go_returns
        exact ⟨rfl, HF.out⟩


theorem iright_node (a : IL) (s : List (Rose IL)) : (Rose.node a s).all iright = (irightK a s.length && Rose.allL iright s) := rfl
set_option maxRecDepth 100000 in
set_option maxHeartbeats 2000000 in
theorem idoc_right (x : Rose IL) : ∀ (w : World) (v : Value), ISubs w v x.sub →
    Calls Try.prog 43 #[.agg #[.string (txt x.lab), .bool x.lab.list, v]] w fun e w' => e = .returned (.bool (x.all iright)) ∧ Below w.heap.size w w' := by
  induction x using Rose.ind with
  | h a s ih =>
    intro w v hv
    simp only [Rose.sub_node, Rose.lab_node] at hv ⊢
    have HP := Lib.hid (iright_node a s)
    obtain ⟨oa, cap, rfl, hcap, hml⟩ := ISubsQ.slice hv
    obtain ⟨g, hg⟩ : ∃ g, w.heap.size = g := ⟨_, rfl⟩
    have HW := Lib.hid (box_item (T := txt a) (l := a.list) (t := IT) hv)
    have hlm : s.length ≤ 9223372036854775807 := by unfold maxLen at hml; omega
    obtain ⟨M, hM⟩ : ∃ M, s.length = M := ⟨_, rfl⟩
    have HM := Lib.hid hM
    have IH := Lib.hid ih
    obtain ⟨R, hR⟩ : ∃ R, Rose.allL iright s = R := ⟨_, rfl⟩
    have HR := Lib.hid hR
    have HK : Hid (irightK a M = if a.list then decide ((txt a).size = 0) else decide (M = 0)) := Lib.hid (by rw [emp_size]; rfl)
    have HS := Lib.hid (str_nil (txt a))
    rw [hg] at HW ⊢
    rw [hM] at HW hlm HP ⊢
    rw [hR] at HP
    generalize (Rose.node a s).all iright = Z at *
    generalize irightK a M = K at *
    clear hv hcap hml ih hM hR
    go_enter Try.func43, Try.ntmps43
    go_upto_region 1 with fail
    generalize w.alloc (.cells #[.string (txt a), .bool a.list, .slice oa M cap] IT) = w1 at *
    obtain ⟨hb1, ht1, hsz, c0, c1, c2, _⟩ := HW.out _ rfl
    have H1 := Lib.hid (And.intro hb1 ht1)
    clear HW hb1 ht1
    generalize txt a = T at *
    generalize a.list = L at *
    cases L with
    | true =>
      by_cases hT : T.size = 0
      · have HZ : Hid (Z = R) := Lib.hid (by rw [HP.out, HK.out]; simp [hT])
        have q0 : (T.toList == ([] : List UInt8)) = true := by rw [HS.out]; simp [hT]
        clear hT HK HS HP
        go_wp2_with fail
        clear c0 c1 q0
        go_loopw [3] (fun iv wi => ∃ k : Nat, iv = .int .i64 k ∧ k ≤ M ∧ Hid (Rose.allL iright (s.take k) = true) ∧ Hid (Below (g + 1) w1 wi)) (fun iv _ => M - (intOf iv).toNat)
        case atStart => exact ⟨0, rfl, by omega, by simp [Hid, Rose.allL], Lib.hid (Below.refl _ _)⟩
        case round =>
          obtain ⟨k, rfl, hk, HA, hbe⟩ := hrel
          have hcr : wr.cell? ⟨g, 2, none⟩ = some (.slice oa M cap) := (hbe.out.cell (p := ⟨g, 2, none⟩) (Nat.lt_succ_self g)).trans c2
          have HF : Hid (Below g w wr) := Lib.hid (H1.out.1.trans (hbe.out.mono (by omega)))
          have hgr : g + 1 ≤ wr.heap.size := by have := hbe.out.size; omega
          by_cases c : k < M
          · obtain ⟨y, hy⟩ : ∃ y, s[k]? = some y := ⟨_, List.getElem?_eq_getElem (by rw [HM.out]; exact c)⟩
            obtain ⟨b, off, u, rfl, hlt, _, y0, y1, y2, hu, hwf⟩ := ISubsQ.at_ (Shape.Subs.below H1.out.2 (hsz ▸ hbe.out)) hy
            have HT : Hid (Rose.allL iright (s.take (k + 1)) = y.all iright) := Lib.hid (by rw [Rose.allL_take hy, HA.out]; rfl)
            have HFa : Hid (y.all iright = false → R = false) := Lib.hid fun h => by rw [← HR.out]; exact Rose.allL_false hy h
            have CY := Lib.hid (IH.out y (List.mem_of_getElem? hy) wr u hu)
            clear hu hwf
            generalize y.all iright = q at *
            cases q with
            | true =>
              go_wp2_with fail
              refine (CY.out).mono ?_
              rintro e w5 ⟨rfl, hb5⟩
              have HB5 := Lib.hid (hbe.out.trans (hb5.mono hgr))
              clear hb5
              go_wp2_with fail
              go_roundw
              case rel => exact ⟨k + 1, by go_num, by omega, HT, HB5⟩
              case measure => simp [intOf]; omega
            | false =>
              have HE : Hid (Z = false) := Lib.hid (by rw [HZ.out, HFa.out rfl])
              clear HFa
              go_wp2_with fail
              refine (CY.out).mono ?_
              rintro e w5 ⟨rfl, hb5⟩
              have HB5 := Lib.hid (HF.out.trans (hb5.mono (by omega)))
              clear hb5
              go_wp2_with fail
              go_returns
              exact ⟨by rw [HE.out]; rfl, HB5.out⟩
          · obtain rfl : k = M := by omega
            have HE : Hid (Z = true) := by
              unfold Hid
              have h1 : s.take k = s := by rw [← HM.out, List.take_length]
              have h3 := HA.out
              rw [h1] at h3
              rw [HZ.out, ← HR.out, h3]
            go_wp2_with fail
            go_returns
            exact ⟨by rw [HE.out]; rfl, HF.out⟩
      · have HZ : Hid (Z = false) := Lib.hid (by rw [HP.out, HK.out]; simp [hT])
        have q0 : (T.toList == ([] : List UInt8)) = false := by rw [HS.out]; simp [hT]
        clear hT HK HS HP
        go_wp2_with fail
        go_returns
        exact ⟨by rw [HZ.out]; rfl, H1.out.1⟩
    | false =>
      by_cases hT : M = 0
      · have HZ : Hid (Z = R) := Lib.hid (by rw [HP.out, HK.out]; simp [hT])
        have HR1 : Hid (R = true) := Lib.hid (by
          have : s = [] := List.length_eq_zero_iff.1 (HM.out.trans hT)
          rw [← HR.out, this]; rfl)
        have d0 : decide (0 < M) = false := by simp [hT]
        subst hT
        clear HK HS HP IH
        go_wp2_with fail
        clear c0 c1 d0
        go_loopw [3] (fun iv wi => ∃ k : Nat, iv = .int .i64 k ∧ k ≤ 0 ∧ Hid (Rose.allL iright (s.take k) = true) ∧ Hid (Below (g + 1) w1 wi)) (fun iv _ => 0 - (intOf iv).toNat)
        case atStart => exact ⟨0, rfl, by omega, by simp [Hid, Rose.allL], Lib.hid (Below.refl _ _)⟩
        case round =>
          obtain ⟨k, rfl, hk, HA, hbe⟩ := hrel
          have hcr : wr.cell? ⟨g, 2, none⟩ = some (.slice oa 0 cap) := (hbe.out.cell (p := ⟨g, 2, none⟩) (Nat.lt_succ_self g)).trans c2
          have HF : Hid (Below g w wr) := Lib.hid (H1.out.1.trans (hbe.out.mono (by omega)))
          have hgr : g + 1 ≤ wr.heap.size := by have := hbe.out.size; omega
          obtain rfl : k = 0 := by omega
          have HE : Hid (Z = true) := Lib.hid (by rw [HZ.out, HR1.out])
          go_wp2_with fail
          go_returns
          exact ⟨by rw [HE.out]; rfl, HF.out⟩
      · have HZ : Hid (Z = false) := Lib.hid (by rw [HP.out, HK.out]; simp [hT])
        have d0 : decide (0 < M) = true := by simp; omega
        clear HK HS HP
        go_wp2_with fail
        go_returns
        exact ⟨by rw [HZ.out]; rfl, H1.out.1⟩
end Go.Proofs.Ytopfpfpefljkkaa
