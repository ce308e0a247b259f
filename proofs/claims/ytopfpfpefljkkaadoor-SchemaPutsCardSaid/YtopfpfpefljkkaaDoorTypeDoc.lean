/- The document's functions of types: Count, Deep, right, May, Same; the law's room. -/
import Derived.Test.YtopfpfpefljkkaaDoorTypeAt
namespace Go.Proofs.YtopfpfpefljkkaaDoor
open Go.RowKit
set_option linter.unusedVariables false

/-- What lies in the new block of a type that is handed over. -/
theorem box_type {w : World} {t : TypeId} {k z l : Int} {v : Value} {s : List (Rose TL)} (h : TSubs w v s) :
    ∀ W, w.alloc (.cells #[.int .i64 k, .int .i64 z, v, .int .i64 l] t) = W → Below w.heap.size w W ∧ TSubs W v s ∧ W.heap.size = w.heap.size + 1 ∧
      W.cell? ⟨w.heap.size, 0, none⟩ = some (.int .i64 k) ∧ W.cell? ⟨w.heap.size, 1, none⟩ = some (.int .i64 z) ∧ W.cell? ⟨w.heap.size, 2, none⟩ = some v ∧ W.cell? ⟨w.heap.size, 3, none⟩ = some (.int .i64 l) := by
  rintro W rfl
  have hal := (Below.refl w.heap.size w).alloc (Nat.le_refl _) (.cells #[.int .i64 k, .int .i64 z, v, .int .i64 l] t)
  have hB := Blk.new w #[.int .i64 k, .int .i64 z, v, .int .i64 l] t
  exact ⟨hal, h.below hal, by simp, hB.cell 0, hB.cell 1, hB.cell 2, hB.cell 3⟩

set_option maxRecDepth 100000 in
set_option maxHeartbeats 1000000 in
theorem doc_count (x : Rose TL) : ∀ (w : World) (v : Value), TSubs w v x.sub → x.count ≤ 1000 →
    Calls Tryd.prog 20 #[.agg #[.int .i64 x.lab.kind, .int .i64 x.lab.size, v, .int .i64 x.lab.tail]] w fun e w' => e = .returned (.int .i64 (x.count : Nat)) ∧ Below w.heap.size w w' := by
  induction x using Rose.ind with
  | h a s ih =>
    intro w v hv hc
    simp only [Rose.sub_node, Rose.lab_node, Rose.count] at hv hc ⊢
    obtain ⟨oa, cap, rfl, hcap, hml⟩ := TSubs.slice hv
    obtain ⟨g, hg⟩ : ∃ g, w.heap.size = g := ⟨_, rfl⟩
    have HW := Lib.hid (box_type (k := a.kind) (z := a.size) (l := a.tail) (t := 24) hv)
    have hls := Rose.length_le_countL s
    obtain ⟨M, hM⟩ : ∃ M, s.length = M := ⟨_, rfl⟩
    have HM := Lib.hid hM
    have IH := Lib.hid ih
    obtain ⟨C, hC⟩ : ∃ C, Rose.countL s = C := ⟨_, rfl⟩
    have HC := Lib.hid hC
    rw [hg] at HW ⊢
    rw [hM] at HW hls ⊢
    rw [hC] at hc hls ⊢
    clear hv hcap hml ih hM hC
    go_enter Tryd.func20, Tryd.ntmps20
    go_upto_region 1 with fail
    generalize w.alloc (.cells #[.int .i64 a.kind, .int .i64 a.size, .slice oa M cap, .int .i64 a.tail] 24) = w1 at *
    obtain ⟨hb1, ht1, hsz, c0, c1, c2, c3⟩ := HW.out _ rfl
    have H1 := Lib.hid (And.intro hb1 ht1)
    clear HW hb1 ht1 c0 c1 c3
    go_wp2_with fail
    go_loopw [3, 4] (fun nv iv wi => ∃ k : Nat, iv = .int .i64 k ∧ k ≤ M ∧ nv = .int .i64 ((1 + Rose.countL (s.take k) : Nat) : Int) ∧ Hid (Below (g + 1) w1 wi)) (fun _ iv _ => M - (intOf iv).toNat)
    case atStart => exact ⟨0, rfl, by omega, by simp [Rose.countL], Lib.hid (Below.refl _ _)⟩
    case round =>
      obtain ⟨k, rfl, hk, rfl, hbe⟩ := hrel
      have hcr : wr.cell? ⟨g, 2, none⟩ = some (.slice oa M cap) := (hbe.out.cell (p := ⟨g, 2, none⟩) (Nat.lt_succ_self g)).trans c2
      by_cases c : k < M
      · obtain ⟨hc', y, hy⟩ : ∃ h : k < s.length, ∃ y, s[k]? = some y := ⟨by rw [HM.out]; exact c, _, List.getElem?_eq_getElem (by rw [HM.out]; exact c)⟩
        obtain ⟨b, off, u, rfl, hlt, y0, y1, y2, y3, hu, hwf⟩ := TSubs.at_ (Shape.Subs.below H1.out.2 (hsz ▸ hbe.out)) hy
        have CY := Lib.hid (IH.out y (List.mem_of_getElem? hy) wr u hu)
        have hct : Rose.countL (s.take (k + 1)) = Rose.countL (s.take k) + y.count := Rose.countL_take hy
        have hle := Rose.countL_take_le s (k + 1)
        rw [HC.out] at hle
        have HCT := Lib.hid hct
        rw [hct] at hle
        generalize Rose.countL (s.take k) = ck at *
        clear hu hwf hct
        go_wp2_with fail
        refine (CY.out (by omega)).mono ?_
        rintro e w2 ⟨rfl, hb2⟩
        go_wp2_with fail
        go_roundw
        case rel => exact ⟨k + 1, by go_num, by omega, by rw [HCT.out]; go_num, Lib.hid (hbe.out.trans (hb2.mono (by have := hbe.out.size; omega)))⟩
        case measure => simp [intOf]; omega
      · obtain rfl : k = M := by omega
        have htk : s.take k = s := by rw [← HM.out, List.take_length]
        rw [htk, HC.out]
        have HF : Hid (Below g w wr) := Lib.hid (H1.out.1.trans (hbe.out.mono (by omega)))
        go_wp2_with fail
        go_returns
        exact ⟨rfl, HF.out⟩
theorem Rose.deep_le_count_aux {α : Type} : ∀ (x : Rose α), x.deep ≤ x.count := by
  intro x
  induction x using Rose.ind with
  | h a s ih =>
    simp only [Rose.deep, Rose.count]
    have : ∀ t : List (Rose α), (∀ x, x ∈ t → x.deep ≤ x.count) → Rose.deepL t ≤ Rose.countL t := by
      intro t
      induction t with
      | nil => intro _; simp [Rose.deepL]
      | cons y ys ih2 =>
        intro h
        have h1 := h y (List.mem_cons_self ..)
        have h2 := ih2 fun z hz => h z (List.mem_cons_of_mem _ hz)
        simp only [Rose.deepL, Rose.countL]; omega
    have := this s ih
    omega
theorem Rose.deepL_le {α : Type} (s : List (Rose α)) : Rose.deepL s ≤ Rose.countL s := by
  have := Rose.deep_le_count_aux (Rose.node (α := Unit) () [])
  induction s with
  | nil => simp [Rose.deepL]
  | cons y ys ih =>
    have := Rose.deep_le_count_aux y
    simp only [Rose.deepL, Rose.countL]; omega
theorem Rose.deepL_take_le {α : Type} (s : List (Rose α)) (i : Nat) : Rose.deepL (s.take i) ≤ Rose.deepL s := by
  conv => rhs; rw [← List.take_append_drop i s, Rose.deepL_append]
  exact Nat.le_max_left _ _

set_option maxRecDepth 100000 in
set_option maxHeartbeats 1000000 in
theorem doc_deep (x : Rose TL) : ∀ (w : World) (v : Value), TSubs w v x.sub → x.count ≤ 1000 →
    Calls Tryd.prog 21 #[.agg #[.int .i64 x.lab.kind, .int .i64 x.lab.size, v, .int .i64 x.lab.tail]] w fun e w' => e = .returned (.int .i64 (x.deep : Nat)) ∧ Below w.heap.size w w' := by
  induction x using Rose.ind with
  | h a s ih =>
    intro w v hv hc
    simp only [Rose.sub_node, Rose.lab_node, Rose.count, Rose.deep] at hv hc ⊢
    obtain ⟨oa, cap, rfl, hcap, hml⟩ := TSubs.slice hv
    obtain ⟨g, hg⟩ : ∃ g, w.heap.size = g := ⟨_, rfl⟩
    have HW := Lib.hid (box_type (k := a.kind) (z := a.size) (l := a.tail) (t := 24) hv)
    have hls := Rose.length_le_countL s
    obtain ⟨M, hM⟩ : ∃ M, s.length = M := ⟨_, rfl⟩
    have HM := Lib.hid hM
    have IH := Lib.hid ih
    obtain ⟨C, hC⟩ : ∃ C, Rose.countL s = C := ⟨_, rfl⟩
    have HC := Lib.hid hC
    obtain ⟨D, hD⟩ : ∃ D, Rose.deepL s = D := ⟨_, rfl⟩
    have HD := Lib.hid hD
    have hDC := Rose.deepL_le s
    rw [hg] at HW ⊢
    rw [hM] at HW hls ⊢
    rw [hC] at hc hls hDC
    rw [hD] at hDC ⊢
    clear hv hcap hml ih hM hC hD
    go_enter Tryd.func21, Tryd.ntmps21
    go_upto_region 1 with fail
    generalize w.alloc (.cells #[.int .i64 a.kind, .int .i64 a.size, .slice oa M cap, .int .i64 a.tail] 24) = w1 at *
    obtain ⟨hb1, ht1, hsz, c0, c1, c2, c3⟩ := HW.out _ rfl
    have H1 := Lib.hid (And.intro hb1 ht1)
    clear HW hb1 ht1 c0 c1 c3
    go_wp2_with fail
    go_loopw [3, 4, 5] (fun nv iv dv wi => ∃ k : Nat, iv = .int .i64 k ∧ k ≤ M ∧ nv = .int .i64 (Rose.deepL (s.take k) : Nat) ∧ Hid (Below (g + 1) w1 wi)) (fun _ iv _ _ => M - (intOf iv).toNat)
    case atStart => exact ⟨0, rfl, by omega, by simp [Rose.deepL], Lib.hid (Below.refl _ _)⟩
    case round =>
      obtain ⟨k, rfl, hk, rfl, hbe⟩ := hrel
      have hcr : wr.cell? ⟨g, 2, none⟩ = some (.slice oa M cap) := (hbe.out.cell (p := ⟨g, 2, none⟩) (Nat.lt_succ_self g)).trans c2
      by_cases c : k < M
      · obtain ⟨hc', y, hy⟩ : ∃ h : k < s.length, ∃ y, s[k]? = some y := ⟨by rw [HM.out]; exact c, _, List.getElem?_eq_getElem (by rw [HM.out]; exact c)⟩
        obtain ⟨b, off, u, rfl, hlt, y0, y1, y2, y3, hu, hwf⟩ := TSubs.at_ (Shape.Subs.below H1.out.2 (hsz ▸ hbe.out)) hy
        have hle := Rose.countL_mem (List.mem_of_getElem? hy)
        rw [HC.out] at hle
        have CY := Lib.hid (IH.out y (List.mem_of_getElem? hy) wr u hu (by omega))
        have hct : Rose.deepL (s.take (k + 1)) = max (Rose.deepL (s.take k)) y.deep := Rose.deepL_take hy
        have hl1 := Rose.deepL_take_le s (k + 1)
        rw [HD.out, hct] at hl1
        have HCT := Lib.hid hct
        generalize Rose.deepL (s.take k) = ck at *
        generalize y.deep = yd at *
        have hbk : Hid (∀ w2, Below wr.heap.size wr w2 → Below (g + 1) w1 w2) := Lib.hid fun w2 hb2 => hbe.out.trans (hb2.mono (by have := hbe.out.size; omega))
        clear hu hwf hct
        by_cases cd : ck < yd
        · have d1 : decide ((ck : Int) < yd) = true := by simp; omega
          go_wp2_with fail
          refine (CY.out).mono ?_
          rintro e w2 ⟨rfl, hb2⟩
          go_wp2_with fail
          go_roundw
          case rel => exact ⟨k + 1, by go_num, by omega, by rw [HCT.out, Nat.max_eq_right (by omega)], Lib.hid (hbk.out _ hb2)⟩
          case measure => simp [intOf]; omega
        · have d1 : decide ((ck : Int) < yd) = false := by simp; omega
          go_wp2_with fail
          refine (CY.out).mono ?_
          rintro e w2 ⟨rfl, hb2⟩
          go_wp2_with fail
          go_roundw
          case rel => exact ⟨k + 1, by go_num, by omega, by rw [HCT.out, Nat.max_eq_left (by omega)], Lib.hid (hbk.out _ hb2)⟩
          case measure => simp [intOf]; omega
      · obtain rfl : k = M := by omega
        have htk : s.take k = s := by rw [← HM.out, List.take_length]
        rw [htk, HD.out]
        have HF : Hid (Below g w wr) := Lib.hid (H1.out.1.trans (hbe.out.mono (by omega)))
        go_wp2_with fail
        go_returns
        exact ⟨rfl, HF.out⟩

set_option maxRecDepth 100000 in
set_option maxHeartbeats 1000000 in
theorem law_room (x : Rose TL) : ∀ (w : World) (v : Value) (n : Nat), TSubs w v x.sub → 0 < n → n ≤ 1000 →
    Calls Tryd.prog 18 #[.agg #[.int .i64 x.lab.kind, .int .i64 x.lab.size, v, .int .i64 x.lab.tail], .int .i64 n] w fun e w' => e = .returned (.int .i64 ((n - x.count : Nat) : Int)) ∧ Below w.heap.size w w' := by
  induction x using Rose.ind with
  | h a s ih =>
    intro w v n hv hn0 hn
    simp only [Rose.sub_node, Rose.lab_node, Rose.count] at hv ⊢
    obtain ⟨oa, cap, rfl, hcap, hml⟩ := TSubs.slice hv
    obtain ⟨g, hg⟩ : ∃ g, w.heap.size = g := ⟨_, rfl⟩
    have HW := Lib.hid (box_type (k := a.kind) (z := a.size) (l := a.tail) (t := 24) hv)
    have hlm : s.length ≤ 9223372036854775807 := by unfold maxLen at hml; omega
    obtain ⟨M, hM⟩ : ∃ M, s.length = M := ⟨_, rfl⟩
    have HM := Lib.hid hM
    have IH := Lib.hid ih
    obtain ⟨C, hC⟩ : ∃ C, Rose.countL s = C := ⟨_, rfl⟩
    have HC := Lib.hid hC
    rw [hg] at HW ⊢
    rw [hM] at HW hlm ⊢
    rw [hC]
    clear hv hcap hml ih hM hC
    go_enter Tryd.func18, Tryd.ntmps18
    go_upto_region 1 with fail
    generalize w.alloc (.cells #[.int .i64 a.kind, .int .i64 a.size, .slice oa M cap, .int .i64 a.tail] 24) = w1 at *
    obtain ⟨hb1, ht1, hsz, c0, c1, c2, c3⟩ := HW.out _ rfl
    have H1 := Lib.hid (And.intro hb1 ht1)
    clear HW hb1 ht1 c0 c1 c3
    go_wp2_with fail
    go_loopw [1, 5] (fun nv iv wi => ∃ k l : Nat, iv = .int .i64 k ∧ k ≤ M ∧ nv = .int .i64 l ∧ Hid (l = n - 1 - Rose.countL (s.take k)) ∧ l ≤ 1000 ∧ Hid (Below (g + 1) w1 wi)) (fun _ iv _ => M - (intOf iv).toNat)
    case atStart => exact ⟨0, n - 1, rfl, by omega, by go_num, by simp [Hid, Rose.countL], by omega, Lib.hid (Below.refl _ _)⟩
    case round =>
      obtain ⟨k, l, rfl, hk, rfl, HL, hl, hbe⟩ := hrel
      have hcr : wr.cell? ⟨g, 2, none⟩ = some (.slice oa M cap) := (hbe.out.cell (p := ⟨g, 2, none⟩) (Nat.lt_succ_self g)).trans c2
      have HF : Hid (Below g w wr) := Lib.hid (H1.out.1.trans (hbe.out.mono (by omega)))
      have hend : Hid (k = M ∨ l = 0 → l = n - (1 + C)) := Lib.hid fun h => by
        have h1 := HL.out
        have h2 := Rose.countL_take_le s k
        rw [HC.out] at h2
        rcases h with h | h
        · have htk : s.take k = s := by rw [h, ← HM.out, List.take_length]
          rw [htk, HC.out] at h1; omega
        · omega
      by_cases c : k < M
      · by_cases cl : 0 < l
        · obtain ⟨hc', y, hy⟩ : ∃ h : k < s.length, ∃ y, s[k]? = some y := ⟨by rw [HM.out]; exact c, _, List.getElem?_eq_getElem (by rw [HM.out]; exact c)⟩
          obtain ⟨b, off, u, rfl, hlt, y0, y1, y2, y3, hu, hwf⟩ := TSubs.at_ (Shape.Subs.below H1.out.2 (hsz ▸ hbe.out)) hy
          have CY := Lib.hid (IH.out y (List.mem_of_getElem? hy) wr u l hu cl hl)
          have HCT : Hid (l - y.count = n - 1 - Rose.countL (s.take (k + 1))) := by
            unfold Hid; rw [Rose.countL_take hy]; have := HL.out; omega
          have hbk : Hid (∀ w2, Below wr.heap.size wr w2 → Below (g + 1) w1 w2) := Lib.hid fun w2 hb2 => hbe.out.trans (hb2.mono (by have := hbe.out.size; omega))
          clear hu hwf
          go_wp2_with fail
          refine (CY.out).mono ?_
          rintro e w2 ⟨rfl, hb2⟩
          go_wp2_with fail
          go_roundw
          case rel => exact ⟨k + 1, l - y.count, by go_num, by omega, rfl, HCT, by omega, Lib.hid (hbk.out _ hb2)⟩
          case measure => simp [intOf]; omega
        · obtain rfl : l = 0 := by omega
          have e := hend.out (.inr rfl)
          have HE := Lib.hid e
          clear e
          go_wp2_with fail
          go_returns
          rw [← HE.out]
          exact ⟨rfl, HF.out⟩
      · obtain rfl : k = M := by omega
        have HE := Lib.hid (hend.out (.inl rfl))
        obtain ⟨mx, hmx⟩ : ∃ mx : Int, (if (l : Int) < 0 then (0 : Int) else l) = mx := ⟨_, rfl⟩
        have HMX : Hid (mx = l) := by unfold Hid; rw [← hmx, if_neg (by omega)]
        go_wp2_with fail
        go_returns
        rw [← HE.out]
        exact ⟨by first | rfl | (simp; omega) | (rw [HMX.out]), HF.out⟩

set_option maxRecDepth 100000 in
theorem law_great (x : Rose TL) (w : World) (v : Value) (hv : TSubs w v x.sub) :
    Calls Tryd.prog 7 #[.agg #[.int .i64 x.lab.kind, .int .i64 x.lab.size, v, .int .i64 x.lab.tail]] w fun e w' => e = .returned (.bool (decide (100 ≤ x.count))) ∧ Below w.heap.size w w' := by
  have HW := Lib.hid (box_type (k := x.lab.kind) (z := x.lab.size) (l := x.lab.tail) (t := 24) hv)
  have HV := Lib.hid hv
  obtain ⟨oa, cap, rfl, hcap, hml⟩ := TSubs.slice hv
  obtain ⟨g, hg⟩ : ∃ g, w.heap.size = g := ⟨_, rfl⟩
  have HE : Hid ((((100 - x.count : Nat) : Int) == 0) = decide (100 ≤ x.count)) := by
    unfold Hid
    by_cases h : 100 ≤ x.count
    · rw [decide_eq_true h, show 100 - x.count = 0 by omega]; rfl
    · rw [decide_eq_false h, beq_eq_false_iff_ne]; omega
  have CR : Hid (∀ W : World, TSubs W (.slice oa x.sub.length cap) x.sub → Calls Tryd.prog 18 #[.agg #[.int .i64 x.lab.kind, .int .i64 x.lab.size, .slice oa x.sub.length cap, .int .i64 x.lab.tail], .int .i64 100] W
    fun e w' => e = .returned (.int .i64 ((100 - x.count : Nat) : Int)) ∧ Below W.heap.size W w') := Lib.hid (fun (W : World) (h : TSubs W (.slice oa x.sub.length cap) x.sub) => law_room x W _ 100 h (by decide) (by decide))
  rw [hg] at HW ⊢
  clear hv hcap hml
  generalize 100 - x.count = R at *
  generalize x.sub.length = M at *
  go_enter Tryd.func7, Tryd.ntmps7
  go_upto_region 1 with fail
  generalize w.alloc (.cells #[.int .i64 x.lab.kind, .int .i64 x.lab.size, .slice oa M cap, .int .i64 x.lab.tail] 24) = w1 at *
  obtain ⟨hb1, ht1, hsz, c0, c1, c2, c3⟩ := HW.out _ rfl
  have HT := Lib.hid ht1
  have HB := Lib.hid hb1
  have HS := Lib.hid hsz
  clear HW ht1 hb1 hsz
  go_wp2_with fail
  refine (CR.out _ HT.out).mono ?_
  rintro e w2 ⟨rfl, hb2⟩
  go_wp2_with fail
  go_returns
  rw [HE.out]
  exact ⟨rfl, HB.out.trans (hb2.mono (by have := HS.out; omega))⟩
end Go.Proofs.YtopfpfpefljkkaaDoor
