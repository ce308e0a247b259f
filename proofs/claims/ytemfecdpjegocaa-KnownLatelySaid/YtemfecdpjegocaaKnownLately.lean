/- The walk of KnownLately. -/
import Derived.Test.YtemfecdpjegocaaKnownSet
import Derived.Test.YtemfecdpjegocaaKnownLatePlain
namespace Go.Proofs.Ytemfecdpjegocaa
open Go.RowKit
set_option linter.unusedVariables false
set_option linter.unusedSimpArgs false

/-- The sums of the last k of i bodies. -/
def lateRow (f : Nat → List UInt8) (k i : Nat) : List (List UInt8) := ((List.range i).drop (i - k)).map f
theorem lateRow_length (f : Nat → List UInt8) (k i : Nat) : (lateRow f k i).length = min k i := by
  unfold lateRow
  rw [List.length_map, List.length_drop, List.length_range]; omega
theorem lateRow_succ (f : Nat → List UInt8) (k i : Nat) (hk : 1 ≤ k) : lateRow f k (i + 1) = if k < min k i + 1 then (lateRow f k i ++ [f i]).tail else lateRow f k i ++ [f i] := by
  unfold lateRow
  rw [List.range_succ]
  split
  · have hki : k ≤ i := by omega
    rw [show i + 1 - k = (i - k) + 1 by omega, ← List.drop_drop, List.drop_append_of_le_length (by rw [List.length_range]; omega), List.drop_one, List.map_tail, List.map_append]
    rfl
  · rw [show i + 1 - k = 0 by omega, show i - k = 0 by omega, List.drop_zero, List.drop_zero, List.map_append]
    rfl
theorem late_has {f : Nat → List UInt8} {N : Nat} (hinj : ∀ i j, i < N → j < N → f i = f j → i = j) (R : List (Nat × List UInt8)) (k i m : Nat) (hm : m ≤ N) (hi : i < N) (hR : R.map Prod.snd = lateRow f k m) : hasR R (f i) = decide (i < m ∧ m ≤ i + k) := by
  have h1 : hasR R (f i) = (R.map Prod.snd).any (fun x => x == f i) := by
    unfold hasR; rw [List.any_map]; rfl
  rw [h1, hR, Bool.eq_iff_iff, List.any_eq_true, decide_eq_true_iff]
  unfold lateRow
  constructor
  · rintro ⟨x, hx, he⟩
    obtain ⟨j, hj, rfl⟩ := List.mem_map.1 hx
    have hj2 : j < m := List.mem_range.1 (List.mem_of_mem_drop hj)
    obtain rfl := hinj j i (by omega) hi (by simpa using he)
    obtain ⟨t, ht, he2⟩ := List.mem_iff_getElem.1 hj
    rw [List.length_drop, List.length_range] at ht
    rw [List.getElem_drop, List.getElem_range] at he2
    omega
  · rintro ⟨h1, h2⟩
    refine ⟨f i, List.mem_map_of_mem ?_, by simp⟩
    rw [List.mem_iff_getElem]
    refine ⟨i - (m - k), by rw [List.length_drop, List.length_range]; omega, ?_⟩
    rw [List.getElem_drop, List.getElem_range]; omega
theorem addR_snd {R : List (Nat × List UInt8)} {room bl : Nat} {s : List UInt8} (h : hasR R s = false) : (addR R room bl s).map Prod.snd = if room < R.length + 1 then (R.map Prod.snd ++ [s]).tail else R.map Prod.snd ++ [s] := by
  unfold addR
  rw [h]
  simp only [Bool.false_eq_true, if_false]
  split
  · rw [List.map_tail, List.map_append]; rfl
  · rw [List.map_append]; rfl

theorem fu8' {x : Int} (h : (Lit.int .u8 x).wf = true) : ∃ n : Nat, x = n ∧ n < 256 := by
  have : 0 ≤ x ∧ x ≤ 255 := by simpa [Lit.wf, IntKind.min, IntKind.max, IntKind.signed, IntKind.bits] using h
  exact ⟨x.toNat, by omega, by omega⟩

set_option maxRecDepth 100000 in
set_option maxHeartbeats 2000000 in
theorem known_latelyG (T : Nat → ByteArray) (hT : ∀ i, i < 80 → SumOf ⟨#[UInt8.ofNat i, 7]⟩ (T i)) (hinj : ∀ i j, i < 80 → j < 80 → (T i).data.toList = (T j).data.toList → i = j) (ro nn : Nat) (w : World) (hro : ro < 256) (hnn : nn < 256) :
    Calls Try.prog 4 #[.int .u8 ro, .int .u8 nn] w fun e w' => e = .returned (.bool true) ∧ Below w.heap.size w w' := by
  have HT := Lib.hid (And.intro hT hinj)
  clear hT hinj
  obtain ⟨k, hk⟩ : ∃ k, k = 1 + ro % 40 := ⟨_, rfl⟩
  obtain ⟨N, hN⟩ : ∃ N, N = nn % 80 := ⟨_, rfl⟩
  have hk1 : 1 ≤ k ∧ k ≤ 40 := by omega
  have hN1 : N < 80 := by omega
  have hki : 1 + (ro : Int) % 40 = (k : Int) := by omega
  have hNi : (nn : Int) % 80 = (N : Int) := by omega
  clear hk hN
  have CN := Lib.hid (fun w => ks_new k w (by omega))
  go_enter Try.func4, Try.ntmps4
  go_wp2_with fail
  refine (known_alive _).mono ?_
  rintro e w1 ⟨rfl, hb1⟩
  go_wp2_with fail
  refine (CN.out _).mono ?_
  rintro e w2 ⟨rfl, k2⟩
  have hs1 := hb1.size
  have HB1 := Lib.hid hb1
  have K2 := Lib.hid k2
  clear hb1 k2 CN
  obtain ⟨B, hB⟩ : ∃ B, w1.heap.size = B := ⟨_, rfl⟩
  rw [hB] at K2 hs1 ⊢
  clear hB
  go_wp2_with fail
  go_loopw [8] (fun iv wr => ∃ (i : Nat) (R : List (Nat × List UInt8)), iv = .int .i64 i ∧ i ≤ N ∧ Hid (R.map Prod.snd = lateRow (fun j => (T j).data.toList) k i) ∧ Hid (KS B i k w1 wr R)) (fun iv _ => N - (intOf iv).toNat)
  case atStart => exact ⟨0, [], rfl, by omega, by unfold Hid lateRow; simp, K2⟩
  case round =>
    clear K2 w2
    obtain ⟨i, R, rfl, hi, hR, hK⟩ := hrel
    by_cases c : i < N
    · have hh : hasR R (T i).data.toList = false := by
        rw [late_has (f := fun j => (T j).data.toList) (N := 80) (fun a b ha hb e => HT.out.2 a b ha hb e) R k i i (by omega) (by omega) hR.out]
        simp
      have hbl := hK.out.1.row.bd.lt
      have hst : (convert 39 9 (.slice (some ⟨wr.heap.size, 0, none⟩) 2 2)).run Try.prog (wr.alloc (.cells #[.int .u8 (i : Int), .int .u8 7] 5)) = .ok (.string ⟨[UInt8.ofNat i, 7].toArray⟩) (wr.alloc (.cells #[.int .u8 (i : Int), .int .u8 7] 5)) :=
        string_lit bts wr [UInt8.ofNat i, 7] _ 2 rfl (by simp [bcells, u8_ofNat i (by omega)]) (by decide)
      have hK2 := Lib.hid (hK.out.after ((Below.refl _ _).alloc (Nat.le_refl _) (.cells #[.int .u8 (i : Int), .int .u8 7] 5)))
      have hlen : R.length = min k i := by rw [← List.length_map (f := Prod.snd), hR.out, lateRow_length]
      have HL := Lib.hid hlen
      have HH := Lib.hid hh
      clear hlen hh hK
      go_wp2_with fail
      refine (ks_add hK2.out ⟨[UInt8.ofNat i, 7].toArray⟩ (T i) (HT.out.1 i (by omega)) (by omega) (by omega)).mono ?_
      rintro e w3 ⟨bl, rfl, k3⟩
      rw [HH.out]
      have hR3 : Hid ((addR R k bl (T i).data.toList).map Prod.snd = lateRow (fun j => (T j).data.toList) k (i + 1)) := by
        unfold Hid
        rw [addR_snd HH.out, lateRow_succ _ _ _ (by omega), HL.out, hR.out]
      have K3 := Lib.hid k3
      generalize addR R k bl (T i).data.toList = R3 at *
      clear k3 hst hK2
      go_wp2_with fail
      exact ⟨⟨i + 1, R3, by go_num, by omega, hR3, K3⟩, by simp [intOf]; omega⟩
    · obtain rfl : i = N := by omega
      clear c
      go_wp2_with fail
      simp only [hNi]
      go_loopw [9] (fun iv wr => ∃ (j : Nat), iv = .int .i64 j ∧ j ≤ i ∧ Hid (KS B i k w1 wr R)) (fun iv _ => i - (intOf iv).toNat)
      case atStart => exact ⟨0, rfl, by omega, hK⟩
      case round =>
        clear hK
        obtain ⟨j, rfl, hj, hK⟩ := hrel
        by_cases c : j < i
        · have hh : hasR R (T j).data.toList = decide (i ≤ j + k) := by
            rw [late_has (f := fun j => (T j).data.toList) (N := 80) (fun a b ha hb e => HT.out.2 a b ha hb e) R k j i (by omega) (by omega) hR.out]
            simp [c]
          have hst : ∀ W : World, (convert 39 9 (.slice (some ⟨W.heap.size, 0, none⟩) 2 2)).run Try.prog (W.alloc (.cells #[.int .u8 (j : Int), .int .u8 7] 5)) = .ok (.string ⟨[UInt8.ofNat j, 7].toArray⟩) (W.alloc (.cells #[.int .u8 (j : Int), .int .u8 7] 5)) := fun W =>
            string_lit bts W [UInt8.ofNat j, 7] _ 2 rfl (by simp [bcells, u8_ofNat j (by omega)]) (by decide)
          have hst := hst wr
          have hK2 := Lib.hid (hK.out.after ((Below.refl _ _).alloc (Nat.le_refl _) (.cells #[.int .u8 (j : Int), .int .u8 7] 5)))
          have HH := Lib.hid hh
          clear hh hK
          by_cases cj : i ≤ j + k
          · have hd : decide (((i : Int) - (k : Int)) ≤ (j : Int)) = true := by simp; omega
            go_wp2_with fail
            refine (ks_has hK2.out ⟨[UInt8.ofNat j, 7].toArray⟩ (T j) (HT.out.1 j (by omega))).mono ?_
            rintro e w3 ⟨rfl, k3⟩
            rw [HH.out, decide_eq_true cj]
            have K3 := Lib.hid k3
            clear k3 hst hK2
            go_wp2_with fail
            go_roundw
            case rel => exact ⟨j + 1, by go_num, by omega, K3⟩
            case measure => simp [intOf]; omega
          · have hd : decide (((i : Int) - (k : Int)) ≤ (j : Int)) = false := by simp; omega
            go_wp2_with fail
            refine (ks_has hK2.out ⟨[UInt8.ofNat j, 7].toArray⟩ (T j) (HT.out.1 j (by omega))).mono ?_
            rintro e w3 ⟨rfl, k3⟩
            rw [HH.out, decide_eq_false cj]
            have K3 := Lib.hid k3
            clear k3 hst hK2
            go_wp2_with fail
            go_roundw
            case rel => exact ⟨j + 1, by go_num, by omega, K3⟩
            case measure => simp [intOf]; omega
        · obtain rfl : j = i := by omega
          have cl := ks_len hK.out
          have hlen : R.length = min k j := by rw [← List.length_map (f := Prod.snd), hR.out, lateRow_length]
          rw [hlen] at cl
          have CL := Lib.hid cl
          have hbb : Hid (Below w.heap.size w wr) := HB1.out.trans (hK.out.2.2.mono hs1)
          clear cl hlen hR hK
          by_cases ckj : k ≤ j
          · rw [Nat.min_eq_left ckj] at CL
            go_wp2_with fail
            refine CL.out.mono ?_
            rintro e w3 ⟨rfl, rfl⟩
            go_wp2_with fail
            all_goals
              go_returns
              exact ⟨rfl, hbb.out⟩
          · rw [Nat.min_eq_right (by omega)] at CL
            go_wp2_with fail
            refine CL.out.mono ?_
            rintro e w3 ⟨rfl, rfl⟩
            go_wp2_with fail
            all_goals
              go_returns
              exact ⟨rfl, hbb.out⟩

theorem known_lately (ro nn : Int) (w : World) (h1 : (Lit.int .u8 ro).wf = true) (h2 : (Lit.int .u8 nn).wf = true) :
    Calls Try.prog 4 #[.int .u8 ro, .int .u8 nn] w fun e w' => e = .returned (.bool true) ∧ Below w.heap.size w w' := by
  obtain ⟨a, rfl, ha⟩ := fu8' h1
  obtain ⟨b, rfl, hb⟩ := fu8' h2
  exact known_latelyG (fun i => ⟨(lateT i).toArray⟩) (fun i _ => sum_of ⟨#[UInt8.ofNat i, 7]⟩ (by show 2 ≤ 100000; decide)) (fun i j hi hj e => late_inj hi hj e) a b w ha hb
end Go.Proofs.Ytemfecdpjegocaa
