/- The law of tokens: great, Of. -/
import Derived.Test.YtopfpfpefljkkaaWalkA
namespace Go.Proofs.Ytopfpfpefljkkaa
open Go.RowKit
set_option linter.unusedVariables false
set_option linter.unusedSimpArgs false

set_option maxRecDepth 100000 in
set_option maxHeartbeats 4000000 in
/-- Tokens of the other kind are made those of the one. -/
theorem law_of (T : List Tk) (w : World) (v : Value) (h : RdG tkf 2 w v T) (hT : T.length ≤ 100000) :
    Calls Try.prog 32 #[v] w fun e w' => ∃ u, e = .returned u ∧ OwnG tkf 2 w' w.heap.size TT u T ∧ Below w.heap.size w w' := by
  obtain ⟨oa, cap, rfl⟩ := h.slice
  obtain ⟨N, hN⟩ : ∃ N, T.length = N := ⟨_, rfl⟩
  have H := Lib.hid h
  have HN := Lib.hid hN
  rw [hN] at H hT ⊢
  obtain ⟨B, hB⟩ : ∃ B, w.heap.size = B := ⟨_, rfl⟩
  rw [hB]
  clear h hN
  go_enter Try.func32, Try.ntmps32
  go_wp2_with fail
  go_loopw [3, 4] (fun ov iv wi => ∃ k : Nat, iv = .int .i64 k ∧ k ≤ N ∧ Hid (OwnG tkf 2 wi B TT ov (T.take k)) ∧ Hid (Below B w wi)) (fun _ iv _ => N - (intOf iv).toNat)
  case atStart => exact ⟨0, rfl, by omega, Lib.hid (OwnG.nil _ _ _), Lib.hid (Below.refl _ _)⟩
  case round =>
    obtain ⟨k, rfl, hk, ho, hbe⟩ := hrel
    obtain ⟨ov, oc, rfl⟩ := ho.out.slice
    by_cases c : k < N
    · obtain ⟨t, ht⟩ : ∃ t, T[k]? = some t := ⟨_, List.getElem?_eq_getElem (by rw [HN.out]; exact c)⟩
      obtain ⟨b, off, rfl, hb, hc⟩ := (H.out.below (hB ▸ hbe.out)).at_ ht
      have c0 := hc 0 (by decide)
      have c1 := hc 1 (by decide)
      simp only [Nat.add_zero, tkf, List.getElem?_cons_zero, List.getElem?_cons_succ] at c0 c1
      have h0 : ∀ x : Fut wr, x.at_.cell? ⟨b, off + k * 2, none⟩ = some (.int .i64 t.kind) := fun x => (x.is.cell (p := ⟨b, off + k * 2, none⟩) hb).trans c0
      have h1 : ∀ x : Fut wr, x.at_.cell? ⟨b, off + k * 2 + 1, none⟩ = some (.string t.text) := fun x => (x.is.cell (p := ⟨b, off + k * 2 + 1, none⟩) hb).trans c1
      clear c0 c1 hc
      go_upto_region 5 with fail
      refine wp_region_after_tail1 12 _ (.slice ov (T.take k).length oc) (by kernel_rfl) (by kernel_rfl) rfl (.inl ⟨rfl, fun w => rfl⟩) (fun _ _ _ h => h) ?_
      simp only [List.take_succ_cons, List.take_zero, List.drop_succ_cons, List.drop_zero, Act.put, List.setIfInBounds_toArray, List.set_cons_zero, List.set_cons_succ]
      repeat (go_big_quiet_step (fail))
      refine wpQuiet_nil ?_
      intro x
      obtain ⟨K, hK⟩ : ∃ K, (T.take k).length = K := ⟨_, rfl⟩
      have hKk : K ≤ 1000000 := by rw [← hK, List.length_take]; omega
      have HK := Lib.hid hK
      have hob := ho.out.below (x.is.trans (((Below.refl _ x.at_).alloc (Nat.le_refl _) (.cells #[.int .i64 t.kind, .string t.text] TT)).mono x.is.size))
      have hBw : B ≤ wr.heap.size := by have := hbe.out.size; omega
      have HBX := Lib.hid ((hbe.out.trans (x.is.mono hBw)).alloc (Nat.le_trans hBw x.is.size) (.cells #[.int .i64 t.kind, .string t.text] TT))
      have HNB := Lib.hid (Blk.new x.at_ #[.int .i64 t.kind, .string t.text] TT)
      have HET : Hid (T.take (k + 1) = T.take k ++ [t]) := Lib.hid (by rw [List.take_add_one, ht]; rfl)
      rw [hK] at hob ⊢
      have HO := Lib.hid hob
      have hB3 : B ≤ (x.at_.alloc (.cells #[.int .i64 t.kind, .string t.text] TT)).heap.size := by have := HBX.out.size; omega
      clear h0 h1 hK hob ht
      go_wp2_with (at_builtin; refine wpList_append_g (y := t) tk_row tkf_len rfl (.tmp 11) (.tmp 23) rfl rfl HO.out rfl HNB.out rfl (by simp [tkf, Value.oneCell']) (by rw [HK.out]; exact hKk) hB3 ?_; intro g2 c2 w3 q1 q2 q3 q4; rw [HK.out] at q1 ⊢; have HR := Lib.hid (And.intro q1 q2); clear q1 q2 q3 q4)
      go_roundw
      case rel =>
        refine ⟨k + 1, by go_num, by omega, ?_, Lib.hid (HBX.out.grown HR.out.2 hB3 fun r e => (HO.out.block r e).1)⟩
        unfold Hid
        rw [HET.out]
        exact HR.out.1
      case measure => simp [intOf]; omega
    · obtain rfl : k = N := by omega
      have htk : T.take k = T := by rw [← HN.out, List.take_length]
      rw [htk] at ho ⊢
      go_wp2_with fail
      go_returns
      exact ⟨_, rfl, ho.out, hbe.out⟩

def totT (T : List Tk) : Nat := (T.map fun t => t.text.size).sum
theorem totT_take {T : List Tk} {k : Nat} {t : Tk} (h : T[k]? = some t) : totT (T.take (k + 1)) = totT (T.take k) + t.text.size := by
  unfold totT; rw [List.take_add_one, h]; simp
def greatT (T : List Tk) : Bool := decide (1500 < T.length) || decide (6000 < totT T)
set_option maxRecDepth 100000 in
set_option maxHeartbeats 2000000 in
theorem law_tgreat (T : List Tk) (w : World) (v : Value) (h : RdG tkf 2 w v T) (htx : ∀ t, t ∈ T → t.text.size ≤ maxLen) (hTm : T.length ≤ 9223372036854775807) :
    Calls Try.prog 31 #[v] w fun e w' => e = .returned (.bool (greatT T)) ∧ w' = w := by
  obtain ⟨oa, cap, rfl⟩ := h.slice
  obtain ⟨N, hN⟩ : ∃ N, T.length = N := ⟨_, rfl⟩
  have H := Lib.hid h
  have HN := Lib.hid hN
  have HTX := Lib.hid htx
  have HG : Hid (greatT T = (decide (1500 < N) || decide (6000 < totT T))) := Lib.hid (by unfold greatT; rw [hN])
  rw [hN] at H hTm ⊢
  clear h hN htx
  by_cases hc : 1500 < N
  · go_enter Try.func31, Try.ntmps31
    go_wp2_with fail
    go_returns
    exact ⟨by rw [HG.out, decide_eq_true hc]; rfl, rfl⟩
  · have hN1 : N ≤ 1500 := by omega
    have HC := Lib.hid hc
    clear hc hTm
    go_enter Try.func31, Try.ntmps31
    go_wp2_with fail
    go_loopw [3, 4] (fun nv iv wi => ∃ k l : Nat, iv = .int .i64 k ∧ k ≤ N ∧ nv = .int .i64 l ∧ Hid (l = min (totT (T.take k)) 10000) ∧ l ≤ 10000 ∧ wi = w) (fun _ iv _ => N - (intOf iv).toNat)
    case atStart => exact ⟨0, 0, rfl, by omega, rfl, Lib.hid (by simp [totT]), by omega, rfl⟩
    case round =>
      obtain ⟨k, l, rfl, hk, rfl, HL, hl, rfl⟩ := hrel
      by_cases c : k < N
      · obtain ⟨t, ht⟩ : ∃ t, T[k]? = some t := ⟨_, List.getElem?_eq_getElem (by rw [HN.out]; exact c)⟩
        obtain ⟨b, off, rfl, hb, hc⟩ := H.out.at_ ht
        have c1 := hc 1 (by decide)
        simp only [tkf, List.getElem?_cons_zero, List.getElem?_cons_succ] at c1
        have hts := HTX.out t (List.mem_of_getElem? ht)
        obtain ⟨m0, hm0⟩ : ∃ m0, min t.text.size 10000 = m0 := ⟨_, rfl⟩
        have hm1 : (if (10000 : Int) < (t.text.size : Int) then (10000 : Int) else (t.text.size : Int)) = (m0 : Int) := by split <;> omega
        obtain ⟨l2, hl2⟩ : ∃ l2, min (l + m0) 10000 = l2 := ⟨_, rfl⟩
        have hl3 : (if (10000 : Int) < (l : Int) + (m0 : Int) then (10000 : Int) else (l : Int) + (m0 : Int)) = (l2 : Int) := by split <;> omega
        have hm2 : m0 ≤ 10000 := by omega
        have HL2 : Hid (l2 = min (totT (T.take (k + 1))) 10000) := by
          unfold Hid
          rw [totT_take ht]
          have := HL.out
          omega
        have hl4 : l2 ≤ 10000 := by omega
        have hts2 : t.text.size ≤ 9223372036854775807 := by unfold maxLen at hts; omega
        have HM0 := Lib.hid hm0
        have HL0 := Lib.hid hl2
        clear hc ht hts hm0 hl2 hm1 hl3
        go_wp2_with fail
        go_roundw
        case rel => exact ⟨k + 1, l2, by go_num, by omega, by congr 1; have := HM0.out; have := HL0.out; omega, HL2, hl4, trivial⟩
        case measure => simp [intOf]; omega
      · obtain rfl : k = N := by omega
        have htk : T.take k = T := by rw [← HN.out, List.take_length]
        rw [htk] at HL
        have HF : Hid (decide ((6000 : Int) < (l : Int)) = greatT T) := Lib.hid (by
          rw [HG.out, decide_eq_false HC.out, Bool.false_or, decide_eq_decide]
          have := HL.out
          omega)
        go_wp2_with fail
        go_returns
        exact ⟨by rw [← HF.out]; rfl, rfl⟩
end Go.Proofs.Ytopfpfpefljkkaa
