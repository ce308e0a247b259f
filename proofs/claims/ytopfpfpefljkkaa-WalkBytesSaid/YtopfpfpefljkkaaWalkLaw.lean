/- What the laws on walk share: alive, Plain, same. -/
import Derived.Test.YtopfpfpefljkkaaWalkSkip
import Derived.Test.YtopfpfpefljkkaaTree
namespace Go.Proofs.Ytopfpfpefljkkaa
open Go.RowKit
set_option linter.unusedVariables false
set_option linter.unusedSimpArgs false

def aI : Rose IL := .node ⟨[], true⟩ [.node ⟨[97], false⟩ []]
theorem aI_toks : toks aI = [tOpen, ⟨3, ⟨#[97]⟩⟩, tShut] := by
  rw [toks_list rfl]
  simp only [aI, Rose.sub_node, toksL_cons, toksL_nil, toks_word (x := .node ⟨[97], false⟩ []) rfl, List.append_nil, List.cons_append, List.nil_append]
  rfl
theorem aI_subs (w : World) : ISubs (w.alloc (.cells #[.string ⟨#[97]⟩, .bool false, .slice none 0 0] IT)) (.slice (some ⟨w.heap.size, 0, none⟩) 1 1) aI.sub := by
  refine ⟨_, 1, rfl, Nat.le_refl _, by decide, fun _ => ⟨w.heap.size, 0, rfl, by simp, trivial, ?_⟩⟩
  have hb := Blk.new w #[.string ⟨#[97]⟩, .bool false, .slice none 0 0] IT
  simp only [aI, Rose.sub_node, Shape.RowAt, Shape.NodeAt, and_true]
  refine ⟨show 1 ≤ maxLen by decide +kernel, .slice none 0 0, fun j hj => ?_, ⟨none, 0, rfl, Nat.le_refl _, Nat.zero_le _, fun h => absurd h (by simp)⟩⟩
  match j, hj with
  | 0, _ => exact hb.cell 0
  | 1, _ => exact hb.cell 1
  | 2, _ => exact hb.cell 2

set_option maxRecDepth 100000 in
set_option maxHeartbeats 2000000 in
theorem walk_alive (w : World) : Calls Try.prog 22 #[] w fun e w' => e = .returned (.bool true) ∧ Below w.heap.size w w' := by
  have CO := Lib.hid (walk_of aI _ _ (aI_subs w) (by decide +kernel))
  have HB := Lib.hid ((Below.refl w.heap.size w).alloc (Nat.le_refl _) (.cells #[.string ⟨#[97]⟩, .bool false, .slice none 0 0] IT))
  have hm : mayI aI = true := by decide +kernel
  have e1 : ∀ W e W', OfPost aI W e W' → ∃ o c, e = .returned (.tuple #[.slice o 3 c, .int .i64 0]) ∧ OwnG tkf 2 W' W.heap.size TT (.slice o 3 c) [tOpen, ⟨3, ⟨#[97]⟩⟩, tShut] ∧ Below W.heap.size W W' := fun W e W' h => by
    unfold OfPost at h
    rw [if_pos hm, aI_toks] at h
    exact h
  have CO : Hid (Calls Try.prog 23 #[.agg #[.string ⟨#[]⟩, .bool true, .slice (some ⟨w.heap.size, 0, none⟩) 1 1]] (w.alloc (.cells #[.string ⟨#[97]⟩, .bool false, .slice none 0 0] IT)) fun e W' => ∃ o c, e = .returned (.tuple #[.slice o 3 c, .int .i64 0]) ∧ OwnG tkf 2 W' (w.alloc (.cells #[.string ⟨#[97]⟩, .bool false, .slice none 0 0] IT)).heap.size TT (.slice o 3 c) [tOpen, ⟨3, ⟨#[97]⟩⟩, tShut] ∧ Below (w.alloc (.cells #[.string ⟨#[97]⟩, .bool false, .slice none 0 0] IT)).heap.size (w.alloc (.cells #[.string ⟨#[97]⟩, .bool false, .slice none 0 0] IT)) W') := Lib.hid (CO.out.mono fun e W' h => e1 _ _ _ h)
  clear e1
  obtain ⟨g, hg⟩ : ∃ g, w.heap.size = g := ⟨_, rfl⟩
  rw [hg] at HB CO
  rw [hg]
  clear hm
  go_enter Try.func22, Try.ntmps22
  go_wp2_with fail
  refine CO.out.mono ?_
  rintro e w2 ⟨o, c, rfl, ho, hb2⟩
  have H2 := Lib.hid (HB.out.trans (hb2.mono (by simp; omega)))
  have hr := ho.rd tkf_len
  have CS := Lib.hid (walk_skip aI w2 (.slice o 3 c) (by rw [aI_toks]; exact hr) (by rw [aI_toks]; decide))
  rw [aI_toks] at CS
  have HR := Lib.hid hr
  clear ho hb2 hr
  go_wp2_with fail
  refine CS.out.mono ?_
  rintro e w3 ⟨rfl, hb3⟩
  have H3 := Lib.hid (H2.out.trans (hb3.mono (by have := H2.out.size; omega)))
  have hr3 := HR.out.below hb3
  obtain ⟨b, off, rfl, _, hc0⟩ := hr3.at_ (i := 0) (y := tOpen) rfl
  obtain ⟨_, _, he, _, hc1⟩ := hr3.at_ (i := 1) (y := ⟨3, ⟨#[97]⟩⟩) rfl
  cases he
  obtain ⟨_, _, he, _, hc2⟩ := hr3.at_ (i := 2) (y := tShut) rfl
  cases he
  have a0 := hc0 0 (by decide)
  have a1 := hc1 1 (by decide)
  have a2 := hc2 0 (by decide)
  simp only [tkf, tOpen, tShut, Nat.zero_mul, Nat.add_zero, List.getElem?_cons_zero, List.getElem?_cons_succ, Nat.one_mul, Nat.add_assoc, Nat.reduceAdd, Nat.reduceMul] at a0 a1 a2
  clear hb3 hr3 hc0 hc1 hc2
  go_wp2_with fail
  go_returns
  exact ⟨rfl, H3.out⟩

set_option maxRecDepth 100000 in
set_option maxHeartbeats 4000000 in
/-- Tokens of the one kind are made those of the other. -/
theorem law_plain (T : List Tk) (w : World) (v : Value) (h : RdG tkf 2 w v T) (hT : T.length ≤ 100000) :
    Calls Try.prog 28 #[v] w fun e w' => ∃ u, e = .returned u ∧ OwnG tkf 2 w' w.heap.size DT u T ∧ Below w.heap.size w w' := by
  obtain ⟨oa, cap, rfl⟩ := h.slice
  obtain ⟨N, hN⟩ : ∃ N, T.length = N := ⟨_, rfl⟩
  have H := Lib.hid h
  have HN := Lib.hid hN
  rw [hN] at H hT ⊢
  obtain ⟨B, hB⟩ : ∃ B, w.heap.size = B := ⟨_, rfl⟩
  rw [hB]
  clear h hN
  go_enter Try.func28, Try.ntmps28
  go_wp2_with fail
  go_loopw [3, 4] (fun ov iv wi => ∃ k : Nat, iv = .int .i64 k ∧ k ≤ N ∧ Hid (OwnG tkf 2 wi B DT ov (T.take k)) ∧ Hid (Below B w wi)) (fun _ iv _ => N - (intOf iv).toNat)
  case atStart => exact ⟨0, rfl, by omega, Lib.hid (OwnG.nil _ _ _), Lib.hid (Below.refl _ _)⟩
  case round =>
    obtain ⟨k, rfl, hk, ho, hbe⟩ := hrel
    obtain ⟨ov, oc, rfl⟩ := ho.out.slice
    by_cases c : k < N
    · obtain ⟨t, ht⟩ : ∃ t, T[k]? = some t := ⟨_, List.getElem?_eq_getElem (by rw [HN.out]; exact c)⟩
      obtain ⟨b, off, rfl, hb, hc⟩ := (H.out.below (hB ▸ hbe.out)).at_ ht
      have c0 := hc 0 (by decide)
      have c1 := hc 1 (by decide)
      simp only [Nat.add_zero, tkf, List.getElem?_cons_zero, List.getElem?_cons_succ] at c0 c1
      have h0 : ∀ x : Fut wr, x.at_.cell? ⟨b, off + k * 2, none⟩ = some (.int .i64 t.kind) := fun x => (x.is.cell (p := ⟨b, off + k * 2, none⟩) hb).trans c0
      have h1 : ∀ x : Fut wr, x.at_.cell? ⟨b, off + k * 2 + 1, none⟩ = some (.string t.text) := fun x => (x.is.cell (p := ⟨b, off + k * 2 + 1, none⟩) hb).trans c1
      clear c0 c1 hc
      go_upto_region 5 with fail
      refine wp_region_after_tail1 12 _ (.slice ov (T.take k).length oc) (by kernel_rfl) (by kernel_rfl) rfl (.inl ⟨rfl, fun w => rfl⟩) (fun _ _ _ h => h) ?_
      simp only [List.take_succ_cons, List.take_zero, List.drop_succ_cons, List.drop_zero, Act.put, List.setIfInBounds_toArray, List.set_cons_zero, List.set_cons_succ]
      repeat (go_big_quiet_step (fail))
      refine wpQuiet_nil ?_
      intro x
      obtain ⟨K, hK⟩ : ∃ K, (T.take k).length = K := ⟨_, rfl⟩
      have hKk : K ≤ 1000000 := by rw [← hK, List.length_take]; omega
      have HK := Lib.hid hK
      have hob := ho.out.below (x.is.trans (((Below.refl _ x.at_).alloc (Nat.le_refl _) (.cells #[.int .i64 t.kind, .string t.text] DT)).mono x.is.size))
      have hBw : B ≤ wr.heap.size := by have := hbe.out.size; omega
      have HBX := Lib.hid ((hbe.out.trans (x.is.mono hBw)).alloc (Nat.le_trans hBw x.is.size) (.cells #[.int .i64 t.kind, .string t.text] DT))
      have HNB := Lib.hid (Blk.new x.at_ #[.int .i64 t.kind, .string t.text] DT)
      have HET : Hid (T.take (k + 1) = T.take k ++ [t]) := Lib.hid (by rw [List.take_add_one, ht]; rfl)
      rw [hK] at hob ⊢
      have HO := Lib.hid hob
      have hB3 : B ≤ (x.at_.alloc (.cells #[.int .i64 t.kind, .string t.text] DT)).heap.size := by have := HBX.out.size; omega
      clear h0 h1 hK hob ht
      go_wp2_with (at_builtin; refine wpList_append_g (y := t) dk_row tkf_len rfl (.tmp 11) (.tmp 23) rfl rfl HO.out rfl HNB.out rfl (by simp [tkf, Value.oneCell']) (by rw [HK.out]; exact hKk) hB3 ?_; intro g2 c2 w3 q1 q2 q3 q4; rw [HK.out] at q1 ⊢; have HR := Lib.hid (And.intro q1 q2); clear q1 q2 q3 q4)
      go_roundw
      case rel =>
        refine ⟨k + 1, by go_num, by omega, ?_, Lib.hid (HBX.out.grown HR.out.2 hB3 fun r e => (HO.out.block r e).1)⟩
        unfold Hid
        rw [HET.out]
        exact HR.out.1
      case measure => simp [intOf]; omega
    · obtain rfl : k = N := by omega
      have htk : T.take k = T := by rw [← HN.out, List.take_length]
      rw [htk] at ho ⊢
      go_wp2_with fail
      go_returns
      exact ⟨_, rfl, ho.out, hbe.out⟩
end Go.Proofs.Ytopfpfpefljkkaa
