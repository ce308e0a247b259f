/- The walk of CompactCursor. -/
import Derived.Test.YtknokfofjhlkeaaDoorCompRead
import Derived.Test.YtknokfofjhlkeaaDoorRow
import Derived.Test.YtknokfofjhlkeaaDoorPhase
import Derived.Deep.RegionHeld3
namespace Go.Proofs.YtknokfofjhlkeaaDoor
open Go.RowKit
set_option linter.unusedVariables false
set_option linter.unusedSimpArgs false

set_option maxRecDepth 100000 in
set_option maxHeartbeats 2000000 in
theorem compact_cursor (s : ByteArray) (ao : Option Addr) (len cap : Nat) (zs : List Int) (w : World) (hs : s.size ≤ maxLen) (hrow : IsRow .u64 w ao len cap zs) (hT : Tab w) :
    Calls Tryd.prog 5 #[.string s, .slice ao len cap] w fun e w' => e = .returned (.bool true) ∧ Below w.heap.size w w' := by
  have ca := Lib.hid (comp_alive w hT)
  have hG := Tab.lt hT
  have HT := Lib.hid hT
  clear hT
  have hlen0 := hrow.len_le.1
  unfold maxLen at hlen0 hs
  by_cases hl : 300 < s.size
  · go_enter Tryd.func5, Tryd.ntmps5
    go_wp2_with fail
    refine ca.out.mono ?_
    rintro e w1 ⟨rfl, hb⟩
    go_wp2_with fail
    go_returns
    exact ⟨rfl, hb⟩
  have hl' : decide ((300 : Int) < s.size) = false := by simp; omega
  by_cases hlen : 40 < len
  · go_enter Tryd.func5, Tryd.ntmps5
    go_wp2_with fail
    refine ca.out.mono ?_
    rintro e w1 ⟨rfl, hb⟩
    go_wp2_with fail
    go_returns
    exact ⟨rfl, hb⟩
  have hlen' : decide ((40 : Int) < len) = false := by simp; omega
  go_enter Tryd.func5, Tryd.ntmps5
  go_wp2_with fail
  refine ca.out.mono ?_
  rintro e w1 ⟨rfl, hb⟩
  go_wp2_with fail
  refine (cursor_read _ _).mono ?_
  rintro e w2 ⟨rfl, hb2, hsz, hR⟩
  go_wp2_with fail
  refine (ref01_of _ _).mono ?_
  rintro e w3 ⟨rfl, hb3, hsz3, hX3⟩
  have hsz1 := hb.size
  have hsz2 := hb2.size
  have hB3 : Below w.heap.size w w3 := (hb.trans (hb2.mono hb.size)).trans (hb3.mono (by omega))
  have hR3 : IsR w3 w1.heap.size (RS.of s) := Below.blk hb3 hR hsz
  have hne : w1.heap.size ≠ w2.heap.size := by omega
  have hBx : w.heap.size ≤ w2.heap.size := by omega
  have hGbr : 0 ≠ w1.heap.size := by omega
  generalize w1.heap.size = br at *
  generalize w2.heap.size = bx at *
  clear hb hb2 hb3 hR
  go_wp2_with fail
  go_loopw [7] (fun iv wr => ∃ (k : Nat) (r : RS), iv = .int .i64 k ∧ k ≤ len ∧ r.Ok ∧ r.t = s ∧ IsR wr br r ∧ IsX wr bx r ∧ Below w.heap.size w wr) (fun iv _ => len - (intOf iv).toNat)
  case atStart => exact ⟨0, RS.of s, rfl, by omega, ⟨Nat.zero_le _, hs⟩, rfl, hR3, hX3, hB3⟩
  case round =>
    obtain ⟨k, r, rfl, hk, hok, hrt, hI, hX, hB⟩ := hrel
    have hwr := hB.size
    by_cases hlt : k < len
    · obtain ⟨b, off, hao, hbl, hc, hz⟩ := hrow.at_ hlt
      subst hao
      generalize zs.getD k 0 = z at hc hz
      obtain ⟨m, rfl, hm⟩ := nat_of_u64 hz
      have hcn' : wr.cell? ⟨b, off + k, none⟩ = some (.int .u64 m) := (hB.cell (p := ⟨b, off + k, none⟩) hbl).trans hc
      have hTr := HT.out.below hB hG
      have cp := fun w h hT => comp_read br r m w hok h hm hT hGbr
      have cx := fun w h => ref_comp_read bx r m w hok h hm
      have hok2 := hok.comp m
      have ht2 : (r.comp m).1.t = s := by rw [comp_t]; exact hrt
      generalize r.comp m = y at *
      obtain ⟨⟨t2, p2, f2⟩, v⟩ := y
      have CP := Lib.hid cp
      have HTR := Lib.hid hTr
      have CX := Lib.hid cx
      have HB := Lib.hid hB
      have HBL := Lib.hid hbl
      have HCN := Lib.hid hc
      clear cp cx hc hB hbl hz hTr
      go_wp2_with fail
      refine wp_region_held_drew (S := fun w' => w'.cell? ⟨b, off + k, none⟩ = some (.int .u64 m)) (by kernel_rfl) hcn' (fun hHeld => ?_)
      refine wpAnyH_take (i := 0) (oi := ?oi0) (v := ?v0) ?hi0 (by kernel_rfl) (by kernel_rfl) (by kernel_rfl) ?hQ0 (Or.inl ⟨?hw0, ?hy0⟩) hHeld ?rest0
      case hi0 => simp only [List.getElem?_toArray, List.getElem?_cons_succ, List.getElem?_cons_zero]; rfl
      case hQ0 => exact fun _ _ _ h => h
      case hw0 => rfl
      case hy0 => (intro w hSw; (try dsimp only at hSw); go_simp; try rfl)
      simp only [Act.put, List.setIfInBounds_toArray, List.set_cons_zero, List.set_cons_succ]
      refine wpAnyH_take (i := 1) (oi := ?oi1) (v := ?v1) ?hi1 (by kernel_rfl) (by kernel_rfl) (by kernel_rfl) ?hQ1 (Or.inl ⟨?hw1, ?hy1⟩) hHeld ?rest1
      case hi1 => simp only [List.getElem?_toArray, List.getElem?_cons_succ, List.getElem?_cons_zero]; rfl
      case hQ1 => exact fun _ _ _ h => h
      case hw1 => rfl
      case hy1 => (intro w hSw; (try dsimp only at hSw); go_simp; try rfl)
      simp only [Act.put, List.setIfInBounds_toArray, List.set_cons_zero, List.set_cons_succ]
      refine wpAnyH_take (i := 2) (oi := ?oi2) (v := ?v2) ?hi2 (by kernel_rfl) (by kernel_rfl) (by kernel_rfl) ?hQ2 (Or.inl ⟨?hw2, ?hy2⟩) hHeld ?rest2
      case hi2 => simp only [List.getElem?_toArray, List.getElem?_cons_succ, List.getElem?_cons_zero]; rfl
      case hQ2 => exact fun _ _ _ h => h
      case hw2 => rfl
      case hy2 => (intro w hSw; (try dsimp only at hSw); go_simp; try rfl)
      simp only [Act.put, List.setIfInBounds_toArray, List.set_cons_zero, List.set_cons_succ]
      refine wpAnyH_take (i := 3) (oi := ?oi3) (v := ?v3) ?hi3 (by kernel_rfl) (by kernel_rfl) (by kernel_rfl) ?hQ3 (Or.inl ⟨?hw3, ?hy3⟩) hHeld ?rest3
      case hi3 => simp only [List.getElem?_toArray, List.getElem?_cons_succ, List.getElem?_cons_zero]; rfl
      case hQ3 => exact fun _ _ _ h => h
      case hw3 => rfl
      case hy3 => (intro w hSw; (try dsimp only at hSw); go_simp; try rfl)
      simp only [Act.put, List.setIfInBounds_toArray, List.set_cons_zero, List.set_cons_succ]
      refine wpAnyH_take (i := 4) (oi := ?oi4) (v := ?v4) ?hi4 (by kernel_rfl) (by kernel_rfl) (by kernel_rfl) ?hQ4 (Or.inl ⟨?hw4, ?hy4⟩) hHeld ?rest4
      case hi4 => simp only [List.getElem?_toArray, List.getElem?_cons_succ, List.getElem?_cons_zero]; rfl
      case hQ4 => exact fun _ _ _ h => h
      case hw4 => rfl
      case hy4 => (intro w hSw; (try dsimp only at hSw); go_simp; try rfl)
      simp only [Act.put, List.setIfInBounds_toArray, List.set_cons_zero, List.set_cons_succ]
      refine wpAnyH_take (i := 6) (oi := ?oi6) (v := ?v6) ?hi6 (by kernel_rfl) (by kernel_rfl) (by kernel_rfl) ?hQ6 (Or.inl ⟨?hw6, ?hy6⟩) hHeld ?rest6
      case hi6 => simp only [List.getElem?_toArray, List.getElem?_cons_succ, List.getElem?_cons_zero]; rfl
      case hQ6 => exact fun _ _ _ h => h
      case hw6 => rfl
      case hy6 => (intro w hSw; (try dsimp only at hSw); go_simp; try rfl)
      simp only [Act.put, List.setIfInBounds_toArray, List.set_cons_zero, List.set_cons_succ]
      refine wpAnyH_take (i := 7) (oi := ?oi7) (v := ?v7) ?hi7 (by kernel_rfl) (by kernel_rfl) (by kernel_rfl) ?hQ7 (Or.inl ⟨?hw7, ?hy7⟩) hHeld ?rest7
      case hi7 => simp only [List.getElem?_toArray, List.getElem?_cons_succ, List.getElem?_cons_zero]; rfl
      case hQ7 => exact fun _ _ _ h => h
      case hw7 => rfl
      case hy7 => (intro w hSw; (try dsimp only at hSw); go_simp; try rfl)
      simp only [Act.put, List.setIfInBounds_toArray, List.set_cons_zero, List.set_cons_succ]
      refine wpAnyH_take (i := 8) (oi := ?oi8) (v := ?v8) ?hi8 (by kernel_rfl) (by kernel_rfl) (by kernel_rfl) ?hQ8 (Or.inl ⟨?hw8, ?hy8⟩) hHeld ?rest8
      case hi8 => simp only [List.getElem?_toArray, List.getElem?_cons_succ, List.getElem?_cons_zero]; rfl
      case hQ8 => exact fun _ _ _ h => h
      case hw8 => rfl
      case hy8 => (intro w hSw; (try dsimp only at hSw); go_simp; try rfl)
      simp only [Act.put, List.setIfInBounds_toArray, List.set_cons_zero, List.set_cons_succ]
      refine wpAnyH_take (i := 9) (oi := ?oi9) (v := ?v9) ?hi9 (by kernel_rfl) (by kernel_rfl) (by kernel_rfl) ?hQ9 (Or.inl ⟨?hw9, ?hy9⟩) hHeld ?rest9
      case hi9 => simp only [List.getElem?_toArray, List.getElem?_cons_succ, List.getElem?_cons_zero]; rfl
      case hQ9 => exact fun _ _ _ h => h
      case hw9 => rfl
      case hy9 => (intro w hSw; (try dsimp only at hSw); go_simp; try rfl)
      simp only [Act.put, List.setIfInBounds_toArray, List.set_cons_zero, List.set_cons_succ]
      refine wpAnyH_take (i := 10) (oi := ?oi10) (v := ?v10) ?hi10 (by kernel_rfl) (by kernel_rfl) (by kernel_rfl) ?hQ10 (Or.inl ⟨?hw10, ?hy10⟩) hHeld ?rest10
      case hi10 => simp only [List.getElem?_toArray, List.getElem?_cons_succ, List.getElem?_cons_zero]; rfl
      case hQ10 => exact fun _ _ _ h => h
      case hw10 => rfl
      case hy10 => (intro w hSw; (try dsimp only at hSw); go_simp; try rfl)
      simp only [Act.put, List.setIfInBounds_toArray, List.set_cons_zero, List.set_cons_succ]
      refine wpAnyH_ready (rs := [5]) (by kernel_rfl) (by simp) ?_
      refine AllReadyH.cons (o := ?oi5) ?hi5 (fun K hK => ?_) AllReadyH.nil
      case hi5 => simp only [List.getElem?_toArray, List.getElem?_cons_succ, List.getElem?_cons_zero]; rfl
      go_simp
      go_at_call 13
      refine (CP.out _ (Blk.drew hI) ⟨HTR.out.a, HTR.out.b, HTR.out.c⟩).mono ?_
      rintro e w4 ⟨rfl, u4, hI4⟩
      have hcn4 := ((u4.below (w0 := w) (B := w.heap.size) ⟨HB.out.os, HB.out.tape, HB.out.output, HB.out.size, HB.out.block⟩ hsz1 hwr).cell (p := ⟨b, off + k, none⟩) HBL.out).trans HCN.out
      refine hK.out _ _ hcn4 (fun hHeld4 => ?_)
      clear hK K
      try simp only [Act.put, List.setIfInBounds_toArray, List.set_cons_zero, List.set_cons_succ]
      refine wpAnyH_ready (rs := [11]) (by kernel_rfl) (by simp) ?_
      refine AllReadyH.cons (o := ?oi11) ?hi11 (fun K hK => ?_) AllReadyH.nil
      case hi11 => simp only [List.getElem?_toArray, List.getElem?_cons_succ, List.getElem?_cons_zero]; rfl
      go_simp
      go_at_call 14
      refine (CX.out _ (u4.blk (Blk.drew hX) (Ne.symm hne))).mono ?_
      rintro e w5 ⟨rfl, u5, hX5⟩
      have hcn5 := ((u5.below ((u4.below (w0 := w) (B := w.heap.size) ⟨HB.out.os, HB.out.tape, HB.out.output, HB.out.size, HB.out.block⟩ hsz1 hwr)) hBx (Nat.le_trans hwr u4.size)).cell (p := ⟨b, off + k, none⟩) HBL.out).trans HCN.out
      have hI5 := u5.blk hI4 hne
      have x1 := Blk.cell hX5 1
      have x2 := Blk.cell hX5 2
      simp [RS.cs] at x1 x2
      refine hK.out _ _ hcn5 (fun hHeld5 => ?_)
      clear hK K
      try simp only [Act.put, List.setIfInBounds_toArray, List.set_cons_zero, List.set_cons_succ]
      refine anyH_tail 12 (by rfl) (by kernel_rfl) (by kernel_rfl) (fun j => hcn5) ?_
      simp only [List.drop_succ_cons, List.drop_zero]
      repeat (go_big_quiet_step (first
        | (go_at_call 15; exact Calls.quiet_eq (cursor_fault br _ _ (Blk.drew hI5)))
        | (go_at_call 16; exact Calls.quiet_eq (cursor_at br _ _ (Blk.drew hI5)))))
      refine wpQuiet_nil ?_
      rintro w' ⟨j, rfl⟩
      go_wp2_with fail
      go_roundw
      case rel =>
        have hBB := (u5.below (u4.below (w0 := w) (B := w.heap.size) ⟨HB.out.os, HB.out.tape, HB.out.output, HB.out.size, HB.out.block⟩ hsz1 hwr) hBx (Nat.le_trans hwr u4.size))
        exact ⟨k + 1, ⟨t2, p2, f2⟩, by go_num, by omega, hok2, ht2, Blk.drewN hI5 j, Blk.drewN hX5 j, ⟨hBB.os, hBB.tape, hBB.output, hBB.size, hBB.block⟩⟩
      case measure => simp [intOf]; omega
    · go_wp2_with fail
      refine (comp_read_nil _ _).mono ?_
      rintro e w' ⟨rfl, rfl⟩
      go_wp2_with fail
      go_returns
      exact ⟨rfl, hB⟩
end Go.Proofs.YtknokfofjhlkeaaDoor
