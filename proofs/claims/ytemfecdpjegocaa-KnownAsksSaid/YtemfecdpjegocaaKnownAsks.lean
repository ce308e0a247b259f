/- The walk of KnownAsks. -/
import Derived.Test.YtemfecdpjegocaaAskInv
import Derived.Test.YtemfecdpjegocaaRefSame
import Derived.Test.YtemfecdpjegocaaTree
namespace Go.Proofs.Ytemfecdpjegocaa
open Go.RowKit Go.Shelf
set_option linter.unusedVariables false
set_option linter.unusedSimpArgs false

set_option maxRecDepth 100000 in
theorem known_asks_far {w : World} {v1 v2 : Value} {ss ts : List ByteArray} (r1 : RS w v1 ss) (r2 : RS w v2 ts) (h : 40 < ss.length ∨ 60 < ts.length) :
    Calls Try.prog 5 #[v1, v2] w fun e w' => e = .returned (.bool true) ∧ Below w.heap.size w w' := by
  obtain ⟨ao, cap, rfl⟩ := r1.slice
  obtain ⟨ao2, cap2, rfl⟩ := r2.slice
  clear r1 r2
  have hb : (decide (40 < (ss.length : Int)) = true) ∨ (decide (40 < (ss.length : Int)) = false ∧ decide (60 < (ts.length : Int)) = true) := by
    by_cases h : 40 < ss.length
    · exact .inl (by simp; omega)
    · exact .inr ⟨by simp; omega, by simp; omega⟩
  clear h
  rcases hb with h0 | ⟨h0, h1⟩
  all_goals
    go_enter Try.func5, Try.ntmps5
    go_wp2_with fail
    refine (known_alive _).mono ?_
    rintro e w1 ⟨rfl, hb1⟩
    go_wp2_with fail
    go_returns
    exact ⟨rfl, hb1⟩

set_option maxRecDepth 100000 in
set_option maxHeartbeats 4000000 in
theorem known_asks_near (T : ByteArray → ByteArray) (KA : Array Value) (hT : ∀ s : ByteArray, s.size ≤ 100000 → SumOf s (T s))
    (hR : ∀ s : ByteArray, s.size ≤ 100000 → ∀ w, Calls Try.prog 21 #[.agg KA, .string s] w fun e w' => e = .returned (.string (T s)) ∧ Below w.heap.size w w')
    (hK : ∀ w, Calls Try.prog 19 #[] w fun e w' => e = .returned (.agg KA) ∧ Below w.heap.size w w')
    (hsz : (Try.prog.info? 47).map (·.size) = some KA.size) (hone : KA.all (·.oneCell') = true)
    {w : World} {v1 v2 : Value} {ss ts : List ByteArray} (r1 : RS w v1 ss) (r2 : RS w v2 ts) (h0 : ss.length ≤ 40) (h1 : ts.length ≤ 60) :
    Calls Try.prog 5 #[v1, v2] w fun e w' => e = .returned (.bool true) ∧ Below w.heap.size w w' := by
  obtain ⟨ao, cap, rfl⟩ := r1.slice
  obtain ⟨ao2, cap2, rfl⟩ := r2.slice
  have hz := (zero_of_info (P := Try.prog) key_info).1
  have hZs : (kA (List.replicate 72 0)).size = KA.size := by
    have h1 := (zero_of_info (P := Try.prog) key_info).2
    rw [hsz] at h1
    rw [kA_size, List.length_replicate]; exact (Option.some.inj h1).symm
  generalize kA (List.replicate 72 0) = Z at *
  have R1 := Lib.hid r1
  have R2 := Lib.hid r2
  have HT := Lib.hid hT
  have HR := Lib.hid hR
  have CK := Lib.hid hK
  have CN : Hid (∀ w, Calls Try.prog 15 #[.int .i64 1024] w fun en w' => en = .returned (.tuple #[.pointer (some ⟨w.heap.size + 1, 0, none⟩), .int .i64 0]) ∧ KS w.heap.size 0 1024 w w' []) := fun w => ks_new 1024 w (by omega)
  have HH := Lib.hid (And.intro hsz (And.intro hone hZs))
  clear r1 r2 hT hR hK hsz hone hZs
  have d0 : decide (40 < (ss.length : Int)) = false := by simp; omega
  have d1 : decide (60 < (ts.length : Int)) = false := by simp; omega
  go_enter Try.func5, Try.ntmps5
  go_wp2_with fail
  refine (known_alive _).mono ?_
  rintro e w1 ⟨rfl, hb1⟩
  go_wp2_with fail
  refine (CN.out _).mono ?_
  rintro e w2 ⟨rfl, k2⟩
  have hs1 := hb1.size
  have HB1 := Lib.hid hb1
  have K2 := Lib.hid k2
  have hlt2 := k2.1.row.bd.lt
  clear hb1 k2 CN
  obtain ⟨B, hB⟩ : ∃ B, w1.heap.size = B := ⟨_, rfl⟩
  rw [hB] at K2 hs1 hlt2 ⊢
  go_wp2_with fail
  refine (CK.out _).mono ?_
  rintro e w3 ⟨rfl, hb3⟩
  obtain ⟨g, hg⟩ : ∃ g, w3.heap.size = g := ⟨_, rfl⟩
  have hblk : Hid (Blk (w3.alloc (.cells Z 47)) g Z 47) := hg ▸ Blk.new w3 Z _
  have hbl : Hid (Below w2.heap.size w2 (w3.alloc (.cells Z 47))) := hb3.alloc hb3.size _
  have hgw : w2.heap.size ≤ g := hg ▸ hb3.size
  clear hb3
  go_wp2_with (refine wpList_store_row rfl 47 (.tmp 7) (.tmp 26) rfl g KA rfl rfl _ Z hblk.out HH.out.1 HH.out.2.2 HH.out.2.1 ?_; try clear hz)
  have hk4 : Blk ((w3.alloc (.cells Z 47)).setRow g KA) g KA 47 := hblk.out.setRow KA
  have hb4 : Below w2.heap.size w2 ((w3.alloc (.cells Z 47)).setRow g KA) := Below.setRow hbl.out hgw KA
  generalize (w3.alloc (.cells Z 47)).setRow g KA = w4 at *
  have hI : Hid (AskInv B g 0 KA w1 w4 [] (.slice none 0 0) [] []) := by
    have k4 := K2.out.after hb4
    refine ⟨k4.1, k4.2.1, hk4, fun ho => ?_, .inl ⟨rfl, none, 0, rfl⟩, fun b hb => (by cases hb), .inl rfl, fun t => rfl, Nat.le_refl _, k4.2.2⟩
    rcases ho with ho | ho | ho
    · omega
    · omega
    · cases ho
  clear hk4 hb4 hblk hbl hg hgw K2 hlt2 w3 w2
  go_loopw [8, 9] (fun rv iv wi => ∃ (k : Nat) (R : List (Nat × List UInt8)) (row : List ByteArray), iv = .int .i64 k ∧ k ≤ ss.length ∧ Hid (AskInv B g k KA w1 wi R rv row row)) (fun _ iv _ => ss.length - (intOf iv).toNat)
  case atStart => exact ⟨0, [], [], rfl, by omega, hI⟩
  case round =>
    clear hI w4
    obtain ⟨k, R, row, rfl, hk, hI⟩ := hrel
    obtain ⟨ao3, cap3, hv3⟩ := hI.out.rs.slice
    subst hv3
    have hlt := hI.out.lt
    have hbw : Hid (Below w.heap.size w wr) := HB1.out.trans (hI.out.bel.mono hs1)
    by_cases c : k < ss.length
    · obtain ⟨b, off, rfl, hbl, hc⟩ := R1.out.at_ c
      have hcr : wr.cell? ⟨b, off + k, none⟩ = some (.string ss[k]) := (hbw.out.cell (p := ⟨b, off + k, none⟩) hbl).trans hc
      have hbr : b < wr.heap.size := by omega
      have HC := Lib.hid hc
      clear hc
      generalize ss[k] = y at *
      by_cases h200 : 200 < y.size
      · go_wp2_with fail
        go_returns
        exact ⟨rfl, hbw.out⟩
      · have d200 : decide (200 < (y.size : Int)) = false := by simp; omega
        have cs := Lib.hid (HT.out y (by omega))
        have cr := Lib.hid (HR.out y (by omega))
        have hTy := Lib.hid (HT.out y (by omega)).1
        generalize T y = t at *
        clear h200
        go_wp2_with fail
        refine (ask_set hI.out (by omega) y t cs.out).mono ?_
        rintro en w2 ⟨bo, R', rfl, hi2⟩
        have hl1 := Lib.hid hI.out.len
        have hi2 := Lib.hid hi2
        have hbw2 : Hid (Below w.heap.size w w2) := HB1.out.trans (hi2.out.bel.mono hs1)
        have hbl2 : b < w2.heap.size := Nat.lt_of_lt_of_le hbl hbw2.out.size
        have hc2 : w2.cell? ⟨b, off + k, none⟩ = some (.string y) := (hbw2.out.cell (p := ⟨b, off + k, none⟩) hbl).trans HC.out
        have hx1 : ∀ x : Fut w2, x.at_.cell? ⟨b, off + k, none⟩ = some (.string y) := fun x => (x.is.cell (p := ⟨b, off + k, none⟩) hbl2).trans hc2
        have hkx : Hid (∀ W, (∃ x : Fut w2, W = x.at_) → Blk W g KA 47) := by
          rintro _ ⟨x, rfl⟩
          exact Below.blk x.is hi2.out.key hi2.out.key.lt
        clear hcr hbr hlt hbw HC hbl
        go_upto_region 14 with fail
        refine wp_region_after_tree 7 _ (by kernel_rfl) (by kernel_rfl) rfl ?_
        simp only [List.take_succ_cons, List.take_zero, List.drop_succ_cons, List.drop_zero]
        go_big_quiet_step (fail)
        go_big_quiet_want
        refine quiet_load_row 47 (.tmp 7) rfl g rfl _ KA _ hkx.out Try.underlying47 rfl HH.out.1 ?_
        go_big_quiet_on
        simp only [Act.put, List.setIfInBounds_toArray, List.set_cons_zero, List.set_cons_succ]
        repeat (go_big_quiet_step (exact Calls.after (cr.out _)))
        refine wpQuiet_nil ?_
        intro x Q2 hQ2
        have hix := Lib.hid (hi2.out.after x.is)
        go_wp2_with fail
        have hca := ref_add31 hix.out.rs hix.out.rv0 (by have := hix.out.len; omega) t
        refine hca.mono ?_
        rintro en w3 ⟨v', b', rfl, hra, hb3⟩
        have hI3 := Lib.hid (ask_row hix.out hl1.out hra hb3)
        clear hra hb3 hix hi2 hI hkx hx1 hc2 hca
        go_wp2_with fail
        repeat (go_big_quiet_step (fail))
        refine wpQuiet_nil ?_
        go_wp2_with fail
        exact ⟨⟨k + 1, R', addL row t, by go_num, by omega, hI3⟩, by simp [intOf]; omega⟩
    · obtain rfl : k = ss.length := by omega
      clear c hbw
      generalize wr = wq at *
      obtain ⟨B2, hB2⟩ : ∃ B2, wq.heap.size = B2 := ⟨_, rfl⟩
      have hBB : B ≤ B2 := by omega
      clear hlt
      go_wp2_with fail
      go_loopw [10, 11] (fun av iv wi => ∃ (j : Nat) (acc : List ByteArray), iv = .int .i64 j ∧ j ≤ ts.length ∧ Hid (acc.length = 2 * j ∧ ∀ t ∈ acc, t.size ≤ 1000) ∧ Hid (OwnS wi B2 9 av acc) ∧ Hid (Below B2 wq wi)) (fun _ iv _ => ts.length - (intOf iv).toNat)
      case atStart => exact ⟨0, [], rfl, by omega, ⟨rfl, fun t h => (by cases h)⟩, OwnS.nil _ _ _, Below.refl _ _⟩
      case round =>
        obtain ⟨j, acc, rfl, hj, hacc, hown, hbq⟩ := hrel
        have hbw : Hid (Below w.heap.size w wr) := HB1.out.trans ((hI.out.bel.trans (hbq.out.mono hBB)).mono hs1)
        have hIr : Hid (AskInv B g ss.length KA w1 wr R _ row row) := hI.out.after (hB2 ▸ hbq.out)
        have hBr : B2 ≤ wr.heap.size := by have := hbq.out.size; omega
        obtain ⟨ao5, cap5, hv5⟩ := hown.out.rs.slice
        subst hv5
        by_cases c : j < ts.length
        · obtain ⟨b, off, rfl, hbl, hc⟩ := R2.out.at_ c
          have hcr : wr.cell? ⟨b, off + j, none⟩ = some (.string ts[j]) := (hbw.out.cell (p := ⟨b, off + j, none⟩) hbl).trans hc
          have hbr : b < wr.heap.size := Nat.lt_of_lt_of_le hbl hbw.out.size
          clear hc
          generalize ts[j] = y at *
          by_cases h200 : 200 < y.size
          · go_wp2_with fail
            go_returns
            exact ⟨rfl, hbw.out⟩
          · have d200 : decide (200 < (y.size : Int)) = false := by simp; omega
            have cr := Lib.hid (HR.out y (by omega))
            have hTy := (HT.out y (by omega)).1
            generalize T y = t at *
            have hac2 : Hid ((acc ++ [y, t]).length = 2 * (j + 1) ∧ ∀ t' ∈ acc ++ [y, t], t'.size ≤ 1000) := by
              refine ⟨by rw [List.length_append, hacc.out.1]; simp; omega, fun t' ht' => ?_⟩
              rcases List.mem_append.1 ht' with h | h
              · exact hacc.out.2 t' h
              · simp at h
                rcases h with rfl | rfl
                · omega
                · exact hTy
            have hal : acc.length + 2 ≤ 1000000 := by have := hacc.out.1; omega
            have hx1 : ∀ x : Fut wr, x.at_.cell? ⟨b, off + j, none⟩ = some (.string y) := fun x => (x.is.cell (p := ⟨b, off + j, none⟩) hbr).trans hcr
            have hkx : Hid (∀ W, (∃ x : Fut wr, W = x.at_) → Blk W g KA 47) := by
              rintro _ ⟨x, rfl⟩
              exact Below.blk x.is hIr.out.key hIr.out.key.lt
            clear h200 hTy
            go_upto_region 21 with fail
            refine wp_region_after_tail1 11 _ (.slice ao5 acc.length cap5) (by kernel_rfl) (by kernel_rfl) rfl (.inl ⟨rfl, fun w => rfl⟩) (fun _ _ _ h => h) ?_
            simp only [List.take_succ_cons, List.take_zero, List.drop_succ_cons, List.drop_zero, Act.put, List.setIfInBounds_toArray, List.set_cons_zero, List.set_cons_succ]
            go_big_quiet_step (fail)
            go_big_quiet_step (fail)
            go_big_quiet_step (fail)
            go_big_quiet_step (fail)
            go_big_quiet_want
            refine quiet_load_row 47 (.tmp 7) rfl g rfl _ KA _ hkx.out Try.underlying47 rfl HH.out.1 ?_
            go_big_quiet_on
            simp only [Act.put, List.setIfInBounds_toArray, List.set_cons_zero, List.set_cons_succ]
            repeat (go_big_quiet_step (exact Calls.after (cr.out _)))
            refine wpQuiet_nil ?_
            intro x
            have hownx : Hid (OwnS x.at_ B2 9 (.slice ao5 acc.length cap5) acc) := hown.out.below x.is
            have hbx : Hid (Below B2 wq x.at_) := hbq.out.trans (x.is.mono hBr)
            have hBx : B2 ≤ x.at_.heap.size := by have := x.is.size; omega
            clear hown hbq hkx hx1 hcr
            go_wp2_with (at_builtin; refine append_strs strs_types rfl (.tmp 68) (.tmp 79) rfl B2 _ acc [y, t] 2 rfl x.at_ _ rfl rfl hownx.out rfl hal hBx ?_; intro v' w' hown' hb' hsz')
            go_roundw
            case rel => exact ⟨j + 1, acc ++ [y, t], by go_num, by omega, hac2, hown', hbx.out.trans hb'⟩
            case measure => simp [intOf]; omega
        · obtain rfl : j = ts.length := by omega
          have hal : acc.length ≤ 1000 := by have := hacc.out.1; omega
          have hfe : (fun t : ByteArray => hasR R t.data.toList) = (fun t => decide (t ∈ row)) := funext hIr.out.link
          have ka := known_ask hIr.out.set hown.out.rs (by omega) hacc.out.2
          rw [hfe] at ka
          have KAA := Lib.hid ka
          clear ka hfe
          go_wp2_with fail
          refine KAA.out.mono ?_
          rintro en w5 ⟨va, rfl, hra, hb5⟩
          have hI5 := Lib.hid (hIr.out.after hb5)
          have hra := Lib.hid hra
          have hacc5 : Hid (RS w5 _ acc) := hown.out.rs.below hb5
          have hb05 : Hid (Below w.heap.size w w5) := hbw.out.trans (hb5.mono hbw.out.size)
          clear hb5
          go_wp2_with fail
          refine (ref_ask hI5.out.rs hacc5.out (by have := hI5.out.len; omega) (by omega)).mono ?_
          rintro en w6 ⟨vb, rfl, hrb, hb6⟩
          have hra6 := Lib.hid (hra.out.below hb6)
          have hrb := Lib.hid hrb
          have hb06 : Hid (Below w.heap.size w w6) := hb05.out.trans (hb6.mono hb05.out.size)
          have hkl := askK_len (fun t => decide (t ∈ row)) acc acc.length (Nat.le_refl _)
          clear hb6
          go_wp2_with fail
          refine (law_same hra6.out hrb.out (by omega)).mono ?_
          rintro en w7 ⟨rfl, hb7⟩
          go_wp2_with fail
          go_returns
          exact ⟨rfl, hb06.out.trans (hb7.mono hb06.out.size)⟩

theorem known_asks (a0 : Option Addr) (len0 cap0 : Nat) (ss : List ByteArray) (a1 : Option Addr) (len1 cap1 : Nat) (ts : List ByteArray) (w : World) (h0 : IsStrs w a0 len0 ss) (h1 : IsStrs w a1 len1 ts) :
    Calls Try.prog 5 #[.slice a0 len0 cap0, .slice a1 len1 cap1] w fun e w' => e = .returned (.bool true) ∧ Below w.heap.size w w' := by
  have r1 := strs_rs (cap := cap0) h0
  have r2 := strs_rs (cap := cap1) h1
  by_cases h : 40 < ss.length ∨ 60 < ts.length
  · exact known_asks_far r1 r2 h
  · exact known_asks_near (fun s => ⟨(twiceN s.data.toList).toArray⟩) (kA keyN) (fun s hs => sum_of s hs) (fun s hs w => ref_sum31 _ _ doc_by s w hs) (fun w => ref_key w) doc_by.size doc_by.one r1 r2 (by omega) (by omega)
end Go.Proofs.Ytemfecdpjegocaa
