/- The walk of PartsCuts. -/
import Derived.Test.YtemfecdpjegocaaJAlive
import Derived.Test.YtemfecdpjegocaaRefCut
namespace Go.Proofs.Ytemfecdpjegocaa
open Go.RowKit Go.Maps
set_option linter.unusedVariables false
set_option linter.unusedSimpArgs false

set_option maxRecDepth 100000 in
theorem law_plain (p : Pt) (w : World) : Calls Try.prog 13 #[.agg p.cs] w fun en w' => en = .returned (.agg p.cs) ∧ Below w.heap.size w w' := by
  obtain ⟨i, n, o, T⟩ := p
  simp only [Pt.cs]
  obtain ⟨g, hg⟩ : ∃ g, w.heap.size = g := ⟨_, rfl⟩
  have hb : Hid (Below g w ((w.alloc (.cells #[.int .i64 i, .int .i64 n, .int .i64 o, .string T] 33)).alloc (.cells #[.int .i64 i, .int .i64 n, .int .i64 o, .string T] 31))) :=
    (((Below.refl _ _).alloc (by omega) _).alloc (by simp; omega) _)
  have hk := Blk.new (w.alloc (.cells #[.int .i64 i, .int .i64 n, .int .i64 o, .string T] 33)) #[.int .i64 i, .int .i64 n, .int .i64 o, .string T] 31
  rw [World.size_alloc, hg] at hk
  have HK := Lib.hid hk
  clear hk
  go_enter Try.func13, Try.ntmps13
  go_wp2_with fail
  have d0 := HK.out.cell 0
  have d1 := HK.out.cell 1
  have d2 := HK.out.cell 2
  have d3 := HK.out.cell 3
  generalize (w.alloc (.cells #[.int .i64 i, .int .i64 n, .int .i64 o, .string T] 33)).alloc (.cells #[.int .i64 i, .int .i64 n, .int .i64 o, .string T] 31) = wf at *
  simp at d0 d1 d2 d3
  refine bodyPost_ret (v := .agg #[.int .i64 i, .int .i64 n, .int .i64 o, .string T]) (by simp [results, Try.results13, go_sem, d0, d1, d2, d3]) rfl ⟨rfl, hg ▸ hb.out⟩

set_option maxRecDepth 100000 in
theorem parts_cuts_far (id : Int) (s : ByteArray) (size : Int) (w : World) (h : 3000 < s.size) (hs : s.size ≤ maxLen) :
    Calls Try.prog 3 #[.int .i64 id, .string s, .int .i64 size] w fun e w' => e = .returned (.bool true) ∧ Below w.heap.size w w' := by
  unfold maxLen at hs
  have d : decide (3000 < (s.size : Int)) = true := by simp; omega
  go_enter Try.func3, Try.ntmps3
  go_wp2_with fail
  refine (parts_alive _).mono ?_
  rintro e w1 ⟨rfl, hb1⟩
  go_wp2_with fail
  go_returns
  exact ⟨rfl, hb1⟩

set_option maxRecDepth 100000 in
set_option maxHeartbeats 1000000 in
theorem parts_cuts_bad (id : Int) (s : ByteArray) (size : Int) (w : World) (h : ¬ 3000 < s.size) (hbad : badCut id size) :
    Calls Try.prog 3 #[.int .i64 id, .string s, .int .i64 size] w fun e w' => e = .returned (.bool true) ∧ Below w.heap.size w w' := by
  have d : decide (3000 < (s.size : Int)) = false := by simp; omega
  have C1 := Lib.hid (fun w => cut_bad id s size w hbad)
  have C2 := Lib.hid (fun w => rcut_bad id s size w hbad)
  have hle : s.size ≤ 3000 := by omega
  clear hbad h
  go_enter Try.func3, Try.ntmps3
  go_wp2_with fail
  refine (parts_alive _).mono ?_
  rintro e w1 ⟨rfl, hb1⟩
  go_wp2_with fail
  refine (C1.out _).mono ?_
  rintro e w2 ⟨rfl, hb2⟩
  go_wp2_with fail
  refine (C2.out _).mono ?_
  rintro e w3 ⟨rfl, hb3⟩
  have HB := Lib.hid ((hb1.trans (hb2.mono hb1.size)).trans (hb3.mono (Nat.le_trans hb1.size hb2.size)))
  clear hb1 hb2 hb3
  go_wp2_with fail
  go_loopw [11] (fun iv wi => iv = .int .i64 0 ∧ wi = w3) (fun _ _ => 0)
  case atStart => exact ⟨rfl, rfl⟩
  case round =>
    obtain ⟨rfl, rfl⟩ := hrel
    go_wp2_with fail
    go_returns
    exact ⟨rfl, HB.out⟩

set_option maxRecDepth 100000 in
set_option maxHeartbeats 2000000 in
theorem parts_cuts_near (id : Int) (s : ByteArray) (size : Nat) (w : World) (h : ¬ 3000 < s.size) (hok : ¬ badCut id size) :
    Calls Try.prog 3 #[.int .i64 id, .string s, .int .i64 size] w fun e w' => e = .returned (.bool true) ∧ Below w.heap.size w w' := by
  have d : decide (3000 < (s.size : Int)) = false := by simp; omega
  have C1 := Lib.hid (fun w => cut_right id s size w hok (by omega))
  have C2 := Lib.hid (fun w => rcut_right id s size w hok (by omega))
  have hle : s.size ≤ 3000 := by omega
  clear hok h
  go_enter Try.func3, Try.ntmps3
  go_wp2_with fail
  refine (parts_alive _).mono ?_
  rintro e w1 ⟨rfl, hb1⟩
  go_wp2_with fail
  refine (C1.out _).mono ?_
  rintro e w2 ⟨hb2, hc2⟩
  obtain ⟨L, hL⟩ : ∃ L, cutL id s size = L := ⟨_, rfl⟩
  rw [hL] at hc2
  have HB2 := Lib.hid (hb1.trans (hb2.mono hb1.size))
  clear hb1 hb2
  rcases hc2 with ⟨hbig, rfl⟩ | ⟨hsm, v, rfl, hown⟩
  · go_wp2_with fail
    refine (C2.out _).mono ?_
    rintro e w3 ⟨hb3, ⟨_, rfl⟩ | ⟨hsm, _⟩⟩
    case inr => rw [hL] at hsm; omega
    have HB3 := Lib.hid (HB2.out.trans (hb3.mono HB2.out.size))
    clear hb3
    go_wp2_with fail
    go_loopw [11] (fun iv wi => iv = .int .i64 0 ∧ wi = w3) (fun _ _ => 0)
    case atStart => exact ⟨rfl, rfl⟩
    case round =>
      obtain ⟨rfl, rfl⟩ := hrel
      go_wp2_with fail
      go_returns
      exact ⟨rfl, HB3.out⟩
  · obtain ⟨ao, cap, hv⟩ := hown.ps.slice
    subst hv
    have hps := Lib.hid hown.ps
    clear hown
    go_wp2_with fail
    refine (C2.out _).mono ?_
    rintro e w3 ⟨hb3, ⟨hbig, _⟩ | ⟨_, v2, rfl, hps2⟩⟩
    · rw [hL] at hbig; omega
    rw [hL] at hps2
    obtain ⟨ao2, cap2, hv2⟩ := hps2.slice
    subst hv2
    have hps3 := Lib.hid (hps.out.below hb3)
    have hps2' := Lib.hid hps2
    have HB3 := Lib.hid (HB2.out.trans (hb3.mono HB2.out.size))
    clear hb3 hps hps2 HB2
    obtain ⟨g3, hg3⟩ : ∃ g3, w3.heap.size = g3 := ⟨_, rfl⟩
    go_wp2_with fail
    go_loopw [11] (fun iv wi => ∃ k : Nat, iv = .int .i64 k ∧ k ≤ L.length ∧ Hid (Below g3 w3 wi)) (fun iv _ => L.length - (intOf iv).toNat)
    case atStart => exact ⟨0, rfl, by omega, Below.refl _ _⟩
    case round =>
      obtain ⟨k, rfl, hk, hbk⟩ := hrel
      by_cases c : k < L.length
      · have hpr := Lib.hid (hps3.out.below (hg3 ▸ hbk.out))
        have hpr2 := Lib.hid (hps2'.out.below (hg3 ▸ hbk.out))
        obtain ⟨ga, oa, rfl, hla, a0, a1, a2, a3⟩ := hpr.out.at_ c
        obtain ⟨gb, ob, rfl, hlb, b0, b1, b2, b3⟩ := hpr2.out.at_ c
        have PC := Lib.hid (fun w => law_plain L[k] w)
        have xa0 := fun x : Fut wr => (x.is.cell (p := ⟨ga, oa + k * 4, none⟩) hla).trans a0
        have xa1 := fun x : Fut wr => (x.is.cell (p := ⟨ga, oa + k * 4 + 1, none⟩) hla).trans a1
        have xa2 := fun x : Fut wr => (x.is.cell (p := ⟨ga, oa + k * 4 + 2, none⟩) hla).trans a2
        have xa3 := fun x : Fut wr => (x.is.cell (p := ⟨ga, oa + k * 4 + 3, none⟩) hla).trans a3
        have xb0 := fun x : Fut wr => (x.is.cell (p := ⟨gb, ob + k * 4, none⟩) hlb).trans b0
        have xb1 := fun x : Fut wr => (x.is.cell (p := ⟨gb, ob + k * 4 + 1, none⟩) hlb).trans b1
        have xb2 := fun x : Fut wr => (x.is.cell (p := ⟨gb, ob + k * 4 + 2, none⟩) hlb).trans b2
        have xb3 := fun x : Fut wr => (x.is.cell (p := ⟨gb, ob + k * 4 + 3, none⟩) hlb).trans b3
        clear a0 a1 a2 a3 b0 b1 b2 b3
        generalize L[k] = q at *
        obtain ⟨qi, qn, qo, qT⟩ := q
        simp only [Pt.cs] at PC
        simp only at xa0 xa1 xa2 xa3 xb0 xb1 xb2 xb3
        go_upto_region 12 with fail
        refine wp_region_after (by kernel_rfl) (by kernel_rfl) ?_
        repeat (go_big_quiet_step (exact Calls.after (PC.out _)))
        refine wpQuiet_nil ?_
        intro x
        have hbx : Hid (Below g3 w3 x.at_) := hbk.out.trans (x.is.mono (by have := hbk.out.size; omega))
        go_wp2_with fail
        go_roundw
        case rel => exact ⟨k + 1, by go_num, by omega, hbx⟩
        case measure => simp [intOf]; omega
      · obtain rfl : k = L.length := by omega
        go_wp2_with fail
        go_returns
        exact ⟨rfl, HB3.out.trans (hbk.out.mono (by have := HB3.out.size; omega))⟩

theorem parts_cuts (id : Int) (s : ByteArray) (size : Int) (w : World) (h1 : (Lit.int .i64 id).wf = true) (h2 : s.size ≤ maxLen) (h3 : (Lit.int .i64 size).wf = true) :
    Calls Try.prog 3 #[.int .i64 id, .string s, .int .i64 size] w fun e w' => e = .returned (.bool true) ∧ Below w.heap.size w w' := by
  by_cases h : 3000 < s.size
  · exact parts_cuts_far id s size w h h2
  · by_cases hb : badCut id size
    · exact parts_cuts_bad id s size w h hb
    · obtain ⟨m, rfl⟩ : ∃ m : Nat, size = m := ⟨size.toNat, by unfold badCut at hb; omega⟩
      exact parts_cuts_near id s m w h hb
end Go.Proofs.Ytemfecdpjegocaa
