/- The walk of KnownPlays. -/
import Derived.Test.YtemfecdpjegocaaPlayInv
import Derived.Test.YtemfecdpjegocaaTree
namespace Go.Proofs.Ytemfecdpjegocaa
open Go.RowKit Go.Shelf
set_option linter.unusedVariables false
set_option linter.unusedSimpArgs false

/-- The acts that came in: kinds and bodies. -/
def IsKActs (w : World) (a : Option Addr) (len : Nat) : Prop := len ≤ maxLen ∧ ∀ i, i < len → ∃ b off K y, a = some ⟨b, off, none⟩ ∧ b < w.heap.size ∧
  w.cell? ⟨b, off + i * 2, none⟩ = some (.int .u8 K) ∧ (Lit.int .u8 K).wf = true ∧ w.cell? ⟨b, off + i * 2 + 1, none⟩ = some (.string y) ∧ y.size ≤ maxLen

theorem u8_of_wf' {x : Int} (h : (Lit.int .u8 x).wf = true) : 0 ≤ x ∧ x ≤ 255 := by
  simpa [Lit.wf, IntKind.min, IntKind.max, IntKind.signed, IntKind.bits] using h

set_option maxRecDepth 100000 in
theorem known_plays_far {w : World} {ao : Option Addr} {len cap : Nat} (room at_ : Int) (hl : len ≤ maxLen) (h : 60 < len) :
    Calls Try.prog 6 #[.int .i64 room, .slice ao len cap, .int .i64 at_] w fun e w' => e = .returned (.bool true) ∧ Below w.heap.size w w' := by
  have d0 : decide (60 < (len : Int)) = true := by simp; omega
  unfold maxLen at hl
  go_enter Try.func6, Try.ntmps6
  go_wp2_with fail
  refine (known_alive _).mono ?_
  rintro e w1 ⟨rfl, hb1⟩
  go_wp2_with fail
  go_returns
  exact ⟨rfl, hb1⟩

set_option maxRecDepth 100000 in
set_option maxHeartbeats 1000000 in
theorem known_plays_bad {w : World} {ao : Option Addr} {len cap : Nat} (room at_ : Int) (h : ¬ 60 < len) (hr : room < 1 ∨ 1024 < room) :
    Calls Try.prog 6 #[.int .i64 room, .slice ao len cap, .int .i64 at_] w fun e w' => e = .returned (.bool true) ∧ Below w.heap.size w w' := by
  have d0 : decide (60 < (len : Int)) = false := by simp; omega
  have CN := Lib.hid (fun w => known_new_bad room w hr)
  have hb : decide (room < 1) = true ∨ (decide (room < 1) = false ∧ decide (1024 < room) = true) := by
    by_cases c : room < 1
    · exact .inl (by simp; exact c)
    · exact .inr ⟨by simp; omega, by simp; omega⟩
  clear hr h
  rcases hb with h0 | ⟨h0, h1⟩
  all_goals
    go_enter Try.func6, Try.ntmps6
    go_wp2_with fail
    refine (known_alive _).mono ?_
    rintro e w1 ⟨rfl, hb1⟩
    have HB1 := Lib.hid hb1
    clear hb1
    go_wp2_with fail
    refine (CN.out _).mono ?_
    rintro e w2 ⟨rfl, rfl⟩
    go_wp2_with fail
    refine (nil_sum 0 _).mono ?_
    rintro e w3 ⟨rfl, rfl⟩
    go_wp2_with fail
    refine (nil_add _ _).mono ?_
    rintro e w4 ⟨rfl, rfl⟩
    go_wp2_with fail
    refine (nil_has _ _).mono ?_
    rintro e w5 ⟨rfl, hb5⟩
    have HB5 := Lib.hid (HB1.out.trans (hb5.mono HB1.out.size))
    clear hb5
    go_wp2_with fail
    refine (nil_touch _ _).mono ?_
    rintro e w6 ⟨rfl, rfl⟩
    go_wp2_with fail
    refine (nil_len _).mono ?_
    rintro e w7 ⟨rfl, rfl⟩
    have HB8 : Hid (Below w.heap.size w (w7.alloc (.cells #[.string ⟨#[97]⟩] 9))) := HB5.out.alloc HB5.out.size _
    go_wp2_with fail
    refine (nil_ask _ _ _ _).mono ?_
    rintro e w8 ⟨rfl, rfl⟩
    go_wp2_with fail
    go_returns
    exact ⟨rfl, HB8.out⟩

set_option maxRecDepth 100000 in
set_option maxHeartbeats 4000000 in
theorem known_plays_near (T : ByteArray → ByteArray) (KA : Array Value) (hT : ∀ s : ByteArray, s.size ≤ 100000 → SumOf s (T s))
    (hR : ∀ s : ByteArray, s.size ≤ 100000 → ∀ w, Calls Try.prog 21 #[.agg KA, .string s] w fun e w' => e = .returned (.string (T s)) ∧ Below w.heap.size w w')
    (hK : ∀ w, Calls Try.prog 19 #[] w fun e w' => e = .returned (.agg KA) ∧ Below w.heap.size w w')
    (hsz : (Try.prog.info? 47).map (·.size) = some KA.size) (hone : KA.all (·.oneCell') = true)
    {w : World} {ao : Option Addr} {len cap : Nat} (room : Nat) (at_ : Int) (hacts : IsKActs w ao len) (h0 : ¬ 60 < len) (hroom : 1 ≤ room ∧ room ≤ 1024) :
    Calls Try.prog 6 #[.int .i64 room, .slice ao len cap, .int .i64 at_] w fun e w' => e = .returned (.bool true) ∧ Below w.heap.size w w' := by
  have hz := (zero_of_info (P := Try.prog) key_info).1
  have hZs : (kA (List.replicate 72 0)).size = KA.size := by
    have h1 := (zero_of_info (P := Try.prog) key_info).2
    rw [hsz] at h1
    rw [kA_size, List.length_replicate]; exact (Option.some.inj h1).symm
  generalize kA (List.replicate 72 0) = Z at *
  have HA := Lib.hid hacts
  have HT := Lib.hid hT
  have HR := Lib.hid hR
  have CK := Lib.hid hK
  have CN : Hid (∀ w, Calls Try.prog 15 #[.int .i64 room] w fun en w' => en = .returned (.tuple #[.pointer (some ⟨w.heap.size + 1, 0, none⟩), .int .i64 0]) ∧ KS w.heap.size 0 room w w' []) := fun w => ks_new room w hroom
  have HH := Lib.hid (And.intro hsz (And.intro hone hZs))
  have HRM := Lib.hid hroom
  have d1 : decide ((room : Int) < 1) = false := by simp; omega
  have d2 : decide (1024 < (room : Int)) = false := by simp; omega
  clear hacts hT hR hK hsz hone hZs hroom
  have d0 : decide (60 < (len : Int)) = false := by simp; omega
  have hl60 : len ≤ 60 := by omega
  clear h0
  go_enter Try.func6, Try.ntmps6
  go_wp2_with fail
  refine (known_alive _).mono ?_
  rintro e w1 ⟨rfl, hb1⟩
  go_wp2_with fail
  refine (CN.out _).mono ?_
  rintro e w2 ⟨rfl, k2⟩
  have hs1 := hb1.size
  have HB1 := Lib.hid hb1
  have K2 := Lib.hid k2
  have hlt2 := k2.1.row.bd.lt
  clear hb1 k2 CN
  obtain ⟨B, hB⟩ : ∃ B, w1.heap.size = B := ⟨_, rfl⟩
  rw [hB] at K2 hs1 hlt2 ⊢
  go_wp2_with fail
  refine (CK.out _).mono ?_
  rintro e w3 ⟨rfl, hb3⟩
  obtain ⟨g, hg⟩ : ∃ g, w3.heap.size = g := ⟨_, rfl⟩
  have hblk : Hid (Blk (w3.alloc (.cells Z 47)) g Z 47) := hg ▸ Blk.new w3 Z _
  have hbl : Hid (Below w2.heap.size w2 (w3.alloc (.cells Z 47))) := hb3.alloc hb3.size _
  have hgw : w2.heap.size ≤ g := hg ▸ hb3.size
  clear hb3
  go_wp2_with (refine wpList_store_row rfl 47 (.tmp 11) (.tmp 84) rfl g KA rfl rfl _ Z hblk.out HH.out.1 HH.out.2.2 HH.out.2.1 ?_; try clear hz)
  have hk4 : Blk ((w3.alloc (.cells Z 47)).setRow g KA) g KA 47 := hblk.out.setRow KA
  have hb4 : Below w2.heap.size w2 ((w3.alloc (.cells Z 47)).setRow g KA) := Below.setRow hbl.out hgw KA
  generalize (w3.alloc (.cells Z 47)).setRow g KA = w4 at *
  have hI : Hid (PlayInv B g 0 room KA w1 w4 [] (.slice none 0 0) []) := by
    have k4 := K2.out.after hb4
    refine ⟨k4.1, k4.2.1, hk4, fun ho => ?_, .inl ⟨rfl, rfl⟩, fun b hb => (by cases hb), k4.2.2⟩
    rcases ho with ho | ho | ho
    · omega
    · omega
    · cases ho
  clear hk4 hb4 hblk hbl hg hgw K2 hlt2 w3 w2
  go_loopw [12, 13] (fun rv iv wi => ∃ (k : Nat) (R : List (Nat × List UInt8)), iv = .int .i64 k ∧ k ≤ len ∧ Hid (PlayInv B g k room KA w1 wi R rv (sumsR R))) (fun _ iv _ => len - (intOf iv).toNat)
  case atStart => exact ⟨0, [], rfl, by omega, hI⟩
  case round =>
    clear hI w4
    obtain ⟨k, R, rfl, hk, hI⟩ := hrel
    obtain ⟨ao2, cap2, hv2⟩ := hI.out.val.rs.slice
    rw [sumsR_len] at hv2
    subst hv2
    have hlen2 := hI.out.len
    have hlt := hI.out.lt
    have hbw : Hid (Below w.heap.size w wr) := HB1.out.trans (hI.out.bel.mono hs1)
    by_cases c : k < len
    · obtain ⟨b, off, K, y, rfl, hbl, hcK, hwK, hcy, hys⟩ := HA.out.2 k c
      obtain ⟨hK0, hK1⟩ := u8_of_wf' hwK
      clear hwK
      have HCK := Lib.hid hcK
      have HCY := Lib.hid hcy
      have hcr : wr.cell? ⟨b, off + k * 2 + 1, none⟩ = some (.string y) := (hbw.out.cell (p := ⟨b, off + k * 2 + 1, none⟩) hbl).trans hcy
      have hbr : b < wr.heap.size := by omega
      unfold maxLen at hys
      clear hcK hcy
      by_cases h200 : 200 < y.size
      · go_wp2_with fail
        go_returns
        exact ⟨rfl, hbw.out⟩
      · have d200 : decide (200 < (y.size : Int)) = false := by simp; omega
        have cs := Lib.hid (HT.out y (by omega))
        have cr := Lib.hid (HR.out y (by omega))
        generalize T y = t at *
        clear h200
        have hx1 : ∀ x : Fut wr, x.at_.cell? ⟨b, off + k * 2 + 1, none⟩ = some (.string y) := fun x => (x.is.cell (p := ⟨b, off + k * 2 + 1, none⟩) hbr).trans hcr
        have hkx : Hid (∀ W, (∃ x : Fut wr, W = x.at_) → Blk W g KA 47) := by
          rintro _ ⟨x, rfl⟩
          exact Below.blk x.is hI.out.key hI.out.key.lt
        go_upto_region 18 with fail
        refine wp_region_after (by kernel_rfl) (by kernel_rfl) ?_
        go_big_quiet_want
        refine quiet_load_row 47 (.tmp 11) rfl g rfl _ KA _ hkx.out Try.underlying47 rfl HH.out.1 ?_
        go_big_quiet_on
        simp only [Act.put, List.setIfInBounds_toArray, List.set_cons_zero, List.set_cons_succ]
        repeat (go_big_quiet_step (exact Calls.after (cr.out _)))
        refine wpQuiet_nil ?_
        intro x
        have hix := Lib.hid (hI.out.after x.is)
        have hbx : Hid (Below w.heap.size w x.at_) := hbw.out.trans (x.is.mono hbw.out.size)
        have hcK2 : x.at_.cell? ⟨b, off + k * 2, none⟩ = some (.int .u8 K) := (hbx.out.cell (p := ⟨b, off + k * 2, none⟩) hbl).trans HCK.out
        have hcY2 : x.at_.cell? ⟨b, off + k * 2 + 1, none⟩ = some (.string y) := (hbx.out.cell (p := ⟨b, off + k * 2 + 1, none⟩) hbl).trans HCY.out
        clear hI hkx hx1 hcr hbr hlt hbw
        generalize x.at_ = wx at *
        clear x
        by_cases h2 : K % 4 = 2
        · have e2 : ((K % 4 : Int) == 2) = true := by rw [beq_iff_eq]; exact h2
          clear h2
          go_wp2_with fail
          refine (play_touch hix.out y t cs.out).mono ?_
          rintro en w2 ⟨hb, R', rfl, hi2, ht2⟩
          have hI2 := Lib.hid hi2
          have hT2 := Lib.hid ht2
          have hL := Lib.hid hix.out.len
          have hND := Lib.hid (sums_nodup hix.out.set.nd)
          clear hi2 ht2 hix hcK2 hcY2
          go_wp2_with fail
          refine (play_ref_touch hI2.out (by rw [sumsR_len]; have := hL.out; omega) t).mono ?_
          rintro en w3 ⟨v', b', L', rfl, hi3, ht3⟩
          obtain ⟨rfl, rfl⟩ := TouchL.same hND.out ht3 hT2.out
          have hI3 := Lib.hid hi3
          clear hi3 ht3 hI2 hT2 hND hL
          obtain ⟨ao3, cap3, hv3⟩ := hI3.out.val.rs.slice
          rw [sumsR_len] at hv3
          cases hv3
          have hb3 : Hid (Below w.heap.size w w3) := HB1.out.trans (hI3.out.bel.mono hs1)
          have hlen3 := hI3.out.len
          go_wp2_with fail
          refine (known_len hI3.out.set).mono ?_
          rintro en w4 ⟨rfl, rfl⟩
          go_wp2_with fail
          refine (law_row hI3.out.set (by omega)).mono ?_
          rintro en w5 ⟨vr, rfl, hrr, hbr⟩
          have hI5 := Lib.hid (hI3.out.after hbr)
          have hrr5 := Lib.hid hrr
          clear hbr hrr
          go_wp2_with fail
          refine (law_same hrr5.out hI5.out.val.rs (by rw [sumsR_len]; omega)).mono ?_
          rintro en w6 ⟨rfl, hb6⟩
          have hI6 := Lib.hid (hI5.out.after hb6)
          clear hI5 hI3 hrr5 hb6
          go_wp2_with fail
          exact ⟨⟨k + 1, R', by go_num, by omega, hI6⟩, by simp [intOf]; omega⟩
        · by_cases h3 : K % 4 = 3
          · have e2 : ((K % 4 : Int) == 2) = false := by rw [beq_eq_false_iff_ne]; exact h2
            have e3 : ((K % 4 : Int) == 3) = true := by rw [beq_iff_eq]; exact h3
            clear h2 h3
            go_wp2_with fail
            refine (play_has hix.out y t cs.out).mono ?_
            rintro en w2 ⟨rfl, hi3⟩
            have hI3 := Lib.hid hi3
            clear hi3 hix hcK2 hcY2
            generalize hR' : R = R' at *
            clear hR'
            by_cases hin : t ∈ sumsR R'
            · rw [decide_eq_true hin]
              go_wp2_with fail
              refine (ref_place2 hI3.out.val.rs (by rw [sumsR_len]; omega) t).mono ?_
              rintro en w3 ⟨r, rfl, hr, rfl⟩
              obtain ⟨j, rfl⟩ : ∃ j : Nat, r = j := by
                rcases hr with ⟨j, _, h, _⟩ | ⟨_, h⟩
                · exact ⟨j, h⟩
                · exact absurd hin h
              have hge : decide ((0 : Int) ≤ (j : Int)) = true := by simp
              clear hr hin
              obtain ⟨ao3, cap3, hv3⟩ := hI3.out.val.rs.slice
              rw [sumsR_len] at hv3
              cases hv3
              have hb3 : Hid (Below w.heap.size w w3) := HB1.out.trans (hI3.out.bel.mono hs1)
              have hlen3 := hI3.out.len
              go_wp2_with fail
              refine (known_len hI3.out.set).mono ?_
              rintro en w4 ⟨rfl, rfl⟩
              go_wp2_with fail
              refine (law_row hI3.out.set (by omega)).mono ?_
              rintro en w5 ⟨vr, rfl, hrr, hbr⟩
              have hI5 := Lib.hid (hI3.out.after hbr)
              have hrr5 := Lib.hid hrr
              clear hbr hrr
              go_wp2_with fail
              refine (law_same hrr5.out hI5.out.val.rs (by rw [sumsR_len]; omega)).mono ?_
              rintro en w6 ⟨rfl, hb6⟩
              have hI6 := Lib.hid (hI5.out.after hb6)
              clear hI5 hI3 hrr5 hb6
              go_wp2_with fail
              exact ⟨⟨k + 1, R', by go_num, by omega, hI6⟩, by simp [intOf]; omega⟩
            · rw [decide_eq_false hin]
              go_wp2_with fail
              refine (ref_place2 hI3.out.val.rs (by rw [sumsR_len]; omega) t).mono ?_
              rintro en w3 ⟨r, rfl, hr, rfl⟩
              obtain rfl : r = -1 := by
                rcases hr with ⟨j, hj, _, h⟩ | ⟨h, _⟩
                · exact absurd (h ▸ List.getElem_mem hj) hin
                · exact h
              clear hr hin
              obtain ⟨ao3, cap3, hv3⟩ := hI3.out.val.rs.slice
              rw [sumsR_len] at hv3
              cases hv3
              have hb3 : Hid (Below w.heap.size w w3) := HB1.out.trans (hI3.out.bel.mono hs1)
              have hlen3 := hI3.out.len
              go_wp2_with fail
              refine (known_len hI3.out.set).mono ?_
              rintro en w4 ⟨rfl, rfl⟩
              go_wp2_with fail
              refine (law_row hI3.out.set (by omega)).mono ?_
              rintro en w5 ⟨vr, rfl, hrr, hbr⟩
              have hI5 := Lib.hid (hI3.out.after hbr)
              have hrr5 := Lib.hid hrr
              clear hbr hrr
              go_wp2_with fail
              refine (law_same hrr5.out hI5.out.val.rs (by rw [sumsR_len]; omega)).mono ?_
              rintro en w6 ⟨rfl, hb6⟩
              have hI6 := Lib.hid (hI5.out.after hb6)
              clear hI5 hI3 hrr5 hb6
              go_wp2_with fail
              exact ⟨⟨k + 1, R', by go_num, by omega, hI6⟩, by simp [intOf]; omega⟩
          · have e2 : ((K % 4 : Int) == 2) = false := by rw [beq_eq_false_iff_ne]; exact h2
            have e3 : ((K % 4 : Int) == 3) = false := by rw [beq_eq_false_iff_ne]; exact h3
            clear h2 h3
            go_wp2_with fail
            refine (play_add hix.out (by omega) HRM.out.1 y t cs.out).mono ?_
            rintro en w2 ⟨hb, R', rfl, hi2, ht2⟩
            have hI2 := Lib.hid hi2
            have hT2 := Lib.hid ht2
            have hL := Lib.hid hix.out.len
            clear hi2 ht2 hix hcK2 hcY2
            go_wp2_with fail
            refine (play_ref_add hI2.out (by rw [sumsR_len]; have := hL.out; omega) HRM.out t).mono ?_
            rintro en w3 ⟨v', b', L', rfl, hi3, ht3⟩
            obtain ⟨rfl, rfl⟩ := AddL.same ht3 hT2.out
            have hI3 := Lib.hid hi3
            clear hi3 ht3 hI2 hT2 hL
            obtain ⟨ao3, cap3, hv3⟩ := hI3.out.val.rs.slice
            rw [sumsR_len] at hv3
            cases hv3
            have hb3 : Hid (Below w.heap.size w w3) := HB1.out.trans (hI3.out.bel.mono hs1)
            have hlen3 := hI3.out.len
            go_wp2_with fail
            refine (known_len hI3.out.set).mono ?_
            rintro en w4 ⟨rfl, rfl⟩
            go_wp2_with fail
            refine (law_row hI3.out.set (by omega)).mono ?_
            rintro en w5 ⟨vr, rfl, hrr, hbr⟩
            have hI5 := Lib.hid (hI3.out.after hbr)
            have hrr5 := Lib.hid hrr
            clear hbr hrr
            go_wp2_with fail
            refine (law_same hrr5.out hI5.out.val.rs (by rw [sumsR_len]; omega)).mono ?_
            rintro en w6 ⟨rfl, hb6⟩
            have hI6 := Lib.hid (hI5.out.after hb6)
            clear hI5 hI3 hrr5 hb6
            go_wp2_with fail
            exact ⟨⟨k + 1, R', by go_num, by omega, hI6⟩, by simp [intOf]; omega⟩
    · obtain rfl : k = len := by omega
      clear c hlt
      go_wp2_with fail
      refine (known_sum hI.out.set (by omega) at_).mono ?_
      rintro en w2 ⟨S, sb, rfl, ha, rfl⟩
      have hvr := Lib.hid hI.out.val.rs
      rcases ha with ⟨j, hj, rfl, hS, rfl⟩ | ⟨hout, rfl, rfl⟩
      · have d3 : decide ((j : Int) < 0) = false := by simp
        have d4 : decide ((R.length : Int) ≤ (j : Int)) = false := by simp; omega
        have hjs : j < (sumsR R).length := by rw [sumsR_len]; exact hj
        have hvr2 : RS w2 (.slice ao2 (sumsR R).length cap2) (sumsR R) := by rw [sumsR_len]; exact hvr.out
        obtain ⟨b5, off5, rfl, hb5, hc5⟩ := hvr2.at_ hjs
        have hSe : (sumsR R)[j] = S := by rw [hS]; simp [sumsR]
        rw [hSe] at hc5
        clear hS hSe hvr2 hjs
        go_wp2_with fail
        go_returns
        exact ⟨rfl, hbw.out⟩
      · have hd : decide (at_ < 0) = true ∨ (decide (at_ < 0) = false ∧ decide ((R.length : Int) ≤ at_) = true) := by
          by_cases c : at_ < 0
          · exact .inl (by simp; exact c)
          · exact .inr ⟨by simp; omega, by simp; omega⟩
        clear hout
        rcases hd with d3 | ⟨d3, d4⟩
        all_goals
          go_wp2_with fail
          go_returns
          exact ⟨rfl, hbw.out⟩

theorem known_plays (room : Int) (ao : Option Addr) (len cap : Nat) (at_ : Int) (w : World) (hw : (Lit.int .i64 room).wf = true) (hacts : IsKActs w ao len) (hw2 : (Lit.int .i64 at_).wf = true) :
    Calls Try.prog 6 #[.int .i64 room, .slice ao len cap, .int .i64 at_] w fun e w' => e = .returned (.bool true) ∧ Below w.heap.size w w' := by
  by_cases h : 60 < len
  · exact known_plays_far room at_ hacts.1 h
  · by_cases hr : room < 1 ∨ 1024 < room
    · exact known_plays_bad room at_ h hr
    · obtain ⟨rm, rfl⟩ : ∃ rm : Nat, room = rm := ⟨room.toNat, by omega⟩
      exact known_plays_near (fun s => ⟨(twiceN s.data.toList).toArray⟩) (kA keyN) (fun s hs => sum_of s hs) (fun s hs w => ref_sum31 _ _ doc_by s w hs) (fun w => ref_key w) doc_by.size doc_by.one rm at_ hacts h (by omega)
end Go.Proofs.Ytemfecdpjegocaa
