/- The walk of ScorePlays. -/
import Derived.Test.YtemfecdpjegocaaDoorPlaysPeers
namespace Go.Proofs.YtemfecdpjegocaaDoor
open Go.RowKit Go.Maps
set_option linter.unusedVariables false
set_option linter.unusedSimpArgs false

theorem SPlay.filt {B0 B bb n L H N : Nat} {ws w : World} {v : Value} {K : List Pr} (h : SPlay B0 B bb n L H N ws w v K) (f : Pr → Bool) {w' : World} {v' : Value} (hr : RelB B bb n L H N w' (K.filter f)) (hb : Below B0 ws w') (hq : QV w' v' (K.filter f)) : SPlay B0 B bb (n + 1) L H N ws w' v' (K.filter f) := by
  have hl := List.length_filter_le f K
  have := h.len
  have := h.inv.len
  exact ⟨hr.more (Nat.le_succ n), hb, hq, ⟨by omega, fun p hp => h.inv.ok p (List.mem_filter.1 hp).1⟩, fun p hp => h.til p (List.mem_filter.1 hp).1, fun p hp => h.cap p (List.mem_filter.1 hp).1, by omega, h.hB⟩
theorem SPlay.fault {B0 B bb n L H N : Nat} {ws w : World} {v : Value} {K : List Pr} (h : SPlay B0 B bb n L H N ws w v K) (hL : 1 ≤ L ∧ L ≤ 1000000) (hN : N ≤ 1099511627776) (hn : n ≤ 900) (s : ByteArray) (hs : s.size ≤ 100) (now e : Int) {w' : World} {v' : Value}
    (hr : RelB B bb (n + 1) L H N w' (faultQ L H N K s (clampN now) e).1) (hb : Below B0 ws w') (hq : QV w' v' (faultQ L H N K s (clampN now) e).1) : SPlay B0 B bb (n + 1) L H N ws w' v' (faultQ L H N K s (clampN now) e).1 := by
  have h0 := h.len
  obtain ⟨i1, i2, i3, i4⟩ := h.inv.fault (H := H) hL.2 hN (by omega) s hs (clampN now) (clampN_le now) e h.cap hL.1 h.til
  exact ⟨hr, hb, hq, i1, i3, i2, by omega, h.hB⟩
theorem Calls.soft {P : Program} {f : FuncId} {args : Array Value} {w : World} {v : Value} (h : Calls P f args w fun e w' => e = .returned v ∧ w' = w) : Calls P f args w fun e w' => e = .returned v ∧ Below w.heap.size w w' :=
  h.mono fun _ _ ⟨a, b⟩ => ⟨a, b ▸ Below.refl _ _⟩
theorem Calls.soft' {P : Program} {f : FuncId} {args : Array Value} {w : World} {v : Value} (h : Calls P f args w fun e w' => e = .returned v ∧ w = w') : Calls P f args w fun e w' => e = .returned v ∧ Below w.heap.size w w' :=
  h.mono fun _ _ ⟨a, b⟩ => ⟨a, b ▸ Below.refl _ _⟩
theorem Blk.other {w w' : World} {b c : Nat} {cs : Array Value} {t : TypeId} (h : Blk w c cs t) (hh : ∀ c, c ≠ b → w'.heap[c]? = w.heap[c]?) (hne : c ≠ b) : Blk w' c cs t := by
  unfold Blk
  rw [hh c hne]; exact h

set_option maxRecDepth 100000 in
set_option maxHeartbeats 16000000 in
theorem score_plays_near {w : World} {ao : Option Addr} {len cap : Nat} (L H N : Nat) (hT : TabP w) (hacts : IsSActs w ao len) (h0 : ¬ 80 < len) (hr : RightI L H N) :
    Calls Tryd.prog 5 #[.int .i64 L, .int .i64 H, .int .i64 N, .slice ao len cap] w fun e w' => e = .returned (.bool true) ∧ Below w.heap.size w w' := by
  have d0 : decide (80 < (len : Int)) = false := by simp; omega
  have hl80 : len ≤ 80 := by omega
  have HA := Lib.hid hacts
  have HT := Lib.hid hT
  have hlim : (1 ≤ L ∧ L ≤ 1000000) ∧ (1 ≤ H ∧ H ≤ 1099511627776) ∧ (1 ≤ N ∧ N ≤ 1099511627776) := by unfold RightI at hr; omega
  have HLIM := Lib.hid hlim
  have CN : Hid (∀ W : World, Calls Tryd.prog 8 #[.int .i64 L, .int .i64 H, .int .i64 N] W fun en w' => en = .returned (.tuple #[.pointer (some ⟨W.heap.size + 1, 0, none⟩), .int .i64 0]) ∧ RelB W.heap.size (W.heap.size + 1) 0 L H N w' [] ∧ Kept W.heap.size W w') := fun W => plays_new L H N W hlim.1 hlim.2.1 hlim.2.2
  have CR := Lib.hid (fun W => ref_right L H N W hr)
  clear h0 hr hlim hT
  go_enter Tryd.func5, Tryd.ntmps5
  go_wp2_with fail
  refine (score_alive _ HT.out).mono ?_
  rintro e w1 ⟨rfl, hb1⟩
  have HB1 := Lib.hid hb1
  go_wp2_with fail
  refine (CN.out _).mono ?_
  rintro e w2 ⟨rfl, hrel, hkp⟩
  obtain ⟨B, hB⟩ : ∃ B, w1.heap.size = B := ⟨_, rfl⟩
  obtain ⟨B0, hB0⟩ : ∃ B0, w.heap.size = B0 := ⟨_, rfl⟩
  have hBB : B0 ≤ B := by have := hb1.size; omega
  rw [hB] at hrel hkp ⊢
  have hS2 : Hid (SPlay B0 B (B + 1) 0 L H N w w2 (.slice none 0 0) []) := ⟨hrel, (hB0 ▸ hb1).trans (hkp.below.mono hBB), QV.nil _, ⟨by simp, fun p hp => absurd hp (by simp)⟩, fun p hp => absurd hp (by simp), fun p hp => absurd hp (by simp), by simp, hBB⟩
  clear hb1 hrel hkp HB1 CN
  go_wp2_with fail
  refine (CR.out _).mono ?_
  rintro e w3 ⟨rfl, rfl⟩
  go_upto_region 11 with fail
  generalize hbx : w3.heap.size = bx at *
  have hsz3 : B + 1 < bx := hbx ▸ hS2.out.rel.lt.2
  have HX : Hid (SPlay B0 B (B + 1) 0 L H N w (w3.alloc (.cells #[.int .i64 L, .int .i64 H, .int .i64 N, .slice none 0 0] 43)) (.slice none 0 0) [] ∧ Blk (w3.alloc (.cells #[.int .i64 L, .int .i64 H, .int .i64 N, .slice none 0 0] 43)) bx #[.int .i64 L, .int .i64 H, .int .i64 N, .slice none 0 0] 43) :=
    ⟨hS2.out.after ((Below.refl _ _).alloc (Nat.le_refl _) _), hbx ▸ Blk.new w3 _ _⟩
  generalize w3.alloc (.cells #[.int .i64 L, .int .i64 H, .int .i64 N, .slice none 0 0] 43) = w4 at *
  have hI := Lib.hid HX.out.1
  have hBX := Lib.hid HX.out.2
  clear hS2 HX CR hbx w3
  go_wp2_with fail
  go_loopw [12] (fun iv wi => ∃ (k : Nat) (v : Value) (K : List Pr), iv = .int .i64 k ∧ k ≤ len ∧ Hid (SPlay B0 B (B + 1) k L H N w wi v K) ∧ Hid (Blk wi bx #[.int .i64 L, .int .i64 H, .int .i64 N, v] 43)) (fun iv _ => len - (intOf iv).toNat)
  case atStart => exact ⟨0, _, [], rfl, by omega, hI, hBX⟩
  case round =>
    clear hI hBX w4
    obtain ⟨k, v, K, rfl, hk, hS, hX⟩ := hrel
    obtain ⟨vo, vc, hv⟩ := hS.out.qv.slice
    obtain ⟨kl, hkl⟩ : ∃ kl, K.length = kl := ⟨_, rfl⟩
    rw [hkl] at hv
    subst hv
    by_cases c : k < len
    · obtain ⟨b, off, A, y, nw, E, rfl, hbl, hcK, hwK, hcy, hys, hcn, hwn, hcE, hwE⟩ := HA.out.2 k c
      obtain ⟨hA0, hA1⟩ : 0 ≤ A ∧ A ≤ 255 := by simpa [Lit.wf, IntKind.min, IntKind.max, IntKind.signed, IntKind.bits] using hwK
      have hbw : Below w.heap.size w wr := hB0 ▸ hS.out.bel
      have r0 : wr.cell? ⟨b, off + k * 4, none⟩ = some (.int .u8 A) := (hbw.cell (p := ⟨b, off + k * 4, none⟩) hbl).trans hcK
      have r1 : wr.cell? ⟨b, off + k * 4 + 1, none⟩ = some (.string y) := (hbw.cell (p := ⟨b, off + k * 4 + 1, none⟩) hbl).trans hcy
      have r2 : wr.cell? ⟨b, off + k * 4 + 2, none⟩ = some (.int .i64 nw) := (hbw.cell (p := ⟨b, off + k * 4 + 2, none⟩) hbl).trans hcn
      have r3 : wr.cell? ⟨b, off + k * 4 + 3, none⟩ = some (.int .i64 E) := (hbw.cell (p := ⟨b, off + k * 4 + 3, none⟩) hbl).trans hcE
      have HWE := Lib.hid hwE
      clear hcK hcy hcn hcE hwK hbw hwn hwE
      unfold maxLen at hys
      obtain ⟨ba, hba⟩ : ∃ ba, wr.heap.size = ba := ⟨_, rfl⟩
      have hbxa : bx < ba := hba ▸ hX.out.lt
      have HW1 : Hid (SPlay B0 B (B + 1) k L H N w (wr.alloc (.cells #[.int .u8 A, .string y, .int .i64 nw, .int .i64 E] 45)) (.slice vo kl vc) K ∧ Blk (wr.alloc (.cells #[.int .u8 A, .string y, .int .i64 nw, .int .i64 E] 45)) ba #[.int .u8 A, .string y, .int .i64 nw, .int .i64 E] 45 ∧ Blk (wr.alloc (.cells #[.int .u8 A, .string y, .int .i64 nw, .int .i64 E] 45)) bx #[.int .i64 L, .int .i64 H, .int .i64 N, .slice vo kl vc] 43 ∧ (wr.alloc (.cells #[.int .u8 A, .string y, .int .i64 nw, .int .i64 E] 45)).heap.size = ba + 1) :=
        ⟨hS.out.after ((Below.refl _ _).alloc (Nat.le_refl _) _), hba ▸ Blk.new wr _ _, hX.out.alloc _, by rw [World.size_alloc, hba]⟩
      by_cases h100 : 100 < y.size
      · have d100 : decide (100 < (y.size : Int)) = true := by simp; omega
        have HFI : Hid (Below w.heap.size w (wr.alloc (.cells #[.int .u8 A, .string y, .int .i64 nw, .int .i64 E] 45))) := hB0 ▸ HW1.out.1.bel
        go_wp2_with fail
        go_returns
        exact ⟨rfl, HFI.out⟩
      · have d100 : decide (100 < (y.size : Int)) = false := by simp; omega
        have hy100 : y.size ≤ 100 := by omega
        clear h100 hys
        go_upto_region 15 with fail
        generalize wr.alloc (.cells #[.int .u8 A, .string y, .int .i64 nw, .int .i64 E] 45) = wa at *
        have HS1 := Lib.hid HW1.out.1
        have HA1 := Lib.hid HW1.out.2.1
        have HX1 := Lib.hid HW1.out.2.2.1
        have hsz1 := HW1.out.2.2.2
        clear HW1 hS hX r0 r1 r2 r3 hba hbl
        have a1 : wa.cell? ⟨ba, 1, none⟩ = some (.string y) := HA1.out.cell 1
        have x0 : wa.cell? ⟨bx, 0, none⟩ = some (.int .i64 L) := HX1.out.cell 0
        have x1 : wa.cell? ⟨bx, 1, none⟩ = some (.int .i64 H) := HX1.out.cell 1
        have x2 : wa.cell? ⟨bx, 2, none⟩ = some (.int .i64 N) := HX1.out.cell 2
        have x3 : wa.cell? ⟨bx, 3, none⟩ = some (.slice vo kl vc) := HX1.out.cell 3
        go_upto_region 19 with fail
        have HW2 : Hid (SPlay B0 B (B + 1) k L H N w (wa.alloc (.cells #[.int .i64 L, .int .i64 H, .int .i64 N, .slice vo kl vc] 43)) (.slice vo kl vc) K ∧ Blk (wa.alloc (.cells #[.int .i64 L, .int .i64 H, .int .i64 N, .slice vo kl vc] 43)) ba #[.int .u8 A, .string y, .int .i64 nw, .int .i64 E] 45 ∧ Blk (wa.alloc (.cells #[.int .i64 L, .int .i64 H, .int .i64 N, .slice vo kl vc] 43)) bx #[.int .i64 L, .int .i64 H, .int .i64 N, .slice vo kl vc] 43 ∧ Blk (wa.alloc (.cells #[.int .i64 L, .int .i64 H, .int .i64 N, .slice vo kl vc] 43)) (ba + 1) #[.int .i64 L, .int .i64 H, .int .i64 N, .slice vo kl vc] 43) :=
          ⟨HS1.out.after ((Below.refl _ _).alloc (Nat.le_refl _) _), HA1.out.alloc _, HX1.out.alloc _, hsz1 ▸ Blk.new wa _ _⟩
        generalize wa.alloc (.cells #[.int .i64 L, .int .i64 H, .int .i64 N, .slice vo kl vc] 43) = wb at *
        have HS := Lib.hid HW2.out.1
        have HAb := Lib.hid HW2.out.2.1
        have HXb := Lib.hid HW2.out.2.2.1
        have HYb := Lib.hid HW2.out.2.2.2
        have hB0x : B0 ≤ bx := by omega
        clear HW2 HS1 HA1 HX1 hsz1 a1 x0 x1 x2 x3 wa
        have a0 : wb.cell? ⟨ba, 0, none⟩ = some (.int .u8 A) := HAb.out.cell 0
        have a1 : wb.cell? ⟨ba, 1, none⟩ = some (.string y) := HAb.out.cell 1
        have a2 : wb.cell? ⟨ba, 2, none⟩ = some (.int .i64 nw) := HAb.out.cell 2
        have a3 : wb.cell? ⟨ba, 3, none⟩ = some (.int .i64 E) := HAb.out.cell 3
        have x0 : wb.cell? ⟨bx, 0, none⟩ = some (.int .i64 L) := HXb.out.cell 0
        have x1 : wb.cell? ⟨bx, 1, none⟩ = some (.int .i64 H) := HXb.out.cell 1
        have x2 : wb.cell? ⟨bx, 2, none⟩ = some (.int .i64 N) := HXb.out.cell 2
        have x3 : wb.cell? ⟨bx, 3, none⟩ = some (.slice vo kl vc) := HXb.out.cell 3
        by_cases h3 : A % 6 = 3
        · have e3 : ((A % 6 : Int) == 3) = true := by rw [beq_iff_eq]; exact h3
          clear h3
          have CSc := Lib.hid (plays_score HS.out.rel y hy100 nw)
          go_wp2_with fail
          refine CSc.out.mono ?_
          rintro en w5 ⟨rfl, kd, rfl⟩
          have hbd : Below wb.heap.size wb (wb.drewN kd) := ⟨rfl, rfl, rfl, Nat.le_refl _, fun _ _ => rfl⟩
          have HSc := Lib.hid (HS.out.after hbd)
          have HAc := Lib.hid (HAb.out.drewN kd)
          have HXc := Lib.hid (HXb.out.drewN kd)
          have HYc := Lib.hid (HYb.out.drewN kd)
          clear CSc hbd HS HAb HXb HYb a0 a1 a2 a3 x0 x1 x2 x3
          generalize wb.drewN kd = wc at *
          have a1 : wc.cell? ⟨ba, 1, none⟩ = some (.string y) := HAc.out.cell 1
          have a2 : wc.cell? ⟨ba, 2, none⟩ = some (.int .i64 nw) := HAc.out.cell 2
          have x0 : wc.cell? ⟨bx, 0, none⟩ = some (.int .i64 L) := HXc.out.cell 0
          have x1 : wc.cell? ⟨bx, 1, none⟩ = some (.int .i64 H) := HXc.out.cell 1
          have x2 : wc.cell? ⟨bx, 2, none⟩ = some (.int .i64 N) := HXc.out.cell 2
          have x3 : wc.cell? ⟨bx, 3, none⟩ = some (.slice vo kl vc) := HXc.out.cell 3
          have CD := Lib.hid (doc_score (L := L) (N := N) HSc.out.qv HSc.out.inv HLIM.out.2.1 y hy100 nw)
          go_wp2_with fail
          refine CD.out.mono ?_
          rintro en w6 ⟨rfl, hb6⟩
          have HSt := Lib.hid ((HSc.out.after hb6).more (Nat.le_succ k))
          have HAt := Lib.hid (Below.blk hb6 HAc.out HAc.out.lt)
          have HXt := Lib.hid (Below.blk hb6 HXc.out HXc.out.lt)
          have HYt := Lib.hid (Below.blk hb6 HYc.out HYc.out.lt)
          clear CD hb6 HSc HAc HXc HYc a1 a2 x0 x1 x2 x3 e3
          go_upto_region 31 with fail
          obtain ⟨V, hV⟩ : ∃ V : Int, ((scoreQ H K y (clampN nw) : Nat) : Int) = V := ⟨_, rfl⟩
          rw [hV]
          clear hV
          have y0 : w6.cell? ⟨ba + 1, 0, none⟩ = some (.int .i64 L) := HYt.out.cell 0
          have y1 : w6.cell? ⟨ba + 1, 1, none⟩ = some (.int .i64 H) := HYt.out.cell 1
          have y2 : w6.cell? ⟨ba + 1, 2, none⟩ = some (.int .i64 N) := HYt.out.cell 2
          have y3 : w6.cell? ⟨ba + 1, 3, none⟩ = some (.slice vo kl vc) := HYt.out.cell 3
          have x0 : w6.cell? ⟨bx, 0, none⟩ = some (.int .i64 L) := HXt.out.cell 0
          have x1 : w6.cell? ⟨bx, 1, none⟩ = some (.int .i64 H) := HXt.out.cell 1
          have x2 : w6.cell? ⟨bx, 2, none⟩ = some (.int .i64 N) := HXt.out.cell 2
          have x3 : w6.cell? ⟨bx, 3, none⟩ = some (.slice vo kl vc) := HXt.out.cell 3
          have fx := fun j => HXt.out.free j
          go_upto_region 32 with fail
          obtain ⟨t1, t2, t3⟩ := set4b HXt.out HSt.out.bel hB0x (.int .i64 L) (.int .i64 H) (.int .i64 N) (.slice vo kl vc)
          have HSu := Lib.hid (HSt.out.turn HXt.out (by decide) (by decide) (by decide) t3 t2)
          have HXu := Lib.hid t1
          have HAu := Lib.hid (HAt.out.other t3 (by omega))
          clear t1 t2 t3 fx y0 y1 y2 y3 x0 x1 x2 x3 HYt HSt HXt HAt
          generalize (((w6.setCell ⟨bx, 0, none⟩ (.int .i64 L)).setCell ⟨bx, 1, none⟩ (.int .i64 H)).setCell ⟨bx, 2, none⟩ (.int .i64 N)).setCell ⟨bx, 3, none⟩ (.slice vo kl vc) = wu at *
          refine plays32 rfl rfl rfl HSu.out HXu.out (by omega) ?_
          intro z0 l z2 m wv hbv hsl hsm
          simp only [List.setIfInBounds_toArray, List.set_cons_zero, List.set_cons_succ]
          have HSv := Lib.hid (HSu.out.after hbv)
          have HXv := Lib.hid (Below.blk hbv HXu.out HXu.out.lt)
          have HAv := Lib.hid (Below.blk hbv HAu.out HAu.out.lt)
          have HMEM : Hid (∀ s ∈ sortS (K.map nm), s ∈ K.map nm) := fun s hs => (List.mergeSort_perm _ _).mem_iff.1 hs
          clear hbv HSu HXu HAu wu
          have hSl : (sortS (K.map nm)).length ≤ 1000 := by unfold sortS; rw [List.length_mergeSort, List.length_map]; exact HSv.out.inv.len
          generalize sortS (K.map nm) = S at *
          obtain ⟨la, lcap, rfl, hla⟩ := hsl
          obtain ⟨ma, mcap, rfl, hma⟩ := hsm
          have HLA := Lib.hid hla
          have HMA := Lib.hid hma
          clear hla hma
          obtain ⟨Z, hZ⟩ : ∃ Z, S.length = Z := ⟨_, rfl⟩
          rw [hZ] at hSl ⊢
          have HZ := Lib.hid hZ
          clear hZ
          have CP1 := Lib.hid (fun x : Fut wv => Calls.soft' (score_points_any E HWE.out x.at_ ((HSv.out.after x.is).tab HT.out hB0)))
          have CP2 := Lib.hid (fun x : Fut wv => Calls.soft (ref_points_any E x.at_))
          have a3 : ∀ x : Fut wv, x.at_.cell? ⟨ba, 3, none⟩ = some (.int .i64 E) := fun x => (Below.blk x.is HAv.out HAv.out.lt).cell 3
          go_upto_region 33 with fail
          refine wp_region_after (by kernel_rfl) (by kernel_rfl) ?_
          repeat (go_big_quiet_step (first | exact Calls.after (CP1.out _) | exact Calls.after (CP2.out _)))
          refine wpQuiet_nil ?_
          intro x
          have hbx0 := Lib.hid x.is
          clear CP1 CP2 a3
          generalize x.at_ = wx at *
          clear x
          go_wp2_with fail
          go_loopw [19] (fun jv wi => ∃ j : Nat, jv = .int .i64 j ∧ j ≤ Z ∧ Hid (Below wv.heap.size wv wi)) (fun jv _ => Z - (intOf jv).toNat)
          case atStart => exact ⟨0, rfl, by omega, hbx0⟩
          case round =>
            clear hbx0 wx
            obtain ⟨j, rfl, hj, hbi⟩ := hrel
            by_cases cj : j < Z
            · have hjS : j < S.length := by rw [HZ.out]; exact cj
              obtain ⟨gl, ol, rfl, hgl, hcl⟩ := HLA.out j hjS
              obtain ⟨gm, om, rfl, hgm, hcm⟩ := HMA.out j hjS
              obtain ⟨s, hs⟩ : ∃ s, (⟨S[j].toArray⟩ : ByteArray) = s := ⟨_, rfl⟩
              rw [hs] at hcl hcm
              obtain ⟨p, hp, hpn⟩ := List.mem_map.1 (HMEM.out _ (List.getElem_mem hjS))
              have hps : p.name = s := txt_inj (by rw [← hs]; exact hpn.trans (by simp [txt]))
              have hix : idxQ K s < K.length := List.findIdx_lt_length_of_exists ⟨p, hp, decide_eq_true hps⟩
              have hs100 : s.size ≤ 100 := hps ▸ (HSv.out.inv.ok p hp).2.2.2
              have hq : tilQ K s = K[idxQ K s].til := by unfold tilQ; rw [getQ_lt hix]
              have HSi := Lib.hid (HSv.out.after hbi.out)
              have HXi := Lib.hid (Below.blk hbi.out HXv.out HXv.out.lt)
              rcases HSi.out.qv with ⟨e1, _⟩ | ⟨gq, qc, qcs, e1, e2, e3⟩
              · rw [e1] at hix; exact absurd hix (Nat.not_lt_zero _)
              injection e1 with f1 f2 f3
              subst f1 f3
              have hi2 : idxQ K s < kl := by rw [f2]; exact hix
              have q3c : qcs[idxQ K s * 4 + 3]? = some (.int .i64 (tilQ K s : Nat)) := by rw [hq, e3 _ hix 3 (by omega)]; rfl
              have hfz : findZ K s = (idxQ K s : Int) := by unfold findZ; rw [if_pos hix]
              have CU := Lib.hid (fun x : Fut wr => Calls.soft (plays_until (HSi.out.after x.is).rel s hs100))
              have CF := Lib.hid (fun x : Fut wr => doc_find (L := L) (H := H) (N := N) (HSi.out.after x.is).qv (by have := HSi.out.inv.len; omega) s (fun p hp => by have := (HSi.out.inv.ok p hp).2.2.2; omega) (by omega))
              rw [hfz] at CF
              have l1 : ∀ x : Fut wr, x.at_.cell? ⟨gl, ol + j, none⟩ = some (.string s) := fun x => ((hbi.out.trans (x.is.mono hbi.out.size)).cell (p := ⟨gl, ol + j, none⟩) hgl).trans hcl
              have m1 : ∀ x : Fut wr, x.at_.cell? ⟨gm, om + j, none⟩ = some (.string s) := fun x => ((hbi.out.trans (x.is.mono hbi.out.size)).cell (p := ⟨gm, om + j, none⟩) hgm).trans hcm
              have q3 : ∀ x : Fut wr, x.at_.cell? ⟨gq, idxQ K s * 4 + 3, none⟩ = some (.int .i64 (tilQ K s : Nat)) := fun x => ((Below.blk x.is e2 e2.lt).cell _).trans q3c
              have x0 : ∀ x : Fut wr, x.at_.cell? ⟨bx, 0, none⟩ = some (.int .i64 L) := fun x => (Below.blk x.is HXi.out HXi.out.lt).cell 0
              have x1 : ∀ x : Fut wr, x.at_.cell? ⟨bx, 1, none⟩ = some (.int .i64 H) := fun x => (Below.blk x.is HXi.out HXi.out.lt).cell 1
              have x2 : ∀ x : Fut wr, x.at_.cell? ⟨bx, 2, none⟩ = some (.int .i64 N) := fun x => (Below.blk x.is HXi.out HXi.out.lt).cell 2
              have x3 : ∀ x : Fut wr, x.at_.cell? ⟨bx, 3, none⟩ = some (.slice (some ⟨gq, 0, none⟩) kl vc) := fun x => (Below.blk x.is HXi.out HXi.out.lt).cell 3
              clear hs hpn hp hps hix hq e2 e3 f2 q3c hfz hcl hcm hjS
              generalize tilQ K s = T at *
              generalize idxQ K s = i0 at *
              go_upto_region 38 with fail
              refine wp_region_after (by kernel_rfl) (by kernel_rfl) ?_
              repeat (go_big_quiet_step (first | exact Calls.after (CU.out _) | exact Calls.after (CF.out _)))
              refine wpQuiet_nil ?_
              intro x
              go_wp2_with fail
              go_roundw
              case rel => exact ⟨j + 1, by go_num, by omega, hbi.out.trans (x.is.mono hbi.out.size)⟩
              case measure => simp [intOf]; omega
            · go_wp2_with fail
              go_roundw
              case rel => exact ⟨k + 1, _, K, by go_num, by omega, HSv.out.after hbi.out, Below.blk hbi.out HXv.out HXv.out.lt⟩
              case measure => simp [intOf]; omega
        · have e3 : ((A % 6 : Int) == 3) = false := by rw [beq_eq_false_iff_ne]; exact h3
          clear h3
          by_cases h4 : A % 6 = 4
          · have e4 : ((A % 6 : Int) == 4) = true := by rw [beq_iff_eq]; exact h4
            clear h4
            obtain ⟨D, hD⟩ : ∃ D, decide (clampN nw < tilQ K y) = D := ⟨_, rfl⟩
            have CB := Lib.hid (fun x : Fut wb => Calls.soft (plays_banned (HS.out.after x.is).rel y hy100 nw))
            have CD := Lib.hid (fun x : Fut wb => doc_banned (L := L) (N := N) (HS.out.after x.is).qv HS.out.inv HLIM.out.2.1 y hy100 nw)
            rw [hD] at CB CD
            clear hD
            go_upto_region 26 with fail
            clear a0 a1 a2 a3 x0 x1 x2 x3
            have a1 : ∀ x : Fut wb, x.at_.cell? ⟨ba, 1, none⟩ = some (.string y) := fun x => (Below.blk x.is HAb.out HAb.out.lt).cell 1
            have a2 : ∀ x : Fut wb, x.at_.cell? ⟨ba, 2, none⟩ = some (.int .i64 nw) := fun x => (Below.blk x.is HAb.out HAb.out.lt).cell 2
            have x0 : ∀ x : Fut wb, x.at_.cell? ⟨bx, 0, none⟩ = some (.int .i64 L) := fun x => (Below.blk x.is HXb.out HXb.out.lt).cell 0
            have x1 : ∀ x : Fut wb, x.at_.cell? ⟨bx, 1, none⟩ = some (.int .i64 H) := fun x => (Below.blk x.is HXb.out HXb.out.lt).cell 1
            have x2 : ∀ x : Fut wb, x.at_.cell? ⟨bx, 2, none⟩ = some (.int .i64 N) := fun x => (Below.blk x.is HXb.out HXb.out.lt).cell 2
            have x3 : ∀ x : Fut wb, x.at_.cell? ⟨bx, 3, none⟩ = some (.slice vo kl vc) := fun x => (Below.blk x.is HXb.out HXb.out.lt).cell 3
            refine wp_region_after (by kernel_rfl) (by kernel_rfl) ?_
            repeat (go_big_quiet_step (first | exact Calls.after (CB.out _) | exact Calls.after (CD.out _)))
            refine wpQuiet_nil ?_
            intro x
            have HSt := Lib.hid ((HS.out.after x.is).more (Nat.le_succ k))
            have HAt := Lib.hid (Below.blk x.is HAb.out HAb.out.lt)
            have HXt := Lib.hid (Below.blk x.is HXb.out HXb.out.lt)
            have HYt := Lib.hid (Below.blk x.is HYb.out HYb.out.lt)
            clear CB CD HS HAb HXb HYb a1 a2 x0 x1 x2 x3 e3 e4
            generalize x.at_ = w6 at *
            clear x
            go_upto_region 31 with fail
            have y0 : w6.cell? ⟨ba + 1, 0, none⟩ = some (.int .i64 L) := HYt.out.cell 0
            have y1 : w6.cell? ⟨ba + 1, 1, none⟩ = some (.int .i64 H) := HYt.out.cell 1
            have y2 : w6.cell? ⟨ba + 1, 2, none⟩ = some (.int .i64 N) := HYt.out.cell 2
            have y3 : w6.cell? ⟨ba + 1, 3, none⟩ = some (.slice vo kl vc) := HYt.out.cell 3
            have x0 : w6.cell? ⟨bx, 0, none⟩ = some (.int .i64 L) := HXt.out.cell 0
            have x1 : w6.cell? ⟨bx, 1, none⟩ = some (.int .i64 H) := HXt.out.cell 1
            have x2 : w6.cell? ⟨bx, 2, none⟩ = some (.int .i64 N) := HXt.out.cell 2
            have x3 : w6.cell? ⟨bx, 3, none⟩ = some (.slice vo kl vc) := HXt.out.cell 3
            have fx := fun j => HXt.out.free j
            go_upto_region 32 with fail
            obtain ⟨t1, t2, t3⟩ := set4b HXt.out HSt.out.bel hB0x (.int .i64 L) (.int .i64 H) (.int .i64 N) (.slice vo kl vc)
            have HSu := Lib.hid (HSt.out.turn HXt.out (by decide) (by decide) (by decide) t3 t2)
            have HXu := Lib.hid t1
            have HAu := Lib.hid (HAt.out.other t3 (by omega))
            clear t1 t2 t3 fx y0 y1 y2 y3 x0 x1 x2 x3 HYt HSt HXt HAt
            generalize (((w6.setCell ⟨bx, 0, none⟩ (.int .i64 L)).setCell ⟨bx, 1, none⟩ (.int .i64 H)).setCell ⟨bx, 2, none⟩ (.int .i64 N)).setCell ⟨bx, 3, none⟩ (.slice vo kl vc) = wu at *
            refine plays32 rfl rfl rfl HSu.out HXu.out (by omega) ?_
            intro z0 l z2 m wv hbv hsl hsm
            simp only [List.setIfInBounds_toArray, List.set_cons_zero, List.set_cons_succ]
            have HSv := Lib.hid (HSu.out.after hbv)
            have HXv := Lib.hid (Below.blk hbv HXu.out HXu.out.lt)
            have HAv := Lib.hid (Below.blk hbv HAu.out HAu.out.lt)
            have HMEM : Hid (∀ s ∈ sortS (K.map nm), s ∈ K.map nm) := fun s hs => (List.mergeSort_perm _ _).mem_iff.1 hs
            clear hbv HSu HXu HAu wu
            have hSl : (sortS (K.map nm)).length ≤ 1000 := by unfold sortS; rw [List.length_mergeSort, List.length_map]; exact HSv.out.inv.len
            generalize sortS (K.map nm) = S at *
            obtain ⟨la, lcap, rfl, hla⟩ := hsl
            obtain ⟨ma, mcap, rfl, hma⟩ := hsm
            have HLA := Lib.hid hla
            have HMA := Lib.hid hma
            clear hla hma
            obtain ⟨Z, hZ⟩ : ∃ Z, S.length = Z := ⟨_, rfl⟩
            rw [hZ] at hSl ⊢
            have HZ := Lib.hid hZ
            clear hZ
            have CP1 := Lib.hid (fun x : Fut wv => Calls.soft' (score_points_any E HWE.out x.at_ ((HSv.out.after x.is).tab HT.out hB0)))
            have CP2 := Lib.hid (fun x : Fut wv => Calls.soft (ref_points_any E x.at_))
            have a3 : ∀ x : Fut wv, x.at_.cell? ⟨ba, 3, none⟩ = some (.int .i64 E) := fun x => (Below.blk x.is HAv.out HAv.out.lt).cell 3
            go_upto_region 33 with fail
            refine wp_region_after (by kernel_rfl) (by kernel_rfl) ?_
            repeat (go_big_quiet_step (first | exact Calls.after (CP1.out _) | exact Calls.after (CP2.out _)))
            refine wpQuiet_nil ?_
            intro x
            have hbx0 := Lib.hid x.is
            clear CP1 CP2 a3
            generalize x.at_ = wx at *
            clear x
            go_wp2_with fail
            go_loopw [19] (fun jv wi => ∃ j : Nat, jv = .int .i64 j ∧ j ≤ Z ∧ Hid (Below wv.heap.size wv wi)) (fun jv _ => Z - (intOf jv).toNat)
            case atStart => exact ⟨0, rfl, by omega, hbx0⟩
            case round =>
              clear hbx0 wx
              obtain ⟨j, rfl, hj, hbi⟩ := hrel
              by_cases cj : j < Z
              · have hjS : j < S.length := by rw [HZ.out]; exact cj
                obtain ⟨gl, ol, rfl, hgl, hcl⟩ := HLA.out j hjS
                obtain ⟨gm, om, rfl, hgm, hcm⟩ := HMA.out j hjS
                obtain ⟨s, hs⟩ : ∃ s, (⟨S[j].toArray⟩ : ByteArray) = s := ⟨_, rfl⟩
                rw [hs] at hcl hcm
                obtain ⟨p, hp, hpn⟩ := List.mem_map.1 (HMEM.out _ (List.getElem_mem hjS))
                have hps : p.name = s := txt_inj (by rw [← hs]; exact hpn.trans (by simp [txt]))
                have hix : idxQ K s < K.length := List.findIdx_lt_length_of_exists ⟨p, hp, decide_eq_true hps⟩
                have hs100 : s.size ≤ 100 := hps ▸ (HSv.out.inv.ok p hp).2.2.2
                have hq : tilQ K s = K[idxQ K s].til := by unfold tilQ; rw [getQ_lt hix]
                have HSi := Lib.hid (HSv.out.after hbi.out)
                have HXi := Lib.hid (Below.blk hbi.out HXv.out HXv.out.lt)
                rcases HSi.out.qv with ⟨e1, _⟩ | ⟨gq, qc, qcs, e1, e2, e3⟩
                · rw [e1] at hix; exact absurd hix (Nat.not_lt_zero _)
                injection e1 with f1 f2 f3
                subst f1 f3
                have hi2 : idxQ K s < kl := by rw [f2]; exact hix
                have q3c : qcs[idxQ K s * 4 + 3]? = some (.int .i64 (tilQ K s : Nat)) := by rw [hq, e3 _ hix 3 (by omega)]; rfl
                have hfz : findZ K s = (idxQ K s : Int) := by unfold findZ; rw [if_pos hix]
                have CU := Lib.hid (fun x : Fut wr => Calls.soft (plays_until (HSi.out.after x.is).rel s hs100))
                have CF := Lib.hid (fun x : Fut wr => doc_find (L := L) (H := H) (N := N) (HSi.out.after x.is).qv (by have := HSi.out.inv.len; omega) s (fun p hp => by have := (HSi.out.inv.ok p hp).2.2.2; omega) (by omega))
                rw [hfz] at CF
                have l1 : ∀ x : Fut wr, x.at_.cell? ⟨gl, ol + j, none⟩ = some (.string s) := fun x => ((hbi.out.trans (x.is.mono hbi.out.size)).cell (p := ⟨gl, ol + j, none⟩) hgl).trans hcl
                have m1 : ∀ x : Fut wr, x.at_.cell? ⟨gm, om + j, none⟩ = some (.string s) := fun x => ((hbi.out.trans (x.is.mono hbi.out.size)).cell (p := ⟨gm, om + j, none⟩) hgm).trans hcm
                have q3 : ∀ x : Fut wr, x.at_.cell? ⟨gq, idxQ K s * 4 + 3, none⟩ = some (.int .i64 (tilQ K s : Nat)) := fun x => ((Below.blk x.is e2 e2.lt).cell _).trans q3c
                have x0 : ∀ x : Fut wr, x.at_.cell? ⟨bx, 0, none⟩ = some (.int .i64 L) := fun x => (Below.blk x.is HXi.out HXi.out.lt).cell 0
                have x1 : ∀ x : Fut wr, x.at_.cell? ⟨bx, 1, none⟩ = some (.int .i64 H) := fun x => (Below.blk x.is HXi.out HXi.out.lt).cell 1
                have x2 : ∀ x : Fut wr, x.at_.cell? ⟨bx, 2, none⟩ = some (.int .i64 N) := fun x => (Below.blk x.is HXi.out HXi.out.lt).cell 2
                have x3 : ∀ x : Fut wr, x.at_.cell? ⟨bx, 3, none⟩ = some (.slice (some ⟨gq, 0, none⟩) kl vc) := fun x => (Below.blk x.is HXi.out HXi.out.lt).cell 3
                clear hs hpn hp hps hix hq e2 e3 f2 q3c hfz hcl hcm hjS
                generalize tilQ K s = T at *
                generalize idxQ K s = i0 at *
                go_upto_region 38 with fail
                refine wp_region_after (by kernel_rfl) (by kernel_rfl) ?_
                repeat (go_big_quiet_step (first | exact Calls.after (CU.out _) | exact Calls.after (CF.out _)))
                refine wpQuiet_nil ?_
                intro x
                go_wp2_with fail
                go_roundw
                case rel => exact ⟨j + 1, by go_num, by omega, hbi.out.trans (x.is.mono hbi.out.size)⟩
                case measure => simp [intOf]; omega
              · go_wp2_with fail
                go_roundw
                case rel => exact ⟨k + 1, _, K, by go_num, by omega, HSv.out.after hbi.out, Below.blk hbi.out HXv.out HXv.out.lt⟩
                case measure => simp [intOf]; omega
          · have e4 : ((A % 6 : Int) == 4) = false := by rw [beq_eq_false_iff_ne]; exact h4
            clear h4
            by_cases h5 : A % 6 = 5
            · have e5 : ((A % 6 : Int) == 5) = true := by rw [beq_iff_eq]; exact h5
              clear h5
              have CS := Lib.hid (plays_sweep HS.out.rel nw (by omega))
              go_wp2_with fail
              refine CS.out.mono ?_
              rintro en w5 ⟨rfl, hrel5, hkp⟩
              have HQ5 : Hid (QV w5 (.slice vo kl vc) K) := HS.out.qv.keptB hkp
              have HR5 := Lib.hid hrel5
              have HAc := Lib.hid (hkp.kp _ _ _ HAb.out (by decide))
              have HXc := Lib.hid (hkp.kp _ _ _ HXb.out (by decide))
              have HYc := Lib.hid (hkp.kp _ _ _ HYb.out (by decide))
              have HB5 : Hid (Below B0 w w5) := HS.out.bel.trans (hkp.below.mono hBB)
              clear CS hrel5 hkp HAb HXb HYb a0 a1 a2 a3 x0 x1 x2 x3
              have a1 : w5.cell? ⟨ba, 1, none⟩ = some (.string y) := HAc.out.cell 1
              have a2 : w5.cell? ⟨ba, 2, none⟩ = some (.int .i64 nw) := HAc.out.cell 2
              have a3 : w5.cell? ⟨ba, 3, none⟩ = some (.int .i64 E) := HAc.out.cell 3
              have x0 : w5.cell? ⟨bx, 0, none⟩ = some (.int .i64 L) := HXc.out.cell 0
              have x1 : w5.cell? ⟨bx, 1, none⟩ = some (.int .i64 H) := HXc.out.cell 1
              have x2 : w5.cell? ⟨bx, 2, none⟩ = some (.int .i64 N) := HXc.out.cell 2
              have x3 : w5.cell? ⟨bx, 3, none⟩ = some (.slice vo kl vc) := HXc.out.cell 3
              have CD := Lib.hid (doc_sweep (L := L) (N := N) HQ5.out HS.out.inv HLIM.out.2.1 nw)
              go_wp2_with fail
              refine CD.out.mono ?_
              rintro en w7 ⟨vn, rfl, hq6, hb6, hob⟩
              have HS6 := Lib.hid (HS.out.filt (keepQ H (clampN nw)) (HR5.out.after hb6) (HB5.out.trans (hb6.mono (by have := HB5.out.size; omega))) hq6)
              have HA6 := Lib.hid (Below.blk hb6 HAc.out HAc.out.lt)
              have HX6 := Lib.hid (Below.blk hb6 HXc.out HXc.out.lt)
              have HY6 := Lib.hid (Below.blk hb6 HYc.out HYc.out.lt)
              obtain ⟨vo2, vc2, hv2⟩ := hq6.slice
              obtain ⟨kl2, hkl2⟩ : ∃ kl2, vn = .slice vo2 kl2 vc2 := ⟨_, hv2⟩
              clear hv2 hq6 hb6 hob CD HAc HXc HYc HR5 HB5 HQ5 HS a1 a2 a3 x0 x1 x2 x3
              subst hkl2
              have y0 : w7.cell? ⟨ba + 1, 0, none⟩ = some (.int .i64 L) := HY6.out.cell 0
              have y1 : w7.cell? ⟨ba + 1, 1, none⟩ = some (.int .i64 H) := HY6.out.cell 1
              have y2 : w7.cell? ⟨ba + 1, 2, none⟩ = some (.int .i64 N) := HY6.out.cell 2
              have y3 : w7.cell? ⟨ba + 1, 3, none⟩ = some (.slice vo kl vc) := HY6.out.cell 3
              have fy := fun j => HY6.out.free j
              go_upto_region 31 with fail
              obtain ⟨t1, t2, t3⟩ := set4b HY6.out HS6.out.bel (by omega) (.int .i64 L) (.int .i64 H) (.int .i64 N) (.slice vo2 kl2 vc2)
              have HSt := Lib.hid (HS6.out.turn HY6.out (by decide) (by decide) (by decide) t3 t2)
              have HAt := Lib.hid (HA6.out.other t3 (by omega))
              have HXt := Lib.hid (HX6.out.other t3 (by omega))
              have HYt := Lib.hid t1
              clear t1 t2 t3 fy y0 y1 y2 y3 HS6 HA6 HX6 HY6 e3 e4 e5
              generalize (((w7.setCell ⟨ba + 1, 0, none⟩ (.int .i64 L)).setCell ⟨ba + 1, 1, none⟩ (.int .i64 H)).setCell ⟨ba + 1, 2, none⟩ (.int .i64 N)).setCell ⟨ba + 1, 3, none⟩ (.slice vo2 kl2 vc2) = w6 at *
              obtain ⟨V, hV⟩ : ∃ V : Int, ((K.length : Int) - ((K.filter (keepQ H (clampN nw))).length : Int)) = V := ⟨_, rfl⟩
              rw [hkl] at hV
              try rw [hkl]
              rw [hV]
              clear hV
              generalize K.filter (keepQ H (clampN nw)) = K2 at *
              have y0 : w6.cell? ⟨ba + 1, 0, none⟩ = some (.int .i64 L) := HYt.out.cell 0
              have y1 : w6.cell? ⟨ba + 1, 1, none⟩ = some (.int .i64 H) := HYt.out.cell 1
              have y2 : w6.cell? ⟨ba + 1, 2, none⟩ = some (.int .i64 N) := HYt.out.cell 2
              have y3 : w6.cell? ⟨ba + 1, 3, none⟩ = some (.slice vo2 kl2 vc2) := HYt.out.cell 3
              have x0 : w6.cell? ⟨bx, 0, none⟩ = some (.int .i64 L) := HXt.out.cell 0
              have x1 : w6.cell? ⟨bx, 1, none⟩ = some (.int .i64 H) := HXt.out.cell 1
              have x2 : w6.cell? ⟨bx, 2, none⟩ = some (.int .i64 N) := HXt.out.cell 2
              have x3 : w6.cell? ⟨bx, 3, none⟩ = some (.slice vo kl vc) := HXt.out.cell 3
              have fx := fun j => HXt.out.free j
              go_upto_region 32 with fail
              obtain ⟨t1, t2, t3⟩ := set4b HXt.out HSt.out.bel hB0x (.int .i64 L) (.int .i64 H) (.int .i64 N) (.slice vo2 kl2 vc2)
              have HSu := Lib.hid (HSt.out.turn HXt.out (by decide) (by decide) (by decide) t3 t2)
              have HXu := Lib.hid t1
              have HAu := Lib.hid (HAt.out.other t3 (by omega))
              clear t1 t2 t3 fx y0 y1 y2 y3 x0 x1 x2 x3 HYt HSt HXt HAt
              generalize (((w6.setCell ⟨bx, 0, none⟩ (.int .i64 L)).setCell ⟨bx, 1, none⟩ (.int .i64 H)).setCell ⟨bx, 2, none⟩ (.int .i64 N)).setCell ⟨bx, 3, none⟩ (.slice vo2 kl2 vc2) = wu at *
              refine plays32 rfl rfl rfl HSu.out HXu.out (by omega) ?_
              intro z0 l z2 m wv hbv hsl hsm
              simp only [List.setIfInBounds_toArray, List.set_cons_zero, List.set_cons_succ]
              have HSv := Lib.hid (HSu.out.after hbv)
              have HXv := Lib.hid (Below.blk hbv HXu.out HXu.out.lt)
              have HAv := Lib.hid (Below.blk hbv HAu.out HAu.out.lt)
              have HMEM : Hid (∀ s ∈ sortS (K2.map nm), s ∈ K2.map nm) := fun s hs => (List.mergeSort_perm _ _).mem_iff.1 hs
              clear hbv HSu HXu HAu wu
              have hSl : (sortS (K2.map nm)).length ≤ 1000 := by unfold sortS; rw [List.length_mergeSort, List.length_map]; exact HSv.out.inv.len
              generalize sortS (K2.map nm) = S at *
              obtain ⟨la, lcap, rfl, hla⟩ := hsl
              obtain ⟨ma, mcap, rfl, hma⟩ := hsm
              have HLA := Lib.hid hla
              have HMA := Lib.hid hma
              clear hla hma
              obtain ⟨Z, hZ⟩ : ∃ Z, S.length = Z := ⟨_, rfl⟩
              rw [hZ] at hSl ⊢
              have HZ := Lib.hid hZ
              clear hZ
              have CP1 := Lib.hid (fun x : Fut wv => Calls.soft' (score_points_any E HWE.out x.at_ ((HSv.out.after x.is).tab HT.out hB0)))
              have CP2 := Lib.hid (fun x : Fut wv => Calls.soft (ref_points_any E x.at_))
              have a3 : ∀ x : Fut wv, x.at_.cell? ⟨ba, 3, none⟩ = some (.int .i64 E) := fun x => (Below.blk x.is HAv.out HAv.out.lt).cell 3
              go_upto_region 33 with fail
              refine wp_region_after (by kernel_rfl) (by kernel_rfl) ?_
              repeat (go_big_quiet_step (first | exact Calls.after (CP1.out _) | exact Calls.after (CP2.out _)))
              refine wpQuiet_nil ?_
              intro x
              have hbx0 := Lib.hid x.is
              clear CP1 CP2 a3
              generalize x.at_ = wx at *
              clear x
              go_wp2_with fail
              go_loopw [19] (fun jv wi => ∃ j : Nat, jv = .int .i64 j ∧ j ≤ Z ∧ Hid (Below wv.heap.size wv wi)) (fun jv _ => Z - (intOf jv).toNat)
              case atStart => exact ⟨0, rfl, by omega, hbx0⟩
              case round =>
                clear hbx0 wx
                obtain ⟨j, rfl, hj, hbi⟩ := hrel
                by_cases cj : j < Z
                · have hjS : j < S.length := by rw [HZ.out]; exact cj
                  obtain ⟨gl, ol, rfl, hgl, hcl⟩ := HLA.out j hjS
                  obtain ⟨gm, om, rfl, hgm, hcm⟩ := HMA.out j hjS
                  obtain ⟨s, hs⟩ : ∃ s, (⟨S[j].toArray⟩ : ByteArray) = s := ⟨_, rfl⟩
                  rw [hs] at hcl hcm
                  obtain ⟨p, hp, hpn⟩ := List.mem_map.1 (HMEM.out _ (List.getElem_mem hjS))
                  have hps : p.name = s := txt_inj (by rw [← hs]; exact hpn.trans (by simp [txt]))
                  have hix : idxQ K2 s < K2.length := List.findIdx_lt_length_of_exists ⟨p, hp, decide_eq_true hps⟩
                  have hs100 : s.size ≤ 100 := hps ▸ (HSv.out.inv.ok p hp).2.2.2
                  have hq : tilQ K2 s = K2[idxQ K2 s].til := by unfold tilQ; rw [getQ_lt hix]
                  have HSi := Lib.hid (HSv.out.after hbi.out)
                  have HXi := Lib.hid (Below.blk hbi.out HXv.out HXv.out.lt)
                  rcases HSi.out.qv with ⟨e1, _⟩ | ⟨gq, qc, qcs, e1, e2, e3⟩
                  · rw [e1] at hix; exact absurd hix (Nat.not_lt_zero _)
                  injection e1 with f1 f2 f3
                  subst f1 f3
                  have hi2 : idxQ K2 s < kl2 := by rw [f2]; exact hix
                  have q3c : qcs[idxQ K2 s * 4 + 3]? = some (.int .i64 (tilQ K2 s : Nat)) := by rw [hq, e3 _ hix 3 (by omega)]; rfl
                  have hfz : findZ K2 s = (idxQ K2 s : Int) := by unfold findZ; rw [if_pos hix]
                  have CU := Lib.hid (fun x : Fut wr => Calls.soft (plays_until (HSi.out.after x.is).rel s hs100))
                  have CF := Lib.hid (fun x : Fut wr => doc_find (L := L) (H := H) (N := N) (HSi.out.after x.is).qv (by have := HSi.out.inv.len; omega) s (fun p hp => by have := (HSi.out.inv.ok p hp).2.2.2; omega) (by omega))
                  rw [hfz] at CF
                  have l1 : ∀ x : Fut wr, x.at_.cell? ⟨gl, ol + j, none⟩ = some (.string s) := fun x => ((hbi.out.trans (x.is.mono hbi.out.size)).cell (p := ⟨gl, ol + j, none⟩) hgl).trans hcl
                  have m1 : ∀ x : Fut wr, x.at_.cell? ⟨gm, om + j, none⟩ = some (.string s) := fun x => ((hbi.out.trans (x.is.mono hbi.out.size)).cell (p := ⟨gm, om + j, none⟩) hgm).trans hcm
                  have q3 : ∀ x : Fut wr, x.at_.cell? ⟨gq, idxQ K2 s * 4 + 3, none⟩ = some (.int .i64 (tilQ K2 s : Nat)) := fun x => ((Below.blk x.is e2 e2.lt).cell _).trans q3c
                  have x0 : ∀ x : Fut wr, x.at_.cell? ⟨bx, 0, none⟩ = some (.int .i64 L) := fun x => (Below.blk x.is HXi.out HXi.out.lt).cell 0
                  have x1 : ∀ x : Fut wr, x.at_.cell? ⟨bx, 1, none⟩ = some (.int .i64 H) := fun x => (Below.blk x.is HXi.out HXi.out.lt).cell 1
                  have x2 : ∀ x : Fut wr, x.at_.cell? ⟨bx, 2, none⟩ = some (.int .i64 N) := fun x => (Below.blk x.is HXi.out HXi.out.lt).cell 2
                  have x3 : ∀ x : Fut wr, x.at_.cell? ⟨bx, 3, none⟩ = some (.slice (some ⟨gq, 0, none⟩) kl2 vc2) := fun x => (Below.blk x.is HXi.out HXi.out.lt).cell 3
                  clear hs hpn hp hps hix hq e2 e3 f2 q3c hfz hcl hcm hjS
                  generalize tilQ K2 s = T at *
                  generalize idxQ K2 s = i0 at *
                  go_upto_region 38 with fail
                  refine wp_region_after (by kernel_rfl) (by kernel_rfl) ?_
                  repeat (go_big_quiet_step (first | exact Calls.after (CU.out _) | exact Calls.after (CF.out _)))
                  refine wpQuiet_nil ?_
                  intro x
                  go_wp2_with fail
                  go_roundw
                  case rel => exact ⟨j + 1, by go_num, by omega, hbi.out.trans (x.is.mono hbi.out.size)⟩
                  case measure => simp [intOf]; omega
                · go_wp2_with fail
                  go_roundw
                  case rel => exact ⟨k + 1, _, K2, by go_num, by omega, HSv.out.after hbi.out, Below.blk hbi.out HXv.out HXv.out.lt⟩
                  case measure => simp [intOf]; omega
            · have e5 : ((A % 6 : Int) == 5) = false := by rw [beq_eq_false_iff_ne]; exact h5
              clear h5
              have CS := Lib.hid (plays_fault HS.out.rel (HS.out.tab HT.out hB0) y hy100 nw E HWE.out (by omega))
              go_wp2_with fail
              refine CS.out.mono ?_
              rintro en w5 ⟨rfl, hrel5, hkp⟩
              have HQ5 : Hid (QV w5 (.slice vo kl vc) K) := HS.out.qv.keptB hkp
              have HR5 := Lib.hid hrel5
              have HAc := Lib.hid (hkp.kp _ _ _ HAb.out (by decide))
              have HXc := Lib.hid (hkp.kp _ _ _ HXb.out (by decide))
              have HYc := Lib.hid (hkp.kp _ _ _ HYb.out (by decide))
              have HB5 : Hid (Below B0 w w5) := HS.out.bel.trans (hkp.below.mono hBB)
              clear CS hrel5 hkp HAb HXb HYb a0 a1 a2 a3 x0 x1 x2 x3
              have a1 : w5.cell? ⟨ba, 1, none⟩ = some (.string y) := HAc.out.cell 1
              have a2 : w5.cell? ⟨ba, 2, none⟩ = some (.int .i64 nw) := HAc.out.cell 2
              have a3 : w5.cell? ⟨ba, 3, none⟩ = some (.int .i64 E) := HAc.out.cell 3
              have x0 : w5.cell? ⟨bx, 0, none⟩ = some (.int .i64 L) := HXc.out.cell 0
              have x1 : w5.cell? ⟨bx, 1, none⟩ = some (.int .i64 H) := HXc.out.cell 1
              have x2 : w5.cell? ⟨bx, 2, none⟩ = some (.int .i64 N) := HXc.out.cell 2
              have x3 : w5.cell? ⟨bx, 3, none⟩ = some (.slice vo kl vc) := HXc.out.cell 3
              have CD := Lib.hid (doc_fault (L := L) (N := N) HQ5.out HS.out.inv HLIM.out.1.2 HLIM.out.2.1 HLIM.out.2.2.2 y hy100 nw E)
              go_wp2_with fail
              refine CD.out.mono ?_
              rintro en w7 ⟨vn, rfl, hq6, hb6, hob⟩
              have HS6 := Lib.hid (HS.out.fault HLIM.out.1 HLIM.out.2.2.2 (by omega) y hy100 nw E (HR5.out.after hb6) (HB5.out.trans (hb6.mono (by have := HB5.out.size; omega))) hq6)
              have HA6 := Lib.hid (Below.blk hb6 HAc.out HAc.out.lt)
              have HX6 := Lib.hid (Below.blk hb6 HXc.out HXc.out.lt)
              have HY6 := Lib.hid (Below.blk hb6 HYc.out HYc.out.lt)
              obtain ⟨vo2, vc2, hv2⟩ := hq6.slice
              obtain ⟨kl2, hkl2⟩ : ∃ kl2, vn = .slice vo2 kl2 vc2 := ⟨_, hv2⟩
              clear hv2 hq6 hb6 hob CD HAc HXc HYc HR5 HB5 HQ5 HS a1 a2 a3 x0 x1 x2 x3
              subst hkl2
              have y0 : w7.cell? ⟨ba + 1, 0, none⟩ = some (.int .i64 L) := HY6.out.cell 0
              have y1 : w7.cell? ⟨ba + 1, 1, none⟩ = some (.int .i64 H) := HY6.out.cell 1
              have y2 : w7.cell? ⟨ba + 1, 2, none⟩ = some (.int .i64 N) := HY6.out.cell 2
              have y3 : w7.cell? ⟨ba + 1, 3, none⟩ = some (.slice vo kl vc) := HY6.out.cell 3
              have fy := fun j => HY6.out.free j
              go_upto_region 31 with fail
              obtain ⟨t1, t2, t3⟩ := set4b HY6.out HS6.out.bel (by omega) (.int .i64 L) (.int .i64 H) (.int .i64 N) (.slice vo2 kl2 vc2)
              have HSt := Lib.hid (HS6.out.turn HY6.out (by decide) (by decide) (by decide) t3 t2)
              have HAt := Lib.hid (HA6.out.other t3 (by omega))
              have HXt := Lib.hid (HX6.out.other t3 (by omega))
              have HYt := Lib.hid t1
              clear t1 t2 t3 fy y0 y1 y2 y3 HS6 HA6 HX6 HY6 e3 e4 e5
              generalize (((w7.setCell ⟨ba + 1, 0, none⟩ (.int .i64 L)).setCell ⟨ba + 1, 1, none⟩ (.int .i64 H)).setCell ⟨ba + 1, 2, none⟩ (.int .i64 N)).setCell ⟨ba + 1, 3, none⟩ (.slice vo2 kl2 vc2) = w6 at *
              obtain ⟨V, hV⟩ : ∃ V : Int, (((faultQ L H N K y (clampN nw) E).2 : Nat) : Int) = V := ⟨_, rfl⟩
              rw [hV]
              clear hV
              generalize (faultQ L H N K y (clampN nw) E).1 = K2 at *
              have y0 : w6.cell? ⟨ba + 1, 0, none⟩ = some (.int .i64 L) := HYt.out.cell 0
              have y1 : w6.cell? ⟨ba + 1, 1, none⟩ = some (.int .i64 H) := HYt.out.cell 1
              have y2 : w6.cell? ⟨ba + 1, 2, none⟩ = some (.int .i64 N) := HYt.out.cell 2
              have y3 : w6.cell? ⟨ba + 1, 3, none⟩ = some (.slice vo2 kl2 vc2) := HYt.out.cell 3
              have x0 : w6.cell? ⟨bx, 0, none⟩ = some (.int .i64 L) := HXt.out.cell 0
              have x1 : w6.cell? ⟨bx, 1, none⟩ = some (.int .i64 H) := HXt.out.cell 1
              have x2 : w6.cell? ⟨bx, 2, none⟩ = some (.int .i64 N) := HXt.out.cell 2
              have x3 : w6.cell? ⟨bx, 3, none⟩ = some (.slice vo kl vc) := HXt.out.cell 3
              have fx := fun j => HXt.out.free j
              go_upto_region 32 with fail
              obtain ⟨t1, t2, t3⟩ := set4b HXt.out HSt.out.bel hB0x (.int .i64 L) (.int .i64 H) (.int .i64 N) (.slice vo2 kl2 vc2)
              have HSu := Lib.hid (HSt.out.turn HXt.out (by decide) (by decide) (by decide) t3 t2)
              have HXu := Lib.hid t1
              have HAu := Lib.hid (HAt.out.other t3 (by omega))
              clear t1 t2 t3 fx y0 y1 y2 y3 x0 x1 x2 x3 HYt HSt HXt HAt
              generalize (((w6.setCell ⟨bx, 0, none⟩ (.int .i64 L)).setCell ⟨bx, 1, none⟩ (.int .i64 H)).setCell ⟨bx, 2, none⟩ (.int .i64 N)).setCell ⟨bx, 3, none⟩ (.slice vo2 kl2 vc2) = wu at *
              refine plays32 rfl rfl rfl HSu.out HXu.out (by omega) ?_
              intro z0 l z2 m wv hbv hsl hsm
              simp only [List.setIfInBounds_toArray, List.set_cons_zero, List.set_cons_succ]
              have HSv := Lib.hid (HSu.out.after hbv)
              have HXv := Lib.hid (Below.blk hbv HXu.out HXu.out.lt)
              have HAv := Lib.hid (Below.blk hbv HAu.out HAu.out.lt)
              have HMEM : Hid (∀ s ∈ sortS (K2.map nm), s ∈ K2.map nm) := fun s hs => (List.mergeSort_perm _ _).mem_iff.1 hs
              clear hbv HSu HXu HAu wu
              have hSl : (sortS (K2.map nm)).length ≤ 1000 := by unfold sortS; rw [List.length_mergeSort, List.length_map]; exact HSv.out.inv.len
              generalize sortS (K2.map nm) = S at *
              obtain ⟨la, lcap, rfl, hla⟩ := hsl
              obtain ⟨ma, mcap, rfl, hma⟩ := hsm
              have HLA := Lib.hid hla
              have HMA := Lib.hid hma
              clear hla hma
              obtain ⟨Z, hZ⟩ : ∃ Z, S.length = Z := ⟨_, rfl⟩
              rw [hZ] at hSl ⊢
              have HZ := Lib.hid hZ
              clear hZ
              have CP1 := Lib.hid (fun x : Fut wv => Calls.soft' (score_points_any E HWE.out x.at_ ((HSv.out.after x.is).tab HT.out hB0)))
              have CP2 := Lib.hid (fun x : Fut wv => Calls.soft (ref_points_any E x.at_))
              have a3 : ∀ x : Fut wv, x.at_.cell? ⟨ba, 3, none⟩ = some (.int .i64 E) := fun x => (Below.blk x.is HAv.out HAv.out.lt).cell 3
              go_upto_region 33 with fail
              refine wp_region_after (by kernel_rfl) (by kernel_rfl) ?_
              repeat (go_big_quiet_step (first | exact Calls.after (CP1.out _) | exact Calls.after (CP2.out _)))
              refine wpQuiet_nil ?_
              intro x
              have hbx0 := Lib.hid x.is
              clear CP1 CP2 a3
              generalize x.at_ = wx at *
              clear x
              go_wp2_with fail
              go_loopw [19] (fun jv wi => ∃ j : Nat, jv = .int .i64 j ∧ j ≤ Z ∧ Hid (Below wv.heap.size wv wi)) (fun jv _ => Z - (intOf jv).toNat)
              case atStart => exact ⟨0, rfl, by omega, hbx0⟩
              case round =>
                clear hbx0 wx
                obtain ⟨j, rfl, hj, hbi⟩ := hrel
                by_cases cj : j < Z
                · have hjS : j < S.length := by rw [HZ.out]; exact cj
                  obtain ⟨gl, ol, rfl, hgl, hcl⟩ := HLA.out j hjS
                  obtain ⟨gm, om, rfl, hgm, hcm⟩ := HMA.out j hjS
                  obtain ⟨s, hs⟩ : ∃ s, (⟨S[j].toArray⟩ : ByteArray) = s := ⟨_, rfl⟩
                  rw [hs] at hcl hcm
                  obtain ⟨p, hp, hpn⟩ := List.mem_map.1 (HMEM.out _ (List.getElem_mem hjS))
                  have hps : p.name = s := txt_inj (by rw [← hs]; exact hpn.trans (by simp [txt]))
                  have hix : idxQ K2 s < K2.length := List.findIdx_lt_length_of_exists ⟨p, hp, decide_eq_true hps⟩
                  have hs100 : s.size ≤ 100 := hps ▸ (HSv.out.inv.ok p hp).2.2.2
                  have hq : tilQ K2 s = K2[idxQ K2 s].til := by unfold tilQ; rw [getQ_lt hix]
                  have HSi := Lib.hid (HSv.out.after hbi.out)
                  have HXi := Lib.hid (Below.blk hbi.out HXv.out HXv.out.lt)
                  rcases HSi.out.qv with ⟨e1, _⟩ | ⟨gq, qc, qcs, e1, e2, e3⟩
                  · rw [e1] at hix; exact absurd hix (Nat.not_lt_zero _)
                  injection e1 with f1 f2 f3
                  subst f1 f3
                  have hi2 : idxQ K2 s < kl2 := by rw [f2]; exact hix
                  have q3c : qcs[idxQ K2 s * 4 + 3]? = some (.int .i64 (tilQ K2 s : Nat)) := by rw [hq, e3 _ hix 3 (by omega)]; rfl
                  have hfz : findZ K2 s = (idxQ K2 s : Int) := by unfold findZ; rw [if_pos hix]
                  have CU := Lib.hid (fun x : Fut wr => Calls.soft (plays_until (HSi.out.after x.is).rel s hs100))
                  have CF := Lib.hid (fun x : Fut wr => doc_find (L := L) (H := H) (N := N) (HSi.out.after x.is).qv (by have := HSi.out.inv.len; omega) s (fun p hp => by have := (HSi.out.inv.ok p hp).2.2.2; omega) (by omega))
                  rw [hfz] at CF
                  have l1 : ∀ x : Fut wr, x.at_.cell? ⟨gl, ol + j, none⟩ = some (.string s) := fun x => ((hbi.out.trans (x.is.mono hbi.out.size)).cell (p := ⟨gl, ol + j, none⟩) hgl).trans hcl
                  have m1 : ∀ x : Fut wr, x.at_.cell? ⟨gm, om + j, none⟩ = some (.string s) := fun x => ((hbi.out.trans (x.is.mono hbi.out.size)).cell (p := ⟨gm, om + j, none⟩) hgm).trans hcm
                  have q3 : ∀ x : Fut wr, x.at_.cell? ⟨gq, idxQ K2 s * 4 + 3, none⟩ = some (.int .i64 (tilQ K2 s : Nat)) := fun x => ((Below.blk x.is e2 e2.lt).cell _).trans q3c
                  have x0 : ∀ x : Fut wr, x.at_.cell? ⟨bx, 0, none⟩ = some (.int .i64 L) := fun x => (Below.blk x.is HXi.out HXi.out.lt).cell 0
                  have x1 : ∀ x : Fut wr, x.at_.cell? ⟨bx, 1, none⟩ = some (.int .i64 H) := fun x => (Below.blk x.is HXi.out HXi.out.lt).cell 1
                  have x2 : ∀ x : Fut wr, x.at_.cell? ⟨bx, 2, none⟩ = some (.int .i64 N) := fun x => (Below.blk x.is HXi.out HXi.out.lt).cell 2
                  have x3 : ∀ x : Fut wr, x.at_.cell? ⟨bx, 3, none⟩ = some (.slice (some ⟨gq, 0, none⟩) kl2 vc2) := fun x => (Below.blk x.is HXi.out HXi.out.lt).cell 3
                  clear hs hpn hp hps hix hq e2 e3 f2 q3c hfz hcl hcm hjS
                  generalize tilQ K2 s = T at *
                  generalize idxQ K2 s = i0 at *
                  go_upto_region 38 with fail
                  refine wp_region_after (by kernel_rfl) (by kernel_rfl) ?_
                  repeat (go_big_quiet_step (first | exact Calls.after (CU.out _) | exact Calls.after (CF.out _)))
                  refine wpQuiet_nil ?_
                  intro x
                  go_wp2_with fail
                  go_roundw
                  case rel => exact ⟨j + 1, by go_num, by omega, hbi.out.trans (x.is.mono hbi.out.size)⟩
                  case measure => simp [intOf]; omega
                · go_wp2_with fail
                  go_roundw
                  case rel => exact ⟨k + 1, _, K2, by go_num, by omega, HSv.out.after hbi.out, Below.blk hbi.out HXv.out HXv.out.lt⟩
                  case measure => simp [intOf]; omega
    · have HFI : Hid (Below w.heap.size w wr) := hB0 ▸ hS.out.bel
      go_wp2_with fail
      go_returns
      exact ⟨rfl, HFI.out⟩

theorem score_plays (L H N : Int) (ao : Option Addr) (len cap : Nat) (w : World) (h1 : (Lit.int .i64 L).wf = true) (h2 : (Lit.int .i64 H).wf = true) (h3 : (Lit.int .i64 N).wf = true) (hacts : IsSActs w ao len) (hT : TabP w) :
    Calls Tryd.prog 5 #[.int .i64 L, .int .i64 H, .int .i64 N, .slice ao len cap] w fun e w' => e = .returned (.bool true) ∧ Below w.heap.size w w' := by
  by_cases h : 80 < len
  · exact score_plays_far L H N hT hacts.1 h
  · by_cases hr : RightI L H N
    · obtain ⟨l, rfl⟩ : ∃ l : Nat, L = l := ⟨L.toNat, by unfold RightI at hr; omega⟩
      obtain ⟨m, rfl⟩ : ∃ m : Nat, H = m := ⟨H.toNat, by unfold RightI at hr; omega⟩
      obtain ⟨n, rfl⟩ : ∃ n : Nat, N = n := ⟨N.toNat, by unfold RightI at hr; omega⟩
      exact score_plays_near l m n hT hacts h hr
    · exact score_plays_bad L H N hT h hr
end Go.Proofs.YtemfecdpjegocaaDoor
