/- The walk of CursorPlays. -/
import Derived.Test.YtknokfofjhlkeaaCursorShort
import Derived.Test.YtknokfofjhlkeaaRef01
import Derived.Test.YtknokfofjhlkeaaInv
import Derived.Deep.RegionHeld3
import Derived.Deep.CutBlock
import Derived.Deep.DeepCutAuto
namespace Go.Proofs.Ytknokfofjhlkeaa
open Go.RowKit
set_option linter.unusedVariables false

/-- The acts that came in: kinds and numbers. -/
def IsCActs (w : World) (a : Option Addr) (len : Nat) : Prop := len ≤ maxLen ∧ ∀ i, i < len → ∃ b off K n, a = some ⟨b, off, none⟩ ∧ b < w.heap.size ∧
  w.cell? ⟨b, off + i * 2, none⟩ = some (.int .u8 K) ∧ (Lit.int .u8 K).wf = true ∧ w.cell? ⟨b, off + i * 2 + 1, none⟩ = some (.int .i64 n) ∧ (Lit.int .i64 n).wf = true

theorem ahead_yes {s : ByteArray} {p q : Nat} {n : Int} (h0 : 0 < n) (hq : q = min n.toNat (s.size - p)) : RS.ahead ⟨s, p, 0⟩ n = s.extract p (p + q) := by
  unfold RS.ahead; rw [if_pos rfl, if_pos h0, hq]
theorem ahead_not {s : ByteArray} {p : Nat} {f n m : Int} (hm : m = (if (s.size : Int) - p < n then (s.size : Int) - p else n)) (hp : p ≤ s.size) (h : ¬ (f = 0 ∧ 0 < m)) : RS.ahead ⟨s, p, f⟩ n = nostr := by
  unfold RS.ahead
  by_cases hf : f = 0
  · rw [if_pos hf]
    by_cases h0 : 0 < n
    · rw [if_pos h0]
      have hm0 : ¬ 0 < m := fun h' => h ⟨hf, h'⟩
      have : s.size - p = 0 := by split at hm <;> omega
      simp only [this, Nat.min_zero, Nat.add_zero]
      apply ByteArray.ext
      simp
    · rw [if_neg h0]
  · rw [if_neg hf]
theorem take_t (r : RS) (n : Int) : (r.take n).1.t = r.t := by
  unfold RS.take
  split
  · split
    · rfl
    · split <;> rfl
  · rfl

set_option maxRecDepth 100000 in
set_option maxHeartbeats 2000000 in
theorem cursor_plays (s : ByteArray) (ao : Option Addr) (len cap : Nat) (w : World) (hs : s.size ≤ maxLen) (hacts : IsCActs w ao len) :
    Calls Try.prog 10 #[.string s, .slice ao len cap] w fun e w' => e = .returned (.bool true) ∧ Below w.heap.size w w' := by
  have hlen0 := hacts.1
  unfold maxLen at hlen0 hs
  by_cases hl : 1000 < s.size
  · go_enter Try.func10, Try.ntmps10
    go_wp2_with fail
    refine (cursor_alive _).mono ?_
    rintro e w1 ⟨rfl, hb⟩
    go_wp2_with fail
    go_returns
    exact ⟨rfl, hb⟩
  have hl' : decide ((1000 : Int) < s.size) = false := by simp; omega
  by_cases hlen : 50 < len
  · go_enter Try.func10, Try.ntmps10
    go_wp2_with fail
    refine (cursor_alive _).mono ?_
    rintro e w1 ⟨rfl, hb⟩
    go_wp2_with fail
    go_returns
    exact ⟨rfl, hb⟩
  have hlen' : decide ((50 : Int) < len) = false := by simp; omega
  go_enter Try.func10, Try.ntmps10
  go_wp2_with fail
  refine (cursor_alive _).mono ?_
  rintro e w1 ⟨rfl, hb⟩
  go_wp2_with fail
  refine (cursor_read _ _).mono ?_
  rintro e w2 ⟨rfl, hb2, hsz, hR⟩
  go_wp2_with fail
  refine (ref01_of _ _).mono ?_
  rintro e w3 ⟨rfl, hb3, hsz3, hX3⟩
  have hsz1 := hb.size
  have hsz2 := hb2.size
  have hB3 : Below w.heap.size w w3 := (hb.trans (hb2.mono hb.size)).trans (hb3.mono (by omega))
  have hR3 : IsR w3 w1.heap.size (RS.of s) := Below.blk hb3 hR hsz
  have hne : w1.heap.size ≠ w2.heap.size := by omega
  have hBx : w.heap.size ≤ w2.heap.size := by omega
  generalize w1.heap.size = br at *
  generalize w2.heap.size = bx at *
  clear hb hb2 hb3 hR
  go_wp2_with fail
  go_loopw [7] (fun iv wr => ∃ (k : Nat) (r : RS), iv = .int .i64 k ∧ k ≤ len ∧ r.Ok ∧ r.t = s ∧ IsR wr br r ∧ IsX wr bx r ∧ Below w.heap.size w wr) (fun iv _ => len - (intOf iv).toNat)
  case atStart => exact ⟨0, RS.of s, rfl, by omega, ⟨Nat.zero_le _, hs⟩, rfl, hR3, hX3, hB3⟩
  case round =>
    obtain ⟨k, r, rfl, hk, hok, hrt, hI, hX, hB⟩ := hrel
    have hwr := hB.size
    by_cases hlt : k < len
    · obtain ⟨b, off, K, n, hao, hbl, hcK, hwK, hcn, hwn⟩ := hacts.2 k hlt
      subst hao
      obtain ⟨hK0, hK1⟩ := u8w hwK
      obtain ⟨hn0, hn1⟩ := i64w hwn
      have hcK' : wr.cell? ⟨b, off + k * 2, none⟩ = some (.int .u8 K) := (hB.cell (p := ⟨b, off + k * 2, none⟩) hbl).trans hcK
      have hcn' : wr.cell? ⟨b, off + k * 2 + 1, none⟩ = some (.int .i64 n) := (hB.cell (p := ⟨b, off + k * 2 + 1, none⟩) hbl).trans hcn
      go_upto_block 2 with fail
      go_cut [4] (fun s4 wx => ∃ r2 : RS, r2.Ok ∧ r2.t = s ∧ IsR wx br r2 ∧ IsX wx bx r2 ∧ Below w.heap.size w wx)
      case first =>
        by_cases h0 : K % 6 = 0
        · have h0' : ((K % 6 : Int) == 0) = true := by rw [beq_iff_eq]; exact h0
          have cp := cursor_byte br r wr hok hI
          have cx := fun w h => ref01_byte bx r w hok h
          have hok2 := hok.byte
          have ht2 : r.byte.1.t = s := by unfold RS.byte; split <;> (try split) <;> exact hrt
          generalize r.byte = y at *
          obtain ⟨r2, v⟩ := y
          have CP := Lib.hid cp
          have CX := Lib.hid cx
          clear cp cx h0
          go_wp2_with fail
          refine CP.out.mono ?_
          rintro e w4 ⟨rfl, u4, hI4⟩
          have hX4 : IsX w4 bx r := u4.blk hX (Ne.symm hne)
          have hB4 := u4.below hB hsz1 hwr
          go_wp2_with fail
          refine (CX.out _ hX4).mono ?_
          rintro e w5 ⟨rfl, u5, hX5⟩
          have hI5 : IsR w5 br r2 := u5.blk hI4 hne
          have hB5 := u5.below hB4 hBx hB4.size
          go_wp2_with fail
          go_meet
          case rel => exact ⟨r2, hok2, ht2, hI5, hX5, hB5⟩
        · have h0' : ((K % 6 : Int) == 0) = false := by rw [beq_eq_false_iff_ne]; exact h0
          by_cases h4 : K % 6 = 4
          · have h4' : ((K % 6 : Int) == 4) = true := by rw [beq_iff_eq]; exact h4
            have cp := cursor_all br r wr hok hI
            have cl := fun w h => ref01_left bx r w hok h
            have cx := fun w h => ref01_take bx r ((r.t.size : Int) - r.p) w hok h
            have hok2 := hok.take ((r.t.size : Int) - r.p)
            have ht2 : (r.take ((r.t.size : Int) - r.p)).1.t = s := by rw [take_t]; exact hrt
            generalize (r.t.size : Int) - r.p = lf at *
            generalize r.take lf = y at *
            obtain ⟨r2, v⟩ := y
            have CL := Lib.hid cl
            clear cl h4 h0
            have CP := Lib.hid cp
            have CX := Lib.hid cx
            clear cp cx
            go_wp2_with fail
            refine CP.out.mono ?_
            rintro e w4 ⟨rfl, u4, hI4⟩
            have hX4 : IsX w4 bx r := u4.blk hX (Ne.symm hne)
            have hB4 := u4.below hB hsz1 hwr
            go_wp2_with fail
            refine (CL.out _ hX4).mono ?_
            rintro e w6 ⟨rfl, kk, rfl⟩
            have hX4 := Blk.drewN hX4 kk
            go_wp2_with fail
            refine (CX.out _ hX4).mono ?_
            rintro e w5 ⟨rfl, u5, hX5⟩
            have hI5 : IsR w5 br r2 := u5.blk (Blk.drewN hI4 kk) hne
            have hB5 := u5.below (w0 := w) (B := w.heap.size) ⟨hB4.os, hB4.tape, hB4.output, hB4.size, hB4.block⟩ hBx hB4.size
            go_wp2_with fail
            go_meet
            case rel => exact ⟨r2, hok2, ht2, hI5, hX5, hB5⟩
          · have h4' : ((K % 6 : Int) == 4) = false := by rw [beq_eq_false_iff_ne]; exact h4
            by_cases h5 : K % 6 = 5
            · have h5' : ((K % 6 : Int) == 5) = true := by rw [beq_iff_eq]; exact h5
              have cp := cursor_fail br r n wr hI
              have cx := fun w h => ref01_fail bx r n w h
              have hok2 := hok.fail n
              have ht2 : (r.fail n).t = s := by unfold RS.fail; split <;> exact hrt
              generalize r.fail n = r2 at *
              clear h5 h4 h0
              have CP := Lib.hid cp
              have CX := Lib.hid cx
              clear cp cx
              go_wp2_with fail
              refine CP.out.mono ?_
              rintro e w4 ⟨rfl, u4, hI4⟩
              have hX4 : IsX w4 bx r := u4.blk hX (Ne.symm hne)
              have hB4 := u4.below hB hsz1 hwr
              have hcn4 : w4.cell? ⟨b, off + k * 2 + 1, none⟩ = some (.int .i64 n) := (hB4.cell (p := ⟨b, off + k * 2 + 1, none⟩) hbl).trans hcn
              go_wp2_with fail
              refine (CX.out _ hX4).mono ?_
              rintro e w5 ⟨rfl, u5, hX5⟩
              have hI5 : IsR w5 br r2 := u5.blk hI4 hne
              have hB5 := u5.below hB4 hBx hB4.size
              go_wp2_with fail
              go_meet
              case rel => exact ⟨r2, hok2, ht2, hI5, hX5, hB5⟩
            · have h5' : ((K % 6 : Int) == 5) = false := by rw [beq_eq_false_iff_ne]; exact h5
              have cp := fun w h => cursor_take br r n w hok h
              have cx := fun w h => ref01_take bx r n w hok h
              have hok2 := hok.take n
              have ht2 : (r.take n).1.t = s := by rw [take_t]; exact hrt
              generalize r.take n = y at *
              obtain ⟨r2, v⟩ := y
              have CP := Lib.hid cp
              have CX := Lib.hid cx
              have HB := Lib.hid hB
              have HBL := Lib.hid hbl
              have HCN := Lib.hid hcn
              clear cp cx h5 h4 h0 hcn hB hcK hcK' hbl
              go_wp2_with fail
              go_region_held3 (fun w' => w'.cell? ⟨b, off + k * 2 + 1, none⟩ = some (.int .i64 n)) (first | assumption | exact hcn' | exact hcn4 | exact hcn5)
                (first
                  | (go_at_call 28; refine (CP.out _ (Blk.drew hI)).mono ?_; rintro e w4 ⟨rfl, u4, hI4⟩; have hcn4 := ((u4.below (w0 := w) (B := w.heap.size) ⟨HB.out.os, HB.out.tape, HB.out.output, HB.out.size, HB.out.block⟩ hsz1 hwr).cell (p := ⟨b, off + k * 2 + 1, none⟩) HBL.out).trans HCN.out)
                  | (go_at_call 41; refine (CX.out _ (u4.blk (Blk.drew hX) (Ne.symm hne))).mono ?_; rintro e w5 ⟨rfl, u5, hX5⟩; have hcn5 := ((u5.below ((u4.below (w0 := w) (B := w.heap.size) ⟨HB.out.os, HB.out.tape, HB.out.output, HB.out.size, HB.out.block⟩ hsz1 hwr)) hBx (Nat.le_trans hwr u4.size)).cell (p := ⟨b, off + k * 2 + 1, none⟩) HBL.out).trans HCN.out))
              go_wp2_with fail
              go_meet
              case rel => exact ⟨r2, hok2, ht2, u5.blk hI4 hne, hX5, u5.below (u4.below (w0 := w) (B := w.heap.size) ⟨HB.out.os, HB.out.tape, HB.out.output, HB.out.size, HB.out.block⟩ hsz1 hwr) hBx (Nat.le_trans hwr u4.size)⟩
      case rest =>
        obtain ⟨r2, hok2, ht2, hI5, hX5, hB5⟩ := hcut
        have hc5 : wc.cell? ⟨b, off + k * 2 + 1, none⟩ = some (.int .i64 n) := (hB5.cell (p := ⟨b, off + k * 2 + 1, none⟩) hbl).trans hcn
        obtain ⟨t2, p2, f2⟩ := r2
        simp only at ht2
        subst t2
        clear hI hX hB hok hrt hcK' hcn'
        have hp2 := hok2.1
        simp only at hp2
        have x0 := Blk.cell hX5 0
        have x1 := Blk.cell hX5 1
        have x2 := Blk.cell hX5 2
        simp [RS.cs] at x0 x1 x2
        obtain ⟨m, hm⟩ : ∃ m, m = (if (s.size : Int) - p2 < n then (s.size : Int) - p2 else n) := ⟨_, rfl⟩
        have hmin := hm.symm
        by_cases hA : f2 = 0 ∧ 0 < m
        · obtain ⟨hf, hm0⟩ := hA
          subst hf
          obtain ⟨q, rfl⟩ : ∃ q : Nat, m = q := ⟨m.toNat, by omega⟩
          have hpq : p2 + q ≤ s.size := by split at hm <;> omega
          
          have hav : RS.ahead ⟨s, p2, 0⟩ n = s.extract p2 (p2 + q) := ahead_yes (by split at hm <;> omega) (by split at hm <;> omega)
          have hm2 := Lib.hid hm
          clear hm
          let I : World → Prop := fun w' => IsR w' br ⟨s, p2, 0⟩ ∧ IsX w' bx ⟨s, p2, 0⟩ ∧ Below w.heap.size w w'
          have H45 : Hid (∀ x : FutI I, Calls Try.prog 45 #[.pointer (some ⟨br, 0, none⟩), .int .i64 n] x.at_ fun e w' => e = .returned (.string (s.extract p2 (p2 + q))) ∧ I w') := by
            intro x
            have := cursor_ahead br ⟨s, p2, 0⟩ n x.at_ hok2 x.is.1
            rw [hav] at this
            exact this.mono fun e w' ⟨he, hu, hr⟩ => ⟨he, hr, hu.blk x.is.2.1 (Ne.symm hne), hu.below x.is.2.2 hsz1 x.is.2.2.size⟩
          have H31 : Hid (∀ x : FutI I, Calls Try.prog 31 #[.pointer (some ⟨br, 0, none⟩)] x.at_ fun e w' => e = .returned (.int .i64 0) ∧ I w') := by
            intro x
            exact (cursor_fault br ⟨s, p2, 0⟩ x.at_ x.is.1).mono fun e w' ⟨he, hw⟩ => ⟨he, hw ▸ x.is⟩
          have H29 : Hid (∀ x : FutI I, Calls Try.prog 29 #[.pointer (some ⟨br, 0, none⟩)] x.at_ fun e w' => e = .returned (.int .i64 p2) ∧ I w') := by
            intro x
            exact (cursor_at br ⟨s, p2, 0⟩ x.at_ x.is.1).mono fun e w' ⟨he, hw⟩ => ⟨he, hw ▸ x.is⟩
          have H27 : Hid (∀ x : FutI I, Calls Try.prog 27 #[.pointer (some ⟨br, 0, none⟩)] x.at_ fun e w' => e = .returned (.int .i64 ((s.size : Int) - p2)) ∧ I w') := by
            intro x
            exact (cursor_left' br ⟨s, p2, 0⟩ x.at_ hok2 x.is.1).mono fun e w' ⟨he, hu, hr⟩ => ⟨he, hr, hu.blk x.is.2.1 (Ne.symm hne), hu.below x.is.2.2 hsz1 x.is.2.2.size⟩
          have H42 : Hid (∀ x : FutI I, Calls Try.prog 42 #[.pointer (some ⟨bx, 0, none⟩)] x.at_ fun e w' => e = .returned (.int .i64 ((s.size : Int) - p2)) ∧ I w') := by
            intro x
            exact (ref01_left bx ⟨s, p2, 0⟩ x.at_ hok2 x.is.2.1).mono fun e w' ⟨he, kk, hw⟩ => ⟨he, hw ▸ ⟨Blk.drewN x.is.1 kk, Blk.drewN x.is.2.1 kk, ⟨x.is.2.2.os, x.is.2.2.tape, x.is.2.2.output, x.is.2.2.size, x.is.2.2.block⟩⟩⟩
          have G1 : Hid (∀ x : FutI I, x.at_.cell? ⟨bx, 1, none⟩ = some (.int .i64 p2)) := fun x => by have := Blk.cell x.is.2.1 1; simpa [RS.cs] using this
          have G2 : Hid (∀ x : FutI I, x.at_.cell? ⟨bx, 2, none⟩ = some (.int .i64 0)) := fun x => by have := Blk.cell x.is.2.1 2; simpa [RS.cs] using this
          have G3 : Hid (∀ x : FutI I, x.at_.cell? ⟨b, off + k * 2 + 1, none⟩ = some (.int .i64 n)) := fun x => (x.is.2.2.cell (p := ⟨b, off + k * 2 + 1, none⟩) hbl).trans hcn
          have CL := Lib.hid (fun w h => ref01_left bx ⟨s, p2, 0⟩ w hok2 h)
          have HI := Lib.hid (show I wc from ⟨hI5, hX5, hB5⟩)
          have hItr : Hid (∀ w' q, I w' → I (World.drewN w' q)) := fun w' q h => ⟨Blk.drewN h.1 q, Blk.drewN h.2.1 q, ⟨h.2.2.os, h.2.2.tape, h.2.2.output, h.2.2.size, h.2.2.block⟩⟩
          have HO : Hid (∀ w', I w' → IsR w' br ⟨s, p2, 0⟩ ∧ IsX w' bx ⟨s, p2, 0⟩ ∧ Below w.heap.size w w') := fun w' h => h
          clear_value I
          clear hav hcn hbl
          have hkl : (k : Int) < (len : Int) := by omega
          have hk0 : (0 : Int) ≤ (k : Int) := by omega
          go_wp2_with fail
          go_quiet ((go_at_call 42; exact Calls.quiet_of (CL.out _ (Blk.drewN hX5 _))))
          go_wp2_with fail
          go_quiet (fail)
          go_wp2_with fail
          refine wp_gen I (by first | exact hItr.out _ _ (hItr.out _ _ HI.out) | exact hItr.out _ _ HI.out) ?_
          intro wW hIW
          have HIW := Lib.hid hIW
          clear hIW
          have g1 := G1.out
          have g2 := G2.out
          have g3 := G3.out
          refine wp_region_inv (I := I) (hItr.out wW 1 HIW.out) (by kernel_rfl) (by kernel_rfl) ?_
          intro hne0
          repeat (go_big_quiet_step ((first | (go_at_call 45; exact Calls.inv (H45.out _)) | (go_at_call 31; exact Calls.inv (H31.out _)) | (go_at_call 29; exact Calls.inv (H29.out _)) | (go_at_call 27; exact Calls.inv (H27.out _)) | (go_at_call 42; exact Calls.inv (H42.out _)))))
          refine wpQuiet_nil ?_
          intro x
          have hxo := HO.out _ x.is
          obtain ⟨xw, xI⟩ := x
          go_wp2_with fail
          go_roundw
          case rel => exact ⟨k + 1, ⟨s, p2, 0⟩, by go_num, by omega, hok2, rfl, hxo.1, hxo.2.1, hxo.2.2⟩
          case measure => simp [intOf]; omega
        · by_cases hm0 : 0 < m
          · have hf : ((f2 : Int) == 0) = false := by rw [beq_eq_false_iff_ne]; exact fun h => hA ⟨h, hm0⟩
            have hav : RS.ahead ⟨s, p2, f2⟩ n = nostr := ahead_not hm hp2 hA
            clear hA
            have hm2 := Lib.hid hm
            clear hm
            let I : World → Prop := fun w' => IsR w' br ⟨s, p2, f2⟩ ∧ IsX w' bx ⟨s, p2, f2⟩ ∧ Below w.heap.size w w'
            have H45 : Hid (∀ x : FutI I, Calls Try.prog 45 #[.pointer (some ⟨br, 0, none⟩), .int .i64 n] x.at_ fun e w' => e = .returned (.string (nostr)) ∧ I w') := by
              intro x
              have := cursor_ahead br ⟨s, p2, f2⟩ n x.at_ hok2 x.is.1
              rw [hav] at this
              exact this.mono fun e w' ⟨he, hu, hr⟩ => ⟨he, hr, hu.blk x.is.2.1 (Ne.symm hne), hu.below x.is.2.2 hsz1 x.is.2.2.size⟩
            have H31 : Hid (∀ x : FutI I, Calls Try.prog 31 #[.pointer (some ⟨br, 0, none⟩)] x.at_ fun e w' => e = .returned (.int .i64 f2) ∧ I w') := by
              intro x
              exact (cursor_fault br ⟨s, p2, f2⟩ x.at_ x.is.1).mono fun e w' ⟨he, hw⟩ => ⟨he, hw ▸ x.is⟩
            have H29 : Hid (∀ x : FutI I, Calls Try.prog 29 #[.pointer (some ⟨br, 0, none⟩)] x.at_ fun e w' => e = .returned (.int .i64 p2) ∧ I w') := by
              intro x
              exact (cursor_at br ⟨s, p2, f2⟩ x.at_ x.is.1).mono fun e w' ⟨he, hw⟩ => ⟨he, hw ▸ x.is⟩
            have H27 : Hid (∀ x : FutI I, Calls Try.prog 27 #[.pointer (some ⟨br, 0, none⟩)] x.at_ fun e w' => e = .returned (.int .i64 ((s.size : Int) - p2)) ∧ I w') := by
              intro x
              exact (cursor_left' br ⟨s, p2, f2⟩ x.at_ hok2 x.is.1).mono fun e w' ⟨he, hu, hr⟩ => ⟨he, hr, hu.blk x.is.2.1 (Ne.symm hne), hu.below x.is.2.2 hsz1 x.is.2.2.size⟩
            have H42 : Hid (∀ x : FutI I, Calls Try.prog 42 #[.pointer (some ⟨bx, 0, none⟩)] x.at_ fun e w' => e = .returned (.int .i64 ((s.size : Int) - p2)) ∧ I w') := by
              intro x
              exact (ref01_left bx ⟨s, p2, f2⟩ x.at_ hok2 x.is.2.1).mono fun e w' ⟨he, kk, hw⟩ => ⟨he, hw ▸ ⟨Blk.drewN x.is.1 kk, Blk.drewN x.is.2.1 kk, ⟨x.is.2.2.os, x.is.2.2.tape, x.is.2.2.output, x.is.2.2.size, x.is.2.2.block⟩⟩⟩
            have G1 : Hid (∀ x : FutI I, x.at_.cell? ⟨bx, 1, none⟩ = some (.int .i64 p2)) := fun x => by have := Blk.cell x.is.2.1 1; simpa [RS.cs] using this
            have G2 : Hid (∀ x : FutI I, x.at_.cell? ⟨bx, 2, none⟩ = some (.int .i64 f2)) := fun x => by have := Blk.cell x.is.2.1 2; simpa [RS.cs] using this
            have G3 : Hid (∀ x : FutI I, x.at_.cell? ⟨b, off + k * 2 + 1, none⟩ = some (.int .i64 n)) := fun x => (x.is.2.2.cell (p := ⟨b, off + k * 2 + 1, none⟩) hbl).trans hcn
            have CL := Lib.hid (fun w h => ref01_left bx ⟨s, p2, f2⟩ w hok2 h)
            have HI := Lib.hid (show I wc from ⟨hI5, hX5, hB5⟩)
            have hItr : Hid (∀ w' q, I w' → I (World.drewN w' q)) := fun w' q h => ⟨Blk.drewN h.1 q, Blk.drewN h.2.1 q, ⟨h.2.2.os, h.2.2.tape, h.2.2.output, h.2.2.size, h.2.2.block⟩⟩
            have HO : Hid (∀ w', I w' → IsR w' br ⟨s, p2, f2⟩ ∧ IsX w' bx ⟨s, p2, f2⟩ ∧ Below w.heap.size w w') := fun w' h => h
            clear_value I
            clear hav hcn hbl
            have hkl : (k : Int) < (len : Int) := by omega
            have hk0 : (0 : Int) ≤ (k : Int) := by omega
            go_wp2_with fail
            go_quiet ((go_at_call 42; exact Calls.quiet_of (CL.out _ (Blk.drewN hX5 _))))
            go_wp2_with fail
            refine wp_gen I (by first | exact hItr.out _ _ (hItr.out _ _ HI.out) | exact hItr.out _ _ HI.out) ?_
            intro wW hIW
            have HIW := Lib.hid hIW
            clear hIW
            have g1 := G1.out
            have g2 := G2.out
            have g3 := G3.out
            refine wp_region_inv (I := I) (hItr.out wW 1 HIW.out) (by kernel_rfl) (by kernel_rfl) ?_
            intro hne0
            repeat (go_big_quiet_step ((first | (go_at_call 45; exact Calls.inv (H45.out _)) | (go_at_call 31; exact Calls.inv (H31.out _)) | (go_at_call 29; exact Calls.inv (H29.out _)) | (go_at_call 27; exact Calls.inv (H27.out _)) | (go_at_call 42; exact Calls.inv (H42.out _)))))
            refine wpQuiet_nil ?_
            intro x
            have hxo := HO.out _ x.is
            obtain ⟨xw, xI⟩ := x
            go_wp2_with fail
            go_roundw
            case rel => exact ⟨k + 1, ⟨s, p2, f2⟩, by go_num, by omega, hok2, rfl, hxo.1, hxo.2.1, hxo.2.2⟩
            case measure => simp [intOf]; omega
          · have hm0' : decide ((0 : Int) < m) = false := by simpa using hm0
            have hav : RS.ahead ⟨s, p2, f2⟩ n = nostr := ahead_not hm hp2 hA
            clear hA
            have hm2 := Lib.hid hm
            clear hm
            let I : World → Prop := fun w' => IsR w' br ⟨s, p2, f2⟩ ∧ IsX w' bx ⟨s, p2, f2⟩ ∧ Below w.heap.size w w'
            have H45 : Hid (∀ x : FutI I, Calls Try.prog 45 #[.pointer (some ⟨br, 0, none⟩), .int .i64 n] x.at_ fun e w' => e = .returned (.string (nostr)) ∧ I w') := by
              intro x
              have := cursor_ahead br ⟨s, p2, f2⟩ n x.at_ hok2 x.is.1
              rw [hav] at this
              exact this.mono fun e w' ⟨he, hu, hr⟩ => ⟨he, hr, hu.blk x.is.2.1 (Ne.symm hne), hu.below x.is.2.2 hsz1 x.is.2.2.size⟩
            have H31 : Hid (∀ x : FutI I, Calls Try.prog 31 #[.pointer (some ⟨br, 0, none⟩)] x.at_ fun e w' => e = .returned (.int .i64 f2) ∧ I w') := by
              intro x
              exact (cursor_fault br ⟨s, p2, f2⟩ x.at_ x.is.1).mono fun e w' ⟨he, hw⟩ => ⟨he, hw ▸ x.is⟩
            have H29 : Hid (∀ x : FutI I, Calls Try.prog 29 #[.pointer (some ⟨br, 0, none⟩)] x.at_ fun e w' => e = .returned (.int .i64 p2) ∧ I w') := by
              intro x
              exact (cursor_at br ⟨s, p2, f2⟩ x.at_ x.is.1).mono fun e w' ⟨he, hw⟩ => ⟨he, hw ▸ x.is⟩
            have H27 : Hid (∀ x : FutI I, Calls Try.prog 27 #[.pointer (some ⟨br, 0, none⟩)] x.at_ fun e w' => e = .returned (.int .i64 ((s.size : Int) - p2)) ∧ I w') := by
              intro x
              exact (cursor_left' br ⟨s, p2, f2⟩ x.at_ hok2 x.is.1).mono fun e w' ⟨he, hu, hr⟩ => ⟨he, hr, hu.blk x.is.2.1 (Ne.symm hne), hu.below x.is.2.2 hsz1 x.is.2.2.size⟩
            have H42 : Hid (∀ x : FutI I, Calls Try.prog 42 #[.pointer (some ⟨bx, 0, none⟩)] x.at_ fun e w' => e = .returned (.int .i64 ((s.size : Int) - p2)) ∧ I w') := by
              intro x
              exact (ref01_left bx ⟨s, p2, f2⟩ x.at_ hok2 x.is.2.1).mono fun e w' ⟨he, kk, hw⟩ => ⟨he, hw ▸ ⟨Blk.drewN x.is.1 kk, Blk.drewN x.is.2.1 kk, ⟨x.is.2.2.os, x.is.2.2.tape, x.is.2.2.output, x.is.2.2.size, x.is.2.2.block⟩⟩⟩
            have G1 : Hid (∀ x : FutI I, x.at_.cell? ⟨bx, 1, none⟩ = some (.int .i64 p2)) := fun x => by have := Blk.cell x.is.2.1 1; simpa [RS.cs] using this
            have G2 : Hid (∀ x : FutI I, x.at_.cell? ⟨bx, 2, none⟩ = some (.int .i64 f2)) := fun x => by have := Blk.cell x.is.2.1 2; simpa [RS.cs] using this
            have G3 : Hid (∀ x : FutI I, x.at_.cell? ⟨b, off + k * 2 + 1, none⟩ = some (.int .i64 n)) := fun x => (x.is.2.2.cell (p := ⟨b, off + k * 2 + 1, none⟩) hbl).trans hcn
            have CL := Lib.hid (fun w h => ref01_left bx ⟨s, p2, f2⟩ w hok2 h)
            have HI := Lib.hid (show I wc from ⟨hI5, hX5, hB5⟩)
            have hItr : Hid (∀ w' q, I w' → I (World.drewN w' q)) := fun w' q h => ⟨Blk.drewN h.1 q, Blk.drewN h.2.1 q, ⟨h.2.2.os, h.2.2.tape, h.2.2.output, h.2.2.size, h.2.2.block⟩⟩
            have HO : Hid (∀ w', I w' → IsR w' br ⟨s, p2, f2⟩ ∧ IsX w' bx ⟨s, p2, f2⟩ ∧ Below w.heap.size w w') := fun w' h => h
            clear_value I
            clear hav hcn hbl
            have hkl : (k : Int) < (len : Int) := by omega
            have hk0 : (0 : Int) ≤ (k : Int) := by omega
            go_wp2_with fail
            go_quiet ((go_at_call 42; exact Calls.quiet_of (CL.out _ (Blk.drewN hX5 _))))
            go_wp2_with fail
            refine wp_gen I (by first | exact hItr.out _ _ (hItr.out _ _ HI.out) | exact hItr.out _ _ HI.out) ?_
            intro wW hIW
            have HIW := Lib.hid hIW
            clear hIW
            have g1 := G1.out
            have g2 := G2.out
            have g3 := G3.out
            refine wp_region_inv (I := I) (hItr.out wW 1 HIW.out) (by kernel_rfl) (by kernel_rfl) ?_
            intro hne0
            repeat (go_big_quiet_step ((first | (go_at_call 45; exact Calls.inv (H45.out _)) | (go_at_call 31; exact Calls.inv (H31.out _)) | (go_at_call 29; exact Calls.inv (H29.out _)) | (go_at_call 27; exact Calls.inv (H27.out _)) | (go_at_call 42; exact Calls.inv (H42.out _)))))
            refine wpQuiet_nil ?_
            intro x
            have hxo := HO.out _ x.is
            obtain ⟨xw, xI⟩ := x
            go_wp2_with fail
            go_roundw
            case rel => exact ⟨k + 1, ⟨s, p2, f2⟩, by go_num, by omega, hok2, rfl, hxo.1, hxo.2.1, hxo.2.2⟩
            case measure => simp [intOf]; omega
    · go_wp2_with fail
      refine (cursor_fail_nil _ _).mono ?_
      rintro e w4 ⟨rfl, hb4⟩
      go_wp2_with fail
      refine (cursor_byte_nil _).mono ?_
      rintro e w5 ⟨rfl, hb5⟩
      go_wp2_with fail
      refine (cursor_take_nil _ _).mono ?_
      rintro e w6 ⟨rfl, hb6⟩
      go_wp2_with fail
      refine (cursor_all_nil _).mono ?_
      rintro e w7 ⟨rfl, hb7⟩
      go_wp2_with fail
      refine (cursor_ahead_nil _ _).mono ?_
      rintro e w8 ⟨rfl, hb8⟩
      go_wp2_with fail
      refine (cursor_left_nil _).mono ?_
      rintro e w' ⟨rfl, rfl⟩
      go_wp2_with fail
      refine (cursor_at_nil _).mono ?_
      rintro e w' ⟨rfl, rfl⟩
      go_wp2_with fail
      refine (cursor_fault_nil _).mono ?_
      rintro e w' ⟨rfl, rfl⟩
      go_wp2_with fail
      go_returns
      have s4 := hb4.size
      have s5 := hb5.size
      have s6 := hb6.size
      have s7 := hb7.size
      exact ⟨rfl, ((((hB.trans (hb4.mono hwr)).trans (hb5.mono (by omega))).trans (hb6.mono (by omega))).trans (hb7.mono (by omega))).trans (hb8.mono (by omega))⟩
end Go.Proofs.Ytknokfofjhlkeaa
