/- slices.Chunk of bytes. -/
import Derived.Test.YtemfecdpjegocaaChecked
import Derived.Test.YtemfecdpjegocaaRound
import Derived.Test.YtemfecdpjegocaaObj
import Derived.Test.YtemfecdpjegocaaTail
import Derived.Shelf.Abstract
import Derived.TacticsInMore
import Derived.LoopNIn
import Derived.LoopIn
import Derived.Sort.CutIn
import Derived.WalkSpells
import Derived.Deep.Cut
namespace Go.Proofs.Ytemfecdpjegocaa
open Go.RowKit Go.Shelf
attribute [local go_sem] Oper.semAt_some
set_option linter.unusedVariables false
set_option linter.unusedSimpArgs false

def chunksN (len size : Nat) : Nat := (len + size - 1) / size
theorem chunksN_lt {len size k : Nat} (hs : 1 ≤ size) : k < chunksN len size ↔ k * size < len := by
  unfold chunksN
  rw [Nat.lt_iff_add_one_le, Nat.le_div_iff_mul_le (by omega), Nat.add_mul, Nat.one_mul]
  omega
def pieceN (len size k : Nat) : Nat := min size (len - k * size)
def encC (g len size : Nat) (k : Nat) : Array Value := #[.slice (some ⟨g, k * size, none⟩) (pieceN len size k) (pieceN len size k)]

set_option maxRecDepth 100000 in
theorem slices_chunk (g len cap size : Nat) (w : World) (hs : 1 ≤ size) :
    Calls Try.prog 45 #[.slice (some ⟨g, 0, none⟩) len cap, .int .i64 size] w fun e w' => e = .returned (.func (.func 63) #[] #[.pointer (some ⟨w.heap.size, 0, none⟩), .pointer (some ⟨w.heap.size + 1, 0, none⟩)]) ∧
      Below w.heap.size w w' ∧ Blk w' w.heap.size #[.slice (some ⟨g, 0, none⟩) len cap] 39 ∧ Blk w' (w.heap.size + 1) #[.int .i64 size] 3 := by
  have d : decide ((size : Int) < 1) = false := by simp; omega
  have hb := (Blk.new w #[.slice (some ⟨g, 0, none⟩) len cap] 39).alloc (.cells #[.int .i64 size] 3)
  have hb2 := Blk.new (w.alloc (.cells #[.slice (some ⟨g, 0, none⟩) len cap] 39)) #[.int .i64 size] 3
  rw [World.size_alloc] at hb2
  have HB := Lib.hid hb
  have HB2 := Lib.hid hb2
  clear hb hb2
  go_enter Try.func45, Try.ntmps45
  go_wp2_with fail
  go_returns
  exact ⟨rfl, ((Below.refl _ _).alloc (Nat.le_refl _) _).alloc (by simp) _, HB.out, HB2.out⟩

theorem wide_depthC (n : Nat) : Fence.wide.depth.isSome = true → 1 ≤ n := fun h => Bool.noConfusion h
set_option maxRecDepth 100000 in
set_option maxHeartbeats 1000000 in
theorem chunk1_in (n : Nat) (l b1 b2 E g len cap size : Nat) (hs : 1 ≤ size ∧ size ≤ 65536) (hl : len ≤ 100000) (hcap : len ≤ cap) (J : Nat → World → Prop) (W : World) (hJ : AbN W.heap.size J)
    (hY : ∀ k W1, k < chunksN len size → J k W1 → YieldAt Fence.wide (n - 1) Try.prog l (encC g len size k) W1 fun e W' => e = .returned (.bool true) ∧ J (k + 1) W' ∧ KpC E W1 W')
    (hE : E ≤ b1 ∧ E ≤ b2) (hB1 : Blk W b1 #[.slice (some ⟨g, 0, none⟩) len cap] 39) (hB2 : Blk W b2 #[.int .i64 size] 3) (h0 : J 0 W) :
    CallsIn Fence.wide n Try.prog 63 #[.func (.yield l) #[] #[], .pointer (some ⟨b1, 0, none⟩), .pointer (some ⟨b2, 0, none⟩)] W fun e W' => (∃ v, e = .returned v) ∧ J (chunksN len size) W' := by
  have hro : Fence.wide.round = none := rfl
  obtain ⟨hs1, hs2⟩ := hs
  have HS2 := Lib.hid hs2
  clear hs2
  obtain ⟨N, hN⟩ : ∃ N, chunksN len size = N := ⟨_, rfl⟩
  have HC : Hid (∀ k, k < N ↔ k * size < len) := fun k => hN ▸ chunksN_lt hs1
  rw [hN] at hY ⊢
  have HY := Lib.hid hY
  clear hY
  refine callsIn_of_wp Try.func63 rfl trivial ?_ hro
  simp only [Try.ntmps63, List.size_toArray, List.length_cons, List.length_nil, Nat.reduceAdd, Nat.reduceSub, Array.replicate_succ, Array.replicate_zero, List.push_toArray, List.append_toArray, List.nil_append, List.cons_append]
  gi_wp2
  gi_loopw [4] (fun i wr => ∃ k o : Nat, k ≤ N ∧ Hid (o = k * size) ∧ o ≤ 200000 ∧ i = .int .i64 o ∧ J k wr ∧ Blk wr b1 #[.slice (some ⟨g, 0, none⟩) len cap] 39 ∧ Blk wr b2 #[.int .i64 size] 3) (fun i _ => len - (intOf i).toNat)
  case atStart => exact ⟨0, 0, by omega, by unfold Hid; simp, by omega, rfl, h0, hB1, hB2⟩
  case round =>
    obtain ⟨k, o, hk, ho, ho2, rfl, hJs, hR1, hR2⟩ := hrel
    have c1 : wr.cell? ⟨b1, 0, none⟩ = some (.slice (some ⟨g, 0, none⟩) len cap) := hR1.cell 0
    have c2 : wr.cell? ⟨b2, 0, none⟩ = some (.int .i64 size) := hR2.cell 0
    by_cases hlt : o < len
    · have hkN : k < N := (HC.out k).2 (by rw [← ho.out]; exact hlt)
      have HJ := Lib.hid hJs
      have HR1 := Lib.hid hR1
      have HR2 := Lib.hid hR2
      clear hJs hR1 hR2
      have hp : ∃ m : Nat, pieceN len size k = m ∧ 1 ≤ m ∧ o + m ≤ len ∧ ((size ≤ len - o ∧ m = size) ∨ (¬ size ≤ len - o ∧ m = len - o)) := by
        refine ⟨_, rfl, ?_⟩
        unfold pieceN
        rw [← ho.out]
        omega
      obtain ⟨m, hm, hm1, hm3, hmc⟩ := hp
      have HM := Lib.hid hm
      clear hm
      rcases hmc with ⟨hc, hmc⟩ | ⟨hc, hmc⟩
      · subst hmc
        gi_upto_region 3 with (refine ⟨trivial, ?_⟩; skip)
        refine wpIn_wide.2 (wp_region_drew_tail 6 (by kernel_rfl) (by kernel_rfl) ?_)
        simp only [List.take_succ_cons, List.take_zero, List.drop_succ_cons, List.drop_zero]
        repeat (go_big_quiet_step (fail))
        refine wpQuiet_nil ?_
        intro k15
        go_wp2
        have hJ1 := Lib.hid (hJ k wr (wr.drewN k15) none HJ.out ⟨rfl, rfl, rfl, Nat.le_refl _, fun _ _ _ => rfl⟩ (fun _ e => by cases e))
        have hR1 := Lib.hid (HR1.out.drewN k15)
        have hR2 := Lib.hid (HR2.out.drewN k15)
        generalize wr.drewN k15 = W1 at *
        have c1 : W1.cell? ⟨b1, 0, none⟩ = some (.slice (some ⟨g, 0, none⟩) len cap) := hR1.out.cell 0
        obtain ⟨fn, tmps, assign, body, hy, hR'⟩ := HY.out k W1 hkN hJ1.out
        unfold encC at hy
        rw [HM.out, ← ho.out] at hy
        have hmo : ¬ o + m = o := by omega
        gi_wp2
        refine ⟨wide_depthC _, hR'.mono ?_⟩
        rintro e W3 ⟨rfl, hJ3, hK3⟩
        have HJ3 := Lib.hid hJ3
        have hR13 : Hid (Blk W3 b1 #[.slice (some ⟨g, 0, none⟩) len cap] 39) := hK3.2 _ _ _ _ hE.1 hR1.out
        have hR23 : Hid (Blk W3 b2 #[.int .i64 m] 3) := hK3.2 _ _ _ _ hE.2 hR2.out
        have c2 : W3.cell? ⟨b2, 0, none⟩ = some (.int .i64 m) := hR23.out.cell 0
        have hb2 : o + m ≤ 200000 := by have := HS2.out; omega
        clear hJ3 hK3 hR' hy
        gi_wp2
        go_roundw
        case rel => exact ⟨k + 1, o + m, by omega, by unfold Hid; rw [ho.out, Nat.add_mul, Nat.one_mul], hb2, by go_num, HJ3.out, hR13.out, hR23.out⟩
        case measure => simp [intOf]; omega
      · have e5 : len - o = m := hmc.symm
        rw [e5] at hc
        clear hmc
        gi_upto_region 3 with (refine ⟨trivial, ?_⟩; skip)
        refine wpIn_wide.2 (wp_region_drew_tail 6 (by kernel_rfl) (by kernel_rfl) ?_)
        simp only [List.take_succ_cons, List.take_zero, List.drop_succ_cons, List.drop_zero]
        repeat (go_big_quiet_step (fail))
        refine wpQuiet_nil ?_
        intro k15
        go_wp2
        have hJ1 := Lib.hid (hJ k wr (wr.drewN k15) none HJ.out ⟨rfl, rfl, rfl, Nat.le_refl _, fun _ _ _ => rfl⟩ (fun _ e => by cases e))
        have hR1 := Lib.hid (HR1.out.drewN k15)
        have hR2 := Lib.hid (HR2.out.drewN k15)
        generalize wr.drewN k15 = W1 at *
        have c1 : W1.cell? ⟨b1, 0, none⟩ = some (.slice (some ⟨g, 0, none⟩) len cap) := hR1.out.cell 0
        obtain ⟨fn, tmps, assign, body, hy, hR'⟩ := HY.out k W1 hkN hJ1.out
        unfold encC at hy
        rw [HM.out, ← ho.out] at hy
        have hmo : ¬ o + m = o := by omega
        gi_wp2
        refine ⟨wide_depthC _, hR'.mono ?_⟩
        rintro e W3 ⟨rfl, hJ3, hK3⟩
        have HJ3 := Lib.hid hJ3
        have hR13 : Hid (Blk W3 b1 #[.slice (some ⟨g, 0, none⟩) len cap] 39) := hK3.2 _ _ _ _ hE.1 hR1.out
        have hR23 : Hid (Blk W3 b2 #[.int .i64 size] 3) := hK3.2 _ _ _ _ hE.2 hR2.out
        have c2 : W3.cell? ⟨b2, 0, none⟩ = some (.int .i64 size) := hR23.out.cell 0
        have hb2 : o + size ≤ 200000 := by have := HS2.out; omega
        clear hJ3 hK3 hR' hy
        gi_wp2
        go_roundw
        case rel => exact ⟨k + 1, o + size, by omega, by unfold Hid; rw [ho.out, Nat.add_mul, Nat.one_mul], hb2, by go_num, HJ3.out, hR13.out, hR23.out⟩
        case measure => simp [intOf]; omega
    · have hkN : k = N := by
        have : ¬ k < N := fun h => hlt (by have := (HC.out k).1 h; rw [ho.out]; exact this)
        omega
      subst hkN
      have HJ := Lib.hid hJs
      clear hJs
      gi_wp2
      go_end0
      exact ⟨⟨_, rfl⟩, HJ.out⟩

/-- What slices.Chunk hands back: a sequence of pieces. -/
theorem seq_chunk (n b1 b2 E g len cap size : Nat) (w : World) (hs : 1 ≤ size ∧ size ≤ 65536) (hl : len ≤ 100000) (hcap : len ≤ cap) (hE : E ≤ b1 ∧ E ≤ b2)
    (hB1 : Blk w b1 #[.slice (some ⟨g, 0, none⟩) len cap] 39) (hB2 : Blk w b2 #[.int .i64 size] 3) :
    SeqCells Fence.wide n Try.prog 63 #[.pointer (some ⟨b1, 0, none⟩), .pointer (some ⟨b2, 0, none⟩)] (encC g len size) (KpC E) (chunksN len size) w := by
  intro l J W hb hJ hY h0
  exact chunk1_in n l b1 b2 E g len cap size hs hl hcap J W hJ hY hE (Below.blk hb hB1 hB1.lt) (Below.blk hb hB2 hB2.lt) h0
end Go.Proofs.Ytemfecdpjegocaa
