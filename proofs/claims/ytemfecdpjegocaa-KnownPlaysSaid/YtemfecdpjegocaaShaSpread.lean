/- sha.spread: the words that a block spreads to, one by one. -/
import Derived.Test.YtemfecdpjegocaaShaWord
import Derived.Test.YtemfecdpjegocaaRound
import Derived.Test.YtemfecdpjegocaaTail
import Derived.Test.YtemfecdpjegocaaObj
import Derived.Shelf.Abstract
import Derived.TacticsInMore
import Derived.LoopNIn
import Derived.LoopIn
import Derived.Sort.CutIn
namespace Go.Proofs.Ytemfecdpjegocaa
open Go.RowKit Go.Shelf
attribute [local go_sem] Oper.semAt_some
set_option linter.unusedVariables false

def wS (l : List UInt8) (i : Nat) : UInt32 := (spreadN l 64).getD i 0
theorem spreadN_length (l : List UInt8) : ∀ n, (spreadN l n).length = n
  | 0 => rfl
  | n + 1 => by rw [spreadN, List.length_append, spreadN_length l n]; rfl
theorem spreadN_get (l : List UInt8) (i n : Nat) (h : i < n) : ∀ m, (spreadN l (n + m)).getD i 0 = (spreadN l n).getD i 0
  | 0 => rfl
  | m + 1 => by
    rw [← spreadN_get l i n h m, show n + (m + 1) = (n + m) + 1 by omega, spreadN, List.getD_eq_getElem?_getD, List.getD_eq_getElem?_getD, List.getElem?_append_left (by rw [spreadN_length]; omega)]
theorem wS_at (l : List UInt8) (n i : Nat) (h : i < n) (hn : n ≤ 64) : (spreadN l n).getD i 0 = wS l i := by
  unfold wS
  have := spreadN_get l i n h (64 - n)
  rw [show n + (64 - n) = 64 by omega] at this
  exact this.symm
theorem wS_next (l : List UInt8) (i : Nat) (h : i < 64) : wS l i = nextW l (spreadN l i) i := by
  rw [← wS_at l (i + 1) i (by omega) (by omega), spreadN, List.getD_eq_getElem?_getD, List.getElem?_append_right (by rw [spreadN_length]; omega), spreadN_length]
  simp
theorem wS_lo (l : List UInt8) (i : Nat) (h : i < 16) : wS l i = wordN l i := by rw [wS_next l i (by omega), nextW, if_pos h]
theorem wS_hi (l : List UInt8) (i : Nat) (h : 16 ≤ i) (h2 : i < 64) : wS l i = wS l (i - 16) + (smallM (wS l (i - 15)) 7 18 3 + wS l (i - 7) + smallM (wS l (i - 2)) 17 19 10) := by
  rw [wS_next l i h2, nextW, if_neg (by omega), wS_at l i _ (by omega) (by omega), wS_at l i _ (by omega) (by omega), wS_at l i _ (by omega) (by omega), wS_at l i _ (by omega) (by omega)]

/-- The ring behind k words. -/
def ringC (l : Nat → UInt32) : Nat → Array Value
  | 0 => Array.replicate 16 (.int .u32 0)
  | k + 1 => (ringC l k).setIfInBounds (k % 16) (.int .u32 ((l k).toNat : Int))
theorem ringC_size (l : Nat → UInt32) : ∀ k, (ringC l k).size = 16
  | 0 => rfl
  | k + 1 => by rw [ringC, Array.size_setIfInBounds, ringC_size l k]
theorem ringC_get (l : Nat → UInt32) : ∀ (k m : Nat), m < k → k ≤ m + 16 → (ringC l k)[m % 16]? = some (.int .u32 ((l m).toNat : Int))
  | 0, m, h, _ => by omega
  | k + 1, m, h, h2 => by
    rw [ringC]
    by_cases e : m = k
    · subst e
      rw [Array.getElem?_setIfInBounds_self, if_pos (by rw [ringC_size]; omega)]
    · rw [Array.getElem?_setIfInBounds_ne (by omega)]
      exact ringC_get l k m (by omega) (by omega)
theorem ringC_any (l : Nat → UInt32) (k j : Nat) (h : j < 16) : ∃ v, (ringC l k)[j]? = some v := ⟨_, Array.getElem?_eq_getElem (by rw [ringC_size]; exact h)⟩

theorem wpIn_gen {P : Program} {F : Fence} {n : Nat} {c : Code} {Q : Exit → Act → World → Prop} {a : Act} {W : World} (R : World → Prop) (hR : R W) (h : ∀ w, R w → c.wpIn F n P Q a w) : c.wpIn F n P Q a W := h W hR
theorem AbN.drewN {β : Type} {B : Nat} {J : β → World → Prop} (h : AbN B J) {k : β} {w : World} (hk : J k w) (m : Nat) : J k (w.drewN m) := h _ _ _ none hk ⟨rfl, rfl, rfl, Nat.le_refl _, fun _ _ _ => rfl⟩ (fun _ e => by cases e)
theorem AbN.set {β : Type} {B : Nat} {J : β → World → Prop} (h : AbN B J) {k : β} {w : World} (hk : J k w) {b : Nat} (hb : B ≤ b) (i : Nat) (v : Value) : J k (w.setCell ⟨b, i, none⟩ v) :=
  h _ _ _ (some b) hk ⟨rfl, rfl, rfl, by simp [World.setCell], fun j _ hj => Below.heap_setCell _ _ _ _ (fun e => hj (by rw [e]))⟩ (fun _ e => by cases e; exact hb)

theorem wide_fn (f : FuncId) : Fence.wide.fn f := trivial
theorem wide_depth (n : Nat) : Fence.wide.depth.isSome = true → 1 ≤ n := fun h => Bool.noConfusion h

def encW (l : Nat → UInt32) (k : Nat) : Array Value := #[.int .i64 (k : Int), .int .u32 ((l k).toNat : Int)]

theorem small_int (x : UInt32) (p q r : Int) (w : World) (hp : 1 ≤ p ∧ p ≤ 31) (hq : 1 ≤ q ∧ q ≤ 31) (hr : 1 ≤ r ∧ r ≤ 31) :
    Calls Try.prog 110 #[.int .u32 x.toNat, .int .i64 p, .int .i64 q, .int .i64 r] w fun e w' => e = .returned (.int .u32 (smallM x p.toNat q.toNat r.toNat).toNat) ∧ ∃ n, w' = w.drewN n := by
  have h := sha_smallmix x p.toNat q.toNat r.toNat w (by omega) (by omega) (by omega)
  rwa [show ((p.toNat : Nat) : Int) = p by omega, show ((q.toNat : Nat) : Int) = q by omega, show ((r.toNat : Nat) : Int) = r by omega] at h

set_option maxRecDepth 100000 in
set_option maxHeartbeats 600000 in
theorem spread1_in (n : Nat) (l Bs E : Nat) (s : ByteArray) (wv : Nat → UInt32) (hw1 : ∀ (k : Nat) (w : World), k < 16 → Calls Try.prog 94 #[.string s, .int .i64 k] w fun e w' => e = .returned (.int .u32 (wv k).toNat) ∧ ∃ n, w' = w.drewN n)
    (hw2 : ∀ k, 16 ≤ k → k < 64 → wv k = wv (k - 16) + (smallM (wv (k - 15)) 7 18 3 + wv (k - 7) + smallM (wv (k - 2)) 17 19 10)) (J : Nat → World → Prop) (W : World) (hJ : AbN W.heap.size J)
    (hY : ∀ k W1, k < 64 → J k W1 → YieldAt Fence.wide (n - 1) Try.prog l (encW wv k) W1 fun e W' => e = .returned (.bool true) ∧ J (k + 1) W' ∧ KpC E W1 W')
    (hE : E ≤ Bs) (hBs : Blk W Bs #[.string s] 9) (h0 : J 0 W) :
    CallsIn Fence.wide n Try.prog 109 #[.func (.yield l) #[] #[], .pointer (some ⟨Bs, 0, none⟩)] W fun e W' => (∃ v, e = .returned v) ∧ J 64 W' := by
  have hro : Fence.wide.round = none := rfl
  have HW1 := Lib.hid hw1
  have HW2 := Lib.hid hw2
  clear hw1 hw2
  obtain ⟨B, hB⟩ : ∃ B, W.heap.size = B := ⟨_, rfl⟩
  have hBsB : Bs < B := by rw [← hB]; exact hBs.lt
  refine callsIn_of_wp Try.func109 rfl trivial ?_ hro
  simp only [Try.ntmps109, List.size_toArray, List.length_cons, List.length_nil, Nat.reduceAdd, Nat.reduceSub, Array.replicate_succ, Array.replicate_zero, List.push_toArray, List.append_toArray, List.nil_append, List.cons_append]
  gi_wp2
  have hW0 : Blk (W.alloc (.cells (ringC wv 0) 180)) B (ringC wv 0) 180 := by rw [← hB]; exact Blk.new _ _ _
  have hJ0 := hJ _ _ _ none h0 (World.grownBy_alloc W (.cells (ringC wv 0) 180) none) (fun _ h => by cases h)
  have hBs0 := hBs.alloc (.cells (ringC wv 0) 180)
  gi_loopw [6] (fun i wr => ∃ k : Nat, k ≤ 64 ∧ i = .int .i64 k ∧ J k wr ∧ Blk wr B (ringC wv k) 180 ∧ Blk wr Bs #[.string s] 9) (fun i _ => 64 - (intOf i).toNat)
  case atStart => exact ⟨0, by omega, rfl, hJ0, hW0, hBs0⟩
  case round =>
    obtain ⟨k, hk, rfl, hJs, hR, hS⟩ := hrel
    by_cases hlt : k < 64
    · have hcs := hS.cell 0
      have hcs : wr.cell? ⟨Bs, 0, none⟩ = some (.string s) := hcs
      have hne : Bs ≠ B := by omega
      have hBle : W.heap.size ≤ B := by omega
      obtain ⟨v0, hv0⟩ := ringC_any wv k (k % 16) (by omega)
      have hc0 : wr.cell? ⟨B, k % 16, none⟩ = some v0 := (hR.cell _).trans hv0
      have hf0 := hR.free (k % 16)
      by_cases h16 : k < 16
      · have cw := Lib.hid (fun w => HW1.out k w h16)
        gi_upto_region 8 with (refine ⟨trivial, ?_⟩; gi_at_call 94; skip)
        refine ⟨wide_fn _, wide_depth _, CallsIn.mono (callsIn_wide.2 (cw.out _)) ?_⟩
        rintro e w' ⟨rfl, nq, rfl⟩
        gi_upto_region 8 with (fail)
        refine wpIn_gen (fun W2 => J k W2 ∧ Blk W2 B (ringC wv (k + 1)) 180 ∧ Blk W2 Bs #[.string s] 9) ⟨hJ.set (hJ.drewN hJs _) hBle _ _, (hR.drewN _).set _ _, (hS.drewN _).setOther hne _⟩ ?_
        rintro W1 ⟨hJ1, hR1, hS1⟩
        obtain ⟨fn, tmps, assign, body, hy, hR'⟩ := hY k W1 hlt hJ1
        unfold encW at hy
        have hc1 : W1.cell? ⟨B, k % 16, none⟩ = some (.int .u32 ((wv k).toNat : Int)) := (hR1.cell _).trans (ringC_get _ _ _ (by omega) (by omega))
        gi_wp2
        refine ⟨wide_depth _, hR'.mono ?_⟩
        rintro e W3 ⟨rfl, hJ3, hK3⟩
        gi_wp2
        go_roundw
        case rel => exact ⟨k + 1, by omega, by go_num, hJ3, hK3.2 _ _ _ _ (by omega) hR1, hK3.2 _ _ _ _ hE hS1⟩
        case measure => simp [intOf]; omega
      · have e0 := ringC_get wv k (k - 16) (by omega) (by omega)
        have e1 := ringC_get wv k (k - 15) (by omega) (by omega)
        have e9 := ringC_get wv k (k - 7) (by omega) (by omega)
        have e14 := ringC_get wv k (k - 2) (by omega) (by omega)
        rw [show (k - 16) % 16 = k % 16 by omega] at e0
        rw [show (k - 15) % 16 = (k + 1) % 16 by omega] at e1
        rw [show (k - 7) % 16 = (k + 9) % 16 by omega] at e9
        rw [show (k - 2) % 16 = (k + 14) % 16 by omega] at e14
        have l0 := (hR.cell (k % 16)).trans e0
        have l1 := (hR.cell ((k + 1) % 16)).trans e1
        have l9 := (hR.cell ((k + 9) % 16)).trans e9
        have l14 := (hR.cell ((k + 14) % 16)).trans e14
        have hw2 := HW2.out k (by omega) (by omega)
        generalize hx0 : wv (k - 16) = x0 at *
        generalize hx1 : wv (k - 15) = x1 at *
        generalize hx9 : wv (k - 7) = x9 at *
        generalize hx14 : wv (k - 2) = x14 at *
        have hw2' := Lib.hid hw2
        clear hw2 e0 e1 e9 e14 hx0 hx1 hx9 hx14 hc0 hcs hv0
        gi_upto_region 7 with (refine ⟨trivial, ?_⟩; skip)
        refine wpIn_wide.2 (wp_region_drew_tail 24 (by kernel_rfl) (by kernel_rfl) ?_)
        simp only [List.take_succ_cons, List.take_zero, List.drop_succ_cons, List.drop_zero]
        repeat (go_big_quiet_step (exact Calls.quiet_of (small_int _ _ _ _ _ (by decide) (by decide) (by decide))))
        refine wpQuiet_nil ?_
        intro k15
        go_wp2
        have hval : (((x0.toNat : Int) + (((smallM x1 7 18 3).toNat : Int) + (x9.toNat : Int) + ((smallM x14 17 19 10).toNat : Int))) % 4294967296) = ((wv k).toNat : Int) := by
          rw [hw2'.out, ← L_add, ← L_add, ← L_add]; omega
        rw [hval]
        refine wpIn_gen (fun W2 => J k W2 ∧ Blk W2 B (ringC wv (k + 1)) 180 ∧ Blk W2 Bs #[.string s] 9) ⟨hJ.set (hJ.drewN hJs _) hBle _ _, (hR.drewN _).set _ _, (hS.drewN _).setOther hne _⟩ ?_
        rintro W1 ⟨hJ1, hR1, hS1⟩
        obtain ⟨fn, tmps, assign, body, hy, hR'⟩ := hY k W1 hlt hJ1
        unfold encW at hy
        have hc1 : W1.cell? ⟨B, k % 16, none⟩ = some (.int .u32 ((wv k).toNat : Int)) := (hR1.cell _).trans (ringC_get _ _ _ (by omega) (by omega))
        gi_wp2
        refine ⟨wide_depth _, hR'.mono ?_⟩
        rintro e W3 ⟨rfl, hJ3, hK3⟩
        gi_wp2
        go_roundw
        case rel => exact ⟨k + 1, by omega, by go_num, hJ3, hK3.2 _ _ _ _ (by omega) hR1, hK3.2 _ _ _ _ hE hS1⟩
        case measure => simp [intOf]; omega
    · obtain rfl : k = 64 := by omega
      gi_wp2
      go_end0
      exact ⟨⟨_, rfl⟩, hJs⟩
end Go.Proofs.Ytemfecdpjegocaa
