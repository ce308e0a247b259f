/- Sweep. -/
import Derived.Test.YtemfecdpjegocaaDoorScoreSweep
namespace Go.Proofs.YtemfecdpjegocaaDoor
open Go.RowKit Go.Maps
set_option linter.unusedVariables false
set_option linter.unusedSimpArgs false

theorem BoardAt.after {B bb bm n sz L H N : Nat} {w0 w w' : World} {acc : List UInt8 → Option Acc} (h : BoardAt B bb bm n sz L H N w0 w acc) (hb : Below w.heap.size w w') : BoardAt B bb bm n sz L H N w0 w' acc := by
  have hlt := h.bd.lt
  have hB := h.hb
  refine ⟨Below.blk hb h.bd hlt, h.mp.below hb, fun k a ha => ?_, h.inj, h.below.trans (hb.mono (by omega)), h.hb, h.lim, fun b cs t h1 h2 => Below.blk hb (h.kp b cs t h1 h2) (h.kp b cs t h1 h2).lt⟩
  obtain ⟨⟨k1, k2⟩, k3⟩ := h.ac k a ha
  exact ⟨⟨Below.blk hb k1 k1.lt, k2⟩, k3⟩
/-- The same board, told from here on. -/
theorem BoardAt.here {B bb bm n sz L H N : Nat} {w0 w : World} {acc : List UInt8 → Option Acc} (h : BoardAt B bb bm n sz L H N w0 w acc) : BoardAt B bb bm n sz L H N w w acc :=
  ⟨h.bd, h.mp, h.ac, h.inj, Below.refl _ _, h.hb, h.lim, fun b cs t h1 _ => h1⟩
theorem BoardAt.more {B bb bm n m sz L H N : Nat} {w0 w : World} {acc : List UInt8 → Option Acc} (h : BoardAt B bb bm n sz L H N w0 w acc) (hm : n ≤ m) : BoardAt B bb bm m sz L H N w0 w acc := by
  obtain ⟨h1, ⟨D, hD, r⟩, h3, h4, h5, h6, h7, h8⟩ := h
  exact ⟨h1, ⟨D, hD.mono hm, r⟩, h3, h4, h5, h6, h7, h8⟩
def SweepPost (B bb bm n sz L H N : Nat) (w0 : World) (acc : List UInt8 → Option Acc) (t : Nat) (en : Ending) (w' : World) : Prop :=
  ∃ sz' : Nat, en = .returned (.int .i64 ((sz : Int) - (sz' : Int))) ∧ BoardAt B bb bm n sz' L H N w0 w' (onK (keepB H acc t) acc)

set_option maxRecDepth 100000 in
theorem score_sweep {B bb bm n sz L H N : Nat} {w0 w : World} {acc : List UInt8 → Option Acc} (h : BoardAt B bb bm n sz L H N w0 w acc) (now : Int) (hn : n ≤ 100000) :
    Calls Tryd.prog 14 #[.pointer (some ⟨bb, 0, none⟩), .int .i64 now] w (SweepPost B bb bm n sz L H N w0 acc (clampN now)) := by
  obtain ⟨c1, hc1⟩ : ∃ c1, w.heap.size = c1 := ⟨_, rfl⟩
  have hsz := h.mp.sz_le
  have HW : Hid (∀ W, (w.alloc (.cells #[.pointer (some ⟨bb, 0, none⟩)] 26)).alloc (.cells #[.int .i64 now] 2) = W → BoardAt B bb bm n sz L H N w0 W acc ∧ Blk W c1 #[.pointer (some ⟨bb, 0, none⟩)] 26 ∧ Blk W (c1 + 1) #[.int .i64 now] 2) := fun W hW => by
    subst hW
    have h2 := Blk.new (w.alloc (.cells #[.pointer (some ⟨bb, 0, none⟩)] 26)) #[.int .i64 now] 2
    rw [World.size_alloc, hc1] at h2
    exact ⟨h.after (((Below.refl _ _).alloc (Nat.le_refl _) _).alloc (by simp) _), (hc1 ▸ Blk.new w _ _).alloc _, h2⟩
  clear h
  go_enter Tryd.func14, Tryd.ntmps14
  go_upto_region 1 with fail
  generalize (w.alloc (.cells #[.pointer (some ⟨bb, 0, none⟩)] 26)).alloc (.cells #[.int .i64 now] 2) = w2 at *
  obtain ⟨h2, k1, k2⟩ := HW.out _ rfl
  have HB := Lib.hid h2
  have HK := Lib.hid (And.intro k1 k2)
  have x1 : w2.cell? ⟨c1, 0, none⟩ = some (.pointer (some ⟨bb, 0, none⟩)) := k1.cell 0
  have x2 : w2.cell? ⟨bb, 3, none⟩ = some (.map (some bm)) := h2.bd.cell 3
  have hl := fun ty => h2.mp.len pts_types ty
  have CD := Lib.hid (delete_func h2 now (c1 := c1) (c2 := c1 + 1) (k1.cell 0) (k2.cell 0))
  have hne : Hid (c1 ≠ bm) := fun e => by
    obtain ⟨_, ⟨es, clock, hh, _⟩, _⟩ := h2.mp
    subst e
    unfold Blk at k1
    rw [hh] at k1; cases k1
  clear HW h2 k1 k2
  go_wp2_with fail
  refine CD.out.mono ?_
  rintro e w3 ⟨rfl, ⟨sz', hb3⟩, hg3⟩
  have HB3 := Lib.hid hb3
  have hsz3 := hb3.mp.sz_le
  have y1 : w3.cell? ⟨c1, 0, none⟩ = some (.pointer (some ⟨bb, 0, none⟩)) := (hg3.cell x1 (fun e => hne.out (by injection e)))
  have y2 : w3.cell? ⟨bb, 3, none⟩ = some (.map (some bm)) := hb3.bd.cell 3
  have hl3 := fun ty => hb3.mp.len pts_types ty
  clear hb3 hg3 x1 x2 hl CD
  go_wp2_with fail
  go_returns
  exact ⟨sz', rfl, HB3.out⟩
end Go.Proofs.YtemfecdpjegocaaDoor
