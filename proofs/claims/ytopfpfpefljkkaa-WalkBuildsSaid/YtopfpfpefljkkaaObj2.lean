/- Worlds in which two blocks may have turned. -/
import Derived.Test.YtopfpfpefljkkaaObj
namespace Go.Proofs.Ytopfpfpefljkkaa
open Go.RowKit
set_option linter.unusedVariables false

/-- All blocks but b and q are as they were; there may be new ones. -/
structure Upd2 (b q : Nat) (w w' : World) : Prop where
  os : w'.os = w.os
  tape : w'.tape = w.tape
  output : w'.output = w.output
  size : w.heap.size ≤ w'.heap.size
  block : ∀ k, k < w.heap.size → k ≠ b → k ≠ q → w'.heap[k]? = w.heap[k]?
theorem Upd2.refl (b q : Nat) (w : World) : Upd2 b q w w := ⟨rfl, rfl, rfl, Nat.le_refl _, fun _ _ _ _ => rfl⟩
theorem Upd2.trans {b q : Nat} {u v w : World} (h : Upd2 b q u v) (k : Upd2 b q v w) : Upd2 b q u w :=
  ⟨k.os.trans h.os, k.tape.trans h.tape, k.output.trans h.output, Nat.le_trans h.size k.size, fun i hi hb hq => (k.block i (Nat.lt_of_lt_of_le hi h.size) hb hq).trans (h.block i hi hb hq)⟩
theorem Upd2.drew {b q : Nat} {u v : World} (h : Upd2 b q u v) : Upd2 b q u v.drew := ⟨h.os, h.tape, h.output, h.size, h.block⟩
theorem Upd2.drewN {b q : Nat} {u v : World} (h : Upd2 b q u v) (n : Nat) : Upd2 b q u (v.drewN n) := ⟨h.os, h.tape, h.output, h.size, h.block⟩
theorem Upd2.setL {b q : Nat} {u v : World} (h : Upd2 b q u v) (i : Nat) (x : Value) : Upd2 b q u (v.setCell ⟨b, i, none⟩ x) :=
  h.trans ⟨rfl, rfl, rfl, by simp [World.setCell], fun k _ hb _ => Below.heap_setCell _ _ _ _ hb⟩
theorem Upd2.setR {b q : Nat} {u v : World} (h : Upd2 b q u v) (i : Nat) (x : Value) : Upd2 b q u (v.setCell ⟨q, i, none⟩ x) :=
  h.trans ⟨rfl, rfl, rfl, by simp [World.setCell], fun k _ _ hq => Below.heap_setCell _ _ _ _ hq⟩
theorem Upd2.blk {b q c : Nat} {w w' : World} {cs : Array Value} {t : TypeId} (h : Upd2 b q w w') (hc : Blk w c cs t) (hb : c ≠ b) (hq : c ≠ q) : Blk w' c cs t := by
  unfold Blk
  rw [h.block c hc.lt hb hq]; exact hc
/-- A block that is new since u is no matter. -/
theorem Upd2.upd {b q : Nat} {u w w' : World} (h : Upd2 b q w w') (hu : Upd b u w) (hq : u.heap.size ≤ q) : Upd b u w' :=
  ⟨h.os.trans hu.os, h.tape.trans hu.tape, h.output.trans hu.output, Nat.le_trans hu.size h.size, fun k hk hne =>
    (h.block k (Nat.lt_of_lt_of_le hk hu.size) (by simpa using hne) (by omega)).trans (hu.block k hk hne)⟩
theorem Upd.drewN {b : Nat} {u v : World} (h : Upd b u v) (n : Nat) : Upd b u (v.drewN n) := ⟨h.os, h.tape, h.output, h.size, h.block⟩
end Go.Proofs.Ytopfpfpefljkkaa
