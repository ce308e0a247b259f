/- All blocks but those of O are as they were; there may be new ones. -/
import Derived.Test.YtemfecdpjegocaaObj
namespace Go.Proofs.Ytemfecdpjegocaa
open Go.RowKit
set_option linter.unusedVariables false

/-- All blocks but those of O are as they were; there may be new ones. -/
structure KpO (O : Nat → Prop) (w w' : World) : Prop where
  os : w'.os = w.os
  tape : w'.tape = w.tape
  output : w'.output = w.output
  size : w.heap.size ≤ w'.heap.size
  block : ∀ i, i < w.heap.size → ¬ O i → w'.heap[i]? = w.heap[i]?
theorem KpO.refl (O : Nat → Prop) (w : World) : KpO O w w := ⟨rfl, rfl, rfl, Nat.le_refl _, fun _ _ _ => rfl⟩
theorem KpO.trans {O : Nat → Prop} {u v w : World} (h : KpO O u v) (k : KpO O v w) : KpO O u w :=
  ⟨k.os.trans h.os, k.tape.trans h.tape, k.output.trans h.output, Nat.le_trans h.size k.size, fun i hi hn => (k.block i (Nat.lt_of_lt_of_le hi h.size) hn).trans (h.block i hi hn)⟩
theorem KpO.mono {O O' : Nat → Prop} {u v : World} (h : KpO O u v) (hO : ∀ i, i < u.heap.size → O i → O' i) : KpO O' u v := ⟨h.os, h.tape, h.output, h.size, fun i hi hn => h.block i hi fun ho => hn (hO i hi ho)⟩
theorem KpO.drewN {O : Nat → Prop} {u v : World} (h : KpO O u v) (n : Nat) : KpO O u (v.drewN n) := ⟨h.os, h.tape, h.output, h.size, h.block⟩
theorem KpO.alloc {O : Nat → Prop} {u v : World} (h : KpO O u v) (o : Obj) : KpO O u (v.alloc o) :=
  h.trans ⟨rfl, rfl, rfl, by rw [World.size_alloc]; omega, fun i hi _ => Below.heap_alloc v o i hi⟩
theorem KpO.set {O : Nat → Prop} {u v : World} (h : KpO O u v) {a : Addr} (ha : O a.block) (x : Value) : KpO O u (v.setCell a x) :=
  h.trans ⟨rfl, rfl, rfl, by simp [World.setCell], fun i hi hn => Below.heap_setCell v a x i (fun e => hn (e ▸ ha))⟩
theorem KpO.upd {O : Nat → Prop} {u v w : World} {b : Nat} (h : KpO O u v) (hu : Upd b v w) (hb : O b) : KpO O u w :=
  h.trans ⟨hu.os, hu.tape, hu.output, hu.size, fun i hi hn => hu.block i hi (fun e => hn (by cases e; exact hb))⟩
theorem KpO.ofBelow {O : Nat → Prop} {u v w : World} (h : KpO O u v) (hb : Below v.heap.size v w) : KpO O u w :=
  h.trans ⟨hb.os, hb.tape, hb.output, hb.size, fun i hi _ => hb.block i hi⟩
theorem KpO.below {O : Nat → Prop} {B : Nat} {w0 u v : World} (h : KpO O u v) (hb : Below B w0 u) (hO : ∀ i, O i → B ≤ i) (hBu : B ≤ u.heap.size) : Below B w0 v :=
  hb.trans ⟨h.os, h.tape, h.output, h.size, fun i hi => h.block i (by omega) fun ho => by have := hO i ho; omega⟩
theorem KpO.blk {O : Nat → Prop} {u v : World} {b : Nat} {cs : Array Value} {t : TypeId} (h : KpO O u v) (hb : Blk u b cs t) (hn : ¬ O b) : Blk v b cs t := by
  unfold Blk
  rw [h.block b hb.lt hn]; exact hb

end Go.Proofs.Ytemfecdpjegocaa
