/- Objects: a block that is known whole, and worlds in which one block may have turned. -/
import Derived.WalkKit
import Derived.Lib.Hide
import Derived.Handy
import Derived.Deep.QuietTactic
namespace Go.Proofs.Ytopfpfpefljkkaa
open Go.RowKit
set_option linter.unusedVariables false

/-- Block b has these cells. -/
def Blk (w : World) (b : Nat) (cs : Array Value) (t : TypeId) : Prop := w.heap[b]? = some (.cells cs t (0, 0))
theorem Blk.lt {w : World} {b : Nat} {cs : Array Value} {t : TypeId} (h : Blk w b cs t) : b < w.heap.size := (Array.getElem?_eq_some_iff.1 h).1
theorem Blk.cell {w : World} {b : Nat} {cs : Array Value} {t : TypeId} (h : Blk w b cs t) (i : Nat) : w.cell? ⟨b, i, none⟩ = cs[i]? := by
  unfold Blk at h
  simp [World.cell?, h]
theorem Blk.free {w : World} {b : Nat} {cs : Array Value} {t : TypeId} (h : Blk w b cs t) (i : Nat) : w.frozen? ⟨b, i, none⟩ = false := by
  unfold Blk at h
  simp [World.frozen?, h]
theorem Blk.new (w : World) (cs : Array Value) (t : TypeId) : Blk (w.alloc (.cells cs t)) w.heap.size cs t := heap_alloc_new w _
theorem Blk.alloc {w : World} {b : Nat} {cs : Array Value} {t : TypeId} (h : Blk w b cs t) (o : Obj) : Blk (w.alloc o) b cs t := by
  unfold Blk
  rw [Below.heap_alloc w o b h.lt]; exact h
theorem Blk.drew {w : World} {b : Nat} {cs : Array Value} {t : TypeId} (h : Blk w b cs t) : Blk w.drew b cs t := h
theorem Blk.set {w : World} {b : Nat} {cs : Array Value} {t : TypeId} (h : Blk w b cs t) (i : Nat) (v : Value) : Blk (w.setCell ⟨b, i, none⟩ v) b (cs.setIfInBounds i v) t := by
  unfold Blk at *
  simp only [World.setCell]
  rw [Array.getElem?_modify, if_pos rfl, h]
  rfl
theorem Blk.setOther {w : World} {b : Nat} {cs : Array Value} {t : TypeId} (h : Blk w b cs t) {a : Addr} (hne : b ≠ a.block) (v : Value) : Blk (w.setCell a v) b cs t := by
  unfold Blk
  rw [Below.heap_setCell w a v b hne]; exact h

/-- All blocks but b are as they were; there may be new ones. -/
def Upd (b : Nat) (w w' : World) : Prop := w.grownBy w' (some b)
theorem Upd.refl (b : Nat) (w : World) : Upd b w w := World.grownBy.refl w _
theorem Upd.trans {b : Nat} {u v w : World} (h : Upd b u v) (k : Upd b v w) : Upd b u w :=
  ⟨k.os.trans h.os, k.tape.trans h.tape, k.output.trans h.output, Nat.le_trans h.size k.size, fun i hi hne => (k.block i (Nat.lt_of_lt_of_le hi h.size) hne).trans (h.block i hi hne)⟩
theorem Upd.drew {b : Nat} {u v : World} (h : Upd b u v) : Upd b u v.drew := ⟨h.os, h.tape, h.output, h.size, h.block⟩
theorem Upd.of {b : Nat} {w w' : World} (h : Below w.heap.size w w') : Upd b w w' := ⟨h.os, h.tape, h.output, h.size, fun i hi _ => h.block i hi⟩
theorem Upd.alloc {b : Nat} {u v : World} (h : Upd b u v) (o : Obj) : Upd b u (v.alloc o) := h.trans (Upd.of ((Below.refl _ _).alloc (Nat.le_refl _) o))
theorem Upd.set {b : Nat} {u v : World} (h : Upd b u v) (i : Nat) (x : Value) : Upd b u (v.setCell ⟨b, i, none⟩ x) :=
  h.trans ⟨rfl, rfl, rfl, by simp [World.setCell], fun k _ hne => Below.heap_setCell _ _ _ _ (fun e => hne (by rw [e]))⟩
/-- A store into a block that was not there at the start. -/
theorem Upd.setNew {b : Nat} {u v : World} (h : Upd b u v) {a : Addr} (ha : u.heap.size ≤ a.block) (x : Value) : Upd b u (v.setCell a x) :=
  ⟨h.os, h.tape, h.output, by simpa [World.setCell] using h.size, fun k hk hne => (Below.heap_setCell v a x k (by omega)).trans (h.block k hk hne)⟩
theorem Upd.blk {b c : Nat} {w w' : World} {cs : Array Value} {t : TypeId} (h : Upd b w w') (hc : Blk w c cs t) (hne : c ≠ b) : Blk w' c cs t := by
  unfold Blk
  rw [h.block c hc.lt (by simpa using hne)]; exact hc
theorem Upd.below {b B : Nat} {w0 w w' : World} (h : Upd b w w') (hb : Below B w0 w) (hB : B ≤ b) (hBw : B ≤ w.heap.size) : Below B w0 w' :=
  hb.grown h hBw fun k hk => by simp at hk; omega
theorem Below.blk {B c : Nat} {w w' : World} {cs : Array Value} {t : TypeId} (h : Below B w w') (hc : Blk w c cs t) (hlt : c < B) : Blk w' c cs t := by
  unfold Blk
  rw [h.block c hlt]; exact hc
/-- A callee that reads alone, met in a quiet region. -/
theorem Calls.quiet_eq {P : Program} {f : FuncId} {args : Array Value} {w : World} {n : Nat} {v : Value}
    (h : Calls P f args (w.drewN n) fun e w' => e = .returned v ∧ w.drewN n = w') : Calls P f args (w.drewN n) fun e w'' => e = .returned v ∧ ∃ m, w'' = w.drewN m :=
  h.mono fun _ _ ⟨he, hm⟩ => ⟨he, n, hm.symm⟩
theorem Blk.drewN {w : World} {b : Nat} {cs : Array Value} {t : TypeId} (h : Blk w b cs t) (n : Nat) : Blk (w.drewN n) b cs t := h
/-- From here on only this is known of the world. -/
theorem wp_gen {P : Program} {c : Code} {Q : Exit → Act → World → Prop} {a : Act} {W : World} (F : World → Prop) (hF : F W) (h : ∀ w, F w → c.wp P Q a w) : c.wp P Q a W := h W hF
end Go.Proofs.Ytopfpfpefljkkaa
