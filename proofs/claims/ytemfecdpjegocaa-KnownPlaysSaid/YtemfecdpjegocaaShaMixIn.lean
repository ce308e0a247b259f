/- Plain things for sha.mix: what the state is, the constant's closure, regions that make eight variables. -/
import Derived.Test.YtemfecdpjegocaaShaSeq
import Derived.Test.YtemfecdpjegocaaAllocs
import Derived.Test.YtemfecdpjegocaaRound
import Derived.Test.YtemfecdpjegocaaPhase
namespace Go.Proofs.Ytemfecdpjegocaa
open Go.RowKit Go.Shelf
set_option linter.unusedVariables false

def u32V (x : UInt32) : Value := .int .u32 (x.toNat : Int)
def S8.cs (s : S8) : Array Value := #[.int .u32 (s.a.toNat : Int), .int .u32 (s.b.toNat : Int), .int .u32 (s.c.toNat : Int), .int .u32 (s.d.toNat : Int), .int .u32 (s.e.toNat : Int), .int .u32 (s.f.toNat : Int), .int .u32 (s.g.toNat : Int), .int .u32 (s.h.toNat : Int)]

def waitB (md : Region.Mode) (ops : Array Oper) (L0 : Array Bool) (l : List (Nat × Nat)) : Bool :=
  (List.range ops.size).all fun j => L0.getD j true || (l.any fun p => p.1 == j) || (match ops[j]? with | some o => l.all fun p => o.after.any fun e => Region.binds md e && e.on == p.1 | none => true)
theorem waitB_spec {md : Region.Mode} {ops : Array Oper} {L0 : Array Bool} {l : List (Nat × Nat)} (h : waitB md ops L0 l = true) :
    ∀ j o, ops[j]? = some o → L0.getD j true = false → (∀ p ∈ l, p.1 ≠ j) → ∀ p ∈ l, ∃ e ∈ o.after, Region.binds md e = true ∧ e.on = p.1 := by
  intro j o ho hL hne p hp
  have h1 := List.all_eq_true.1 h j (List.mem_range.2 (Array.getElem?_eq_some_iff.1 ho).1)
  rw [hL] at h1
  have h2 : (l.any fun p => p.1 == j) = false := by
    rw [List.any_eq_false]
    intro q hq
    simpa using hne q hq
  rw [h2] at h1
  simp only [ho, Bool.false_or] at h1
  have h3 := List.all_eq_true.1 h1 p hp
  obtain ⟨i, hi, h4⟩ := Array.any_eq_true.1 h3
  simp only [Bool.and_eq_true, beq_iff_eq] at h4
  exact ⟨_, Array.getElem_mem hi, h4.1, h4.2⟩

def opAllocB (md : Region.Mode) (ops : Array Oper) (L0 : Array Bool) (T : TypeId) (p : Nat × Nat) : Bool :=
  match ops[p.1]? with
  | some o => (o.dst == some p.2) && o.guard.isNone && (match o.op with | .alloc t => t == T | _ => false) && (o.after.all fun e => !(Region.binds md e) || L0.getD e.on false) && !(L0.getD p.1 true)
  | none => false
theorem opAllocB_spec {P : Program} {z : Value} {md : Region.Mode} {ops : Array Oper} {L0 : Array Bool} {T : TypeId} {l : List (Nat × Nat)} (h : (l.all (opAllocB md ops L0 T)) = true)
    (hz : ∀ ρ dst typ pos after w, (execOp ρ { dst := dst, op := .alloc T, type := typ, pos := pos, after := after, guard := none }).run P w = .ok (.value (.pointer (some ⟨w.heap.size, 0, none⟩))) (w.alloc (.cells #[z] T))) :
    ∀ p ∈ l, ∃ o, ops[p.1]? = some o ∧ o.dst = some p.2 ∧ o.guard = none ∧ (∀ ρ w, (execOp ρ o).run P w = .ok (.value (.pointer (some ⟨w.heap.size, 0, none⟩))) (w.alloc (.cells #[z] T))) ∧
      (∀ e ∈ o.after, Region.binds md e = true → L0.getD e.on false = true) ∧ L0.getD p.1 true = false := by
  intro p hp
  have h1 := List.all_eq_true.1 h p hp
  unfold opAllocB at h1
  cases ho : ops[p.1]? with
  | none => rw [ho] at h1; cases h1
  | some o =>
    rw [ho] at h1
    simp only [Bool.and_eq_true, beq_iff_eq, Bool.not_eq_true'] at h1
    obtain ⟨⟨⟨⟨h1, h2⟩, h3⟩, h4⟩, h5⟩ := h1
    obtain ⟨dst, op, typ, pos, after, guard⟩ := o
    simp only at h1 h2 h3 h4
    cases guard with
    | some g => cases h2
    | none =>
      cases op <;> simp at h3
      subst h3
      refine ⟨_, rfl, h1, rfl, fun ρ w => hz ρ _ _ _ _ w, fun e he hb => ?_, h5⟩
      have := Array.all_eq_true'.1 h4 e he
      simpa [hb] using this

theorem alloc_u32 (ρ : Operand → Value) (dst : Option Tmp) (typ : TypeId) (pos : String) (after : Array Edge) (w : World) :
    (execOp ρ { dst := dst, op := .alloc 43, type := typ, pos := pos, after := after, guard := none }).run Try.prog w = .ok (.value (.pointer (some ⟨w.heap.size, 0, none⟩))) (w.alloc (.cells #[.int .u32 0] 43)) := by
  simp [go_sem]

set_option maxRecDepth 100000 in
theorem sha_const (k : Nat) (w : World) (hk : k < 64) :
    Calls Try.prog 93 #[.int .i64 k] w fun e w' => e = .returned (.int .u32 (kN k).toNat) ∧ ∃ n, w' = w.drewN n := by
  obtain ⟨R, hR⟩ : ∃ R : ByteArray, R = ⟨rootsN.toArray⟩ := ⟨_, rfl⟩
  have hRs : R.size = 256 := by rw [hR]; rfl
  have c1 := sha_word R k w (by omega) (by omega)
  have e1 : wordN R.data.toList k = kN k := by rw [hR]; rfl
  rw [e1] at c1
  have c1 := Lib.hid c1
  clear e1 hRs
  have hR := Lib.hid hR
  go_enter Try.func93, Try.ntmps93
  go_wp2_with fail
  rw [hR.out] at c1
  refine c1.out.mono ?_
  rintro e w' ⟨rfl, n, rfl⟩
  go_wp2_with fail
  go_returns
  exact ⟨rfl, _, rfl⟩

theorem wp_then_false {P : Program} {c : Code} {K : Act → World → Prop} {Q : Exit → Act → World → Prop} {a : Act} {w : World} (h : c.wp P (Exit.then K fun _ _ _ => False) a w) : c.wp P (Exit.then K Q) a w :=
  wp_mono h fun e a w => by cases e <;> first | exact fun h => h | exact fun h => h.elim

theorem anyH_gen {P : Program} {md : Region.Mode} {ops : Array Oper} {Q : Exit → Act → World → Prop} {S : World → Prop} {n : Nat} {listed : Array Bool} {a : Act} {W : World} (R : World → Prop) (hR : R W) (h : ∀ w, R w → wpAnyH P md ops Q S n listed a w) : wpAnyH P md ops Q S n listed a W := h W hR

def upI (x : Nat → Int) (j : Nat) (y : Int) : Nat → Int := fun i => if i = j then y else x i
def S8.at_ (s : S8) : Nat → Int
  | 0 => s.a.toNat
  | 1 => s.b.toNat
  | 2 => s.c.toNat
  | 3 => s.d.toNat
  | 4 => s.e.toNat
  | 5 => s.f.toNat
  | 6 => s.g.toNat
  | _ => s.h.toNat
structure MixS (b0 : Nat) (bs : Nat → Nat) : Prop where
  inj : ∀ i j, i < 8 → j < 8 → bs (16 + i) = bs (16 + j) → i = j
  ge : ∀ j, j < 8 → b0 + 3 ≤ bs (16 + j)
structure MixI (b0 : Nat) (bs : Nat → Nat) (cs : Array Value) (w : World) (x : Nat → Int) (W : World) : Prop where
  below : Below b0 w W
  st : Blk W b0 cs 45
  res : Blk W (b0 + 1) (Array.replicate 8 (.int .u32 0)) 45
  cl : Blk W (b0 + 2) #[.func (.func 93) #[] #[]] 161
  v : ∀ j, j < 8 → Blk W (bs (16 + j)) #[.int .u32 (x j)] 43
theorem MixI.set {b0 : Nat} {bs : Nat → Nat} {cs : Array Value} {w W : World} {x : Nat → Int} (h : MixI b0 bs cs w x W) (hs : MixS b0 bs) (j : Nat) (hj : j < 8) (y : Int) :
    MixI b0 bs cs w (upI x j y) (W.setCell ⟨bs (16 + j), 0, none⟩ (.int .u32 y)) := by
  have hg := hs.ge j hj
  refine ⟨h.below.setCell (by simp; omega) _, h.st.setOther (by simp; omega) _, h.res.setOther (by simp; omega) _, h.cl.setOther (by simp; omega) _, fun i hi => ?_⟩
  by_cases e : i = j
  · subst e
    have := (h.v i hi).set 0 (.int .u32 y)
    simpa [upI] using this
  · have hne : bs (16 + i) ≠ bs (16 + j) := fun c => e (hs.inj i j hi hj c)
    have := (h.v i hi).setOther (a := ⟨bs (16 + j), 0, none⟩) hne (.int .u32 y)
    simpa [upI, e] using this
theorem MixI.drewN {b0 : Nat} {bs : Nat → Nat} {cs : Array Value} {w W : World} {x : Nat → Int} (h : MixI b0 bs cs w x W) (n : Nat) : MixI b0 bs cs w x (W.drewN n) :=
  ⟨⟨h.below.os, h.below.tape, h.below.output, h.below.size, h.below.block⟩, h.st, h.res, h.cl, h.v⟩
theorem MixI.congr {b0 : Nat} {bs : Nat → Nat} {cs : Array Value} {w W : World} {x y : Nat → Int} (h : MixI b0 bs cs w x W) (e : ∀ j, j < 8 → x j = y j) : MixI b0 bs cs w y W :=
  ⟨h.below, h.st, h.res, h.cl, fun j hj => by rw [← e j hj]; exact h.v j hj⟩
theorem MixI.grown {b0 : Nat} {bs : Nat → Nat} {cs : Array Value} {w W W' : World} {x : Nat → Int} {row : Option Nat} {E : Nat} (h : MixI b0 bs cs w x W) (hE : ∀ j, j < 8 → bs (16 + j) < E) (hE0 : b0 + 2 < E) (hg : W.grownBy W' row) (hr : ∀ r, row = some r → E ≤ r) : MixI b0 bs cs w x W' := by
  have keep : ∀ {b cs t}, Blk W b cs t → b < E → Blk W' b cs t := by
    intro b cs t hb hlt
    unfold Blk
    rw [hg.block b hb.lt (fun e => by have := hr b e.symm; omega)]; exact hb
  have hsz := hg.size
  have hlt := h.st.lt
  refine ⟨h.below.grown hg (by omega) (fun k hk => by have := hr k hk; omega), keep h.st (by omega), keep h.res (by omega), keep h.cl (by omega), fun j hj => keep (h.v j hj) (hE j hj)⟩
theorem pairs_mem : ∀ j, j < 8 → (16 + j, 6 + j) ∈ [(16, 6), (17, 7), (18, 8), (19, 9), (20, 10), (21, 11), (22, 12), (23, 13)] := by decide
theorem L_not (x : UInt32) : bits BinOp.xor IntKind.u32 (if IntKind.u32.signed = true then -1 else IntKind.u32.max) (x.toNat : Int) = ((~~~ x).toNat : Int) := by
  have h := L_xor 4294967295 x
  have e : (4294967295 : UInt32) ^^^ x = ~~~ x := by
    apply UInt32.toBitVec_inj.1
    simp only [UInt32.toBitVec_xor, UInt32.toBitVec_not]
    apply BitVec.eq_of_getLsbD_eq
    intro i hi
    have h1 : (4294967295 : UInt32).toBitVec = BitVec.allOnes 32 := by decide
    rw [h1]
    simp only [BitVec.getLsbD_xor, BitVec.getLsbD_not, BitVec.getLsbD_allOnes, hi, decide_true, Bool.true_and]
    cases x.toBitVec.getLsbD i <;> rfl
  rw [e] at h
  exact h
theorem bigmix_int (x : UInt32) (p q r : Int) (w : World) (hp : 1 ≤ p ∧ p ≤ 31) (hq : 1 ≤ q ∧ q ≤ 31) (hr : 1 ≤ r ∧ r ≤ 31) :
    Calls Try.prog 96 #[.int .u32 x.toNat, .int .i64 p, .int .i64 q, .int .i64 r] w fun e w' => e = .returned (.int .u32 (bigM x p.toNat q.toNat r.toNat).toNat) ∧ w = w' := by
  have h := sha_bigmix x p.toNat q.toNat r.toNat w (by omega) (by omega) (by omega)
  rwa [show ((p.toNat : Nat) : Int) = p by omega, show ((q.toNat : Nat) : Int) = q by omega, show ((r.toNat : Nat) : Int) = r by omega] at h
theorem keeps_set {E : Nat} {W Y : World} (h : KeepsFrom E W Y ∧ KpC E W Y) {b : Nat} (hb : b < E) (v : Value) : KeepsFrom E W (Y.setCell ⟨b, 0, none⟩ v) ∧ KpC E W (Y.setCell ⟨b, 0, none⟩ v) := by
  have hg : Y.grownBy (Y.setCell ⟨b, 0, none⟩ v) (some b) := ⟨rfl, rfl, rfl, by simp [World.setCell], fun k _ hne => Below.heap_setCell _ _ _ _ (fun e => hne (by rw [e]))⟩
  refine ⟨h.1.trans (KeepsFrom.of_grownBy hg (fun j e => by cases e; exact hb)), h.2.trans ⟨hg.size, fun k cs t m hk hc => ?_⟩⟩
  rw [hg.block k (Array.getElem?_eq_some_iff.1 hc).1 (by simp; omega)]; exact hc
def S8.get (s : S8) : Nat → UInt32
  | 0 => s.a
  | 1 => s.b
  | 2 => s.c
  | 3 => s.d
  | 4 => s.e
  | 5 => s.f
  | 6 => s.g
  | _ => s.h
def sumAt (s t : S8) (k j : Nat) : Value := .int .u32 (((match Nat.blt j k with | true => s.get j + t.get j | false => s.get j) : UInt32).toNat : Int)
/-- The state's cells behind k sums. -/
def sumC (s t : S8) (k : Nat) : Array Value := #[sumAt s t k 0, sumAt s t k 1, sumAt s t k 2, sumAt s t k 3, sumAt s t k 4, sumAt s t k 5, sumAt s t k 6, sumAt s t k 7]
theorem below_set {b0 : Nat} {w W : World} (h : Below b0 w W) (j : Nat) (v : Value) : Below b0 w (W.setCell ⟨b0 + 1, j, none⟩ v) := h.setCell (Nat.le_succ _) _
end Go.Proofs.Ytemfecdpjegocaa
