/- sha.First, Mix. -/
import Derived.Test.YtemfecdpjegocaaShaMix
import Derived.Test.YtemfecdpjegocaaOwn
import Derived.WalkSpells
import Derived.Deep.WholeRow
namespace Go.Proofs.Ytemfecdpjegocaa
open Go.RowKit Go.Shelf
set_option linter.unusedVariables false

theorem bts : ByteTypes Try.prog 39 5 9 := ⟨Try.underlying39, Try.underlying5, Try.underlying9, by kernel_rfl⟩

/-- The eight words laid into a block, one by one. -/
def put8 (w : World) (b : Nat) (Z : S8) : World :=
  (((((((w.setCell ⟨b, 0, none⟩ (.int .u32 (Z.a.toNat : Int))).setCell ⟨b, 1, none⟩ (.int .u32 (Z.b.toNat : Int))).setCell ⟨b, 2, none⟩ (.int .u32 (Z.c.toNat : Int))).setCell ⟨b, 3, none⟩ (.int .u32 (Z.d.toNat : Int))).setCell ⟨b, 4, none⟩ (.int .u32 (Z.e.toNat : Int))).setCell ⟨b, 5, none⟩ (.int .u32 (Z.f.toNat : Int))).setCell ⟨b, 6, none⟩ (.int .u32 (Z.g.toNat : Int))).setCell ⟨b, 7, none⟩ (.int .u32 (Z.h.toNat : Int))
theorem put8_blk {w : World} {b : Nat} {t : TypeId} {Y : S8} (h : Blk w b Y.cs t) (Z : S8) : Blk (put8 w b Z) b Z.cs t := by
  unfold S8.cs at *
  unfold put8
  have := (((((((h.set 0 (.int .u32 (Z.a.toNat : Int))).set 1 (.int .u32 (Z.b.toNat : Int))).set 2 (.int .u32 (Z.c.toNat : Int))).set 3 (.int .u32 (Z.d.toNat : Int))).set 4 (.int .u32 (Z.e.toNat : Int))).set 5 (.int .u32 (Z.f.toNat : Int))).set 6 (.int .u32 (Z.g.toNat : Int))).set 7 (.int .u32 (Z.h.toNat : Int))
  simp only [List.setIfInBounds_toArray, List.set_cons_zero, List.set_cons_succ] at this
  exact this
theorem put8_below {B b : Nat} {w0 w : World} (h : Below B w0 w) (hb : B ≤ b) (Z : S8) : Below B w0 (put8 w b Z) :=
  (((((((h.setCell hb _).setCell hb _).setCell hb _).setCell hb _).setCell hb _).setCell hb _).setCell hb _).setCell hb _
theorem Blk.eight {w : World} {b : Nat} {t : TypeId} {Z : S8} (h : Blk w b Z.cs t) :
    w.cell? ⟨b, 0, none⟩ = some (.int .u32 (Z.a.toNat : Int)) ∧ w.cell? ⟨b, 1, none⟩ = some (.int .u32 (Z.b.toNat : Int)) ∧ w.cell? ⟨b, 2, none⟩ = some (.int .u32 (Z.c.toNat : Int)) ∧ w.cell? ⟨b, 3, none⟩ = some (.int .u32 (Z.d.toNat : Int)) ∧
    w.cell? ⟨b, 4, none⟩ = some (.int .u32 (Z.e.toNat : Int)) ∧ w.cell? ⟨b, 5, none⟩ = some (.int .u32 (Z.f.toNat : Int)) ∧ w.cell? ⟨b, 6, none⟩ = some (.int .u32 (Z.g.toNat : Int)) ∧ w.cell? ⟨b, 7, none⟩ = some (.int .u32 (Z.h.toNat : Int)) :=
  ⟨h.cell 0, h.cell 1, h.cell 2, h.cell 3, h.cell 4, h.cell 5, h.cell 6, h.cell 7⟩
def zeroS : S8 := ⟨0, 0, 0, 0, 0, 0, 0, 0⟩

set_option maxRecDepth 100000 in
theorem sha_first (w : World) : Calls Try.prog 79 #[] w fun e w' => e = .returned (.agg firstS.cs) ∧ Below w.heap.size w w' := by
  have hB := Lib.hid ((Below.refl w.heap.size w).alloc (Nat.le_refl _) (.cells firstS.cs 45))
  have hb := (Blk.new w firstS.cs 45).eight
  have HB := Lib.hid hb
  clear hb
  go_enter Try.func79, Try.ntmps79
  go_wp2_with fail
  change bodyPost _ _ _ _ _ (w.alloc (.cells firstS.cs 45))
  have q := HB.out
  clear HB
  generalize w.alloc (.cells firstS.cs 45) = w1 at *
  exact bodyPost_ret (v := .agg firstS.cs) (by simp [results, Try.results79, go_sem, q]; rfl) rfl ⟨rfl, hB.out⟩

end Go.Proofs.Ytemfecdpjegocaa
