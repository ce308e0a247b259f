/- sha.First, Mix. -/
import Derived.Test.YtekcehicjggmiaaShaMix
import Derived.Test.YtekcehicjggmiaaOwn
import Derived.WalkSpells
import Derived.Deep.WholeRow
namespace Go.Proofs.Ytekcehicjggmiaa
open Go.RowKit Go.Shelf
set_option linter.unusedVariables false

theorem bts : ByteTypes Try.prog 53 5 9 := ⟨Try.underlying53, Try.underlying5, Try.underlying9, by kernel_rfl⟩

/-- The eight words laid into a block, one by one. -/
def put8 (w : World) (b : Nat) (Z : S8) : World :=
  (((((((w.setCell ⟨b, 0, none⟩ (.int .u32 (Z.a.toNat : Int))).setCell ⟨b, 1, none⟩ (.int .u32 (Z.b.toNat : Int))).setCell ⟨b, 2, none⟩ (.int .u32 (Z.c.toNat : Int))).setCell ⟨b, 3, none⟩ (.int .u32 (Z.d.toNat : Int))).setCell ⟨b, 4, none⟩ (.int .u32 (Z.e.toNat : Int))).setCell ⟨b, 5, none⟩ (.int .u32 (Z.f.toNat : Int))).setCell ⟨b, 6, none⟩ (.int .u32 (Z.g.toNat : Int))).setCell ⟨b, 7, none⟩ (.int .u32 (Z.h.toNat : Int))
theorem put8_blk {w : World} {b : Nat} {t : TypeId} {Y : S8} (h : Blk w b Y.cs t) (Z : S8) : Blk (put8 w b Z) b Z.cs t := by
  unfold S8.cs at *
  unfold put8
  have := (((((((h.set 0 (.int .u32 (Z.a.toNat : Int))).set 1 (.int .u32 (Z.b.toNat : Int))).set 2 (.int .u32 (Z.c.toNat : Int))).set 3 (.int .u32 (Z.d.toNat : Int))).set 4 (.int .u32 (Z.e.toNat : Int))).set 5 (.int .u32 (Z.f.toNat : Int))).set 6 (.int .u32 (Z.g.toNat : Int))).set 7 (.int .u32 (Z.h.toNat : Int))
  simp only [List.setIfInBounds_toArray, List.set_cons_zero, List.set_cons_succ] at this
  exact this
theorem put8_below {B b : Nat} {w0 w : World} (h : Below B w0 w) (hb : B ≤ b) (Z : S8) : Below B w0 (put8 w b Z) :=
  (((((((h.setCell hb _).setCell hb _).setCell hb _).setCell hb _).setCell hb _).setCell hb _).setCell hb _).setCell hb _
theorem Blk.eight {w : World} {b : Nat} {t : TypeId} {Z : S8} (h : Blk w b Z.cs t) :
    w.cell? ⟨b, 0, none⟩ = some (.int .u32 (Z.a.toNat : Int)) ∧ w.cell? ⟨b, 1, none⟩ = some (.int .u32 (Z.b.toNat : Int)) ∧ w.cell? ⟨b, 2, none⟩ = some (.int .u32 (Z.c.toNat : Int)) ∧ w.cell? ⟨b, 3, none⟩ = some (.int .u32 (Z.d.toNat : Int)) ∧
    w.cell? ⟨b, 4, none⟩ = some (.int .u32 (Z.e.toNat : Int)) ∧ w.cell? ⟨b, 5, none⟩ = some (.int .u32 (Z.f.toNat : Int)) ∧ w.cell? ⟨b, 6, none⟩ = some (.int .u32 (Z.g.toNat : Int)) ∧ w.cell? ⟨b, 7, none⟩ = some (.int .u32 (Z.h.toNat : Int)) :=
  ⟨h.cell 0, h.cell 1, h.cell 2, h.cell 3, h.cell 4, h.cell 5, h.cell 6, h.cell 7⟩
def zeroS : S8 := ⟨0, 0, 0, 0, 0, 0, 0, 0⟩

set_option maxRecDepth 100000 in
theorem sha_first (w : World) : Calls Try.prog 24 #[] w fun e w' => e = .returned (.agg firstS.cs) ∧ Below w.heap.size w w' := by
  have hB := Lib.hid ((Below.refl w.heap.size w).alloc (Nat.le_refl _) (.cells firstS.cs 27))
  have hb := (Blk.new w firstS.cs 27).eight
  have HB := Lib.hid hb
  clear hb
  go_enter Try.func24, Try.ntmps24
  go_wp2_with fail
  change bodyPost _ _ _ _ _ (w.alloc (.cells firstS.cs 27))
  have q := HB.out
  clear HB
  generalize w.alloc (.cells firstS.cs 27) = w1 at *
  exact bodyPost_ret (v := .agg firstS.cs) (by simp [results, Try.results24, go_sem, q]; rfl) rfl ⟨rfl, hB.out⟩

set_option maxRecDepth 100000 in
theorem sha_Mix_bad (st : S8) (s : ByteArray) (w : World) (hs : ((s.size : Int) != 64) = true) :
    Calls Try.prog 23 #[.agg st.cs, .string s] w fun e w' => e = .returned (.tuple #[.agg zeroS.cs, .int .i64 1]) ∧ Below w.heap.size w w' := by
  have hB := Lib.hid (((Below.refl w.heap.size w).alloc (Nat.le_refl _) (.cells st.cs 27)).alloc (by simp) (.cells zeroS.cs 27))
  have hb := (Blk.new (w.alloc (.cells st.cs 27)) zeroS.cs 27)
  rw [World.size_alloc] at hb
  have HB := Lib.hid hb.eight
  clear hb
  unfold S8.cs
  go_enter Try.func23, Try.ntmps23
  go_wp2_with fail
  change bodyPost _ _ _ _ _ ((w.alloc (.cells st.cs 27)).alloc (.cells zeroS.cs 27))
  have q := HB.out
  have hB := hB.out
  clear HB
  revert hB q
  generalize (w.alloc (.cells st.cs 27)).alloc (.cells zeroS.cs 27) = w1
  intro q hB
  exact bodyPost_ret (v := .tuple #[.agg zeroS.cs, .int .i64 1]) (by simp [results, Try.results23, go_sem, q]; rfl) rfl ⟨rfl, hB⟩

set_option maxRecDepth 100000 in
theorem sha_Mix (st : S8) (s : ByteArray) (w : World) (hs : s.size = 64) :
    Calls Try.prog 23 #[.agg st.cs, .string s] w fun e w' => e = .returned (.tuple #[.agg (mixN st s.data.toList).cs, .int .i64 0]) ∧ Below w.heap.size w w' := by
  have hs' : ((s.size : Int) != 64) = false := by simp [hs]
  have c1 := Lib.hid (fun w => sha_mix st s w hs)
  generalize mixN st s.data.toList = Z at *
  clear hs
  have hB := (((Below.refl w.heap.size w).alloc (Nat.le_refl _) (.cells st.cs 27)).alloc (by simp) (.cells zeroS.cs 27))
  have hb := (Blk.new (w.alloc (.cells st.cs 27)) zeroS.cs 27)
  have HH := Lib.hid (And.intro hB hb)
  clear hB hb
  have hc1 : Hid (∀ w, Calls Try.prog 47 #[.agg #[.int .u32 (st.a.toNat : Int), .int .u32 (st.b.toNat : Int), .int .u32 (st.c.toNat : Int), .int .u32 (st.d.toNat : Int), .int .u32 (st.e.toNat : Int), .int .u32 (st.f.toNat : Int), .int .u32 (st.g.toNat : Int), .int .u32 (st.h.toNat : Int)], .string s] w fun e w' => e = .returned (.agg #[.int .u32 (Z.a.toNat : Int), .int .u32 (Z.b.toNat : Int), .int .u32 (Z.c.toNat : Int), .int .u32 (Z.d.toNat : Int), .int .u32 (Z.e.toNat : Int), .int .u32 (Z.f.toNat : Int), .int .u32 (Z.g.toNat : Int), .int .u32 (Z.h.toNat : Int)]) ∧ Below w.heap.size w w') := c1
  unfold S8.cs
  clear c1
  go_enter Try.func23, Try.ntmps23
  go_wp2_with fail
  refine (hc1.out _).mono ?_
  rintro e w1 ⟨rfl, hb1⟩
  have hb1 : Below ((w.alloc (.cells st.cs 27)).alloc (.cells zeroS.cs 27)).heap.size ((w.alloc (.cells st.cs 27)).alloc (.cells zeroS.cs 27)) w1 := hb1
  obtain ⟨hB, hb⟩ := HH.out
  have hB1 := hB.trans (hb1.mono hB.size)
  have hbk := Below.blk hb1 hb hb.lt
  rw [World.size_alloc] at hbk
  clear HH hB hb hb1
  have q := hbk.eight
  have f := hbk.free
  have HB1 := Lib.hid hB1
  have HBK := Lib.hid hbk
  clear hB1 hbk
  go_wp2_with fail
  change bodyPost _ _ _ _ _ (put8 w1 (w.heap.size + 1) Z)
  have q := (put8_blk HBK.out Z).eight
  have hBB := put8_below HB1.out (Nat.le_succ _) Z
  clear HBK HB1 f
  generalize put8 w1 (w.heap.size + 1) Z = w2 at *
  exact bodyPost_ret (v := .tuple #[.agg Z.cs, .int .i64 0]) (by simp [results, Try.results23, go_sem, q]; rfl) rfl ⟨rfl, hBB⟩
end Go.Proofs.Ytekcehicjggmiaa
