/- The change of a part from one package's struct to the other's. -/
import Derived.Test.YtemfecdpjegocaaJAlive
namespace Go.Proofs.Ytemfecdpjegocaa
open Go.RowKit Go.Maps
set_option linter.unusedVariables false
set_option linter.unusedSimpArgs false

set_option maxRecDepth 100000 in
theorem law_plain (p : Pt) (w : World) : Calls Try.prog 13 #[.agg p.cs] w fun en w' => en = .returned (.agg p.cs) ∧ Below w.heap.size w w' := by
  obtain ⟨i, n, o, T⟩ := p
  simp only [Pt.cs]
  obtain ⟨g, hg⟩ : ∃ g, w.heap.size = g := ⟨_, rfl⟩
  have hb : Hid (Below g w ((w.alloc (.cells #[.int .i64 i, .int .i64 n, .int .i64 o, .string T] 33)).alloc (.cells #[.int .i64 i, .int .i64 n, .int .i64 o, .string T] 31))) :=
    (((Below.refl _ _).alloc (by omega) _).alloc (by simp; omega) _)
  have hk := Blk.new (w.alloc (.cells #[.int .i64 i, .int .i64 n, .int .i64 o, .string T] 33)) #[.int .i64 i, .int .i64 n, .int .i64 o, .string T] 31
  rw [World.size_alloc, hg] at hk
  have HK := Lib.hid hk
  clear hk
  go_enter Try.func13, Try.ntmps13
  go_wp2_with fail
  have d0 := HK.out.cell 0
  have d1 := HK.out.cell 1
  have d2 := HK.out.cell 2
  have d3 := HK.out.cell 3
  generalize (w.alloc (.cells #[.int .i64 i, .int .i64 n, .int .i64 o, .string T] 33)).alloc (.cells #[.int .i64 i, .int .i64 n, .int .i64 o, .string T] 31) = wf at *
  simp at d0 d1 d2 d3
  refine bodyPost_ret (v := .agg #[.int .i64 i, .int .i64 n, .int .i64 o, .string T]) (by simp [results, Try.results13, go_sem, d0, d1, d2, d3]) rfl ⟨rfl, hg ▸ hb.out⟩

set_option maxRecDepth 100000 in
theorem law_of (p : Pt) (w : World) : Calls Try.prog 31 #[.agg p.cs] w fun en w' => en = .returned (.agg p.cs) ∧ Below w.heap.size w w' := by
  obtain ⟨i, n, o, T⟩ := p
  simp only [Pt.cs]
  obtain ⟨g, hg⟩ : ∃ g, w.heap.size = g := ⟨_, rfl⟩
  have hb : Hid (Below g w ((w.alloc (.cells #[.int .i64 i, .int .i64 n, .int .i64 o, .string T] 31)).alloc (.cells #[.int .i64 i, .int .i64 n, .int .i64 o, .string T] 33))) :=
    (((Below.refl _ _).alloc (by omega) _).alloc (by simp; omega) _)
  have hk := Blk.new (w.alloc (.cells #[.int .i64 i, .int .i64 n, .int .i64 o, .string T] 31)) #[.int .i64 i, .int .i64 n, .int .i64 o, .string T] 33
  rw [World.size_alloc, hg] at hk
  have HK := Lib.hid hk
  clear hk
  go_enter Try.func31, Try.ntmps31
  go_wp2_with fail
  have d0 := HK.out.cell 0
  have d1 := HK.out.cell 1
  have d2 := HK.out.cell 2
  have d3 := HK.out.cell 3
  generalize (w.alloc (.cells #[.int .i64 i, .int .i64 n, .int .i64 o, .string T] 31)).alloc (.cells #[.int .i64 i, .int .i64 n, .int .i64 o, .string T] 33) = wf at *
  simp at d0 d1 d2 d3
  refine bodyPost_ret (v := .agg #[.int .i64 i, .int .i64 n, .int .i64 o, .string T]) (by simp [results, Try.results31, go_sem, d0, d1, d2, d3]) rfl ⟨rfl, hg ▸ hb.out⟩

end Go.Proofs.Ytemfecdpjegocaa
