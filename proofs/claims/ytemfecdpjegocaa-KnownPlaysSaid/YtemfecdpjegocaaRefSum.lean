/- Sum of the document's row: the digest of the digest. -/
import Derived.Test.YtemfecdpjegocaaTwiceSums
namespace Go.Proofs.Ytemfecdpjegocaa
open Go.RowKit Go.Shelf
set_option linter.unusedVariables false
set_option linter.unusedSimpArgs false

set_option maxRecDepth 100000 in
set_option maxHeartbeats 1000000 in
theorem ref_sum31 (KA : Array Value) (f : List UInt8 → List UInt8) (hD : DocBy KA f) (s : ByteArray) (w : World) (hs : s.size ≤ 100000) :
    Calls Try.prog 21 #[.agg KA, .string s] w fun e w' => e = .returned (.string ⟨(f (f s.data.toList)).toArray⟩) ∧ Below w.heap.size w w' := by
  have c1 := fun w => hD.sum s w hs
  have hl1 := hD.len s.data.toList
  obtain ⟨T1, hT1⟩ : ∃ T1 : ByteArray, T1 = ⟨(f s.data.toList).toArray⟩ := ⟨_, rfl⟩
  have hs1 : T1.size = 32 := by rw [hT1, size_mk, hl1]
  have hd1 : T1.data.toList = f s.data.toList := by rw [hT1]
  have c2 := fun w => hD.sum T1 w (by omega)
  rw [hd1] at c2
  rw [← hT1] at c1
  obtain ⟨T2, hT2⟩ : ∃ T2 : ByteArray, T2 = ⟨(f (f s.data.toList)).toArray⟩ := ⟨_, rfl⟩
  rw [← hT2] at c2 ⊢
  have C1 := Lib.hid c1
  have C2 := Lib.hid c2
  have HS := Lib.hid hD.size
  clear c1 c2 hl1 hT1 hT2 hd1 hs1 hD
  obtain ⟨B, hB⟩ : ∃ B, w.heap.size = B := ⟨_, rfl⟩
  have h8 : Hid (Blk (w.alloc (.cells KA 47)) B KA 47) := hB ▸ Blk.new w KA _
  have hbl : Hid (Below B w (w.alloc (.cells KA 47))) := (Below.refl _ _).alloc (by omega) _
  rw [hB]
  go_enter Try.func21, Try.ntmps21
  go_upto_region 1 with fail
  have hlt : B < (w.alloc (.cells KA 47)).heap.size := h8.out.lt
  generalize w.alloc (.cells KA 47) = w1 at *
  have hkx : Hid (∀ W, (∃ x : Fut w1, W = x.at_) → Blk W B KA 47) := by
    rintro _ ⟨x, rfl⟩
    exact Below.blk x.is h8.out hlt
  refine wp_region_after (by kernel_rfl) (by kernel_rfl) ?_
  go_big_quiet_want
  refine quiet_load_row 47 (.tmp 2) rfl B rfl _ KA _ hkx.out Try.underlying47 rfl HS.out ?_
  go_big_quiet_on
  simp only [Act.put, List.setIfInBounds_toArray, List.set_cons_zero, List.set_cons_succ]
  go_big_quiet_want
  refine quiet_load_row 47 (.tmp 2) rfl B rfl _ KA _ hkx.out Try.underlying47 rfl HS.out ?_
  go_big_quiet_on
  simp only [Act.put, List.setIfInBounds_toArray, List.set_cons_zero, List.set_cons_succ]
  go_big_quiet_step (fail)
  go_big_quiet_step (exact Calls.after (C1.out _))
  go_big_quiet_step (exact Calls.after (C2.out _))
  repeat (go_big_quiet_step (fail))
  refine wpQuiet_nil ?_
  intro x
  go_wp2_with fail
  go_returns
  exact ⟨rfl, hbl.out.trans (x.is.mono (by omega))⟩
end Go.Proofs.Ytemfecdpjegocaa
