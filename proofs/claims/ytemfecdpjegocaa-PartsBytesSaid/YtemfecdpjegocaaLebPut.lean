/- The walk of leb.Put. -/
import Derived.Test.YtemfecdpjegocaaRows
import Derived.Test.YtemfecdpjegocaaLebPlain
import Derived.Test.YtemfecdpjegocaaOwn
import Derived.WalkSpells
namespace Go.Proofs.Ytemfecdpjegocaa
open Go.RowKit
set_option linter.unusedVariables false

theorem bt : ByteTypes Try.prog 39 5 9 := ⟨Try.underlying39, Try.underlying5, Try.underlying9, by kernel_rfl⟩
theorem make10 (w : World) : (Instr.makeSlice 39 (.int .i64 0) (.int .i64 10)).run Try.prog w =
    .ok (.slice (some ⟨w.heap.size, 0, none⟩) 0 10) (w.alloc (.cells (Array.replicate 10 (.int .u8 0)) 5)) := by kernel_rfl

set_option maxRecDepth 100000 in
set_option maxHeartbeats 400000 in
theorem leb_put (n : Nat) (w : World) (hn : n < 18446744073709551616) :
    Calls Try.prog 52 #[.int .u64 n] w fun e w' => e = .returned (.string ⟨(lebPut n).toArray⟩) ∧ Below w.heap.size w w' := by
  have hm := make10
  obtain ⟨B, hB⟩ : ∃ B, B = w.heap.size := ⟨_, rfl⟩
  have HB := Lib.hid hB
  have hB0 : B ≤ w.heap.size := by omega
  rw [← hB]
  clear hB
  have H0 := LebTo.start n hn
  generalize lebPut n = t at *
  go_enter Try.func52, Try.ntmps52
  go_wp2
  go_loopw [0, 3] (fun nv v wr => ∃ (m : Nat) (l : List UInt8), nv = .int .u64 m ∧ OwnB wr B 5 v l ∧ Below B w wr ∧ LebTo t l m ∧ m < 18446744073709551616) (fun nv _ _ => (intOf nv).toNat)
  case atStart => exact ⟨n, [], rfl, OwnB.made w B _ _ 10 hB0 (by decide) rfl, (Below.refl _ _).alloc hB0 _, H0, hn⟩
  case round =>
    obtain ⟨m, l, rfl, hown, hbl, hto, hm64⟩ := hrel
    have hBr : B ≤ wr.heap.size := by have := hbl.size; omega
    have hle := hto.le
    by_cases c : 128 ≤ m
    · have hn' := hto.step c
      go_wp2_with (at_builtin; refine append_bytes bt rfl (.tmp 7) (.tmp 11) rfl B _ l [UInt8.ofNat (m % 128 + 128)] 1 rfl wr _ (lit1 (n := m % 128 + 128) (or128 m) (by omega)) rfl hown rfl (by omega) hBr ?_; intro v' w' hown' hb' hsz')
      go_roundw
      case rel => exact ⟨m / 128, _, by go_num, hown', hbl.trans hb', hn', by omega⟩
      case measure => simp [intOf]; omega
    · have c' : m < 128 := by omega
      have hd := Lib.hid (hto.done c')
      go_wp2_with (at_builtin; refine append_bytes bt rfl (.tmp 15) (.tmp 18) rfl B _ l [UInt8.ofNat m] 1 rfl wr _ (lit1 (n := m) (by omega) (by omega)) rfl hown rfl (by omega) hBr ?_; intro v' w' hown' hb' hsz'; have hst := hown'.string bt)
      go_returns
      exact ⟨by rw [← hd.out]; rfl, hbl.trans hb'⟩

end Go.Proofs.Ytemfecdpjegocaa
