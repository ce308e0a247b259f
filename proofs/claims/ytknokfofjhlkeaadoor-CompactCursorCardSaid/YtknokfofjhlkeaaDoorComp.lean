/- The walks of package compact: first, Put, Next; the document's. -/
import Derived.Test.YtknokfofjhlkeaaDoorCompPlain
import Derived.Test.YtknokfofjhlkeaaDoorFixRef
import Derived.Test.YtknokfofjhlkeaaDoorOwn
import Derived.Deep.RegionWith
namespace Go.Proofs.YtknokfofjhlkeaaDoor
open Go.RowKit
set_option linter.unusedVariables false

def n3 (t : Nat × Nat × Nat) : Value := .tuple #[.int .u64 t.1, .int .i64 t.2.1, .int .i64 t.2.2]
/-- The table. -/
structure Tab (w : World) : Prop where
  a : w.cell? ⟨0, 0, none⟩ = some (.int .i64 2)
  b : w.cell? ⟨0, 1, none⟩ = some (.int .i64 4)
  c : w.cell? ⟨0, 2, none⟩ = some (.int .i64 8)
theorem Tab.at_ {w : World} (h : Tab w) (b : Nat) (h1 : 253 ≤ b) (h2 : b < 256) : w.cell? ⟨0, b - 253, none⟩ = some (.int .i64 (cBehind b)) := by
  rcases (show b = 253 ∨ b = 254 ∨ b = 255 by omega) with rfl | rfl | rfl
  · exact h.a
  · exact h.b
  · exact h.c
theorem Tab.below {w w' : World} {B : Nat} (h : Tab w) (hb : Below B w w') (hB : 0 < B) : Tab w' :=
  ⟨(hb.cell (p := ⟨_, 0, none⟩) hB).trans h.a, (hb.cell (p := ⟨_, 1, none⟩) hB).trans h.b, (hb.cell (p := ⟨_, 2, none⟩) hB).trans h.c⟩
theorem Tab.lt {w : World} (h : Tab w) : 0 < w.heap.size := by
  rcases Nat.lt_or_ge 0 w.heap.size with h' | h'
  · exact h'
  · have := h.a
    simp [World.cell?, Array.getElem?_eq_none h'] at this

set_option maxRecDepth 100000 in
theorem comp_first (n : Nat) (w : World) (hn : n < 18446744073709551616) :
    Calls Tryd.prog 17 #[.int .u64 n] w fun e w' => e = .returned (.int .u8 (cHead n)) ∧ w = w' := by
  by_cases h1 : n < 253
  · have e := Lib.hid (cHead_lo n h1)
    go_enter Tryd.func17, Tryd.ntmps17
    go_wp2_with fail
    go_returns
    exact ⟨by rw [e.out]; exact congrArg Ending.returned (congrArg (Value.int .u8) (by omega)), rfl⟩
  · have g1 : decide ((n : Int) < 253) = false := by simp; omega
    by_cases h2 : n < 65536
    · have e : Hid (cHead n = 253) := by unfold Hid cHead; rw [if_neg h1, if_pos h2]
      have g2 : decide ((n : Int) < 65536) = true := by simp; omega
      clear h1 h2 hn
      go_enter Tryd.func17, Tryd.ntmps17
      go_wp2_with fail
      go_returns
      exact ⟨by rw [e.out]; rfl, rfl⟩
    · have g2 : decide ((n : Int) < 65536) = false := by simp; omega
      by_cases h3 : n < 4294967296
      · have e : Hid (cHead n = 254) := by unfold Hid cHead; rw [if_neg h1, if_neg h2, if_pos h3]
        have g3 : decide ((n : Int) < 4294967296) = true := by simp; omega
        clear h1 h2 h3 hn
        go_enter Tryd.func17, Tryd.ntmps17
        go_wp2_with fail
        go_returns
        exact ⟨by rw [e.out]; rfl, rfl⟩
      · have g3 : decide ((n : Int) < 4294967296) = false := by simp; omega
        have e : Hid (cHead n = 255) := by unfold Hid cHead; rw [if_neg h1, if_neg h2, if_neg h3]
        clear h1 h2 h3 hn
        go_enter Tryd.func17, Tryd.ntmps17
        go_wp2_with fail
        go_returns
        exact ⟨by rw [e.out]; rfl, rfl⟩

set_option maxRecDepth 100000 in
set_option maxHeartbeats 400000 in
theorem comp_put (n : Nat) (w : World) (hn : n < 18446744073709551616) (hT : Tab w) :
    Calls Tryd.prog 7 #[.int .u64 n] w fun e w' => e = .returned (.string ⟨(cPut n).toArray⟩) ∧ Below w.heap.size w w' := by
  have c1 := Lib.hid (comp_first n w hn)
  have hlt := cHead_lt n
  by_cases h1 : n < 253
  · have e := Lib.hid (cPut_lo n h1)
    have e2 := cHead_lo n h1
    rw [e2] at c1
    clear hlt e2
    have hst := fun w => string_lit btf w [UInt8.ofNat n] #[.int .u8 n] 1 rfl (lit1 rfl (by omega)) (by decide)
    go_enter Tryd.func7, Tryd.ntmps7
    go_wp2_with fail
    refine c1.out.mono ?_
    rintro e w' ⟨rfl, rfl⟩
    go_wp2_with fail
    go_returns
    exact ⟨by rw [e.out]; rfl, (Below.refl _ _).alloc (Nat.le_refl _) _⟩
  · have hge := cHead_hi n (by omega)
    have hT' := Tab.at_ hT (cHead n) hge hlt
    have hk := cBehind_le (cHead n)
    have hk1 : 1 ≤ cBehind (cHead n) := by unfold cBehind; rw [if_neg (by omega)]; (repeat' split) <;> omega
    have c2 := Lib.hid (fun w => fix_little n (cBehind (cHead n)) w hn hk1 hk (cFits n hn (by omega)))
    have e : Hid (cPut n = UInt8.ofNat (cHead n) :: leN (cBehind (cHead n)) n) := rfl
    have hlen := leN_length (cBehind (cHead n)) n
    generalize leN (cBehind (cHead n)) n = tl at *
    generalize cBehind (cHead n) = k at *
    generalize cHead n = hd at *
    have hsz : (⟨tl.toArray⟩ : ByteArray).size = k := by rw [size_mk]; exact hlen
    generalize htl : (⟨tl.toArray⟩ : ByteArray) = TL at *
    have HS := Lib.hid htl
    have hszl : TL.size ≤ 8 := by omega
    have hG := Tab.lt hT
    clear htl hlen hsz hT
    have hst := fun w => string_lit btf w [UInt8.ofNat hd] #[.int .u8 hd] 1 rfl (lit1 rfl (by omega)) (by decide)
    have h253 : (0 : Int) ≤ (hd : Int) - 253 := by omega
    have h253' : (hd : Int) - 253 < 3 := by omega
    go_enter Tryd.func7, Tryd.ntmps7
    go_wp2_with fail
    refine c1.out.mono ?_
    rintro e w' ⟨rfl, rfl⟩
    go_wp2_with fail
    refine (c2.out _).mono ?_
    rintro e w1 ⟨rfl, hb⟩
    go_wp2_with fail
    go_returns
    exact ⟨by rw [e.out, ← HS.out]; exact congrArg (fun b : ByteArray => Ending.returned (Value.string b)) (bext (by simp)), ((Below.refl _ _).alloc (Nat.le_refl _) _).trans (hb.mono (by simp))⟩
end Go.Proofs.YtknokfofjhlkeaaDoor
