/- The walks of sha.word, spun, smallMix, bigMix. -/
import Derived.Test.YtemfecdpjegocaaRows
import Derived.Test.YtemfecdpjegocaaShaPlain
import Derived.Test.YtemfecdpjegocaaOwn
import Derived.Lib.Strings
import Derived.WalkSpells
namespace Go.Proofs.Ytemfecdpjegocaa
open Go.RowKit
set_option linter.unusedVariables false

theorem word_bytes (a b c d : UInt8) :
    bits BinOp.or IntKind.u32 (bits BinOp.or IntKind.u32 (bits BinOp.or IntKind.u32 ((a.toNat : Int) * 16777216) ((b.toNat : Int) * 65536)) ((c.toNat : Int) * 256)) (d.toNat : Int) =
      ((UInt32.ofNat (a.toNat * 16777216 + b.toNat * 65536 + c.toNat * 256 + d.toNat)).toNat : Int) := by
  have ha := a.toNat_lt
  have hb := b.toNat_lt
  have hc := c.toNat_lt
  have hd := d.toNat_lt
  have e (x y : Nat) : ((x : Int) * (y : Int)) = ((x * y : Nat) : Int) := (Int.natCast_mul x y).symm
  rw [show (16777216 : Int) = ((16777216 : Nat) : Int) from rfl, show (65536 : Int) = ((65536 : Nat) : Int) from rfl, show (256 : Int) = ((256 : Nat) : Int) from rfl, e, e, e,
    u32_or_nat _ _ (by omega) (by omega)]
  have h1 : a.toNat * 16777216 ||| b.toNat * 65536 = a.toNat * 16777216 + b.toNat * 65536 := by
    have := Nat.two_pow_add_eq_or_of_lt (show b.toNat * 65536 < 2 ^ 24 by omega) a.toNat
    rw [Nat.mul_comm a.toNat]; exact this.symm
  rw [h1, u32_or_nat _ _ (by omega) (by omega)]
  have h2 : (a.toNat * 16777216 + b.toNat * 65536) ||| c.toNat * 256 = a.toNat * 16777216 + b.toNat * 65536 + c.toNat * 256 := by
    have := Nat.two_pow_add_eq_or_of_lt (show c.toNat * 256 < 2 ^ 16 by omega) (a.toNat * 256 + b.toNat)
    rw [show 2 ^ 16 * (a.toNat * 256 + b.toNat) = a.toNat * 16777216 + b.toNat * 65536 by omega] at this
    exact this.symm
  rw [h2, u32_or_nat _ _ (by omega) (by omega)]
  have h3 : (a.toNat * 16777216 + b.toNat * 65536 + c.toNat * 256) ||| d.toNat = a.toNat * 16777216 + b.toNat * 65536 + c.toNat * 256 + d.toNat := by
    have := Nat.two_pow_add_eq_or_of_lt (show d.toNat < 2 ^ 8 by omega) (a.toNat * 65536 + b.toNat * 256 + c.toNat)
    rw [show 2 ^ 8 * (a.toNat * 65536 + b.toNat * 256 + c.toNat) = a.toNat * 16777216 + b.toNat * 65536 + c.toNat * 256 by omega] at this
    exact this.symm
  rw [h3, u32n _ (by omega)]

theorem wordN_at (s : ByteArray) (i : Nat) (h : 4 * i + 4 ≤ s.size) : wordN s.data.toList i = UInt32.ofNat (s[4 * i].toNat * 16777216 + s[4 * i + 1].toNat * 65536 + s[4 * i + 2].toNat * 256 + s[4 * i + 3].toNat) := by
  have e : ∀ j (hj : j < s.size), s.data.toList.getD j 0 = s[j] := by
    intro j hj
    have hj' : j < s.data.toList.length := by rw [← Lib.size_eq]; exact hj
    rw [List.getD_eq_getElem?_getD, List.getElem?_eq_getElem hj']; rfl
  unfold wordN
  rw [e _ (by omega), e _ (by omega), e _ (by omega), e _ (by omega)]

theorem word_bytes' (a b c d : UInt8) :
    bits BinOp.or IntKind.u32 (bits BinOp.or IntKind.u32 (bits BinOp.or IntKind.u32 ((a.toNat : Int) % 4294967296 * 16777216 % 4294967296) ((b.toNat : Int) % 4294967296 * 65536 % 4294967296)) ((c.toNat : Int) % 4294967296 * 256 % 4294967296)) ((d.toNat : Int) % 4294967296) =
      ((UInt32.ofNat (a.toNat * 16777216 + b.toNat * 65536 + c.toNat * 256 + d.toNat)).toNat : Int) := by
  have ha := a.toNat_lt
  have hb := b.toNat_lt
  have hc := c.toNat_lt
  have hd := d.toNat_lt
  rw [← word_bytes a b c d]
  congr 1
  · congr 1
    · congr 1 <;> omega
    · omega
  · omega
theorem wordN_ext (s : ByteArray) (i : Nat) : wordN (s.extract (4 * i) (4 * i + 4)).data.toList 0 = wordN s.data.toList i := by
  have e : ∀ j, j < 4 → (s.extract (4 * i) (4 * i + 4)).data.toList.getD j 0 = s.data.toList.getD (4 * i + j) 0 := by
    intro j hj
    rw [Lib.extract_data, List.getD_eq_getElem?_getD, List.getD_eq_getElem?_getD, List.getElem?_take_of_lt (by omega), List.getElem?_drop]
  unfold wordN
  rw [e _ (by omega), e _ (by omega), e _ (by omega), e _ (by omega)]
  rfl

set_option maxRecDepth 100000 in
set_option maxHeartbeats 400000 in
theorem sha_word (s : ByteArray) (i : Nat) (w : World) (hi : 4 * i + 4 ≤ s.size) (hs : s.size ≤ 1000) :
    Calls Try.prog 94 #[.string s, .int .i64 i] w fun e w' => e = .returned (.int .u32 (wordN s.data.toList i).toNat) ∧ ∃ n, w' = w.drewN n := by
  have hx : (s.extract (4 * i) (4 * i + 4)).size = 4 := by rw [ByteArray.size_extract]; omega
  have hw := wordN_at (s.extract (4 * i) (4 * i + 4)) 0 (by omega)
  rw [wordN_ext] at hw
  go_enter Try.func94, Try.ntmps94
  have HW := Lib.hid hw
  clear hw
  go_wp2_with fail
  go_quiet (fail)
  go_wp2_with fail
  go_returns
  exact ⟨by rw [HW.out, ← word_bytes']; rfl, _, rfl⟩

set_option maxRecDepth 100000 in
theorem rotl32 (x : UInt32) (n : Nat) (w : World) (h1 : 1 ≤ n) (h2 : n ≤ 31) :
    Calls Try.prog 118 #[.int .u32 x.toNat, .int .i64 (-(n : Int))] w fun e w' => e = .returned (.int .u32 (rotr x n).toNat) ∧ w = w' := by
  have hx := x.toNat_lt
  have hr := Lib.hid (L_rot x n)
  have e1 : bits BinOp.and IntKind.u64 (IntKind.u64.wrap (-(n : Int))) 31 = ((32 - n : Nat) : Int) := by
    have e0 : IntKind.u64.wrap (-(n : Int)) = ((18446744073709551616 - n : Nat) : Int) := by
      rw [IntKind.wrap_u64]; omega
    rw [e0, show (31 : Int) = ((31 : Nat) : Int) from rfl, u64_and_nat _ _ (by omega) (by decide)]
    congr 1
    rw [show (31 : Nat) = 2 ^ 5 - 1 from rfl, Nat.and_two_pow_sub_one_eq_mod]
    omega
  go_enter Try.func118, Try.ntmps118
  go_wp2_with fail
  go_returns
  refine ⟨congrArg (fun z => Ending.returned (Value.int .u32 z)) ?_, rfl⟩
  rw [← hr.out, show 32 - (32 - n) = n by omega]

set_option maxRecDepth 100000 in
theorem sha_spun (x : UInt32) (n : Nat) (w : World) (h1 : 1 ≤ n) (h2 : n ≤ 31) :
    Calls Try.prog 111 #[.int .u32 x.toNat, .int .i64 n] w fun e w' => e = .returned (.int .u32 (rotr x n).toNat) ∧ w = w' := by
  have c1 := Lib.hid (rotl32 x n w h1 h2)
  have hx := x.toNat_lt
  go_enter Try.func111, Try.ntmps111
  go_wp2_with fail
  refine c1.out.mono ?_
  rintro e w' ⟨rfl, rfl⟩
  go_wp2_with fail
  go_returns
  exact ⟨rfl, rfl⟩

theorem quiet_same {P : Program} {f : FuncId} {args : Array Value} {w : World} {n : Nat} {v : Value}
    (h : Calls P f args (w.drewN n) fun e w' => e = .returned v ∧ w.drewN n = w') : Calls P f args (w.drewN n) fun e w'' => e = .returned v ∧ ∃ m, w'' = w.drewN m :=
  h.mono fun _ _ ⟨he, hm⟩ => ⟨he, n, hm.symm⟩
set_option maxRecDepth 100000 in
theorem sha_bigmix (x : UInt32) (a b c : Nat) (w : World) (ha : 1 ≤ a ∧ a ≤ 31) (hb : 1 ≤ b ∧ b ≤ 31) (hc : 1 ≤ c ∧ c ≤ 31) :
    Calls Try.prog 96 #[.int .u32 x.toNat, .int .i64 a, .int .i64 b, .int .i64 c] w fun e w' => e = .returned (.int .u32 (bigM x a b c).toNat) ∧ w = w' := by
  have c1 := Lib.hid (sha_spun x a w ha.1 ha.2)
  have c2 := Lib.hid (sha_spun x b w hb.1 hb.2)
  have c3 := Lib.hid (sha_spun x c w hc.1 hc.2)
  have h1 := Lib.hid (L_xor (rotr x a) (rotr x b))
  have h2 := Lib.hid (L_xor (rotr x a ^^^ rotr x b) (rotr x c))
  clear ha hb hc
  go_enter Try.func96, Try.ntmps96
  go_wp2_with fail
  refine c1.out.mono ?_
  rintro e w' ⟨rfl, rfl⟩
  go_wp2_with fail
  refine c2.out.mono ?_
  rintro e w' ⟨rfl, rfl⟩
  go_wp2_with fail
  refine c3.out.mono ?_
  rintro e w' ⟨rfl, rfl⟩
  go_wp2_with fail
  go_returns
  refine ⟨congrArg (fun z => Ending.returned (Value.int .u32 z)) ?_, rfl⟩
  rw [h1.out, h2.out]; rfl
set_option maxRecDepth 100000 in
theorem sha_smallmix (x : UInt32) (a b c : Nat) (w : World) (ha : 1 ≤ a ∧ a ≤ 31) (hb : 1 ≤ b ∧ b ≤ 31) (hc : 1 ≤ c ∧ c ≤ 31) :
    Calls Try.prog 110 #[.int .u32 x.toNat, .int .i64 a, .int .i64 b, .int .i64 c] w fun e w' => e = .returned (.int .u32 (smallM x a b c).toNat) ∧ ∃ n, w' = w.drewN n := by
  have c1 := Lib.hid (fun w => sha_spun x a w ha.1 ha.2)
  have c2 := Lib.hid (fun w => sha_spun x b w hb.1 hb.2)
  have h1 := Lib.hid (L_xor (rotr x a) (rotr x b))
  have h2 := Lib.hid (L_xor (rotr x a ^^^ rotr x b) (shr x c))
  have h3 := Lib.hid (L_shr x c)
  have hx := x.toNat_lt
  obtain ⟨hc1, hc2⟩ := hc
  obtain ⟨ha1, ha2⟩ := ha
  obtain ⟨hb1, hb2⟩ := hb
  clear c1 c2
  go_enter Try.func110, Try.ntmps110
  go_wp2_with fail
  go_quiet ((go_at_call 111; exact quiet_same (sha_spun x _ _ (by omega) (by omega))))
  go_wp2_with fail
  go_returns
  refine ⟨congrArg (fun z => Ending.returned (Value.int .u32 z)) ?_, _, rfl⟩
  rw [h1.out, h3.out, h2.out]; rfl
end Go.Proofs.Ytemfecdpjegocaa
