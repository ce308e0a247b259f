/- The walks of package fixed: fits, digits, Little, GetLittle. -/
import Derived.Test.YtknokfofjhlkeaaDoorRows
import Derived.Test.YtknokfofjhlkeaaDoorFixPlain
import Derived.Test.YtknokfofjhlkeaaDoorOwn
import Derived.WalkSpells
import Derived.OwnWalk
import Derived.Laws.BitsAllLaws
namespace Go.Proofs.YtknokfofjhlkeaaDoor
open Go.RowKit
set_option linter.unusedVariables false

theorem btf : ByteTypes Tryd.prog 43 5 9 := ⟨Tryd.underlying43, Tryd.underlying5, Tryd.underlying9, by kernel_rfl⟩

theorem pow256 (k : Nat) : (2 : Int) ^ (8 * k) = ((256 ^ k : Nat) : Int) := by
  rw [Int.pow_mul]; simp
theorem fits_arg (n : Nat) (k : Int) (w : World) (hk : k < 1 ∨ 8 < k) :
    Calls Tryd.prog 26 #[.int .u64 n, .int .i64 k] w fun e w' => e = .returned (.int .i64 1) ∧ w = w' := by
  rcases hk with hk | hk
  · go_enter Tryd.func26, Tryd.ntmps26
    go_wp2_with fail
    go_returns
    exact ⟨rfl, rfl⟩
  · have hk' : ¬ k < 1 := by omega
    go_enter Tryd.func26, Tryd.ntmps26
    go_wp2_with fail
    go_returns
    exact ⟨rfl, rfl⟩
theorem fits_over (n k : Nat) (w : World) (hn : n < 18446744073709551616) (h1 : 1 ≤ k) (h8 : k ≤ 8) (h : 256 ^ k ≤ n) :
    Calls Tryd.prog 26 #[.int .u64 n, .int .i64 k] w fun e w' => e = .returned (.int .i64 5) ∧ w = w' := by
  have hb : (((n : Int) / 2 ^ (8 * k)) != 0) = true := by
    rw [pow256, bne_iff_ne, ← Int.natCast_ediv]
    have := Nat.div_pos h (Nat.pow_pos (by decide))
    omega
  clear h
  go_enter Tryd.func26, Tryd.ntmps26
  go_wp2_with fail
  go_returns
  exact ⟨rfl, rfl⟩
theorem fits_ok (n k : Nat) (w : World) (hn : n < 18446744073709551616) (h1 : 1 ≤ k) (h8 : k ≤ 8) (h : n < 256 ^ k) :
    Calls Tryd.prog 26 #[.int .u64 n, .int .i64 k] w fun e w' => e = .returned (.int .i64 0) ∧ w = w' := by
  have hb : (((n : Int) / 2 ^ (8 * k)) != 0) = false := by
    rw [pow256, bne_eq_false_iff_eq, ← Int.natCast_ediv, Nat.div_eq_of_lt h]; rfl
  clear h
  go_enter Tryd.func26, Tryd.ntmps26
  go_wp2_with fail
  go_returns
  exact ⟨rfl, rfl⟩

/-- The row while it is filled: j digits, then noughts. -/
def dcells (k j n : Nat) : List Value := bcells (leN j n) ++ List.replicate (k - j) (.int .u8 0)
theorem dcells_step (k j n : Nat) (h : j < k) : (dcells k j n).set j (.int .u8 ((n / 256 ^ j % 256 : Nat) : Int)) = dcells k (j + 1) n := by
  unfold dcells
  rw [leN_succ, bcells_append, List.set_append_right _ _ (by simp), show k - j = (k - (j + 1)) + 1 by omega, List.replicate_succ]
  simp [bcells, u8n _ (Nat.mod_lt (n / 256 ^ j) (show 0 < 256 by decide))]
theorem leN_length' (k n : Nat) : (bcells (leN k n)).length = k := by simp
theorem dcells_get (k j n : Nat) (h : j < k) : (dcells k j n)[j]? = some (.int .u8 0) := by
  unfold dcells
  rw [List.getElem?_append_right (by simp), leN_length', List.getElem?_replicate, if_pos (by omega)]

set_option maxRecDepth 100000 in
set_option maxHeartbeats 400000 in
theorem fix_digits (n k : Nat) (w : World) (hn : n < 18446744073709551616) (h8 : k ≤ 8) :
    Calls Tryd.prog 27 #[.int .u64 n, .int .i64 k] w fun e w' => e = .returned (.slice (some ⟨w.heap.size, 0, none⟩) k k) ∧
      OwnB w' w.heap.size 5 (.slice (some ⟨w.heap.size, 0, none⟩) k k) (leN k n) ∧ Below w.heap.size w w' := by
  obtain ⟨i0, hi, hz0, hz1, hz2⟩ := info_parts btf.hi
  obtain ⟨B, hB⟩ : ∃ B, w.heap.size = B := ⟨_, rfl⟩
  have hB0 : B ≤ w.heap.size := by omega
  rw [hB]
  have HB := Lib.hid hB
  go_enter Tryd.func27, Tryd.ntmps27
  go_wp2_with (refine wpList_make_full _ rfl (.tmp 7) (.tmp 7) 43 rfl B 5 i0 (.int .u8 0) 1 Tryd.underlying43 hi hz0 hz1 .i64 .i64 k k k rfl rfl rfl rfl (by rw [hz2]; omega) (by unfold maxLen; omega) hB0 ?_; intro w1 hown hgrow)
  rw [hB] at hown
  have hc0 : Hid ((madeCells (Value.int .u8 0).cells (k * 1)).toList = dcells k 0 n) := by
    unfold Hid dcells
    rw [show (Value.int .u8 0).cells = #[.int .u8 0] from rfl, toList_madeCells_one]; simp [leN, bcells]
  rw [hc0.out] at hown
  have hbl0 : Below B w w1 := (Below.refl _ _).grown hgrow hB0 (fun _ h => by cases h)
  go_loopw [10] (fun i wr => ∃ j : Nat, j ≤ k ∧ i = .int .i64 j ∧ wr.ownsRow B 5 1 (.slice (some ⟨B, 0, none⟩) k k) k (dcells k j n) ∧ Below B w wr) (fun i _ => k - (intOf i).toNat)
  case atStart => exact ⟨0, by omega, rfl, hown, hbl0⟩
  case round =>
    obtain ⟨j, hj, rfl, ho, hbl⟩ := hrel
    by_cases c : j < k
    · have hcell : wr.cell? ⟨B, j, none⟩ = some (.int .u8 0) := by rw [ho.cellAt j (by omega), dcells_get k j n c]
      have hfr := ho.frozenAt j
      have hv : Hid (((n : Int) / 2 ^ (8 * j) % 256) = ((n / 256 ^ j % 256 : Nat) : Int)) := by unfold Hid; rw [pow256]; rfl
      have hst := ho.stored j (.int .u8 ((n / 256 ^ j % 256 : Nat) : Int))
      rw [dcells_step k j n c] at hst
      go_wp2_with fail
      go_roundw
      case rel => rw [hv.out]; exact ⟨j + 1, by omega, by go_num, hst.1, hbl.setCell (p := ⟨B, j, none⟩) (Nat.le_refl _) _⟩
      case measure => simp [intOf]; omega
    · obtain rfl : j = k := by omega
      go_wp2_with fail
      go_returns
      refine ⟨rfl, ?_, hbl⟩
      have e : dcells j j n = bcells (leN j n) := by unfold dcells; simp
      unfold OwnB
      rw [leN_length, ← e]; exact ho

set_option maxRecDepth 100000 in
theorem fix_little (n k : Nat) (w : World) (hn : n < 18446744073709551616) (h1 : 1 ≤ k) (h8 : k ≤ 8) (h : n < 256 ^ k) :
    Calls Tryd.prog 18 #[.int .u64 n, .int .i64 k] w fun e w' => e = .returned (.tuple #[.string ⟨(leN k n).toArray⟩, .int .i64 0]) ∧ Below w.heap.size w w' := by
  have c1 := Lib.hid (fits_ok n k w hn h1 h8 h)
  have c2 := Lib.hid (fix_digits n k w hn h8)
  clear h
  go_enter Tryd.func18, Tryd.ntmps18
  go_wp2_with fail
  refine c1.out.mono ?_
  rintro e w' ⟨rfl, rfl⟩
  go_wp2_with fail
  refine c2.out.mono ?_
  rintro e w1 ⟨rfl, ho, hb⟩
  have hst := ho.string btf
  go_wp2_with fail
  go_returns
  exact ⟨rfl, hb⟩
set_option maxRecDepth 100000 in
theorem fix_little_arg (n : Nat) (k : Int) (w : World) (h1 : k < 1 ∨ 8 < k) :
    Calls Tryd.prog 18 #[.int .u64 n, .int .i64 k] w fun e w' => e = .returned (.tuple #[.string ⟨#[]⟩, .int .i64 1]) ∧ w = w' := by
  have c1 := Lib.hid (fits_arg n k w h1)
  clear h1
  go_enter Tryd.func18, Tryd.ntmps18
  go_wp2_with fail
  refine c1.out.mono ?_
  rintro e w' ⟨rfl, rfl⟩
  go_wp2_with fail
  go_returns
  exact ⟨rfl, rfl⟩
set_option maxRecDepth 100000 in
theorem fix_little_over (n k : Nat) (w : World) (hn : n < 18446744073709551616) (h1 : 1 ≤ k) (h8 : k ≤ 8) (h : 256 ^ k ≤ n) :
    Calls Tryd.prog 18 #[.int .u64 n, .int .i64 k] w fun e w' => e = .returned (.tuple #[.string ⟨#[]⟩, .int .i64 5]) ∧ w = w' := by
  have c1 := Lib.hid (fits_over n k w hn h1 h8 h)
  clear h1 h
  go_enter Tryd.func18, Tryd.ntmps18
  go_wp2_with fail
  refine c1.out.mono ?_
  rintro e w' ⟨rfl, rfl⟩
  go_wp2_with fail
  go_returns
  exact ⟨rfl, rfl⟩

theorem readable_none (w : World) : Calls Tryd.prog 28 #[.int .i64 0] w fun e w' => e = .returned (.int .i64 1) ∧ w = w' := by
  go_enter Tryd.func28, Tryd.ntmps28
  go_wp2_with fail
  go_returns
  exact ⟨rfl, rfl⟩
theorem readable_over (k : Nat) (w : World) (h : 8 < k) : Calls Tryd.prog 28 #[.int .i64 k] w fun e w' => e = .returned (.int .i64 5) ∧ w = w' := by
  have h0 : ((k : Int) == 0) = false := by rw [beq_eq_false_iff_ne]; omega
  go_enter Tryd.func28, Tryd.ntmps28
  go_wp2_with fail
  go_returns
  exact ⟨rfl, rfl⟩
theorem readable_ok (k : Nat) (w : World) (h1 : 1 ≤ k) (h : k ≤ 8) : Calls Tryd.prog 28 #[.int .i64 k] w fun e w' => e = .returned (.int .i64 0) ∧ w = w' := by
  have h0 : ((k : Int) == 0) = false := by rw [beq_eq_false_iff_ne]; omega
  go_enter Tryd.func28, Tryd.ntmps28
  go_wp2_with fail
  go_returns
  exact ⟨rfl, rfl⟩

theorem fix_or (n b j : Nat) (hj : j ≤ 7) (hn : n < 256 ^ j) (hb : b < 256) :
    bits BinOp.or IntKind.u64 (n : Int) (IntKind.u64.wrap ((b : Int) * 2 ^ (8 * j))) = ((n + 256 ^ j * b : Nat) : Int) := by
  have hp : 256 ^ j ≤ 72057594037927936 := Nat.le_trans (Nat.pow_le_pow_right (by decide) hj) (by decide)
  have h2 := Nat.mul_le_mul (show b ≤ 255 by omega) hp
  rw [pow256, ← Int.natCast_mul, IntWalk.u64_in _ ⟨by omega, by omega⟩, u64_or_nat n (b * 256 ^ j) (by omega) (by omega)]
  congr 1
  have hn' : n < 2 ^ (8 * j) := by rw [Nat.pow_mul]; exact hn
  have := Nat.two_pow_add_eq_or_of_lt hn' b
  rw [Nat.pow_mul] at this
  rw [Nat.or_comm, Nat.mul_comm, show (256 : Nat) = 2 ^ 8 from rfl, ← this, Nat.add_comm]
theorem fix_at (s : ByteArray) (k : Nat) (h : k < s.size) : s.data.toList.take (k + 1) = s.data.toList.take k ++ [s[k]] := by
  rw [List.take_succ_eq_append_getElem (by simpa using h)]; rfl
theorem pow256_8 (k : Nat) (h : k ≤ 8) : 256 ^ k ≤ 18446744073709551616 := Nat.le_trans (Nat.pow_le_pow_right (by decide) h) (by decide)

set_option maxRecDepth 100000 in
set_option maxHeartbeats 400000 in
theorem fix_getlittle (s : ByteArray) (w : World) (h1 : 1 ≤ s.size) (h8 : s.size ≤ 8) :
    Calls Tryd.prog 19 #[.string s] w fun e w' => e = .returned (.tuple #[.int .u64 (valL s.data.toList), .int .i64 0]) ∧ w = w' := by
  have c1 := Lib.hid (readable_ok s.size w h1 h8)
  go_enter Tryd.func19, Tryd.ntmps19
  go_wp2_with fail
  refine c1.out.mono ?_
  rintro e w' ⟨rfl, rfl⟩
  go_wp2_with fail
  go_loop [5, 15] (fun acc i => ∃ k n : Nat, k ≤ s.size ∧ i = .int .i64 k ∧ acc = .int .u64 n ∧ Hid (n = valL (s.data.toList.take k))) (fun _ i => s.size - (intOf i).toNat)
  case atStart => exact ⟨0, 0, by omega, rfl, rfl, by simp [valL, Hid]⟩
  case round =>
    obtain ⟨k, n, hk, rfl, rfl, hv⟩ := hrel
    by_cases c : k < s.size
    · have hb : s[k].toNat ≤ 255 := by have := s[k].toNat_lt; omega
      have hln : (s.data.toList.take k).length = k := by rw [List.length_take]; simp; omega
      have hn : n < 256 ^ k := by have := valL_lt (s.data.toList.take k); rw [hln] at this; rw [hv.out]; exact this
      have hor := Lib.hid (fix_or n s[k].toNat k (by omega) hn (by omega))
      have hnx : Hid (n + 256 ^ k * s[k].toNat = valL (s.data.toList.take (k + 1))) := by unfold Hid; rw [fix_at s k c, valL_snoc, hv.out, hln]
      clear hn hln
      go_wp2_with fail
      go_round
      case rel => exact ⟨k + 1, _, by omega, by go_num, by rw [hor.out], hnx⟩
      case measure => simp [intOf]; omega
    · obtain rfl : k = s.size := by omega
      go_wp2_with fail
      go_returns
      exact ⟨by rw [hv.out, List.take_of_length_le (by simp)]; rfl, rfl⟩
set_option maxRecDepth 100000 in
theorem fix_getlittle_none (s : ByteArray) (w : World) (h : s.size = 0) :
    Calls Tryd.prog 19 #[.string s] w fun e w' => e = .returned (.tuple #[.int .u64 0, .int .i64 1]) ∧ w = w' := by
  have c1 := Lib.hid (readable_none w)
  go_enter Tryd.func19, Tryd.ntmps19
  go_wp2_with fail
  refine c1.out.mono ?_
  rintro e w' ⟨rfl, rfl⟩
  go_wp2_with fail
  go_returns
  exact ⟨rfl, rfl⟩
set_option maxRecDepth 100000 in
theorem fix_getlittle_over (s : ByteArray) (w : World) (h : 8 < s.size) :
    Calls Tryd.prog 19 #[.string s] w fun e w' => e = .returned (.tuple #[.int .u64 0, .int .i64 5]) ∧ w = w' := by
  have c1 := Lib.hid (readable_over s.size w h)
  go_enter Tryd.func19, Tryd.ntmps19
  go_wp2_with fail
  refine c1.out.mono ?_
  rintro e w' ⟨rfl, rfl⟩
  go_wp2_with fail
  go_returns
  exact ⟨rfl, rfl⟩
end Go.Proofs.YtknokfofjhlkeaaDoor
