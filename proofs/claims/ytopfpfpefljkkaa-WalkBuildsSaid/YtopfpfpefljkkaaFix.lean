/- The walks of package fixed: fits, digits, Little, GetLittle. -/
import Derived.Test.YtopfpfpefljkkaaRows
import Derived.Test.YtopfpfpefljkkaaFixPlain
import Derived.Test.YtopfpfpefljkkaaOwn
import Derived.WalkSpells
import Derived.OwnWalk
import Derived.Laws.BitsAllLaws
namespace Go.Proofs.Ytopfpfpefljkkaa
open Go.RowKit
set_option linter.unusedVariables false

theorem btf : ByteTypes Try.prog 68 5 9 := ⟨Try.underlying68, Try.underlying5, Try.underlying9, by kernel_rfl⟩

theorem pow256 (k : Nat) : (2 : Int) ^ (8 * k) = ((256 ^ k : Nat) : Int) := by
  rw [Int.pow_mul]; simp
/-- The row while it is filled: j digits, then noughts. -/
def dcells (k j n : Nat) : List Value := bcells (leN j n) ++ List.replicate (k - j) (.int .u8 0)
theorem dcells_step (k j n : Nat) (h : j < k) : (dcells k j n).set j (.int .u8 ((n / 256 ^ j % 256 : Nat) : Int)) = dcells k (j + 1) n := by
  unfold dcells
  rw [leN_succ, bcells_append, List.set_append_right _ _ (by simp), show k - j = (k - (j + 1)) + 1 by omega, List.replicate_succ]
  simp [bcells, u8n _ (Nat.mod_lt (n / 256 ^ j) (show 0 < 256 by decide))]
theorem leN_length' (k n : Nat) : (bcells (leN k n)).length = k := by simp
theorem dcells_get (k j n : Nat) (h : j < k) : (dcells k j n)[j]? = some (.int .u8 0) := by
  unfold dcells
  rw [List.getElem?_append_right (by simp), leN_length', List.getElem?_replicate, if_pos (by omega)]

set_option maxRecDepth 100000 in
set_option maxHeartbeats 400000 in
theorem fix_digits (n k : Nat) (w : World) (hn : n < 18446744073709551616) (h8 : k ≤ 8) :
    Calls Try.prog 54 #[.int .u64 n, .int .i64 k] w fun e w' => e = .returned (.slice (some ⟨w.heap.size, 0, none⟩) k k) ∧
      OwnB w' w.heap.size 5 (.slice (some ⟨w.heap.size, 0, none⟩) k k) (leN k n) ∧ Below w.heap.size w w' := by
  obtain ⟨i0, hi, hz0, hz1, hz2⟩ := info_parts btf.hi
  obtain ⟨B, hB⟩ : ∃ B, w.heap.size = B := ⟨_, rfl⟩
  have hB0 : B ≤ w.heap.size := by omega
  rw [hB]
  have HB := Lib.hid hB
  go_enter Try.func54, Try.ntmps54
  go_wp2_with (refine wpList_make_full _ rfl (.tmp 7) (.tmp 7) 68 rfl B 5 i0 (.int .u8 0) 1 Try.underlying68 hi hz0 hz1 .i64 .i64 k k k rfl rfl rfl rfl (by rw [hz2]; omega) (by unfold maxLen; omega) hB0 ?_; intro w1 hown hgrow)
  rw [hB] at hown
  have hc0 : Hid ((madeCells (Value.int .u8 0).cells (k * 1)).toList = dcells k 0 n) := by
    unfold Hid dcells
    rw [show (Value.int .u8 0).cells = #[.int .u8 0] from rfl, toList_madeCells_one]; simp [leN, bcells]
  rw [hc0.out] at hown
  have hbl0 : Below B w w1 := (Below.refl _ _).grown hgrow hB0 (fun _ h => by cases h)
  go_loopw [10] (fun i wr => ∃ j : Nat, j ≤ k ∧ i = .int .i64 j ∧ wr.ownsRow B 5 1 (.slice (some ⟨B, 0, none⟩) k k) k (dcells k j n) ∧ Below B w wr) (fun i _ => k - (intOf i).toNat)
  case atStart => exact ⟨0, by omega, rfl, hown, hbl0⟩
  case round =>
    obtain ⟨j, hj, rfl, ho, hbl⟩ := hrel
    by_cases c : j < k
    · have hcell : wr.cell? ⟨B, j, none⟩ = some (.int .u8 0) := by rw [ho.cellAt j (by omega), dcells_get k j n c]
      have hfr := ho.frozenAt j
      have hv : Hid (((n : Int) / 2 ^ (8 * j) % 256) = ((n / 256 ^ j % 256 : Nat) : Int)) := by unfold Hid; rw [pow256]; rfl
      have hst := ho.stored j (.int .u8 ((n / 256 ^ j % 256 : Nat) : Int))
      rw [dcells_step k j n c] at hst
      go_wp2_with fail
      go_roundw
      case rel => rw [hv.out]; exact ⟨j + 1, by omega, by go_num, hst.1, hbl.setCell (p := ⟨B, j, none⟩) (Nat.le_refl _) _⟩
      case measure => simp [intOf]; omega
    · obtain rfl : j = k := by omega
      go_wp2_with fail
      go_returns
      refine ⟨rfl, ?_, hbl⟩
      have e : dcells j j n = bcells (leN j n) := by unfold dcells; simp
      unfold OwnB
      rw [leN_length, ← e]; exact ho

theorem readable_none (w : World) : Calls Try.prog 64 #[.int .i64 0] w fun e w' => e = .returned (.int .i64 1) ∧ w = w' := by
  go_enter Try.func64, Try.ntmps64
  go_wp2_with fail
  go_returns
  exact ⟨rfl, rfl⟩
theorem readable_over (k : Nat) (w : World) (h : 8 < k) : Calls Try.prog 64 #[.int .i64 k] w fun e w' => e = .returned (.int .i64 5) ∧ w = w' := by
  have h0 : ((k : Int) == 0) = false := by rw [beq_eq_false_iff_ne]; omega
  go_enter Try.func64, Try.ntmps64
  go_wp2_with fail
  go_returns
  exact ⟨rfl, rfl⟩
theorem readable_ok (k : Nat) (w : World) (h1 : 1 ≤ k) (h : k ≤ 8) : Calls Try.prog 64 #[.int .i64 k] w fun e w' => e = .returned (.int .i64 0) ∧ w = w' := by
  have h0 : ((k : Int) == 0) = false := by rw [beq_eq_false_iff_ne]; omega
  go_enter Try.func64, Try.ntmps64
  go_wp2_with fail
  go_returns
  exact ⟨rfl, rfl⟩

theorem fix_or (n b j : Nat) (hj : j ≤ 7) (hn : n < 256 ^ j) (hb : b < 256) :
    bits BinOp.or IntKind.u64 (n : Int) (IntKind.u64.wrap ((b : Int) * 2 ^ (8 * j))) = ((n + 256 ^ j * b : Nat) : Int) := by
  have hp : 256 ^ j ≤ 72057594037927936 := Nat.le_trans (Nat.pow_le_pow_right (by decide) hj) (by decide)
  have h2 := Nat.mul_le_mul (show b ≤ 255 by omega) hp
  rw [pow256, ← Int.natCast_mul, IntWalk.u64_in _ ⟨by omega, by omega⟩, u64_or_nat n (b * 256 ^ j) (by omega) (by omega)]
  congr 1
  have hn' : n < 2 ^ (8 * j) := by rw [Nat.pow_mul]; exact hn
  have := Nat.two_pow_add_eq_or_of_lt hn' b
  rw [Nat.pow_mul] at this
  rw [Nat.or_comm, Nat.mul_comm, show (256 : Nat) = 2 ^ 8 from rfl, ← this, Nat.add_comm]
theorem fix_at (s : ByteArray) (k : Nat) (h : k < s.size) : s.data.toList.take (k + 1) = s.data.toList.take k ++ [s[k]] := by
  rw [List.take_succ_eq_append_getElem (by simpa using h)]; rfl
theorem pow256_8 (k : Nat) (h : k ≤ 8) : 256 ^ k ≤ 18446744073709551616 := Nat.le_trans (Nat.pow_le_pow_right (by decide) h) (by decide)

end Go.Proofs.Ytopfpfpefljkkaa
