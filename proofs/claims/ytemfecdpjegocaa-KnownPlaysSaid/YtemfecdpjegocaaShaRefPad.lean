/- The document's padding. -/
import Derived.Test.YtemfecdpjegocaaShaPad
import Derived.Lib.Strings
namespace Go.Proofs.Ytemfecdpjegocaa
open Go.RowKit Go.Shelf
set_option linter.unusedVariables false
set_option linter.unusedSimpArgs false

def szOf : Value → Nat
  | .string b => b.size
  | _ => 0
def lowB (n : Nat) : Nat → List UInt8
  | 0 => []
  | j + 1 => UInt8.ofNat (n / 256 ^ j % 256) :: lowB n j
theorem lowB_all (n : Nat) : lowB (n * 8) 8 = tailB n 8 := rfl
theorem headB_length (j : Nat) : (headB j).length = 1 + j := by unfold headB; simp; omega
theorem headB_step (j : Nat) : (⟨(headB j).toArray⟩ : ByteArray) ++ ⟨#[0]⟩ = ⟨(headB (j + 1)).toArray⟩ := by
  apply ByteArray.ext
  unfold headB
  simp [List.replicate_succ']
theorem lowB_length (n : Nat) : ∀ j, (lowB n j).length = j
  | 0 => rfl
  | j + 1 => by rw [lowB, List.length_cons, lowB_length n j]

set_option maxRecDepth 100000 in
set_option maxHeartbeats 1000000 in
theorem ref_pad (n : Nat) (w : World) (hn : n ≤ 1099511627776) :
    Calls Try.prog 66 #[.int .i64 n] w fun e w' => e = .returned (.string ⟨(padN n).toArray⟩) ∧ Below w.heap.size w w' := by
  have hp := Lib.hid (padN_eq n)
  generalize padN n = Pn at *
  obtain ⟨k, hk⟩ : ∃ k, k = (64 - (n + 9) % 64) % 64 := ⟨_, rfl⟩
  rw [← hk] at hp
  have hk64 : k < 64 := by omega
  have HK := Lib.hid hk
  clear hk
  obtain ⟨B, hB⟩ : ∃ B, w.heap.size = B := ⟨_, rfl⟩
  have HB := Lib.hid hB
  rw [hB]
  clear hB
  go_enter Try.func66, Try.ntmps66
  go_wp2_with fail
  go_loopw [3] (fun v wr => ∃ (j : Nat) (S : ByteArray), v = .string S ∧ Hid (j ≤ k) ∧ Hid (S.size = 1 + j) ∧ Hid (S = ⟨(headB j).toArray⟩) ∧ Below B w wr) (fun v _ => 100 - szOf v)
  case atStart => exact ⟨0, _, rfl, Nat.zero_le _, rfl, rfl, HB.out ▸ Below.refl _ _⟩
  case round =>
    obtain ⟨j, S, rfl, hj, hS, hSe, hbl⟩ := hrel
    have hS72 : S.size ≤ 72 := by have h1 := hj.out; have h2 := hS.out; omega
    have hKo := HK.out
    have hjo := hj.out
    have hSo := hS.out
    have HH := Lib.hid (And.intro hKo (And.intro hjo hSo))
    by_cases c : j < k
    · have ht : (((n : Int) + (S.size : Int) + 8) % 64 != 0) = true := by rw [hSo]; simp only [bne_iff_ne, ne_eq]; omega
      clear hKo hjo hSo
      go_wp2_with fail
      have hjo := hj.out
      have hSo := hS.out
      refine ⟨⟨j + 1, _, rfl, by show j + 1 ≤ k; omega, ?_, ?_, hbl⟩, ?_⟩
      · show (S ++ ⟨#[0]⟩).size = _
        rw [ByteArray.size_append, hSo]; rfl
      · show S ++ ⟨#[0]⟩ = _
        rw [hSe.out]; exact headB_step j
      · show 100 - (S ++ ⟨#[0]⟩).size < 100 - S.size
        rw [ByteArray.size_append]
        have : (⟨#[0]⟩ : ByteArray).size = 1 := rfl
        omega
    · obtain rfl : j = k := by omega
      have ht : (((n : Int) + (S.size : Int) + 8) % 64 != 0) = false := by rw [hSo]; simp only [bne_eq_false_iff_eq]; omega
      clear hKo hjo hSo
      go_wp2_with fail
      go_loopw [4, 5, 6] (fun m t i wr => ∃ (j M : Nat) (T : ByteArray), m = .int .u64 M ∧ t = .string T ∧ i = .int .i64 j ∧ j ≤ 8 ∧ Hid (M = n * 8 / 256 ^ j) ∧ M < 18446744073709551616 ∧ Hid (T.size = j) ∧ Hid (T = ⟨(lowB (n * 8) j).toArray⟩) ∧ Below B w wr) (fun _ _ i _ => 8 - (intOf i).toNat)
      case atStart => exact ⟨0, n * 8, _, by go_num, rfl, rfl, by omega, by unfold Hid; simp, by omega, rfl, rfl, hbl⟩
      case round =>
        clear hbl
        obtain ⟨j, M, T, rfl, rfl, rfl, hj8, hM, hM64, hT, hTe, hbl⟩ := hrel
        have hT72 : T.size ≤ 8 := by have := hT.out; omega
        by_cases c8 : j < 8
        · have hst := fun W b => string1 bts W b ((M : Int) % 256)
          go_wp2_with fail
          have hBr : B ≤ wr.heap.size := by have h1 := hbl.size; have h2 := HB.out; omega
          refine ⟨⟨j + 1, M / 256, _, by go_num, rfl, by go_num, by omega, ?_, by omega, ?_, ?_, hbl.alloc hBr _⟩, by simp [intOf]; omega⟩
          · unfold Hid
            rw [hM.out, Nat.div_div_eq_div_mul, ← Nat.pow_succ]
          · unfold Hid
            have h1 := hT.out
            have h2 : ∀ x : UInt8, (⟨#[x]⟩ : ByteArray).size = 1 := fun _ => rfl
            rw [ByteArray.size_append, h2, h1]; omega
          · unfold Hid
            rw [hTe.out, lowB, ← hM.out]
            apply ByteArray.ext
            simp
        · obtain rfl : j = 8 := by omega
          go_wp2_with fail
          go_returns
          refine ⟨congrArg (fun b : ByteArray => Ending.returned (Value.string b)) ?_, hbl⟩
          rw [hSe.out, hTe.out, lowB_all, hp.out]
          apply ByteArray.ext
          simp
end Go.Proofs.Ytemfecdpjegocaa
