/- twice.Sum, Check, Fits; alive of hatchwaylaw06. -/
import Derived.Test.YtemfecdpjegocaaShaSum
import Derived.WalkLawsBesides
namespace Go.Proofs.Ytemfecdpjegocaa
open Go.RowKit Go.Shelf
set_option linter.unusedVariables false
set_option linter.unusedSimpArgs false

def twG (f : List UInt8 → List UInt8) (l : List UInt8) : Nat → List UInt8
  | 0 => l
  | n + 1 => f (twG f l n)
def twiceN (l : List UInt8) : List UInt8 := twG sumN l 2
theorem S8.out_length (r : S8) : r.out.length = 32 := rfl
theorem sumN_length (l : List UInt8) : (sumN l).length = 32 := S8.out_length _
theorem twiceN_length (l : List UInt8) : (twiceN l).length = 32 := sumN_length _

/-- What a function of texts is. -/
def SumBy (f : List UInt8 → List UInt8) : Prop := (∀ l, (f l).length = 32) ∧ ∀ (s : ByteArray) (w : World), s.size ≤ 100000 →
    Calls Try.prog 64 #[.string s] w fun e w' => e = .returned (.string ⟨(f s.data.toList).toArray⟩) ∧ Below w.heap.size w w'
theorem sum_by : SumBy sumN := ⟨sumN_length, fun s w h => sha_sum s w h⟩

set_option maxRecDepth 100000 in
theorem twice_sumG (f : List UInt8 → List UInt8) (hf : SumBy f) (s : ByteArray) (w : World) (hs : s.size ≤ 100000) :
    Calls Try.prog 46 #[.string s] w fun e w' => e = .returned (.string ⟨(twG f s.data.toList 2).toArray⟩) ∧ Below w.heap.size w w' := by
  obtain ⟨l, hl⟩ : ∃ l, l = s.data.toList := ⟨_, rfl⟩
  rw [← hl]
  have HL := Lib.hid hl
  have HF := Lib.hid hf
  clear hl hf
  obtain ⟨B, hB⟩ : ∃ B, w.heap.size = B := ⟨_, rfl⟩
  have HB := Lib.hid hB
  rw [hB]
  clear hB
  go_enter Try.func46, Try.ntmps46
  go_wp2_with fail
  go_loopw [0, 3] (fun v i wr => ∃ (k : Nat) (S : ByteArray), v = .string S ∧ i = .int .i64 k ∧ k ≤ 2 ∧ Hid (S.data.toList = twG f l k) ∧ S.size ≤ 100000 ∧ Below B w wr) (fun _ i _ => 2 - (intOf i).toNat)
  case atStart => exact ⟨0, s, rfl, rfl, by omega, HL.out.symm, hs, HB.out ▸ Below.refl _ _⟩
  case round =>
    obtain ⟨k, S, rfl, rfl, hk, hS, hs1, hb⟩ := hrel
    by_cases c : k < 2
    · go_wp2_with fail
      refine (HF.out.2 S wr hs1).mono ?_
      rintro e w1 ⟨rfl, hb1⟩
      have hl1 := HF.out.1 S.data.toList
      have e1 : f S.data.toList = twG f l (k + 1) := by rw [hS.out]; rfl
      rw [e1] at hl1 ⊢
      generalize hT : (⟨(twG f l (k + 1)).toArray⟩ : ByteArray) = T
      have hsz : T.size ≤ 100000 := by rw [← hT, size_mk, hl1]; decide
      have HT : Hid (T.data.toList = twG f l (k + 1)) := by rw [← hT]; rfl
      clear hT hl1 e1
      have hb2 := hb.trans (hb1.mono (by have h1 := hb.size; have h2 := HB.out; omega))
      go_wp2_with fail
      exact ⟨⟨k + 1, T, rfl, by go_num, by omega, HT, hsz, hb2⟩, by simp [intOf]; omega⟩
    · obtain rfl : k = 2 := by omega
      go_wp2_with fail
      go_returns
      refine ⟨congrArg (fun b : ByteArray => Ending.returned (Value.string b)) ?_, hb⟩
      apply ByteArray.ext
      apply Array.ext'
      exact hS.out
theorem twice_sum (s : ByteArray) (w : World) (hs : s.size ≤ 100000) :
    Calls Try.prog 46 #[.string s] w fun e w' => e = .returned (.string ⟨(twiceN s.data.toList).toArray⟩) ∧ Below w.heap.size w w' :=
  twice_sumG sumN sum_by s w hs

def checkN (l : List UInt8) : List UInt8 := (twiceN l).take 4
theorem checkN_length (l : List UInt8) : (checkN l).length = 4 := by rw [checkN, List.length_take, twiceN_length]; rfl

theorem check_empty : checkN [] = [93, 246, 224, 226] := by decide +kernel

end Go.Proofs.Ytemfecdpjegocaa
