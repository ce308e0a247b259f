/- fixed.Big, Least, GetBig, GetLeast. -/
import Derived.Test.YtopfpfpefljkkaaReverse
import Derived.Test.YtopfpfpefljkkaaFixRef
import Derived.Test.YtopfpfpefljkkaaShelf
import Derived.Lib.Strings
namespace Go.Proofs.Ytopfpfpefljkkaa
open Go.RowKit
set_option linter.unusedVariables false

theorem Below.row {B g : Nat} {w0 w w' : World} (hb : Below B w0 w) (hg : w.grownBy w' (some g)) (h : B ≤ g) (hw : B ≤ w.heap.size) : Below B w0 w' :=
  hb.grown hg hw fun k hk => by simp at hk; omega

set_option maxRecDepth 100000 in
theorem fix_turned (B g : Nat) (l : List UInt8) (k : Nat) (w : World) (hk : k ≤ 140737488355328) (hl : l.length = k) (ho : OwnB w B 5 (.slice (some ⟨g, 0, none⟩) k k) l) :
    Calls Try.prog 53 #[.slice (some ⟨g, 0, none⟩) k k] w fun e w' => e = .returned (.string ⟨l.reverse.toArray⟩) ∧ w.grownBy w' (some g) := by
  have c1 := Lib.hid (slices_reverse B g l k w hk hl ho)
  go_enter Try.func53, Try.ntmps53
  go_wp2_with fail
  refine c1.out.mono ?_
  rintro e w' ⟨rfl, ho', hg⟩
  have hst := ho'.string btf
  go_wp2_with fail
  go_returns
  exact ⟨rfl, hg⟩

theorem lsN_bits : ∀ (k n : Nat), n < 256 ^ k → n < 18446744073709551616 → (lsN n).length = (Lib.bitLen n + 7) / 8
  | 0, n, hk, h => by simp at hk; subst hk; rw [lsN_zero]; rfl
  | k + 1, n, hk, h => by
    by_cases c : n = 0
    · subst c; rw [lsN_zero]; rfl
    · by_cases c2 : n < 256
      · rw [lsN_pos n (by omega), show n / 256 = 0 by omega, lsN_zero]
        have h1 := Lib.bitLen_le n 8 (by omega) c2
        have h2 : 1 ≤ Lib.bitLen n := by rw [Lib.bitLen_half n (by omega) (by omega)]; omega
        simp; omega
      · rw [lsN_pos n (by omega), List.length_cons, lsN_bits k (n / 256) (by rw [Nat.pow_succ] at hk; omega) (by omega), Lib.bitLen_shift 8 n (by omega) h]
        have : n / 2 ^ 8 = n / 256 := rfl
        rw [this]; omega

set_option maxRecDepth 100000 in
theorem fix_least (n : Nat) (w : World) (hn : n < 18446744073709551616) :
    Calls Try.prog 40 #[.int .u64 n] w fun e w' => e = .returned (.string ⟨(lsN n).reverse.toArray⟩) ∧ Below w.heap.size w w' := by
  have hlen := lsN_bits 8 n (Nat.lt_of_lt_of_le hn (by decide)) hn
  have h8 := lsN_le 8 n (Nat.lt_of_lt_of_le hn (by decide))
  have hb : Lib.bitLen n ≤ 64 := Lib.bitLen_le n 64 (by omega) hn
  have c0 := fun w => Try.bits_Len64 n w (by omega) (by omega)
  rw [Int.toNat_natCast] at c0
  have c2 := fun w => fix_digits n ((Lib.bitLen n + 7) / 8) w hn (by omega)
  have c4 := fun B g w ho => fix_turned B g (leN ((Lib.bitLen n + 7) / 8) n) ((Lib.bitLen n + 7) / 8) w (by omega) (leN_length _ n) ho
  rw [lsN_eq n, hlen]
  clear hlen h8
  generalize Lib.bitLen n = m at *
  have C0 := Lib.hid c0
  have C2 := Lib.hid c2
  have C4 := Lib.hid c4
  clear c0 c2 c4
  have hq : Hid ((((m : Nat) : Int) + 7) / 8 = (((m + 7) / 8 : Nat) : Int)) := by unfold Hid; omega
  go_enter Try.func40, Try.ntmps40
  go_wp2_with fail
  refine (C0.out _).mono ?_
  rintro e w' ⟨rfl, rfl⟩
  go_wp2_with fail
  rw [hq.out]
  refine (C2.out _).mono ?_
  rintro e w1 ⟨rfl, ho, hb⟩
  go_wp2_with fail
  refine (C4.out _ _ _ ho).mono ?_
  rintro e w2 ⟨rfl, hg⟩
  go_wp2_with fail
  go_returns
  exact ⟨rfl, Below.row hb hg (Nat.le_refl _) hb.size⟩

theorem fix_orb (n b : Nat) (hn : n < 72057594037927936) (hb : b < 256) :
    bits BinOp.or IntKind.u64 (IntKind.u64.wrap ((n : Int) * 256)) (b : Int) = ((256 * n + b : Nat) : Int) := by
  rw [show ((n : Int) * 256) = ((n * 256 : Nat) : Int) from by simp, IntWalk.u64_in _ ⟨by omega, by omega⟩, u64_or_nat (n * 256) b (by omega) (by omega)]
  congr 1
  have := Nat.two_pow_add_eq_or_of_lt (show b < 2 ^ 8 by omega) n
  rw [Nat.mul_comm n 256, show (256 : Nat) = 2 ^ 8 from rfl, ← this]

set_option maxRecDepth 100000 in
set_option maxHeartbeats 400000 in
theorem fix_getbig (s : ByteArray) (w : World) (h1 : 1 ≤ s.size) (h8 : s.size ≤ 8) :
    Calls Try.prog 61 #[.string s] w fun e w' => e = .returned (.tuple #[.int .u64 (valB s.data.toList), .int .i64 0]) ∧ w = w' := by
  have c1 := Lib.hid (readable_ok s.size w h1 h8)
  go_enter Try.func61, Try.ntmps61
  go_wp2_with fail
  refine c1.out.mono ?_
  rintro e w' ⟨rfl, rfl⟩
  go_wp2_with fail
  go_loop [5, 15] (fun acc i => ∃ k n : Nat, k ≤ s.size ∧ i = .int .i64 k ∧ acc = .int .u64 n ∧ Hid (n = valB (s.data.toList.take k))) (fun _ i => s.size - (intOf i).toNat)
  case atStart => exact ⟨0, 0, by omega, rfl, rfl, rfl⟩
  case round =>
    obtain ⟨k, n, hk, rfl, rfl, hv⟩ := hrel
    by_cases c : k < s.size
    · have hb : s[k].toNat ≤ 255 := by have := s[k].toNat_lt; omega
      have hn : n < 72057594037927936 := by
        have h1 := valB_lt (s.data.toList.take k)
        have h2 : (s.data.toList.take k).length ≤ 7 := by rw [List.length_take]; omega
        rw [hv.out]
        exact Nat.lt_of_lt_of_le h1 (Nat.le_trans (Nat.pow_le_pow_right (by decide) h2) (by decide))
      have hor := Lib.hid (fix_orb n s[k].toNat hn (by omega))
      have hnx : Hid (256 * n + s[k].toNat = valB (s.data.toList.take (k + 1))) := by unfold Hid; rw [fix_at s k c, valB_snoc, hv.out]
      clear hn
      go_wp2_with fail
      go_round
      case rel => exact ⟨k + 1, _, by omega, by go_num, by rw [hor.out], hnx⟩
      case measure => simp [intOf]; omega
    · obtain rfl : k = s.size := by omega
      go_wp2_with fail
      go_returns
      exact ⟨by rw [hv.out, List.take_of_length_le (by simp)]; rfl, rfl⟩
set_option maxRecDepth 100000 in
theorem fix_getbig_none (s : ByteArray) (w : World) (h : s.size = 0) :
    Calls Try.prog 61 #[.string s] w fun e w' => e = .returned (.tuple #[.int .u64 0, .int .i64 1]) ∧ w = w' := by
  have c1 := Lib.hid (readable_none w)
  go_enter Try.func61, Try.ntmps61
  go_wp2_with fail
  refine c1.out.mono ?_
  rintro e w' ⟨rfl, rfl⟩
  go_wp2_with fail
  go_returns
  exact ⟨rfl, rfl⟩
set_option maxRecDepth 100000 in
theorem fix_getbig_over (s : ByteArray) (w : World) (h : 8 < s.size) :
    Calls Try.prog 61 #[.string s] w fun e w' => e = .returned (.tuple #[.int .u64 0, .int .i64 5]) ∧ w = w' := by
  have c1 := Lib.hid (readable_over s.size w h)
  go_enter Try.func61, Try.ntmps61
  go_wp2_with fail
  refine c1.out.mono ?_
  rintro e w' ⟨rfl, rfl⟩
  go_wp2_with fail
  go_returns
  exact ⟨rfl, rfl⟩

/-- The number whose least bytes these are, the error. -/
def getLst (l : List UInt8) : Nat × Nat := match l with
  | [] => (0, 0)
  | b :: r => if 8 < r.length + 1 then (0, 5) else if b.toNat = 0 then (0, 3) else (valB (b :: r), 0)
def n2 (t : Nat × Nat) : Value := .tuple #[.int .u64 t.1, .int .i64 t.2]
theorem toList_cons' (s : ByteArray) (h : 0 < s.size) : s.data.toList = s[0] :: s.data.toList.drop 1 := by
  have h' : 0 < s.data.toList.length := by simpa using h
  have := List.drop_eq_getElem_cons h'
  rw [List.drop_zero] at this
  exact this
theorem isEmpty_no' (s : ByteArray) (h : 0 < s.size) : s.toList.isEmpty = false := by
  rw [Lib.toList_data, toList_cons' s h]; rfl

set_option maxRecDepth 100000 in
theorem fix_getleast (s : ByteArray) (w : World) (hs : s.size ≤ maxLen) :
    Calls Try.prog 49 #[.string s] w fun e w' => e = .returned (n2 (getLst s.data.toList)) ∧ w = w' := by
  unfold maxLen at hs
  by_cases h0 : s.size = 0
  · have e : s = ⟨#[]⟩ := bext (List.length_eq_zero_iff.1 (by simpa using h0))
    subst e
    go_enter Try.func49, Try.ntmps49
    go_wp2_with fail
    go_returns
    exact ⟨rfl, rfl⟩
  · have hp : 0 < s.size := by omega
    have hie := isEmpty_no' s hp
    have hl : (s.data.toList.drop 1).length + 1 = s.size := by rw [List.length_drop]; simp; omega
    clear h0
    have hb : s[0].toNat ≤ 255 := by have := s[0].toNat_lt; omega
    by_cases h8 : 8 < s.size
    · have e : Hid (getLst s.data.toList = (0, 5)) := by unfold Hid; rw [toList_cons' s hp, getLst, if_pos (by omega)]
      clear hl
      go_enter Try.func49, Try.ntmps49
      go_wp2_with fail
      go_returns
      exact ⟨by rw [e.out]; rfl, rfl⟩
    · by_cases hz : s[0].toNat = 0
      · have e : Hid (getLst s.data.toList = (0, 3)) := by unfold Hid; rw [toList_cons' s hp, getLst, if_neg (by omega), if_pos hz]
        have hz' : ((s[0].toNat : Int) == 0) = true := by rw [beq_iff_eq]; omega
        clear hl hz
        go_enter Try.func49, Try.ntmps49
        go_wp2_with fail
        go_returns
        exact ⟨by rw [e.out]; rfl, rfl⟩
      · have e : Hid (getLst s.data.toList = (valB s.data.toList, 0)) := by unfold Hid; rw [toList_cons' s hp, getLst, if_neg (by omega), if_neg hz]
        have hz' : ((s[0].toNat : Int) == 0) = false := by rw [beq_eq_false_iff_ne]; omega
        have c1 := Lib.hid (fix_getbig s w (by omega) (by omega))
        generalize valB s.data.toList = v at *
        clear hl hz
        go_enter Try.func49, Try.ntmps49
        go_wp2_with fail
        refine c1.out.mono ?_
        rintro e w' ⟨rfl, rfl⟩
        go_wp2_with fail
        go_returns
        exact ⟨by rw [e.out]; rfl, rfl⟩
end Go.Proofs.Ytopfpfpefljkkaa
