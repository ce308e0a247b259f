/- Plain law of the board's points. -/
import Derived.WalkKit
namespace Go.Proofs.YtemfecdpjegocaaDoor

def clampN (now : Int) : Nat := if now < 0 then 0 else if 2305843009213693952 < now then 2305843009213693952 else now.toNat
theorem clampN_le (now : Int) : clampN now ≤ 2305843009213693952 := by unfold clampN; split <;> (try split) <;> omega
theorem clampN_nat (n : Nat) (h : n ≤ 2305843009213693952) : clampN n = n := by unfold clampN; rw [if_neg (by omega), if_neg (by omega)]; rfl
def halfN (halve gone : Nat) : Nat := if gone / halve ≤ 62 then gone / halve else 62
def pAt (halve pts at_ now : Nat) : Nat := if now ≤ at_ then pts else pts / 2 ^ halfN halve (now - at_)
theorem pAt_le (halve pts at_ now : Nat) : pAt halve pts at_ now ≤ pts := by
  unfold pAt; split
  · exact Nat.le_refl _
  · exact Nat.div_le_self _ _
/-- The points of an error. -/
def ptsN (e : Nat) : Nat := if e = 3 ∨ e = 12 then 20 else if e = 4 ∨ e = 5 ∨ e = 6 then 50 else if e = 9 then 100 else if e = 10 then 10 else if e = 11 then 1 else 0
theorem ptsN_le (e : Nat) : ptsN e ≤ 100 := by unfold ptsN; (repeat' split) <;> omega
structure Acc where
  blk : Nat
  pts : Nat
  at_ : Nat
  til : Nat
def faultA (L H N : Nat) (a : Acc) (now more : Nat) : Acc :=
  if L ≤ pAt H a.pts a.at_ now + more then ⟨a.blk, 0, max a.at_ now, max a.til (max a.at_ now + N)⟩ else ⟨a.blk, pAt H a.pts a.at_ now + more, max a.at_ now, a.til⟩
theorem faultA_blk (L H N : Nat) (a : Acc) (now more : Nat) : (faultA L H N a now more).blk = a.blk := by unfold faultA; split <;> rfl
end Go.Proofs.YtemfecdpjegocaaDoor
