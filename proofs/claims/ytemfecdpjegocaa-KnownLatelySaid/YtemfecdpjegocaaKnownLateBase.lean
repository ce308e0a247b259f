/- Plain: what is looked at of the sums of the bodies of KnownLately. -/
import Derived.Test.YtemfecdpjegocaaTwice
namespace Go.Proofs.Ytemfecdpjegocaa

/-- The first four bytes as a number. -/
def four (l : List UInt8) : Nat := match l with | a :: b :: c :: d :: _ => a.toNat * 16777216 + b.toNat * 65536 + c.toNat * 256 + d.toNat | _ => 0
def lateT (i : Nat) : List UInt8 := twiceN [UInt8.ofNat i, 7]
end Go.Proofs.Ytemfecdpjegocaa
