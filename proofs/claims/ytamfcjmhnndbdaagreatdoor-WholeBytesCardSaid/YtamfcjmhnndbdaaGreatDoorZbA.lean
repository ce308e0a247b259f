/- Short names. -/
import Derived.Lib.Hide
namespace Go.Proofs.YtamfcjmhnndbdaaGreatDoor
variable{c:Prop}
abbrev An:=ByteArray
theorem At{d:Decidable c}(h:¬c){α}{a b:α}:@ite α c d a b=b:=if_neg h
theorem Ax{d:Decidable c}(h:c){α}{a b:α}:@ite α c d a b=a:=if_pos h
abbrev AC:=UInt8
end Go.Proofs.YtamfcjmhnndbdaaGreatDoor
