/- Short names. -/
import Derived.Lib.Hide
namespace Go.Proofs.YtamfcjmhnndbdaaGreatDoor
abbrev An:=ByteArray
theorem As{c:Prop}{d:Decidable c}(h:¬c){α}{a b:α}:@ite α c d a b=b:=if_neg h
abbrev Ax:=UInt8
theorem AC{c:Prop}{d:Decidable c}(h:c){α}{a b:α}:@ite α c d a b=a:=if_pos h
end Go.Proofs.YtamfcjmhnndbdaaGreatDoor
