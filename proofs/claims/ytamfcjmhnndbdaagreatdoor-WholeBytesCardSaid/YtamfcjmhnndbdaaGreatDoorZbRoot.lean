/- WholeBytes: for every input the call returns true, and each argument reads behind it as it read before. The listed package-level variables are as the program's text lays them (the card ties that). -/
import Derived.Test.YtamfcjmhnndbdaaGreatDoorZb12
open Option renaming some→O
open Bool renaming true→u,false→M
open Decidable renaming decide→As
namespace Go.Proofs.YtamfcjmhnndbdaaGreatDoor.wholeBytes
open Go.Proofs.YtamfcjmhnndbdaaGreatDoor
set_option linter.unusedVariables false
set_option linter.unusedSimpArgs false
set_option maxRecDepth 100000
set_option maxHeartbeats 8000000
section
open Go.ChangeShapes Go.WideShapes Go.ChangeAt Go.RowKit
open Go.ChangeMaps (open_string shut_string)
theorem proved:Rows.WholeBytesCardSaid:=
 Claim7.holds_tied_plain_at .later [] _ _ _ _ r.row (λ_ h=>by cases h) r.t1 (λ_ h=>by cases h) wholeBytes_row_tie rfl ⟨rfl,rfl⟩ mZ rfl
  (λf fn E C=>by
   obtain rfl:f=3:=kU ((show Tryz.prog.funcNamed "hatchway/hatchwaytop.WholeBytes" =O 3 by kernel_rfl).symm.trans E)|>.symm;obtain rfl:fn=Tryz.f3:=(kU (Tryz.func3.symm.trans C)).symm;exact⟨r.l1,λj t ht=>by
    rw[Tryz.params3]at ht;have J:t∈[24,25,9]:=by simpa using Array.mem_of_getElem? ht
    have A:([24,25,9].all λar=> !Tryz.prog.wantsStandIn ar)=u:=mZ;exact(show Tryz.prog.wantsStandIn t=M by simpa using kz.1 A t J)⟩)
  r.g1
end
end Go.Proofs.YtamfcjmhnndbdaaGreatDoor.wholeBytes

