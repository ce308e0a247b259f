/- Part 12 of the proof. -/
import Derived.Test.YtamfcjmhnndbdaaGreatDoorZb11
open Go.Proofs.Tryz renaming prog→iN
open Bool renaming true→u,false→M
open Decidable renaming decide→As
namespace Go.Proofs.YtamfcjmhnndbdaaGreatDoor.wholeBytes.r
open Go.Proofs.YtamfcjmhnndbdaaGreatDoor
set_option linter.unusedVariables false
set_option linter.defProp false
set_option linter.unusedSimpArgs false
set_option maxRecDepth 100000
set_option maxHeartbeats 8000000
section
open Go.ChangeShapes Go.WideShapes Go.ChangeAt Go.RowKit
open Go.ChangeMaps (open_string shut_string)
def aT{a b:Bool}(h:a=u)(k:b=u):(a&&b)=u:=by rw[h,k];rfl
def i1:(Rows.wholeBytesRow.inPlace==Tryz.prog.inPlace 3)=u:=mZ
def i2:(Rows.wholeBytesRow.unfollowed==Tryz.prog.unfollowed 3)=u:=mZ
def i3:(Rows.wholeBytesRow.recurses==Tryz.prog.recurses 3)=u:=mZ
def i4:(Rows.wholeBytesRow.named==Tryz.prog.varsNamed 3)=u:=mZ
def closed:joinedFacts iN 3 Tryz.f3 Rows.wholeBytesSpec Rows.wholeBytesRow=u:=by
 unfold joinedFacts;exact aT (aT (aT (aT (aT (aT (aT (aT (aT (aT (aT (aT (aT (aT (aT (aT (aT (aT (aT (aT (aT (aT (aT mZ i1) i2) i3) i4) mZ) mZ) mZ) mZ) mZ) mZ) mZ) mZ) mZ) mZ) mZ) mZ) mZ) mZ) mZ) mZ) mZ) mZ) mZ
def wr:Tryz.f3.isWrapper iN Rows.wholeBytesRow.wrapper Rows.wholeBytesRow.mainSum:=by unfold Func.isWrapper;first|(rw[Ax xh];kernel_rfl)|(rw[At xh];exact⟨rfl,rfl⟩)
def l1:M=Tryz.prog.looks []:=mZ
def g1:M=Rows.wholeBytesRow.goesBy iN:=mZ
def t1:Rows.wholeBytesRow.wfByText (OpenSpec.ofChange Rows.wholeBytesSpec)=u:=mZ
def row:Rows.WholeBytesSaid:=
 OpenClaim.holds_of_wide 3 Tryz.f3 rfl rfl rfl rfl rfl rfl rfl ⟨rfl,rfl,rfl,rfl,rfl⟩ rfl rfl rfl rfl rfl mZ Tryz.func3 closed
  (b2 mZ) wr
  (λos A an enc _=>lifted os A an enc)
end
end Go.Proofs.YtamfcjmhnndbdaaGreatDoor.wholeBytes.r

