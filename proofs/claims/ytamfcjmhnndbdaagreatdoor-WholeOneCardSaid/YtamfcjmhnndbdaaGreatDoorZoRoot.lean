/- WholeOne: for every input the call returns true, and each argument reads behind it as it read before. The listed package-level variables are as the program's text lays them (the card ties that). -/
import Derived.Test.YtamfcjmhnndbdaaGreatDoorZoA
import Derived.Test.YtamfcjmhnndbdaaGreatDoorZo00
import Derived.Test.YtamfcjmhnndbdaaGreatDoorZo13
import Derived.Test.YtamfcjmhnndbdaaGreatDoorZo14
import Derived.Test.YtamfcjmhnndbdaaGreatDoorRows
import Derived.ProofKit
import Derived.OpenShut
import Derived.ShutString
import Derived.ChangeOld
import Derived.LaidMore
import Derived.Stop.Joined
import Derived.SevenTiedAt
import Derived.Test.YtamfcjmhnndbdaaGreatDoorCards
import Derived.Test.YtamfcjmhnndbdaaGreatDoorTie
import Derived.Lay
open Go.Value renaming agg→nI,int→Y,slice→u,string→G
open Go.IntKind renaming i64→X,u32→nO
open Go.Proofs.Tryz renaming prog→jy,underlying9→lU,underlying3→mG
open Go renaming Value→jC,TypeId→jX
open List renaming all_eq_true→lN
open Option.some renaming inj→mg
open Option renaming none→V,some→U
open Bool renaming true→R,false→O
open Decidable renaming decide→At
namespace Go.Proofs.YtamfcjmhnndbdaaGreatDoor.wholeOne
open Go.Proofs.YtamfcjmhnndbdaaGreatDoor
set_option linter.unusedVariables false
set_option linter.defProp false
set_option linter.unusedSimpArgs false
set_option maxRecDepth 100000
set_option maxHeartbeats 8000000
section
open Go.ChangeShapes Go.WideShapes Go.ChangeAt Go.RowKit
open Go.ChangeMaps (open_string shut_string)
def own:ownKnob Tryz.prog.godebug=V:=nV
def laidOut:laidOutB jy=R:=nV
def lifted(os:Os)(E:os.Started)(ad:Type)(enc:jX×jC->ad):
  ReturnsInHanded {} Tryz.checked os 4 .any (λw args=>(Rows.wholeOneSpec.pre enc jy Tryz.f4 [] O w args/\laidMetH jy Rows.wholeOneRow.laid w)/\sizedMet enc jy Tryz.f4 (OpenSpec.ofChange Rows.wholeOneSpec) O w args)
   (Rows.wholeOneSpec.post enc jy Tryz.f4 O R O O):=by
 refine returnsInHanded_of_change_and (C:=Tryz.checked) (X:=λw _=>laidMetH jy Rows.wholeOneRow.laid w) (λ_ _ _ az h=>h.of_heap az) own E nV Tryz.func4
  (ChangeSpec.witness_shaped (enc:=enc) (C:=Tryz.checked) (os:=os) (X:=λw _=>laidMetH jy Rows.wholeOneRow.laid w) O (World.laidAll jy os Rows.wholeOneRow.laid) #[nI #[Y X 0,Y nO 0,Y X 0,Y X 0,Y X 0,Y X 0],u V 0 0,G ByteArray.empty] 8 (World.laidAll_os _ _ _) (World.shaped_of_ZipB nV nV) nV nV nV (by rw[MakeChecks.laidMetH_plain _ _ _ nV];exact laidMet_laidAll _ nV nV)) ?_
 intro W base args ds aO ae A af _ _ hL _;have hval:∀(j:Nat) t v,Tryz.f4.params[j]? =U t->args[j]? =U v->Value.okWide jy W .any base t v:=A;have ag:=af;obtain⟨p,q,N,aA,rfl,aG,aH⟩:=af;have ah:DataW.TrodAll enc jy W 0 (λ_=>R) R Tryz.f4.params.toList args.toList ds p:=N;rw[Tryz.params4]at ah hval;obtain⟨v0,aI,aP,aJ,p0,aQ,ay,rfl,rfl,h0,r0⟩:=trodAll_cons ah;obtain⟨v1,aK,aR,aL,aB,aS,rfl,rfl,rfl,ai,r1⟩:=trodAll_cons r0;obtain⟨v2,aM,aT,aN,aU,aV,rfl,rfl,rfl,aC,r2⟩:=trodAll_cons r1;obtain⟨rfl,rfl,rfl⟩:=trodAll_nil r2;obtain rfl:args=#[v0,v1,v2]:=by cases args;simp_all
 obtain⟨rfl,rfl⟩:=trodVars_none aA;obtain⟨c0,rfl,_⟩:∃cs,v0=nI cs/\True:=by
  have:=hval 0 24 v0 rfl rfl;simp only[Value.okWide,Tryz.underlying24]at this;obtain⟨cs,h,_⟩:=this;exact⟨cs,h,trivial⟩
 have aj:=h0;have ak:∀x∈p0,x.block<W.heap.size:=by obtain⟨m,aa⟩:=aj;exact DataW.trod_lt m _ _ _ aa
 obtain⟨a0,rfl,w0⟩:=a2j Tryz.underlying24 nV nV mG Tryz.underlying22 mG mG mG mG h0;obtain⟨au,I,J,rfl⟩:=okWide_slice Tryz.underlying25 (hval 1 25 v1 rfl rfl);have av:=ai;have ax:∀x∈aB,x.block<W.heap.size:=by obtain⟨m,aa⟩:=av;exact DataW.trod_lt m _ _ _ aa
 obtain⟨aD,w1⟩:∃aF,Ua W au I J aF:=Ya Tryz.underlying25 Tryz.underlying67 nV nV Tryz.underlying50 lU lU ai;obtain⟨a2,rfl,rfl,rfl,w2⟩:=open_string lU (hval 2 9 v2 rfl rfl) aC;clear N A;refine(Yf a0 au I J aD a2 W w0 w1 w2 (a14 hL)).mono λe aW ⟨he,ql⟩=> ?_
 subst he;exact⟨_,rfl,_,_,_,[],_,[],ag,trodAll_mk1 (shut_bool Tryz.underlying4 _),(trodAll_cons_mk (Below.trod laidOut nV (of_decide_eq_true nV) aj ql ak) (trodAll_cons_mk (Below.trod laidOut nV (of_decide_eq_true nV) av ql ax) (trodAll_cons_mk (shut_string lU w2) trodAll_mk0))),rfl,ql.frame _,λh=>by cases h⟩
def row:Rows.WholeOneSaid:=
 OpenClaim.holds_of_wide 4 Tryz.f4 rfl rfl rfl rfl rfl rfl rfl ⟨rfl,rfl,rfl,rfl,rfl⟩ rfl rfl rfl rfl rfl nV Tryz.func4 nV
  (of_decide_eq_true nV) (by unfold Func.isWrapper;first|(rw[AC xH];kernel_rfl)|(rw[As xH];exact⟨rfl,rfl⟩))
  (λos A ad enc _=>lifted os A ad enc)
theorem proved:Rows.WholeOneCardSaid:=
 Claim7.holds_tied_plain_at .later [] _ _ _ _ row (λ_ h=>by cases h) nV (λ_ h=>by cases h) wholeOne_row_tie rfl ⟨rfl,rfl⟩ nV rfl
  (λf fn E C=>by
   obtain rfl:f=4:=mg ((show Tryz.prog.funcNamed "hatchway/hatchwaytop.WholeOne" =U 4 by kernel_rfl).symm.trans E)|>.symm;obtain rfl:fn=Tryz.f4:=(mg (Tryz.func4.symm.trans C)).symm;exact⟨nV,λj t ht=>by
    rw[Tryz.params4]at ht;have I:t∈[24,25,9]:=by simpa using Array.mem_of_getElem? ht
    have A:([24,25,9].all λao=> !Tryz.prog.wantsStandIn ao)=R:=nV;exact(show Tryz.prog.wantsStandIn t=O by simpa using lN.1 A t I)⟩)
  nV
end
end Go.Proofs.YtamfcjmhnndbdaaGreatDoor.wholeOne

