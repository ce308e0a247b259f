/- WholeMixed: for every input without a ring (no value among the arguments leads back to itself) the call returns true, and each argument reads behind it as it read before. The listed package-level variables are as the program's text lays them (the card ties that). -/
import Derived.Test.YtamfcjmhnndbdaaGreatDoorZm00
import Derived.Test.YtamfcjmhnndbdaaGreatDoorZm20
import Derived.Test.YtamfcjmhnndbdaaGreatDoorZm22
import Derived.Test.YtamfcjmhnndbdaaGreatDoorRows
import Derived.ProofKit
import Derived.OpenShut
import Derived.ShutString
import Derived.ChangeOld
import Derived.LaidMore
import Derived.Stop.Joined
import Derived.SevenTiedAt
import Derived.Test.YtamfcjmhnndbdaaGreatDoorCards
import Derived.Test.YtamfcjmhnndbdaaGreatDoorTie
import Derived.Lay
open Go.Value renaming agg→nD,int→nk,slice→ny
open Go.IntKind renaming i64→nI,u32→nK
open Go.Proofs.Tryz renaming prog→jI,underlying3→mg,underlying9→mH
open Go renaming Value→jP,TypeId→ko
open List renaming all_eq_true→lM
open Option.some renaming inj→l8
open Option renaming none→V,some→U
namespace Go.Proofs.YtamfcjmhnndbdaaGreatDoor.wholeMixed
open Go.Proofs.YtamfcjmhnndbdaaGreatDoor
set_option linter.unusedVariables false
set_option linter.unusedSimpArgs false
set_option maxRecDepth 100000
set_option maxHeartbeats 8000000
section
open Go.ChangeShapes Go.WideShapes Go.ChangeAt Go.RowKit
open Go.ChangeMaps (open_string shut_string)
theorem own:ownKnob Tryz.prog.godebug=V:=nN
theorem laidOut:laidOutB jI=true:=nN
theorem lifted(os:Os)(E:os.Started)(H:Type)(enc:ko×jP->H):
  ReturnsInHanded {} Tryz.checked os 7 .any (λw args=>(Rows.wholeMixedSpec.pre enc jI Tryz.f7 [] false w args/\laidMetH jI Rows.wholeMixedRow.laid w)/\sizedMet enc jI Tryz.f7 (OpenSpec.ofChange Rows.wholeMixedSpec) false w args)
   (Rows.wholeMixedSpec.post enc jI Tryz.f7 false true false false):=by
 refine returnsInHanded_of_change_and (C:=Tryz.checked) (X:=λw _=>laidMetH jI Rows.wholeMixedRow.laid w) (λ_ _ _ hh h=>h.of_heap hh) own E nN Tryz.func7
  (ChangeSpec.witness_shaped (enc:=enc) (C:=Tryz.checked) (os:=os) (X:=λw _=>laidMetH jI Rows.wholeMixedRow.laid w) false (World.laidAll jI os Rows.wholeMixedRow.laid) #[nD #[nk nI 0,nk nK 0,nk nI 0,nk nI 0,nk nI 0,nk nI 0],ny V 0 0,ny V 0 0] 8 (World.laidAll_os _ _ _) (World.shaped_of_ZipB nN nN) nN nN nN (by rw[MakeChecks.laidMetH_plain _ _ _ nN];exact laidMet_laidAll _ nN nN)) ?_
 intro W base args ds aL Y A aa _ _ hL _;have hval:∀(j:Nat) t v,Tryz.f7.params[j]? =U t->args[j]? =U v->Value.okWide jI W .any base t v:=A;have ae:=aa;obtain⟨p,q,O,ax,rfl,aC,aD⟩:=aa;have af:DataW.TrodAll enc jI W 0 (λ_=>true) true Tryz.f7.params.toList args.toList ds p:=O;rw[Tryz.params7]at af hval;obtain⟨v0,aF,aM,aG,p0,aN,av,rfl,rfl,h0,r0⟩:=trodAll_cons af;obtain⟨v1,aH,aO,aI,ay,aP,rfl,rfl,rfl,h1,r1⟩:=trodAll_cons r0;obtain⟨v2,aJ,d2,aK,az,aQ,rfl,rfl,rfl,h2,r2⟩:=trodAll_cons r1;obtain⟨rfl,rfl,rfl⟩:=trodAll_nil r2;obtain rfl:args=#[v0,v1,v2]:=by cases args;simp_all
 obtain⟨rfl,rfl⟩:=trodVars_none ax;obtain⟨c0,rfl,_⟩:∃cs,v0=nD cs/\True:=by
  have:=hval 0 24 v0 rfl rfl;simp only[Value.okWide,Tryz.underlying24]at this;obtain⟨cs,h,_⟩:=this;exact⟨cs,h,trivial⟩
 have ag:=h0;have ah:∀x∈p0,x.block<W.heap.size:=by obtain⟨m,I⟩:=ag;exact DataW.trod_lt m _ _ _ I
 obtain⟨a0,rfl,w0⟩:=ZN Tryz.underlying24 nN nN mg Tryz.underlying22 mg mg mg mg h0;obtain⟨a1,vM,vN,rfl⟩:=okWide_slice Tryz.underlying25 (hval 1 25 v1 rfl rfl);have ai:=h1;have aj:∀x∈ay,x.block<W.heap.size:=by obtain⟨m,I⟩:=ai;exact DataW.trod_lt m _ _ _ I
 obtain⟨aA,w1⟩:∃Q,QV W a1 vM vN Q:=Vu Tryz.underlying25 Tryz.underlying67 nN nN Tryz.underlying50 mH mH h1;obtain⟨a2,J,N,rfl⟩:=okWide_slice Tryz.underlying71 (hval 2 71 v2 rfl rfl);have ak:=h2;have au:∀x∈az,x.block<W.heap.size:=by obtain⟨m,I⟩:=ak;exact DataW.trod_lt m _ _ _ I
 obtain⟨aB,w2⟩:∃Q,Tg W a2 J N Q:=ZQ h2;clear O A;refine(OC a0 a1 vM vN aA a2 J N aB W w0 w1 w2 (ZT hL)).mono λe aR ⟨he,pR⟩=> ?_
 subst he;exact⟨_,rfl,_,_,_,[],_,[],ae,trodAll_mk1 (shut_bool Tryz.underlying4 _),(trodAll_cons_mk (Below.trod laidOut nN (of_decide_eq_true nN) ag pR ah) (trodAll_cons_mk (Below.trod laidOut nN (of_decide_eq_true nN) ai pR aj) (trodAll_cons_mk (Below.trod laidOut nN (of_decide_eq_true nN) ak pR au) trodAll_mk0))),rfl,pR.frame _,λh=>by cases h⟩
theorem row:Rows.WholeMixedSaid:=
 OpenClaim.holds_of_wide 7 Tryz.f7 rfl rfl rfl rfl rfl rfl rfl ⟨rfl,rfl,rfl,rfl,rfl⟩ rfl rfl rfl rfl rfl nN Tryz.func7 nN
  (of_decide_eq_true nN) (by unfold Func.isWrapper;first|(rw[if_pos yZ];kernel_rfl)|(rw[if_neg yZ];exact⟨rfl,rfl⟩))
  (λos A H enc _=>lifted os A H enc)
theorem proved:Rows.WholeMixedCardSaid:=
 Claim7.holds_tied_plain_at .later [] _ _ _ _ row (λ_ h=>by cases h) nN (λ_ h=>by cases h) wholeMixed_row_tie rfl ⟨rfl,rfl⟩ nN rfl
  (λf fn E C=>by
   obtain rfl:f=7:=l8 ((show Tryz.prog.funcNamed "hatchway/hatchwaytop.WholeMixed" =U 7 by kernel_rfl).symm.trans E)|>.symm;obtain rfl:fn=Tryz.f7:=(l8 (Tryz.func7.symm.trans C)).symm;exact⟨nN,λj t ht=>by
    rw[Tryz.params7]at ht;have I:t∈[24,25,71]:=by simpa using Array.mem_of_getElem? ht
    have A:([24,25,71].all λu=> !Tryz.prog.wantsStandIn u)=true:=nN;exact(show Tryz.prog.wantsStandIn t=false by simpa using lM.1 A t I)⟩)
  nN
end
end Go.Proofs.YtamfcjmhnndbdaaGreatDoor.wholeMixed

