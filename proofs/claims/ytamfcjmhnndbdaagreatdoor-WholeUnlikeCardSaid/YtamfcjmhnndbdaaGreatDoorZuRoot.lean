/- WholeUnlike: for every input without a ring (no value among the arguments leads back to itself) the call returns true, and each argument reads behind it as it read before. The listed package-level variables are as the program's text lays them (the card ties that). -/
import Derived.Test.YtamfcjmhnndbdaaGreatDoorZu00
import Derived.Test.YtamfcjmhnndbdaaGreatDoorZu21
import Derived.Test.YtamfcjmhnndbdaaGreatDoorZu22
import Derived.Test.YtamfcjmhnndbdaaGreatDoorRows
import Derived.ProofKit
import Derived.OpenShut
import Derived.ShutString
import Derived.ChangeOld
import Derived.LaidMore
import Derived.Stop.Joined
import Derived.SevenTiedAt
import Derived.Test.YtamfcjmhnndbdaaGreatDoorCards
import Derived.Test.YtamfcjmhnndbdaaGreatDoorTie
import Derived.Lay
open Go.Value renaming agg→nC,bool→nA,int→ng,slice→nk,string→ny
open Go.IntKind renaming i64→nH,u32→nJ
open Go.Proofs.Tryz renaming prog→jI,underlying3→mh,underlying9→mR
open Go renaming Value→jP,TypeId→ko
open List renaming all_eq_true→lY
open Option.some renaming inj→ma
namespace Go.Proofs.YtamfcjmhnndbdaaGreatDoor.wholeUnlike
open Go.Proofs.YtamfcjmhnndbdaaGreatDoor
set_option linter.unusedVariables false
set_option linter.unusedSimpArgs false
set_option maxRecDepth 100000
set_option maxHeartbeats 8000000
section
open Go.ChangeShapes Go.WideShapes Go.ChangeAt Go.RowKit
open Go.ChangeMaps (open_string shut_string)
theorem own:ownKnob Tryz.prog.godebug=none:=nM
theorem laidOut:laidOutB jI=true:=nM
theorem lifted(os:Os)(I:os.Started)(H:Type)(enc:ko×jP->H):
  ReturnsInHanded {} Tryz.checked os 5 .any (λw args=>(Rows.wholeUnlikeSpec.pre enc jI Tryz.f5 [] false w args/\laidMetH jI Rows.wholeUnlikeRow.laid w)/\sizedMet enc jI Tryz.f5 (OpenSpec.ofChange Rows.wholeUnlikeSpec) false w args)
   (Rows.wholeUnlikeSpec.post enc jI Tryz.f5 false true false false):=by
 refine returnsInHanded_of_change_and (C:=Tryz.checked) (X:=λw _=>laidMetH jI Rows.wholeUnlikeRow.laid w) (λ_ _ _ ay h=>h.of_heap ay) own I nM Tryz.func5
  (ChangeSpec.witness_shaped (enc:=enc) (C:=Tryz.checked) (os:=os) (X:=λw _=>laidMetH jI Rows.wholeUnlikeRow.laid w) false (World.laidAll jI os Rows.wholeUnlikeRow.laid) #[nC #[ng nH 0,ng nJ 0,ng nH 0,ng nH 0,ng nH 0,ng nH 0],nk none 0 0,nC #[ny ByteArray.empty,ny ByteArray.empty,nA false,nk none 0 0],nC #[ny ByteArray.empty,ny ByteArray.empty,nA false,nk none 0 0]] 8 (World.laidAll_os _ _ _) (World.shaped_of_ZipB nM nM) nM nM nM (by rw[MakeChecks.laidMetH_plain _ _ _ nM];exact laidMet_laidAll _ nM nM)) ?_
 intro W base args ds aQ Q E U _ _ hL _;have hval:∀(j:Nat) t v,Tryz.f5.params[j]? =some t->args[j]? =some v->Value.okWide jI W .any base t v:=E;have V:=U;obtain⟨p,q,O,az,rfl,aG,aH⟩:=U;have Y:DataW.TrodAll enc jI W 0 (λ_=>true) true Tryz.f5.params.toList args.toList ds p:=O;rw[Tryz.params5]at Y hval;obtain⟨v0,aI,aR,aJ,p0,aS,ax,rfl,rfl,h0,r0⟩:=trodAll_cons Y;obtain⟨v1,aK,aT,aL,aA,aU,rfl,rfl,rfl,Z,r1⟩:=trodAll_cons r0;obtain⟨v2,aM,aV,aN,aB,aW,rfl,rfl,rfl,aa,r2⟩:=trodAll_cons r1;obtain⟨v3,aO,aX,aP,aC,aY,rfl,rfl,rfl,ae,r3⟩:=trodAll_cons r2;obtain⟨rfl,rfl,rfl⟩:=trodAll_nil r3;obtain rfl:args=#[v0,v1,v2,v3]:=by cases args;simp_all
 obtain⟨rfl,rfl⟩:=trodVars_none az;obtain⟨c0,rfl,_⟩:∃cs,v0=nC cs/\True:=by
  have:=hval 0 24 v0 rfl rfl;simp only[Value.okWide,Tryz.underlying24]at this;obtain⟨cs,h,_⟩:=this;exact⟨cs,h,trivial⟩
 have af:=h0;have ag:∀x∈p0,x.block<W.heap.size:=by obtain⟨m,A⟩:=af;exact DataW.trod_lt m _ _ _ A
 obtain⟨a0,rfl,w0⟩:=ZU Tryz.underlying24 nM nM mh Tryz.underlying22 mh mh mh mh h0;obtain⟨ah,J,N,rfl⟩:=okWide_slice Tryz.underlying25 (hval 1 25 v1 rfl rfl);have ai:=Z;have aj:∀x∈aA,x.block<W.heap.size:=by obtain⟨m,A⟩:=ai;exact DataW.trod_lt m _ _ _ A
 obtain⟨aD,w1⟩:∃aF,Rb W ah J N aF:=VE Tryz.underlying25 Tryz.underlying67 nM nM Tryz.underlying50 mR mR Z;obtain⟨c2,rfl,_⟩:∃cs,v2=.agg cs/\True:=by
  have:=hval 2 49 v2 rfl rfl;simp only[Value.okWide,Tryz.underlying49]at this;obtain⟨cs,h,_⟩:=this;exact⟨cs,h,trivial⟩
 have ak:=aa;have au:∀x∈aB,x.block<W.heap.size:=by obtain⟨m,A⟩:=ak;exact DataW.trod_lt m _ _ _ A
 obtain⟨a2,u2,rfl,f2,w2⟩:=OM aa;obtain⟨c3,rfl,_⟩:∃cs,v3=nC cs/\True:=by
  have:=hval 3 49 v3 rfl rfl;simp only[Value.okWide,Tryz.underlying49]at this;obtain⟨cs,h,_⟩:=this;exact⟨cs,h,trivial⟩
 have av:=ae;have lt3:∀x∈aC,x.block<W.heap.size:=by obtain⟨m,A⟩:=av;exact DataW.trod_lt m _ _ _ A
 obtain⟨a3,u3,rfl,f3,w3⟩:=OM ae;clear O E;refine(LQ a0 ah J N aD a2 u2 a3 u3 W w0 w1 w2 w3 (ZI hL)).mono λe aZ ⟨he,qa⟩=> ?_
 subst he;exact⟨_,rfl,_,_,_,[],_,[],V,trodAll_mk1 (shut_bool Tryz.underlying4 _),(trodAll_cons_mk (Below.trod laidOut nM (of_decide_eq_true nM) af qa ag) (trodAll_cons_mk (Below.trod laidOut nM (of_decide_eq_true nM) ai qa aj) (trodAll_cons_mk (Below.trod laidOut nM (of_decide_eq_true nM) ak qa au) (trodAll_cons_mk (Below.trod laidOut nM (of_decide_eq_true nM) av qa lt3) trodAll_mk0)))),rfl,qa.frame _,λh=>by cases h⟩
theorem row:Rows.WholeUnlikeSaid:=
 OpenClaim.holds_of_wide 5 Tryz.f5 rfl rfl rfl rfl rfl rfl rfl ⟨rfl,rfl,rfl,rfl,rfl⟩ rfl rfl rfl rfl rfl nM Tryz.func5 nM
  (of_decide_eq_true nM) (by unfold Func.isWrapper;first|(rw[if_pos yc];kernel_rfl)|(rw[if_neg yc];exact⟨rfl,rfl⟩))
  (λos A H enc _=>lifted os A H enc)
theorem proved:Rows.WholeUnlikeCardSaid:=
 Claim7.holds_tied_plain_at .later [] _ _ _ _ row (λ_ h=>by cases h) nM (λ_ h=>by cases h) wholeUnlike_row_tie rfl ⟨rfl,rfl⟩ nM rfl
  (λf fn E C=>by
   obtain rfl:f=5:=ma ((show Tryz.prog.funcNamed "hatchway/hatchwaytop.WholeUnlike" =some 5 by kernel_rfl).symm.trans E)|>.symm;obtain rfl:fn=Tryz.f5:=(ma (Tryz.func5.symm.trans C)).symm;exact⟨nM,λj t ht=>by
    rw[Tryz.params5]at ht;have I:t∈[24,25,49,49]:=by simpa using Array.mem_of_getElem? ht
    have A:([24,25,49,49].all λu=> !Tryz.prog.wantsStandIn u)=true:=nM;exact(show Tryz.prog.wantsStandIn t=false by simpa using lY.1 A t I)⟩)
  nM
end
end Go.Proofs.YtamfcjmhnndbdaaGreatDoor.wholeUnlike

