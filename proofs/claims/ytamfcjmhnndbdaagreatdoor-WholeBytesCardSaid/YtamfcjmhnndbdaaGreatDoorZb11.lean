/- Part 11 of the proof. -/
import Derived.Test.YtamfcjmhnndbdaaGreatDoorZb10
import Derived.ShutString
import Derived.Test.YtamfcjmhnndbdaaGreatDoorCards
import Derived.Test.YtamfcjmhnndbdaaGreatDoorTie
import Derived.Lay
open Go.Value renaming agg→mI,int→V,slice→G,string→H
open Go.IntKind renaming i64→X,u32→mQ
open Go.Proofs.Tryz renaming prog→iN
open Go renaming Value→iQ,TypeId→jl
open Option renaming none→U
open Bool renaming true→u,false→M
open Decidable renaming decide→As
namespace Go.Proofs.YtamfcjmhnndbdaaGreatDoor.wholeBytes
open Go.Proofs.YtamfcjmhnndbdaaGreatDoor
set_option linter.unusedVariables false
set_option linter.defProp false
set_option linter.unusedSimpArgs false
set_option maxRecDepth 100000
set_option maxHeartbeats 8000000
section
open Go.ChangeShapes Go.WideShapes Go.ChangeAt Go.RowKit
open Go.ChangeMaps (open_string shut_string)
def own:ownKnob Tryz.prog.godebug=U:=mZ
def laidOut:laidOutB iN=u:=mZ
def lifted(os:Os)(A:os.Started)(an:Type)(enc:jl×iQ->an):
  ReturnsInHanded {} Tryz.checked os 3 .any (λw args=>(Rows.wholeBytesSpec.pre enc iN Tryz.f3 [] M w args/\laidMetH iN Rows.wholeBytesRow.laid w)/\sizedMet enc iN Tryz.f3 (OpenSpec.ofChange Rows.wholeBytesSpec) M w args)
   (Rows.wholeBytesSpec.post enc iN Tryz.f3 M u M M):=by
 refine returnsInHanded_of_change_and (C:=Tryz.checked) (X:=λw _=>laidMetH iN Rows.wholeBytesRow.laid w) (λ_ _ _ ax h=>h.of_heap ax) own A mZ Tryz.func3
  (ChangeSpec.witness_shaped (enc:=enc) (C:=Tryz.checked) (os:=os) (X:=λw _=>laidMetH iN Rows.wholeBytesRow.laid w) M (World.laidAll iN os Rows.wholeBytesRow.laid) #[mI #[V X 0,V mQ 0,V X 0,V X 0,V X 0,V X 0],G U 0 0,H ByteArray.empty] 8 (World.laidAll_os _ _ _) (World.shaped_of_ZipB mZ mZ) mZ mZ mZ (by rw[MakeChecks.laidMetH_plain _ _ _ mZ];exact laidMet_laidAll _ mZ mZ)) ?_
 intro W base args ds aN N E aa _ _ hL _;have hval:=E;have ae:=aa;obtain⟨p,q,af,ay,rfl,aF,aG⟩:=aa;have ag:=af;rw[Tryz.params3]at ag hval;obtain⟨v0,aH,aO,aI,p0,aP,av,rfl,rfl,h0,r0⟩:=trodAll_cons ag;obtain⟨v1,aJ,aQ,aK,az,aR,rfl,rfl,rfl,ah,r1⟩:=trodAll_cons r0;obtain⟨v2,aL,aS,aM,aU,aV,rfl,rfl,rfl,aA,r2⟩:=trodAll_cons r1;obtain⟨rfl,rfl,rfl⟩:=trodAll_nil r2;obtain rfl:args=#[v0,v1,v2]:=by cases args;simp_all
 obtain⟨rfl,rfl⟩:=trodVars_none ay;obtain⟨c0,rfl,_⟩:∃cs,v0=mI cs/\True:=by
  have:=hval 0 24 v0 rfl rfl;simp only[Value.okWide,Tryz.underlying24]at this;obtain⟨cs,h,_⟩:=this;exact⟨cs,h,trivial⟩
 have ai:=h0;have aj:∀x∈p0,x.block<W.heap.size:=by obtain⟨m,J⟩:=ai;exact DataW.trod_lt m _ _ _ J
 obtain⟨a0,rfl,w0⟩:=a1b Tryz.underlying24 mZ mZ l6 Tryz.underlying22 l6 l6 l6 l6 h0;obtain⟨a1,zF,wJ,rfl⟩:=okWide_slice Tryz.underlying25 (hval 1 25 v1 rfl rfl);have ak:=ah;have au:∀x∈az,x.block<W.heap.size:=by obtain⟨m,J⟩:=ak;exact DataW.trod_lt m _ _ _ J
 have⟨aB,w1⟩:∃aD,SQ W a1 zF wJ aD:=XM Tryz.underlying25 Tryz.underlying67 mZ mZ Tryz.underlying50 l8 l8 ah;obtain⟨a2,rfl,rfl,rfl,w2⟩:=open_string l8 (hval 2 9 v2 rfl rfl) aA;refine(QM a0 a1 zF wJ aB a2 W w0 w1 w2 (a2j hL)).mono λe aW ⟨he,pV⟩=> ?_
 subst he;exact⟨_,rfl,_,_,_,[],_,[],ae,trodAll_mk1 (shut_bool Tryz.underlying4 _),(trodAll_cons_mk (Below.trod laidOut mZ (b2 mZ) ai pV aj) (trodAll_cons_mk (Below.trod laidOut mZ (b2 mZ) ak pV au) (trodAll_cons_mk (shut_string l8 w2) trodAll_mk0))),rfl,pV.frame _,λh=>by cases h⟩
end
end Go.Proofs.YtamfcjmhnndbdaaGreatDoor.wholeBytes

