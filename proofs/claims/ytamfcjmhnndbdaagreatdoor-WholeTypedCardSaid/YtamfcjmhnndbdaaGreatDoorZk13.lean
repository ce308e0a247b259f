/- Part 13 of the proof. -/
import Derived.Test.YtamfcjmhnndbdaaGreatDoorZk00
import Derived.Test.YtamfcjmhnndbdaaGreatDoorZk08
import Derived.Test.YtamfcjmhnndbdaaGreatDoorZk09
import Derived.Test.YtamfcjmhnndbdaaGreatDoorZk11
import Derived.Test.YtamfcjmhnndbdaaGreatDoorZk12
open Go.Value renaming agg→lC,bool→lu,int→lg,pointer→lq,slice→lh,string→ll,tuple→lD,ownBlock→jw,slice→jD
open Go.Obj renaming cells→lG
open Go.IntKind renaming i64→lH
open Go.Ending renaming returned→lF
open Go.Lib renaming hid→iF
open Go.Proofs.Tryz renaming prog→iG,results173→jN
open Go renaming World→iH,Value→iJ,Calls→iU,bodyPost_ret→iV,maxLen→jb,TypeId→jg,results→jr,Addr→kr,wpQuiet_nil→kS
open Nat renaming le_refl→iI,lt_of_lt_of_le→jq,zero_le→jy,lt_succ_self→jE,le_of_eq→kX
open Go.RowKit renaming Below→iK,Hid→iW,intOf→jA
open Go.RowKit.Below renaming refl→iL
open List renaming getElem?_cons_succ→iM,getElem?_cons_zero→iO,getElem?_toArray→iP,getElem?_eq_getElem→iZ,length_drop→jS,getD_eq_getElem?_getD→ko,length_take→ky,length_eq_zero_iff→kR
open And renaming intro→iQ
open ByteArray renaming size_extract→ja
open Go.World renaming setCell→jf
open Array renaming getElem?_modify→jK
open UInt8 renaming toNat_inj→jX
open Go.Sem renaming run→kJ
open Option.some renaming inj→kK
open Go.Lit renaming int→kP
namespace Go.Proofs.YtamfcjmhnndbdaaGreatDoor
set_option linter.unusedVariables false
set_option linter.unusedSimpArgs false
set_option maxRecDepth 100000
set_option maxHeartbeats 8000000
variable {e:Ending}
section
open Go.RowKit
theorem O5{p:Prop}(h:p:=by
 have e1:((x.e:Int)==(p2:Int))=true:=Lt;obtain⟨ML,hML⟩:=lV x.L.length;obtain⟨ov,cv,hv,a5g,a3k⟩:=Xp Db.out hML;have a5h:ML<=1024:=by have:=Db.out.hc;omega
 rw[hv]at r0;have HSL:=iF (Ib Db.out.yY);have HE:=iF he;have HV:=iF hv;have HNN:=iF hN;have HML:=iF hML;clear he hv hN hML a3k;cases xs with
 |nil=>
  obtain rfl:N=0:=HNN.out.symm;have CA:=iF (Fv Db.out HE.out HV.out HML.out);go_upto_region 26 with fail;generalize wr.setCell ⟨g+1,0,none⟩ (lh (some ⟨go,0,none⟩) 0 cr)=w4 at*;clear Db r0 r1 o0 zo;go_wp2_with fail;refine CA.out.mono ?_;rintro e w5 ⟨rfl,Uv⟩;have XE:=iF Uv;clear Uv CA;go_wp2_with fail;go_roundw;case rel=>exact⟨_,_,XE⟩
  case measure=>(rw[Ib XE.out.yY,HSL.out];simp)
 |cons x2 xs=>
  obtain⟨N2,rfl⟩:∃N2,N=N2+1:=⟨xs.length,HNN.out.symm⟩;have CA:=iF (KI Db.out HE.out HV.out HML.out HNN.out lK Uw);go_upto_region 26 with fail;generalize wr.setCell ⟨g+1,0,none⟩ (lh (some ⟨go,0,none⟩) (N2+1) cr)=w4 at*;clear Db r0 r1 o0 zo;go_wp2_with fail;refine CA.out.mono ?_;rintro e w5 ⟨rfl,v5,Uv⟩;have XE:=iF Uv;clear Uv CA;go_wp2_with fail;go_roundw;case rel=>exact⟨_,_,XE⟩
  case measure=>(rw[Ib XE.out.yY,HSL.out];simp)):p:=h
theorem Ux{p:Prop}(h:p:=by
 have p0:=Db.out.yY.ho.c0;obtain⟨oa,cr,hv3⟩:∃oa cr,ZL=lh oa 0 cr:=Db.out.yY.row.slice;rw[hv3]at p0;go_wp2_with fail;go_roundw;case rel=>exact .inr ⟨p2,c+1,ZL,[],rfl,by go_num,rfl,iF ⟨Db.out,trivial⟩⟩
 case measure=>(have:=ZM.out;simp[jA,Uc];omega)):p:=h
theorem Uy{p:Prop}(h:p:=by
 have e1:((x.e:Int)==(p2:Int))=false:=sQ;have HE:iW (Opn p2 (x::xs)):=iF (O1 Db.out he);clear he;go_wp2_with fail;go_roundw;case rel=>exact .inr ⟨p2,c+1,_,x::xs,rfl,by go_num,rfl,iF ⟨Db.out,HE.out⟩⟩
 case measure=>(have:=ZM.out;simp[jA,Uc];omega)):p:=h
theorem Uz{p:Prop}(h:p:=by
 have p0:=Db.out.yY.ho.c0;obtain⟨oa,cr,hv3⟩:∃oa cr,ZL=lh oa 0 cr:=Db.out.yY.row.slice;rw[hv3]at p0;go_wp2_with fail;go_roundw;case rel=>exact .inr ⟨p2,1,ZL,[],rfl,rfl,rfl,iF ⟨Db.out,trivial⟩⟩
 case measure=>(have:=ZM.out;simp[jA,Uc];omega)):p:=h
theorem UA{p:Prop}(h:p:=by
 have e1:((x.e:Int)==(p2:Int))=false:=sQ;have HE:iW (Opn p2 (x::xs)):=iF (O1 Db.out he);clear he;go_wp2_with fail;go_roundw;case rel=>exact .inr ⟨p2,1,_,x::xs,rfl,rfl,rfl,iF ⟨Db.out,HE.out⟩⟩
 case measure=>(have:=ZM.out;simp[jA,Uc];omega)):p:=h
theorem UB(s:ByteArray)(ax items:Int)(w:iH)(hs:s.size<=100000)(df:(kP lH ax).wf=true)(hi1:(kP lH items).wf=true):
  iU iG 204 #[ll s,lg lH ax,lg lH items] w (KE (rU (min ax 16).toNat s.data.toList (min items 1024).toNat) w):=by
 obtain⟨D,bU⟩:=lV (min ax 16);obtain⟨I,hI⟩:=lV (min items 1024);have bq:∀n:Nat,decide (D<=(n:Int))=decide (D.toNat<=n):=λn=>by rw[decide_eq_decide];omega
 have bu:∀n:Nat,decide (I<=(n:Int))=decide (I.toNat<=n):=λn=>by rw[decide_eq_decide];omega
 have bD:D.toNat<=16:=lK;have Uw:I.toNat<=1024:=lK;rw[bU,hI];have aM:=iF bq;have aD:=iF bu;obtain⟨K,bK⟩:=lV D.toNat;obtain⟨M,bL⟩:=lV I.toNat;rw[bK]at aM bD⊢;rw[bL]at aD Uw⊢;obtain⟨l,hl⟩:=lV s.data.toList;have bz:l.length=s.size:=by rw[<-hl];simp
 obtain⟨g,hg⟩:=lV w.heap.size;obtain⟨R,ai⟩:=lV (rU K l M);have bE:=iF ai;rw[hl,ai];obtain⟨dA,aQ⟩:=lV (KE R w);have aN:=iF aQ;rw[aQ];obtain⟨wa,aR⟩:∃wa,w.alloc (lG #[ll ⟨#[]⟩,lu false,lh none 0 0] IT)=wa:=⟨_,rfl⟩;obtain⟨bF,aS⟩:=lV (wa.alloc (lG #[lh none 0 0] OT));have aT:iW (∀W,bF.alloc (lG #[ll ⟨#[]⟩,lu false,lh none 0 0] IT)=W->a1k l g w wa W):=iF λW h=>a1l hg aR aS h
 have aY:=iF hl;have bA:=iF bz;have bM:wa.heap.size=g+1:=by rw[<-aR];simp;omega
 have bN:bF.heap.size=g+2:=by rw[<-aS];simp;omega
 clear ai bK bL bq bu aQ hl bz;go_in;go_upto_region 3 with fail;generalize bF.alloc (lG #[ll ⟨#[]⟩,lu false,lh none 0 0] IT)=w1 at*;have C:=iF (aT.out _ rfl);clear aT aR aS bM bN;go_upto_region 7 with fail
 go_loopw [12,13,14] (λau cv aZ wr=>(au=lg lH 0/\cv=lg lH 0/\aZ=lu true/\wr=w1)\/(∃(p c:Nat) (vr:iJ) (st:List Fr),au=lg lH (p:Nat)/\cv=lg lH (c:Nat)/\aZ=lu false/\iW (tN l K M R (g+1) (g+1) (g+2) wa wr p c vr st/\Opn p st)))
  (λau _ aZ _=>s.size -(jA au).toNat+Uc aZ)
 case atStart=>exact .inl ⟨rfl,rfl,rfl,rfl⟩
 case round=>
  rcases hrel with⟨rfl,rfl,rfl,rfl⟩|⟨p,c,vr,st,rfl,rfl,rfl,av⟩
  .have p0:=C.out.o0
   obtain⟨H,aG⟩:=lV (zn l (decide (K<=0)) (decide (M<=0)));have Y:iW (∀x:oO wr,iU iG 242 #[ll s,lu (decide (D<=0)),lu (decide (I<=0))] x.at_ λe w'=>e=lF (yX H)/\iK x.at_.heap.size x.at_ w'):=iF λx=>by
    have h0:=KA s (decide (D<=((0:Nat):Int))) (decide (I<=((0:Nat):Int))) x.at_ hs;rw[aM.out,aD.out,aY.out,aG]at h0;have e1:=aM.out 0;have e2:=aD.out 0;simp only[Int.natCast_zero]at e1 e2;rw[e1,e2];exact h0.mono λe w' aU=>⟨aU.1,aU.2▸iL _ _⟩
   have az:=iF aG;have ae:iW (∀x:oO wr,pJ x.at_ (g+1) (g+1) (g+2) (lh none 0 0) []/\lN x.at_ (g+2) oI IT/\iK (g+1) wa x.at_):=iF λx=>⟨C.out.yY.fut x.is,Below.blk x.is C.out.whole C.out.yY.lt,C.out.bw.trans (x.is.mono (by have:=C.out.yY.lt;omega))⟩
   have Q:∀x:oO wr,x.at_.cell? ⟨g+1,0,none⟩=some (lh none 0 0):=λx=>(ae.out x).1.ho.cell 0
   clear aG;go_upto_region 12 with fail;cases H with
   |error er=>
    have ai:iW (R=.error er):=iF (by rw[<-bE.out];exact QW az.out);have he:=KF az.out;have bV:((er:Int) !=0)=true:=lW;simp only[yX]at Y;obtain⟨bO,e1⟩:=lV (((er:Int)==2));refine mF lQ lQ ?_;repeat(go_big_quiet_step (exact Calls.after (Y.out _)))
    refine kS ?_;intro x;obtain⟨aj,aA,ag⟩:=ae.out x;have bg:=Q x;obtain⟨⟨c0,c1,c2⟩,⟨z0,bG,bH⟩,E⟩:=O0 C.out.res ag;have aB:=iF (Cg (a:=ll ⟨#[]⟩) (b:=lu false) (c:=lh none 0 0) C.out.ba C.out.res.lt ag E);clear aj aA ag E he Q;cases bO
    all_goals
     go_wp2_with fail;rw[pF];obtain⟨aH,aI,aJ⟩:=aB.out.1.a3;refine iV (v:=lD #[lC oI,lg lH 0,lg lH (er:Nat)]) (by simp[jr,Tryz.results204,go_sem,aH,aI,aJ,oI]) rfl ?_;rw[<-aN.out,ai.out];exact⟨rfl,hg.symm▸aB.out.2⟩
   |ok q=>
    obtain⟨li,z,n⟩:=q;obtain⟨_,_,_,_,aV,aK⟩:=zx az.out;simp only[bA.out]at aV aK;cases li with
    |true=>
     simp only[yX]at Y;refine mF lQ lQ ?_;repeat(go_big_quiet_step (exact Calls.after (Y.out _)))
     refine kS ?_;intro x;obtain⟨aj,aA,ag⟩:=ae.out x;have bg:=Q x;have ak:=iF aj;have bP:=iF aA;have bQ:=iF ag;have bR:g+1<=x.at_.heap.size:=by have:=aj.lt;omega
     clear aj aA ag Y ae Q p0;go_upto_if 75 with fail
     go_cut [12] (λau aL=>∃(p2:Nat) (J:iJ) (O:List Fr),au=lg lH (p2:Nat)/\p2<=s.size/\iW (tN l K M R (g+1) (g+1) (g+2) wa aL p2 1 J O));case first=>
      go_wp2_with (at_builtin;refine qN Ub yu rfl _ _ rfl (B:=g+1) (v:=lh none 0 0) (L:=[]) (y:=⟨lh none 0 0,[],z+n⟩) rfl (nP.nil _ _ _) rfl (lN.new x.at_ #[lh none 0 0,lg lH ((z:Int)+(n:Int))] RT) (by simp[Xl]) (by simp[Xl,Value.oneCell']) lU lW ?_;intro bW cap w2 ah U aF hlt;obtain⟨bX,bY⟩:=KH ak.out ((iL _ x.at_).alloc (iI _) _) U;have aW:=iF (iQ ah (iQ U aF));clear ah U aF hlt);go_meet;obtain⟨bZ,cz,cB⟩:=KC (f:=⟨lh none 0 0,[],z+n⟩) ak.out ((iL _ x.at_).alloc (iI _) _) ⟨rfl,rfl⟩ aW.out.1 aW.out.2.1 aW.out.2.2;have aX:=tN.zw az.out bQ.out bZ (by unfold lN;rw[cB _ ak.out.lt lK (by simp[jw])];exact bP.out) cz;rw[bE.out]at aX;exact⟨z,_,_,rfl,lK,iF aX⟩
     case rest=>
      obtain⟨p2,J,O,rfl,Z,aa⟩:=hcut;have ZM:=iF Z;go_wp2_with fail;go_loopw [20] (λ_ af=>∃(vr:iJ) (st:List Fr),iW (tN l K M R (g+1) (g+1) (g+2) wa af p2 (1) vr st)) (λ_ af=>Bv af (g+1));case atStart=>exact⟨J,O,aa⟩
      case round=>
       obtain⟨ZL,aC,Db⟩:=hrel;clear aa;cases aC with
       |nil=>
        exact Uz
       |cons x xs=>
        obtain⟨N,hN⟩:=lV xs.length;obtain⟨go,cr,hv3,r0,r1,o0,zo,aO,V⟩:=vN Db.out hN;subst hv3;have ay:N+1<=16:=lK;clear V;by_cases he:x.e=p2;.exact O5
        .exact UA
    |false=>
     simp only[yX]at Y;refine mF lQ lQ ?_;repeat(go_big_quiet_step (exact Calls.after (Y.out _)))
     refine kS ?_;intro x;obtain⟨aj,aA,ag⟩:=ae.out x;have bg:=Q x;have CA:=iF (Ic aY.out bE.out az.out aj aA ag);clear aj aA ag Y ae Q p0;go_upto_if 75 with fail
     go_cut [12] (λau aL=>∃(p2:Nat) (J:iJ) (O:List Fr),au=lg lH (p2:Nat)/\p2<=s.size/\iW (tN l K M R (g+1) (g+1) (g+2) wa aL p2 1 J O));case first=>
      go_wp2_with fail;refine CA.out.mono ?_;rintro e w5 ⟨rfl,Uv⟩;have XE:=iF Uv;clear Uv CA;go_wp2_with fail;go_meet;exact⟨z+n,_,_,by go_num,lK,XE⟩
     case rest=>
      obtain⟨p2,J,O,rfl,Z,aa⟩:=hcut;have ZM:=iF Z;go_wp2_with fail;go_loopw [20] (λ_ af=>∃(vr:iJ) (st:List Fr),iW (tN l K M R (g+1) (g+1) (g+2) wa af p2 (1) vr st)) (λ_ af=>Bv af (g+1));case atStart=>exact⟨J,O,aa⟩
      case round=>
       obtain⟨ZL,aC,Db⟩:=hrel;clear aa;cases aC with
       |nil=>
        exact Uz
       |cons x xs=>
        obtain⟨N,hN⟩:=lV xs.length;obtain⟨go,cr,hv3,r0,r1,o0,zo,aO,V⟩:=vN Db.out hN;subst hv3;have ay:N+1<=16:=lK;clear V;by_cases he:x.e=p2;.exact O5
        .exact UA
  .cases st with
   |nil=>
    have p0:=av.out.1.yY.ho.c0;obtain⟨oa,cr,hv3⟩:∃oa cr,vr=lh oa 0 cr:=av.out.1.yY.row.slice;rw[hv3]at p0;obtain⟨y,v,dB,ai,hb,hv,bI⟩:=av.out.1.res;obtain⟨ov,cv,rfl,_⟩:=lX.slice hv;obtain⟨⟨c0,c1,c2⟩,⟨z0,bG,bH⟩,E⟩:=O0 C.out.res av.out.1.below;have aB:=iF (Cg (a:=ll (txt y.lab)) (b:=lu y.lab.list) (c:=lh ov y.sub.length cv) C.out.ba C.out.res.lt av.out.1.below E);have cK:iW (lX (tZ wr g 0 (ll (txt y.lab)) (lu y.lab.list) (lh ov y.sub.length cv)) (λc=>w.heap.size<=c) (lh ov y.sub.length cv) y.sub):=iF (Shape.lY.keep hv (by rw[sH];exact iI _) (λc _ hc=>by
      have cO:=bI c hc;show w.heap.size<=c;have:¬c<g+1:=λh=>cO (.inl h)
      omega) λc _ hc=>qo c λe=>bI c hc (.inl lK))
    obtain⟨dC,dD,dE⟩:=hb.a3;have bS:=iF ai;clear hb hv bI ai E;go_wp2_with fail;rw[pF];obtain⟨aH,aI,aJ⟩:=aB.out.1.a3;refine iV (v:=lD #[lC #[ll (txt y.lab),lu y.lab.list,lh ov y.sub.length cv],lg lH (p:Nat),lg lH 0]) (by simp[jr,Tryz.results204,go_sem,aH,aI,aJ]) rfl ?_;rw[<-aN.out,bS.out];exact⟨_,rfl,cK.out,hg.symm▸aB.out.2⟩
   |cons x xs=>
    obtain⟨N,hN⟩:=lV xs.length;obtain⟨go,cr,hv3,r0,r1,o0,zo,aO,V⟩:=vN av.out.1 hN;subst hv3;have ay:N+1<=16:=lK;have aP:p<x.e:=av.out.2;have dh:x.e<=s.size:=by have:=Ends.le av.out.1.ends.2;rw[bA.out]at this;exact this
    have dw:c<=1024:=by have:=av.out.1.hc;omega
    obtain⟨H,aG⟩:=lV (zn (wY l p x.e) (decide (K<=(x::xs).length)) (decide (M<=c)));have Y:iW (∀A:oO wr,iU iG 242 #[ll (s.extract p x.e),lu (decide (D<=(N:Int)+1)),lu (decide (I<=(c:Int)))] A.at_ λe w'=>e=lF (yX H)/\iK A.at_.heap.size A.at_ w'):=iF λA=>by
     have h0:=KA (s.extract p x.e) (decide (D<=((N+1:Nat):Int))) (decide (I<=(c:Int))) A.at_ (by simp[ja];omega);have e1:=aM.out (N+1);rw[e1,aD.out,Ia aY.out,show N+1=(x::xs).length by simp[hN],aG]at h0;rw[show((N:Int)+1)=((N+1:Nat):Int)by omega,e1,aD.out,show N+1=(x::xs).length by simp[hN]];exact h0.mono λe w' aU=>⟨aU.1,aU.2▸iL _ _⟩
    have az:=iF aG;have ae:iW (∀A:oO wr,tN l K M R (g+1) (g+1) (g+2) wa A.at_ p c (lh (some ⟨go,0,none⟩) (N+1) cr) (x::xs)):=iF λA=>av.out.1.fut A.is
    have Q:∀A:oO wr,A.at_.cell? ⟨g+1,0,none⟩=some (lh (some ⟨go,0,none⟩) (N+1) cr):=λA=>(ae.out A).yY.ho.cell 0
    have HNN:=iF hN;have cZ:=iF aP;clear aG hN r0 zo V;go_upto_region 12 with fail;cases H with
    |error er=>
     have ai:=iF (av.out.1.err aP az.out);have he:=KF az.out;simp only[yX]at Y;by_cases e2:er=2
     .have e1:((er:Int)==2)=true:=by simp[e2]
      rw[if_pos e2]at ai;clear e2;refine mF lQ lQ ?_;repeat(go_big_quiet_step (exact Calls.after (Y.out _)))
      refine kS ?_;intro A;obtain⟨⟨c0,c1,c2⟩,⟨z0,bG,bH⟩,E⟩:=O0 C.out.res (ae.out A).below;have aB:=iF (Cg (a:=ll ⟨#[]⟩) (b:=lu false) (c:=lh none 0 0) C.out.ba C.out.res.lt (ae.out A).below E);clear E he Q;go_wp2_with fail;rw[pF];obtain⟨aH,aI,aJ⟩:=aB.out.1.a3;refine iV (v:=lD #[lC oI,lg lH 0,lg lH 3]) (by simp[jr,Tryz.results204,go_sem,aH,aI,aJ,oI]) rfl ?_;rw[<-aN.out,ai.out];exact⟨rfl,hg.symm▸aB.out.2⟩
     .have e1:((er:Int)==2)=false:=sQ
      have bV:((er:Int) !=0)=true:=lW;rw[if_neg e2]at ai;clear e2;refine mF lQ lQ ?_;repeat(go_big_quiet_step (exact Calls.after (Y.out _)))
      refine kS ?_;intro A;obtain⟨⟨c0,c1,c2⟩,⟨z0,bG,bH⟩,E⟩:=O0 C.out.res (ae.out A).below;have aB:=iF (Cg (a:=ll ⟨#[]⟩) (b:=lu false) (c:=lh none 0 0) C.out.ba C.out.res.lt (ae.out A).below E);clear E he Q;go_wp2_with fail;rw[pF];obtain⟨aH,aI,aJ⟩:=aB.out.1.a3;refine iV (v:=lD #[lC oI,lg lH 0,lg lH (er:Nat)]) (by simp[jr,Tryz.results204,go_sem,aH,aI,aJ,oI]) rfl ?_;rw[<-aN.out,ai.out];exact⟨rfl,hg.symm▸aB.out.2⟩
    |ok q=>
     obtain⟨li,z,n⟩:=q;obtain⟨_,_,bB,aV,aK,_⟩:=av.out.1.head aP az.out;have bT:=iF bB;clear bB;simp only at aV aK;cases li with
     |true=>
      have dx:=KG bT.out;simp only[yX]at Y;refine mF lQ lQ ?_;repeat(go_big_quiet_step (exact Calls.after (Y.out _)))
      refine kS ?_;intro A;have bg:=Q A;have ak:=iF (ae.out A);have bR:g+2<=A.at_.heap.size:=by have:=ak.out.yY.lt;omega
      clear Y ae Q o0 r1;go_upto_if 75 with fail
      go_cut [12] (λau aL=>∃(p2:Nat) (J:iJ) (O:List Fr),au=lg lH (p2:Nat)/\(p<p2/\p2<=s.size)/\iW (tN l K M R (g+1) (g+1) (g+2) wa aL p2 (c+1) J O));case first=>
       have bC:iW ((x::xs).reverse.length=N+1):=iF (by simp[HNN.out]);go_wp2_with (at_builtin;go_loud (refine qN Ub yu rfl _ _ rfl (B:=g+1) (v:=lh (some ⟨go,0,none⟩) (N+1) cr) (L:=(x::xs).reverse) (y:=⟨lh none 0 0,[],p+z+n⟩) rfl (ak.out.yY.row.below ((iL _ A.at_).alloc (iI _) _)) rfl (lN.new A.at_ #[lh none 0 0,lg lH ((p:Int)+(z:Int)+(n:Int))] RT) (by simp[Xl]) (by simp[Xl,Value.oneCell']) (by rw[bC.out];omega) lW ?_);intro bW cap w2 ah U aF hlt;obtain⟨bX,bY⟩:=KH ak.out.yY ((iL _ A.at_).alloc (iI _) _) U;have aW:=iF (ZB ak.out cZ.out HNN.out az.out ((iL _ A.at_).alloc (iI _) _) rfl ah U aF);rw[bC.out];clear ah U aF hlt);go_meet;exact⟨p+z,_,_,by go_num,⟨lK,lK⟩,aW⟩
      case rest=>
       obtain⟨p2,J,O,rfl,Z,aa⟩:=hcut;have ZM:=iF Z;have bJ:=Z.2;clear Z;go_wp2_with fail;go_loopw [20] (λ_ af=>∃(vr:iJ) (st:List Fr),iW (tN l K M R (g+1) (g+1) (g+2) wa af p2 (c+1) vr st)) (λ_ af=>Bv af (g+1));case atStart=>exact⟨J,O,aa⟩
       case round=>
        obtain⟨ZL,aC,Db⟩:=hrel;clear aa;cases aC with
        |nil=>
         exact Ux
        |cons x xs=>
         obtain⟨N,hN⟩:=lV xs.length;obtain⟨go,cr,hv3,r0,r1,o0,zo,aO,V⟩:=vN Db.out hN;subst hv3;have ay:N+1<=16:=lK;clear V;by_cases he:x.e=p2;.exact O5
         .exact Uy
     |false=>
      simp only[yX]at Y;refine mF lQ lQ ?_;repeat(go_big_quiet_step (exact Calls.after (Y.out _)))
      refine kS ?_;intro A;have bg:=Q A;have CA:=iF (ZA aY.out hs (ae.out A) aP lK lK az.out);clear Y ae Q o0 r1;go_upto_if 75 with fail
      go_cut [12] (λau aL=>∃(p2:Nat) (J:iJ) (O:List Fr),au=lg lH (p2:Nat)/\(p<p2/\p2<=s.size)/\iW (tN l K M R (g+1) (g+1) (g+2) wa aL p2 (c+1) J O));case first=>
       go_wp2_with fail;refine CA.out.mono ?_;rintro e w5 ⟨rfl,dF,dz,Uv⟩;have XE:=iF Uv;clear Uv CA;go_wp2_with fail;go_meet;exact⟨p+z+n,_,_,by go_num,⟨lK,lK⟩,XE⟩
      case rest=>
       obtain⟨p2,J,O,rfl,Z,aa⟩:=hcut;have ZM:=iF Z;have bJ:=Z.2;clear Z;go_wp2_with fail;go_loopw [20] (λ_ af=>∃(vr:iJ) (st:List Fr),iW (tN l K M R (g+1) (g+1) (g+2) wa af p2 (c+1) vr st)) (λ_ af=>Bv af (g+1));case atStart=>exact⟨J,O,aa⟩
       case round=>
        obtain⟨ZL,aC,Db⟩:=hrel;clear aa;cases aC with
        |nil=>
         exact Ux
        |cons x xs=>
         obtain⟨N,hN⟩:=lV xs.length;obtain⟨go,cr,hv3,r0,r1,o0,zo,aO,V⟩:=vN Db.out hN;subst hv3;have ay:N+1<=16:=lK;clear V;by_cases he:x.e=p2;.exact O5
         .exact Uy
theorem O6{p:Prop}(h:p:=by
 have hq:=iF (HT.out.1 c);go_wp2_with fail;go_meet;exact⟨1,t,rfl,by congr 1;have:=HE.out;omega,lK,lK,lK,hq,rfl⟩):p:=h
theorem Ii{p:Prop}(h:p:=by
 rw[<-HP.out,yx.out];exact Ue hT.out lK (hg.symm▸yL.out)):p:=h
theorem Yw{p:Prop}(h:p:=by
 go_upto_region 17 with fail;by_cases c2:s.size<1+j
 .have yx:=iF (Yx.out _ (HJ.out.1 c2))
  go_wp2_with fail;rw[pG];obtain⟨hblk6,nW⟩:=Ar.out (ll ⟨#[]⟩) (lu false) (lh none 0 0) (lg lH 0) (lg lH 0) (lg lH 2);obtain⟨d0,d1,d2,d3,d4,d5⟩:=rD hblk6;have yL:=iF nW;clear hblk6 nW;refine iV (v:=lC #[ll ⟨#[]⟩,lu false,lh none 0 0,lg lH 0,lg lH 0,lg lH 2]) (by simp[jr,jN,go_sem,d0,d1,d2,d3,d4,d5]) rfl ?_;rw[<-HP.out,yx.out];exact rR (hg.symm▸yL.out)
 .have hk1:1+j<=s.size:=lK
  have hs1:1<s.size:=lK;obtain⟨hx1,hx2,hx3⟩:=HJ.out.2 hk1;have CN:=iF (MG (s.extract 1 (1+j)) wa (by simp[ja];omega));rw[hx1]at CN;have hv64:=Uf (l:=s.data.toList.drop 1) hj8;have hh1:=a1m s hs1;rw[hh1]at hx2 hx3;have RI:=iF hx2;have VW:=iF hx3;have hb1:s[1].toNat<=255:=by have:=s[1].toNat_lt;omega
  clear hx1 hx2 hx3 HJ HT c2 c hj hh1;generalize ql ((s.data.toList.drop 1).take j)=v at*;go_upto_region 20 with fail;simp only[show(1+(j:Int))=((1+j:Nat):Int)by omega];by_cases c3:s[1].toNat=0
  .have e3:((s[1].toNat:Int)==0)=true:=Lt
   have yx:=iF (Yx.out _ (RI.out (.inl (by congr 1;exact jX.1 c3))));clear RI VW c3;go_wp2_with fail;refine CN.out.mono ?_;rintro e w1 ⟨rfl,rfl⟩;go_wp2_with fail;rw[pG];obtain⟨hblk6,nW⟩:=Ar.out (ll ⟨#[]⟩) (lu false) (lh none 0 0) (lg lH 0) (lg lH 0) (lg lH 3);obtain⟨d0,d1,d2,d3,d4,d5⟩:=rD hblk6;have yL:=iF nW;clear hblk6 nW;refine iV (v:=lC #[ll ⟨#[]⟩,lu false,lh none 0 0,lg lH 0,lg lH 0,lg lH 3]) (by simp[jr,jN,go_sem,d0,d1,d2,d3,d4,d5]) rfl ?_;rw[<-HP.out,yx.out];exact rR (hg.symm▸yL.out)
  have e3:((s[1].toNat:Int)==0)=false:=sQ;by_cases c4:v<56
  .have yx:=iF (Yx.out _ (RI.out (.inr c4)))
   clear RI VW c3;go_wp2_with fail;refine CN.out.mono ?_;rintro e w1 ⟨rfl,rfl⟩;go_wp2_with fail;rw[pG];obtain⟨hblk6,nW⟩:=Ar.out (ll ⟨#[]⟩) (lu false) (lh none 0 0) (lg lH 0) (lg lH 0) (lg lH 3);obtain⟨d0,d1,d2,d3,d4,d5⟩:=rD hblk6;have yL:=iF nW;clear hblk6 nW;refine iV (v:=lC #[ll ⟨#[]⟩,lu false,lh none 0 0,lg lH 0,lg lH 0,lg lH 3]) (by simp[jr,jN,go_sem,d0,d1,d2,d3,d4,d5]) rfl ?_;rw[<-HP.out,yx.out];exact rR (hg.symm▸yL.out)
  have c4':56<=v:=lK;have hq:=iF (VW.out (λh=>h.elim (λh=>c3 (by have:=kK h;rw[this];rfl)) λh=>c4 h));clear RI VW c3 c4;by_cases c5:s.size -(1+j)<v
  .have yx:=iF (Yx.out _ (hq.out.trans (yw (by rw[HL.out];omega))))
   have d5:(s.size:Int) -((1+j:Nat):Int)<(v:Int):=lK;clear c5;go_wp2_with fail;refine CN.out.mono ?_;rintro e w1 ⟨rfl,rfl⟩;go_wp2_with fail;rw[pG];obtain⟨hblk6,nW⟩:=Ar.out (ll ⟨#[]⟩) (lu false) (lh none 0 0) (lg lH 0) (lg lH 0) (lg lH 2);obtain⟨d0,d1,d2,d3,d4,d5⟩:=rD hblk6;have yL:=iF nW;clear hblk6 nW;refine iV (v:=lC #[ll ⟨#[]⟩,lu false,lh none 0 0,lg lH 0,lg lH 0,lg lH 2]) (by simp[jr,jN,go_sem,d0,d1,d2,d3,d4,d5]) rfl ?_;rw[<-HP.out,yx.out];exact rR (hg.symm▸yL.out)
  .have hvs:v<=100000:=lK
   have d5:(v:Int)<=(s.size:Int) -((1+j:Nat):Int):=lK;clear c5;go_wp2_with fail;refine CN.out.mono ?_;rintro e w1 ⟨rfl,rfl⟩;go_wp2_with fail;go_meet;exact⟨1+j,v,by first|rfl|go_num,by first|rfl|go_num,lK,hk1,hvs,hq,rfl⟩):p:=h
theorem O7{p:Prop}(h:p:=by
 subst h;have h2:=hb2.alloc hb2.size (lG #[ll ⟨#[]⟩,lu false,lh none 0 0,lg lH 0,lg lH 0,lg lH (er:Nat)] GT);exact⟨HG.out.below h2,lN.new w2 _ _,h2⟩):p:=h
theorem UD{p:Prop}(h:p:=by
 go_in;go_wp2_with fail;rw[pG];obtain⟨hblk6,nW⟩:=Ar.out (ll ⟨#[]⟩) (lu false) (lh none 0 0) (lg lH 0) (lg lH 0) (lg lH 4);obtain⟨d0,d1,d2,d3,d4,d5⟩:=rD hblk6;have yL:=iF nW;clear hblk6 nW;refine iV (v:=lC #[ll ⟨#[]⟩,lu false,lh none 0 0,lg lH 0,lg lH 0,lg lH 4]) (by simp[jr,jN,go_sem,d0,d1,d2,d3,d4,d5]) rfl ?_;rw[<-HP.out,yx.out];exact rR (hg.symm▸yL.out)):p:=h
def Av(R:Except Nat (lL IL))(w:iH)(e:Ending)(w':iH):Prop:=match R with
 | .error er=>e=lF (lD #[lC oI,lg lH (er:Nat)])/\iK w.heap.size w w'
 | .ok x=>∃v,e=lF (lD #[lC #[ll (txt x.lab),lu x.lab.list,v],lg lH 0])/\lX w' (λc=>w.heap.size<=c) v x.sub/\iK w.heap.size w w'
theorem O8{w wa:iH}{g:Nat}(hg:w.heap.size=g)(h:w.alloc (lG #[ll ⟨#[]⟩,lu false,lh none 0 0] IT)=wa):lN wa g oI IT/\iK g w wa/\wa.heap.size=g+1:=by
 subst h;exact⟨hg▸lN.new w _ _,hg▸(iL _ w).alloc (iI _) _,lW⟩
theorem Dc{p:Prop}(h:p:=by
 rw[<-HP.out,yx.out];exact⟨rfl,hg.symm▸yL.out⟩):p:=h
theorem UG{p:Prop}(h:p:=by
 rw[<-HP.out,yx.out];refine⟨lh o sn c,rfl,Shape.lY.keep HV.out (by rw[sH];exact iI _) (λc' _ hc=> ?_) λc' _ hc=>qo c' ?_,hg.symm▸yL.out⟩;.show w.heap.size<=c';have:wa.heap.size<=c':=hc;omega
 .have:wa.heap.size<=c':=hc;omega):p:=h
theorem Ij{p:Prop}(h:p:=by
 subst h;exact⟨hb2.alloc hb2.size _,lN.new w2 _ _,(iL _ w2).alloc (iI _) _⟩):p:=h
theorem XF(J items:Int)(K M:Nat)(aI:(min J 16).toNat=K)(aJ:(min items 1024).toNat=M)(s:ByteArray)(w:iH)(hs:s.size<=100000)(az:(kP lH J).wf=true)(hi1:(kP lH items).wf=true):
  iU iG 165 #[ll s,lg lH J,lg lH items] w (Av (vI s.data.toList (rU K s.data.toList M)) w):=by
 obtain⟨R,ai⟩:=lV (rU K s.data.toList M);obtain⟨g,hg⟩:=lV w.heap.size;obtain⟨wa,aA⟩:∃wa,w.alloc (lG #[ll ⟨#[]⟩,lu false,lh none 0 0] IT)=wa:=⟨_,rfl⟩;obtain⟨ak,Z,aQ⟩:=O8 hg aA;have aj:=UB s J items wa hs az hi1;rw[aI,aJ,ai]at aj;have aB:iW (∀y,R=.ok y->y.2.1<=s.size/\0<y.2.1):=iF λy aC=>by
  rw[<-ai]at aC;have h:=Al aC;have hl:s.data.toList.length=s.size:=lU;omega
 have aj:=iF aj;have V:=iF ak;have au:=iF Z;have av:iW (s.data.toList.length=s.size):=iF lU;obtain⟨aK,ay⟩:=lV (Av (vI s.data.toList R) w);have HP:=iF ay;rw[ai,ay];clear ak Z ay;go_in;go_wp2_with fail;refine aj.out.mono ?_;intro e w2 Y;cases R with
 |error er=>
  have aR:=xR _ _ _ _ ai;have yx:iW (vI s.data.toList (.error er)=.error er):=iF rfl;obtain⟨rfl,hb2⟩:=Y;unfold oI;have aT:((er:Int) !=0)=true:=lW;have e1:((er:Int)==0)=false:=sQ;have aa:iW (∀W,w2.alloc (lG #[ll ⟨#[]⟩,lu false,lh none 0 0] IT)=W->iK wa.heap.size wa W/\lN W w2.heap.size #[ll ⟨#[]⟩,lu false,lh none 0 0] IT/\iK w2.heap.size w2 W):=iF λW h=>by
   exact Ij
  clear hb2;go_upto_region 2 with fail;generalize w2.alloc (lG #[ll ⟨#[]⟩,lu false,lh none 0 0] IT)=w3 at*;obtain⟨N,O,Q⟩:=aa.out _ rfl;have A:=Below.blk (N.mono (show g+1<=wa.heap.size by omega)) V.out (jE g);have c0:w3.cell? ⟨g,0,none⟩=some (ll ⟨#[]⟩):=A.cell 0;have c1:w3.cell? ⟨g,1,none⟩=some (lu false):=A.cell 1;have c2:w3.cell? ⟨g,2,none⟩=some (lh none 0 0):=A.cell 2;obtain⟨z0,aL,aM⟩:=A.f3;have U:=iF (λa b c=>Cg (a:=a) (b:=b) (c:=c) au.out V.out.lt (N.mono (show g+1<=wa.heap.size by omega)) A);obtain⟨aN,aO,aP⟩:=O.a3;clear N O Q A aa;go_wp2_with fail;rw[pF];obtain⟨C,E⟩:=U.out (ll ⟨#[]⟩) (lu false) (lh none 0 0);obtain⟨ae,af,ag⟩:=C.a3;have yL:=iF E;clear C E;refine iV (v:=lD #[lC #[ll ⟨#[]⟩,lu false,lh none 0 0],lg lH (er:Nat)]) (by simp[jr,Tryz.results165,go_sem,ae,af,ag,oI]) rfl ?_;exact Dc
 |ok y=>
  obtain⟨aD,aF⟩:=aB.out _ rfl;obtain⟨v,rfl,ah,hb2⟩:=Y;obtain⟨x,n,m⟩:=y;simp only at ah aD aF⊢;obtain⟨o,c,aG,_⟩:=lX.slice ah;subst aG;obtain⟨sn,ax⟩:=lV x.sub.length;rw[ax]at ah⊢;have aa:iW (∀W,w2.alloc (lG #[ll (txt x.lab),lu x.lab.list,lh o sn c] IT)=W->iK wa.heap.size wa W/\lN W w2.heap.size #[ll (txt x.lab),lu x.lab.list,lh o sn c] IT/\iK w2.heap.size w2 W):=iF λW h=>by
   exact Ij
  have aH:=iF ah;clear hb2 ah ax;go_upto_region 2 with fail;generalize w2.alloc (lG #[ll (txt x.lab),lu x.lab.list,lh o sn c] IT)=w3 at*;obtain⟨N,O,Q⟩:=aa.out _ rfl;have A:=Below.blk (N.mono (show g+1<=wa.heap.size by omega)) V.out (jE g);have c0:w3.cell? ⟨g,0,none⟩=some (ll ⟨#[]⟩):=A.cell 0;have c1:w3.cell? ⟨g,1,none⟩=some (lu false):=A.cell 1;have c2:w3.cell? ⟨g,2,none⟩=some (lh none 0 0):=A.cell 2;obtain⟨z0,aL,aM⟩:=A.f3;have U:=iF (λa b c=>Cg (a:=a) (b:=b) (c:=c) au.out V.out.lt (N.mono (show g+1<=wa.heap.size by omega)) A);obtain⟨aN,aO,aP⟩:=O.a3;have HV:iW (lX w3 (λc=>wa.heap.size<=c) (lh o sn c) x.sub):=iF (Shape.lY.below aH.out Q);clear N O Q A aa;by_cases hlt:n<s.size
  .have yx:iW (vI s.data.toList (.ok (x,n,m))=.error 3):=iF (by simp only[vI];rw[if_pos (by rw[av.out];exact hlt)])
   go_wp2_with fail;rw[pF];obtain⟨C,E⟩:=U.out (ll ⟨#[]⟩) (lu false) (lh none 0 0);obtain⟨ae,af,ag⟩:=C.a3;have yL:=iF E;clear C E;refine iV (v:=lD #[lC #[ll ⟨#[]⟩,lu false,lh none 0 0],lg lH 3]) (by simp[jr,Tryz.results165,go_sem,ae,af,ag,oI]) rfl ?_;exact Dc
  .have yx:iW (vI s.data.toList (.ok (x,n,m))=.ok x):=iF (by simp only[vI];rw[if_neg (by rw[av.out];exact hlt)])
   have aS:s.size<=n:=lK;clear hlt;go_wp2_with fail;rw[pF];obtain⟨C,E⟩:=U.out (ll (txt x.lab)) (lu x.lab.list) (lh o sn c);obtain⟨ae,af,ag⟩:=C.a3;have yL:=iF E;clear C E;refine iV (v:=lD #[lC #[ll (txt x.lab),lu x.lab.list,lh o sn c],lg lH 0]) (by simp[jr,Tryz.results165,go_sem,ae,af,ag,oI]) rfl ?_;exact UG
abbrev wX:jg:=49
def qT(R:Except Nat (lL IL)):ByteArray:=match R with| .error _=>⟨#[]⟩| .ok x=>txt x.lab
def qL(R:Except Nat (lL IL)):Bool:=match R with| .error _=>false| .ok x=>x.lab.list
def qS(R:Except Nat (lL IL)):List (lL IL):=match R with| .error _=>[]| .ok x=>x.sub
def qE(R:Except Nat (lL IL)):Nat:=match R with| .error er=>er| .ok _=>0
def qV(R:Except Nat (lL IL))(ov:Option kr)(cv:Nat):iJ:=lD #[lC #[ll (qT R),lu (qL R),lh ov (qS R).length cv],lg lH (qE R:Nat)]
def Nl(R:Except Nat (lL IL))(w:iH)(e:Ending)(w':iH):Prop:=
 ∃ov cv,((∃er,R=.error er)->ov=none/\cv=0)/\e=lF (qV R ov cv)/\lX w' (λc=>w.heap.size<=c) (lh ov (qS R).length cv) (qS R)/\iK w.heap.size w w'
theorem Ik{R:Except Nat (lL IL)}{w w':iH}(h:yJ R w e w'):Nl R w e w':=by
 cases R with
 |error er=>exact⟨none,0,λ_=>⟨rfl,rfl⟩,h.1,tC _ _,h.2⟩
 |ok x=>
  obtain⟨v,rfl,A,C⟩:=h;obtain⟨ov,cv,rfl,_⟩:=lX.slice A;exact⟨ov,cv,(λ⟨_,h⟩=>by cases h),rfl,A,C⟩
theorem O9{R:Except Nat (lL IL)}{w w':iH}(h:Nl R w e w'):yJ R w e w':=by
 obtain⟨ov,cv,h0,rfl,C,A⟩:=h;cases R with
 |error er=>
  obtain⟨rfl,rfl⟩:=h0 ⟨er,rfl⟩;exact⟨rfl,A⟩
 |ok x=>exact⟨_,rfl,C,A⟩
theorem UH{p:Prop}(h:p:=by
 subst hW;have a1:=(iL w.heap.size w).alloc (iI _) (lG #[lg lH dep,lg lH mX] 159);have a2:=a1.alloc lU (lG #[lg lH t.lab.kind,lg lH t.lab.size,lh ou t.sub.length cu,lg lH t.lab.tail] pV);have a3:=a2.alloc lW (lG #[ll ⟨#[]⟩,lu false,lh none 0 0] IT);have k1:=lN.new w #[lg lH dep,lg lH mX] 159;have k2:=lN.new (w.alloc (lG #[lg lH dep,lg lH mX] 159)) #[lg lH t.lab.kind,lg lH t.lab.size,lh ou t.sub.length cu,lg lH t.lab.tail] pV;have k3:=lN.new ((w.alloc (lG #[lg lH dep,lg lH mX] 159)).alloc (lG #[lg lH t.lab.kind,lg lH t.lab.size,lh ou t.sub.length cu,lg lH t.lab.tail] pV)) #[ll ⟨#[]⟩,lu false,lh none 0 0] IT;rw[show(w.alloc (lG #[lg lH dep,lg lH mX] 159)).heap.size=g+1 by simp[hg]]at k2;rw[show((w.alloc (lG #[lg lH dep,lg lH mX] 159)).alloc (lG #[lg lH t.lab.kind,lg lH t.lab.size,lh ou t.sub.length cu,lg lH t.lab.tail] pV)).heap.size=g+2 by simp[hg]]at k3;rw[hg]at k1;exact⟨(k1.alloc _).alloc _,k2.alloc _,k3,hg▸a3,by simp[hg]⟩):p:=h
theorem KP(t:lL TL)(s:ByteArray)(dep mX:Int)(w:iH)(ou:Option kr)(cu:Nat)(R:Except Nat (lL IL))(ag:mD w (lh ou t.sub.length cu) t.sub)(ah:∀W,iK w.heap.size w W->iU iG 117 #[lC #[lg lH t.lab.kind,lg lH t.lab.size,lh ou t.sub.length cu,lg lH t.lab.tail],ll s,lg lH dep,lg lH mX] W (yJ R W)):
  iU iG 84 #[lC #[lg lH dep,lg lH mX],lC #[lg lH t.lab.kind,lg lH t.lab.size,lh ou t.sub.length cu,lg lH t.lab.tail],ll s] w (yJ R w):=by
 obtain⟨g,hg⟩:=lV w.heap.size;have U:=iF (λW h=>(ah W h).mono λe w' h=>Ik h);have V:iW (∀W,((w.alloc (lG #[lg lH dep,lg lH mX] 159)).alloc (lG #[lg lH t.lab.kind,lg lH t.lab.size,lh ou t.sub.length cu,lg lH t.lab.tail] pV)).alloc (lG #[ll ⟨#[]⟩,lu false,lh none 0 0] IT)=W->lN W g #[lg lH dep,lg lH mX] 159/\lN W (g+1) #[lg lH t.lab.kind,lg lH t.lab.size,lh ou t.sub.length cu,lg lH t.lab.tail] pV/\lN W (g+2) yM IT/\iK g w W/\W.heap.size=g+3):=iF λW hW=>by
  exact UH
 obtain⟨ak,ae⟩:=lV (yJ R w);have au:=iF ae;rw[ae];unfold Nl qV at U;have aF:=iF (rfl:(qS R)=qS R);obtain⟨T,af⟩:=lV (qT R);obtain⟨li,C⟩:=lV (qL R);obtain⟨sn,E⟩:=lV ((qS R).length);obtain⟨er,J⟩:=lV (qE R);rw[af,C,E,J]at U;have av:=iF (iQ af (iQ C (iQ E J)));clear ag ah ae af C E J;generalize t.lab.kind=k at*;generalize t.lab.size=z at*;generalize t.lab.tail=tl at*;generalize t.sub.length=n at*;go_in;go_upto_region 1 with fail;obtain⟨N,Y,hk2,O,Z⟩:=V.out _ rfl;generalize ((w.alloc _).alloc _).alloc _=w1 at*;obtain⟨⟨t0,aG,aH,t3⟩,_⟩:=mg Y;have c0:w1.cell? ⟨g,0,none⟩=some (lg lH dep):=N.cell 0;have c1:w1.cell? ⟨g,1,none⟩=some (lg lH mX):=N.cell 1;have A:=iF (iQ hk2 (iQ O Z));have aa:=iF (U.out _ (hg.symm▸O));clear V N Y hk2 O Z U;go_wp2_with fail;refine aa.out.mono ?_;rintro e w2 ⟨ov,cv,h0,rfl,hs,hb⟩;have Q:=iF (Below.blk hb A.out.1 A.out.1.lt);have ax:=iF (iQ h0 (iQ hs (A.out.2.1.trans (hb.mono (by have:=A.out.2.2;omega)))));have ai:iW (∀c,w1.heap.size<=c->g+3<=c):=iF λc hc=>by have:=A.out.2.2;omega
 clear h0 hs hb A aa;have ay:=Q.out.cell 0;have az:=Q.out.cell 1;have aA:=Q.out.cell 2;obtain⟨z0,aI,aJ⟩:=Q.out.f3;simp only[yM,iP,iO,iM]at ay az aA;go_wp2_with fail;rw[nO];obtain⟨hB,hb⟩:=wo (a:=ll T) (b:=lu li) (c:=lh ov sn cv) ⟨_,_,_,Q.out⟩ (g:=g+2) (w:=w2) (W:=w2) (iL _ _);obtain⟨aB,aC,aD⟩:=hB.a3;refine iV (v:=lD #[lC #[ll T,lu li,lh ov sn cv],lg lH er]) (by simp[jr,Tryz.results84,go_sem,aB,aC,aD]) rfl ?_;rw[<-au.out];obtain⟨rfl,rfl,rfl,rfl⟩:=av.out;obtain⟨h0,hs,aj⟩:=ax.out;refine O9 ⟨ov,cv,h0,rfl,Shape.lY.keep hs (by simp[nA,jf]) (λc _ hc=>by have:=ai.out c hc;show w.heap.size<=c;omega) λc _ hc=> ?_,hg.symm▸aj.trans (hb.mono lK)⟩;have:=ai.out c hc;simp[nA,jf,jK,show g+2≠c by omega,show¬g+2=c by omega]
theorem Fx(t:lL TL)(s:ByteArray)(dep mX:Int)(w:iH)(ou:Option kr)(cu:Nat)(R:Except Nat (lL IL))(ag:mD w (lh ou t.sub.length cu) t.sub)(ah:∀W,iK w.heap.size w W->iU iG 119 #[lC #[lg lH t.lab.kind,lg lH t.lab.size,lh ou t.sub.length cu,lg lH t.lab.tail],ll s,lg lH mX] W (yJ R W)):
  iU iG 86 #[lC #[lg lH dep,lg lH mX],lC #[lg lH t.lab.kind,lg lH t.lab.size,lh ou t.sub.length cu,lg lH t.lab.tail],ll s] w (yJ R w):=by
 obtain⟨g,hg⟩:=lV w.heap.size;have U:=iF (λW h=>(ah W h).mono λe w' h=>Ik h);have V:iW (∀W,((w.alloc (lG #[lg lH dep,lg lH mX] 159)).alloc (lG #[lg lH t.lab.kind,lg lH t.lab.size,lh ou t.sub.length cu,lg lH t.lab.tail] pV)).alloc (lG #[ll ⟨#[]⟩,lu false,lh none 0 0] IT)=W->lN W g #[lg lH dep,lg lH mX] 159/\lN W (g+1) #[lg lH t.lab.kind,lg lH t.lab.size,lh ou t.sub.length cu,lg lH t.lab.tail] pV/\lN W (g+2) yM IT/\iK g w W/\W.heap.size=g+3):=iF λW hW=>by
  exact UH
 obtain⟨ak,ae⟩:=lV (yJ R w);have au:=iF ae;rw[ae];unfold Nl qV at U;have aF:=iF (rfl:(qS R)=qS R);obtain⟨T,af⟩:=lV (qT R);obtain⟨li,C⟩:=lV (qL R);obtain⟨sn,E⟩:=lV ((qS R).length);obtain⟨er,J⟩:=lV (qE R);rw[af,C,E,J]at U;have av:=iF (iQ af (iQ C (iQ E J)));clear ag ah ae af C E J;generalize t.lab.kind=k at*;generalize t.lab.size=z at*;generalize t.lab.tail=tl at*;generalize t.sub.length=n at*;go_in;go_upto_region 1 with fail;obtain⟨N,Y,hk2,O,Z⟩:=V.out _ rfl;generalize ((w.alloc _).alloc _).alloc _=w1 at*;obtain⟨⟨t0,aG,aH,t3⟩,_⟩:=mg Y;have c0:w1.cell? ⟨g,0,none⟩=some (lg lH dep):=N.cell 0;have c1:w1.cell? ⟨g,1,none⟩=some (lg lH mX):=N.cell 1;have A:=iF (iQ hk2 (iQ O Z));have aa:=iF (U.out _ (hg.symm▸O));clear V N Y hk2 O Z U;go_wp2_with fail;refine aa.out.mono ?_;rintro e w2 ⟨ov,cv,h0,rfl,hs,hb⟩;have Q:=iF (Below.blk hb A.out.1 A.out.1.lt);have ax:=iF (iQ h0 (iQ hs (A.out.2.1.trans (hb.mono (by have:=A.out.2.2;omega)))));have ai:iW (∀c,w1.heap.size<=c->g+3<=c):=iF λc hc=>by have:=A.out.2.2;omega
 clear h0 hs hb A aa;have ay:=Q.out.cell 0;have az:=Q.out.cell 1;have aA:=Q.out.cell 2;obtain⟨z0,aI,aJ⟩:=Q.out.f3;simp only[yM,iP,iO,iM]at ay az aA;go_wp2_with fail;rw[nO];obtain⟨hB,hb⟩:=wo (a:=ll T) (b:=lu li) (c:=lh ov sn cv) ⟨_,_,_,Q.out⟩ (g:=g+2) (w:=w2) (W:=w2) (iL _ _);obtain⟨aB,aC,aD⟩:=hB.a3;refine iV (v:=lD #[lC #[ll T,lu li,lh ov sn cv],lg lH er]) (by simp[jr,Tryz.results86,go_sem,aB,aC,aD]) rfl ?_;rw[<-au.out];obtain⟨rfl,rfl,rfl,rfl⟩:=av.out;obtain⟨h0,hs,aj⟩:=ax.out;refine O9 ⟨ov,cv,h0,rfl,Shape.lY.keep hs (by simp[nA,jf]) (λc _ hc=>by have:=ai.out c hc;show w.heap.size<=c;omega) λc _ hc=> ?_,hg.symm▸aj.trans (hb.mono lK)⟩;have:=ai.out c hc;simp[nA,jf,jK,show g+2≠c by omega,show¬g+2=c by omega]
theorem XG:∀(k:Nat)(l:List UInt8)(m:Nat)(y:lL IL×Nat×Nat),rU k l m=.ok y->y.1.lab.text.length<=l.length
 |0,l,m,y,h=>by
  simp only[rU]at h;split at h<;>cases h
 |k+1,l,m,y,h=>by
  simp only[rU]at h;split at h;.cases h
  .split at h
   .cases h
   .split at h
    .cases h
    .split at h
     .split at h
      .cases h
      .cases h;exact jy _
     .cases h
      simp only[lL.nk,ky,jS];omega
theorem UI(c:mU)(hc:mK c=true)(O:c.wf):∃fn:FuncId,Gd c=.func (.func fn) #[lC #[lg lH c.dep,lg lH c.mX]] #[]/\(∀a b d W,kJ iG (callFunc fn #[a,b,d]) W=.ok (.enter fn #[a,b,d]) W)/\
  ∀(t:lL TL)(s:ByteArray)(w:iH)(ou:Option kr)(cu:Nat),mD w (lh ou t.sub.length cu) t.sub->oG w->yK w->nG t=true->(c.fmt=1->(lL.mR p0 t.sub&&nG t)=true)->s.size<=100000->
   iU iG fn #[lC #[lg lH c.dep,lg lH c.mX],lC #[lg lH t.lab.kind,lg lH t.lab.size,lh ou t.sub.length cu,lg lH t.lab.tail],ll s] w (yJ (Bo c t s) w):=by
 obtain⟨_,_,_,⟨ae,hd2⟩,hi1,hi2⟩:=oV hc;obtain⟨_,_,_,_,Q,U⟩:=O;by_cases C:c.fmt=1
 .refine⟨86,if_pos C,λ_ _ _ _=>rfl,λt s w ou cu A E J V N hs=> ?_⟩
  have e:Bo c t s=Ki t s c.mX:=if_pos C;rw[e];refine Fx t s c.dep c.mX w ou cu _ A λW hb=> ?_
  exact XD t s c.mX W ou cu (Shape.lY.below A hb) (E.below hb E.lt) (tu J (mH.of (b:=w.heap.size) (q:=w.heap.size) hb) (by have:=J.lt;omega) (by have:=J.lt;omega)) (N C) hs ⟨lK,hi2⟩
 .refine⟨84,if_neg C,λ_ _ _ _=>rfl,λt s w ou cu A E J V N hs=> ?_⟩
  have e:Bo c t s=xN t (vI s.data.toList (rU (min c.dep 16).toNat s.data.toList (min c.mX 1024).toNat)):=if_neg C;rw[e];refine KP t s c.dep c.mX w ou cu _ A λW hb=> ?_
  refine TA t _ ?_ W _ (Shape.lY.below A hb) ?_ (E.below hb E.lt) s c.dep c.mX λY=>XF c.dep c.mX _ _ rfl rfl s Y hs Q U
  .intro er h
   unfold vI at h;split at h
   .rename_i Z
    have:=xR _ _ _ _ Z;cases h;omega
   .split at h
    .cases h;decide
    .cases h
  .intro x h
   unfold vI at h;split at h;.cases h
   .rename_i y aa
    split at h;.cases h
    .cases h
     have af:=XG _ _ _ _ aa;have ag:s.data.toList.length=s.size:=lU;have ah:(100000:Nat)<=jb:=lM;omega
def bOf(d:Bool)(v:iJ):Option Nat:=if d=true then(match v with| lq (some a)=>some a.block|_=>none)else none
structure yN(Bs:iH->Prop)(lim:Nat)(cs:Option kr->Nat->Array iJ)(er:Int)(zc:Array iJ)(T:jg)(Ps:Option kr->Nat->Prop)(S:List (lL IL))(d9 d10 d11 d13 d14:Bool)(v9 v10 v11 v13:iJ)(W:iH):Prop where
 bs:Bs W
 lm:lim<W.heap.size
 cl:d9=true->∃ov cv,Ps ov cv/\v9=lD #[lC (cs ov cv),lg lH er]/\(d10=true->v10=lD #[lC (cs ov cv),lg lH er])/\(d11=true->v11=lC (cs ov cv))/\lX W (λc=>lim<c/\bOf d13 v13≠some c) (lh ov S.length cv) S/\
  (d14=true->∃b,v13=lq (some ⟨b,0,none⟩)/\lim<b/\b<W.heap.size/\lN W b (cs ov cv) T)
 dn:d10=true->d9=true
 dm:d11=true->d10=true
 bk:d13=true->d14=false->∃b,v13=lq (some ⟨b,0,none⟩)/\lim<b/\lN W b zc T
section
variable {Bs:iH->Prop}{lim:Nat}{cs:Option kr->Nat->Array iJ}{er:Int}{zc:Array iJ}{T:jg}{Ps:Option kr->Nat->Prop}{S:List (lL IL)}{d9 d10 d11 d13 d14:Bool}{v9 v10 v11 v13:iJ}{W W':iH}
theorem yN.ini(hb:Bs W)(hl:lim<W.heap.size):yN Bs lim cs er zc T Ps S false false false false false v9 v10 v11 v13 W:=⟨hb,hl,(λh=>by cases h),(λh=>by cases h),(λh=>by cases h),(λh=>by cases h)⟩
theorem yN.call(oL:∀W W',Bs W->lim<W.heap.size->iK (lim+1) W W'->Bs W')(h:yN Bs lim cs er zc T Ps S false false false d13 false v9 v10 v11 v13 W)(hb:iK W.heap.size W W'){ov:Option kr}{cv:Nat}(hp:Ps ov cv)(hs:lX W' (λc=>W.heap.size<=c) (lh ov S.length cv) S):
  yN Bs lim cs er zc T Ps S true false false d13 false (lD #[lC (cs ov cv),lg lH er]) v10 v11 v13 W':=by
 have hl:=h.lm;refine⟨oL W W' h.bs hl (hb.mono hl),jq hl hb.size,λ_=>⟨ov,cv,hp,rfl,(λh=>by cases h),(λh=>by cases h),Shape.lY.keep hs (iI _) (λc _ hc=> ?_) (λ_ _ _=>rfl),(λh=>by cases h)⟩,λ_=>rfl,(λh=>by cases h),λA J=> ?_⟩
 .have E:W.heap.size<=c:=hc
  refine⟨lK,λe=> ?_⟩;cases d13 with
  |false=>cases e
  |true=>
   obtain⟨b,rfl,_,hB⟩:=h.bk rfl rfl;have C:some b=some c:=e;cases C;have:=hB.lt;omega
 .obtain⟨b,e1,e2,e3⟩:=h.bk A rfl
  exact⟨b,e1,e2,Below.blk hb e3 e3.lt⟩
theorem yN.done(h:yN Bs lim cs er zc T Ps S d9 d10 d11 d13 d14 v9 v10 v11 v13 W)(hd:d10=true):d9=true:=h.dn hd
theorem yN.mv(h:yN Bs lim cs er zc T Ps S true false false d13 false v9 v10 v11 v13 W):yN Bs lim cs er zc T Ps S true true false d13 false v9 v9 v11 v13 W:=by
 obtain⟨ov,cv,A,a2,_,_,a5,_⟩:=h.cl rfl;exact⟨h.bs,h.lm,λ_=>⟨ov,cv,A,a2,λ_=>a2,(λh=>by cases h),a5,(λh=>by cases h)⟩,λ_=>rfl,(λh=>by cases h),h.bk⟩
theorem yN.tup(h:yN Bs lim cs er zc T Ps S true true d11 d13 d14 v9 v10 v11 v13 W):∃ov cv,v10=lD #[lC (cs ov cv),lg lH er]:=by
 obtain⟨ov,cv,_,_,a3,_⟩:=h.cl rfl;exact⟨ov,cv,a3 rfl⟩
theorem yN.ext(h:yN Bs lim cs er zc T Ps S true true false d13 false v9 v10 v11 v13 W):∃ov cv,v10=lD #[lC (cs ov cv),lg lH er]/\yN Bs lim cs er zc T Ps S true true true d13 false v9 v10 (lC (cs ov cv)) v13 W:=by
 obtain⟨ov,cv,A,a2,a3,_,a5,_⟩:=h.cl rfl;exact⟨ov,cv,a3 rfl,h.bs,h.lm,λ_=>⟨ov,cv,A,a2,a3,λ_=>rfl,a5,(λh=>by cases h)⟩,λ_=>rfl,λ_=>rfl,h.bk⟩
theorem yN.made(oL:∀W W',Bs W->lim<W.heap.size->iK (lim+1) W W'->Bs W')(h:yN Bs lim cs er zc T Ps S d9 d10 d11 false false v9 v10 v11 v13 W):yN Bs lim cs er zc T Ps S d9 d10 d11 true false v9 v10 v11 (lq (some ⟨W.heap.size,0,none⟩)) (W.alloc (lG zc T)):=by
 have hb:=(iL W.heap.size W).alloc (iI _) (lG zc T);have hl:=h.lm;refine⟨oL W _ h.bs hl (hb.mono hl),jq hl hb.size,λA=> ?_,h.dn,h.dm,λ_ _=>⟨_,rfl,hl,lN.new W _ _⟩⟩;obtain⟨ov,cv,C,a2,a3,a4,a5,_⟩:=h.cl A;refine⟨ov,cv,C,a2,a3,a4,Shape.lY.keep a5 hb.size (λc hc E=>⟨E.1,λe=> ?_⟩) (λc hc _=>hb.block c hc),(λh=>by cases h)⟩;have J:some W.heap.size=some c:=e;cases J;omega
theorem yN.st(oL:∀W W',Bs W->lim<W.heap.size->iK (lim+1) W W'->Bs W')(h:yN Bs lim cs er zc T Ps S true true true true false v9 v10 v11 v13 W):∃ov cv b,v11=lC (cs ov cv)/\v13=lq (some ⟨b,0,none⟩)/\lN W b zc T/\
  ∀W',(∀c,c≠b->W'.heap[c]? =W.heap[c]?)->W'.heap.size=W.heap.size->W'.os=W.os->W'.tape=W.tape->W'.output=W.output->lN W' b (cs ov cv) T->yN Bs lim cs er zc T Ps S true true true true true v9 v10 v11 v13 W':=by
 obtain⟨ov,cv,J,a2,a3,a4,a5,_⟩:=h.cl rfl;obtain⟨b,rfl,C,hB⟩:=h.bk rfl rfl;refine⟨ov,cv,b,a4 rfl,rfl,hB,λW' E A N O Q U=> ?_⟩;have hl:=h.lm;refine⟨oL W W' h.bs hl ⟨N,O,Q,kX A.symm,λc hc=>E c lK⟩,A▸hl,λ_=>⟨ov,cv,J,a2,a3,a4,Shape.lY.keep a5 (kX A.symm) (λ_ _ h=>h) (λc _ V=>E c λe=>V.2 (by rw[e];rfl)),λ_=>⟨b,rfl,C,A▸hB.lt,U⟩⟩,λ_=>rfl,λ_=>rfl,λ_ h=>by cases h⟩
theorem yN.fin(h:yN Bs lim cs er zc T Ps S true true true true true v9 v10 v11 v13 W):∃ov cv b,Ps ov cv/\v9=lD #[lC (cs ov cv),lg lH er]/\v10=lD #[lC (cs ov cv),lg lH er]/\v11=lC (cs ov cv)/\v13=lq (some ⟨b,0,none⟩)/\lim<b/\lN W b (cs ov cv) T/\
  lX W (λc=>lim<c/\c≠b) (lh ov S.length cv) S:=by
 obtain⟨ov,cv,E,a2,a3,a4,a5,a6⟩:=h.cl rfl;obtain⟨b,rfl,A,_,hB⟩:=a6 rfl;exact⟨ov,cv,b,E,a2,a3 rfl,a4 rfl,rfl,A,hB,Shape.lY.keep a5 (iI _) (λc _ C=>⟨C.1,λe=>C.2 (by rw[e];rfl)⟩) λ_ _ _=>rfl⟩
end
theorem KQ(W:iH)(k:Nat)(a b c:iJ):(∀d,d≠k->(nA W k a b c).heap[d]? =W.heap[d]?)/\(nA W k a b c).heap.size=W.heap.size/\(nA W k a b c).os=W.os/\(nA W k a b c).tape=W.tape/\(nA W k a b c).output=W.output:=
 ⟨λd hd=>by simp[nA,jf,jK,Ne.symm hd],by simp[nA,jf],rfl,rfl,rfl⟩
theorem Q6{W:iH}{k:Nat}{a b c a0 b0 c0:iJ}{t:jg}(h:lN W k #[a0,b0,c0] t):lN (nA W k a b c) k #[a,b,c] t:=((h.set 0 a).set 1 b).set 2 c
theorem wB(W:iH)(k:Nat)(a b c e:iJ):(∀d,d≠k->(wu W k a b c e).heap[d]? =W.heap[d]?)/\(wu W k a b c e).heap.size=W.heap.size/\(wu W k a b c e).os=W.os/\(wu W k a b c e).tape=W.tape/\(wu W k a b c e).output=W.output:=
 ⟨λd hd=>by simp[wu,jf,jK,Ne.symm hd],by simp[wu,jf],rfl,rfl,rfl⟩
end
end Go.Proofs.YtamfcjmhnndbdaaGreatDoor


