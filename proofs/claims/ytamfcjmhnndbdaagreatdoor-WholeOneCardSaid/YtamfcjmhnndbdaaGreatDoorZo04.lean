/- Part 4 of the proof. -/
import Derived.Test.YtamfcjmhnndbdaaGreatDoorZoA
import Derived.Test.YtamfcjmhnndbdaaGreatDoorZo00
import Derived.Test.YtamfcjmhnndbdaaGreatDoorZo01
import Derived.Test.YtamfcjmhnndbdaaGreatDoorZo02
import Derived.Test.YtamfcjmhnndbdaaGreatDoorZo03
import Derived.Test.YtamfcjmhnndbdaaGreatDoorRows
import Derived.WalkSpells
import Derived.OwnWalk
import Derived.IntWalk
import Derived.Lib.Strings
import Derived.Deep.CutBlock
import Derived.Deep.DeepCutAuto
import Derived.RegionTactic
import Derived.ChangeAlike
open Go.Value renaming agg→nI,bool→nH,int→Y,pointer→nG,slice→u,string→G,tuple→nJ
open Go.Obj renaming cells→nL
open Go.IntKind renaming i64→X,u64→nN
open Go.Ending renaming returned→nK,returned→kZ
open Go.Lib renaming hid→H,extract_data→mF
open Go.Proofs.Tryz renaming prog→jy,underlying3→mG
open Go renaming World→M,Value→jC,Calls→jG,maxLen→jN,bodyPost_ret→jO,TypeId→jX,results→kF,Addr→kW
open Nat renaming le_refl→jB,le_trans→jM,lt_of_lt_of_le→jZ,add_assoc→kK,lt_or_ge→kQ,le_succ→kR,pow_succ→kV,lt_succ_self→lF,pow_le_pow_right→lG,zero_add→mU,two_pow_add_eq_or_of_lt→mW,add_zero→nk
open Go.RowKit renaming Below→jD,Hid→jI,intOf→kC
open Go.RowKit.Below renaming refl→jE
open And renaming intro→jF
open List renaming setIfInBounds_toArray→jH,getElem?_eq_getElem→jL,set_cons_zero→jQ,set_cons_succ→jR,getElem?_cons_zero→jS,getElem?_cons_succ→jT,getElem?_toArray→jV,length_cons→j4,length_take→kD,mem_of_getElem?→kE,length_drop→kG,take_of_length_le→kS,getElem?_eq_some_iff→lu,take_length→lM,length_eq_zero_iff→mh,drop_zero→mM,take_append_drop→mO,drop_eq_getElem_cons→nA
open Bool renaming and_eq_true→jJ,false_eq_true→lS,true_and→mQ
open Option renaming bind_eq_some_iff→kg,bind_some→kr
open Go.Instr renaming index→kP,lookup→lV
open Go.Lit renaming int→kY
open Go.Sem renaming run→lL
open Option.some renaming injEq→mI
open Go.World renaming cell?→mV,cell?_of_block→mX
open Ne renaming symm→nz
open Option renaming none→V,some→U
open Bool renaming true→R,false→O
open Go.Addr renaming mk→Z
open Decidable renaming decide→At
namespace Go.Proofs.YtamfcjmhnndbdaaGreatDoor
set_option linter.unusedVariables false
set_option linter.defProp false
set_option linter.unusedSimpArgs false
set_option maxRecDepth 100000
set_option maxHeartbeats 8000000
variable {p:Prop}{most i b:Nat}{l:List Ax}{q:Nat×List Ax}{w w':M}{v:jC}{oa:Option kW}{α:Type}{r:Option Nat}
section
open Go.RowKit
def Ea(x:nS IL)(d n A bc bd:Nat)(w:M)(e:Ending)(w':M):Prop:=
 e=nK (nH (KE x d n))/\oW bc bd w w'/\(∃C,C<=1024/\NB w' bc C)/\(∃A,A<=16/\NB w' bd A)/\(KE x d n=R->NB w' bc (n+x.count)/\NB w' bd (max A (d+x.deep - 1)))
def UB(h:p:=by
 go_wp2_with fail;exact HP _ _ ⟨by rw[HE.out];rfl,HU1.out,⟨n,hn,HX1.2.1⟩,⟨dd,hdd,HX1.2.2.1⟩,λh=>by rw[HE.out]at h;cases h⟩):p:=h
def Pn(fe:FuncId)(x:nS IL):Bb fe x->∀(w:M)(v:jC)(d n dd bc be bd bv:Nat),D9 bc bd w v x.sub->NB w bc n->NB w bd dd->Bc fe w bc be bd bv->d<=17->n<=1024->dd<=16->
  jG jy 238 #[nI #[G (txt x.lab),nH x.lab.list,v],Y X d,nG (U (Z bc 0 V)),nG (U (Z be 0 V)),nG (U (Z bd 0 V)),nG (U (Z bv 0 V))] w (Ea x d n dd bc bd w):=by
 induction x using nS.ind with
 |h a s cZ=>
  intro aB w v d n dd bc be bd bv aQ bQ bR df hd hn hdd;have dh:=H aB;have hcf:=aB.cf;simp only[nS.rE,nS.o9]at aQ|-;obtain⟨oa,cap,rfl,bS,aV⟩:=oo.slice aQ;obtain⟨g,hg⟩:=og w.heap.size;have aW:s.length<=9223372036854775807:=by unfold jN at aV;omega
  have HP:jI (∀e w',(e=nK (nH (KE (.node a s) d n))/\oW bc bd w w'/\(∃dw,dw<=1024/\NB w' bc dw)/\(∃dd,dd<=16/\NB w' bd dd)/\(KE (.node a s) d n=R->NB w' bc (n+(1+nS.oz s))/\NB w' bd (max dd (d+(nS.pz s+1) - 1))))->Ea (.node a s) d n dd bc bd w e w'):=H λ_ _ h=>h
  generalize dx:Ea (.node a s) d n dd bc bd w=dR at HP|-;have I:jI (KE (.node a s) d n=(At (d+(nS.pz s+1)<=17)&&At (n+(1+nS.oz s)<=1024)&&(tu a s.length&&nS.pF p9 s))):=H rfl;have eZ:bc<g:=hg▸nU.lt bQ;have fq:bd<g:=hg▸nU.lt bR
  have bT:jI (∀W,w.alloc (nL #[G (txt a),nH a.list,u oa s.length cap] IT)=W->oW bc bd w W/\D9 bc bd W (u oa s.length cap) s/\NB W bc n/\NB W bd dd/\Bc fe W bc be bd bv/\W.heap.size=g+1/\
    nU W g #[G (txt a),nH a.list,u oa s.length cap] IT):=H λW h=>by
   subst h;have E:=(jE w.heap.size w).alloc (jB _) (nL #[G (txt a),nH a.list,u oa s.length cap] IT);exact⟨oW.of E,aQ.upd (oW.of E),bQ.below E,bR.below E,df.below E,nY,hg▸nU.new w _ _⟩
  generalize KE (.node a s) d n=ar at*;obtain⟨aq,bU⟩:=og s.length;have aR:=H bU;have dS:=H cZ;obtain⟨C,af⟩:=og (nS.oz s);have dz:=H af;obtain⟨D,ag⟩:=og (nS.pz s);have dA:=H ag;rw[bU]at bT aW I|-;rw[af,ag]at I;rw[af,ag]at HP;clear aQ bS aV cZ bU bQ bR af ag dx df;go_in;go_upto_region 1 with fail;generalize w.alloc (nL #[G (txt a),nH a.list,u oa aq cap] IT)=w1 at*;obtain⟨aX,aY,aC,aZ,aD,hsz,hB⟩:=bT.out _ rfl;obtain⟨dU,dB,g2⟩:=hB.a3;have dV:w1.cell? (Z bc 0 V)=U (Y X n):=aC.cell 0;have dW:w1.cell? (Z be 0 V)=U (.func (.func fe) #[] #[]):=aD.each.cell 0;have HU1:=H aX;have HX1:=H (jF aY (jF aC (jF aZ (jF aD hB))));have aS:=H (a3f aB oa cap w1 (aR.out▸aW));rw[aR.out]at aS;clear bT aX aY aC aZ aD hB;by_cases cd:16<d
  .have dX:At (16<(d:Int))=R:=nY
   have HE:jI (ar=O):=H (by rw[I.out,decide_eq_false K];rfl);clear cd;exact UB
  have dX:At (16<(d:Int))=O:=nY;have dY:d<=16:=K;clear cd;by_cases bV:n=1024
  .have dZ:((n:Int)==1024)=R:=by simp[bV]
   have HE:jI (ar=O):=H (by rw[I.out,decide_eq_false (by omega:¬n+(1+C)<=1024),Bool.and_false];rfl);clear bV;exact UB
  have dZ:((n:Int)==1024)=O:=vo;have fu:n<=1023:=K;clear bV;generalize tu a aq=q at*;cases q with
  |false=>
   have HE:jI (ar=O):=H (by rw[I.out];simp);go_wp2_with fail;refine aS.mono ?_;rintro e w2 ⟨rfl,A⟩;have ah:=H (HU1.trans (oW.of A));have dD:=H (HX1.2.1.below A);have dE:=H (HX1.2.2.1.below A);clear A;go_wp2_with fail;exact HP _ _ ⟨by rw[HE.out];rfl,ah.out,⟨n,hn,dD.out⟩,⟨dd,hdd,dE.out⟩,λh=>by rw[HE.out]at h;cases h⟩
  |true=>
   have dF:jI (ar=(At (d+(D+1)<=17)&&At (n+(1+C)<=1024)&&nS.pF p9 s)):=H (by rw[I.out];simp);clear I;obtain⟨dm,aF⟩:=og (max dd d);have ed:(if dd<d then(d:Int)else(dd:Int))=(dm:Int):=by split<;>omega
   have aG:max (dd:Int) (d:Int)=(dm:Int):=K;have aG:dm<=16:=K;have bg:=H aF;clear aF;go_wp2_with fail;refine aS.mono ?_;rintro e w2 ⟨rfl,A⟩;have ai:=HX1.2.1.below A;have hd2:=HX1.2.2.1.below A;have a0:w2.cell? (Z bc 0 V)=U (Y X n):=ai.cell 0;have ek:w2.frozen? (Z bc 0 V)=O:=ai.free 0;have b0:w2.cell? (Z bd 0 V)=U (Y X dd):=hd2.cell 0;have b1:w2.frozen? (Z bd 0 V)=O:=hd2.free 0;have bq:bc≠bd:=HX1.2.2.2.1.cd;have dG:g≠bc:=K;have dH:g≠bd:=K;have ah:=H (HU1.trans (oW.of A));have eu:=H (jF ai (jF hd2 (jF (HX1.1.upd (oW.of A)) (jF (HX1.2.2.2.1.below A) (Below.blk A HX1.2.2.2.2 K)))));clear A ai hd2 aS dU dB g2 dW dV;have bu:jI (∀W,(w2.setCell (Z bc 0 V) (Y X ((n:Int)+1))).setCell (Z bd 0 V) (Y X dm)=W->oW bc bd w2 W/\NB W bc (n+1)/\NB W bd dm/\nU W g #[G (txt a),nH a.list,u oa aq cap] IT/\D9 bc bd W (u oa aq cap) s/\Bc fe W bc be bd bv):=H λW h=>by
    subst h;obtain⟨eB,eD,eF,eG,eH⟩:=eu.out;have J:oW bc bd w2 ((w2.setCell (Z bc 0 V) (Y X ((n:Int)+1))).setCell (Z bd 0 V) (Y X dm)):=((oW.refl bc bd w2).C8 0 _).Q6 0 _;refine⟨J,?_,?_,J.blk eH dG dH,eF.upd J,eG.upd J⟩
    .have:=(nU.set eB 0 (Y X ((n:Int)+1))).setOther (a:=(Z bd 0 V)) bq (Y X dm)
     exact this
    .have:=(nU.setOther eD (a:=(Z bc 0 V)) (nz bq) (Y X ((n:Int)+1))).set 0 (Y X dm)
     exact this
   go_upto_region 5 with fail;generalize (w2.setCell (Z bc 0 V) (Y X ((n:Int)+1))).setCell (Z bd 0 V) (Y X dm)=w3 at*;obtain⟨bz,bA,bB,bC,bD,bE⟩:=bu.out _ rfl;have fw:w3.cell? (Z g 2 V)=U (u oa aq cap):=bC.cell 2;have az:=H (jF bz (jF bA (jF bB (jF bD bE))));clear bu bz bA bB bC bD bE a0 ek b0 b1;go_wp2_with fail
   go_loopw [10,31] (λ_ iv bW=>∃k:Nat,iv=Y X k/\k<=aq/\jI (oW bc bd w3 bW)/\jI (NB bW bc (n+1+nS.oz (s.take k))/\n+1+nS.oz (s.take k)<=1024)/\jI (∃e,e<=16/\NB bW bd e/\e=max dm (d+nS.pz (s.take k)))/\
    jI (d+1+nS.pz (s.take k)<=17/\nS.pF p9 (s.take k)=R)) (λ_ iv _=>aq -(kC iv).toNat)
   case atStart=>exact⟨0,rfl,K,H (oW.refl _ _ _),H (by simpa [nS.oz]using⟨az.2.1,K⟩),H ⟨dm,aG,az.2.2.1,by have:=bg.out;simp[nS.pz];omega⟩,H ⟨by simp[nS.pz];omega,by simp[nS.pF]⟩⟩
   case round=>
    obtain⟨k,rfl,hk,aT,aj,ak,aU⟩:=hrel;have eO:jI (oW bc bd w wr):=H (ah.trans (az.1.trans aT));by_cases c:k<aq
    .obtain⟨y,hy⟩:∃y,s[k]? =U y:=⟨_,jL (by rw[aR.out];exact c)⟩
     have bF:=az.2.2.2.1.upd aT.out;obtain⟨b,off,ao,rfl,hlt,bX,fA,fB,y2,J,dI⟩:=oo.at_ bF hy;have bG:=az.2.2.2.2.upd aT.out;obtain⟨ou,cu,rfl,_,_⟩:=oo.slice J;obtain⟨N,bH⟩:=og y.sub.length;rw[bH]at J y2;obtain⟨e,he,bI,aH⟩:=ak.out;have dJ:=H aH;clear aH;obtain⟨ae,aI⟩:=og (n+1+nS.oz (s.take k));have au:=aj.out;rw[aI]at au
     have dK:jI (∀W,wr.alloc (nL #[G (txt y.lab),nH y.lab.list,u ou N cu] IT)=W->oW bc bd w3 W/\D9 bc bd W (u ou N cu) y.sub/\NB W bc ae/\NB W bd e/\Bc fe W bc be bd bv/\
       nU W wr.heap.size #[G (txt y.lab),nH y.lab.list,u ou N cu] IT):=H λW h=>by
      subst h;have E:=(jE wr.heap.size wr).alloc (jB _) (nL #[G (txt y.lab),nH y.lab.list,u ou N cu] IT);exact⟨aT.trans (oW.of E),D9.upd J (oW.of E),au.1.below E,bI.below E,bG.below E,nU.new wr _ _⟩
     have dL:=H au.2;have bJ:=H aI;clear J dI bH bI bF bG au aI bX;go_upto_region 8 with fail;generalize wr.alloc (nL #[G (txt y.lab),nH y.lab.list,u ou N cu] IT)=w4 at*;obtain⟨aJ,bK,bL,bM,aK,av⟩:=dK.out _ rfl;have b0:w4.cell? (Z wr.heap.size 0 V)=U (G (txt y.lab)):=av.cell 0;have b1:w4.cell? (Z wr.heap.size 1 V)=U (nH y.lab.list):=av.cell 1;have fC:w4.cell? (Z wr.heap.size 2 V)=U (u ou N cu):=av.cell 2;have v0:w4.cell? (Z bv 0 V)=U (.func (.func 238) #[] #[nG (U (Z bc 0 V)),nG (U (Z be 0 V)),nG (U (Z bd 0 V)),nG (U (Z bv 0 V))]):=aK.visit.cell 0
     have dM:jI (jG jy 238 #[nI #[G (txt y.lab),nH y.lab.list,u ou N cu],Y X ((d:Int)+1),nG (U (Z bc 0 V)),nG (U (Z be 0 V)),nG (U (Z bd 0 V)),nG (U (Z bv 0 V))] w4
       (Ea y (d+1) ae e bc bd w4)):=H (dS y (kE hy) (dh.sub hy) w4 (u ou N cu) (d+1) ae e bc be bd bv bK bL bM aK K dL he)
     have dN:=H (ah.trans (az.1.trans aJ));have bY:=H aJ;have aL:jI (KE y (d+1) ae=(At (d+1+y.deep<=17)&&At (ae+y.count<=1024)&&y.all p9)):=H rfl;clear dK aJ bK bL bM aK av;obtain⟨r,bZ⟩:=og (KE y (d+1) ae);rw[bZ]at aL;have bN:=H bZ;clear bZ;cases r with
     |true=>
      go_wp2_with fail;refine(dM).mono ?_;rintro e2 w5 ⟨rfl,aa,ax,ay,hok⟩;rw[bN.out]at hok|-;have aM:=H (bY.trans aa);have aN:=H (hok rfl).1;have aO:=H (hok rfl).2;clear aa ax ay hok;go_wp2_with fail;have aP:=aL.out;have cz:=nS.yA hy;have cK:=nS.zN hy;have eP:=nS.xC (p:=p9) hy;have eQ:=bJ.out;have aA:=aU.out;simp only[Bool.true_eq,jJ,decide_eq_true_eq]at aP;go_roundw;case rel=>
       refine⟨k+1,by go_num,K,H aM.out,H ⟨?_,by rw[cz];omega⟩,H ⟨_,?_,aO.out,?_⟩,H ⟨by rw[cK];omega,by rw[eP,aA.2,aP.2];rfl⟩⟩
       .rw[cz,show n+1+(nS.oz (s.take k)+y.count)=ae+y.count by omega]
        exact aN
       .omega
       .have:=dJ.out
        rw[cK];omega
      case measure=>simp[kC];omega
     |false=>
      go_wp2_with fail;refine(dM).mono ?_;rintro e2 w5 ⟨rfl,aa,ax,ay,hok⟩;rw[bN.out];have aM:=H (dN.trans aa);have aN:=H ax;have aO:=H ay;clear aa ax ay hok;go_wp2_with fail;have bO:ar=O:=by
       have aP:=aL.out;have cz:=nS.yA hy;have cK:=nS.zN hy;have eQ:=bJ.out;have eT:=nS.xR s (k+1);have eU:=a8H.wy s (k+1);rw[dz.out]at eT;rw[dA.out]at eU;have eX:¬(d+(D+1)<=17/\n+(1+C)<=1024/\nS.pF p9 s=R):=by
        rintro⟨dB,g2,g3⟩;have e3:y.all p9=R:=by
         cases dO:y.all p9 with
         |true=>rfl
         |false=>rw[nS.uH hy dO]at g3;cases g3
        rw[decide_eq_true K,decide_eq_true K,e3]at aP;cases aP
       rw[dF.out];cases aA:(At (d+(D+1)<=17)&&At (n+(1+C)<=1024)&&nS.pF p9 s)with
       |false=>rfl
       |true=>
        exfalso;simp only[jJ,decide_eq_true_eq]at aA;exact eX ⟨aA.1.1,aA.1.2,aA.2⟩
      exact HP _ _ ⟨by rw[bO];rfl,aM.out,aN.out,aO.out,λh=>by rw[bO]at h;cases h⟩
    .obtain rfl:k=aq:=K
     have dP:s.take k=s:=by rw[<-aR.out,lM]
     rw[dP]at aj aU ak;rw[dz.out]at aj;rw[dA.out]at aU ak;go_wp2_with fail;have eY:=aU.out;have hc:=aj.out;have dQ:ar=R:=by rw[dF.out,decide_eq_true K,decide_eq_true K,eY.2];rfl
     obtain⟨e,he,bP,aH⟩:=ak.out;have aF:=bg.out;refine HP _ _ ⟨by rw[dQ];rfl,eO.out,⟨_,hc.2,hc.1⟩,⟨e,he,bP⟩,λ_=>⟨by rw[show n+(1+C)=n+1+C by omega];exact hc.1,?_⟩⟩;rw[show max dd (d+(D+1) - 1)=e by omega];exact bP
def Gw(x:nS IL):Int:=if si x=R then(x.count:Int)else 0
def Po(x:nS IL):Int:=if si x=R then(x.deep:Int)else 0
def I1(fe:FuncId)(x:nS IL)(w:M)(v:jC)(az:qF w v x.sub)(aM:Bb fe x):
  jG jy 199 #[nI #[G (txt x.lab),nH x.lab.list,v],.func (.func fe) #[] #[]] w λe w'=>e=nK (nJ #[Y X (Gw x),Y X (Po x),nH (si x)])/\jD w.heap.size w w':=by
 obtain⟨g,hg⟩:=og w.heap.size;obtain⟨oa,cap,rfl,aA,aH⟩:=oo.slice az;obtain⟨w1,e1⟩:=og (w.alloc (nL #[G (txt x.lab),nH x.lab.list,u oa x.sub.length cap] IT));obtain⟨w2,e2⟩:=og (w1.alloc (nL #[.func (.func fe) #[] #[]] 56));obtain⟨w3,e3⟩:=og (w2.alloc (nL #[Y X 0] 3));obtain⟨w4,e4⟩:=og (w3.alloc (nL #[Y X 0] 3));obtain⟨w5,e5⟩:=og (w4.alloc (nL #[.nilFunc] 273));have aB:=Za (W:=w5.setCell (Z (g+4) 0 V) (RO g)) hg az ⟨e1,e2,e3,e4,e5⟩ rfl;obtain⟨hI,aN,aO,aP,aQ,aR,aC⟩:=aB;obtain⟨ar,J⟩:=og (si x);have aS:=H J;obtain⟨sn,N⟩:=og (Gw x);obtain⟨aT,aa⟩:=og (Po x);have aj:jI (sn=(if ar=R then(x.count:Int)else 0)/\aT=(if ar=R then(x.deep:Int)else 0)):=H ⟨by rw[<-N,<-J];rfl,by rw[<-aa,<-J];rfl⟩;rw[N,aa];have I:=H hI;have aI:=H (λ(h:UA fe g w (w5.setCell (Z (g+4) 0 V) (RO g)) x.lab (u oa x.sub.length cap) x.sub)=>Pn fe x aM (w5.setCell (Z (g+4) 0 V) (RO g)) (u oa x.sub.length cap) 1 0 0 (g+2) (g+1) (g+3) (g+4) h.off h.c h.d h.vis nT nT nT);rw[hg,J];clear az aA aH J hI N aa;generalize x.sub.length=aq at*;go_in;go_upto_region 3 with fail;generalize w5.setCell (Z (g+4) 0 V) (RO g)=ae at*;have v0:ae.cell? (Z (g+4) 0 V)=U (RO g):=I.vis.visit.cell 0;have bg:ae.cell? (Z g 0 V)=U (G (txt x.lab)):=I.item.cell 0;have bq:ae.cell? (Z g 1 V)=U (nH x.lab.list):=I.item.cell 1;have bu:ae.cell? (Z g 2 V)=U (u oa aq cap):=I.item.cell 2;have aJ:=H (aI I);clear aI e1 e2 e3 e4 e5 aR aC aN aO aP aQ;go_wp2_with fail;refine(aJ).mono ?_;rintro e A ⟨rfl,ak,⟨af,aY,C⟩,⟨ag,aZ,E⟩,hok⟩;rw[WA,aS.out]at hok|-;have aK:jI (ar=R->af=x.count/\ag=x.deep):=H λh=>by
  obtain⟨ah,aU⟩:=hok h;have aC:=(Eq.symm (C.cell 0)).trans (ah.cell 0);have aV:=(Eq.symm (E.cell 0)).trans (aU.cell 0);simp only[jV,jS,mI,Value.int.injEq,true_and]at aC aV;omega
 clear hok;have a0:A.cell? (Z (g+2) 0 V)=U (Y X af):=C.cell 0;have bz:A.frozen? (Z (g+2) 0 V)=O:=C.free 0;have b0:A.cell? (Z (g+3) 0 V)=U (Y X ag):=E.cell 0;have b1:A.frozen? (Z (g+3) 0 V)=O:=E.free 0;have au:g+2≠g+3:=K;have av:jI (∀ao v:jC,jD g w ((A.setCell (Z (g+2) 0 V) ao).setCell (Z (g+3) 0 V) v)):=H λao v=>by
  have ai:oW (g+2) (g+3) ae ((A.setCell (Z (g+2) 0 V) ao).setCell (Z (g+3) 0 V) v):=(ak.C8 0 ao).Q6 0 v;have h0:=I.ql;refine⟨ai.os.trans h0.os,ai.tape.trans h0.tape,ai.output.trans h0.output,jM h0.size ai.size,λc hc=> ?_⟩;exact(ai.block c (by have:=I.size;omega) K K).trans (h0.block c hc)
 have ax:jI (∀ao v:jC,((A.setCell (Z (g+2) 0 V) ao).setCell (Z (g+3) 0 V) v).cell? (Z (g+2) 0 V)=U ao/\((A.setCell (Z (g+2) 0 V) ao).setCell (Z (g+3) 0 V) v).cell? (Z (g+3) 0 V)=U v):=H λao v=>
  ⟨((nU.set C 0 ao).setOther (a:=(Z (g+3) 0 V)) au v).cell 0,((nU.setOther E (a:=(Z (g+2) 0 V)) (nz au) ao).set 0 v).cell 0⟩
 clear ak C E;cases ar with
 |false=>
  go_wp2_with fail;obtain⟨aD,ah⟩:=ax.out (Y X 0) (Y X 0);refine jO (v:=nJ #[Y X 0,Y X 0,nH O]) (by simp[kF,Tryz.results199,go_sem,aD,ah]) rfl ?_;obtain⟨aF,aG⟩:=aj.out;subst aF aG;exact⟨rfl,av _ _⟩
 |true=>
  go_wp2_with fail;go_big_region;obtain⟨aD,ah⟩:=ax.out (Y X af) (Y X ag);have ay:=(av (Y X af) (Y X ag)).drew;have aL:=H ay;clear ay;go_wp2_with fail;refine jO (v:=nJ #[Y X af,Y X ag,nH R]) (by simp[kF,Tryz.results199,go_sem,aD,ah]) rfl ?_;obtain⟨aF,aG⟩:=aj.out;obtain⟨aW,aX⟩:=aK.out (by first|trivial|rfl);subst aF aG aW aX;exact⟨rfl,aL.out⟩
def I4(x:nS IL)(w:M)(v:jC)(A:qF w v x.sub):
  jG jy 199 #[nI #[G (txt x.lab),nH x.lab.list,v],.func (.func 200) #[] #[]] w λe w'=>e=nK (nJ #[Y X (Gw x),Y X (Po x),nH (si x)])/\jD w.heap.size w w':=I1 _ x w v A (.inl rfl)
def wY(x:nS IL)(deep most:Int):Int:=if si x=R then if deep<(x.deep:Int)then 6 else if most<(x.count:Int)then 4 else 0 else 1
def RP(h:p:=by
 go_wp2_with fail;refine CS1.mono ?_;rintro e w2 ⟨rfl,hb2⟩;have HB2:=H (HB.trans (hb2.mono (by have:=HS.out;omega)));clear hb2;go_wp2;go_returns;exact⟨by rw[HE2.out];rfl,HB2.out⟩):p:=h
def WB(x:nS IL)(deep most:Int)(w:M)(v:jC)(af:qF w v x.sub):
  jG jy 159 #[nI #[G (txt x.lab),nH x.lab.list,v],Y X deep,Y X most] w λe w'=>e=nK (Y X (wY x deep most))/\jD w.heap.size w w':=by
 have ag:=H (vF (T:=txt x.lab) (l:=x.lab.list) (t:=IT) af);obtain⟨oa,cap,rfl,ah,aj⟩:=oo.slice af;obtain⟨g,hg⟩:=og w.heap.size;have C:=H (λ(W:M) (h:qF W (u oa x.sub.length cap) x.sub)=>I4 x W _ h);obtain⟨E,ai⟩:=og (wY x deep most);have N:jI (E=if si x=R then if deep<(x.deep:Int)then 6 else if most<(x.count:Int)then 4 else 0 else 1):=H (by rw[<-ai];rfl);rw[hg]at ag|-;rw[ai];unfold Gw Po at C;clear af ah aj ai;generalize si x=ar at*;generalize x.sub.length=aq at*;obtain⟨I,Dp⟩:∃I:Int,(x.deep:Int)=I:=⟨_,rfl⟩;obtain⟨nx,aa⟩:∃nx:Int,(x.count:Int)=nx:=⟨_,rfl⟩;rw[Dp,aa]at C N;clear Dp aa;go_in;go_upto_region 1 with fail;generalize w.alloc (nL #[G (txt x.lab),nH x.lab.list,u oa aq cap] IT)=w1 at*;obtain⟨ae,ht1,hsz,c0,c1,c2,_⟩:=ag.out _ rfl;have ak:=H ht1;have HB:=H ae;have HS:=H hsz;clear ag ht1 ae hsz;cases ar with
 |false=>
  have CS1:=H (C _ ak);have A:jI (E=1):=H (by rw[N.out];rfl);clear C N;go_wp2_with fail;refine CS1.mono ?_;rintro e w2 ⟨rfl,hb2⟩;have HB2:=H (HB.trans (hb2.mono (by have:=HS.out;omega)));clear hb2;go_wp2;go_returns;exact⟨by rw[A.out];rfl,HB2.out⟩
 |true=>
  have CS1:=H (C _ ak);simp only[if_true]at CS1;have A:jI (E=if deep<I then 6 else if most<nx then 4 else 0):=H (by rw[N.out];rfl);clear C N;by_cases cd:deep<I
  .have HE2:jI (E=6):=H (by rw[A.out,AC cd])
   have au:At (deep<I)=R:=decide_eq_true cd;clear A cd;exact RP
  have au:At (deep<I)=O:=decide_eq_false cd;by_cases J:most<nx
  .have HE2:jI (E=4):=H (by rw[A.out,As cd,AC J])
   have av:At (most<nx)=R:=decide_eq_true J;clear A cd J;exact RP
  .have HE2:jI (E=0):=H (by rw[A.out,As cd,As J])
   have av:At (most<nx)=O:=decide_eq_false J;clear A cd J;exact RP
def UC(h:p:=by
 go_wp2;go_returns;have he:=HE.out;have hn:=HN.out;rw[As (λh=>h HQ.2.1),As (λh=>h HQ.2.2.1)]at he hn;subst hn;rw[HQ.2.2.2]at he;subst he;exact⟨rfl,HQ.1⟩):p:=h
def Zb(h:p:=by
 have CC:=H (H3 HQ.2.1 HQ.2.2 _ HQ.1);go_wp2_with fail;refine CC.mono ?_;rintro e w2 ⟨rfl,hp⟩;have HP2:=H hp;have HK1:=H HQ.2;clear hp c0 CC HQ;by_cases c:k3=0
 .have HC:=H c
  subst c;go_wp2;go_roundw;case rel=>exact .inr (.inr (.inr ⟨by go_num,H ⟨HP2.out,HK1.1,HK1.2,by first|trivial|rfl⟩⟩))
  case measure=>simp[kC]
 .have n0:(k3 !=0)=R:=by simp[c]
  have HC:=H c;clear c;go_wp2;go_returns;have he:=HE.out;have hn:=HN.out;rw[As (λh=>h HK1.1),As (λh=>h HK1.2)]at he hn;subst he hn;exact⟨rfl,HP2.out⟩):p:=h
def Zc(h:p:=by
 have CC:=H (H2 HQ.2 _ HQ.1);go_wp2_with fail;refine CC.mono ?_;rintro e w2 ⟨rfl,hp⟩;have HP2:=H hp;have HK1:=H HQ.2;clear hp c0 CC HQ;by_cases c:k2=0
 .have HC:=H c
  subst c;go_wp2;go_roundw;case rel=>exact .inr (.inr (.inl ⟨by go_num,H ⟨HP2.out,HK1.out,by first|trivial|rfl⟩⟩))
  case measure=>simp[kC]
 .have n0:(k2 !=0)=R:=by simp[c]
  have HC:=H c;clear c;go_wp2;go_returns;have he:=HE.out;have hn:=HN.out;rw[As (λh=>h HK1.out),AC HC.out]at he hn;subst he hn;exact⟨rfl,HP2.out⟩):p:=h
def Zd(h:p:=by
 have CC:=H (H1 _ HQ);go_wp2_with fail;refine CC.mono ?_;rintro e w2 ⟨rfl,hp⟩;have HP2:=H hp;clear hp c0 CC;by_cases c:k1=0
 .have HC:=H c
  subst c;go_wp2;go_roundw;case rel=>exact .inr (.inl ⟨by go_num,H ⟨HP2.out,by first|trivial|rfl⟩⟩)
  case measure=>simp[kC]
 .have n0:(k1 !=0)=R:=by simp[c]
  have HC:=H c;clear c;go_wp2;go_returns;have he:=HE.out;have hn:=HN.out;rw[AC HC.out]at he hn;subst he hn;exact⟨rfl,HP2.out⟩):p:=h
def Pp(w:M)(I cb J:Array jC)(b:Nat)(T:jX)(k1 k2 k3:Int)(P:Nat->M->Prop)(ae:∀k W,P k W->nU W b #[.func (.func 156) #[] I,.func (.func 158) #[] cb,.func (.func 160) #[] J] T)(h0:P 0 w)(af:∀W,P 0 W->jG jy 156 I W λe A=>e=nK (Y X k1)/\P 1 A)(ag:k1=0->∀W,P 1 W->jG jy 158 cb W λe A=>e=nK (Y X k2)/\P 2 A)(ah:k1=0->k2=0->∀W,P 2 W->jG jy 160 J W λe A=>e=nK (Y X k3)/\P 3 A):
  jG jy 155 #[u (U (Z b 0 V)) 3 3] w λe A=>e=nK (Y X (if k1≠0 then k1 else if k2≠0 then k2 else k3))/\P (if k1≠0 then 1 else if k2≠0 then 2 else 3) A:=by
 have N:=H ae;have H1:=H af;have ai:=H h0;obtain⟨E,aa⟩:=og ((if k1≠0 then k1 else if k2≠0 then k2 else k3));obtain⟨n,hn⟩:=og ((if k1≠0 then 1 else if k2≠0 then 2 else 3));have HE:=H aa;have HN:=H hn;have H2:=H ag;have H3:=H ah;rw[aa,hn];clear ae h0 af ag ah aa hn;go_in;go_wp2_with fail;go_loopw [8] (λkv C=>(kv=Y X 0/\jI (P 0 C))\/(kv=Y X 1/\jI (P 1 C/\k1=0))\/(kv=Y X 2/\jI (P 2 C/\k1=0/\k2=0))\/(kv=Y X 3/\jI (P 3 C/\k1=0/\k2=0/\k3=0))) (λkv _=>3 -(kC kv).toNat);case atStart=>exact .inl ⟨rfl,ai⟩
 case round=>
  rcases hrel with⟨rfl,HQ⟩|⟨rfl,HQ⟩|⟨rfl,HQ⟩|⟨rfl,HQ⟩
  .have c0:wr.cell? (Z b 0 V)=U (.func (.func 156) #[] I):=(N _ _ HQ).cell 0
   exact Zd
  .have c0:wr.cell? (Z b 1 V)=U (.func (.func 158) #[] cb):=(N _ _ HQ.1).cell 1
   exact Zc
  .have c0:wr.cell? (Z b 2 V)=U (.func (.func 160) #[] J):=(N _ _ HQ.1).cell 2
   exact Zb
  .exact UC
def Pq(w:M)(I cb J:Array jC)(b:Nat)(T:jX)(k1 k2 k3:Int)(P:Nat->M->Prop)(ae:∀k W,P k W->nU W b #[.func (.func 162) #[] I,.func (.func 164) #[] cb,.func (.func 166) #[] J] T)(h0:P 0 w)(af:∀W,P 0 W->jG jy 162 I W λe A=>e=nK (Y X k1)/\P 1 A)(ag:k1=0->∀W,P 1 W->jG jy 164 cb W λe A=>e=nK (Y X k2)/\P 2 A)(ah:k1=0->k2=0->∀W,P 2 W->jG jy 166 J W λe A=>e=nK (Y X k3)/\P 3 A):
  jG jy 155 #[u (U (Z b 0 V)) 3 3] w λe A=>e=nK (Y X (if k1≠0 then k1 else if k2≠0 then k2 else k3))/\P (if k1≠0 then 1 else if k2≠0 then 2 else 3) A:=by
 have N:=H ae;have H1:=H af;have ai:=H h0;obtain⟨E,aa⟩:=og ((if k1≠0 then k1 else if k2≠0 then k2 else k3));obtain⟨n,hn⟩:=og ((if k1≠0 then 1 else if k2≠0 then 2 else 3));have HE:=H aa;have HN:=H hn;have H2:=H ag;have H3:=H ah;rw[aa,hn];clear ae h0 af ag ah aa hn;go_in;go_wp2_with fail;go_loopw [8] (λkv C=>(kv=Y X 0/\jI (P 0 C))\/(kv=Y X 1/\jI (P 1 C/\k1=0))\/(kv=Y X 2/\jI (P 2 C/\k1=0/\k2=0))\/(kv=Y X 3/\jI (P 3 C/\k1=0/\k2=0/\k3=0))) (λkv _=>3 -(kC kv).toNat);case atStart=>exact .inl ⟨rfl,ai⟩
 case round=>
  rcases hrel with⟨rfl,HQ⟩|⟨rfl,HQ⟩|⟨rfl,HQ⟩|⟨rfl,HQ⟩
  .have c0:wr.cell? (Z b 0 V)=U (.func (.func 162) #[] I):=(N _ _ HQ).cell 0
   exact Zd
  .have c0:wr.cell? (Z b 1 V)=U (.func (.func 164) #[] cb):=(N _ _ HQ.1).cell 1
   exact Zc
  .have c0:wr.cell? (Z b 2 V)=U (.func (.func 166) #[] J):=(N _ _ HQ.1).cell 2
   exact Zb
  .exact UC
def WC(x:nS IL)(w:M)(v:jC)(A:qF w v x.sub):
  jG jy 199 #[nI #[G (txt x.lab),nH x.lab.list,v],.func (.func 200) #[] #[]] w λe w'=>(∃a b:Int,e=nK (nJ #[Y X a,Y X b,nH (si x)]))/\jD w.heap.size w w':=(I4 x w v A).mono λ_ _ h=>⟨⟨_,_,h.1⟩,h.2⟩
def I5(x:nS IL)(w:M)(v:jC)(E:qF w v x.sub):
  jG jy 195 #[nI #[G (txt x.lab),nH x.lab.list,v]] w λe w'=>e=nK (nH (si x))/\jD w.heap.size w w':=by
 have I:=H (vF (T:=txt x.lab) (l:=x.lab.list) (t:=IT) E);obtain⟨oa,cap,rfl,J,N⟩:=oo.slice E;obtain⟨g,hg⟩:=og w.heap.size;have ae:=H (λ(W:M) (h:qF W (u oa x.sub.length cap) x.sub)=>WC x W _ h);rw[hg]at I|-;clear E J N;generalize si x=ar at*;generalize x.sub.length=aq at*;go_in;go_upto_region 1 with fail;generalize w.alloc (nL #[G (txt x.lab),nH x.lab.list,u oa aq cap] IT)=w1 at*;obtain⟨A,ht1,hsz,c0,c1,c2,_⟩:=I.out _ rfl;have af:=H ht1;have ag:=H A;have ah:=H hsz;clear I ht1 A hsz;go_wp2_with fail;refine(ae _ af).mono ?_;rintro e w2 ⟨⟨a,b,rfl⟩,C⟩;have aa:=H (ag.trans (C.mono (by have:=ah.out;omega)));clear C;go_wp2;go_returns;exact⟨rfl,aa.out⟩
end
section
structure TL where
 kind:Int
 size:Int
 tail:Int
 deriving DecidableEq
def TL.wf(a:TL):Prop:=(kY X a.kind).wf=R/\(kY X a.size).wf=R/\(kY X a.tail).wf=R
def oD:Shape TL:=⟨4,λa v=>[Y X a.kind,Y X a.size,v,Y X a.tail],TL.wf,λ_ _=>rfl⟩
def qo(a:TL)(n:Nat):Bool:=
 At ((a.kind=1/\(a.size=1\/a.size=2\/a.size=4\/a.size=8)/\n=0/\a.tail=0)\/(a.kind=2/\1<=a.size/\a.size<=65536/\n=0/\a.tail=0)\/
  (a.kind=3/\0<=a.size/\a.size<=65536/\n=0/\a.tail=0)\/(a.kind=4/\0<=a.size/\a.size<=1024/\n=1/\a.tail=0)\/(a.kind=5/\a.size=0/\n<=16/\0<=a.tail/\a.tail<=n))
def oJ(a:TL)(s:List (nS TL)):Bool:=qo a s.length
def qc(x:nS TL):Bool:=At (x.count<=64)&&At (x.deep<=8)&&x.all oJ
def vN(b:Ax):Bool:=At (48<=b.toNat)&&At (b.toNat<=57)
def qx:List Ax->List Ax
 |[]=>[]
 |b::r=>if vN b then b::qx r else []
def past:List Ax->List Ax
 |[]=>[]
 |b::r=>if vN b then past r else b::r
def zO(ds:List Ax):Nat:=ds.foldl (λn b=>10*n+(b.toNat - 48)) 0
def Bd(ds:List Ax):Bool:=match ds with
 |[]=>O
 |[_]=>R
 |b::_=>At (b.toNat≠48)
def num(most:Nat)(l:List Ax):Option (Nat×List Ax):=if Bd (qx l)&&At (zO (qx l)<=most)then U (zO (qx l),past l)else V
def Be(ds:List Ax):Nat:=ds.foldl (λn b=>if n<1000000 then 10*n+(b.toNat - 48)else n) 0
def yU(l:List Ax):Option (Nat×List Ax):=if Bd (qx l)then U (Be (qx l),past l)else V
def mark(l:List Ax)(tail:Nat):Option (List Ax×Nat):=match l with
 |63::r=>U (r,tail+1)
 |l=>if 0<tail then V else U (l,tail)
def xU(Fv:List Ax->Nat->Option (nS TL×List Ax×Nat)):Nat->List Ax->Nat->List (nS TL)->Nat->Option (nS TL×List Ax×Nat)
 |0,_,_,_,_=>V
 |f+1,l,n,sub,tail=>(mark l tail).bind λq=>(Fv q.1 n).bind λy=>match y.2.1 with
  |125::r=>U (.node ⟨5,0,q.2⟩ (sub++[y.1]),r,y.2.2)
  |44::r=>xU Fv f r y.2.2 (sub++[y.1]) q.2
  |_=>V
def rd:Nat->List Ax->Nat->Option (nS TL×List Ax×Nat)
 |0,_,_=>V
 |d+1,l,n=>if n=0 then V else match l with
  |[]=>V
  |b::r=>
   if b=117 then(num 64 r).bind λq=>if q.1 % 8=0 then U (.node ⟨1,(q.1/8:Nat),0⟩ [],q.2,n - 1)else V
   else if b=98 then(num 65536 r).bind λq=>U (.node ⟨2,q.1,0⟩ [],q.2,n - 1)
   else if b=115 then(num 65536 r).bind λq=>U (.node ⟨3,q.1,0⟩ [],q.2,n - 1)
   else if b=91 then(rd d r (n - 1)).bind λy=>match y.2.1 with
    |58::r2=>(num 1024 r2).bind λq=>match q.2 with
     |93::r4=>U (.node ⟨4,q.1,0⟩ [y.1],r4,y.2.2)
     |_=>V
    |_=>V
   else if b=123 then match r with
    |125::r1=>U (.node ⟨5,0,0⟩ [],r1,n - 1)
    |_=>xU (rd d) (n+1) r (n - 1) [] 0
   else V
def pW(pf:List Ax->Option (nS TL×List Ax)):Nat->List Ax->List (nS TL)->Nat->Option (nS TL×List Ax)
 |0,_,_,_=>V
 |f+1,l,sub,tail=>match l with
  |[]=>V
  |b::r=>if b=125 then U (.node ⟨5,0,tail⟩ sub,r)else
   (if sub.isEmpty then U l else if b=44 then U r else V).bind λA=>(mark A tail).bind λq=>(pf q.1).bind λy=>pW pf f y.2 (sub++[y.1]) q.2
def ps:Nat->List Ax->Option (nS TL×List Ax)
 |0,_=>V
 |d+1,l=>match l with
  |[]=>V
  |b::r=>
   if b=117 then(yU r).bind λq=>if q.1 % 8=0 then U (.node ⟨1,(q.1/8:Nat),0⟩ [],q.2)else V
   else if b=98 then(yU r).bind λq=>U (.node ⟨2,q.1,0⟩ [],q.2)
   else if b=115 then(yU r).bind λq=>U (.node ⟨3,q.1,0⟩ [],q.2)
   else if b=91 then(ps d r).bind λy=>match y.2 with
    |58::r2=>(yU r2).bind λq=>match q.2 with
     |93::r4=>U (.node ⟨4,q.1,0⟩ [y.1],r4)
     |_=>V
    |_=>V
   else if b=123 then pW (ps d) (r.length+1) r [] 0
   else V
def Pt(ds:List Ax)(a:Nat):a<=ds.foldl (λn b=>10*n+(b.toNat - 48)) a:=by
 induction ds generalizing a with
 |nil=>simp
 |cons b r A=>simp only[List.foldl_cons];exact jM K (A _)
def RQ(ds:List Ax)(a:Nat)(h:1000000<=a):ds.foldl (λn b=>if n<1000000 then 10*n+(b.toNat - 48)else n) a=a:=by
 induction ds generalizing a with
 |nil=>rfl
 |cons b r A=>simp only[List.foldl_cons];rw[As K];exact A a h
def Pv(ds:List Ax)(a:Nat)(h:ds.foldl (λn b=>10*n+(b.toNat - 48)) a<1000000):
  ds.foldl (λn b=>if n<1000000 then 10*n+(b.toNat - 48)else n) a=ds.foldl (λn b=>10*n+(b.toNat - 48)) a:=by
 induction ds generalizing a with
 |nil=>rfl
 |cons b r A=>
  simp only[List.foldl_cons]at h|-;have C:=Pt r (10*a+(b.toNat - 48));rw[AC K];exact A _ h
def WE(ds:List Ax)(a:Nat)(h:1000000<=ds.foldl (λn b=>10*n+(b.toNat - 48)) a):
  1000000<=ds.foldl (λn b=>if n<1000000 then 10*n+(b.toNat - 48)else n) a:=by
 induction ds generalizing a with
 |nil=>exact h
 |cons b r A=>
  simp only[List.foldl_cons]at h|-;by_cases c:a<1000000;.rw[AC c];exact A _ h
  .rw[As c,RQ _ _ K];omega
def I6(A:most<1000000)(h:num most l=U q):yU l=U q/\q.1<=most:=by
 unfold num at h;split at h
 .rename_i c
  simp only[jJ,decide_eq_true_eq]at c;have e:=Pv (qx l) 0 (show zO (qx l)<1000000 by omega);cases h;unfold yU;rw[AC c.1];exact⟨by rw[show Be (qx l)=zO (qx l)from e],c.2⟩
 .cases h
def I7(I:most<1000000)(h:yU l=U q)(A:q.1<=most):num most l=U q:=by
 unfold yU at h;split at h
 .rename_i c
  cases h;have E:zO (qx l)<1000000:=by
   rcases kQ (zO (qx l)) 1000000 with C|C
   .exact C
   .have:=WE (qx l) 0 C
    simp only[Be]at A;omega
  have e:Be (qx l)=zO (qx l):=Pv (qx l) 0 E;simp only[e]at A|-;unfold num;rw[AC (by simp[c,A])]
 .cases h
def Bf{tail:Nat}{q:List Ax×Nat}(h:mark l tail=U q):q.1.length<=l.length:=by
 unfold mark at h;split at h;.cases h;simp
 .split at h
  .cases h
  .cases h;exact jB _
def RU{Fv:List Ax->Nat->Option (nS TL×List Ax×Nat)}{pf:List Ax->Option (nS TL×List Ax)}{d:Nat}(hl:∀l y,pf l=U y->y.2.length<l.length)(h:∀l n y,Fv l n=U y->pf l=U (y.1,y.2.1)/\y.2.2+y.1.count=n/\y.1.deep<=d):
  ∀(f g:Nat)(l:List Ax)(n:Nat)(sub:List (nS TL))(tail:Nat)(y:nS TL×List Ax×Nat),xU Fv f l n sub tail=U y->(if sub.isEmpty then l else 44::l).length<g->nS.pz sub<=d->
   (sub=[]->l≠[]/\l.head?≠U 125)->
   pW pf g (if sub.isEmpty then l else 44::l) sub tail=U (y.1,y.2.1)/\y.2.2+y.1.count=n+1+nS.oz sub/\y.1.deep<=d+1:=by
 intro f;induction f with
 |zero=>intro g l n sub tail y hy;simp[xU]at hy
 |succ f N=>
  intro g l n sub tail y hy hg hd h0;cases g with
  |zero=>omega
  |succ g=>
   simp only[xU,kg]at hy;obtain⟨q,I,x,aa,hy⟩:=hy;obtain⟨hp,hc,Dp⟩:=h _ _ _ aa;have hlen:=hl _ _ hp;have ae:=Bf I;simp only at hlen;have A:pW pf (g+1) (if sub.isEmpty then l else 44::l) sub tail=pW pf g x.2.1 (sub++[x.1]) q.2:=by
    cases hs:sub.isEmpty with
    |true=>
     have:=h0 (List.isEmpty_iff.1 hs);cases l with
     |nil=>simp at this
     |cons b r=>
      have hb:b≠125:=by simpa using this.2
      simp only[if_true,pW,As hb,hs,kr,I,hp]
    |false=>simp[pW,hs,I,hp]
   have af:l.length<=g:=by split at hg<;>simp_all<;>omega
   rw[A];have C:nS.oz (sub++[x.1])=nS.oz sub+x.1.count:=by simp[nS.sU,nS.oz]
   have J:nS.pz (sub++[x.1])<=d:=by rw[nS.xu];simp[nS.pz];omega
   split at hy
   .rename_i r e
    cases hy;rw[e]at hlen|-;simp only[j4]at hlen;cases g with
    |zero=>omega
    |succ g=>
     refine⟨by simp[pW],?_,?_⟩;.simp only[nS.count,C];omega
     .simp only[nS.deep];omega
   .rename_i r e
    rw[e]at hlen|-;simp only[j4]at hlen;have E:(sub++[x.1]).isEmpty=O:=nX;have:=N g r x.2.2 (sub++[x.1]) q.2 y hy (by rw[E];simp;omega) J (λe=>by simp at e);rw[E]at this;simp only[lS,if_false]at this;refine⟨this.1,?_,this.2.2⟩;rw[this.2.1,C];omega
   .cases hy
def Pw(l:List Ax):(past l).length<=l.length:=by
 induction l with
 |nil=>simp[past]
 |cons b r A=>simp only[past];split<;>simp_all;omega
def tQ(h:yU l=U q):q.2.length<=l.length:=by
 unfold yU at h;split at h;.cases h;exact Pw l
 .cases h
def M5{pf:List Ax->Option (nS TL×List Ax)}(hl:∀l y,pf l=U y->y.2.length<l.length):
  ∀(g:Nat)(l:List Ax)(sub:List (nS TL))(tail:Nat)(y:nS TL×List Ax),pW pf g l sub tail=U y->y.2.length<l.length:=by
 intro g;induction g with
 |zero=>intro l sub tail y h;simp[pW]at h
 |succ g C=>
  intro l sub tail y h;cases l with
  |nil=>simp[pW]at h
  |cons b r=>
   simp only[pW]at h;split at h;.cases h;simp
   .simp only[kg]at h
    obtain⟨E,A,q,I,x,J,N⟩:=h;have aa:=C _ _ _ _ N;have a2:=hl _ _ J;have a3:=Bf I;have a4:E.length<=(b::r).length:=by
     split at A;.cases A;exact jB _
     .split at A
      .cases A;simp
      .cases A
    omega
def Fw:∀(d:Nat)(l:List Ax)(y:nS TL×List Ax),ps d l=U y->y.2.length<l.length:=by
 intro d;induction d with
 |zero=>intro l y h;simp[ps]at h
 |succ d I=>
  intro l y h;cases l with
  |nil=>simp[ps]at h
  |cons b r=>
   simp only[ps]at h;split at h
   .simp only[kg]at h
    obtain⟨q,C,A⟩:=h;have:=tQ C;split at A;.cases A;simp;omega
    .cases A
   split at h
   .simp only[kg]at h
    obtain⟨q,C,A⟩:=h;have:=tQ C;cases A;simp;omega
   split at h
   .simp only[kg]at h
    obtain⟨q,C,A⟩:=h;have:=tQ C;cases A;simp;omega
   split at h
   .simp only[kg]at h
    obtain⟨x,C,A⟩:=h;have J:=I _ _ C;split at A
    .rename_i r2 e
     simp only[kg]at A;obtain⟨q,N,E⟩:=A;have a2:=tQ N;rw[e]at J;split at E
     .rename_i r4 e4
      cases E;rw[e4]at a2;simp only[j4]at J a2|-;omega
     .cases E
    .cases A
   split at h
   .have:=M5 I _ _ _ _ _ h
    simp only[j4];omega
   .cases h
def Ze(h:p:=by
 rename_i e;rw[AC e];simp only[kg]at h;obtain⟨q,h1,h2⟩:=h;obtain⟨h3,_⟩:=I6 nT h1;cases h2;rw[h3];refine⟨rfl,?_,?_⟩<;>simp[nS.count,nS.oz,nS.deep,nS.pz];omega):p:=h
def Zf:∀(d:Nat)(l:List Ax)(n:Nat)(y:nS TL×List Ax×Nat),rd d l n=U y->ps d l=U (y.1,y.2.1)/\y.2.2+y.1.count=n/\y.1.deep<=d:=by
 intro d;induction d with
 |zero=>intro l n y h;simp[rd]at h
 |succ d A=>
  intro l n y h;simp only[rd]at h;split at h;.cases h
  rename_i hn;cases l with
  |nil=>simp at h
  |cons b r=>
   simp only at h;simp only[ps];split at h
   .rename_i e
    rw[AC e];simp only[kg]at h;obtain⟨q,h1,h2⟩:=h;obtain⟨h3,_⟩:=I6 nT h1;rw[h3];split at h2
    .rename_i c
     cases h2;simp only[kr,AC c];refine⟨by first|trivial|rfl,?_,?_⟩<;>simp[nS.count,nS.oz,nS.deep,nS.pz];omega
    .cases h2
   rename_i e1;rw[As e1];split at h;.exact Ze
   rename_i e2;rw[As e2];split at h;.exact Ze
   rename_i e3;rw[As e3];split at h
   .rename_i e
    rw[AC e];simp only[kg]at h;obtain⟨x,h1,h2⟩:=h;obtain⟨J,ae,af⟩:=A _ _ _ h1;rw[J];simp only[kr];split at h2
    .rename_i r2 e2
     simp only[kg]at h2;obtain⟨q,h3,C⟩:=h2;obtain⟨N,_⟩:=I6 nT h3;simp only[N,kr];split at C
     .rename_i r4 e4
      cases C;refine⟨by first|trivial|rfl,?_,?_⟩;.simp[nS.count,nS.oz];omega
      .simp[nS.deep,nS.pz];omega
     .cases C
    .cases h2
   rename_i e4;rw[As e4];split at h
   .rename_i e
    rw[AC e];split at h
    .rename_i r1
     cases h;refine⟨by simp[pW],?_,?_⟩<;>simp[nS.count,nS.oz,nS.deep,nS.pz];omega
    .rename_i I
     have aa:r≠[]:=by
      rintro rfl;simp only[xU,mark,Nat.lt_irrefl,if_false,kr,kg]at h;obtain⟨x,h1,_⟩:=h;have:=Fw _ _ _ (A _ _ _ h1).1;simp at this
     have:=RU (Fw d) (λl n y=>A l n y) (n+1) (r.length+1) r (n - 1) [] 0 y h nX (by simp[nS.pz]) (λ_=>⟨aa,λE=>by
      cases r with
      |nil=>simp at E
      |cons c t=>simp at E;exact I t (by rw[E])⟩)
     simp only[List.isEmpty_nil,if_true]at this;refine⟨this.1,?_,this.2.2⟩;have:=this.2.1;simp only[nS.oz]at this;omega
   .cases h
def WG{pf:List Ax->Option (nS TL×List Ax)}:∀(g:Nat)(l:List Ax)(sub:List (nS TL))(tail:Nat)(y:nS TL×List Ax),pW pf g l sub tail=U y->
  ∃s t,y.1=.node ⟨5,0,t⟩ (sub++s):=by
 intro g;induction g with
 |zero=>intro l sub tail y h;simp[pW]at h
 |succ g A=>
  intro l sub tail y h;cases l with
  |nil=>simp[pW]at h
  |cons b r=>
   simp only[pW]at h;split at h;.cases h;exact⟨[],tail,nX⟩
   .simp only[kg]at h
    obtain⟨E,I,q,J,x,N,C⟩:=h;obtain⟨s,t,e⟩:=A _ _ _ _ C;exact⟨x.1::s,t,by rw[e];simp⟩
def RV{Fv:List Ax->Nat->Option (nS TL×List Ax×Nat)}{pf:List Ax->Option (nS TL×List Ax)}(h:∀l n y,pf l=U y->y.1.all oJ=R->y.1.count<=n->Fv l n=U (y.1,y.2,n - y.1.count)):
  ∀(g f:Nat)(l:List Ax)(n:Nat)(sub:List (nS TL))(tail:Nat)(y:nS TL×List Ax),pW pf g (if sub.isEmpty then l else 44::l) sub tail=U y->
   y.1.all oJ=R->y.1.count<=n+1+nS.oz sub->n<f->(sub=[]->l.head?≠U 125)->xU Fv f l n sub tail=U (y.1,y.2,n+1+nS.oz sub - y.1.count):=by
 intro g;induction g with
 |zero=>intro f l n sub tail y hy;simp[pW]at hy
 |succ g af=>
  intro f l n sub tail y hy E hc av h0;cases f with
  |zero=>omega
  |succ f=>
   obtain⟨q,ag,x,ah,A⟩:∃q,mark l tail=U q/\∃x,pf q.1=U x/\pW pf g x.2 (sub++[x.1]) q.2=U y:=by
    cases hs:sub.isEmpty with
    |true=>
     have ai:=h0 (List.isEmpty_iff.1 hs);rw[hs]at hy;simp only[if_true]at hy;cases l with
     |nil=>simp[pW]at hy
     |cons b r=>
      have hb:b≠125:=by simpa using ai
      simp only[pW,As hb,hs,if_true,kr,kg]at hy;exact hy
    |false=>
     rw[hs]at hy;simp only[lS,if_false,pW,hs,if_true,kg,As (show(44:Ax)≠125 by decide)]at hy;obtain⟨aj,e1,hy⟩:=hy;cases e1;exact hy
   obtain⟨s,t,I⟩:=WG _ _ _ _ _ A;have C:nS.oz (sub++[x.1])=nS.oz sub+x.1.count:=by simp[nS.sU,nS.oz]
   have aa:x.1.all oJ=R:=by
    rw[I]at E;simp only[nS.all,jJ,nS.Ba,nS.pF]at E;exact E.2.1.2.1
   have ak:y.1.count=1+(nS.oz sub+x.1.count+nS.oz s):=by rw[I];simp only[nS.count,nS.sU,C]
   have au:=nS.za x.1;have ae:=h _ n _ ah aa K;simp only[xU,ag,kr,ae];cases g with
   |zero=>simp[pW]at A
   |succ g=>
    cases J:x.2 with
    |nil=>rw[J]at A;simp[pW]at A
    |cons b r=>
     rw[J]at A;by_cases c:b=125
     .subst c
      simp only[pW,if_true]at A;cases A;simp only[nS.count,C];have e:n - x.1.count=n+1+nS.oz sub -(1+(nS.oz sub+x.1.count)):=K;rw[e]
     .have N:(sub++[x.1]).isEmpty=O:=nX
      have hb:b=44:=by
       simp only[pW,As c,N,lS,if_false,kg]at A;obtain⟨aj,e1,_⟩:=A;split at e1;.assumption
       .cases e1
      subst hb;have:=af f r (n - x.1.count) (sub++[x.1]) q.2 y (by rw[N];exact A) E (by rw[C];omega) K (λe=>by simp at e);simp only[this,C];have e:n - x.1.count+1+(nS.oz sub+x.1.count) - y.1.count=n+1+nS.oz sub - y.1.count:=K;rw[e]
def Dq{k:Int}{m:Nat}{t:Int}{s:List (nS TL)}(h:(nS.node ⟨k,m,t⟩ s).all oJ=R):m<=65536/\(k=1->m<=8)/\(k=4->m<=1024):=by
 simp only[nS.all,oJ,qo,jJ,decide_eq_true_eq]at h;omega
def UD(h:p:=by
 rename_i e;rw[AC e];simp only[kg]at h;obtain⟨q,h1,h2⟩:=h;cases h2;rw[I7 (most:=65536) nT h1 (Dq hr).1];simp[nS.count,nS.oz]):p:=h
def a8J:∀(d:Nat)(l:List Ax)(n:Nat)(y:nS TL×List Ax),ps d l=U y->y.1.all oJ=R->y.1.count<=n->rd d l n=U (y.1,y.2,n - y.1.count):=by
 intro d;induction d with
 |zero=>intro l n y h;simp[ps]at h
 |succ d I=>
  intro l n y h hr hc;have aa:=nS.za y.1;simp only[rd];rw[As K];cases l with
  |nil=>simp[ps]at h
  |cons b r=>
   simp only;simp only[ps]at h;split at h
   .rename_i e
    rw[AC e];simp only[kg]at h;obtain⟨q,h1,h2⟩:=h;split at h2
    .rename_i c
     cases h2;have:=(Dq hr).2.1 rfl;rw[I7 (most:=64) nT h1 K];simp only[kr,AC c];simp[nS.count,nS.oz]
    .cases h2
   rename_i e1;rw[As e1];split at h;.exact UD
   rename_i e2;rw[As e2];split at h;.exact UD
   rename_i e3;rw[As e3];split at h
   .rename_i e
    rw[AC e];simp only[kg]at h;obtain⟨x,h1,h2⟩:=h;split at h2
    .rename_i r2 e2
     simp only[kg]at h2;obtain⟨q,C,E⟩:=h2;split at E
     .rename_i r4 e4
      cases E;have J:x.1.all oJ=R:=by
       simp only[nS.all,nS.pF,jJ]at hr;exact hr.2.1
      simp only[nS.count,nS.oz]at hc;rw[I _ (n - 1) _ h1 J K];simp only[kr,e2,I7 (most:=1024) nT C ((Dq hr).2.2 rfl),e4];simp only[nS.count,nS.oz];have e:n - 1 - x.1.count=n -(1+(x.1.count+0)):=K;rw[e]
     .cases E
    .cases h2
   rename_i e4;rw[As e4];split at h
   .rename_i e
    rw[AC e];cases r with
    |nil=>simp[pW]at h
    |cons c r=>
     by_cases A:c=125
     .subst A
      simp only[pW,if_true]at h;cases h;simp[nS.count,nS.oz]
     .have:=RV (Fv:=rd d) (pf:=ps d) (λl n y h1 h2 C=>I l n y h1 h2 C) ((c::r).length+1) (n+1) (c::r) (n - 1) [] 0 y h hr (by simp only[nS.oz];omega) K (λ_=>by simpa using A)
      have e5:n - 1+1+nS.oz ([]:List (nS TL)) - y.1.count=n - y.1.count:=by simp only[nS.oz];omega
      rw[e5]at this;split
      .rename_i r1 N
       simp at N;exact absurd N.1 A
      .exact this
   .cases h
def yn(l:List Ax):Option (nS TL):=match rd 8 l 64 with
 |some (x,[],_)=>if qc x then U x else V
 |_=>V
def Dr(l:List Ax):Option (nS TL):=match ps 8 l with
 |some (x,[])=>if qc x then U x else V
 |_=>V
def Lp(l:List Ax):yn l=Dr l:=by
 unfold yn Dr;cases h:rd 8 l 64 with
 |some y=>
  obtain⟨x,r,n⟩:=y;rw[(Zf _ _ _ _ h).1];cases r<;>rfl
 |none=>
  cases C:ps 8 l with
  |none=>rfl
  |some y=>
   obtain⟨x,r⟩:=y;cases r with
   |cons _ _=>rfl
   |nil=>
    simp only;cases A:qc x with
    |false=>rfl
    |true=>
     simp only[qc,jJ,decide_eq_true_eq]at A;rw[a8J _ _ 64 _ C A.2 A.1.1]at h;cases h
end
section
open Go.RowKit
def b0m:Nat->Prop:=λ_=>True
abbrev o6(w:M)(v:jC)(s:List (nS TL)):Prop:=oD.om w b0m v s
def o6.slice{s:List (nS TL)}(h:o6 w v s):∃oa cap,v=u oa s.length cap/\s.length<=cap/\cap<=jN:=by
 obtain⟨oa,cap,A,C,E,_⟩:=h;exact⟨oa,cap,A,C,E⟩
def o6.at_{n cap:Nat}{s:List (nS TL)}(h:o6 w (u oa n cap) s){x:nS TL}(A:s[i]? =U x):
  ∃b off ao,oa=U (Z b off V)/\b<w.heap.size/\w.cell? (Z b (off+i*4) V)=U (Y X x.lab.kind)/\w.cell? (Z b (off+i*4+1) V)=U (Y X x.lab.size)/\
   w.cell? (Z b (off+i*4+2) V)=U ao/\w.cell? (Z b (off+i*4+3) V)=U (Y X x.lab.tail)/\o6 w ao x.sub/\TL.wf x.lab:=by
 obtain⟨J,C,E,N,aa,I⟩:=h.get;cases E;obtain⟨b,off,ao,e,hb,_,ho,hc,hs⟩:=I i x A;exact⟨b,off,ao,e,hb,by simpa [oD,kK]using hc 0 nT,by simpa [oD,kK]using hc 1 nT,by simpa [oD,kK]using hc 2 nT,by simpa [oD,kK]using hc 3 nT,hs,ho⟩
def vG{t:jX}{k z l:Int}{s:List (nS TL)}(h:o6 w v s):
  ∀W,w.alloc (nL #[Y X k,Y X z,v,Y X l] t)=W->jD w.heap.size w W/\o6 W v s/\W.heap.size=w.heap.size+1/\
   W.cell? (Z w.heap.size 0 V)=U (Y X k)/\W.cell? (Z w.heap.size 1 V)=U (Y X z)/\W.cell? (Z w.heap.size 2 V)=U v/\W.cell? (Z w.heap.size 3 V)=U (Y X l):=by
 rintro W rfl;have A:=(jE w.heap.size w).alloc (jB _) (nL #[Y X k,Y X z,v,Y X l] t);have hB:=nU.new w #[Y X k,Y X z,v,Y X l] t;exact⟨A,h.below A,nX,hB.cell 0,hB.cell 1,hB.cell 2,hB.cell 3⟩
def UE(h:p:=by
 have HF:jI (jD g w wr):=H (H1.1.trans (hbe.mono K));go_wp2;go_returns;exact⟨rfl,HF.out⟩):p:=h
def WH(x:nS TL):∀(w:M)(v:jC),o6 w v x.sub->x.count<=1000->
  jG jy 79 #[nI #[Y X x.lab.kind,Y X x.lab.size,v,Y X x.lab.tail]] w λe w'=>e=nK (Y X (x.count:Nat))/\jD w.heap.size w w':=by
 induction x using nS.ind with
 |h a s ai=>
  intro w v E hc;simp only[nS.rE,nS.o9,nS.count]at E hc|-;obtain⟨oa,cap,rfl,ae,aj⟩:=o6.slice E;obtain⟨g,hg⟩:=og w.heap.size;have I:=H (vG (k:=a.kind) (z:=a.size) (l:=a.tail) (t:=63) E);have J:=nS.tY s;obtain⟨aq,af⟩:=og s.length;have ag:=H af;have aA:=H ai;obtain⟨C,ah⟩:=og (nS.oz s);have ak:=H ah;rw[hg]at I|-;rw[af]at I J|-;rw[ah]at hc J|-;clear E ae aj ai af ah;go_in;go_upto_region 1 with fail;generalize w.alloc (nL #[Y X a.kind,Y X a.size,u oa aq cap,Y X a.tail] 63)=w1 at*;obtain⟨N,ht1,hsz,c0,c1,c2,c3⟩:=I.out _ rfl;have H1:=H (jF N ht1);clear I N ht1 c0 c1 c3;go_wp2_with fail;go_loopw [3,4] (λaB iv aC=>∃k:Nat,iv=Y X k/\k<=aq/\aB=Y X ((1+nS.oz (s.take k):Nat):Int)/\jI (jD (g+1) w1 aC)) (λ_ iv _=>aq -(kC iv).toNat);case atStart=>exact⟨0,rfl,K,by simp[nS.oz],H (jE _ _)⟩
  case round=>
   obtain⟨k,rfl,hk,rfl,hbe⟩:=hrel;have aF:wr.cell? (Z g 2 V)=U (u oa aq cap):=(hbe.cell (p:=(Z g 2 V)) (lF g)).trans c2;by_cases c:k<aq
   .obtain⟨aG,y,hy⟩:∃h:k<s.length,∃y,s[k]? =U y:=⟨by rw[ag.out];exact c,_,jL (by rw[ag.out];exact c)⟩
    obtain⟨b,off,ao,rfl,hlt,aH,aI,y2,aJ,au,av⟩:=o6.at_ (Shape.om.below H1.2 (hsz▸hbe.out)) hy;have aD:=H (aA y (kE hy) wr ao au);have A:nS.oz (s.take (k+1))=nS.oz (s.take k)+y.count:=nS.yA hy;have aa:=nS.xR s (k+1);rw[ak.out]at aa;have ax:=H A;rw[A]at aa;generalize nS.oz (s.take k)=aK at*;clear au av A;go_wp2_with fail;refine(aD K).mono ?_;rintro e w2 ⟨rfl,ay⟩;go_wp2;go_roundw;case rel=>exact⟨k+1,by go_num,K,by rw[ax.out];go_num,H (hbe.trans (ay.mono (by have:=hbe.size;omega)))⟩
    case measure=>simp[kC];omega
   .obtain rfl:k=aq:=K
    have az:s.take k=s:=by rw[<-ag.out,lM]
    rw[az,ak.out];exact UE
def nS.yB:∀ x:nS α,x.deep<=x.count:=by
 intro x;induction x using nS.ind with
 |h a s C=>
  simp only[nS.deep,nS.count];have:∀t:List (nS α),(∀x,x∈t->x.deep<=x.count)->nS.pz t<=nS.oz t:=by
   intro t;induction t with
   |nil=>intro _;simp[nS.pz]
   |cons y ys A=>
    intro h;have I:=h y (List.mem_cons_self ..);have J:=A λz E=>h z (List.mem_cons_of_mem _ E)
    simp only[nS.pz,nS.oz];omega
  have:=this s C;omega
def nS.Zg(s:List (nS α)):nS.pz s<=nS.oz s:=by
 have:=nS.yB (nS.node (α:=Unit) () []);induction s with
 |nil=>simp[nS.pz]
 |cons y ys A=>
  have:=nS.yB y;simp only[nS.pz,nS.oz];omega
def nS.wy(s:List (nS α))(i:Nat):nS.pz (s.take i)<=nS.pz s:=by
 conv=>rhs;rw[<-mO i s,nS.xu]
 exact Nat.le_max_left _ _
def Zh(x:nS TL):∀(w:M)(v:jC),o6 w v x.sub->x.count<=1000->
  jG jy 80 #[nI #[Y X x.lab.kind,Y X x.lab.size,v,Y X x.lab.tail]] w λe w'=>e=nK (Y X (x.deep:Nat))/\jD w.heap.size w w':=by
 induction x using nS.ind with
 |h a s ay=>
  intro w v I hc;simp only[nS.rE,nS.o9,nS.count,nS.deep]at I hc|-;obtain⟨oa,cap,rfl,ah,az⟩:=o6.slice I;obtain⟨g,hg⟩:=og w.heap.size;have J:=H (vG (k:=a.kind) (z:=a.size) (l:=a.tail) (t:=63) I);have N:=nS.tY s;obtain⟨aq,ai⟩:=og s.length;have aj:=H ai;have aI:=H ay;obtain⟨C,ak⟩:=og (nS.oz s);have aJ:=H ak;obtain⟨D,au⟩:=og (nS.pz s);have aA:=H au;have aa:=nS.Zg s;rw[hg]at J|-;rw[ai]at J N|-;rw[ak]at hc N aa;rw[au]at aa|-;clear I ah az ay ai ak au;go_in;go_upto_region 1 with fail;generalize w.alloc (nL #[Y X a.kind,Y X a.size,u oa aq cap,Y X a.tail] 63)=w1 at*;obtain⟨ae,ht1,hsz,c0,c1,c2,c3⟩:=J.out _ rfl;have H1:=H (jF ae ht1);clear J ae ht1 c0 c1 c3;go_wp2_with fail;go_loopw [3,4,5] (λaK iv aP aL=>∃k:Nat,iv=Y X k/\k<=aq/\aK=Y X (nS.pz (s.take k):Nat)/\jI (jD (g+1) w1 aL)) (λ_ iv _ _=>aq -(kC iv).toNat);case atStart=>exact⟨0,rfl,K,by simp[nS.pz],H (jE _ _)⟩
  case round=>
   obtain⟨k,rfl,hk,rfl,hbe⟩:=hrel;have aN:wr.cell? (Z g 2 V)=U (u oa aq cap):=(hbe.cell (p:=(Z g 2 V)) (lF g)).trans c2;by_cases c:k<aq
   .obtain⟨aO,y,hy⟩:∃h:k<s.length,∃y,s[k]? =U y:=⟨by rw[aj.out];exact c,_,jL (by rw[aj.out];exact c)⟩
    obtain⟨b,off,ao,rfl,hlt,aQ,aR,y2,aS,aB,aC⟩:=o6.at_ (Shape.om.below H1.2 (hsz▸hbe.out)) hy;have aD:=nS.Dn (kE hy);rw[aJ.out]at aD;have aF:=H (aI y (kE hy) wr ao aB K);have E:nS.pz (s.take (k+1))=max (nS.pz (s.take k)) y.deep:=nS.zN hy;have aG:=nS.wy s (k+1);rw[aA.out,E]at aG;have af:=H E;generalize nS.pz (s.take k)=av at*;generalize y.deep=ax at*;have ag:jI (∀w2,jD wr.heap.size wr w2->jD (g+1) w1 w2):=H λw2 A=>hbe.trans (A.mono (by have:=hbe.size;omega))
    clear aB aC E;by_cases cd:av<ax
    .have aM:At ((av:Int)<ax)=R:=nY
     go_wp2_with fail;refine(aF).mono ?_;rintro e w2 ⟨rfl,A⟩;go_wp2;go_roundw;case rel=>exact⟨k+1,by go_num,K,by rw[af.out,Nat.max_eq_right K],H (ag _ A)⟩
     case measure=>simp[kC];omega
    .have aM:At ((av:Int)<ax)=O:=nY
     go_wp2_with fail;refine(aF).mono ?_;rintro e w2 ⟨rfl,A⟩;go_wp2;go_roundw;case rel=>exact⟨k+1,by go_num,K,by rw[af.out,Nat.max_eq_left K],H (ag _ A)⟩
     case measure=>simp[kC];omega
   .obtain rfl:k=aq:=K
    have aH:s.take k=s:=by rw[<-aj.out,lM]
    rw[aH,aA.out];exact UE
def GY(z c:Int):((z==c)=R/\jI (z=c))\/((z==c)=O/\jI (z≠c)):=by
 exact M3
def Ci(a b:Int):(At (a<=b)=R/\jI (a<=b))\/(At (a<=b)=O/\jI (b<a)):=by
 by_cases h:a<=b;.exact .inl ⟨by simp[h],h⟩
 .exact .inr ⟨by simp[h],by unfold jI;omega⟩
def Zi(k:Int):k=1\/k=2\/k=3\/k=4\/k=5\/((k==1)=O/\(k==2)=O/\(k==3)=O/\(k==4)=O/\(k==5)=O/\jI (k≠1/\k≠2/\k≠3/\k≠4/\k≠5)):=by
 by_cases A:k=1;.exact .inl A
 by_cases C:k=2;.exact .inr (.inl C)
 by_cases E:k=3;.exact .inr (.inr (.inl E))
 by_cases I:k=4;.exact .inr (.inr (.inr (.inl I)))
 by_cases J:k=5;.exact .inr (.inr (.inr (.inr (.inl J))))
 .exact .inr (.inr (.inr (.inr (.inr ⟨by simp[A],by simp[C],by simp[E],by simp[I],by simp[J],A,C,E,I,J⟩))))
def a6o(z:Int):z=1\/z=2\/z=4\/z=8\/((z==1)=O/\(z==2)=O/\(z==4)=O/\(z==8)=O/\jI (z≠1/\z≠2/\z≠4/\z≠8)):=by
 by_cases A:z=1;.exact .inl A
 by_cases C:z=2;.exact .inr (.inl C)
 by_cases E:z=4;.exact .inr (.inr (.inl E))
 by_cases I:z=8;.exact .inr (.inr (.inr (.inl I)))
 .exact .inr (.inr (.inr (.inr ⟨by simp[A],by simp[C],by simp[E],by simp[I],A,C,E,I⟩)))
def WI(x:nS TL):∀(w:M)(v:jC),o6 w v x.sub->x.count<=1000->
  jG jy 81 #[nI #[Y X x.lab.kind,Y X x.lab.size,v,Y X x.lab.tail]] w λe w'=>e=nK (nH (x.all oJ))/\jD w.heap.size w w':=by
 induction x using nS.ind with
 |h a s aP=>
  intro w v au hc;obtain⟨kind,size,tail⟩:=a;simp only[nS.rE,nS.o9,nS.count]at au hc|-;obtain⟨oa,cap,rfl,aG,aQ⟩:=o6.slice au;obtain⟨g,hg⟩:=og w.heap.size;have av:=H (vG (k:=kind) (z:=size) (l:=tail) (t:=63) au);have aA:=nS.tY s;have aR:jI ((nS.node ⟨kind,size,tail⟩ s).all oJ=(qo ⟨kind,size,tail⟩ s.length&&nS.pF oJ s)):=H rfl;obtain⟨aq,aH⟩:=og s.length;have aI:=H aH;have bA:=H aP;obtain⟨C,aJ⟩:=og (nS.oz s);have bB:=H aJ;obtain⟨A,aK⟩:=og (nS.pF oJ s);have aS:=H aK;rw[aR.out];clear aR;rw[hg]at av|-;rw[aH]at av aA|-;rw[aJ]at hc aA;rw[aK];clear au aG aQ aP aH aJ aK;go_in;go_upto_region 1 with fail;generalize w.alloc (nL #[Y X kind,Y X size,u oa aq cap,Y X tail] 63)=w1 at*;obtain⟨aB,ht1,hsz,c0,c1,c2,c3⟩:=av.out _ rfl;have aT:=H (jF aB ht1);clear av aB ht1;go_upto_block 0 with fail;go_cut [3] (λsv bC=>sv=nH (qo ⟨kind,size,tail⟩ aq)/\bC=w1);case first=>
   have E:=GY (aq:Int) 0;have e1:=GY (aq:Int) 1;have t0:=GY tail 0;have ag:=Ci (aq:Int) 16;have aL:=Ci 0 tail;have tl:=Ci tail (aq:Int);rcases Zi kind with rfl|rfl|rfl|rfl|rfl|⟨bK,bL,bM,bN,bO,bD⟩
   .rcases a6o size with rfl|rfl|rfl|rfl|⟨bP,bQ,z3,z4,bE⟩<;>rcases E with⟨E,I⟩|⟨E,I⟩<;>rcases t0 with⟨t0,J⟩|⟨t0,J⟩
    all_goals (go_wp2_with fail;go_meet;refine⟨congrArg Value.bool ?_,rfl⟩;have ax:=I.out;have ay:=J.out;(try (have az:=bE.out));unfold qo;symm;first|(apply decide_eq_true;dsimp only;omega)|(apply decide_eq_false;dsimp only;omega))
   .rcases Ci 1 size with⟨ah,N⟩|⟨ah,N⟩<;>rcases Ci size 65536 with⟨ai,aa⟩|⟨ai,aa⟩<;>rcases E with⟨E,I⟩|⟨E,I⟩<;>rcases t0 with⟨t0,J⟩|⟨t0,J⟩
    all_goals (go_wp2_with fail;go_meet;refine⟨congrArg Value.bool ?_,rfl⟩;have ax:=I.out;have ay:=J.out;have az:=N.out;have aM:=aa.out;unfold qo;symm;first|(apply decide_eq_true;dsimp only;omega)|(apply decide_eq_false;dsimp only;omega))
   .rcases Ci 0 size with⟨ah,N⟩|⟨ah,N⟩<;>rcases Ci size 65536 with⟨ai,aa⟩|⟨ai,aa⟩<;>rcases E with⟨E,I⟩|⟨E,I⟩<;>rcases t0 with⟨t0,J⟩|⟨t0,J⟩
    all_goals (go_wp2_with fail;go_meet;refine⟨congrArg Value.bool ?_,rfl⟩;have ax:=I.out;have ay:=J.out;have az:=N.out;have aM:=aa.out;unfold qo;symm;first|(apply decide_eq_true;dsimp only;omega)|(apply decide_eq_false;dsimp only;omega))
   .rcases Ci 0 size with⟨ah,N⟩|⟨ah,N⟩<;>rcases Ci size 1024 with⟨ai,aa⟩|⟨ai,aa⟩<;>rcases e1 with⟨E,I⟩|⟨E,I⟩<;>rcases t0 with⟨t0,J⟩|⟨t0,J⟩
    all_goals (go_wp2_with fail;go_meet;refine⟨congrArg Value.bool ?_,rfl⟩;have ax:=I.out;have ay:=J.out;have az:=N.out;have aM:=aa.out;unfold qo;symm;first|(apply decide_eq_true;dsimp only;omega)|(apply decide_eq_false;dsimp only;omega))
   .rcases GY size 0 with⟨z0,aU⟩|⟨z0,aU⟩<;>rcases ag with⟨ag,aC⟩|⟨ag,aC⟩<;>rcases aL with⟨aL,aV⟩|⟨aL,aV⟩<;>rcases tl with⟨tl,aD⟩|⟨tl,aD⟩
    all_goals (go_wp2_with fail;go_meet;refine⟨congrArg Value.bool ?_,rfl⟩;have ax:=aU.out;have ay:=aC.out;have az:=aV.out;have aM:=aD.out;unfold qo;symm;first|(apply decide_eq_true;dsimp only;omega)|(apply decide_eq_false;dsimp only;omega))
   .go_wp2_with fail
    go_meet;exact⟨congrArg Value.bool (by have:=bD.out;simp[qo];omega),rfl⟩
  case rest=>
   obtain⟨rfl,rfl⟩:=hcut;clear c0 c1 c3;obtain⟨ar,aN⟩:∃ar,qo ⟨kind,size,tail⟩ aq=ar:=⟨_,rfl⟩;have aF:=H aN;rw[aN];clear aN;go_wp2_with fail;go_loopw [3,5] (λbv iv bF=>∃(k:Nat) (b:Bool),iv=Y X k/\k<=aq/\bv=nH b/\jI (b=(ar&&nS.pF oJ (s.take k)))/\jI (jD (g+1) wc bF)) (λ_ iv _=>aq -(kC iv).toNat);case atStart=>exact⟨0,ar,rfl,K,rfl,by simp[jI,nS.pF],H (jE _ _)⟩
   case round=>
    obtain⟨k,b,rfl,hk,rfl,aW,ae⟩:=hrel;have bI:wr.cell? (Z g 2 V)=U (u oa aq cap):=(ae.cell (p:=(Z g 2 V)) (lF g)).trans c2;have aX:jI (jD g w wr):=H (aT.1.trans (ae.mono K));have aj:jI (k=aq\/b=O->b=(ar&&A)):=H λh=>by
     have af:=aW.out;rcases h with h|h
     .have aY:s.take k=s:=by rw[h,<-aI.out,lM]
      rw[aY,aS.out]at af;exact af
     .have bG:nS.pF oJ s=(nS.pF oJ (s.take k)&&nS.pF oJ (s.drop k)):=by
       rw[<-nS.Ba,mO]
      rw[<-aS.out,bG,h];rw[h]at af;revert af;cases ar<;>cases nS.pF oJ (s.take k)<;>simp
    by_cases c:k<aq
    .cases b with
     |true=>
      obtain⟨bJ,y,hy⟩:∃h:k<s.length,∃y,s[k]? =U y:=⟨by rw[aI.out];exact c,_,jL (by rw[aI.out];exact c)⟩;obtain⟨bR,off,ao,rfl,hlt,bS,bT,y2,bU,aZ,bg⟩:=o6.at_ (Shape.om.below aT.2 (hsz▸ae.out)) hy;have bq:=nS.Dn (kE hy);rw[bB.out]at bq;have bH:=H (bA y (kE hy) wr ao aZ K);have bu:jI (y.all oJ=(ar&&nS.pF oJ (s.take (k+1)))):=by
       have af:=aW.out;unfold jI;rw[nS.xC hy,<-Bool.and_assoc,<-af];rfl
      have bz:jI (∀w2,jD wr.heap.size wr w2->jD (g+1) wc w2):=H λw2 ak=>ae.trans (ak.mono (by have:=ae.size;omega))
      clear aZ bg;go_wp2_with fail;refine(bH).mono ?_;rintro e w2 ⟨rfl,ak⟩;go_wp2;go_roundw;case rel=>exact⟨k+1,_,by go_num,K,rfl,bu,H (bz _ ak)⟩
      case measure=>simp[kC];omega
     |false=>
      have aO:=H (aj (.inr rfl));go_wp2;go_returns;rw[aF.out,<-aO.out];exact⟨rfl,aX.out⟩
    .obtain rfl:k=aq:=K
     have aO:=H (aj (.inl rfl));go_wp2;go_returns;rw[aF.out,<-aO.out];exact⟨rfl,aX.out⟩
def a3g(x:nS TL):qc x=(At (x.count<=64)&&At (x.deep<=8)&&x.all oJ):=rfl
def UF(x:nS TL)(w:M)(v:jC)(ah:o6 w v x.sub)(hc:x.count<=1000):
  jG jy 47 #[nI #[Y X x.lab.kind,Y X x.lab.size,v,Y X x.lab.tail]] w λe w'=>e=nK (nH (qc x))/\jD w.heap.size w w':=by
 have ai:=H (vG (k:=x.lab.kind) (z:=x.lab.size) (l:=x.lab.tail) (t:=63) ah);obtain⟨oa,cap,rfl,aj,az⟩:=o6.slice ah;obtain⟨g,hg⟩:=og w.heap.size;have aA:=H (λ(W:M) (h:o6 W (u oa x.sub.length cap) x.sub)=>WH x W _ h hc);have aH:=H (λ(W:M) (h:o6 W (u oa x.sub.length cap) x.sub)=>Zh x W _ h hc);have aI:=H (λ(W:M) (h:o6 W (u oa x.sub.length cap) x.sub)=>WI x W _ h hc);have ak:=H (a3g x);rw[hg]at ai|-;clear ah aj az;generalize qc x=ar at*;generalize x.count=au at*;generalize x.deep=dn at*;generalize x.all oJ=aQ at*;generalize x.sub.length=aq at*;have aa:=Ci (au:Int) 64;have d8:=Ci (dn:Int) 8;go_in;go_upto_region 1 with fail;generalize w.alloc (nL #[Y X x.lab.kind,Y X x.lab.size,u oa aq cap,Y X x.lab.tail] 63)=w1 at*;obtain⟨af,ht1,hsz,c0,c1,c2,c3⟩:=ai.out _ rfl;have av:=H ht1;have aJ:=H af;have aB:=H hsz;clear ai ht1 af hsz;have N:∀w2,jD w1.heap.size w1 w2->jI (jD g w w2/\o6 w2 (u oa aq cap) x.sub):=λw2 h=>⟨aJ.trans (h.mono (by have:=aB.out;omega)),Shape.om.below av h⟩
 have N:=H N;have hlt:g<w1.heap.size:=by have:=aB.out;omega
 rcases aa with⟨aa,ae⟩|⟨aa,ae⟩
 .rcases d8 with⟨d8,ax⟩|⟨d8,ax⟩
  all_goals
   go_wp2_with fail;refine(aA _ av).mono ?_;rintro e w2 ⟨rfl,A⟩;have f2:=N.out _ A;have E:=H A;have aC:=(A.cell (p:=(Z g 0 V)) hlt).trans c0;have aD:=(A.cell (p:=(Z g 1 V)) hlt).trans c1;have aF:=(A.cell (p:=(Z g 2 V)) hlt).trans c2;have aG:=(A.cell (p:=(Z g 3 V)) hlt).trans c3;have I:g<w2.heap.size:=by have:=A.size;omega
   clear A;go_wp2_with fail;refine(aH _ f2.2).mono ?_;rintro e w3 ⟨rfl,C⟩
  .have J:=H (E.trans (C.mono E.size))
   have f3:=N.out _ J.out;have aK:=(C.cell (p:=(Z g 0 V)) I).trans aC;have aL:=(C.cell (p:=(Z g 1 V)) I).trans aD;have aM:=(C.cell (p:=(Z g 2 V)) I).trans aF;have aN:=(C.cell (p:=(Z g 3 V)) I).trans aG;clear C;go_wp2_with fail;refine(aI _ f3.2).mono ?_;rintro e w4 ⟨rfl,ag⟩;have ay:=H (f3.1.trans (ag.mono (by have:=f3.1.size;omega)));clear ag;go_wp2;go_returns;refine⟨?_,ay.out⟩;have aO:=ae.out;have aP:=ax.out;rw[ak.out,decide_eq_true (by omega:au<=64),decide_eq_true (by omega:dn<=8)];rfl
  .have J:=H (E.trans (C.mono E.size))
   have f3:=N.out _ J.out;clear C;go_wp2;go_returns;refine⟨?_,f3.1⟩;have aP:=ax.out;rw[ak.out,decide_eq_false (by omega:¬dn<=8),Bool.and_false];rfl
 .go_wp2_with fail
  refine(aA _ av).mono ?_;rintro e w2 ⟨rfl,A⟩;have f2:=N.out _ A;clear A;go_wp2;go_returns;refine⟨?_,f2.1⟩;have aO:=ae.out;rw[ak.out,decide_eq_false (by omega:¬au<=64)];rfl
def a8K(z c:Int):((z !=c)=O/\jI (z=c))\/((z !=c)=R/\jI (z≠c)):=by
 exact M3
def UG:Nat->Nat:=λi=>[1,2,4,8].getD i 0
def qK(w:M):Prop:=∀i,i<4->w.cell? (Z 1 i V)=U (Y X (UG i:Nat))
def qK.lt(h:qK w):1<w.heap.size:=by
 rcases kQ 1 w.heap.size with A|A
 .exact A
 .have:=h 0 nT
  simp[mV,Array.getElem?_eq_none A]at this
def qK.below{B:Nat}(h:qK w)(hb:jD B w w')(hB:1<B):qK w':=λi hi=>(hb.cell (p:=(Z _ i V)) hB).trans (h i hi)
def qK.upd(h:qK w)(hb:pX b w w')(hB:1≠b):qK w':=λi hi=>by
 rw[mX (w:=w) (hb.block _ h.lt (by simpa using hB))];exact h i hi
def a3h(W:M):lL jy (kP 312 (nI #[Y X 1,Y X 2,Y X 4,Y X 8]) (Y X 0)) W=.ok (Y X 1) W:=rfl
def a3i(W:M):lL jy (kP 312 (nI #[Y X 1,Y X 2,Y X 4,Y X 8]) (Y X 1)) W=.ok (Y X 2) W:=rfl
def a3j(W:M):lL jy (kP 312 (nI #[Y X 1,Y X 2,Y X 4,Y X 8]) (Y X 2)) W=.ok (Y X 4) W:=rfl
def a3k(W:M):lL jy (kP 312 (nI #[Y X 1,Y X 2,Y X 4,Y X 8]) (Y X 3)) W=.ok (Y X 8) W:=rfl
def M6(h:p:=by
 go_wp2;go_returns;refine⟨?_,rfl⟩;rw[decide_eq_true (by have:=Z0.out;omega)];rfl):p:=h
def RX(z:Int)(w:M)(A:qK w):
  jG jy 267 #[Y X z] w λe w'=>e=nK (nH (At (z=1\/z=2\/z=4\/z=8)))/\w=w':=by
 have t0:=A 0 nT;have I:=A 1 nT;have J:=A 2 nT;have t3:=A 3 nT;simp only[UG]at t0 I J t3;clear A;go_in;go_wp2_with fail;go_loopw [4,6] (λ_ iv N=>∃k:Nat,iv=Y X k/\k<=4/\jI (∀i,i<k->z≠(UG i:Nat))/\N=w) (λ_ iv _=>4 -(kC iv).toNat);case atStart=>exact⟨0,rfl,K,H (λi hi=>by omega),rfl⟩
 case round=>
  obtain⟨k,rfl,hk,C,rfl⟩:=hrel;have E:k=0\/k=1\/k=2\/k=3\/k=4:=K;rcases E with rfl|rfl|rfl|rfl|rfl
  case inr.inr.inr.inr=>
   go_wp2;go_returns;refine⟨?_,rfl⟩;have q:=C.out;have aa:=q 0 nT;have ae:=q 1 nT;have af:=q 2 nT;have ag:=q 3 nT;simp[UG]at aa ae af ag;rw[decide_eq_false K];rfl
  .have hix:=a3h wr
   rcases GY z 1 with⟨z0,Z0⟩|⟨z0,Z0⟩
   .exact M6
   .go_wp2
    go_roundw;case rel=>exact⟨1,rfl,K,H (λi hi=>by
     rcases kQ i 0 with h|h
     .exact C i h
     .obtain rfl:i=0:=K
      exact Z0),by first|trivial|rfl⟩
    case measure=>simp[kC]
  .have hix:=a3i wr
   rcases GY z 2 with⟨z0,Z0⟩|⟨z0,Z0⟩
   .exact M6
   .go_wp2
    go_roundw;case rel=>exact⟨2,rfl,K,H (λi hi=>by
     rcases kQ i 1 with h|h
     .exact C i h
     .obtain rfl:i=1:=K
      exact Z0),by first|trivial|rfl⟩
    case measure=>simp[kC]
  .have hix:=a3j wr
   rcases GY z 4 with⟨z0,Z0⟩|⟨z0,Z0⟩
   .exact M6
   .go_wp2
    go_roundw;case rel=>exact⟨3,rfl,K,H (λi hi=>by
     rcases kQ i 2 with h|h
     .exact C i h
     .obtain rfl:i=2:=K
      exact Z0),by first|trivial|rfl⟩
    case measure=>simp[kC]
  .have hix:=a3k wr
   rcases GY z 8 with⟨z0,Z0⟩|⟨z0,Z0⟩
   .exact M6
   .go_wp2
    go_roundw;case rel=>exact⟨4,rfl,K,H (λi hi=>by
     rcases kQ i 3 with h|h
     .exact C i h
     .obtain rfl:i=3:=K
      exact Z0),by first|trivial|rfl⟩
    case measure=>simp[kC]
def RY(lo hi z:Int)(g:Nat)(w:M)(c1:w.cell? (Z g 1 V)=U (Y X z)):
  jG jy 266 #[Y X lo,Y X hi,nG (U (Z g 0 V))] w λe w'=>e=nK (nH (At (lo<=z/\z<=hi)))/\w=w':=by
 have A:=Ci lo z;have a2:=Ci z hi;rcases A with⟨A,C⟩|⟨A,C⟩<;>rcases a2 with⟨a2,E⟩|⟨a2,E⟩
 all_goals
  go_in;go_wp2;go_returns;refine⟨?_,rfl⟩;have I:=C.out;have J:=E.out
  first
   |(rw[decide_eq_true (show lo<=z/\z<=hi by omega)];rfl)
   |(rw[decide_eq_false (show¬(lo<=z/\z<=hi)by omega)];rfl)
def UH(h:p:=by
 unfold qo;symm;first|(apply decide_eq_true;dsimp only;omega)|(apply decide_eq_false;dsimp only;omega)):p:=h
def RZ(h:p:=by
 rintro e w2 ⟨rfl,rfl⟩;go_wp2;go_returns;refine⟨congrArg (λb=>kZ (nH b)) ?_,H1.out⟩;have q1:=HPT.out (by trivial);unfold qo;dsimp only;rw[Bool.eq_iff_iff];simp only[jJ,Bool.or_eq_true,decide_eq_true_eq,false_and,true_and,false_or,or_false];omega):p:=h
def R3(h:p:=by
 go_wp2;go_returns;refine⟨congrArg (λb=>kZ (nH b)) ?_,H1.out⟩;have q1:=HPF.out (by trivial);unfold qo;symm;first|(apply decide_eq_true;dsimp only;omega)|(apply decide_eq_false;dsimp only;omega)):p:=h
def WJ(a:TL)(oa:Option kW)(aq cap:Nat)(w:M)(aj:qK w):
  jG jy 240 #[nI #[Y X a.kind,Y X a.size,u oa aq cap,Y X a.tail]] w λe w'=>e=nK (nH (qo a aq))/\jD w.heap.size w w':=by
 obtain⟨kind,size,tail⟩:=a;obtain⟨g,hg⟩:=og w.heap.size;have av:jI (∀W,w.alloc (nL #[Y X kind,Y X size,u oa aq cap,Y X tail] 63)=W->jD g w W/\qK W/\nU W g #[Y X kind,Y X size,u oa aq cap,Y X tail] 63):=H λW h=>by
  subst h;have af:=(jE w.heap.size w).alloc (jB _) (nL #[Y X kind,Y X size,u oa aq cap,Y X tail] 63);exact⟨hg▸af,aj.below af aj.lt,hg▸nU.new w _ _⟩
 rw[hg];clear aj;simp only;go_in;go_upto_region 1 with fail;generalize w.alloc (nL #[Y X kind,Y X size,u oa aq cap,Y X tail] 63)=w1 at*;obtain⟨ag,ht1,hB⟩:=av.out _ rfl;have c0:w1.cell? (Z g 0 V)=U (Y X kind):=hB.cell 0;have c1:w1.cell? (Z g 1 V)=U (Y X size):=hB.cell 1;have c2:w1.cell? (Z g 2 V)=U (u oa aq cap):=hB.cell 2;have c3:w1.cell? (Z g 3 V)=U (Y X tail):=hB.cell 3;have H1:=H ag;have aC:=H ht1;have az:=H (RX size w1 ht1);clear av ag ht1 hB;have aa:=GY (aq:Int) 0;have e1:=GY (aq:Int) 1;have t0:=GY tail 0;have C:=Ci (aq:Int) 16;have ae:=Ci 0 tail;have tl:=Ci tail (aq:Int);have I:=H (λlo hi=>RY lo hi size g w1 c1);go_upto_region 2 with fail;go_cut [4] (λpv aA=>pv=nH (At ((aq:Int)=0/\tail=0))/\aA=w1);case first=>
  clear C ae tl e1;rcases aa with⟨aa,ax⟩|⟨aa,ax⟩<;>rcases t0 with⟨t0,E⟩|⟨t0,E⟩
  all_goals
   go_wp2_with fail;go_meet;refine⟨congrArg Value.bool ?_,rfl⟩;have q1:=ax.out;have ak:=E.out
   first
    |(rw[decide_eq_true (show(aq:Int)=0/\tail=0 by omega)])
    |(rw[decide_eq_false (show¬((aq:Int)=0/\tail=0)by omega)])
 case rest=>
 obtain⟨rfl,rfl⟩:=hcut;clear aa;obtain⟨p,hp⟩:=og (At ((aq:Int)=0/\tail=0));have HPT:jI (p=R->(aq:Int)=0/\tail=0):=H λh=>by rw[h]at hp;exact of_decide_eq_true hp
 have HPF:jI (p=O->¬((aq:Int)=0/\tail=0)):=H λh=>by rw[h]at hp;exact of_decide_eq_false hp
 rw[hp];clear hp;rcases Zi kind with rfl|rfl|rfl|rfl|rfl|⟨aD,aF,aG,aH,aI,aB⟩
 .cases p
  .exact R3
  .go_wp2_with fail
   refine(az).mono ?_;exact RZ
 .have A:=H (I 1 65536)
  cases p;.exact R3
  .go_wp2_with fail
   refine(A).mono ?_;exact RZ
 .have A:=H (I 0 65536)
  cases p;.exact R3
  .go_wp2_with fail
   refine(A).mono ?_;exact RZ
 .have A:=H (I 0 1024)
  rcases e1 with⟨e1,au⟩|⟨e1,au⟩<;>rcases t0 with⟨t0,E⟩|⟨t0,E⟩
  .go_wp2_with fail
   refine(A).mono ?_;rintro e w2 ⟨rfl,rfl⟩;go_wp2;go_returns;refine⟨congrArg (λb=>kZ (nH b)) ?_,H1.out⟩;have q1:=au.out;have ak:=E.out;unfold qo;dsimp only;rw[Bool.eq_iff_iff];simp only[jJ,Bool.or_eq_true,decide_eq_true_eq,false_and,true_and,false_or,or_false];omega
  all_goals
   go_wp2;go_returns;refine⟨congrArg (λb=>kZ (nH b)) ?_,H1.out⟩;have q1:=au.out;have ak:=E.out;unfold qo;symm;first|(apply decide_eq_true;dsimp only;omega)|(apply decide_eq_false;dsimp only;omega)
 .rcases GY size 0 with⟨z0,J⟩|⟨z0,J⟩
  .have N:jI (jG jy 266 #[Y X 0,Y X 0,nG (U (Z g 0 V))] wc λe w'=>e=nK (nH R)/\wc=w'):=H (by
    have h:=I.out 0 0;rwa [decide_eq_true (show 0<=size/\size<=0 by have:=J.out;omega)]at h)
   rcases C with⟨C,ah⟩|⟨C,ah⟩<;>rcases ae with⟨ae,ay⟩|⟨ae,ay⟩<;>rcases tl with⟨tl,ai⟩|⟨tl,ai⟩
   all_goals
    go_wp2_with fail;refine(N).mono ?_;rintro e w2 ⟨rfl,rfl⟩;go_wp2;go_returns;refine⟨congrArg (λb=>kZ (nH b)) ?_,H1.out⟩;have q1:=J.out;have ak:=ah.out;have aJ:=ay.out;have aK:=ai.out;unfold qo;symm;first|(apply decide_eq_true;dsimp only;omega)|(apply decide_eq_false;dsimp only;omega)
  .have N:jI (jG jy 266 #[Y X 0,Y X 0,nG (U (Z g 0 V))] wc λe w'=>e=nK (nH O)/\wc=w'):=H (by
    have h:=I.out 0 0;rwa [decide_eq_false (show¬(0<=size/\size<=0)by have:=J.out;omega)]at h)
   go_wp2_with fail;refine(N).mono ?_;rintro e w2 ⟨rfl,rfl⟩;go_wp2;go_returns;refine⟨congrArg (λb=>kZ (nH b)) ?_,H1.out⟩;have q1:=J.out;exact UH
 .go_wp2
  go_returns;refine⟨congrArg (λb=>kZ (nH b)) ?_,H1.out⟩;have q1:=aB.out;exact UH
abbrev Av(b:Nat)(w:M)(v:jC)(s:List (nS TL)):Prop:=oD.om w (λc=>c≠b) v s
def Av.upd{s:List (nS TL)}(h:Av b w v s)(A:pX b w w'):Av b w' v s:=
 Shape.om.keep h A.size (λ_ _ h=>h) λc hc C=>A.block c hc (by simpa using λe=>C (by rw[e]))
def Av.of{s:List (nS TL)}(h:o6 w v s)(hb:jD w.heap.size w w')(A:w.heap.size<=b):Av b w' v s:=
 Shape.om.keep h hb.size (λc hc _=>by omega) λc hc _=>hb.block c hc
def Av.any{s:List (nS TL)}(h:Av b w v s):o6 w v s:=
 Shape.om.keep h (jB _) (λ_ _ _=>trivial) λ_ _ _=>rfl
def Av.at_{bo:Nat}{n cap:Nat}{s:List (nS TL)}(h:Av bo w (u oa n cap) s){x:nS TL}(A:s[i]? =U x):
  ∃b off ao,oa=U (Z b off V)/\b<w.heap.size/\b≠bo/\w.cell? (Z b (off+i*4) V)=U (Y X x.lab.kind)/\w.cell? (Z b (off+i*4+1) V)=U (Y X x.lab.size)/\
   w.cell? (Z b (off+i*4+2) V)=U ao/\w.cell? (Z b (off+i*4+3) V)=U (Y X x.lab.tail)/\Av bo w ao x.sub/\TL.wf x.lab:=by
 obtain⟨N,C,E,aa,ae,I⟩:=Shape.om.get h;cases E;obtain⟨b,off,ao,e,hb,J,ho,hc,hs⟩:=I i x A;exact⟨b,off,ao,e,hb,J,by simpa [oD,kK]using hc 0 nT,by simpa [oD,kK]using hc 1 nT,by simpa [oD,kK]using hc 2 nT,by simpa [oD,kK]using hc 3 nT,hs,ho⟩
def Bg(w:M)(b l:Nat):Prop:=nU w b #[Y X (l:Int)] 3
def Bg.upd{c l:Nat}(h:Bg w b l)(C:pX c w w')(A:b≠c):Bg w' b l:=C.blk h A
def Eb(x:nS TL)(d l:Nat):Bool:=At (d+x.deep<=9)&&At (x.count<=l)&&x.all oJ
def M7(x:nS TL)(d l b:Nat)(w:M)(e:Ending)(w':M):Prop:=
 e=nK (nH (Eb x d l))/\pX b w w'/\(∃A,A<=64/\Bg w' b A)/\(Eb x d l=R->Bg w' b (l - x.count))
def Zj(x:nS TL):∀(w:M)(v:jC)(d l bl:Nat),Av bl w v x.sub->Bg w bl l->qK w->1≠bl->1<=d->d<=9->l<=64->
  jG jy 203 #[nI #[Y X x.lab.kind,Y X x.lab.size,v,Y X x.lab.tail],Y X d,nG (U (Z bl 0 V))] w (M7 x d l bl w):=by
 induction x using nS.ind with
 |h a s bJ=>
  intro w v d l bl aJ hI bB ay dI dJ hl;simp only[nS.rE,nS.o9]at aJ|-;obtain⟨oa,cap,rfl,bC,aP⟩:=o6.slice aJ.any;obtain⟨g,hg⟩:=og w.heap.size;have df:bl<g:=hg▸hI.lt;have bK:s.length<=9223372036854775807:=by unfold jN at aP;omega
  have A:jI (Eb (.node a s) d l=(At (d+(nS.pz s+1)<=9)&&At (1+nS.oz s<=l)&&(qo a s.length&&nS.pF oJ s))):=H rfl;have ai:jI (∀e w',e=nK (nH (Eb (.node a s) d l))/\pX bl w w'/\(∃ae,ae<=64/\Bg w' bl ae)/\(Eb (.node a s) d l=R->Bg w' bl (l -(1+nS.oz s)))->M7 (.node a s) d l bl w e w'):=H λe w' h=>h
  have bD:jI (∀W,w.alloc (nL #[Y X a.kind,Y X a.size,u oa s.length cap,Y X a.tail] 63)=W->pX bl w W/\Av bl W (u oa s.length cap) s/\Bg W bl l/\qK W/\W.heap.size=g+1/\
    nU W g #[Y X a.kind,Y X a.size,u oa s.length cap,Y X a.tail] 63):=H λW h=>by
   subst h;have J:=(jE w.heap.size w).alloc (jB _) (nL #[Y X a.kind,Y X a.size,u oa s.length cap,Y X a.tail] 63);exact⟨pX.of J,aJ.upd (pX.of J),Below.blk J hI hI.lt,bB.below J bB.lt,nY,hg▸nU.new w _ _⟩
  generalize Eb (.node a s) d l=ar at*;obtain⟨aq,bE⟩:=og s.length;have bL:=H bE;have dh:=H bJ;obtain⟨C,bF⟩:=og (nS.oz s);have bG:=H bF;obtain⟨D,bH⟩:=og (nS.pz s);have bM:=H bH;rw[bE]at bD bK A|-;rw[bF]at A ai;rw[bH]at A;clear aJ bC aP bJ bE bF bH hI bB;generalize bN:M7 (.node a s) d l bl w=dw at ai|-;clear bN;go_in;go_upto_region 1 with fail;generalize w.alloc (nL #[Y X a.kind,Y X a.size,u oa aq cap,Y X a.tail] 63)=w1 at*;obtain⟨aQ,ht1,az,aA,hsz,hB⟩:=bD.out _ rfl;obtain⟨c0,c1,c2,c3⟩:=hB.a4;have dM:w1.cell? (Z bl 0 V)=U (Y X l):=az.cell 0;have bO:=H hB;clear hB bD;have E:=H (jF aQ (jF ht1 (jF az aA)));have bI:=H (WJ a oa aq cap w1 aA);clear aQ ht1 az aA;by_cases cd:8<d
  .have dx:At (8<(d:Int))=R:=nY
   go_wp2_with fail;refine ai _ _ ⟨?_,E.1,⟨l,hl,E.2.2.1⟩,λh=> ?_⟩;.rw[A.out,decide_eq_false K];rfl
   .rw[A.out,decide_eq_false K]at h;simp at h
  have dx:At (8<(d:Int))=O:=nY;by_cases cl:l=0
  .have dz:((l:Int)==0)=R:=by simp[cl]
   have bP:=H cl;clear cl;go_wp2_with fail;refine ai _ _ ⟨?_,E.1,⟨l,hl,E.2.2.1⟩,λh=> ?_⟩;.rw[A.out,decide_eq_false (by have:=bP.out;omega:¬1+C<=l),Bool.and_false];rfl
   .rw[A.out,decide_eq_false (by have:=bP.out;omega:¬1+C<=l),Bool.and_false]at h;simp at h
  have dz:((l:Int)==0)=O:=nY;have dK:1<=l:=K;have dL:d<=8:=K;clear cl cd;generalize qo a aq=am at*;cases am with
  |false=>
   go_wp2_with fail;refine(bI).mono ?_;rintro e w2 ⟨rfl,I⟩;have bQ:=H (E.1.trans (pX.of I));have bR:=H (E.2.2.1.upd (pX.of I) (c:=g) K);clear I;go_wp2_with fail;refine ai _ _ ⟨?_,bQ.out,⟨l,hl,bR.out⟩,λh=> ?_⟩;.rw[A.out];simp
   .rw[A.out]at h;simp at h
  |true=>
   go_wp2_with fail;refine(bI).mono ?_;rintro e w2 ⟨rfl,I⟩;have aR:pX bl w1 w2:=pX.of I;have l2:w2.cell? (Z bl 0 V)=U (Y X l):=(E.2.2.1.upd (pX.of I) (c:=g) K).cell 0;have dA:w2.frozen? (Z bl 0 V)=O:=nU.free (E.2.2.1.upd (pX.of I) (c:=g) K) 0;have aS:jI (∀W,w2.setCell (Z bl 0 V) (Y X ((l:Int) - 1))=W->pX bl w1 W/\Bg W bl (l - 1)/\nU W g #[Y X a.kind,Y X a.size,u oa aq cap,Y X a.tail] 63):=H λW h=>by
    subst h;have aj:Bg w2 bl l:=E.2.2.1.upd (pX.of I) (c:=g) K;have N:=nU.set aj 0 (Y X ((l:Int) - 1));refine⟨aR.set 0 _,?_,?_⟩
    .unfold Bg
     rw[show((l - 1:Nat):Int)=(l:Int) - 1 by omega];exact N
    .exact nU.setOther ((pX.of (b:=bl) I).blk bO K) nY _
   clear I aR;have ak:=H E.2;have aB:=H E.1;clear E bI;go_upto_region 4 with fail;generalize w2.setCell (Z bl 0 V) (Y X ((l:Int) - 1))=w3 at*;obtain⟨aT,aU,aC⟩:=aS.out _ rfl;have g2:w3.cell? (Z g 2 V)=U (u oa aq cap):=aC.cell 2;have bS:=H (jF aT (jF aU aC));clear aS aT aU aC l2 dA;go_wp2_with fail
   go_loopw [8,30] (λ_ iv bT=>∃k:Nat,iv=Y X k/\k<=aq/\jI (pX bl w1 bT)/\jI (Bg bT bl (l - 1 - nS.oz (s.take k)))/\
    jI (nS.oz (s.take k)<=l - 1/\d+1+nS.pz (s.take k)<=9/\nS.pF oJ (s.take k)=R)) (λ_ iv _=>aq -(kC iv).toNat)
   case atStart=>exact⟨0,rfl,K,H bS.1,H (by simpa [nS.oz]using bS.2.1),H ⟨by simp[nS.oz],by simp[nS.pz];omega,by simp[nS.pF]⟩⟩
   case round=>
    obtain⟨k,rfl,hk,aD,au,aK⟩:=hrel;have dB:jI (pX bl w wr):=H (aB.trans aD);by_cases c:k<aq
    .obtain⟨y,hy⟩:∃y,s[k]? =U y:=⟨_,jL (by rw[bL.out];exact c)⟩
     obtain⟨b,off,ao,rfl,hlt,dD,dN,dO,y2,dP,aL,bU⟩:=Av.at_ (Av.upd ak.1 aD) hy;obtain⟨ou,cu,rfl,_,_⟩:=o6.slice (Av.any aL);obtain⟨af,aV⟩:=og y.sub.length;rw[aV]at aL y2;clear aV;have aW:=nS.yA hy;have aX:=nS.zN hy;have aY:=nS.xC (p:=oJ) hy;have aF:=nS.xR s (k+1);have aG:=nS.wy s (k+1);rw[bG.out]at aF;rw[bM.out]at aG;have bV:jI (y.all oJ=O->nS.pF oJ s=O):=H λh=>nS.uH hy h
     have bW:=H (jF aW (jF aX (jF aY (jF aF aG))));obtain⟨aa,aH⟩:=og (l - 1 - nS.oz (s.take k));have aZ:=H aH;have aM:aa<=64:=K;rw[aH]at au
     have bX:jI (∀W,wr.alloc (nL #[Y X y.lab.kind,Y X y.lab.size,u ou af cu,Y X y.lab.tail] 63)=W->pX bl w1 W/\Av bl W (u ou af cu) y.sub/\Bg W bl aa/\qK W/\
       nU W wr.heap.size #[Y X y.lab.kind,Y X y.lab.size,u ou af cu,Y X y.lab.tail] 63):=H λW h=>by
      subst h;have J:=(jE wr.heap.size wr).alloc (jB _) (nL #[Y X y.lab.kind,Y X y.lab.size,u ou af cu,Y X y.lab.tail] 63);exact⟨aD.trans (pX.of J),Av.upd aL (pX.of J),Below.blk J au au.lt,(qK.upd ak.2.2 aD ay).below J (qK.upd ak.2.2 aD ay).lt,nU.new wr _ _⟩
     clear aL bU aW aX aY aF aG aH;go_upto_region 7 with fail;generalize wr.alloc (nL #[Y X y.lab.kind,Y X y.lab.size,u ou af cu,Y X y.lab.tail] 63)=w4 at*;obtain⟨bg,GZ,bq,bu,ag⟩:=bX.out _ rfl;have b0:w4.cell? (Z wr.heap.size 0 V)=U (Y X y.lab.kind):=ag.cell 0;have b1:w4.cell? (Z wr.heap.size 1 V)=U (Y X y.lab.size):=ag.cell 1;have dQ:w4.cell? (Z wr.heap.size 2 V)=U (u ou af cu):=ag.cell 2;have b3:w4.cell? (Z wr.heap.size 3 V)=U (Y X y.lab.tail):=ag.cell 3
     have bY:jI (jG jy 203 #[nI #[Y X y.lab.kind,Y X y.lab.size,u ou af cu,Y X y.lab.tail],Y X ((d:Int)+1),nG (U (Z bl 0 V))] w4
       λe w'=>e=nK (nH (Eb y (d+1) aa))/\pX bl w1 w'/\(∃ae,ae<=64/\Bg w' bl ae)/\(Eb y (d+1) aa=R->Bg w' bl (aa - y.count))):=
      H ((dh y (kE hy) w4 (u ou af cu) (d+1) aa bl GZ bq bu ay K K aM).mono λe w' h=>⟨h.1,bg.trans h.2.1,h.2.2⟩)
     have bz:jI (Eb y (d+1) aa=(At (d+1+y.deep<=9)&&At (y.count<=aa)&&y.all oJ)):=H rfl;clear bX bg GZ bq bu ag;generalize Eb y (d+1) aa=r at*;cases r with
     |true=>
      go_wp2_with fail;refine(bY).mono ?_;rintro e w5 ⟨rfl,ah,⟨ae,bA,av⟩,ax⟩;have aI:=H ah;have bZ:=H (ax (by trivial));clear ah av ax;go_wp2_with fail;have aj:=bz.out;have N:=bW.out;have dE:=aZ.out;have dF:=aK.out;simp only[Bool.true_eq,jJ,decide_eq_true_eq]at aj;go_roundw;case rel=>
       refine⟨k+1,by go_num,K,H aI.out,H ?_,H ⟨by rw[N.1];omega,by rw[N.2.1];omega,by rw[N.2.2.1,dF.2.2,aj.2];rfl⟩⟩;rw[N.1,show l - 1 -(nS.oz (s.take k)+y.count)=aa - y.count by omega];exact bZ
      case measure=>simp[kC];omega
     |false=>
      go_wp2_with fail;refine(bY).mono ?_;rintro e w5 ⟨rfl,ah,⟨ae,bA,av⟩,ax⟩;have aI:=H (aB.trans ah);have cz:=H av;clear ah av ax;go_wp2_with fail;have aN:ar=O:=by
       have aj:=bz.out;have N:=bW.out;have dE:=aZ.out;rw[A.out];have dG:¬(d+(D+1)<=9/\1+C<=l/\nS.pF oJ s=R):=by
        rintro⟨dR,g2,g3⟩;have e1:d+1+y.deep<=9:=by have:=N.2.1;have:=N.2.2.2.2;omega
        have e2:y.count<=aa:=by have:=N.1;have:=N.2.2.2.1;omega
        have e3:y.all oJ=R:=by
         cases cK:y.all oJ with
         |true=>rfl
         |false=>rw[bV.out cK]at g3;cases g3
        rw[decide_eq_true e1,decide_eq_true e2,e3]at aj;cases aj
       cases aO:(At (d+(D+1)<=9)&&At (1+C<=l)&&(R&&nS.pF oJ s))with
       |false=>rfl
       |true=>
        exfalso;simp only[mQ,jJ,decide_eq_true_eq]at aO;exact dG ⟨aO.1.1,aO.1.2,aO.2⟩
      exact ai _ _ ⟨by rw[aN];rfl,aI.out,⟨ae,bA,cz.out⟩,λh=>by rw[aN]at h;cases h⟩
    .obtain rfl:k=aq:=K
     have cZ:s.take k=s:=by rw[<-bL.out,lM]
     rw[cZ]at au aK;rw[bG.out,bM.out]at aK;rw[bG.out]at au;go_wp2_with fail;have dH:=aK.out;have aN:ar=R:=by
      rw[A.out,decide_eq_true K,decide_eq_true K,dH.2.2];rfl
     refine ai _ _ ⟨by rw[aN];rfl,dB.out,⟨l - 1 - C,K,au.out⟩,λ_=> ?_⟩;rw[show l -(1+C)=l - 1 - C by omega];exact au
def WK(x:nS TL):Eb x 1 64=qc x:=by
 unfold Eb qc;rw[show At (1+x.deep<=9)=At (x.deep<=8)by rw[decide_eq_decide];omega,Bool.and_comm (At (x.deep<=8))]
def Ec(x:nS TL)(w:M)(v:jC)(aa:o6 w v x.sub)(I:qK w):
  jG jy 163 #[nI #[Y X x.lab.kind,Y X x.lab.size,v,Y X x.lab.tail]] w λe w'=>e=nK (nH (qc x))/\jD w.heap.size w w':=by
 rw[<-WK];have ae:=I.lt;have E:=H (vG (k:=x.lab.kind) (z:=x.lab.size) (l:=x.lab.tail) (t:=63) aa);obtain⟨g,hg⟩:=og w.heap.size;rw[hg]at E ae|-
 have af:jI (∀W A,w.alloc (nL #[Y X x.lab.kind,Y X x.lab.size,v,Y X x.lab.tail] 63)=W->W.alloc (nL #[Y X 64] 3)=A->
   jG jy 203 #[nI #[Y X x.lab.kind,Y X x.lab.size,v,Y X x.lab.tail],Y X 1,nG (U (Z (g+1) 0 V))] A λe w'=>e=nK (nH (Eb x 1 64))/\jD g w w'):=H λW A h ag=>by
  obtain⟨ah,a2,a3,_⟩:=E.out W h;have b1:=(jE W.heap.size W).alloc (jB _) (nL #[Y X 64] 3);rw[ag]at b1;have hI:Bg A (g+1) 64:=by
   subst ag;have:=nU.new W #[Y X 64] 3;rw[a3]at this;exact this
  have ai:qK A:=(I.below (hg▸ah:jD w.heap.size w W) I.lt).below b1 K;refine(Zj x A v 1 64 (g+1) (Av.of a2 b1 K) hI ai K nT nT nT).mono λe w' h=>⟨h.1,?_⟩
  have ak:jD g w A:=ah.trans (b1.mono K);exact h.2.1.below ak K (by have:=b1.size;omega)
 clear aa I;generalize Eb x 1 64=ar at*;go_in;go_upto_region 1 with fail;have au:jI ((w.alloc (nL #[Y X x.lab.kind,Y X x.lab.size,v,Y X x.lab.tail] 63)).heap.size=g+1):=H (E _ rfl).2.2.1;have J:=H (λA=>af.out _ A rfl);obtain⟨c0,c1,c2,c3⟩:=(E _ rfl).2.2.2;generalize w.alloc (nL #[Y X x.lab.kind,Y X x.lab.size,v,Y X x.lab.tail] 63)=w1 at*;have hs:=au.out;have hB:jI (∀A,w1.alloc (nL #[Y X 64] 3)=A->jD (g+1) w1 A):=H λA h=>by
  subst h;have:=(jE w1.heap.size w1).alloc (jB _) (nL #[Y X 64] 3);rwa [hs]at this
 clear E af;go_upto_region 2 with fail;generalize w1.alloc (nL #[Y X 64] 3)=w2 at*;have C:=hB.out _ rfl;have av:=H (J _ rfl);have ax:=(C.cell (p:=(Z g 0 V)) (lF g)).trans c0;have ay:=(C.cell (p:=(Z g 1 V)) (lF g)).trans c1;have az:=(C.cell (p:=(Z g 2 V)) (lF g)).trans c2;have aA:=(C.cell (p:=(Z g 3 V)) (lF g)).trans c3;clear C hB J c0 c1 c2 c3;go_wp2_with fail;refine(av).mono ?_;rintro e w3 ⟨rfl,N⟩;have aj:=H N;clear N;go_wp2;go_returns;exact⟨rfl,aj.out⟩
def Ed(l A:List Ax)(i:Nat):Prop:=A.length=l.length/\∀m,m<l.length->A[m]? =if m<i\/l.length - i<=m then l[l.length - 1 - m]? else l[m]?
def Ed.start(l:List Ax):Ed l l 0:=⟨rfl,λm h=>by rw[As K]⟩
def Ed.done{A:List Ax}(h:Ed l A i)(hi:l.length<=i+i+1):A=l.reverse:=by
 apply List.ext_getElem?;intro m;by_cases C:m<l.length
 .rw[h.2 m C,List.getElem?_reverse C]
  split;.rfl
  .rw[show l.length - 1 - m=m by omega]
 .rw[List.getElem?_eq_none (by rw[h.1];omega),List.getElem?_eq_none nY]
def Ed.step{A:List Ax}{j:Nat}(h:Ed l A i)(aa:j+i+1=l.length)(N:i<j)(a b:Ax)(I:A[i]? =U a)(hb:A[j]? =U b):Ed l ((A.set i b).set j a) (i+1):=by
 refine⟨by simp[h.1],λm J=> ?_⟩;have C:=h.2 i K;have E:=h.2 j K;rw[As K]at C E;by_cases c:m=j
 .subst c
  rw[List.getElem?_set_self (by simp[h.1];omega),AC K,<-I,C];congr 1;omega
 .rw[List.getElem?_set_ne K]
  by_cases d:m=i
  .subst d
   rw[List.getElem?_set_self (by rw[h.1];omega),AC K,<-hb,E];congr 1;omega
  .rw[List.getElem?_set_ne K,h.2 m J]
   by_cases e:m<i\/l.length - i<=m;.rw[AC e,AC K]
   .rw[As e,As K]
def I8(l:List Ax)(i:Nat)(b:Ax):(oh l).set i (Y .u8 (b.toNat:Int))=oh (l.set i b):=by simp[oh]
def I9(l:List Ax)(i:Nat)(b:Ax)(h:l[i]? =U b):(oh l)[i]? =U (Y .u8 (b.toNat:Int)):=by simp[oh,h]
def Ja{ao v:M}(h:ao.grownBy v r)(k:v.grownBy w r):ao.grownBy w r:=
 ⟨k.os.trans h.os,k.tape.trans h.tape,k.output.trans h.output,jM h.size k.size,λi hi A=>(k.block i (jZ hi h.size) A).trans (h.block i hi A)⟩
def R4{ao v:M}(h:ao.grownBy v r):ao.grownBy v.drew r:=⟨h.os,h.tape,h.output,h.size,h.block⟩
def Jb(B g:Nat)(l:List Ax)(k:Nat)(w:M)(hk:k<=140737488355328)(hl:l.length=k)(ho:oI w B 5 (u (U (Z g 0 V)) k k) l):
  jG jy 265 #[u (U (Z g 0 V)) k k] w λe w'=>e=nK (nJ #[])/\oI w' B 5 (u (U (Z g 0 V)) k k) l.reverse/\w.grownBy w' (U g):=by
 have aA:=Ed.start l;have J:=H hl;clear hl;go_in;go_wp2_with fail;go_loopw [2,3] (λiv aB wr=>∃(i:Nat) (ag:Int) (C:List Ax),iv=Y X i/\aB=Y X ag/\ag=(k:Int) - 1 - i/\i<=k/\Ed l C i/\oI wr B 5 (u (U (Z g 0 V)) k k) C/\w.grownBy wr (U g)) (λiv _ _=>k -(kC iv).toNat);case atStart=>exact⟨0,_,l,rfl,rfl,K,K,aA,ho,World.grownBy.refl _ _⟩
 case round=>
  obtain⟨i,ag,C,rfl,rfl,ah,hi,I,A,hg⟩:=hrel;by_cases c:(i:Int)<ag
  .obtain⟨j,rfl⟩:∃j:Nat,ag=j:=⟨ag.toNat,K⟩
   have ai:i<j:=K;have aF:j<k:=K;have E:C.length=k:=I.1.trans J.out;obtain⟨a,aa⟩:∃a,C[i]? =U a:=⟨_,jL K⟩;obtain⟨b,hb⟩:∃b,C[j]? =U b:=⟨_,jL K⟩;have aj:=H (I.step (by have:=J.out;omega) ai a b aa hb);unfold oI at A;rw[E]at A;have ak:wr.cell? (Z g i V)=U (Y .u8 (a.toNat:Int)):=by rw[A.cellAt i K,I9 _ _ _ aa]
   have au:wr.cell? (Z g j V)=U (Y .u8 (b.toNat:Int)):=by rw[A.cellAt j K,I9 _ _ _ hb]
   have av:=A.frozenAt i;have ax:=A.frozenAt j;have ae:=H E;have ay:=H ah;clear ah I E aa hb;go_wp2_with fail;go_region;have af:=A.stored i (Y .u8 (b.toNat:Int));have N:=af.1.stored j (Y .u8 (a.toNat:Int));rw[I8,I8]at N;have az:oI ((wr.setCell (Z g i V) (Y .u8 (b.toNat:Int))).setCell (Z g j V) (Y .u8 (a.toNat:Int))).drew B 5 (u (U (Z g 0 V)) k k) ((C.set i b).set j a):=by
    have:=World.ownsRow.drew N.1;unfold oI;rw[List.length_set,List.length_set,ae.out];exact this
   have g3:w.grownBy ((wr.setCell (Z g i V) (Y .u8 (b.toNat:Int))).setCell (Z g j V) (Y .u8 (a.toNat:Int))).drew (U g):=R4 (Ja (Ja hg af.2) N.2);have aC:=H az;have aD:=H g3;clear af N az g3 ak au av ax A hg;generalize ((wr.setCell (Z g i V) (Y .u8 (b.toNat:Int))).setCell (Z g j V) (Y .u8 (a.toNat:Int))).drew=W at*;go_wp2;go_roundw;case rel=>exact⟨i+1,(j:Int) - 1,_,by go_num,rfl,by have:=ay.out;omega,K,aj.out,aC.out,aD.out⟩
   case measure=>simp[kC];omega
  .have E:C.length=k:=I.1.trans J.out
   have hd:=I.done (by have:=J.out;omega);subst hd;go_wp2_with fail;go_end0;exact⟨rfl,A,hg⟩
def R5{a b:An}(h:a.data.toList=b.data.toList):a=b:=by
 apply ByteArray.ext;exact Array.toList_inj.1 h
def bmk(a:An):a=⟨a.data.toList.toArray⟩:=R5 rfl
def a3l{x:An}(h:x.data.toList=l):kZ (G x)=nK (G ⟨l.toArray⟩):=by
 rw[bmk x,h]
def a6p(s:An)(k:Nat)(h:k<s.size):(s.extract k (k+1)).data.toList=[s[k]]:=by
 rw[mF,show k+1 - k=1 by omega,nA (by simpa using h)];rfl
def R6(s:An)(w:M)(hs:s.size<=jN):
  jG jy 72 #[G s] w λe w'=>e=nK (G ⟨s.data.toList.reverse.toArray⟩)/\w=w':=by
 unfold jN at hs;go_in;go_wp2_with fail;go_loop [3,4] (λv i=>∃(k:Nat) (x:An),k<=s.size/\i=Y X k/\v=G x/\jI (x.data.toList=(s.data.toList.take k).reverse)) (λ_ i=>s.size -(kC i).toNat);case atStart=>exact⟨0,_,K,rfl,rfl,rfl⟩
 case round=>
  obtain⟨k,x,hk,rfl,rfl,A⟩:=hrel;by_cases c:k<s.size
  .have I:x.size<=k:=by
    have E:=congrArg List.length A.out;simp at E;omega
   have C:jI ((s.extract k (k+1)++x).data.toList=(s.data.toList.take (k+1)).reverse):=by
    unfold jI;rw[MB s k c,List.reverse_append,<-A.out,ByteArray.data_append,Array.toList_append,a6p s k c];rfl
   go_wp2_with fail;go_round;case rel=>exact⟨k+1,_,K,by go_num,rfl,C⟩
   case measure=>simp[kC];omega
  .obtain rfl:k=s.size:=K
   go_wp2;go_returns;exact⟨a3l (by rw[A.out,kS nX]),rfl⟩
def R7(s:An)(w:M)(I:s.size<=8):
  jG jy 71 #[G s] w λe w'=>e=nK (Y nN (tX s.data.toList))/\w=w':=by
 go_in;go_wp2_with fail;go_loop [3,4] (λv i=>∃(k n:Nat),k<=s.size/\i=Y X k/\v=Y nN n/\jI (n=tX (s.data.toList.take k))) (λ_ i=>s.size -(kC i).toNat);case atStart=>exact⟨0,0,K,rfl,rfl,rfl⟩
 case round=>
  obtain⟨k,n,hk,rfl,rfl,hv⟩:=hrel;by_cases c:k<s.size
  .have hb:s[k].toNat<=255:=by have:=s[k].toNat_lt;omega
   have A:jI (256*n+s[k].toNat=tX (s.data.toList.take (k+1))):=by unfold jI;rw[MB s k c,K5,hv.out]
   have hlt:256*n+s[k].toNat<18446744073709551616:=by
    rw[A.out];have C:=Hg (s.data.toList.take (k+1));have E:(s.data.toList.take (k+1)).length<=8:=by rw[kD];omega
    exact jZ C (IB _ E)
   go_wp2_with fail;go_round;case rel=>exact⟨k+1,_,K,by go_num,by go_num,A⟩
   case measure=>simp[kC];omega
  .exact Rc
def Below.row{B g:Nat}{w0:M}(hb:jD B w0 w)(hg:w.grownBy w' (U g))(h:B<=g)(A:B<=w.heap.size):jD B w0 w':=
 hb.grown hg A λk hk=>by simp at hk;omega
def R8(B g:Nat)(l:List Ax)(k:Nat)(w:M)(hk:k<=140737488355328)(hl:l.length=k)(ho:oI w B 5 (u (U (Z g 0 V)) k k) l):
  jG jy 239 #[u (U (Z g 0 V)) k k] w λe w'=>e=nK (G ⟨l.reverse.toArray⟩)/\w.grownBy w' (U g):=by
 have c1:=H (Jb B g l k w hk hl ho);go_in;go_wp2_with fail;refine c1.mono ?_;rintro e w' ⟨rfl,A,hg⟩;have C:=A.string Cr;go_wp2;go_returns;exact⟨rfl,hg⟩
def Px:∀ k n:Nat,n<256^k->n<18446744073709551616->(AB n).length=(Lib.bitLen n+7)/8
 |0,n,hk,h=>by simp at hk;subst hk;rw[tH];rfl
 |k+1,n,hk,h=>by
  by_cases c:n=0;.subst c;rw[tH];rfl
  .by_cases c2:n<256
   .rw[xh n K,show n/256=0 by omega,tH]
    have A:=Lib.bitLen_le n 8 K c2;have C:1<=Lib.bitLen n:=by rw[Lib.bitLen_half n K K];omega
    simp;omega
   .rw[xh n K,j4,Px k (n/256) (by rw[kV]at hk;omega) K,Lib.bitLen_shift 8 n K h]
    have:n/2^8=n/256:=rfl;rw[this];omega
def Lr(n:Nat)(w:M)(hn:n<18446744073709551616):
  jG jy 202 #[Y nN n] w λe w'=>e=nK (G ⟨(AB n).reverse.toArray⟩)/\jD w.heap.size w w':=by
 have hlen:=Px 8 n (jZ hn nT) hn;have A:=AX 8 n (jZ hn nT);have hb:Lib.bitLen n<=64:=Lib.bitLen_le n 64 K hn;have c0:=λw=>Tryz.bits_Len64 n w K K
 rw[Int.toNat_natCast]at c0;have c2:=λw=>IA n ((Lib.bitLen n+7)/8) w hn K
 have c4:=λB g w ho=>R8 B g (vL ((Lib.bitLen n+7)/8) n) ((Lib.bitLen n+7)/8) w K (pY _ n) ho
 rw[a5M n,hlen];clear hlen A;generalize Lib.bitLen n=m at*;have C:=H c0;have E:=H c2;have I:=H c4;clear c0 c2 c4;have J:jI ((((m:Nat):Int)+7)/8=(((m+7)/8:Nat):Int)):=by unfold jI;omega
 go_in;go_wp2_with fail;refine(C _).mono ?_;rintro e w' ⟨rfl,rfl⟩;go_wp2_with fail;rw[J.out];refine(E _).mono ?_;rintro e w1 ⟨rfl,ho,hb⟩;go_wp2_with fail;refine(I _ _ _ ho).mono ?_;rintro e w2 ⟨rfl,hg⟩;go_wp2;go_returns;exact⟨rfl,Below.row hb hg (jB _) hb.size⟩
def a3m(n b:Nat)(hn:n<72057594037927936)(hb:b<256):
  bits BinOp.or IntKind.u64 (IntKind.u64.wrap ((n:Int)*256)) (b:Int)=((256*n+b:Nat):Int):=by
 rw[show((n:Int)*256)=((n*256:Nat):Int)from by simp,IntWalk.u64_in _ ⟨K,K⟩,u64_or_nat (n*256) b K K];congr 1;have:=mW (show b<2^8 by omega) n;rw[Nat.mul_comm n 256,show(256:Nat)=2^8 from rfl,<-this]
def R9(s:An)(w:M)(h1:1<=s.size)(A:s.size<=8):
  jG jy 268 #[G s] w λe w'=>e=nK (nJ #[Y nN (tX s.data.toList),Y X 0])/\w=w':=by
 have c1:=H (Gh s.size w h1 A);go_in;go_wp2_with fail;refine c1.mono ?_;rintro e w' ⟨rfl,rfl⟩;go_wp2_with fail;go_loop [5,15] (λacc i=>∃k n:Nat,k<=s.size/\i=Y X k/\acc=Y nN n/\jI (n=tX (s.data.toList.take k))) (λ_ i=>s.size -(kC i).toNat);case atStart=>exact⟨0,0,K,rfl,rfl,rfl⟩
 case round=>
  obtain⟨k,n,hk,rfl,rfl,hv⟩:=hrel;by_cases c:k<s.size
  .have hb:s[k].toNat<=255:=by have:=s[k].toNat_lt;omega
   have hn:n<72057594037927936:=by
    have h1:=Hg (s.data.toList.take k);have h2:(s.data.toList.take k).length<=7:=by rw[kD];omega
    rw[hv.out];exact ME
   have hor:=H (a3m n s[k].toNat hn K);have hnx:jI (256*n+s[k].toNat=tX (s.data.toList.take (k+1))):=by unfold jI;rw[MB s k c,K5,hv.out]
   clear hn;exact Uj
  .exact Rc
def pM(l:List Ax):Nat×Nat:=match l with
 |[]=>(0,0)
 |b::r=>if 8<r.length+1 then(0,5)else if b.toNat=0 then(0,3)else(tX (b::r),0)
def n2(t:Nat×Nat):jC:=nJ #[Y nN t.1,Y X t.2]
def UI(h:p:=by
 have h':0<s.data.toList.length:=by simpa using h
 have:=nA h';rw[mM]at this;exact this):p:=h
def tZ(s:An)(h:0<s.size):s.data.toList=s[0]::s.data.toList.drop 1:=by
 exact UI
def Bh(s:An)(h:0<s.size):s.toList.isEmpty=O:=by
 rw[Lib.toList_data,tZ s h];rfl
def yV(h:p:=by
 go_wp2;go_returns;exact⟨by rw[e.out];rfl,rfl⟩):p:=h
def zP(s:An)(w:M)(hs:s.size<=jN):
  jG jy 243 #[G s] w λe w'=>e=nK (n2 (pM s.data.toList))/\w=w':=by
 unfold jN at hs;by_cases h0:s.size=0
 .have e:s=⟨#[]⟩:=R5 (mh.1 (by simpa using h0))
  subst e;go_in;exact zG
 .have hp:0<s.size:=K
  have E:=Bh s hp;have hl:(s.data.toList.drop 1).length+1=s.size:=by rw[kG];simp;omega
  clear h0;by_cases I:8<s.size
  .have e:jI (pM s.data.toList=(0,5)):=by unfold jI;rw[tZ s hp,pM,AC K]
   clear hl;go_in;exact yV
  .by_cases A:s[0].toNat=0
   .have e:jI (pM s.data.toList=(0,3)):=by unfold jI;rw[tZ s hp,pM,As K,AC A]
    have C:((s[0].toNat:Int)==0)=R:=Ot;clear hl A;go_in;exact yV
   .have e:jI (pM s.data.toList=(tX s.data.toList,0)):=by unfold jI;rw[tZ s hp,pM,As K,As A]
    have C:((s[0].toNat:Int)==0)=O:=vo;have c1:=H (R9 s w K K);generalize tX s.data.toList=v at*;clear hl A;go_in;go_wp2_with fail;refine c1.mono ?_;rintro e w' ⟨rfl,rfl⟩;exact yV
abbrev G6:jX:=63
def okL(l:List Ax):Bool:=(pM l).2==0
def yC(a:TL)(x:IL):Bool:= !x.list&&okL x.text&&At ((x.text.length:Int)<=a.size)
def ze(a:TL)(x:IL):Bool:= !x.list&&At ((x.text.length:Int)=a.size)
def zf(a:TL)(x:IL):Bool:= !x.list&&At ((x.text.length:Int)<=a.size)
def Ak(a:TL)(x:IL)(m:Nat):Bool:=x.list&&At ((m:Int)<=a.size)
def yD(a:TL)(n:Nat)(x:IL)(m:Nat):Bool:=x.list&&At (m<=n)&&At ((n:Int) - a.tail<=(m:Int))
def Dt(k z tl:Int)(tv:jC)(tx:An)(li:Bool)(iv:jC):∀W,(w.alloc (nL #[Y X k,Y X z,tv,Y X tl] G6)).alloc (nL #[G tx,nH li,iv] IT)=W->
  jD w.heap.size w W/\(W.cell? (Z w.heap.size 0 V)=U (Y X k)/\W.cell? (Z w.heap.size 1 V)=U (Y X z)/\W.cell? (Z w.heap.size 2 V)=U tv/\W.cell? (Z w.heap.size 3 V)=U (Y X tl))/\
   (W.cell? (Z (w.heap.size+1) 0 V)=U (G tx)/\W.cell? (Z (w.heap.size+1) 1 V)=U (nH li)/\W.cell? (Z (w.heap.size+1) 2 V)=U iv)/\W.heap.size=w.heap.size+2:=by
 rintro W rfl;have A:=(nU.new w #[Y X k,Y X z,tv,Y X tl] G6).alloc (nL #[G tx,nH li,iv] IT);have C:=nU.new (w.alloc (nL #[Y X k,Y X z,tv,Y X tl] G6)) #[G tx,nH li,iv] IT;have E:(w.alloc (nL #[Y X k,Y X z,tv,Y X tl] G6)).heap.size=w.heap.size+1:=nX;rw[E]at C;exact⟨((jE _ w).alloc (jB _) _).alloc nX _,⟨A.cell 0,A.cell 1,A.cell 2,A.cell 3⟩,⟨C.cell 0,C.cell 1,C.cell 2⟩,nX⟩
def Zk(x:IL)(iv:jC)(w:M)(I:x.text.length<=jN):
  jG jy 206 #[nI #[G (txt x),nH x.list,iv]] w λe w'=>(∃n:Nat,e=nK (nJ #[Y nN n,Y X (if x.list then 12 else((pM x.text).2:Nat):Int)]))/\jD w.heap.size w w':=by
 have hb:=nU.new w #[G (txt x),nH x.list,iv] IT;have C:=(jE w.heap.size w).alloc (jB _) (nL #[G (txt x),nH x.list,iv] IT);obtain⟨g,hg⟩:=og w.heap.size;rw[hg]at hb C|-;have A:=λW=>zP (txt x) W (by rw[uw];exact I)
 rw[D8]at A;unfold n2 at A;have A:=H A;have E:=H C;obtain⟨tx,li⟩:=x;dsimp only at*;generalize txt ⟨tx,li⟩=N at*;generalize pM tx=an at*;obtain⟨J,ge⟩:=an;dsimp only at A;obtain⟨c0,c1⟩:=hb.a2;clear hb C I;cases li with
 |true=>
  go_in;go_upto_region 1 with fail;generalize w.alloc _=w1 at*;go_wp2;go_returns;exact⟨⟨0,rfl⟩,E.out⟩
 |false=>
  go_in;go_upto_region 1 with fail;generalize w.alloc _=w1 at*;go_wp2_with fail;refine(A _).mono ?_;rintro e w2 ⟨rfl,rfl⟩;go_wp2;go_returns;exact⟨⟨J,rfl⟩,E.out⟩
def zg(h:p:=by
 clear HR;go_in;go_upto_region 1 with fail;generalize (w.alloc _).alloc _=w1 at*;obtain⟨hb1,⟨t0,t1,t2,t3⟩,⟨i0,i1,i2⟩,hsz⟩:=HW.out _ rfl;have HB:=H hb1;clear HW hb1;go_wp2;go_returns;exact⟨by rw[HE.out];rfl,HB.out⟩):p:=h
def Zl(a:TL)(x:IL)(tv iv:jC)(w:M)(E:x.text.length<=jN):
  jG jy 229 #[nI #[Y X a.kind,Y X a.size,tv,Y X a.tail],nI #[G (txt x),nH x.list,iv]] w λe w'=>e=nK (nH (ze a x))/\jD w.heap.size w w':=by
 have HW:=H (Dt (w:=w) a.kind a.size a.tail tv (txt x) x.list iv);have I:=uw x;obtain⟨g,hg⟩:=og w.heap.size;have J:x.text.length<=9223372036854775807:=by unfold jN at E;omega
 obtain⟨ar,A⟩:=og (ze a x);have HR:=H A;rw[A];rw[hg]at HW|-;obtain⟨tx,li⟩:=x;obtain⟨k,z,tl⟩:=a;dsimp only at*;generalize txt ⟨tx,li⟩=N at*;obtain⟨L,hL⟩:=og tx.length;have C:=H hL;rw[hL]at I J;clear A E hL;cases li with
 |true=>
  have HE:jI (ar=O):=H (by rw[<-HR.out];unfold ze;dsimp only;simp only[C.out];simp;first|done|omega);exact zg
 |false=>
  by_cases c:(L:Int)=z
  .skip
   have HE:jI (ar=R):=H (by rw[<-HR.out];unfold ze;dsimp only;simp only[C.out];simp;first|done|omega);have e1:((L:Int)==z)=R:=nY;exact zg
  .skip
   have HE:jI (ar=O):=H (by rw[<-HR.out];unfold ze;dsimp only;simp only[C.out];simp;first|done|omega);have e1:((L:Int)==z)=O:=nY;exact zg
def Zm(a:TL)(x:IL)(tv iv:jC)(w:M)(E:x.text.length<=jN):
  jG jy 232 #[nI #[Y X a.kind,Y X a.size,tv,Y X a.tail],nI #[G (txt x),nH x.list,iv]] w λe w'=>e=nK (nH (zf a x))/\jD w.heap.size w w':=by
 have HW:=H (Dt (w:=w) a.kind a.size a.tail tv (txt x) x.list iv);have I:=uw x;obtain⟨g,hg⟩:=og w.heap.size;have J:x.text.length<=9223372036854775807:=by unfold jN at E;omega
 obtain⟨ar,A⟩:=og (zf a x);have HR:=H A;rw[A];rw[hg]at HW|-;obtain⟨tx,li⟩:=x;obtain⟨k,z,tl⟩:=a;dsimp only at*;generalize txt ⟨tx,li⟩=N at*;obtain⟨L,hL⟩:=og tx.length;have C:=H hL;rw[hL]at I J;clear A E hL;cases li with
 |true=>
  have HE:jI (ar=O):=H (by rw[<-HR.out];unfold zf;dsimp only;simp only[C.out];simp;first|done|omega);exact zg
 |false=>
  by_cases c:(L:Int)<=z
  .skip
   have HE:jI (ar=R):=H (by rw[<-HR.out];unfold zf;dsimp only;simp only[C.out];simp;first|done|omega);exact zg
  .skip
   have HE:jI (ar=O):=H (by rw[<-HR.out];unfold zf;dsimp only;simp only[C.out];simp;first|done|omega);exact zg
def Zn(a:TL)(x:IL)(ot oi:Option kW)(n m ct ci:Nat)(w:M)(hn:n<=100000)(I:m<=100000)(htl:0<=a.tail/\a.tail<=100000):
  jG jy 233 #[nI #[Y X a.kind,Y X a.size,u ot n ct,Y X a.tail],nI #[G (txt x),nH x.list,u oi m ci]] w λe w'=>e=nK (nH (Ak a x m))/\jD w.heap.size w w':=by
 have HW:=H (Dt (w:=w) a.kind a.size a.tail (u ot n ct) (txt x) x.list (u oi m ci));obtain⟨g,hg⟩:=og w.heap.size;obtain⟨ar,A⟩:=og (Ak a x m);have HR:=H A;rw[A];rw[hg]at HW|-;obtain⟨tx,li⟩:=x;obtain⟨k,z,tl⟩:=a;dsimp only at*;generalize txt ⟨tx,li⟩=J at*;clear A;obtain⟨C,E⟩:=htl;cases li with
 |false=>
  have HE:jI (ar=O):=H (by rw[<-HR.out];unfold Ak;dsimp only;simp;first|done|omega);exact zg
 |true=>
  by_cases c:(m:Int)<=z
  .have e1:At ((m:Int)<=z)=R:=nY
   have HE:jI (ar=R):=H (by rw[<-HR.out];unfold Ak;dsimp only;simp;first|done|omega);exact zg
  .have e1:At ((m:Int)<=z)=O:=nY
   have HE:jI (ar=O):=H (by rw[<-HR.out];unfold Ak;dsimp only;simp;first|done|omega);exact zg
def Zo(a:TL)(x:IL)(ot oi:Option kW)(n m ct ci:Nat)(w:M)(hn:n<=100000)(I:m<=100000)(htl:0<=a.tail/\a.tail<=100000):
  jG jy 236 #[nI #[Y X a.kind,Y X a.size,u ot n ct,Y X a.tail],nI #[G (txt x),nH x.list,u oi m ci]] w λe w'=>e=nK (nH (yD a n x m))/\jD w.heap.size w w':=by
 have HW:=H (Dt (w:=w) a.kind a.size a.tail (u ot n ct) (txt x) x.list (u oi m ci));obtain⟨g,hg⟩:=og w.heap.size;obtain⟨ar,A⟩:=og (yD a n x m);have HR:=H A;rw[A];rw[hg]at HW|-;obtain⟨tx,li⟩:=x;obtain⟨k,z,tl⟩:=a;dsimp only at*;generalize txt ⟨tx,li⟩=J at*;clear A;obtain⟨C,E⟩:=htl;cases li with
 |false=>
  have HE:jI (ar=O):=H (by rw[<-HR.out];unfold yD;dsimp only;simp;first|done|omega);exact zg
 |true=>
  by_cases c:m<=n
  .have e1:At (m<=n)=R:=nY
   by_cases c2:(n:Int) - tl<=(m:Int)
   .have e2:At ((n:Int) - tl<=(m:Int))=R:=nY
    have HE:jI (ar=R):=H (by rw[<-HR.out];unfold yD;dsimp only;simp;first|done|omega);exact zg
   .have e2:At ((n:Int) - tl<=(m:Int))=O:=nY
    have HE:jI (ar=O):=H (by rw[<-HR.out];unfold yD;dsimp only;simp;first|done|omega);exact zg
  .have e1:At (m<=n)=O:=nY
   have HE:jI (ar=O):=H (by rw[<-HR.out];unfold yD;dsimp only;simp;first|done|omega);exact zg
def M8(h:p:=by
 clear HR;go_in;go_upto_region 1 with fail;generalize (w.alloc _).alloc _=w1 at*;obtain⟨hb1,⟨t0,t1,t2,t3⟩,⟨i0,i1,i2⟩,hsz⟩:=HW.out _ rfl;have HB:=H hb1;clear HW hb1;go_wp2_with fail;refine(CO _).mono ?_;rintro e w2 ⟨⟨nn,rfl⟩,hb2⟩;have HB2:=H (HB.trans (hb2.mono K));have x1:=(hb2.cell (p:=(Z (g+1) 0 V)) (by show g+1<_;omega)).trans i0;have x2:=(hb2.cell (p:=(Z g 1 V)) (by show g<_;omega)).trans t1;clear hb2 i0 i1 i2 t0 t1 t2 t3;go_wp2;go_returns;exact⟨by rw[HE.out];rfl,HB2.out⟩):p:=h
def Zp(a:TL)(x:IL)(tv iv:jC)(w:M)(E:x.text.length<=jN):
  jG jy 228 #[nI #[Y X a.kind,Y X a.size,tv,Y X a.tail],nI #[G (txt x),nH x.list,iv]] w λe w'=>e=nK (nH (yC a x))/\jD w.heap.size w w':=by
 have HW:=H (Dt (w:=w) a.kind a.size a.tail tv (txt x) x.list iv);have N:=uw x;obtain⟨g,hg⟩:=og w.heap.size;have aa:x.text.length<=9223372036854775807:=by unfold jN at E;omega
 have CO:=λ(W:M)=>Zk x iv W E
 obtain⟨ar,I⟩:=og (yC a x);have HR:=H I;rw[I];rw[hg]at HW|-;obtain⟨tx,li⟩:=x;obtain⟨k,z,tl⟩:=a;dsimp only at*;generalize txt ⟨tx,li⟩=J at*;obtain⟨L,hL⟩:=og tx.length;have C:=H hL;rw[hL]at N aa;clear I E hL;have CO:∀W,jG jy 206 #[nI #[G J,nH li,iv]] W λe w'=>(∃n:Nat,e=nK (nJ #[Y nN n,Y X (if li then 12 else((pM tx).2:Nat):Int)]))/\jD W.heap.size W w':=CO
 have CO:=H CO;cases li with
 |true=>
  have CO:jI (∀W,jG jy 206 #[nI #[G J,nH R,iv]] W λe w'=>(∃n:Nat,e=nK (nJ #[Y nN n,Y X 12]))/\jD W.heap.size W w'):=CO;have HE:jI (ar=O):=H (by rw[<-HR.out];unfold yC;dsimp only;first|rfl|(rw[A.out,C.out];simp;first|done|omega));exact M8
 |false=>
  have CO:jI (∀W,jG jy 206 #[nI #[G J,nH O,iv]] W λe w'=>(∃n:Nat,e=nK (nJ #[Y nN n,Y X ((pM tx).2:Nat)]))/\jD W.heap.size W w'):=CO;have A:jI (okL tx=((pM tx).2==0)):=H rfl;generalize (pM tx).2=GE at*;by_cases c0:GE=0
  .subst c0
   by_cases c:(L:Int)<=z
   .have e1:At ((L:Int)<=z)=R:=nY
    have HE:jI (ar=R):=H (by rw[<-HR.out];unfold yC;dsimp only;first|rfl|(rw[A.out,C.out];simp;first|done|omega));exact M8
   .have e1:At ((L:Int)<=z)=O:=nY
    have HE:jI (ar=O):=H (by rw[<-HR.out];unfold yC;dsimp only;first|rfl|(rw[A.out,C.out];simp;first|done|omega));exact M8
  .have ae:((GE:Int)==0)=O:=nY
   have HE:jI (ar=O):=H (by rw[<-HR.out];unfold yC;dsimp only;first|rfl|(rw[A.out,C.out];simp;first|done|omega));exact M8
end
section
open Go.RowKit Go.Maps
def uU:IW (jC×jC) where
 ev p:=nI #[p.1,p.2]
 ar v:=match v with
  | nI cs=>match cs.toList with
   |[a,b]=>U (.held (a,b),[])
   |_=>V
  |_=>V
 lay x:=rfl
 inv v z h:=by
  cases v with
  |agg cs=>
   dsimp only at h;split at h
   .rename_i a b he
    cases h;refine⟨(a,b),?_,rfl⟩;congr 1;apply Array.ext';rw[he]
   .cases h
  |_=>cases h
def KiK:Fq jy 3 Int:=intKeys mG
abbrev WL:jX:=235
def Sa(f:FuncId):jC:=.func (.func f) #[] #[]
def kf1:jC×jC:=(Sa 228,Sa 226)
def kf2:jC×jC:=(Sa 229,Sa 230)
def kf3:jC×jC:=(Sa 232,Sa 226)
def kf4:jC×jC:=(Sa 233,Sa 234)
def kf5:jC×jC:=(Sa 236,Sa 237)
def Sb:List (Int×(jC×jC)):=[(5,kf5),(4,kf4),(3,kf3),(2,kf2),(1,kf1)]
def WM(w:M):(zeroValue 239).run jy w=.ok (uU.ev (.nilFunc,.nilFunc)) w:=rfl
def yE(w:M)(b:Nat):Prop:=qU KiK uU w b 5 Sb
def yE.look(h:yE w b)(k:Int)(hk:(kY X k).wf=R)(p:jC×jC)(hp:vE Sb k=U p):
  (lV WL (.map (U b)) (Y X k) O).run jy w=.ok (nI #[p.1,p.2]) w:=by
 have A:=qU.look (x:=k) h Tryz.underlying235 WM hk;rw[hp]at A;exact A
def yE.below(h:yE w b)(hb:jD w.heap.size w w'):yE w' b:=qU.below h hb
def Py(w:M):jG jy 196 #[] w λe w'=>e=nK (.map (U w.heap.size))/\yE w' w.heap.size/\jD w.heap.size w w':=by
 have aH:=@run_makeMap jy;obtain⟨g,hg⟩:=og w.heap.size;have N:=qU.made KiK uU w;have I:=(jE w.heap.size w).alloc (jB _) (.map #[] 0);have aa:(w.alloc (.map #[] 0)).heap.size=g+1:=by simp[hg]
 rw[hg]at N I;have N:=H N;have ae:=H I;rw[hg];clear I;go_in;go_upto_region 2 with fail
 go_wp2_with (first
  |(refine qO (E:=KiK) (F:=uU) (x:=(1:Int)) (y:=kf1) rfl _ _ _ rfl Tryz.underlying235 N rfl rfl (show(kY .i64 1).wf=R by decide) rfl xH ?_;intro w2 A C;have au:=H A;have af:=H C;clear A C)
  |(refine qO (E:=KiK) (F:=uU) (x:=(2:Int)) (y:=kf2) rfl _ _ _ rfl Tryz.underlying235 au rfl rfl (show(kY .i64 2).wf=R by decide) rfl xH ?_;intro w2 A C;have av:=H A;have ag:=H C;clear A C)
  |(refine qO (E:=KiK) (F:=uU) (x:=(3:Int)) (y:=kf3) rfl _ _ _ rfl Tryz.underlying235 av rfl rfl (show(kY .i64 3).wf=R by decide) rfl xH ?_;intro w2 A C;have ax:=H A;have ah:=H C;clear A C)
  |(refine qO (E:=KiK) (F:=uU) (x:=(4:Int)) (y:=kf4) rfl _ _ _ rfl Tryz.underlying235 ax rfl rfl (show(kY .i64 4).wf=R by decide) rfl xH ?_;intro w2 A C;have ay:=H A;have ai:=H C;clear A C)
  |(refine qO (E:=KiK) (F:=uU) (x:=(5:Int)) (y:=kf5) rfl _ _ _ rfl Tryz.underlying235 ay rfl rfl (show(kY .i64 5).wf=R by decide) rfl xH ?_;intro w2 A C;have az:=H A;have aj:=H C;clear A C))
 go_returns;have J:∀{a b:M},pX g a b->g<=a.heap.size->jD g w a->g<=b.heap.size/\jD g w b:=λak hs hb=>⟨jM hs ak.size,ak.below hb (jB _) hs⟩
 obtain⟨aA,b1⟩:=J af (by rw[aa];exact kR _) ae.out;obtain⟨aB,aC⟩:=J ag aA b1;obtain⟨aD,b3⟩:=J ah aB aC;obtain⟨aF,b4⟩:=J ai aD b3;obtain⟨aI,aG⟩:=J aj aF b4;exact⟨rfl,az.out,aG⟩
def qm(t:nS TL)(i:Nat):Option (nS TL):=if t.lab.kind=4 then t.sub[0]? else t.sub[i]?
def Zq(h:p:=by
 have HQ:=H ((((hB2.set 0 (Y X yk)).set 1 (Y X yz)).set 2 (u ou un uc)).set 3 (Y X yl));have Sc:=H ((((hbe.setCell (p:=(Z (g+1) 0 V)) (kR _) (Y X yk)).setCell (p:=(Z (g+1) 1 V)) (kR _) (Y X yz)).setCell (p:=(Z (g+1) 2 V)) (kR _) (u ou un uc)).setCell (p:=(Z (g+1) 3 V)) (kR _) (Y X yl));clear HW c0 c1 c2 c3 hB1 hB2 hbe;go_wp2_with fail;have d0:=HQ.cell 0;have d1:=HQ.cell 1;have d2:=HQ.cell 2;have d3:=HQ.cell 3;simp only[jH,jQ,jR,jV,jS,jT]at d0 d1 d2 d3;refine jO (v:=nI #[Y X yk,Y X yz,u ou un uc,Y X yl]) (by simp[kF,Tryz.results198,go_sem,d0,d1,d2,d3]) rfl ⟨rfl,Sc.out⟩):p:=h
def M9(t:nS TL)(i:Nat)(w:M)(tv:jC)(ax:o6 w tv t.sub)(y:nS TL)(ou:Option kW)(un uc:Nat)(au:∃b off,(∃n cap,tv=u (U (Z b off V)) n cap/\(if t.lab.kind=4 then 0 else i)<n/\n<=100000)/\b<w.heap.size/\w.cell? (Z b (off+(if t.lab.kind=4 then 0 else i)*4) V)=U (Y X y.lab.kind)/\
   w.cell? (Z b (off+(if t.lab.kind=4 then 0 else i)*4+1) V)=U (Y X y.lab.size)/\w.cell? (Z b (off+(if t.lab.kind=4 then 0 else i)*4+2) V)=U (u ou un uc)/\w.cell? (Z b (off+(if t.lab.kind=4 then 0 else i)*4+3) V)=U (Y X y.lab.tail)):
  jG jy 198 #[nI #[Y X t.lab.kind,Y X t.lab.size,tv,Y X t.lab.tail],Y X i] w λe w'=>e=nK (nI #[Y X y.lab.kind,Y X y.lab.size,u ou un uc,Y X y.lab.tail])/\jD w.heap.size w w':=by
 obtain⟨b,off,⟨n,cap,rfl,hin,aG⟩,hb,c0,c1,c2,c3⟩:=au;obtain⟨A,C⟩:=og ((if t.lab.kind=4 then 0 else i));rw[C]at hin c0 c1 c2 c3;have I:(t.lab.kind=4/\A=0)\/(t.lab.kind≠4/\A=i):=by
  by_cases hk:t.lab.kind=4;.exact .inl ⟨hk,by rw[<-C,AC hk]⟩
  .exact .inr ⟨hk,by rw[<-C,As hk]⟩
 clear C ax;obtain⟨k,J⟩:=og t.lab.kind;obtain⟨z,ah⟩:=og t.lab.size;obtain⟨tl,ai⟩:=og t.lab.tail;obtain⟨yk,N⟩:=og y.lab.kind;obtain⟨yz,aa⟩:=og y.lab.size;obtain⟨yl,ae⟩:=og y.lab.tail;rw[J,ah,ai,N,aa,ae];rw[J]at I;rw[N]at c0;rw[aa]at c1;rw[ae]at c3;clear J ah ai N aa ae;obtain⟨g,hg⟩:=og w.heap.size;have aj:=nU.new w #[Y X k,Y X z,u (U (Z b off V)) n cap,Y X tl] G6;have ak:=(jE w.heap.size w).alloc (jB _) (nL #[Y X k,Y X z,u (U (Z b off V)) n cap,Y X tl] G6);have E:=ak.alloc nX (nL #[Y X 0,Y X 0,u V 0 0,Y X 0] G6);have av:(w.alloc (nL #[Y X k,Y X z,u (U (Z b off V)) n cap,Y X tl] G6)).heap.size=g+1:=by simp[hg]
 have af:=nU.new (w.alloc (nL #[Y X k,Y X z,u (U (Z b off V)) n cap,Y X tl] G6)) #[Y X 0,Y X 0,u V 0 0,Y X 0] G6;rw[av]at af;have ag:=aj.alloc (nL #[Y X 0,Y X 0,u V 0 0,Y X 0] G6);rw[hg]at ag E hb|-
 have HW:jI (∀W,(w.alloc (nL #[Y X k,Y X z,u (U (Z b off V)) n cap,Y X tl] G6)).alloc (nL #[Y X 0,Y X 0,u V 0 0,Y X 0] G6)=W->
   nU W g #[Y X k,Y X z,u (U (Z b off V)) n cap,Y X tl] G6/\nU W (g+1) #[Y X 0,Y X 0,u V 0 0,Y X 0] G6/\jD g w W):=H λW h=>by subst h;exact⟨ag,af,E⟩
 clear aj af ag ak E av;rcases I with⟨rfl,rfl⟩|⟨hk,rfl⟩
 .rw[Nat.zero_mul,nk]at c0 c1 c2 c3
  go_in;go_upto_region 1 with fail;obtain⟨hB1,hB2,hbe⟩:=HW.out _ rfl;generalize (w.alloc _).alloc _=w1 at*;have ay:=hB1.c0;have az:=hB1.c2;obtain⟨r0,r1,r2,r3,z0,aA,aB,z3⟩:=hB2.b4;have aC:=(hbe.cell (p:=(Z b off V)) hb).trans c0;have aD:=(hbe.cell (p:=(Z b (off+1) V)) hb).trans c1;have y2:=(hbe.cell (p:=(Z b (off+2) V)) hb).trans c2;have aF:=(hbe.cell (p:=(Z b (off+3) V)) hb).trans c3;exact Zq
 .have aH:(k==4)=O:=by simp[hk]
  clear hk;go_in;go_upto_region 1 with fail;obtain⟨hB1,hB2,hbe⟩:=HW.out _ rfl;generalize (w.alloc _).alloc _=w1 at*;have ay:=hB1.c0;have az:=hB1.c2;obtain⟨r0,r1,r2,r3,z0,aA,aB,z3⟩:=hB2.b4;have aC:=(hbe.cell (p:=(Z b (off+A*4) V)) hb).trans c0;have aD:=(hbe.cell (p:=(Z b (off+A*4+1) V)) hb).trans c1;have y2:=(hbe.cell (p:=(Z b (off+A*4+2) V)) hb).trans c2;have aF:=(hbe.cell (p:=(Z b (off+A*4+3) V)) hb).trans c3;exact Zq
def qX(t:nS TL)(x:IL)(m:Nat):Bool:=
 if t.lab.kind=1 then yC t.lab x else if t.lab.kind=2 then ze t.lab x else if t.lab.kind=3 then zf t.lab x else if t.lab.kind=4 then Ak t.lab x m else if t.lab.kind=5 then yD t.lab t.sub.length x m else O
mutual
def rH:nS IL->nS TL->Bool
 | .node a s,t=>qX t a s.length&&sF s t 0
def sF:List (nS IL)->nS TL->Nat->Bool
 |[],_,_=>R
 |x::xs,t,i=>(match qm t i with|some y=>rH x y|none=>O)&&sF xs t (i+1)
end
def Jc(x:nS IL)(t:nS TL):∀(s:List (nS IL))(i:Nat),sF (s++[x]) t i=(sF s t i&&(match qm t (i+s.length)with|some y=>rH x y|none=>O))
 |[],i=>by simp[sF]
 |y::ys,i=>by
  simp only[List.cons_append,sF];rw[Jc x t ys (i+1),Bool.and_assoc,j4,show i+1+ys.length=i+(ys.length+1)by omega]
def Sd{s:List (nS IL)}{t:nS TL}{k:Nat}{x:nS IL}{y:nS TL}(h:s[k]? =U x)(hy:qm t k=U y):sF (s.take (k+1)) t 0=(sF (s.take k) t 0&&rH x y):=by
 have hlt:=(lu.1 h).1;have hl:(s.take k).length=k:=by rw[kD];omega
 have e:s.take (k+1)=s.take k++[x]:=by rw[List.take_add_one,h];rfl
 rw[e,Jc,hl,mU,hy]
def Gx{t:nS TL}{x:nS IL}{y:nS TL}:∀{s:List (nS IL)}{k i:Nat},s[k]? =U x->qm t (i+k)=U y->rH x y=O->sF s t i=O
 |[],k,i,h,_,_=>by simp at h
 |z::zs,0,i,h,hy,A=>by
  simp at h;subst h;simp only[sF];rw[nk]at hy;rw[hy];dsimp only;rw[A];rfl
 |z::zs,k+1,i,h,hy,A=>by
  simp only[sF];rw[Gx (k:=k) (i:=i+1) (by simpa using h) (by rw[<-hy];congr 1;omega) A,Bool.and_false]
def Pz{t:nS TL}{a:IL}{m k:Nat}(E:oJ t.lab t.sub=R)(h:qX t a m=R)(I:a.list=R\/m=0)(hk:k<m):∃y,qm t k=U y/\y∈t.sub:=by
 have A:∀i,i<t.sub.length->∃y,t.sub[i]? =U y/\y∈t.sub:=λi hi=>⟨_,jL hi,List.getElem_mem hi⟩
 unfold oJ qo at E;simp only[decide_eq_true_eq]at E;have hl:a.list=R:=I.resolve_right K;unfold qX at h;unfold qm;split at h;.simp[yC,hl]at h
 .split at h
  .simp[ze,hl]at h
  .split at h
   .simp[zf,hl]at h
   .split at h
    .rename_i C
     rw[AC C];exact A 0 K
    .rename_i C
     rw[As C];split at h
     .simp only[yD,jJ,decide_eq_true_eq]at h
      exact A k K
     .cases h
structure FtE(bo bf bm:Nat)(w:M):Prop where
 o:nU w bo #[.map (U bm)] WL
 m:yE w bm
 f:nU w bf #[.func (.func 197) #[] #[nG (U (Z bo 0 V)),nG (U (Z bf 0 V))]] 108
def FtE.below{bo bf bm:Nat}(h:FtE bo bf bm w)(hb:jD w.heap.size w w'):FtE bo bf bm w':=⟨Below.blk hb h.o h.o.lt,h.m.below hb,Below.blk hb h.f h.f.lt⟩
def a3n(t:nS TL)(x:IL)(ot oi:Option kW)(m ct ci:Nat)(E:oJ t.lab t.sub=R)(C:x.text.length<=jN)(I:m<=100000):
  (t.lab.kind=1/\∀W,jG jy 228 #[nI #[Y X t.lab.kind,Y X t.lab.size,u ot t.sub.length ct,Y X t.lab.tail],nI #[G (txt x),nH x.list,u oi m ci]] W λe w'=>e=nK (nH (qX t x m))/\jD W.heap.size W w')\/
  (t.lab.kind=2/\∀W,jG jy 229 #[nI #[Y X t.lab.kind,Y X t.lab.size,u ot t.sub.length ct,Y X t.lab.tail],nI #[G (txt x),nH x.list,u oi m ci]] W λe w'=>e=nK (nH (qX t x m))/\jD W.heap.size W w')\/
  (t.lab.kind=3/\∀W,jG jy 232 #[nI #[Y X t.lab.kind,Y X t.lab.size,u ot t.sub.length ct,Y X t.lab.tail],nI #[G (txt x),nH x.list,u oi m ci]] W λe w'=>e=nK (nH (qX t x m))/\jD W.heap.size W w')\/
  (t.lab.kind=4/\∀W,jG jy 233 #[nI #[Y X t.lab.kind,Y X t.lab.size,u ot t.sub.length ct,Y X t.lab.tail],nI #[G (txt x),nH x.list,u oi m ci]] W λe w'=>e=nK (nH (qX t x m))/\jD W.heap.size W w')\/
  (t.lab.kind=5/\∀W,jG jy 236 #[nI #[Y X t.lab.kind,Y X t.lab.size,u ot t.sub.length ct,Y X t.lab.tail],nI #[G (txt x),nH x.list,u oi m ci]] W λe w'=>e=nK (nH (qX t x m))/\jD W.heap.size W w'):=by
 unfold oJ qo at E;simp only[decide_eq_true_eq]at E;have hk:t.lab.kind=1\/t.lab.kind=2\/t.lab.kind=3\/t.lab.kind=4\/t.lab.kind=5:=K;have A:∀k,t.lab.kind=k->qX t x m=if k=1 then yC t.lab x else if k=2 then ze t.lab x else if k=3 then zf t.lab x else if k=4 then Ak t.lab x m else if k=5 then yD t.lab t.sub.length x m else O:=λk h=>by unfold qX;rw[h]
 rcases hk with h|h|h|h|h
 .exact .inl ⟨h,λW=>by rw[A _ h];exact Zp t.lab x _ _ W C⟩
 .exact .inr (.inl ⟨h,λW=>by rw[A _ h];exact Zl t.lab x _ _ W C⟩)
 .exact .inr (.inr (.inl ⟨h,λW=>by rw[A _ h];exact Zm t.lab x _ _ W C⟩))
 .exact .inr (.inr (.inr (.inl ⟨h,λW=>by rw[A _ h];exact Zn t.lab x _ _ t.sub.length m _ _ W K I K⟩)))
 .exact .inr (.inr (.inr (.inr (⟨h,λW=>by rw[A _ h];exact Zo t.lab x _ _ t.sub.length m _ _ W K I K⟩))))
def a3o(a b:jC)(W:M):lL jy (Instr.field 239 (nI #[a,b]) 0) W=.ok a W:=rfl
end
end Go.Proofs.YtamfcjmhnndbdaaGreatDoor


