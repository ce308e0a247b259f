/- Part 6 of the proof. -/
import Derived.Test.YtamfcjmhnndbdaaGreatDoorZb05
import Derived.Laws.CopyOwn
open Go.Value renaming agg→mI,bool→mH,int→V,pointer→mG,slice→G,string→H,tuple→mJ,ownBlock→jK,slice→jM
open Go.Obj renaming cells→mM
open Go.IntKind renaming i64→X,u32→mQ,u64→mP
open Go.Ending renaming returned→mK,returned→jS
open Go.Lib renaming hid→Y,trimRightB→jW
open Go.Proofs.Tryz renaming prog→iN
open Go renaming World→K,Value→iQ,Calls→iW,maxLen→jd,TypeId→jl,results→jv,undef→jw,Addr→j4,Program→j6,Oper→kC,Ending→kV,Act→lY
open Go.RowKit renaming Below→iR,Hid→R
open And renaming intro→iU
open List renaming length→lQ
open Go.World renaming setCell→jr,cell?→lV
open UInt8 renaming ofNat→jH
open Go.Code renaming region→jZ
open Go.Sem renaming run→lJ
open Go.Lit renaming int→lN
open Go.Act renaming put→l7
open Option renaming none→U,some→O
open Bool renaming true→u,false→M
open Go.Addr renaming mk→Z
open Decidable renaming decide→As
namespace Go.Proofs.YtamfcjmhnndbdaaGreatDoor
set_option linter.unusedVariables false
set_option linter.defProp false
set_option linter.unusedSimpArgs false
set_option maxRecDepth 100000
set_option maxHeartbeats 8000000
variable{B b bi bn cap er g k ka kc km ks kt mb n r sb:Nat}{Bs:K->Prop}{F:Nat->Prop}{L:List oJ}{Q:Exit->lY->K->Prop}{W w w' w0 ws:K}{bv:iQ}{c:nU}{e t:jl}{fa la nd se tt:Int}{l:List AC}{m:MS}{m2:Option (Nat×MS)}{nm tx:An}{p:Prop}{rows:List Row}{y:JY×Nat}
variable {a0:lY}{α:Type}
section
open Go.RowKit
def Vb(h:p:=by
 subst h;have h2:=hb2.alloc hb2.size (mM #[H ⟨#[]⟩,mH M,G U 0 0,V X 0,V X 0,V X (er:Nat)] GT);exact⟨HG.below h2,mY.new w2 _ _,h2⟩):p:=h
def a0r(ae items:Int)(s:An)(d a m k:Nat)(w:K)(aE:RdR)(hs:s.size<=100000)(hp:0<s.size)(hb:128<=s[0].toNat)(hL:As (192<=s[0].toNat)=u)(ek:(d:Int)<=ae)(dI:d<=16)(eu:1<=d)(hit:(a:Int)+1<=items)(bM:a+1<=1024)(aQ:∀er,hd s.data.toList=.error er->aE=.error er)(aR:∀z n,hd s.data.toList=.ok (u,z,n)->aE=match Kl k ((s.data.toList.drop z).take n) m []with
   | .error e=> .error e
   | .ok y=> .ok (.node ⟨[],u⟩ y.1,z+n,y.2))(aq aw:Nat)(bN:aw<=1024)(eB:aq+1 - d=k+1)(eD:aw - a=m+1)(bO:∀(s:An) (d a:Nat) (w:K),s.size<=100000->1<=d->d<=17->a<=1024->aq+1 - d=k->iW iN 173 #[H s,V X d,V X a,V X ae,V X items] w (si (uq k s.data.toList (aw - a)) (aw - a) w)):
  iW iN 173 #[H s,V X d,V X a,V X ae,V X items] w (si aE (m+1) w):=by
 have⟨dJ,bz⟩:=nE (si aE (m+1) w);have HP:=Y bz;rw[bz];obtain⟨g,hg⟩:=o7 w;have⟨wa,bP⟩:∃wa,w.alloc (mM #[H ⟨#[]⟩,mH M,G U 0 0,V X 0,V X 0,V X 0] GT)=wa:=⟨_,rfl⟩;have⟨ay,aB,bQ⟩:=D5 hg bP;have bR:=Y ay;have bS:=Y aB;have Jj:=Y (zw ay aB);have⟨c0,c1,c2,c3,c4,c5⟩:=uk (show mY wa g #[_,_,_,_,_,_] GT from ay);have⟨z0,eU,eX,z3,z4,z5⟩:=DZ ay;have eF:=rW s hp;have hlen:s.data.toList.length=s.size:=ny;have HL:=Y hlen;have bT:=Y (λt by'=>Sb hp (by':=by') (t:=t) hL);have⟨b,hb0⟩:=nE (s[0].toNat);have dG:b<=255:=by have:=s[0].toNat_lt;omega
 have dH:128<=b:=I;have⟨t,ht⟩:∃t,b=192+t:=⟨b - 192,by simp at hL;omega⟩;have HT:=Y (bT t 192 rfl (hb0.trans ht));have HE:=Y ht;have HRH:=Y aQ;clear bT ht bz ay aB hlen aQ;have bU:=Y aR;have dK:=Y bO;have eG:192<=b:=by simp at hL;omega
 clear aR bO hL hb;go_in;go_upto_if 56 with(fail)
 go_cut [14,13] (λdL dM dN=>∃J N:Nat,dL=V X (J:Int)/\dM=V X (N:Int)/\1<=J/\J<=s.size/\N<=100000/\R (hd s.data.toList=hd2 s.data.toList u J N)/\dN=wa);case first=>
  by_cases c:t<=55
  .have d2:b<=247:=by have:=HE.out;omega
   exact Va
  .have⟨j,hj⟩:∃j,t=55+j:=⟨t - 55,I⟩
   have bV:0<j:=I;have hj8:j<=8:=by have:=HE.out;omega
   have HJ:=Y (HT.2 j hj bV);have d2:247<b:=by have:=HE.out;omega
   have eY:((b:Int) - 192 - 55)=(j:Int):=by have:=HE.out;omega
   exact a5g
 case rest=>
  obtain⟨J,N,rfl,rfl,eH,eZ,fq,hq,aS⟩:=hcut;have bA:=aS.symm;clear aS;subst bA;by_cases c1:s.size - J<N
  .have Ay:=Y (HRH _ (hq.trans (Bi (by rw[HL.out];omega))))
   have d2:(s.size:Int) -(J:Int)<(N:Int):=I;clear c1;exact Sg
  have d2:(N:Int)<=(s.size:Int) -(J:Int):=I;clear c1;have aU:hd s.data.toList=.ok (u,J,N):=hq.trans (by unfold hd2;rw[At (by rw[HL.out];omega),At ny]);have Ay:=Y (bU _ _ aU);clear aU;have aj:(s.extract J (J+N)).data.toList=(s.data.toList.drop J).take N:=by
   have:=GX (l:=s.data.toList) rfl J N;rw[<-this];rfl
  have aH:(s.extract J (J+N)).size<=100000:=by simp[iV];omega
  have⟨l0,aV⟩:=nE ((s.data.toList.drop J).take N);rw[aV]at Ay aj;have⟨dO,aI⟩:=nE (s.extract J (J+N));rw[aI]at aj aH;have aW:R (∀W,wa.alloc (mM #[H ⟨#[]⟩,mH u,G U 0 0,V X ((J:Int)+(N:Int)),V X 1,V X 0] GT)=W->QQ g w W l0 k m ((J:Int)+(N:Int)) l0 (G U 0 0) [] 1):=Y λW h=>a6w bR bS bQ h
  have bW:=Y aj;clear aV aj;go_wp2_with fail;have bX:=Y (aW _ rfl);generalize wa.alloc (mM #[H ⟨#[]⟩,mH u,G U 0 0,V X ((J:Int)+(N:Int)),V X 1,V X 0] GT)=fu at*;clear aW;simp only[aI];go_loopw [17] (λiv dP=>∃(am:An) (v:iQ) (L:List (pI IL)) (cnt:Nat),iv=H am/\am.size<=100000/\R (QQ g w dP l0 k m ((J:Int)+(N:Int)) am.data.toList v L cnt)) (λiv _=>a97 iv);case atStart=>exact⟨dO,_,[],1,rfl,aH,by rw[bW.out];exact bX⟩
  case round=>
   obtain⟨am,v,L,cnt,rfl,aX,HG⟩:=hrel;have⟨az,aY⟩:=nE L.length;have⟨ov,cv,dQ⟩:∃ov cv,v=G ov az cv:=by obtain⟨ov,cv,h⟩:=HG.own.slice;exact⟨ov,cv,by rw[h,aY]⟩
   subst dQ;have aJ:=Y aY;have⟨o0,bB,bC,bD,bE,bF⟩:=uk HG.Z6;by_cases hI:am.size=0
   .have e:am=⟨#[]⟩:=Dr (j5.1 (by simpa using hI))
    subst e;have⟨r0,r1,r2,r3,r4,bY⟩:=uk (show mY wr g #[_,_,_,_,_,_] GT from HG.res);have⟨bZ,cz,cK,cZ,df,dh⟩:=DZ HG.res;have bG:=Y (a6x (x:=mH u) (y:=mH u) (z:=mH u) hg HG Ay);have aZ:=PY (a:=H ⟨#[]⟩) (b:=mH u) (c:=G ov az cv) (d:=V X ((J:Int)+(N:Int))) (e:=V X (cnt:Nat)) (f:=V X 0) (show mY wr g #[H ⟨#[]⟩,mH M,G U 0 0,V X 0,V X 0,V X 0] GT from HG.res);have zU:=Y (uk aZ);clear aZ;go_wp2_with fail;rw[qO];have⟨d0,d1,d2,d3,d4,d5⟩:=zU.out;refine iY (v:=mI #[H ⟨#[]⟩,mH u,G ov az cv,V X ((J:Int)+(N:Int)),V X (cnt:Nat),V X 0]) (by simp[jv,kE,go_sem,d0,d1,d2,d3,d4,d5]) rfl ?_;rw[<-HP.out];exact bG
   .have dw:0<am.size:=I
    have dR:=rW am dw;have ak:am.data.toList≠[]:=λh=>hI (by have:=congrArg lQ h;simpa using this)
    have eO:=HG.c1;have eP:=HG.c2;have aD:=dK.out am (d+1) (a+cnt) wr aX I I I I;rw[show aw -(a+cnt)=m+1 - cnt by omega]at aD;have⟨ad,aA⟩:=nE (uq k am.data.toList (m+1 - cnt));rw[aA]at aD;have ah:=HG.eq;rw[Aw ak,aA]at ah;have aD:R (iW iN 173 #[H am,V X ((d:Int)+1),V X ((a:Int)+(cnt:Int)),V X ae,V X items] wr (si ad (m+1 - cnt) wr)):=Y aD;cases ad with
    |error er=>
     have eQ:=yQ _ _ _ _ aA;simp only at ah;have au:R (aE=.error (if er=2 then 3 else er)):=Y (by rw[Ay.out,ah]);clear ah aA ak;by_cases e2:er=2
     .rw[Ax e2]at au
      have e1:((er:Int)==2)=u:=by simp[e2]
      clear e2;go_wp2_with fail;refine pG aD λw2 hb2=> ?_
      have aa:R (∀W,w2.alloc (mM #[H ⟨#[]⟩,mH M,G U 0 0,V X 0,V X 0,V X (er:Nat)] GT)=W->QQ g w W l0 k m ((J:Int)+(N:Int)) am.data.toList (G ov az cv) L cnt/\mY W w2.heap.size #[H ⟨#[]⟩,mH M,G U 0 0,V X 0,V X 0,V X (er:Nat)] GT/\iR wr.heap.size wr W):=Y λW h=>by
       exact Vb
      clear hb2;go_upto_region 36 with fail;generalize w2.alloc (mM #[H ⟨#[]⟩,mH M,G U 0 0,V X 0,V X 0,V X (er:Nat)] GT)=w3 at*;have⟨A,E,ai⟩:=aa.out _ rfl;have⟨r0,r1,r2,r3,r4,bY⟩:=uk (show mY w3 g #[_,_,_,_,_,_] GT from A.res);have⟨bZ,cz,cK,cZ,df,dh⟩:=DZ A.res;have dx:=E.c5;have av:=Y (Z8 A);clear aa A E ai o0 bB bC bD bE bF;go_wp2_with fail;rw[qO];have⟨hblk6,qH⟩:=av.out (H ⟨#[]⟩) (mH M) (G U 0 0) (V X 0) (V X 0) (V X 3);have⟨d0,d1,d2,d3,d4,d5⟩:=uk hblk6;have zU:=Y qH;clear hblk6 qH;refine iY (v:=mI #[H ⟨#[]⟩,mH M,G U 0 0,V X 0,V X 0,V X 3]) (by simp[jv,kE,go_sem,d0,d1,d2,d3,d4,d5]) rfl ?_;rw[<-HP.out,au.out];exact uy (hg.symm▸zU.out)
     .rw[At e2]at au
      have e1:((er:Int)==2)=M:=qJ;have fw:((er:Int) !=0)=u:=nk;clear e2;go_wp2_with fail;refine pG aD λw2 hb2=> ?_
      have aa:R (∀W,w2.alloc (mM #[H ⟨#[]⟩,mH M,G U 0 0,V X 0,V X 0,V X (er:Nat)] GT)=W->QQ g w W l0 k m ((J:Int)+(N:Int)) am.data.toList (G ov az cv) L cnt/\mY W w2.heap.size #[H ⟨#[]⟩,mH M,G U 0 0,V X 0,V X 0,V X (er:Nat)] GT/\iR wr.heap.size wr W):=Y λW h=>by
       exact Vb
      clear hb2;go_upto_region 36 with fail;generalize w2.alloc (mM #[H ⟨#[]⟩,mH M,G U 0 0,V X 0,V X 0,V X (er:Nat)] GT)=w3 at*;have⟨A,E,ai⟩:=aa.out _ rfl;have⟨r0,r1,r2,r3,r4,bY⟩:=uk (show mY w3 g #[_,_,_,_,_,_] GT from A.res);have⟨bZ,cz,cK,cZ,df,dh⟩:=DZ A.res;have dx:=E.c5;have av:=Y (Z8 A);clear aa A E ai o0 bB bC bD bE bF;go_wp2_with fail;rw[qO];have⟨hblk6,qH⟩:=av.out (H ⟨#[]⟩) (mH M) (G U 0 0) (V X 0) (V X 0) (V X (er:Nat));have⟨d0,d1,d2,d3,d4,d5⟩:=uk hblk6;have zU:=Y qH;clear hblk6 qH;refine iY (v:=mI #[H ⟨#[]⟩,mH M,G U 0 0,V X 0,V X 0,V X (er:Nat)]) (by simp[jv,kE,go_sem,d0,d1,d2,d3,d4,d5]) rfl ?_;rw[<-HP.out,au.out];exact uy (hg.symm▸zU.out)
    |ok y=>
     obtain⟨⟨C,aK⟩,sz,m2⟩:=y;have⟨bH,aL,aM,_,_,_⟩:=Aj _ _ _ _ aA;simp only at bH aL aM ah;have dz:=mW.wX (mW.node C aK);have bg:am.data.toList.length=am.size:=ny;rw[bg]at aL;have eT:C.text.length<=100000:=FX aX aA;have⟨it,hit2⟩:=nE (m+1 - cnt - m2);have dS:1<=it:=I;have dA:R (Kl k am.data.toList (m+1 - cnt) (L.map pI.tree)=Kl k (am.extract sz am.size).data.toList (m+1 -(cnt+it)) (L.map pI.tree++[.node C aK])):=Y (by
      rw[Aw ak,aA];show Kl k (am.data.toList.drop sz) m2 (L.map pI.tree++[.node C aK])=_;rw[Z9 am sz,show m+1 -(cnt+it)=m2 by omega])
     have dB:cnt+it<=m+1:=I;have dD:(am.extract sz am.size).size<=100000:=by simp[iV];omega
     have bI:(am.extract sz am.size).size<am.size:=by simp[iV];omega
     clear ah aA ak bg aM dz;go_wp2_with fail;refine aD.mono ?_;rintro e w2 ⟨dU,rfl,hx2,hb2⟩;simp only[mW.oW,mW.qm]at hx2|-;rw[hit2];obtain⟨xo,ag,xc,rfl,_⟩:∃xo ag xc,dU=G xo ag xc/\True:=by obtain⟨o,c,dV,_⟩:=b7 hx2;exact⟨o,_,c,dV,trivial⟩
     have aa:R (∀W,w2.alloc (mM #[H (txt C),mH C.list,G xo ag xc,V X (sz:Nat),V X (it:Nat),V X 0] GT)=W->QQ g w W l0 k m ((J:Int)+(N:Int)) am.data.toList (G ov az cv) L cnt/\
       mY W w2.heap.size #[H (txt C),mH C.list,G xo ag xc,V X (sz:Nat),V X (it:Nat),V X 0] GT/\iR wr.heap.size wr W/\nC W (λc=>wr.heap.size<=c) (G xo ag xc) aK/\w2.heap.size<W.heap.size/\wr.heap.size<=w2.heap.size):=Y λW h=>by
      subst h;have h2:=hb2.alloc hb2.size (mM #[H (txt C),mH C.list,G xo ag xc,V X (sz:Nat),V X (it:Nat),V X 0] GT);exact⟨HG.below h2,mY.new w2 _ _,h2,Shape.nA.below hx2 ((iT _ w2).alloc (iP _) _),ny,hb2.size⟩
     clear hb2 hx2;go_upto_region 36 with fail;generalize w2.alloc (mM #[H (txt C),mH C.list,G xo ag xc,V X (sz:Nat),V X (it:Nat),V X 0] GT)=w3 at*;have⟨A,E,ai,hx3,dW,dX⟩:=aa.out _ rfl;have⟨p0,fA,fB,fC,fD,fE⟩:=uk A.Z6;have⟨fF,fG,fH,fI,fJ,dx⟩:=uk E;have bq:=Y A;have dE:=Y E;have aN:=Y ai;have La:=Y hx3;clear aa A E ai hx3 o0 bB bC bD bE bF;go_upto_region 40 with fail;have bu:∀b,(jM ov az cv).ownBlock=O b->b≠w2.heap.size:=λb hb e=>by
      have:=(HG.own.1.block b hb).2.1;omega
     have dF:=Y bu;have bJ:w2.heap.size≠g+1:=by have:=HG.Z6.lt;omega
     have dY:g+1≠w2.heap.size:=λh=>bJ h.symm
     clear bu;go_upto_region 41 with(at_builtin;go_loud (refine qx Je zu rfl _ _ rfl (B:=0) (v:=G ov az cv) (L:=L) (y:=⟨C,G xo ag xc,aK⟩) rfl (bq.own.1.below ((iT _ w3).alloc (iP _) _)) rfl (mY.new w3 #[H (txt C),mH C.list,G xo ag xc] IT) rfl (by simp[NZ,Value.oneCell']) (by rw[aJ.out];omega) (jB _) ?_);intro fK cap w5 aG af aO bK;obtain⟨⟨fM,fO⟩,⟨fP,fQ⟩,bL⟩:=a0a bq dF dE ((iT _ w3).alloc (iP _) _) af;have dZ:=bL 3;have ed:=bL 4;simp only[ji,jb,jc]at dZ ed;have aP:=Y (iU aG (iU af aO));rw[aJ.out];clear aG af aO bK bL)
     have aF:=(iT _ w3).alloc (iP _) (mM #[H (txt C),mH C.list,G xo ag xc] IT);have ax:=Y (QQ.next (cnt':=cnt+it) (I':=(am.extract sz am.size).data.toList) HG (aN.trans (aF.mono aN.size)) (Shape.nA.below La.out aF) aP.1 aP.2.1 aP.2.2 (by show C.text.length<=jd;unfold jd;omega) dA I dB);clear aF;rw[aJ.out]at ax;go_wp2;go_roundw;case rel=>
      rw[show((cnt+it:Nat):Int)=(cnt:Int)+(it:Int)by omega]at ax;exact⟨_,_,_,cnt+it,rfl,dD,ax⟩
     case measure=>exact bI
def a0s(h:p:=by
 refine iY (v:=mI #[H ⟨#[]⟩,mH M,G U 0 0,V X 0,V X 0,V X 4]) (by simp[jv,kE,go_sem,d0,d1,d2,d3,d4,d5]) rfl ?_;rw[<-HP.out,Ay.out];exact uy (hg.symm▸zU.out)):p:=h
def a0t(E items:Int)(aq aw:Nat)(au:(min E 16).toNat=aq)(av:(min items 1024).toNat=aw):∀(k:Nat)(s:An)(d a:Nat)(w:K),s.size<=100000->1<=d->d<=17->a<=1024->aq+1 - d=k->
  iW iN 173 #[H s,V X d,V X a,V X E,V X items] w (si (uq k s.data.toList (aw - a)) (aw - a) w):=by
 intro k;induction k with
 |zero=>exact λs d a w hs af ag aG hk=>Kn E items aq aw au av s d a w hs af ag aG hk
 |succ k ax=>
  intro s d a w hs af ag aG hk;have⟨aE,aH⟩:=nE (uq (k+1) s.data.toList (aw - a));have⟨aM,aI⟩:=nE (si aE (aw - a) w);have N:=Y aH;have HP:=Y aI;rw[aH,aI];obtain⟨g,hg⟩:=o7 w;have⟨wa,aJ⟩:∃wa,w.alloc (mM #[H ⟨#[]⟩,mH M,G U 0 0,V X 0,V X 0,V X 0] GT)=wa:=⟨_,rfl⟩;have⟨ah,aF,aQ⟩:=D5 hg aJ;have aa:=Y (zw ah aF);have⟨c0,c1,c2,c3,c4,c5⟩:=uk (show mY wa g #[_,_,_,_,_,_] GT from ah);have⟨z0,aU,aV,z3,z4,z5⟩:=DZ ah;by_cases h0:s.size=0
  .have e:s=⟨#[]⟩:=Dr (j5.1 (by simpa using h0))
   subst e;have Ay:R (aE=.error 2):=Y (by rw[<-N.out];exact MN);go_in;go_wp2_with fail;rw[qO];have⟨A,C⟩:=aa.out (H ⟨#[]⟩) (mH M) (G U 0 0) (V X 0) (V X 0) (V X 2);have⟨d0,d1,d2,d3,d4,d5⟩:=uk A;have zU:=Y C;refine iY (v:=mI #[H ⟨#[]⟩,mH M,G U 0 0,V X 0,V X 0,V X 2]) (by simp[jv,kE,go_sem,d0,d1,d2,d3,d4,d5]) rfl ?_;rw[<-HP.out,Ay.out];exact uy (hg.symm▸zU.out)
  have hp:0<s.size:=I;have J:s.data.toList≠[]:=λh=>h0 (by have:=congrArg lQ h;simpa using this)
  have aR:=rW s I;have az:(d:Int)<=E:=I;have ai:d<=16:=I;by_cases ay:aw - a=0
  .have Ay:R (aE=.error 4):=Y (by rw[<-N.out,ay];exact PL J)
   by_cases aN:items<(a:Int)+1
   .clear J h0 N au av hk ay ax
    go_in;go_wp2_with fail;rw[qO];have⟨A,C⟩:=aa.out (H ⟨#[]⟩) (mH M) (G U 0 0) (V X 0) (V X 0) (V X 4);have⟨d0,d1,d2,d3,d4,d5⟩:=uk A;have zU:=Y C;exact a0s
   .have aW:1024<a+1:=I
    have aX:(a:Int)+1<=items:=I;clear J h0 N au av hk ay ax aN;go_in;go_wp2_with fail;rw[qO];have⟨A,C⟩:=aa.out (H ⟨#[]⟩) (mH M) (G U 0 0) (V X 0) (V X 0) (V X 4);have⟨d0,d1,d2,d3,d4,d5⟩:=uk A;have zU:=Y C;clear A C;exact a0s
  have⟨m,aA⟩:∃m,aw - a=m+1:=⟨aw - a - 1,I⟩;have hit:(a:Int)+1<=items:=I;have ae:a+1<=1024:=I;rw[aA]at N HP;have aj:R (∀er,hd s.data.toList=.error er->aE=.error er):=Y λer h=>by rw[<-N.out];exact PM J h
  have ak:R (∀z n,hd s.data.toList=.ok (M,z,n)->aE=.ok (.node ⟨(s.data.toList.drop z).take n,M⟩ [],z+n,m)):=Y λz n h=>by rw[<-N.out];exact Jh J h
  have aB:R (∀z n,hd s.data.toList=.ok (u,z,n)->aE=match Kl k ((s.data.toList.drop z).take n) m []with
    | .error e=> .error e
    | .ok y=> .ok (.node ⟨[],u⟩ y.1,z+n,y.2)):=Y λz n h=>by rw[<-N.out];exact Ji J h (Iy h).1
  have aK:=Y aA;have aO:=Y hk;have aL:R (aw<=1024):=Y I;have aP:=Y ax;clear ay au av hk J ax h0;have aS:s[0].toNat<=255:=by have:=s[0].toNat_lt;omega
  have hlen:s.data.toList.length=s.size:=ny;by_cases hb:s[0].toNat<128
  .have aD:hd s.data.toList=.ok (M,0,1):=by rw[r9 s hp];simp only[hd];rw[Ax hb]
   have Ay:=Y (ak _ _ aD);have hT:R (s.extract 0 1=txt ⟨(s.data.toList.drop 0).take 1,M⟩):=Y (by rw[a6v s hp];rfl);clear aD N aj ak aB;go_in;go_wp2_with fail;rw[qO];have⟨A,C⟩:=aa.out (H (s.extract 0 1)) (mH M) (G U 0 0) (V X 1) (V X 1) (V X 0);have⟨d0,d1,d2,d3,d4,d5⟩:=uk A;have zU:=Y C;clear A C;refine iY (v:=mI #[H (s.extract 0 1),mH M,G U 0 0,V X 1,V X 1,V X 0]) (by simp[jv,kE,go_sem,d0,d1,d2,d3,d4,d5]) rfl ?_;exact MW
  cases hL:As (192<=s[0].toNat)with
  |true=>exact HP.out▸a0r E items s d a m k w aE hs hp I hL az ai af hit ae aj aB aq aw aL aO aK aP.out
  |false=>exact HP.out▸Xu E items s d a m w aE hs hp I hL az ai af hit ae aj ak.out
def a0u(N items:Int)(aq aw:Nat)(aJ:(min N 16).toNat=aq)(aK:(min items 1024).toNat=aw)(s:An)(w:K)(hs:s.size<=100000):
  iW iN 123 #[H s,V X N,V X items] w (si (uq aq s.data.toList aw) aw w):=by
 have⟨aE,ay⟩:=nE (uq aq s.data.toList aw);obtain⟨g,hg⟩:=o7 w;have⟨wa,aG⟩:∃wa,w.alloc (mM #[H ⟨#[]⟩,mH M,G U 0 0,V X 0,V X 0,V X 0] GT)=wa:=⟨_,rfl⟩;have⟨ak,af,aP⟩:=D5 hg aG;have aj:=a0t N items aq aw aJ aK aq s 1 0 wa hs mX mX mX I;rw[Nat.sub_zero,ay]at aj;have aj:=Y aj;have au:=Y ak;have av:=Y af;have⟨aL,az⟩:=nE (si aE aw w);have aH:=Y az;rw[ay,az];clear ak af az ay;go_in;go_wp2_with fail;refine aj.mono ?_;intro e w2 ae;cases aE with
 |error er=>
  obtain⟨rfl,J⟩:=ae;have A:=a7 (J.mono (show g+1<=wa.heap.size by omega)) au (jV g);have⟨c0,c1,c2,c3,c4,c5⟩:=uk (show mY w2 g #[_,_,_,_,_,_] GT from A);have⟨z0,aM,aN,z3,z4,z5⟩:=DZ A;have aa:=Y (zw A (av.trans (J.mono I)));clear A J;go_wp2_with fail;rw[qO];have⟨C,E⟩:=aa.out (H ⟨#[]⟩) (mH M) (G U 0 0) (V X 0) (V X 0) (V X (er:Nat));have⟨aA,aB,aD,aF,d4,d5⟩:=uk C;have ag:=Y E;clear C E;refine iY (v:=mI #[H ⟨#[]⟩,mH M,G U 0 0,V X 0,V X 0,V X (er:Nat)]) (by simp[jv,Tryz.results123,go_sem,aA,aB,aD,aF,d4,d5]) rfl ?_;rw[<-aH.out];exact uy (hg.symm▸ag.out)
 |ok y=>
  obtain⟨v,rfl,ah,J⟩:=ae;obtain⟨x,n,m⟩:=y;simp only at ah|-;have⟨o,c,aI,_⟩:=b7 ah;subst aI;have⟨sn,ax⟩:=nE x.sub.length;rw[ax]at ah|-;have A:=a7 (J.mono (show g+1<=wa.heap.size by omega)) au (jV g);have⟨c0,c1,c2,c3,c4,c5⟩:=uk (show mY w2 g #[_,_,_,_,_,_] GT from A);have⟨z0,aM,aN,z3,z4,z5⟩:=DZ A;have aa:=Y (zw A (av.trans (J.mono I)));have aO:=Y ah;clear A J ah ax;go_wp2_with fail;rw[qO];have⟨C,E⟩:=aa.out (H (txt x.lab)) (mH x.lab.list) (G o sn c) (V X (n:Nat)) (V X ((aw - m:Nat):Int)) (V X 0);have⟨aA,aB,aD,aF,d4,d5⟩:=uk C;have ag:=Y E;clear C E;refine iY (v:=mI #[H (txt x.lab),mH x.lab.list,G o sn c,V X (n:Nat),V X ((aw - m:Nat):Int),V X 0]) (by simp[jv,Tryz.results123,go_sem,aA,aB,aD,aF,d4,d5]) rfl ?_;rw[<-aH.out];refine⟨G o sn c,rfl,Shape.nA.keep aO (by rw[Lc];exact iP _) (λai _ hc=> ?_) λai _ hc=>Lb ai ?_,hg.symm▸ag.out⟩;.show w.heap.size<=ai;have:wa.heap.size<=ai:=hc;omega
  .have:wa.heap.size<=ai:=hc;omega
def D7(aE:Except Nat (mW IL))(w:K)(e:kV)(w':K):Prop:=match aE with
 | .error er=>e=mK (mJ #[mI qC,V X (er:Nat)])/\iR w.heap.size w w'
 | .ok x=>∃v,e=mK (mJ #[mI #[H (txt x.lab),mH x.lab.list,v],V X 0])/\nC w' (λc=>w.heap.size<=c) v x.sub/\iR w.heap.size w w'
def Vd{wa:K}(hg:w.heap.size=g)(h:w.alloc (mM #[H ⟨#[]⟩,mH M,G U 0 0] IT)=wa):mY wa g qC IT/\iR g w wa/\wa.heap.size=g+1:=by
 subst h;exact⟨hg▸mY.new w _ _,hg▸(iT _ w).alloc (iP _) _,nk⟩
def GZ(h:p:=by
 rw[<-HP.out,Ay.out];exact⟨rfl,hg.symm▸zU.out⟩):p:=h
def a0v(h:p:=by
 rw[<-HP.out,Ay.out];refine⟨G o sn c,rfl,Shape.nA.keep HV (by rw[vM];exact iP _) (λc' _ hc=> ?_) λc' _ hc=>tQ c' ?_,hg.symm▸zU.out⟩;.show w.heap.size<=c';have:wa.heap.size<=c':=hc;omega
 .have:wa.heap.size<=c':=hc;omega):p:=h
def MX(h:p:=by
 subst h;exact⟨hb2.alloc hb2.size _,mY.new w2 _ _,(iT _ w2).alloc (iP _) _⟩):p:=h
def a3K(aa items:Int)(aq aw:Nat)(aO:(min aa 16).toNat=aq)(aP:(min items 1024).toNat=aw)(s:An)(w:K)(hs:s.size<=100000):
  iW iN 89 #[H s,V X aa,V X items] w (D7 (vK s.data.toList (uq aq s.data.toList aw)) w):=by
 have⟨aE,az⟩:=nE (uq aq s.data.toList aw);obtain⟨g,hg⟩:=o7 w;have⟨wa,aI⟩:∃wa,w.alloc (mM #[H ⟨#[]⟩,mH M,G U 0 0] IT)=wa:=⟨_,rfl⟩;have⟨aB,aj,bg⟩:=Vd hg aI;have aA:=a0u aa items aq aw aO aP s wa hs;rw[az]at aA;have aJ:R (∀y,aE=.ok y->y.2.1<=s.size/\0<y.2.1):=Y λy hy=>by
  rw[<-az]at hy;have h:=DV hy;have hl:s.data.toList.length=s.size:=ny;omega
 have aA:=Y aA;have ag:=Y aB;have aD:=Y aj;have aF:R (s.data.toList.length=s.size):=Y ny;have⟨aQ,aH⟩:=nE (D7 (vK s.data.toList aE) w);have HP:=Y aH;rw[az,aH];clear aB aj aH;go_in;go_wp2_with fail;refine aA.mono ?_;intro e w2 ah;cases aE with
 |error er=>
  have bq:=yQ _ _ _ _ az;have Ay:R (vK s.data.toList (.error er)=.error er):=Y rfl;obtain⟨rfl,hb2⟩:=ah;have bz:((er:Int) !=0)=u:=nk;have ak:R (∀W,w2.alloc (mM #[H ⟨#[]⟩,mH M,G U 0 0,V X 0,V X 0,V X (er:Nat)] GT)=W->iR wa.heap.size wa W/\mY W w2.heap.size #[H ⟨#[]⟩,mH M,G U 0 0,V X 0,V X 0,V X (er:Nat)] GT/\iR w2.heap.size w2 W):=Y λW h=>by
   exact MX
  clear hb2;go_upto_region 2 with fail;generalize w2.alloc (mM #[H ⟨#[]⟩,mH M,G U 0 0,V X 0,V X 0,V X (er:Nat)] GT)=w3 at*;have⟨J,N,ae⟩:=ak.out _ rfl;have A:=a7 (J.mono (show g+1<=wa.heap.size by omega)) ag (jV g);have c0:w3.cell? (Z g 0 U)=O (H ⟨#[]⟩):=A.cell 0;have c1:w3.cell? (Z g 1 U)=O (mH M):=A.cell 1;have c2:w3.cell? (Z g 2 U)=O (G U 0 0):=A.cell 2;have⟨z0,aR,aS⟩:=A.f3;have af:=Y (λa b c=>FW (a:=a) (b:=b) (c:=c) aD ag.lt (J.mono (show g+1<=wa.heap.size by omega)) A);have⟨aU,aV,aW,aX,aY,aZ⟩:=uk N;clear J N ae A ak;go_wp2_with fail;go_big_region;go_wp2_with fail;rw[rM];have⟨C,E⟩:=af.out (H ⟨#[]⟩) (mH M) (G U 0 0);have⟨au,av,ax⟩:=C.a3;have ai:=E.drew;have zU:=Y ai;clear C E ai;refine iY (v:=mJ #[mI #[H ⟨#[]⟩,mH M,G U 0 0],V X (er:Nat)]) (by simp[jv,Tryz.results89,go_sem,au,av,ax,qC]) rfl ?_;exact GZ
 |ok y=>
  have⟨aK,aL⟩:=aJ.out _ rfl;obtain⟨v,rfl,ay,hb2⟩:=ah;obtain⟨x,n,m⟩:=y;simp only at ay aK aL|-;have⟨o,c,aM,_⟩:=b7 ay;subst aM;have⟨sn,aG⟩:=nE x.sub.length;rw[aG]at ay|-;have ak:R (∀W,w2.alloc (mM #[H (txt x.lab),mH x.lab.list,G o sn c,V X (n:Nat),V X ((aw - m:Nat):Int),V X 0] GT)=W->iR wa.heap.size wa W/\mY W w2.heap.size #[H (txt x.lab),mH x.lab.list,G o sn c,V X (n:Nat),V X ((aw - m:Nat):Int),V X 0] GT/\iR w2.heap.size w2 W):=Y λW h=>by
   exact MX
  have aN:=Y ay;clear hb2 ay aG;go_upto_region 2 with fail;generalize w2.alloc (mM #[H (txt x.lab),mH x.lab.list,G o sn c,V X (n:Nat),V X ((aw - m:Nat):Int),V X 0] GT)=w3 at*;have⟨J,N,ae⟩:=ak.out _ rfl;have A:=a7 (J.mono (show g+1<=wa.heap.size by omega)) ag (jV g);have c0:w3.cell? (Z g 0 U)=O (H ⟨#[]⟩):=A.cell 0;have c1:w3.cell? (Z g 1 U)=O (mH M):=A.cell 1;have c2:w3.cell? (Z g 2 U)=O (G U 0 0):=A.cell 2;have⟨z0,aR,aS⟩:=A.f3;have af:=Y (λa b c=>FW (a:=a) (b:=b) (c:=c) aD ag.lt (J.mono (show g+1<=wa.heap.size by omega)) A);have⟨aU,aV,aW,aX,aY,aZ⟩:=uk N;have HV:R (nC w3 (λc=>wa.heap.size<=c) (G o sn c) x.sub):=Y (Shape.nA.below aN ae);clear J N ae A ak;by_cases hlt:n<s.size
  .have Ay:R (vK s.data.toList (.ok (x,n,m))=.error 3):=Y (by simp only[vK];rw[Ax (by rw[aF.out];exact hlt)])
   go_wp2_with fail;rw[rM];have⟨C,E⟩:=af.out (H ⟨#[]⟩) (mH M) (G U 0 0);have⟨au,av,ax⟩:=C.a3;have zU:=Y E;clear C E;refine iY (v:=mJ #[mI #[H ⟨#[]⟩,mH M,G U 0 0],V X 3]) (by simp[jv,Tryz.results89,go_sem,au,av,ax,qC]) rfl ?_;exact GZ
  .have Ay:R (vK s.data.toList (.ok (x,n,m))=.ok x):=Y (by simp only[vK];rw[At (by rw[aF.out];exact hlt)])
   have bu:s.size<=n:=I;clear hlt;go_wp2_with fail;rw[rM];have⟨C,E⟩:=af.out (H (txt x.lab)) (mH x.lab.list) (G o sn c);have⟨au,av,ax⟩:=C.a3;have zU:=Y E;clear C E;refine iY (v:=mJ #[mI #[H (txt x.lab),mH x.lab.list,G o sn c],V X 0]) (by simp[jv,Tryz.results89,go_sem,au,av,ax,qC]) rfl ?_;exact a0v
def a3L(J items:Int)(aq aw:Nat)(aP:(min J 16).toNat=aq)(aQ:(min items 1024).toNat=aw)(s:An)(w:K)(hs:s.size<=100000)(aH:(lN X J).wf=u)(aI:(lN X items).wf=u):
  iW iN 165 #[H s,V X J,V X items] w (D7 (vK s.data.toList (uq aq s.data.toList aw)) w):=by
 have⟨aE,ay⟩:=nE (uq aq s.data.toList aw);obtain⟨g,hg⟩:=o7 w;have⟨wa,aJ⟩:∃wa,w.alloc (mM #[H ⟨#[]⟩,mH M,G U 0 0] IT)=wa:=⟨_,rfl⟩;have⟨aA,ai,aY⟩:=Vd hg aJ;have az:=a0q s J items wa hs aH aI;rw[aP,aQ,ay]at az;have aK:R (∀y,aE=.ok y->y.2.1<=s.size/\0<y.2.1):=Y λy hy=>by
  rw[<-ay]at hy;have h:=DV hy;have hl:s.data.toList.length=s.size:=ny;omega
 have az:=Y az;have ag:=Y aA;have aB:=Y ai;have aD:R (s.data.toList.length=s.size):=Y ny;have⟨aR,aG⟩:=nE (D7 (vK s.data.toList aE) w);have HP:=Y aG;rw[ay,aG];clear aA ai aG;go_in;go_wp2_with fail;refine az.mono ?_;intro e w2 ah;cases aE with
 |error er=>
  have aZ:=yQ _ _ _ _ ay;have Ay:R (vK s.data.toList (.error er)=.error er):=Y rfl;obtain⟨rfl,hb2⟩:=ah;unfold qC;have bq:((er:Int) !=0)=u:=nk;have e1:((er:Int)==0)=M:=qJ;have aj:R (∀W,w2.alloc (mM #[H ⟨#[]⟩,mH M,G U 0 0] IT)=W->iR wa.heap.size wa W/\mY W w2.heap.size #[H ⟨#[]⟩,mH M,G U 0 0] IT/\iR w2.heap.size w2 W):=Y λW h=>by
   exact MX
  clear hb2;go_upto_region 2 with fail;generalize w2.alloc (mM #[H ⟨#[]⟩,mH M,G U 0 0] IT)=w3 at*;have⟨N,aa,ae⟩:=aj.out _ rfl;have A:=a7 (N.mono (show g+1<=wa.heap.size by omega)) ag (jV g);have c0:w3.cell? (Z g 0 U)=O (H ⟨#[]⟩):=A.cell 0;have c1:w3.cell? (Z g 1 U)=O (mH M):=A.cell 1;have c2:w3.cell? (Z g 2 U)=O (G U 0 0):=A.cell 2;have⟨z0,aS,aU⟩:=A.f3;have af:=Y (λa b c=>FW (a:=a) (b:=b) (c:=c) aB ag.lt (N.mono (show g+1<=wa.heap.size by omega)) A);have⟨aV,aW,aX⟩:=aa.a3;clear N aa ae A aj;go_wp2_with fail;rw[rM];have⟨C,E⟩:=af.out (H ⟨#[]⟩) (mH M) (G U 0 0);have⟨ak,au,av⟩:=C.a3;have zU:=Y E;clear C E;refine iY (v:=mJ #[mI #[H ⟨#[]⟩,mH M,G U 0 0],V X (er:Nat)]) (by simp[jv,Tryz.results165,go_sem,ak,au,av,qC]) rfl ?_;exact GZ
 |ok y=>
  have⟨aL,aM⟩:=aK.out _ rfl;obtain⟨v,rfl,ax,hb2⟩:=ah;obtain⟨x,n,m⟩:=y;simp only at ax aL aM|-;have⟨o,c,aN,_⟩:=b7 ax;subst aN;have⟨sn,aF⟩:=nE x.sub.length;rw[aF]at ax|-;have aj:R (∀W,w2.alloc (mM #[H (txt x.lab),mH x.lab.list,G o sn c] IT)=W->iR wa.heap.size wa W/\mY W w2.heap.size #[H (txt x.lab),mH x.lab.list,G o sn c] IT/\iR w2.heap.size w2 W):=Y λW h=>by
   exact MX
  have aO:=Y ax;clear hb2 ax aF;go_upto_region 2 with fail;generalize w2.alloc (mM #[H (txt x.lab),mH x.lab.list,G o sn c] IT)=w3 at*;have⟨N,aa,ae⟩:=aj.out _ rfl;have A:=a7 (N.mono (show g+1<=wa.heap.size by omega)) ag (jV g);have c0:w3.cell? (Z g 0 U)=O (H ⟨#[]⟩):=A.cell 0;have c1:w3.cell? (Z g 1 U)=O (mH M):=A.cell 1;have c2:w3.cell? (Z g 2 U)=O (G U 0 0):=A.cell 2;have⟨z0,aS,aU⟩:=A.f3;have af:=Y (λa b c=>FW (a:=a) (b:=b) (c:=c) aB ag.lt (N.mono (show g+1<=wa.heap.size by omega)) A);have⟨aV,aW,aX⟩:=aa.a3;have HV:R (nC w3 (λc=>wa.heap.size<=c) (G o sn c) x.sub):=Y (Shape.nA.below aO ae);clear N aa ae A aj;by_cases hlt:n<s.size
  .have Ay:R (vK s.data.toList (.ok (x,n,m))=.error 3):=Y (by simp only[vK];rw[Ax (by rw[aD.out];exact hlt)])
   go_wp2_with fail;rw[rM];have⟨C,E⟩:=af.out (H ⟨#[]⟩) (mH M) (G U 0 0);have⟨ak,au,av⟩:=C.a3;have zU:=Y E;clear C E;refine iY (v:=mJ #[mI #[H ⟨#[]⟩,mH M,G U 0 0],V X 3]) (by simp[jv,Tryz.results165,go_sem,ak,au,av,qC]) rfl ?_;exact GZ
  .have Ay:R (vK s.data.toList (.ok (x,n,m))=.ok x):=Y (by simp only[vK];rw[At (by rw[aD.out];exact hlt)])
   have bg:s.size<=n:=I;clear hlt;go_wp2_with fail;rw[rM];have⟨C,E⟩:=af.out (H (txt x.lab)) (mH x.lab.list) (G o sn c);have⟨ak,au,av⟩:=C.a3;have zU:=Y E;clear C E;refine iY (v:=mJ #[mI #[H (txt x.lab),mH x.lab.list,G o sn c],V X 0]) (by simp[jv,Tryz.results165,go_sem,ak,au,av,qC]) rfl ?_;exact a0v
abbrev yA:jl:=49
def qT(aE:Except Nat (mW IL)):An:=match aE with| .error _=>⟨#[]⟩| .ok x=>txt x.lab
def qL(aE:Except Nat (mW IL)):Bool:=match aE with| .error _=>M| .ok x=>x.lab.list
def qS(aE:Except Nat (mW IL)):List (mW IL):=match aE with| .error _=>[]| .ok x=>x.sub
def qE(aE:Except Nat (mW IL)):Nat:=match aE with| .error er=>er| .ok _=>0
def qV(aE:Except Nat (mW IL))(ov:Option j4)(cv:Nat):iQ:=mJ #[mI #[H (qT aE),mH (qL aE),G ov (qS aE).length cv],V X (qE aE:Nat)]
def Sm(aE:Except Nat (mW IL))(w:K)(e:kV)(w':K):Prop:=
 ∃ov cv,((∃er,aE=.error er)->ov=U/\cv=0)/\e=mK (qV aE ov cv)/\nC w' (λc=>w.heap.size<=c) (G ov (qS aE).length cv) (qS aE)/\iR w.heap.size w w'
def MZ{aE:Except Nat (mW IL)}{e:kV}(h:BB aE w e w'):Sm aE w e w':=by
 cases aE with
 |error er=>exact⟨U,0,λ_=>⟨rfl,rfl⟩,h.1,wz _ _,h.2⟩
 |ok x=>
  obtain⟨v,rfl,A,C⟩:=h;obtain⟨ov,cv,rfl,_⟩:=b7 A;exact⟨ov,cv,(λ⟨_,h⟩=>by cases h),rfl,A,C⟩
def Ve{aE:Except Nat (mW IL)}{e:kV}(h:Sm aE w e w'):BB aE w e w':=by
 obtain⟨ov,cv,h0,rfl,C,A⟩:=h;cases aE with
 |error er=>
  obtain⟨rfl,rfl⟩:=h0 ⟨er,rfl⟩;exact⟨rfl,A⟩
 |ok x=>exact⟨_,rfl,C,A⟩
def a0w(h:p:=by
 subst hW;have a1:=(iT w.heap.size w).alloc (iP _) (mM #[V X dep,V X oo] 159);have a2:=a1.alloc ny (mM #[V X t.lab.kind,V X t.lab.size,G ou t.sub.length cu,V X t.lab.tail] sG);have a3:=a2.alloc nk (mM #[H ⟨#[]⟩,mH M,G U 0 0] IT);have k1:=mY.new w #[V X dep,V X oo] 159;have k2:=mY.new (w.alloc (mM #[V X dep,V X oo] 159)) #[V X t.lab.kind,V X t.lab.size,G ou t.sub.length cu,V X t.lab.tail] sG;have k3:=mY.new ((w.alloc (mM #[V X dep,V X oo] 159)).alloc (mM #[V X t.lab.kind,V X t.lab.size,G ou t.sub.length cu,V X t.lab.tail] sG)) #[H ⟨#[]⟩,mH M,G U 0 0] IT;rw[show(w.alloc (mM #[V X dep,V X oo] 159)).heap.size=g+1 by simp[hg]]at k2;rw[show((w.alloc (mM #[V X dep,V X oo] 159)).alloc (mM #[V X t.lab.kind,V X t.lab.size,G ou t.sub.length cu,V X t.lab.tail] sG)).heap.size=g+2 by simp[hg]]at k3;rw[hg]at k1;exact⟨(k1.alloc _).alloc _,k2.alloc _,k3,hg▸a3,by simp[hg]⟩):p:=h
def P5(t:mW TL)(s:An)(dep oo:Int)(w:K)(ou:Option j4)(cu:Nat)(aE:Except Nat (mW IL))(aL:nZ w (G ou t.sub.length cu) t.sub)(ay:∀W,iR w.heap.size w W->iW iN 117 #[mI #[V X t.lab.kind,V X t.lab.size,G ou t.sub.length cu,V X t.lab.tail],H s,V X dep,V X oo] W (BB aE W)):
  iW iN 84 #[mI #[V X dep,V X oo],mI #[V X t.lab.kind,V X t.lab.size,G ou t.sub.length cu,V X t.lab.tail],H s] w (BB aE w):=by
 obtain⟨g,hg⟩:=o7 w;have af:=Y (λW h=>(ay W h).mono λe w' h=>MZ h);have ag:R (∀W,((w.alloc (mM #[V X dep,V X oo] 159)).alloc (mM #[V X t.lab.kind,V X t.lab.size,G ou t.sub.length cu,V X t.lab.tail] sG)).alloc (mM #[H ⟨#[]⟩,mH M,G U 0 0] IT)=W->mY W g #[V X dep,V X oo] 159/\mY W (g+1) #[V X t.lab.kind,V X t.lab.size,G ou t.sub.length cu,V X t.lab.tail] sG/\mY W (g+2) BD IT/\iR g w W/\W.heap.size=g+3):=Y λW hW=>by
  exact a0w
 have⟨az,ah⟩:=nE (BB aE w);have aA:=Y ah;rw[ah];unfold Sm qV at af;have⟨T,ai⟩:=nE (qT aE);have⟨li,E⟩:=nE (qL aE);have⟨sn,J⟩:=nE ((qS aE).length);have⟨er,N⟩:=nE (qE aE);rw[ai,E,J,N]at af;have aB:=Y (iU ai (iU E (iU J N)));generalize t.lab.kind=k at*;generalize t.lab.size=z at*;generalize t.lab.tail=tl at*;generalize t.sub.length=n at*;go_in;go_upto_region 1 with fail;have⟨aa,aj,hk2,ae,ak⟩:=ag.out _ rfl;generalize ((w.alloc _).alloc _).alloc _=w1 at*;have⟨⟨t0,t1,aM,t3⟩,_⟩:=nR aj;have c0:=aa.cell 0;have c1:=aa.cell 1;have A:=Y (iU hk2 (iU ae ak));have au:=Y (af _ (hg.symm▸ae));go_wp2_with fail;refine au.mono ?_;rintro e w2 ⟨ov,cv,h0,rfl,hs,hb⟩;have C:=Y (a7 hb A.1 A.1.lt);have aD:=Y (iU h0 (iU hs (A.2.1.trans (hb.mono (by have:=A.2.2;omega)))));have av:R (∀c,w1.heap.size<=c->g+3<=c):=Y λc hc=>by have:=A.2.2;omega
 have aF:=C.cell 0;have aG:=C.cell 1;have aH:=C.cell 2;have⟨z0,aN,aO⟩:=C.f3;simp only[BD,ji,jb,jc]at aF aG aH;go_wp2_with fail;rw[pO];have⟨hB,hb⟩:=zq (a:=H T) (b:=mH li) (c:=G ov sn cv) ⟨_,_,_,C.out⟩ (g:=g+2) (w:=w2) (W:=w2) (iT _ _);have⟨aI,aJ,aK⟩:=hB.a3;refine iY (v:=mJ #[mI #[H T,mH li,G ov sn cv],V X er]) (by simp[jv,Tryz.results84,go_sem,aI,aJ,aK]) rfl ?_;rw[<-aA.out];obtain⟨rfl,rfl,rfl,rfl⟩:=aB.out;have⟨h0,hs,ax⟩:=aD.out;refine Ve ⟨ov,cv,h0,rfl,Shape.nA.keep hs (by simp[o8,jr]) (λc _ hc=>by have:=av.out c hc;show w.heap.size<=c;omega) λc _ hc=> ?_,hg.symm▸ax.trans (hb.mono I)⟩;have:=av.out c hc;simp[o8,jr,kg,show g+2≠c by omega,show¬g+2=c by omega]
def Ko(t:mW TL)(s:An)(dep oo:Int)(w:K)(ou:Option j4)(cu:Nat)(aE:Except Nat (mW IL))(aL:nZ w (G ou t.sub.length cu) t.sub)(ay:∀W,iR w.heap.size w W->iW iN 119 #[mI #[V X t.lab.kind,V X t.lab.size,G ou t.sub.length cu,V X t.lab.tail],H s,V X oo] W (BB aE W)):
  iW iN 86 #[mI #[V X dep,V X oo],mI #[V X t.lab.kind,V X t.lab.size,G ou t.sub.length cu,V X t.lab.tail],H s] w (BB aE w):=by
 obtain⟨g,hg⟩:=o7 w;have ae:=Y (λW h=>(ay W h).mono λe w' h=>MZ h);have af:R (∀W,((w.alloc (mM #[V X dep,V X oo] 159)).alloc (mM #[V X t.lab.kind,V X t.lab.size,G ou t.sub.length cu,V X t.lab.tail] sG)).alloc (mM #[H ⟨#[]⟩,mH M,G U 0 0] IT)=W->mY W g #[V X dep,V X oo] 159/\mY W (g+1) #[V X t.lab.kind,V X t.lab.size,G ou t.sub.length cu,V X t.lab.tail] sG/\mY W (g+2) BD IT/\iR g w W/\W.heap.size=g+3):=Y λW hW=>by
  exact a0w
 have⟨az,ag⟩:=nE (BB aE w);have aA:=Y ag;rw[ag];unfold Sm qV at ae;have⟨T,ah⟩:=nE (qT aE);have⟨li,E⟩:=nE (qL aE);have⟨sn,J⟩:=nE ((qS aE).length);have⟨er,N⟩:=nE (qE aE);rw[ah,E,J,N]at ae;have aB:=Y (iU ah (iU E (iU J N)));generalize t.lab.kind=k at*;generalize t.lab.size=z at*;generalize t.lab.tail=tl at*;generalize t.sub.length=n at*;go_in;go_upto_region 1 with fail;have⟨ai,aj,hk2,aa,ak⟩:=af.out _ rfl;generalize ((w.alloc _).alloc _).alloc _=w1 at*;have⟨⟨t0,t1,aM,t3⟩,_⟩:=nR aj;have c1:=ai.cell 1;have A:=Y (iU hk2 (iU aa ak));have au:=Y (ae _ (hg.symm▸aa));go_wp2_with fail;refine au.mono ?_;rintro e w2 ⟨ov,cv,h0,rfl,hs,hb⟩;have C:=Y (a7 hb A.1 A.1.lt);have aD:=Y (iU h0 (iU hs (A.2.1.trans (hb.mono (by have:=A.2.2;omega)))));have av:R (∀c,w1.heap.size<=c->g+3<=c):=Y λc hc=>by have:=A.2.2;omega
 have aF:=C.cell 0;have aG:=C.cell 1;have aH:=C.cell 2;have⟨z0,aN,aO⟩:=C.f3;simp only[BD,ji,jb,jc]at aF aG aH;go_wp2_with fail;rw[pO];have⟨hB,hb⟩:=zq (a:=H T) (b:=mH li) (c:=G ov sn cv) ⟨_,_,_,C.out⟩ (g:=g+2) (w:=w2) (W:=w2) (iT _ _);have⟨aI,aJ,aK⟩:=hB.a3;refine iY (v:=mJ #[mI #[H T,mH li,G ov sn cv],V X er]) (by simp[jv,Tryz.results86,go_sem,aI,aJ,aK]) rfl ?_;rw[<-aA.out];obtain⟨rfl,rfl,rfl,rfl⟩:=aB.out;have⟨h0,hs,ax⟩:=aD.out;refine Ve ⟨ov,cv,h0,rfl,Shape.nA.keep hs (by simp[o8,jr]) (λc _ hc=>by have:=av.out c hc;show w.heap.size<=c;omega) λc _ hc=> ?_,hg.symm▸ax.trans (hb.mono I)⟩;have:=av.out c hc;simp[o8,jr,kg,show g+2≠c by omega,show¬g+2=c by omega]
def a3M:∀(k:Nat)(l:List AC)(m:Nat)(y:mW IL×Nat×Nat),uq k l m=.ok y->y.1.lab.text.length<=l.length
 |0,l,m,y,h=>by
  simp only[uq]at h;split at h<;>cases h
 |k+1,l,m,y,h=>by
  simp only[uq]at h;split at h;.cases h
  .split at h
   .cases h
   .split at h
    .cases h
    .split at h
     .split at h
      .cases h
      .cases h;exact jB _
     .cases h
      simp only[mW.oW,jQ,jP];omega
def a0x(c:nU)(hc:nV c=u)(aa:c.wf):∃fn:FuncId,K7 c=.func (.func fn) #[mI #[V X c.dep,V X c.oo]] #[]/\(∀a b d W,lJ iN (callFunc fn #[a,b,d]) W=.ok (.enter fn #[a,b,d]) W)/\
  ∀(t:mW TL)(s:An)(w:K)(ou:Option j4)(cu:Nat),nZ w (G ou t.sub.length cu) t.sub->qB w->BC w->pg t=u->(c.fmt=1->(mW.oI p0 t.sub&&pg t)=u)->s.size<=100000->
   iW iN fn #[mI #[V X c.dep,V X c.oo],mI #[V X t.lab.kind,V X t.lab.size,G ou t.sub.length cu,V X t.lab.tail],H s] w (BB (zn c t s) w):=by
 have⟨_,_,_,⟨ak,hd2⟩,au,ae⟩:=ql hc;obtain⟨_,_,_,_,af,ag⟩:=aa;by_cases C:c.fmt=1
 .refine⟨86,Ax C,λ_ _ _ _=>rfl,λt s w ou cu A E J ah N hs=> ?_⟩
  have e:zn c t s=Gw t s c.oo:=Ax C;rw[e];refine Ko t s c.dep c.oo w ou cu _ A λW hb=> ?_
  exact a3I t s c.oo W ou cu (Shape.nA.below A hb) (E.below hb E.lt) (xN J (oC.of (b:=w.heap.size) (q:=w.heap.size) hb) (by have:=J.lt;omega) (by have:=J.lt;omega)) (N C) hs ⟨I,ae⟩
 .refine⟨84,At C,λ_ _ _ _=>rfl,λt s w ou cu A E J ah N hs=> ?_⟩
  have e:zn c t s=vD t (vK s.data.toList (uq (min c.dep 16).toNat s.data.toList (min c.oo 1024).toNat)):=At C;rw[e];refine P5 t s c.dep c.oo w ou cu _ A λW hb=> ?_
  refine Zv t _ ?_ W _ (Shape.nA.below A hb) ?_ (E.below hb E.lt) s c.dep c.oo λai=>a3L c.dep c.oo _ _ rfl rfl s ai hs af ag
  .intro er h
   unfold vK at h;split at h
   .rename_i aj
    have:=yQ _ _ _ _ aj;cases h;omega
   .split at h
    .cases h;decide
    .cases h
  .intro x h
   unfold vK at h;split at h;.cases h
   .rename_i y hy
    split at h;.cases h
    .cases h
     have av:=a3M _ _ _ _ hy;have ax:s.data.toList.length=s.size:=ny;have ay:(100000:Nat)<=jd:=mX;omega
def bOf(d:Bool)(v:iQ):Option Nat:=if d=u then(match v with| mG (O a)=>O a.block|_=>U)else U
structure BF(Bs:K->Prop)(lim:Nat)(cs:Option j4->Nat->Array iQ)(er:Int)(zc:Array iQ)(T:jl)(Ps:Option j4->Nat->Prop)(S:List (mW IL))(d9 d10 d11 d13 d14:Bool)(v9 v10 v11 v13:iQ)(W:K):Prop where
 bs:Bs W
 lm:lim<W.heap.size
 cl:d9=u->∃ov cv,Ps ov cv/\v9=mJ #[mI (cs ov cv),V X er]/\(d10=u->v10=mJ #[mI (cs ov cv),V X er])/\(d11=u->v11=mI (cs ov cv))/\nC W (λc=>lim<c/\bOf d13 v13≠O c) (G ov S.length cv) S/\
  (d14=u->∃b,v13=mG (O (Z b 0 U))/\lim<b/\b<W.heap.size/\mY W b (cs ov cv) T)
 dn:d10=u->d9=u
 dm:d11=u->d10=u
 bk:d13=u->d14=M->∃b,v13=mG (O (Z b 0 U))/\lim<b/\mY W b zc T
section
variable {Bs:K->Prop}{lim:Nat}{cs:Option j4->Nat->Array iQ}{er:Int}{zc:Array iQ}{T:jl}{Ps:Option j4->Nat->Prop}{S:List (mW IL)}{d9 d10 d11 d13 d14:Bool}{v9 v10 v11 v13:iQ}{W W':K}
def BF.ini(hb:Bs W)(hl:lim<W.heap.size):BF Bs lim cs er zc T Ps S M M M M M v9 v10 v11 v13 W:=⟨hb,hl,(λh=>by cases h),(λh=>by cases h),(λh=>by cases h),(λh=>by cases h)⟩
def BF.call(qP:∀W W',Bs W->lim<W.heap.size->iR (lim+1) W W'->Bs W')(h:BF Bs lim cs er zc T Ps S M M M d13 M v9 v10 v11 v13 W)(hb:iR W.heap.size W W'){ov:Option j4}{cv:Nat}(hp:Ps ov cv)(hs:nC W' (λc=>W.heap.size<=c) (G ov S.length cv) S):
  BF Bs lim cs er zc T Ps S u M M d13 M (mJ #[mI (cs ov cv),V X er]) v10 v11 v13 W':=by
 have hl:=h.lm;refine⟨qP W W' h.bs hl (hb.mono hl),jy hl hb.size,λ_=>⟨ov,cv,hp,rfl,(λh=>by cases h),(λh=>by cases h),Shape.nA.keep hs (iP _) (λc _ hc=> ?_) (λ_ _ _=>rfl),(λh=>by cases h)⟩,λ_=>rfl,(λh=>by cases h),λA J=> ?_⟩
 .have E:=hc
  refine⟨I,λe=> ?_⟩;cases d13 with
  |false=>cases e
  |true=>
   obtain⟨b,rfl,_,hB⟩:=h.bk rfl rfl;have C:O b=O c:=e;cases C;have:=hB.lt;omega
 .have⟨b,e1,e2,e3⟩:=h.bk A rfl
  exact⟨b,e1,e2,a7 hb e3 e3.lt⟩
def BF.done(h:BF Bs lim cs er zc T Ps S d9 d10 d11 d13 d14 v9 v10 v11 v13 W)(hd:d10=u):d9=u:=h.dn hd
def BF.mv(h:BF Bs lim cs er zc T Ps S u M M d13 M v9 v10 v11 v13 W):BF Bs lim cs er zc T Ps S u u M d13 M v9 v9 v11 v13 W:=by
 have⟨ov,cv,a1,a2,_,_,a5,_⟩:=h.cl rfl;exact⟨h.bs,h.lm,λ_=>⟨ov,cv,a1,a2,λ_=>a2,(λh=>by cases h),a5,(λh=>by cases h)⟩,λ_=>rfl,(λh=>by cases h),h.bk⟩
def BF.tup(h:BF Bs lim cs er zc T Ps S u u d11 d13 d14 v9 v10 v11 v13 W):∃ov cv,v10=mJ #[mI (cs ov cv),V X er]:=by
 have⟨ov,cv,_,_,a3,_⟩:=h.cl rfl;exact⟨ov,cv,a3 rfl⟩
def BF.ext(h:BF Bs lim cs er zc T Ps S u u M d13 M v9 v10 v11 v13 W):∃ov cv,v10=mJ #[mI (cs ov cv),V X er]/\BF Bs lim cs er zc T Ps S u u u d13 M v9 v10 (mI (cs ov cv)) v13 W:=by
 have⟨ov,cv,a1,a2,a3,_,a5,_⟩:=h.cl rfl;exact⟨ov,cv,a3 rfl,h.bs,h.lm,λ_=>⟨ov,cv,a1,a2,a3,λ_=>rfl,a5,(λh=>by cases h)⟩,λ_=>rfl,λ_=>rfl,h.bk⟩
def BF.made(qP:∀W W',Bs W->lim<W.heap.size->iR (lim+1) W W'->Bs W')(h:BF Bs lim cs er zc T Ps S d9 d10 d11 M M v9 v10 v11 v13 W):BF Bs lim cs er zc T Ps S d9 d10 d11 u M v9 v10 v11 (mG (O (Z W.heap.size 0 U))) (W.alloc (mM zc T)):=by
 have hb:=(iT W.heap.size W).alloc (iP _) (mM zc T);have hl:=h.lm;refine⟨qP W _ h.bs hl (hb.mono hl),jy hl hb.size,λA=> ?_,h.dn,h.dm,λ_ _=>⟨_,rfl,hl,mY.new W _ _⟩⟩;have⟨ov,cv,a1,a2,a3,a4,a5,_⟩:=h.cl A;refine⟨ov,cv,a1,a2,a3,a4,Shape.nA.keep a5 hb.size (λc hc C=>⟨C.1,λe=> ?_⟩) (λc hc _=>hb.block c hc),(λh=>by cases h)⟩;have E:O W.heap.size=O c:=e;cases E;omega
def BF.st(qP:∀W W',Bs W->lim<W.heap.size->iR (lim+1) W W'->Bs W')(h:BF Bs lim cs er zc T Ps S u u u u M v9 v10 v11 v13 W):∃ov cv b,v11=mI (cs ov cv)/\v13=mG (O (Z b 0 U))/\mY W b zc T/\
  ∀W',(∀c,c≠b->W'.heap[c]? =W.heap[c]?)->W'.heap.size=W.heap.size->W'.os=W.os->W'.tape=W.tape->W'.output=W.output->mY W' b (cs ov cv) T->BF Bs lim cs er zc T Ps S u u u u u v9 v10 v11 v13 W':=by
 have⟨ov,cv,a1,a2,a3,a4,a5,_⟩:=h.cl rfl;obtain⟨b,rfl,C,hB⟩:=h.bk rfl rfl;refine⟨ov,cv,b,a4 rfl,rfl,hB,λW' E A J N aa ae=> ?_⟩;have hl:=h.lm;refine⟨qP W W' h.bs hl ⟨J,N,aa,kP A.symm,λc hc=>E c I⟩,A▸hl,λ_=>⟨ov,cv,a1,a2,a3,a4,Shape.nA.keep a5 (kP A.symm) (λ_ _ h=>h) (λc _ af=>E c λe=>af.2 (by rw[e];rfl)),λ_=>⟨b,rfl,C,A▸hB.lt,ae⟩⟩,λ_=>rfl,λ_=>rfl,λ_ h=>by cases h⟩
def BF.fin(h:BF Bs lim cs er zc T Ps S u u u u u v9 v10 v11 v13 W):∃ov cv b,Ps ov cv/\v9=mJ #[mI (cs ov cv),V X er]/\v10=mJ #[mI (cs ov cv),V X er]/\v11=mI (cs ov cv)/\v13=mG (O (Z b 0 U))/\lim<b/\mY W b (cs ov cv) T/\
  nC W (λc=>lim<c/\c≠b) (G ov S.length cv) S:=by
 have⟨ov,cv,a1,a2,a3,a4,a5,a6⟩:=h.cl rfl;obtain⟨b,rfl,A,_,hB⟩:=a6 rfl;exact⟨ov,cv,b,a1,a2,a3 rfl,a4 rfl,rfl,A,hB,Shape.nA.keep a5 (iP _) (λc _ C=>⟨C.1,λe=>C.2 (by rw[e];rfl)⟩) λ_ _ _=>rfl⟩
end
def P6(W:K)(k:Nat)(a b c:iQ):(∀d,d≠k->(o8 W k a b c).heap[d]? =W.heap[d]?)/\(o8 W k a b c).heap.size=W.heap.size/\(o8 W k a b c).os=W.os/\(o8 W k a b c).tape=W.tape/\(o8 W k a b c).output=W.output:=
 ⟨λd hd=>by simp[o8,jr,kg,mf hd],by simp[o8,jr],rfl,rfl,rfl⟩
def Xv{a b c a0 b0 c0:iQ}(h:mY W k #[a0,b0,c0] t):mY (o8 W k a b c) k #[a,b,c] t:=((h.set 0 a).set 1 b).set 2 c
def zx(W:K)(k:Nat)(a b c e:iQ):(∀d,d≠k->(zt W k a b c e).heap[d]? =W.heap[d]?)/\(zt W k a b c e).heap.size=W.heap.size/\(zt W k a b c e).os=W.os/\(zt W k a b c e).tape=W.tape/\(zt W k a b c e).output=W.output:=
 ⟨λd hd=>by simp[zt,jr,kg,mf hd],by simp[zt,jr],rfl,rfl,rfl⟩
def zm4:Array iQ:=#[H ⟨#[]⟩,H ⟨#[]⟩,mH M,G U 0 0]
def Yw(g rb:Nat)(f:tJ)(x:RC)(w0 W:K):Prop:=iR g w0 W/\mY W g #[V mP f.id,H f.name,H f.body] pR/\mY W (g+1) zm4 yA/\mY W rb x.cs GN
def Yw.up{rb:Nat}{f:tJ}{x:RC}{A:K}(hl:g+1<rb)(h:Yw g rb f x w0 W)(_:rb<W.heap.size)(hb:iR (rb+1) W A):Yw g rb f x w0 A:=
 ⟨h.1.trans (hb.mono I),a7 hb h.2.1 I,a7 hb h.2.2.1 I,a7 hb h.2.2.2 I⟩
noncomputable def G6:List kC:=cO (cL (cR (cR (cR (cR (cB Tryz.f64))))))
section
variable (g r rb:Nat)(c:nU)(f:tJ)(x:RC)(w0:K)(fn:FuncId)(T:An)(li:Bool)(S:List (mW IL))(er:Nat)(Ps:Option j4->Nat->Prop)
def zy:Nat->iQ
 |0=> mG (O (Z r 0 U))
 |1=> mG (O (Z r 0 U))
 |2=> mG (O (Z r 8 U))
 |3=> mG (O (Z r 9 U))
 |4=> .func (.func fn) #[mI #[V X c.dep,V X c.oo]] #[]
 |5=> mG (O (Z rb 3 U))
 |6=> mI #[V X x.k,V X x.z,G x.ou x.nu x.cu,V X x.tl]
 |7=> mG (O (Z g 2 U))
 |8=> H f.body
 |12=> V X (er)
 |15=> V X (er)
 |_=>jw
structure a8D(D:Nat->Bool)(vs:Nat->iQ)(w:K):Prop where
 nP:BF (Yw g rb f x w0) (rb) (λov cv=>#[H T,mH li,G ov S.length cv]) (er) (BD) IT (Ps) (S) (D 9) (D 10) (D 11) (D 13) (D 14) (vs 9) (vs 10) (vs 11) (vs 13) w
 val:∀j,(j !=9&&j !=10&&j !=11&&j !=13)=u->D j=u->vs j=zy g r rb c f x fn er j
variable {g r rb c f x w0 fn T li S er Ps}
def a3N{id:Nat}(ht0:a0.tmps.getD 0 jw=mG (O (Z r 0 U)))(Sn:∀W,Yw g rb f x w0 W->W.cell? (Z r 9 U)=O (.func (.func fn) #[mI #[V X c.dep,V X c.oo]] #[]))(y8:a0.tmps.getD 6 jw=mG (O (Z rb 0 U)))(ht3:a0.tmps.getD 3 jw=mG (O (Z g 0 U)))(hget:∀W,Yw g rb f x w0 W->iW iN fn #[mI #[V X c.dep,V X c.oo],mI #[V X x.k,V X x.z,G x.ou x.nu x.cu,V X x.tl],H f.body] W λe ah=>∃ov cv,Ps ov cv/\e=mK (mJ #[mI #[H T,mH li,G ov S.length cv],V X er])/\nC ah (λc=>W.heap.size<=c) (G ov S.length cv) S/\iR W.heap.size W ah)(hcf:∀a b d W,lJ iN (callFunc fn #[a,b,d]) W=.ok (.enter fn #[a,b,d]) W)(qP:∀W ah,(Yw g rb f x w0) W->rb<W.heap.size->iR (rb+1) W ah->(Yw g rb f x w0) ah)(hsz:a0.tmps.size=48)(hI0:∀vs:Nat->iQ,(λw=>BF (Yw g rb f x w0) (rb) (λov cv=>#[H T,mH li,G ov S.length cv]) (er) (BD) IT (Ps) (S) M M M M M (vs 9) (vs 10) (vs 11) (vs 13) w) ws.drew)(au:∀(vs:Nat->iQ) (w:K),BF (Yw g rb f x w0) (rb) (λov cv=>#[H T,mH li,G ov S.length cv]) (er) (BD) IT (Ps) (S) u u u u u (vs 9) (vs 10) (vs 11) (vs 13) w->Q .normal {a0 with tmps:=vG a0.tmps [(23,mG (O (Z r 0 U))),(24,mG (O (Z r 0 U))),(25,mG (O (Z r 8 U))),(26,mG (O (Z r 9 U))),(27,.func (.func fn) #[mI #[V X c.dep,V X c.oo]] #[]),(28,mG (O (Z rb 3 U))),(29,mI #[V X x.k,V X x.z,G x.ou x.nu x.cu,V X x.tl]),(30,mG (O (Z g 2 U))),(31,H f.body),(32,vs 9),(22,vs 10),(33,vs 11),(34,V X (er)),(8,vs 13),(9,V X (er))]} w):
  (jZ id G6.toArray u).wp iN Q a0 ws:=by
 refine nJ 16 48 (a8D g r rb c f x w0 fn T li S er Ps) mZ hsz mZ (.inl rfl) mZ ?_ ?_ ?_;.exact qg
 .refine rR λA aG=> ?_
  clear hI0 au hsz;replace ht0:=Y ht0;replace Sn:=Y Sn;replace y8:=Y y8;replace ht3:=Y ht3;replace hget:=Y hget;replace hcf:=Y hcf;replace qP:=Y qP;dsimp+instances only[G6,cO,cL,cR,cB,Tryz.f64];simp only[jm,jI,qU];refine⟨?_,?_,?_,?_,?_,?_,?_,?_,?_,?_,?_,?_,?_,?_,?_,?_,trivial⟩<;>(intro D vs a w aq hI hd E J C af;subst aG;dsimp+instances only[G6,cO,cL,cR,cB,Tryz.f64]);have aW:=(C 0 mX).trans ht0.out;rotate_left;have aQ:=fe C hI.val E 23 0;rotate_left;have aR:=fe C hI.val E 24 1;rotate_left;have aS:=fe C hI.val E 25 2;rotate_left;have Sn:=Sn.out;have av:=fe C hI.val E 26 3;simp only[zy]at av;have c0:=Sn w hI.nP.bs;rotate_left;have aX:=(C 6 mX).trans y8.out;rotate_left;have ax:=fe C hI.val E 28 5;simp only[zy]at ax;have⟨⟨c0,c1,c2,c3,c4,c5,c6⟩,_⟩:=pW hI.nP.bs.2.2.2;rotate_left;have e3:=(C 3 mX).trans ht3.out;rotate_left;have ay:=fe C hI.val E 30 7;simp only[zy]at ay;have hB:=hI.nP.bs.2.1;have c0:=hB.c2;clear hB;rotate_left
  .have hget:=hget.out
   have hcf:=hcf.out;have qP:=qP.out;have az:=fe C hI.val E 27 4;have aA:=fe C hI.val E 29 6;have aB:=fe C hI.val E 31 8;simp only[zy]at az aA aB;have aj:D 11=M:=by cases h:D 11 with|false=>rfl|true=>exact absurd (hI.nP.dm h) (by rw[J 10 mX mZ];decide)
   have N:=hI.nP;rw[hd,J 10 mX mZ,aj,J 14 mX mZ]at N;have aH:=hget w N.bs;clear hget;rw[Ax (by rfl)];go_simp;refine aH.mono ?_;rintro e aY ⟨ov,cv,hp,rfl,hs,hb⟩;refine af _ _ _ rfl ⟨?_,I9 rfl hI.val⟩;rw[nL,nz D (show 10≠9 by decide),nz D (show 11≠9 by decide),nz D (show 13≠9 by decide),nz D (show 14≠9 by decide),o6,nM vs _ (show 10≠9 by decide),nM vs _ (show 11≠9 by decide),nM vs _ (show 13≠9 by decide)];rw[J 10 mX mZ,aj,J 14 mX mZ];exact N.call qP hb hp hs
  .have d9:=E 9 mX mZ
   have aU:a.tmps.getD 32 jw=vs 9:=C 32 mX;have N:=hI.nP;rw[hd,d9,J 11 mX mZ,J 14 mX mZ]at N;go_simp;refine af _ _ _ rfl ⟨?_,I9 rfl hI.val⟩;rw[nL,nz D (show 9≠10 by decide),nz D (show 11≠10 by decide),nz D (show 13≠10 by decide),nz D (show 14≠10 by decide),o6,nM vs _ (show 9≠10 by decide),nM vs _ (show 11≠10 by decide),nM vs _ (show 13≠10 by decide)];rw[d9,J 11 mX mZ,J 14 mX mZ];exact N.mv
  .have d10:=E 10 mX mZ
   have ae:a.tmps.getD 22 jw=vs 10:=C 22 mX;have N:=hI.nP;have aa:D 9=u:=hI.nP.done (by rw[d10]);rw[hd,aa,d10,J 14 mX mZ]at N;have⟨ov,cv,ev,ai⟩:=N.ext;try dsimp only at ev ai
   have ae:=ae.trans ev;go_simp;refine af _ _ _ rfl ⟨?_,I9 rfl hI.val⟩;rw[nL,nz D (show 9≠11 by decide),nz D (show 10≠11 by decide),nz D (show 13≠11 by decide),nz D (show 14≠11 by decide),o6,nM vs _ (show 9≠11 by decide),nM vs _ (show 10≠11 by decide),nM vs _ (show 13≠11 by decide)];rw[aa,d10,J 14 mX mZ];exact ai
  .have d10:=E 10 mX mZ
   have ae:a.tmps.getD 22 jw=vs 10:=C 22 mX;have aa:D 9=u:=hI.nP.done (by rw[d10]);have N:=hI.nP;rw[aa,d10]at N;have⟨ov,cv,ev⟩:=N.tup;try dsimp only at ev
   have ae:=ae.trans ev;go_simp;exact af (zy g r rb c f x fn er 12) _ _ rfl ⟨hI.nP,uj hI.val⟩
  .have qP:=qP.out
   have N:=hI.nP;rw[hd,J 14 mX mZ]at N;go_simp;refine af (mG (O (Z w.heap.size 0 U))) _ _ rfl ⟨?_,I9 rfl hI.val⟩;rw[nL,nz D (show 9≠13 by decide),nz D (show 10≠13 by decide),nz D (show 11≠13 by decide),nz D (show 14≠13 by decide),o6,nM vs _ (show 9≠13 by decide),nM vs _ (show 10≠13 by decide),nM vs _ (show 11≠13 by decide)];rw[J 14 mX mZ];exact N.made qP
  .have qP:=qP.out
   have d13:=E 13 mX mZ;have aD:a.tmps.getD 8 jw=vs 13:=C 8 mX;have d11:=E 11 mX mZ;have ak:a.tmps.getD 33 jw=vs 11:=C 33 mX;have aa:D 9=u:=hI.nP.done (E 10 mX mZ);have N:=hI.nP;rw[hd,aa,E 10 mX mZ,d11,d13]at N;have⟨ov,cv,b,aF,aI,hB,ai⟩:=N.st qP;try dsimp only at aF ai
   have ak:=ak.trans aF;have aD:=aD.trans aI;have z0:=hB.cell 0;have aJ:=hB.cell 1;have aK:=hB.cell 2;have⟨f0,f1,f2⟩:=hB.f3;simp only[BD,ji,jb,jc]at z0 aJ aK;go_simp;rw[pO];refine af jw _ _ rfl ⟨?_,uj hI.val⟩;rw[nL,nz D (show 9≠14 by decide),nz D (show 10≠14 by decide),nz D (show 11≠14 by decide),nz D (show 13≠14 by decide),nM vs _ (show 9≠14 by decide),nM vs _ (show 10≠14 by decide),nM vs _ (show 11≠14 by decide),nM vs _ (show 13≠14 by decide)];rw[aa,E 10 mX mZ,d11,d13];obtain⟨aL,aM,aN,aO,aP⟩:=P6 _ _ _ _ _;exact ai _ aL aM aN aO aP (Xv hB)
  have aV:=fe C hI.val E 34 12;rotate_left
  all_goals
   try simp only[zy]at*
   go_simp;exact af _ _ _ rfl ⟨hI.nP,uj hI.val⟩
 .intro D vs w ag hI
  have E:=hI.nP;rw[ag 9 mX]at E;rw[ag 10 mX]at E;rw[ag 11 mX]at E;rw[ag 13 mX]at E;rw[ag 14 mX]at E;have q:=au vs w E;rw[oD hI.val ag];dsimp+instances only[G6,cO,cL,cR,cB,Tryz.f64];exact qf
end
def mN(aE:Except Nat JY):An:=match aE with| .error _=>⟨#[]⟩| .ok m=>m.name
def mT(aE:Except Nat JY):An:=match aE with| .error _=>⟨#[]⟩| .ok m=>txt m.val.lab
def mL(aE:Except Nat JY):Bool:=match aE with| .error _=>M| .ok m=>m.val.lab.list
def mS(aE:Except Nat JY):List (mW IL):=match aE with| .error _=>[]| .ok m=>m.val.sub
def mE(aE:Except Nat JY):Nat:=match aE with| .error er=>er| .ok _=>0
def a3O(aE:Except Nat JY)(w:K)(e:kV)(w':K):Prop:=
 ∃ov cv,((∃er,aE=.error er)->ov=U/\cv=0)/\e=mK (mJ #[mI #[H (mN aE),H (mT aE),mH (mL aE),G ov (mS aE).length cv],V X (mE aE:Nat)])/\nC w' (λc=>w.heap.size<=c) (G ov (mS aE).length cv) (mS aE)/\iR w.heap.size w w'
def Jo{t:mW TL}{s:An}(h:zn c t s=.error er):er≠0:=by
 unfold zn at h;split at h
 .unfold Gw at h
  split at h
  .rename_i e1 A
   unfold Kj at A;split at A
   .have E:=yR 8 t (RS.of s) (min c.oo 1024).toNat (dt _)
    cases A;cases h;omega
   .cases A
  .split at h
   .cases h;decide
   .cases h
 .unfold vD at h
  split at h
  .split at h
   .rename_i e1 A
    unfold vK at A;split at A
    .rename_i C
     have:=yQ _ _ _ _ C;cases A;cases h;omega
    .split at A
     .cases A;cases h;decide
     .cases A
   .split at h
    .cases h
    .rename_i J
     have:=Dt t (by assumption);cases h;omega
  .cases h;decide
def Sq(r bn bi:Nat)(c:nU)(L:List oJ)(f:tJ)(w:K)(h:pY r bn bi c L w)(hc:nV c=u)(aZ:c.wf)(bQ:qB w)(aU:BC w)(hn:f.name.size<=jd)(hid:f.id<18446744073709551616)(bg:f.body.size<=100000)(hlt:r<w.heap.size/\bn<w.heap.size/\bi<w.heap.size):
  iW iN 64 #[mG (O (Z r 0 U)),mI #[V mP f.id,H f.name,H f.body]] w (a3O (tN c (L.map λx=>x.r) f) w):=by
 have⟨fn,bq,hcf,bu⟩:=a0x c hc aZ;obtain⟨g,hg⟩:=o7 w;have aD:R (∀W,iR g w W->iW iN 91 #[mG (O (Z r 0 U)),mI #[V mP f.id,H f.name,H f.body]] W λe w'=>e=mK (mJ #[mI (rcO (R6 c L f)).cs,mH (R6 c L f).isSome])/\iR W.heap.size W w'):=Y λW hb=>by
  have:=hb.size;exact a6r r bn bi c L f W (h.below (hg.symm▸hb)) hn hid ⟨I,I,I⟩
 have bz:R (∀W,(w.alloc (mM #[V mP f.id,H f.name,H f.body] pR)).alloc (mM #[H ⟨#[]⟩,H ⟨#[]⟩,mH M,G U 0 0] yA)=W->mY W g #[V mP f.id,H f.name,H f.body] pR/\mY W (g+1) zm4 yA/\iR g w W/\W.heap.size=g+2):=Y λW ag=>by
  subst ag;have a1:=(iT w.heap.size w).alloc (iP _) (mM #[V mP f.id,H f.name,H f.body] pR);have a2:=a1.alloc ny (mM #[H ⟨#[]⟩,H ⟨#[]⟩,mH M,G U 0 0] yA);have bW:=mY.new w #[V mP f.id,H f.name,H f.body] pR;have bX:=mY.new (w.alloc (mM #[V mP f.id,H f.name,H f.body] pR)) #[H ⟨#[]⟩,H ⟨#[]⟩,mH M,G U 0 0] yA;rw[show(w.alloc (mM #[V mP f.id,H f.name,H f.body] pR)).heap.size=g+1 by simp[hg]]at bX;rw[hg]at bW;exact⟨bW.alloc _,bX,hg▸a2,by simp[hg]⟩
 have bA:R (∀W,iR g w W->W.cell? (Z r 9 U)=O (.func (.func fn) #[mI #[V X c.dep,V X c.oo]] #[])):=Y λW hb=>by
  have:=(h.below (hg.symm▸hb)).rg.cell 9;rw[<-bq];exact this
 have⟨aE,bR⟩:=nE (tN c (L.map λx=>x.r) f);have ah:R ((R6 c L f=U->aE=.error 11)/\∀x,R6 c L f=O x->aE=match zn c x.r.ty f.body with| .error er=> .error (if er=2 then 3 else er)| .ok y=> .ok ⟨x.r.name,y⟩):=Y (by
  rw[<-bR];unfold tN;rw[a3n];refine⟨λh=>by rw[h];rfl,λx h=>by rw[h];rfl⟩)
 have aF:R (∀x,R6 c L f=O x->x∈L):=Y λx J=>by
  unfold R6 at J;split at J
  .split at J
   .exact lT J
   .cases J
  .split at J
   .exact lT J
   .cases J
 have ax:R (∀x,R6 c L f=O x->∀W,iR g w W->iW iN fn #[mI #[V X c.dep,V X c.oo],mI #[V X x.r.ty.lab.kind,V X x.r.ty.lab.size,G x.ou x.r.ty.sub.length x.cu,V X x.r.ty.lab.tail],H f.body] W (Sm (zn c x.r.ty f.body) W)):=Y λx J W hb=>by
  have bY:=aF.out x J;have aG:iR w.heap.size w W:=hg.symm▸hb;have⟨dx,m2,_⟩:=h.may x bY;exact(bu x.r.ty f.body W x.ou x.cu ((h.below aG).sub x bY) (bQ.below aG bQ.lt) (xN aU (oC.of (b:=w.heap.size) (q:=w.heap.size) aG) (by have:=aU.lt;omega) (by have:=aU.lt;omega)) dx m2 bg).mono λe w' h=>MZ h
 have bB:=Y hcf;rw[bR];have⟨dz,bS⟩:=nE (a3O aE w);have aV:=Y bS;rw[bS];have⟨o,ho⟩:=nE (R6 c L f);rw[ho]at aD ah ax;clear h hc aZ bQ aU hn hid bg hlt bq hcf bu bR ho bS aF;go_in;go_upto_region 1 with fail;have⟨aH,bC,aI,bD⟩:=bz.out _ rfl;generalize (w.alloc _).alloc _=w1 at*;have⟨c0,c1,c2⟩:=aH.a3;have ai:=Y (iU aH (iU bC (iU aI bD)));have aJ:=Y (aD _ aI);clear bz aH bC aI bD aD;go_wp2_with fail;refine pG aJ λw2 aj=> ?_
 have ay:R (mY w2 g #[V mP f.id,H f.name,H f.body] pR/\mY w2 (g+1) zm4 yA/\iR g w w2/\g+2<=w2.heap.size):=Y ⟨a7 aj ai.1 ai.1.lt,a7 aj ai.2.1 ai.2.1.lt,ai.2.2.1.trans (aj.mono (by have:=ai.2.2.2;omega)),by have:=aj.size;have:=ai.2.2.2;omega⟩;clear aj ai aJ c0 c1 c2;cases o with
 |none=>
  have aA:R (aE=.error 11):=Y (ah.1 rfl);have ak:R (∀W,w2.alloc (mM DJ.cs GN)=W->mY W (g+1) zm4 yA/\iR g w W):=Y λW ag=>by
   subst ag;have al:=(iT w2.heap.size w2).alloc (iP _) (mM DJ.cs GN);have⟨_,C,bT,dA⟩:=ay.out;exact⟨a7 al C C.lt,bT.trans (al.mono I)⟩
  unfold rcO DJ RC.cs at ak|-;dsimp only[Option.isSome]at ak|-;clear ah ax;go_upto_region 4 with fail;have⟨hB,A⟩:=ak.out _ rfl;generalize w2.alloc _=w3 at*;have⟨⟨dB,dD,dE,dF⟩,dG,dH,dI,dJ⟩:=nR hB;have au:=Y (iU hB A);clear hB A ak;go_wp2_with fail;rw[uu];have⟨⟨N,aa,ae,af⟩,_⟩:=nR (rT (a:=H ⟨#[]⟩) (b:=H ⟨#[]⟩) (c:=mH M) (d:=G U 0 0) au.1);have A:=uF (a:=H ⟨#[]⟩) (b:=H ⟨#[]⟩) (c:=mH M) (d:=G U 0 0) au.2 (jO g);refine iY (v:=mJ #[mI #[H ⟨#[]⟩,H ⟨#[]⟩,mH M,G U 0 0],V X 11]) (by simp[jv,Tryz.results64,go_sem,N,aa,ae,af]) rfl ?_;rw[<-aV.out,aA.out];exact⟨U,0,λ_=>⟨rfl,rfl⟩,rfl,wz _ _,hg.symm▸A⟩
 |some x=>
  have az:R (aE=match zn c x.r.ty f.body with| .error er=> .error (if er=2 then 3 else er)| .ok y=> .ok ⟨x.r.name,y⟩):=Y (ah.2 x rfl);have aK:=Y (ax x rfl);have aL:R (∀er,zn c x.r.ty f.body=.error er->er≠0):=Y λer h=>Jo h
  have⟨ab,bZ⟩:=nE (zn c x.r.ty f.body);rw[bZ]at az aK aL;obtain⟨rb,aM⟩:=o7 w2;have ak:R (∀W,w2.alloc (mM x.rc.cs GN)=W->Yw g rb f x.rc w W/\rb<W.heap.size):=Y λW ag=>by
   subst ag;have al:=(iT w2.heap.size w2).alloc (iP _) (mM x.rc.cs GN);have⟨aW,C,bT,dA⟩:=ay.out;exact⟨⟨bT.trans (al.mono I),a7 al aW aW.lt,a7 al C C.lt,aM▸mY.new w2 _ _⟩,by simp[aM]⟩
  have cz:g+1<rb:=by have:=ay.2.2.2;omega
  unfold rcO;dsimp only[Option.isSome];unfold RC.cs at ak|-;have cK:R (x.rc.nm=x.r.name):=Y rfl;have bE:R (∀W,iR g w W->iW iN fn #[mI #[V X c.dep,V X c.oo],mI #[V X x.rc.k,V X x.rc.z,G x.rc.ou x.rc.nu x.rc.cu,V X x.rc.tl],H f.body] W (Sm ab W)):=Y aK.out;clear aK ah ax bZ ay;generalize x.rc=ac at*;generalize x.r.name=dK at*;go_upto_region 4 with fail;have⟨hB,bF⟩:=ak.out _ rfl;generalize w2.alloc _=w3 at*;clear ak;have au:=Y (iU hB bF);clear hB bF aM;go_upto_region 6 with fail;have⟨T,aN⟩:=nE (qT ab);have⟨li,aO⟩:=nE (qL ab);have⟨S,bU⟩:=nE (qS ab);have⟨er,aP⟩:=nE (qE ab);have bG:R (∀W,Yw g rb f ac w W->iW iN fn #[mI #[V X c.dep,V X c.oo],mI #[V X ac.k,V X ac.z,G ac.ou ac.nu ac.cu,V X ac.tl],H f.body] W λe bV=>∃ov cv,((∃er,ab=.error er)->ov=U/\cv=0)/\e=mK (mJ #[mI #[H T,mH li,G ov S.length cv],V X er])/\nC bV (λc=>W.heap.size<=c) (G ov S.length cv) S/\iR W.heap.size W bV):=Y λW ag=>by
   have:=bE.out W ag.1;unfold Sm qV at this;rw[aN,aO,bU,aP]at this;exact this
  refine a3N (g:=g) (r:=r) (rb:=rb) (c:=c) (f:=f) (x:=ac) (w0:=w) (fn:=fn) (T:=T) (li:=li) (S:=S) (er:=er) (Ps:=λov cv=>(∃er,ab=.error er)->ov=U/\cv=0) (ht0:=by rfl) (y8:=by rfl) (ht3:=by rfl) (hsz:=by rfl) (Sn:=λW ag=>bA.out W ag.1) (hget:=bG.out) (hcf:=bB.out) (qP:=λW bV h=>h.up cz) (hI0:=λ_=>BF.ini ⟨au.1.1.trans ((nN w3).mono (by have:=au.2;omega)),au.1.2⟩ au.2) ?_;intro vs W hF;have⟨ov,cv,b,bH,cZ,bI,bJ,bK,bL,bM,av⟩:=BF.fin hF;rw[cZ,bI,bJ,bK];have⟨bN,df,aQ,bO⟩:=hF.bs;have aB:=Y (iU bH (iU bL (iU av (iU bN aQ))));have aX:=Y (iU aN (iU aO (iU bU aP)));simp only[vG,iX,jg,jf];have⟨⟨r0,r1,r2,r3,r4,dO,dP⟩,_⟩:=pW bO;have⟨b0,b1,dL⟩:=bM.a3;have⟨⟨dB,dD,dE,dF⟩,dG,dH,dI,dJ⟩:=nR aQ;have bP:R (∀aY,(∀c,c≠g+1->aY.heap[c]? =W.heap[c]?)->aY.heap.size=W.heap.size->nC aY (λc=>w.heap.size<=c) (G ov S.length cv) S):=Y λaY aW C=>Shape.nA.keep av (kP C.symm) (λc _ hc=>by have:=hc.1;show w.heap.size<=c;omega) λc _ hc=>aW c (by have:=hc.1;omega)
  clear hF bH bL av bN df aQ bO bM aN aO bU aP bE bG au bA bB cZ bI bJ bK;have⟨sn,aR⟩:=nE S.length;rw[aR]at dL bP|-;have dh:=Y aR;clear aR;by_cases h0:er=0
  .subst h0
   have aA:R (∃y,ab=.ok y):=Y (by
    cases ab with
    |error e1=>exact absurd aX.2.2.2 (aL e1 rfl)
    |ok y=>exact⟨y,rfl⟩)
   go_wp2_with fail;rw[uu];have⟨dM,dN,_⟩:=zx W (g+1) (H ac.nm) (H T) (mH li) (G ov sn cv);have⟨⟨N,aa,ae,af⟩,_⟩:=nR (rT (a:=H ac.nm) (b:=H T) (c:=mH li) (d:=G ov sn cv) aB.2.2.2.2);have A:=uF (a:=H ac.nm) (b:=H T) (c:=mH li) (d:=G ov sn cv) aB.2.2.2.1 (jO g);refine iY (v:=mJ #[mI #[H ac.nm,H T,mH li,G ov sn cv],V X 0]) (by simp[jv,Tryz.results64,go_sem,N,aa,ae,af]) rfl ?_;have⟨y,hy⟩:=aA.out;have hs:=bP.out _ dM dN;have⟨g1,g2,g3,_⟩:=aX.out;have E:=az.out;rw[hy]at E g1 g2 g3;dsimp only at E;rw[<-aV.out,E];have g1:txt y.lab=T:=g1;have g2:y.lab.list=li:=g2;have g3:y.sub=S:=g3;have aS:=dh.out;rw[<-g3]at aS hs;refine⟨ov,cv,(λ⟨_,h⟩=>by cases h),?_,?_,hg.symm▸A⟩
   .show _=jS (mJ #[mI #[H dK,H (txt y.lab),mH y.lab.list,G ov y.sub.length cv],V X ((0:Nat):Int)])
    rw[g1,g2,aS,cK.out];rfl
   .show nC _ _ (G ov y.sub.length cv) y.sub
    rw[aS];exact hs
  .have aA:R (ab=.error er):=Y (by
    cases ab with
    |error e1=>rw[<-aX.2.2.2];rfl
    |ok y=>exact absurd aX.2.2.2.symm h0)
   have t0:((er:Int)==0)=M:=nk;have dw:((er:Int) !=0)=u:=nk;have⟨⟨N,aa,ae,af⟩,_⟩:=nR (rT (a:=H ⟨#[]⟩) (b:=H ⟨#[]⟩) (c:=mH M) (d:=G U 0 0) aB.2.2.2.2);have A:=Y (uF (a:=H ⟨#[]⟩) (b:=H ⟨#[]⟩) (c:=mH M) (d:=G U 0 0) aB.2.2.2.1 (jO g));by_cases C:er=2
   .have E:R (aE=.error 3):=Y (by have:=az.out;rw[aA.out]at this;rw[this,C];rfl)
    subst C;clear N aa ae af t0 dw h0;go_wp2_with fail;rw[uu];have⟨⟨N,aa,ae,af⟩,_⟩:=nR (rT (a:=H ⟨#[]⟩) (b:=H ⟨#[]⟩) (c:=mH M) (d:=G U 0 0) aB.2.2.2.2);refine iY (v:=mJ #[mI #[H ⟨#[]⟩,H ⟨#[]⟩,mH M,G U 0 0],V X 3]) (by simp[jv,Tryz.results64,go_sem,N,aa,ae,af]) rfl ?_;rw[<-aV.out,E.out];exact⟨U,0,λ_=>⟨rfl,rfl⟩,rfl,wz _ _,hg.symm▸A.out⟩
   .have E:R (aE=.error er):=Y (by have:=az.out;rw[aA.out]at this;rw[this];show Except.error (if er=2 then 3 else er)=_;rw[At C])
    have dQ:((er:Int)==2)=M:=nk;clear N aa ae af C h0;go_wp2_with fail;rw[uu];have⟨⟨N,aa,ae,af⟩,_⟩:=nR (rT (a:=H ⟨#[]⟩) (b:=H ⟨#[]⟩) (c:=mH M) (d:=G U 0 0) aB.2.2.2.2);refine iY (v:=mJ #[mI #[H ⟨#[]⟩,H ⟨#[]⟩,mH M,G U 0 0],V X (er:Nat)]) (by simp[jv,Tryz.results64,go_sem,N,aa,ae,af]) rfl ?_;rw[<-aV.out,E.out];exact⟨U,0,λ_=>⟨rfl,rfl⟩,rfl,wz _ _,hg.symm▸A.out⟩
abbrev MtT:jl:=89
abbrev Sr:jl:=28
structure M0(g kc km kt ka ks sb r mb:Nat)(c:nU)(s:An)(p:Nat)(w0:K)(m:MS)(W:K):Prop where
 cf:mY W kc #[V X c.fmt,V mQ c.mag,V X c.oL,V X c.pq,V X c.dep,V X c.oo] rG
 mv:mY W km #[mG (O (Z mb 0 U))] MtT
 tx:mY W kt #[H s] QN
 at_:mY W ka #[V X p] InT
 sv:mY W ks #[mG (O (Z sb 0 U))] Sr
 se:W.cell? (Z sb 0 U)=O (mG (O (Z r 0 U)))/\sb<g
 mm:o9 W (O (mb,m))
 rs:mY W g zm4 yA
 up:oC ka mb w0 W
 ne:kc≠mb/\km≠mb/\kt≠mb/\ka≠mb/\ks≠mb/\sb≠mb/\kc≠ka/\km≠ka/\kt≠ka/\ks≠ka/\sb≠ka
 lt:kc<g/\km<g/\kt<g/\ka<g/\ks<g/\mb<g/\w0.heap.size=g
section
variable {g kc km kt ka ks sb r mb:Nat}{c:nU}{s:An}{p:Nat}{w0:K}{m m2:MS}{W W':K}
def M0.up1(h:M0 g kc km kt ka ks sb r mb c s p w0 m W){lim:Nat}(hg:g<=lim)(hl:lim<W.heap.size)(hb:iR (lim+1) W W'):M0 g kc km kt ka ks sb r mb c s p w0 m W':=by
 have l:=h.lt;have e:=h.se;have q:∀{n:Nat}{cs:Array iQ}{t:jl},mY W n cs t->n<=lim->mY W' n cs t:=λhB hn=>a7 hb hB I
 exact⟨q h.cf I,q h.mv I,q h.tx I,q h.at_ I,q h.sv I,⟨(hb.cell (p:=(Z sb 0 U)) (show sb<lim+1 by omega)).trans e.1,e.2⟩,⟨q h.mm.1 I,h.mm.2⟩,q h.rs I,
  ⟨hb.os.trans h.up.os,hb.tape.trans h.up.tape,hb.output.trans h.up.output,jk h.up.size hb.size,λk hk A C=>(hb.block k I).trans (h.up.block k hk A C)⟩,h.ne,h.lt⟩
def M0.below(h:M0 g kc km kt ka ks sb r mb c s p w0 m W)(hb:iR W.heap.size W W'):M0 g kc km kt ka ks sb r mb c s p w0 m W':=
 h.up1 (iP g) h.rs.lt (hb.mono (by have:=h.rs.lt;omega))
def M0.drew(h:M0 g kc km kt ka ks sb r mb c s p w0 m W):M0 g kc km kt ka ks sb r mb c s p w0 m W.drew:=h.below (nN W)
def M0.turn(h:M0 g kc km kt ka ks sb r mb c s p w0 m W)(hg:W.grownBy W' (O mb))(A:o9 W' (O (mb,m2))):M0 g kc km kt ka ks sb r mb c s p w0 m2 W':=by
 have l:=h.lt;have n:=h.ne;have e:=h.se;have q:∀{n:Nat}{cs:Array iQ}{t:jl},mY W n cs t->n≠mb->mY W' n cs t:=λhB hn=>oV hB hg λx C e=>hn (by cases C;exact e.symm)
 have hsz:=h.rs.lt;refine⟨q h.cf I,q h.mv I,q h.tx I,q h.at_ I,q h.sv I,⟨?_,e.2⟩,A,q h.rs I,?_,h.ne,h.lt⟩
 .have hb:=hg.block sb I (by intro e;cases e;omega)
  simp only[lV,hb];exact e.1
 .exact⟨hg.os.trans h.up.os,hg.tape.trans h.up.tape,hg.output.trans h.up.output,jk h.up.size hg.size,λk hk E J=>(hg.block k (jy hk h.up.size) (by intro e;cases e;omega)).trans (h.up.block k hk E J)⟩
end
structure Yx(g kc km kt ka ks sb r mb:Nat)(c:nU)(s:An)(p:Nat)(w0:K)(m m2:MS)(y:Xc)(d5 d10 d11:Bool)(v10:iQ)(W:K):Prop where
 bs:M0 g kc km kt ka ks sb r mb c s p w0 (if d5=u then m2 else m) W
 bk:d10=u->∃b,v10=mG (O (Z b 0 U))/\g<b/\mY W b (if d11=u then#[V mP y.id,H y.name,H y.body]else#[V mP 0,H ⟨#[]⟩,H ⟨#[]⟩]) pR
section
variable {g kc km kt ka ks sb r mb:Nat}{c:nU}{s:An}{p:Nat}{w0:K}{m m2:MS}{y:Xc}{d5 d10 d11:Bool}{v10:iQ}{W W':K}
def Yx.call(h:Yx g kc km kt ka ks sb r mb c s p w0 m m2 y M d10 M v10 W)(hg:W.grownBy W' (O mb))(A:o9 W' (O (mb,m2))):Yx g kc km kt ka ks sb r mb c s p w0 m m2 y u d10 M v10 W':=by
 refine⟨h.bs.turn hg A,λhd=> ?_⟩;have⟨b,e1,e2,e3⟩:=h.bk hd;have l:=h.bs.lt;exact⟨b,e1,e2,oV e3 hg λx C=>by cases C;omega⟩
def Yx.made(h:Yx g kc km kt ka ks sb r mb c s p w0 m m2 y d5 M M v10 W):Yx g kc km kt ka ks sb r mb c s p w0 m m2 y d5 u M (mG (O (Z W.heap.size 0 U))) (W.alloc (mM #[V mP 0,H ⟨#[]⟩,H ⟨#[]⟩] pR)):=
 ⟨h.bs.below ((iT W.heap.size W).alloc (iP _) _),λ_=>⟨_,rfl,h.bs.rs.lt,mY.new W _ _⟩⟩
def Yx.put(h:Yx g kc km kt ka ks sb r mb c s p w0 m m2 y u u M (mG (O (Z b 0 U))) W)(A:g<b)(hB:mY W b #[V mP 0,H ⟨#[]⟩,H ⟨#[]⟩] pR):Yx g kc km kt ka ks sb r mb c s p w0 m m2 y u u u (mG (O (Z b 0 U))) (q8 W b (V mP y.id) (H y.name) (H y.body)):=by
 have hb:iR (g+1) W (q8 W b (V mP y.id) (H y.name) (H y.body)):=
  (((iT (g+1) W).setCell (p:=(Z b 0 U)) (by show g+1<=b;omega) _).setCell (p:=(Z b 1 U)) (by show g+1<=b;omega) _).setCell (p:=(Z b 2 U)) (by show g+1<=b;omega) _
 exact⟨h.bs.up1 (iP g) h.bs.rs.lt hb,λ_=>⟨b,rfl,A,oU hB⟩⟩
end
noncomputable def M3:List kC:=cO (cL (cR (cB Tryz.f62)))
section
variable (g kc km kt ka ks sb r mb:Nat)(c:nU)(s:An)(p:Nat)(w0:K)(m m2:MS)(y:Xc)
def E9:Nat->iQ
 |0=> mI #[V X c.fmt,V mQ c.mag,V X c.oL,V X c.pq,V X c.dep,V X c.oo]
 |1=> mG (O (Z mb 0 U))
 |2=> H s
 |3=> V X p
 |4=> H (s.extract p s.size)
 |5=> mJ #[mI #[V mP y.id,H y.name,H y.body],V X y.n,V X y.e]
 |6=> mJ #[mI #[V mP y.id,H y.name,H y.body],V X y.n,V X y.e]
 |7=> mI #[V mP y.id,H y.name,H y.body]
 |8=> V X y.n
 |9=> V X y.e
 |12=> V X y.n
 |13=> V X y.e
 |_=>jw
structure b0f(D:Nat->Bool)(vs:Nat->iQ)(w:K):Prop where
 nP:Yx g kc km kt ka ks sb r mb c s p w0 m m2 y (D 5) (D 10) (D 11) (vs 10) w
 val:∀j,(j !=10)=u->D j=u->vs j=E9 mb c s p y j
variable {g kc km kt ka ks sb r mb c s p w0 m m2 y}
def a6F{id:Nat}(ht0:a0.tmps.getD 0 jw=mG (O (Z kc 0 U)))(ht1:a0.tmps.getD 1 jw=mG (O (Z km 0 U)))(ht2:a0.tmps.getD 2 jw=mG (O (Z kt 0 U)))(ht3:a0.tmps.getD 3 jw=mG (O (Z ka 0 U)))(hp:p<=s.size/\s.size<=100000)(hnext:∀W,o9 W (O (mb,m))->iW iN 63 #[mI #[V X c.fmt,V mQ c.mag,V X c.oL,V X c.pq,V X c.dep,V X c.oo],mG (O (Z mb 0 U)),H (s.extract p s.size)] W λe ah=>W.grownBy ah (O mb)/\o9 ah (O (mb,m2))/\e=mK y.v)(hsz:a0.tmps.size=41)(hI0:∀vs:Nat->iQ,(λw=>Yx g kc km kt ka ks sb r mb c s p w0 m m2 y M M M (vs 10) w) ws.drew)(ai:∀(vs:Nat->iQ) (w:K),Yx g kc km kt ka ks sb r mb c s p w0 m m2 y u u u (vs 10) w->Q .normal {a0 with tmps:=vG a0.tmps [(12,mI #[V X c.fmt,V mQ c.mag,V X c.oL,V X c.pq,V X c.dep,V X c.oo]),(13,mG (O (Z mb 0 U))),(14,H s),(15,V X p),(16,H (s.extract p s.size)),(17,mJ #[mI #[V mP y.id,H y.name,H y.body],V X y.n,V X y.e]),(11,mJ #[mI #[V mP y.id,H y.name,H y.body],V X y.n,V X y.e]),(18,mI #[V mP y.id,H y.name,H y.body]),(19,V X y.n),(20,V X y.e),(7,vs 10),(8,V X y.n),(9,V X y.e)]} w):
  (jZ id M3.toArray u).wp iN Q a0 ws:=by
 refine nJ 14 41 (b0f g kc km kt ka ks sb r mb c s p w0 m m2 y) mZ hsz mZ (.inl rfl) mZ ?_ ?_ ?_;.exact qg
 .refine rR λA aB=> ?_
  clear hI0 ai hsz;replace ht0:=Y ht0;replace ht1:=Y ht1;replace ht2:=Y ht2;replace ht3:=Y ht3;replace hp:=Y hp;replace hnext:=Y hnext;dsimp+instances only[M3,cO,cL,cR,cB,Tryz.f62];simp only[jm,jI,qU];refine⟨?_,?_,?_,?_,?_,?_,?_,?_,?_,?_,?_,?_,?_,?_,trivial⟩<;>(intro D vs a w aq hI hd E N C aa;subst aB;dsimp+instances only[M3,cO,cL,cR,cB,Tryz.f62]);have aL:=(C 0 mX).trans ht0.out;have hB:=hI.nP.bs.cf;have⟨c0,c1,c2,c3,c4,c5⟩:=hB.a6;clear hB;rotate_left;have e1:=(C 1 mX).trans ht1.out;have hB:=hI.nP.bs.mv;have c0:=hB.c0;clear hB;rotate_left;have e2:=(C 2 mX).trans ht2.out;have hB:=hI.nP.bs.tx;have c0:=hB.c0;clear hB;rotate_left;have e3:=(C 3 mX).trans ht3.out;have hB:=hI.nP.bs.at_;have c0:=hB.c0;clear hB;rotate_left;have hp:=hp.out;have aj:=fe C hI.val E 14 2;have ak:=fe C hI.val E 15 3;simp only[E9]at aj ak;obtain⟨aG,aH⟩:=hp;rotate_left
  .have hnext:=hnext.out
   have au:=fe C hI.val E 12 0;have av:=fe C hI.val E 13 1;have ax:=fe C hI.val E 16 4;simp only[E9]at au av ax;have J:=hI.nP;rw[hd,N 11 mX mZ]at J;have aD:=hnext w J.bs.mm;clear hnext;rw[Ax (by rfl)];go_simp;refine aD.mono ?_;rintro e aM ⟨hg,aF,rfl⟩;refine aa (E9 mb c s p y 5) _ _ rfl ⟨?_,uj hI.val⟩;rw[nL,nz D (show 10≠5 by decide),nz D (show 11≠5 by decide),nM vs _ (show 10≠5 by decide),N 11 mX mZ];exact J.call hg aF
  have aI:=fe C hI.val E 17 5;rotate_left;have af:=fe C hI.val E 11 6;rotate_left;have af:=fe C hI.val E 11 6;rotate_left;have af:=fe C hI.val E 11 6;rotate_left
  .have J:=hI.nP
   rw[hd,N 11 mX mZ]at J;go_simp;refine aa (mG (O (Z w.heap.size 0 U))) _ _ rfl ⟨?_,I9 rfl hI.val⟩;rw[nL,nz D (show 5≠10 by decide),nz D (show 11≠10 by decide),o6,N 11 mX mZ];exact J.made
  .have d10:=E 10 mX mZ
   have ay:a.tmps.getD 7 jw=vs 10:=C 7 mX;have az:=fe C hI.val E 18 7;simp only[E9]at az;have J:=hI.nP;rw[hd,E 5 mX mZ,d10]at J;have⟨b,ag,aA,hB⟩:=J.bk rfl;rw[At mX]at hB;rw[ag]at J;have ay:=ay.trans ag;have⟨z0,aN,aO,f0,f1,f2⟩:=KX hB;go_simp;rw[nO];refine aa jw _ _ rfl ⟨?_,uj hI.val⟩;rw[nL,nz D (show 5≠11 by decide),nz D (show 10≠11 by decide),nM vs _ (show 10≠11 by decide),E 5 mX mZ,d10,ag];exact J.put aA hB
  have aJ:=fe C hI.val E 19 8;rotate_left;have aK:=fe C hI.val E 20 9;rotate_left
  all_goals
   try simp only[E9]at*
   go_simp;exact aa _ _ _ rfl ⟨hI.nP,uj hI.val⟩
 .intro D vs w ae hI
  have E:=hI.nP;rw[ae 5 mX]at E;rw[ae 10 mX]at E;rw[ae 11 mX]at E;have q:=ai vs w E;rw[oD hI.val ae];dsimp+instances only[M3,cO,cL,cR,cB,Tryz.f62];exact qf
end
def N4B(g kc km kt ka ks sb r mb:Nat)(c:nU)(s:An)(p:Nat)(w0:K)(m:MS)(fb:Nat)(f:tJ)(W:K):Prop:=M0 g kc km kt ka ks sb r mb c s p w0 m W/\mY W fb #[V mP f.id,H f.name,H f.body] pR
def N4B.up1{s:An}{p:Nat}{fb:Nat}{f:tJ}{A:K}(hg:g<fb)(h:N4B g kc km kt ka ks sb r mb c s p w0 m fb f W)(hl:fb<W.heap.size)(hb:iR (fb+1) W A):N4B g kc km kt ka ks sb r mb c s p w0 m fb f A:=
 ⟨h.1.up1 (cG hg) hl hb,a7 hb h.2 I⟩
noncomputable def M4:List kC:=cO (cL (cR (cR (cR (cB Tryz.f62)))))
section
variable (g kc km kt ka ks sb r mb:Nat)(c:nU)(s:An)(p:Nat)(w0:K)(m:MS)(fb:Nat)(f:tJ)(nm T:An)(li:Bool)(S:List (mW IL))(er:Nat)(Ps:Option j4->Nat->Prop)
def Jp:Nat->iQ
 |0=> mG (O (Z sb 0 U))
 |1=> mG (O (Z sb 0 U))
 |2=> mG (O (Z sb 0 U))
 |3=> mG (O (Z r 0 U))
 |4=> mI #[V mP f.id,H f.name,H f.body]
 |8=> V X (er)
 |11=> V X (er)
 |_=>jw
structure b0g(D:Nat->Bool)(vs:Nat->iQ)(w:K):Prop where
 nP:BF (N4B g kc km kt ka ks sb r mb c s p w0 m fb f) (fb) (λov cv=>#[H nm,H T,mH li,G ov S.length cv]) (er) (zm4) yA (Ps) (S) (D 5) (D 6) (D 7) (D 9) (D 10) (vs 5) (vs 6) (vs 7) (vs 9) w
 val:∀j,(j !=5&&j !=6&&j !=7&&j !=9)=u->D j=u->vs j=Jp sb r f er j
variable {g kc km kt ka ks sb r mb c s p w0 m fb f nm T li S er Ps}
def a6G{id:Nat}(GM:a0.tmps.getD 4 jw=mG (O (Z ks 0 U)))(FY:a0.tmps.getD 7 jw=mG (O (Z fb 0 U)))(hdec:∀W,N4B g kc km kt ka ks sb r mb c s p w0 m fb f W->iW iN 64 #[mG (O (Z r 0 U)),mI #[V mP f.id,H f.name,H f.body]] W λe ah=>∃ov cv,Ps ov cv/\e=mK (mJ #[mI #[H nm,H T,mH li,G ov S.length cv],V X er])/\nC ah (λc=>W.heap.size<=c) (G ov S.length cv) S/\iR W.heap.size W ah)(qP:∀W ah,(N4B g kc km kt ka ks sb r mb c s p w0 m fb f) W->fb<W.heap.size->iR (fb+1) W ah->(N4B g kc km kt ka ks sb r mb c s p w0 m fb f) ah)(hsz:a0.tmps.size=41)(hI0:∀vs:Nat->iQ,(λw=>BF (N4B g kc km kt ka ks sb r mb c s p w0 m fb f) (fb) (λov cv=>#[H nm,H T,mH li,G ov S.length cv]) (er) (zm4) yA (Ps) (S) M M M M M (vs 5) (vs 6) (vs 7) (vs 9) w) ws.drew)(av:∀(vs:Nat->iQ) (w:K),BF (N4B g kc km kt ka ks sb r mb c s p w0 m fb f) (fb) (λov cv=>#[H nm,H T,mH li,G ov S.length cv]) (er) (zm4) yA (Ps) (S) u u u u u (vs 5) (vs 6) (vs 7) (vs 9) w->Q .normal {a0 with tmps:=vG a0.tmps [(26,mG (O (Z sb 0 U))),(27,mG (O (Z sb 0 U))),(28,mG (O (Z sb 0 U))),(29,mG (O (Z r 0 U))),(30,mI #[V mP f.id,H f.name,H f.body]),(31,vs 5),(25,vs 6),(32,vs 7),(33,V X (er)),(10,vs 9),(9,V X (er))]} w):
  (jZ id M4.toArray u).wp iN Q a0 ws:=by
 refine nJ 12 41 (b0g g kc km kt ka ks sb r mb c s p w0 m fb f nm T li S er Ps) mZ hsz mZ (.inl rfl) mZ ?_ ?_ ?_;.exact qg
 .refine rR λA aB=> ?_
  clear hI0 av hsz;replace GM:=Y GM;replace FY:=Y FY;replace hdec:=Y hdec;replace qP:=Y qP;dsimp+instances only[M4,cO,cL,cR,cB,Tryz.f62];simp only[jm,jI,qU];refine⟨?_,?_,?_,?_,?_,?_,?_,?_,?_,?_,?_,?_,trivial⟩<;>(intro D vs a w aq hI hd C E J af;subst aB;dsimp+instances only[M4,cO,cL,cR,cB,Tryz.f62]);have e4:=(J 4 mX).trans GM.out;have hB:=hI.nP.bs.1.sv;have c0:=hB.c0;clear hB;rotate_left;have aL:=fe J hI.val C 26 0;rotate_left;have aM:=fe J hI.val C 27 1;rotate_left;have ax:=fe J hI.val C 28 2;simp only[Jp]at ax;have c0:=hI.nP.bs.1.se.1;rotate_left;have aP:=(J 7 mX).trans FY.out;have hB:=hI.nP.bs.2;have⟨c0,c1,c2⟩:=hB.a3;clear hB;rotate_left
  .have hdec:=hdec.out
   have qP:=qP.out;have ay:=fe J hI.val C 29 3;have az:=fe J hI.val C 30 4;simp only[Jp]at ay az;have aj:D 7=M:=by cases h:D 7 with|false=>rfl|true=>exact absurd (hI.nP.dm h) (by rw[E 6 mX mZ];decide)
   have N:=hI.nP;rw[hd,E 6 mX mZ,aj,E 10 mX mZ]at N;have aD:=hdec w N.bs;clear hdec;rw[Ax (by rfl)];go_simp;refine aD.mono ?_;rintro e aQ ⟨ov,cv,hp,rfl,hs,hb⟩;refine af _ _ _ rfl ⟨?_,I9 rfl hI.val⟩;rw[nL,nz D (show 6≠5 by decide),nz D (show 7≠5 by decide),nz D (show 9≠5 by decide),nz D (show 10≠5 by decide),o6,nM vs _ (show 6≠5 by decide),nM vs _ (show 7≠5 by decide),nM vs _ (show 9≠5 by decide)];rw[E 6 mX mZ,aj,E 10 mX mZ];exact N.call qP hb hp hs
  .have d5:=C 5 mX mZ
   have aN:a.tmps.getD 31 jw=vs 5:=J 31 mX;have N:=hI.nP;rw[hd,d5,E 7 mX mZ,E 10 mX mZ]at N;go_simp;refine af _ _ _ rfl ⟨?_,I9 rfl hI.val⟩;rw[nL,nz D (show 5≠6 by decide),nz D (show 7≠6 by decide),nz D (show 9≠6 by decide),nz D (show 10≠6 by decide),o6,nM vs _ (show 5≠6 by decide),nM vs _ (show 7≠6 by decide),nM vs _ (show 9≠6 by decide)];rw[d5,E 7 mX mZ,E 10 mX mZ];exact N.mv
  .have d6:=C 6 mX mZ
   have ae:a.tmps.getD 25 jw=vs 6:=J 25 mX;have N:=hI.nP;have aa:D 5=u:=hI.nP.done (by rw[d6]);rw[hd,aa,d6,E 10 mX mZ]at N;have⟨ov,cv,ev,ai⟩:=N.ext;try dsimp only at ev ai
   have ae:=ae.trans ev;go_simp;refine af _ _ _ rfl ⟨?_,I9 rfl hI.val⟩;rw[nL,nz D (show 5≠7 by decide),nz D (show 6≠7 by decide),nz D (show 9≠7 by decide),nz D (show 10≠7 by decide),o6,nM vs _ (show 5≠7 by decide),nM vs _ (show 6≠7 by decide),nM vs _ (show 9≠7 by decide)];rw[aa,d6,E 10 mX mZ];exact ai
  .have d6:=C 6 mX mZ
   have ae:a.tmps.getD 25 jw=vs 6:=J 25 mX;have aa:D 5=u:=hI.nP.done (by rw[d6]);have N:=hI.nP;rw[aa,d6]at N;have⟨ov,cv,ev⟩:=N.tup;try dsimp only at ev
   have ae:=ae.trans ev;go_simp;exact af (Jp sb r f er 8) _ _ rfl ⟨hI.nP,uj hI.val⟩
  .have qP:=qP.out
   have N:=hI.nP;rw[hd,E 10 mX mZ]at N;go_simp;refine af (mG (O (Z w.heap.size 0 U))) _ _ rfl ⟨?_,I9 rfl hI.val⟩;rw[nL,nz D (show 5≠9 by decide),nz D (show 6≠9 by decide),nz D (show 7≠9 by decide),nz D (show 10≠9 by decide),o6,nM vs _ (show 5≠9 by decide),nM vs _ (show 6≠9 by decide),nM vs _ (show 7≠9 by decide)];rw[E 10 mX mZ];exact N.made qP
  .have qP:=qP.out
   have d9:=C 9 mX mZ;have ak:a.tmps.getD 10 jw=vs 9:=J 10 mX;have d7:=C 7 mX mZ;have au:a.tmps.getD 32 jw=vs 7:=J 32 mX;have aa:D 5=u:=hI.nP.done (C 6 mX mZ);have N:=hI.nP;rw[hd,aa,C 6 mX mZ,d7,d9]at N;have⟨ov,cv,b,aA,aF,hB,ai⟩:=N.st qP;try dsimp only at aA ai
   have au:=au.trans aA;have ak:=ak.trans aF;have⟨⟨z0,aR,aS,z3⟩,f0,f1,f2,f3⟩:=nR hB;go_simp;rw[uu];refine af jw _ _ rfl ⟨?_,uj hI.val⟩;rw[nL,nz D (show 5≠10 by decide),nz D (show 6≠10 by decide),nz D (show 7≠10 by decide),nz D (show 9≠10 by decide),nM vs _ (show 5≠10 by decide),nM vs _ (show 6≠10 by decide),nM vs _ (show 7≠10 by decide),nM vs _ (show 9≠10 by decide)];rw[aa,C 6 mX mZ,d7,d9];obtain⟨aG,aH,aI,aJ,aK⟩:=zx _ _ _ _ _ _;exact ai _ aG aH aI aJ aK (rT hB)
  have aO:=fe J hI.val C 33 8;rotate_left
  all_goals
   try simp only[Jp]at*
   go_simp;exact af _ _ _ rfl ⟨hI.nP,uj hI.val⟩
 .intro D vs w ag hI
  have C:=hI.nP;rw[ag 5 mX]at C;rw[ag 6 mX]at C;rw[ag 7 mX]at C;rw[ag 9 mX]at C;rw[ag 10 mX]at C;have q:=av vs w C;rw[oD hI.val ag];dsimp+instances only[M4,cO,cL,cR,cB,Tryz.f62];exact qf
end
def Xw{s t:An}(h:vY s=O t):t.size<=s.size:=by
 unfold vY at h;split at h
 .cases h
  have A:=FJ s.data.toList;have C:s.data.toList.length=s.size:=ny;have E:(⟨(jW s.data.toList 0).toArray⟩:An).size=(jW s.data.toList 0).length:=lh;omega
 .cases h
def a8F(A:Except Nat JY)(n:Nat)(aw:Option (Nat×MS)):Except Nat (JY×Nat)×Option (Nat×MS):=match A with
 | .error er=>(.error er,aw)
 | .ok m=>(.ok (m,n),aw)
def a5i(c:nU)(rows:List Row)(A:Except Nat (tJ×Nat)×Option (Nat×MS)):Except Nat (JY×Nat)×Option (Nat×MS):=match A with
 |(.error er,m2)=>(.error er,m2)
 |(.ok y,m2)=>a8F (tN c rows y.1) y.2 m2
def a3Q(c:nU)(rows:List Row)(s:An)(mt:Option (Nat×MS)):tu c rows s mt=a5i c rows (oG c s mt):=rfl
def a0y{s:An}{mt:Option (Nat×MS)}{y:tJ×Nat}(h:(oG c s mt).1=.ok y):y.1.name.size<=jd/\y.1.id<18446744073709551616:=by
 have hp:∀{most:Int},(nT most s).e=0->(nT most s).id<18446744073709551616:=by
  intro most h;unfold nT at*;split
  .rename_i h0
   rw[Ax h0]at h;split;.show(0:Nat)<_;decide
   .rename_i C
    rw[At C]at h;dsimp only at*;split
    .rename_i A
     dsimp only;generalize E:nD _ 0 0=q at*;obtain⟨a,b,e⟩:=q;dsimp only at A|-;subst A;exact(rD E).2.1
    .show(0:Nat)<_;decide
  .show(0:Nat)<_;decide
 unfold oG at h;split at h
 .dsimp only at h
  unfold qp at h;split at h
  .cases h
   refine⟨?_,by show(0:Nat)<_;decide⟩;show(uM s).size<=jd;unfold uM;cases hg:vY (s.extract 4 16)with
   |none=>decide
   |some t=>
    have:=Xw hg;simp only[iV]at this;show t.size<=jd;unfold jd;omega
  .cases h
 .split at h
  .dsimp only at h
   unfold wo at h;split at h;.cases h
   .rename_i h0
    cases h;exact⟨jB _,hp (by simpa using h0)⟩
  .unfold qA at h
   split at h;.cases h
   .rename_i h0
    split at h;.cases h
    .cases h
     exact⟨jB _,hp (by simpa using h0)⟩
def pY.lt3(h:pY r bn bi c L w):r<w.heap.size/\bn<w.heap.size/\bi<w.heap.size:=⟨h.rg.lt,h.nm.lt,h.id.lt⟩
def M5{s:An}{p:Nat}{a b e d:iQ}(h:M0 g kc km kt ka ks sb r mb c s p w0 m W):
  o9 (zt W g a b e d) (O (mb,m))/\mY (zt W g a b e d) ka #[V X p] InT/\oC ka mb w0 (zt W g a b e d)/\∀(v:iQ)(S:List (mW IL)),(nC W (λc=>g<c) v S)->nC (zt W g a b e d) (λc=>w0.heap.size<=c) v S:=by
 have⟨A,C,E,J,N⟩:=zx W g a b e d;have l:=h.lt;have q:∀{n:Nat}{cs:Array iQ}{t:jl},mY W n cs t->n≠g->mY (zt W g a b e d) n cs t:=λhB hn=>by unfold mY at*;rw[A _ hn];exact hB
 refine⟨⟨q h.mm.1 I,h.mm.2⟩,q h.at_ I,⟨E.trans h.up.os,J.trans h.up.tape,N.trans h.up.output,by rw[C];exact h.up.size,λk hk aa ae=>(A k I).trans (h.up.block k hk aa ae)⟩,λv S hs=> ?_⟩;exact Shape.nA.keep hs (kP C.symm) (λc _ hc=>by show w0.heap.size<=c;have:g<c:=hc;omega) λc _ hc=>A c (by have:g<c:=hc;omega)
structure NxE(kc km kt ka ks sb r mb:Nat)(c:nU)(s:An)(p:Nat)(m:MS)(W:K):Prop where
 cf:mY W kc #[V X c.fmt,V mQ c.mag,V X c.oL,V X c.pq,V X c.dep,V X c.oo] rG
 mv:mY W km #[mG (O (Z mb 0 U))] MtT
 tx:mY W kt #[H s] QN
 at_:mY W ka #[V X p] InT
 sv:mY W ks #[mG (O (Z sb 0 U))] Sr
 se:W.cell? (Z sb 0 U)=O (mG (O (Z r 0 U)))/\sb<W.heap.size
 mm:o9 W (O (mb,m))
 ne:kc≠mb/\km≠mb/\kt≠mb/\ka≠mb/\ks≠mb/\sb≠mb/\kc≠ka/\km≠ka/\kt≠ka/\ks≠ka/\sb≠ka
def sj(aE:Except Nat (JY×Nat)):Except Nat JY:=match aE with| .error er=> .error er| .ok y=> .ok y.1
def goR(p:Nat)(aE:Except Nat (JY×Nat)):Nat:=match aE with| .error _=>p| .ok y=>p+y.2
def Jq(ka mb p:Nat)(aE:Except Nat (JY×Nat)×Option (Nat×MS))(w:K)(e:kV)(w':K):Prop:=
 ∃ov cv,((∃er,sj aE.1=.error er)->ov=U/\cv=0)/\e=mK (mJ #[mI #[H (mN (sj aE.1)),H (mT (sj aE.1)),mH (mL (sj aE.1)),G ov (mS (sj aE.1)).length cv],V X (mE (sj aE.1):Nat)])/\
  nC w' (λc=>w.heap.size<=c) (G ov (mS (sj aE.1)).length cv) (mS (sj aE.1))/\o9 w' aE.2/\mY w' ka #[V X (goR p aE.1)] InT/\oC ka mb w w'
def M0.atp{s:An}{p:Nat}(h:M0 g kc km kt ka ks sb r mb c s p w0 m W)(q:Nat):M0 g kc km kt ka ks sb r mb c s q w0 m (W.setCell (Z ka 0 U) (V X q)):=by
 have l:=h.lt;have n:=h.ne;have e:=h.se;have o:∀{b:Nat}{cs:Array iQ}{t:jl},mY W b cs t->b≠ka->mY (W.setCell (Z ka 0 U) (V X q)) b cs t:=λhB hn=>hB.setOther (a:=(Z ka 0 U)) hn _
 refine⟨o h.cf I,o h.mv I,o h.tx I,h.at_.set 0 _,o h.sv I,⟨?_,e.2⟩,⟨o h.mm.1 I,h.mm.2⟩,o h.rs I,h.up.BU 0 _,h.ne,h.lt⟩;have hb:=jh W (Z ka 0 U) (V X q) sb (by show sb≠ka;omega);simp only[lV,hb];exact e.1
def a0z(kc km kt ka ks sb r mb bn bi:Nat)(c:nU)(L:List oJ)(s:An)(p:Nat)(m:MS)(w:K)(h:NxE kc km kt ka ks sb r mb c s p m w)(hc:nV c=u)(bq:c.wf)(hp:p<=s.size/\s.size<=100000)(bI:∀W,oC ka mb w W->pY r bn bi c L W/\qB W/\BC W):
  iW iN 62 #[mG (O (Z kc 0 U)),mG (O (Z km 0 U)),mG (O (Z kt 0 U)),mG (O (Z ka 0 U)),mG (O (Z ks 0 U))] w (Jq ka mb p (tu c (L.map λx=>x.r) (s.extract p s.size) (O (mb,m))) w):=by
 obtain⟨g,hg⟩:=o7 w;have bu:(s.extract p s.size).size<=100000:=by simp only[iV];omega
 have bV:(s.extract p s.size).size<=jd:=jk bu mX;have hrow:=Ag c (s.extract p s.size) (O (mb,m));have⟨ai,af⟩:=nE (oG c (s.extract p s.size) (O (mb,m)));have hok:∀y,ai.1=.ok y->0<y.2/\y.2<=(s.extract p s.size).size/\y.1.body.size<=100000/\y.1.name.size<=jd/\y.1.id<18446744073709551616:=λy hy=>by
  rw[<-af]at hy;have ag:=yK hc bu hy;have aX:=a0y hy;exact⟨ag.1,ag.2.1,ag.2.2,aX.1,aX.2⟩
 have bW:∀er,ai.1=.error er->1<=er:=λer he=>Bd c (s.extract p s.size) (O (mb,m)) er (af▸he)
 have bX:∀W,o9 W (O (mb,m))->iW iN 63 #[mI #[V X c.fmt,V mQ c.mag,V X c.oL,V X c.pq,V X c.dep,V X c.oo],mG (O (Z mb 0 U)),H (s.extract p s.size)] W λe w'=>W.grownBy w' (O mb)/\o9 w' ai.2/\e=mK (nxv ai.1).v:=λW dL=>by
  have:=Xd c (s.extract p s.size) (O (mb,m)) W bV hc bq dL;rw[af]at this;exact this
 have bz:tu c (L.map λx=>x.r) (s.extract p s.size) (O (mb,m))=a5i c (L.map λx=>x.r) ai:=by rw[a3Q,af]
 rw[af]at hrow;obtain⟨bY,bZ⟩:=ai;obtain⟨m2,rfl⟩:∃m2,bZ=O (mb,m2):=by
  cases bZ with
  |none=>cases hrow
  |some q=>obtain⟨aY,au⟩:=q;cases hrow;exact⟨au,rfl⟩
 dsimp only at*;have cz:R (∀W,w.alloc (mM #[H ⟨#[]⟩,H ⟨#[]⟩,mH M,G U 0 0] yA)=W->M0 g kc km kt ka ks sb r mb c s p w m W):=Y λW bJ=>by
  subst bJ;have a:=(iT w.heap.size w).alloc (iP _) (mM zm4 yA);have q:∀{n:Nat}{cs:Array iQ}{t:jl},mY w n cs t->mY (w.alloc (mM zm4 yA)) n cs t:=λhB=>a7 a hB hB.lt
  have lt:∀{n:Nat}{cs:Array iQ}{t:jl},mY w n cs t->n<g:=λhB=>hg▸hB.lt
  exact⟨q h.cf,q h.mv,q h.tx,q h.at_,q h.sv,⟨(a.cell (p:=(Z sb 0 U)) h.se.2).trans h.se.1,hg▸h.se.2⟩,⟨q h.mm.1,h.mm.2⟩,hg▸mY.new w _ _,oC.of a,h.ne,⟨lt h.cf,lt h.mv,lt h.tx,lt h.at_,lt h.sv,lt h.mm.1,hg⟩⟩
 have av:=Y bI;have bK:=Y (iU hc bq);have cK:=Y bX;have bA:=Y hok;have bB:=Y bW;have⟨cZ,df⟩:=nE (tu c (L.map λx=>x.r) (s.extract p s.size) (O (mb,m)));rw[df]at bz|-;have ax:=Y bz;have⟨dM,dh⟩:=nE (Jq ka mb p cZ w);have bL:=Y dh;rw[dh];have⟨y,hy⟩:=nE (nxv bY);rw[hy]at cK;have bM:=Y hy;go_in;go_upto_region 1 with fail;have dw:=cz.out _ rfl;generalize w.alloc _=w1 at*;have dx:=Y dw;refine a6F (g:=g) (kc:=kc) (km:=km) (kt:=kt) (ka:=ka) (ks:=ks) (sb:=sb) (r:=r) (mb:=mb) (c:=c) (s:=s) (p:=p) (w0:=w) (m:=m) (m2:=m2) (y:=y) (ht0:=by rfl) (ht1:=by rfl) (ht2:=by rfl) (ht3:=by rfl) (hsz:=by rfl) (hp:=hp) (hnext:=cK.out) (hI0:=λ_=>⟨dx.drew,(λh=>by cases h)⟩) ?_;intro vs W hF;have⟨fb,dz,dA,hB⟩:=hF.bk rfl;have bC:=hF.bs;simp only[cH]at hB bC;rw[dz];have ay:=Y bC;have aZ:=Y hB;simp only[vG,iX,jg,jf];cases bY with
 |error er=>
  obtain rfl:y=⟨0,⟨#[]⟩,⟨#[]⟩,0,er⟩:=bM.symm;have dO:=bB.out er rfl;have t0:((er:Int) !=0)=u:=nk;have bg:=ax;have⟨⟨bN,bO,bP,bQ⟩,bR,aY,au,bS⟩:=nR ay.rs;dsimp only;go_wp2_with fail;rw[uu];have⟨⟨az,aA,aB,aD⟩,_⟩:=nR (rT (a:=H ⟨#[]⟩) (b:=H ⟨#[]⟩) (c:=mH M) (d:=G U 0 0) ay.rs);have A:=M5 (a:=H ⟨#[]⟩) (b:=H ⟨#[]⟩) (e:=mH M) (d:=G U 0 0) ay.out;refine iY (v:=mJ #[mI #[H ⟨#[]⟩,H ⟨#[]⟩,mH M,G U 0 0],V X (er:Nat)]) (by simp[jv,Tryz.results62,go_sem,az,aA,aB,aD]) rfl ?_;rw[<-bL.out,bg.out];exact⟨U,0,λ_=>⟨rfl,rfl⟩,rfl,wz _ _,A.1,A.2.1,A.2.2.1⟩
 |ok z=>
  obtain⟨⟨aj,fn,aa⟩,n⟩:=z;obtain rfl:y=⟨aj,fn,aa,n,0⟩:=bM.symm;have⟨aF,aG,aH,J,hid⟩:=bA.out _ rfl;dsimp only at aF aG aH J hid|-;have bD:p+n<=s.size:=by simp only[iV]at aG;omega
  have⟨C,ah⟩:∃C,tN c (L.map λx=>x.r) ⟨aj,fn,aa⟩=C:=⟨_,rfl⟩;have bg:R (cZ=a8F C n (O (mb,m2))):=Y (by rw[<-ah];exact ax);have aI:∀er,C=.error er->er≠0:=λer he=>by
   rw[<-ah]at he;unfold tN at he;split at he;.cases he;decide
   .split at he
    .rename_i e1 ag
     have:=Jo ag;cases he;split<;>omega
    .cases he
  have bT:=Y aI;have hdec:∀W,N4B g kc km kt ka ks sb r mb c s p w m2 fb ⟨aj,fn,aa⟩ W->iW iN 64 #[mG (O (Z r 0 U)),mI #[V mP aj,H fn,H aa]] W (a3O C W):=λW bJ=>by
   have⟨ag,aX,dN⟩:=av.out W bJ.1.up;have hb:=ag.lt3;rw[<-ah];exact Sq r bn bi c L ⟨aj,fn,aa⟩ W ag bK.1 bK.2 aX dN J hid aH hb
  have ae:=Y hdec;clear hdec aI ah ax bA bB bM aH J hid aG bK av;have⟨nm,J⟩:=nE (mN C);have⟨T,aJ⟩:=nE (mT C);have⟨li,aK⟩:=nE (mL C);have⟨S,bU⟩:=nE (mS C);have⟨er,aL⟩:=nE (mE C);unfold a3O at ae;rw[J,aJ,aK,bU,aL]at ae;have aM:=Y (iU J (iU aJ (iU aK (iU bU aL))));clear J aJ aK bU aL;go_upto_region 4 with fail;refine a6G (g:=g) (kc:=kc) (km:=km) (kt:=kt) (ka:=ka) (ks:=ks) (sb:=sb) (r:=r) (mb:=mb) (c:=c) (s:=s) (p:=p) (w0:=w) (m:=m2) (fb:=fb) (f:=⟨aj,fn,aa⟩) (nm:=nm) (T:=T) (li:=li) (S:=S) (er:=er) (Ps:=λov cv=>(∃er,C=.error er)->ov=U/\cv=0) (GM:=by rfl) (FY:=by rfl) (hsz:=by rfl) (hdec:=ae.out) (qP:=λW dP h=>h.up1 dA) (hI0:=λ_=>BF.ini ⟨ay.drew,a7 (nN _) aZ aZ.lt⟩ aZ.lt) ?_;intro vs ak aN;have⟨ov,cv,b,bE,e5,dB,dD,dE,bF,aO,aP⟩:=BF.fin aN;rw[e5,dB,dD,dE];have E:=Y aN.bs.1;have N:=Y (iU bE (iU bF aP));have⟨⟨b0,b1,dF,b3⟩,_⟩:=nR aO;have dG:=Y aO;simp only[vG,iX,jg,jf];clear aN bE bF aO aP e5 dB dD dE ay aZ ae;have⟨sn,aQ⟩:=nE S.length;rw[aQ]at b3 dG N|-;have bG:=Y aQ;clear aQ;have⟨c3,f3⟩:=E.at_.b1;have⟨⟨bN,bO,bP,bQ⟩,bR,aY,au,bS⟩:=nR E.rs;by_cases h0:er=0
  .subst h0
   obtain⟨mm,rfl⟩:∃mm,C=.ok mm:=by
    cases C with
    |error e1=>exact absurd aM.2.2.2.2 (bT e1 rfl)
    |ok mm=>exact⟨mm,rfl⟩
   have dH:IntKind.i64.wrap ((p:Int)+(n:Int))=((p+n:Nat):Int):=by rw[IntWalk.i64_in _ I];simp
   have⟨aR,aS⟩:=nE (p+n);rw[aS]at dH;have dI:=Y aS;clear aS aF bD;go_upto_region 7 with fail;have bH:=E.atp aR;have aU:∀i,(ak.setCell (Z ka 0 U) (V X (aR:Nat))).cell? (Z b i U)=ak.cell? (Z b i U):=λi=>by
    have hb:=jh ak (Z ka 0 U) (V X (aR:Nat)) b (by have:=N.2.1;have:=E.lt;show b≠ka;omega);simp only[lV,hb]
   have dQ:=(aU 0).trans b0;have dR:=(aU 1).trans b1;have dS:=(aU 2).trans dF;have dU:=(aU 3).trans b3;have dJ:R (nC (ak.setCell (Z ka 0 U) (V X (aR:Nat))) (λc=>g<c) (G ov sn cv) S):=Y (Shape.nA.keep N.2.2 (by simp[jr]) (λc _ hc=>by have:=hc.1;omega) λc _ hc=>jh ak (Z ka 0 U) (V X (aR:Nat)) c (by have:=hc.1;have:=E.lt;show c≠ka;omega));generalize ak.setCell _ _=dV at*;have aV:=Y bH;clear bH aU b0 b1 dF b3 bN bO bP bQ bR aY au bS c3 f3 E;have⟨⟨bN,bO,bP,bQ⟩,bR,aY,au,bS⟩:=nR aV.rs;go_wp2_with fail;rw[uu];have⟨⟨az,aA,aB,aD⟩,_⟩:=nR (rT (a:=H nm) (b:=H T) (c:=mH li) (d:=G ov sn cv) aV.rs);have A:=M5 (a:=H nm) (b:=H T) (e:=mH li) (d:=G ov sn cv) aV.out;refine iY (v:=mJ #[mI #[H nm,H T,mH li,G ov sn cv],V X 0]) (by simp[jv,Tryz.results62,go_sem,az,aA,aB,aD]) rfl ?_;have⟨g1,g2,g3,g4,_⟩:=aM.out;have hs:=A.2.2.2 _ _ dJ.out;rw[<-bL.out,bg.out];have aW:=bG.out;subst g1 g2 g3 g4 aW;exact⟨ov,cv,(λ⟨_,h⟩=>by cases h),rfl,hs,A.1,by show mY _ ka #[V X ((p+n:Nat):Int)] InT;rw[dI.out];exact A.2.1,A.2.2.1⟩
  .have t0:((er:Int)==0)=M:=nk
   have dK:C=.error er:=by
    cases C with
    |error e1=>rw[<-aM.2.2.2.2];rfl
    |ok mm=>exact absurd aM.2.2.2.2.symm h0
   subst dK;clear h0 aF bD c3 f3;go_wp2_with fail;rw[uu];have⟨⟨az,aA,aB,aD⟩,_⟩:=nR (rT (a:=H nm) (b:=H T) (c:=mH li) (d:=G ov sn cv) E.rs);have A:=M5 (a:=H nm) (b:=H T) (e:=mH li) (d:=G ov sn cv) E.out;refine iY (v:=mJ #[mI #[H nm,H T,mH li,G ov sn cv],V X (er:Nat)]) (by simp[jv,Tryz.results62,go_sem,az,aA,aB,aD]) rfl ?_;have⟨g1,g2,g3,g4,_⟩:=aM.out;have hs:=A.2.2.2 _ _ (Shape.nA.keep N.2.2 (iP _) (λc _ hc=>by have:=hc.1;omega) λ_ _ _=>rfl);rw[<-bL.out,bg.out];have aW:=bG.out;subst g1 g2 g3 g4 aW;exact⟨ov,cv,λ_=>N.1 ⟨er,rfl⟩,rfl,hs,A.1,A.2.1,A.2.2.1⟩
def nS.blk{v:iQ}(h:nS w B e v l):∀b,v.ownBlock=O b->B<=b/\b<w.heap.size:=by
 rcases h.2 with⟨rfl,_⟩|⟨g,cap,A,rfl,hb,hg,_⟩
 .intro b h;cases h
 .intro b h;cases h;exact⟨hb,(jE.1 hg).1⟩
def nS.form{v:iQ}(h:nS w B e v l):∃oa cap,v=G oa l.length cap:=by
 rcases h.2 with⟨rfl,h0⟩|⟨g,cap,A,rfl,_⟩
 .exact⟨U,0,by rw[h0]⟩
 .exact⟨_,cap,rfl⟩
def nS.low{B':Nat}{v:iQ}(h:nS w B' e v l)(hB:B<=B'):nS w B e v l:=
 ⟨h.1,h.2.imp id λ⟨g,cap,A,e1,e2,r⟩=>⟨g,cap,A,e1,jk hB e2,r⟩⟩
def FrV(w:K)(v v':iQ):Prop:=∀b,v'.ownBlock=O b->v.ownBlock=O b\/w.heap.size<=b
def a6H:(Tryz.prog.info? xw).map (λi=>(i.zero,i.size,i.bytes))=O (O (V .u8 0),1,1):=mZ
def P8(B:Nat)(v:iQ)(l:List AC)(w:K)(h:nS w B xw v l)(hl:l.length<=100000):
  iW iN 94 #[v] w λe w'=>∃v',e=mK v'/\nS w' w.heap.size xw v' l/\iR w.heap.size w w'/\(∃oa cap,v'=G oa l.length cap):=by
 have aA:∀(w:K)(a:Option j4)(n c aa ae:Nat),(binOp .eql Yr (.slice a n c) (.slice U aa ae)).run iN w=.ok (.bool a.isNone) w:=λw a n c aa ae=>Lib.run_eql_slice_nil w _ _ a n c aa ae kQ
 have⟨au,hi,ah,ai,aj⟩:=info_parts a6H;rcases h.2 with⟨rfl,h0⟩|⟨g,cap,aB,rfl,hb,hg,av,aD,hsz,htake⟩
 .have:l=[]:=j5.1 h0
  subst this;go_in;go_wp2;go_returns;exact⟨_,rfl,nS.nil _ _ _,iT _ _,U,0,rfl⟩
 .have C:=λj (E:j<l.length)=>World.ownsRow.cells h (g:=g) rfl j (V .u8 (l[j].toNat:Int)) (by simp[nI,ja E])
  have ax:=Y C;have ak:=Y hl;go_in;go_wp2_with (at_builtin;refine wpList_append_own _ rfl _ _ Yr rfl w.heap.size xw au (.int .u8 0) 1 1 kQ hi ah ai aj rfl mX _ _ _ rfl (World.ownsRow_made w #[] 0 (iP _) (jB _) rfl) (Z g 0 U) l.length cap (nI l) rfl ?qc1 ?qc2 ?qc3 ?qc4 ?qc5 ?qc6 ?_);case qc1=>simp
  case qc2=>
   intro j ar E;have N:j<l.length:=by
    have:=(jU.1 E).1;simpa using this
   rw[Addr.add_lit];refine Lib.cell?_alloc_some _ ?_;have:=ax.out j N;rw[Addr.add_lit]at this;rw[this];have e:(nI l)[j]? =O (V .u8 (l[j].toNat:Int)):=by simp[nI,ja N]
   rw[e]at E;exact E
  case qc3=>exact vH l
  case qc4=>have:=ak.out;unfold jd;omega
  case qc5=>have:=ak.out;omega
  case qc6=>simp
  intro v' w1 af J ay;go_wp2;go_returns;have A:=af;refine⟨v',rfl,A,((iT _ w).alloc (iP _) _).grown J ny (by intro k hk;simp[jK]at hk;omega),?_⟩
  .rcases A.2 with⟨rfl,h0⟩|⟨aF,ag,az,e1,_⟩
   .exact⟨U,0,by rw[h0]⟩
   .exact⟨_,ag,e1⟩
def P9{A:Array iQ}(hb:B<=g)(hg:w.heap[g]? =O (mM A xw (0,0)))(E:l.length<=cap)(J:cap<=jd)(hsz:A.size=cap)(hn:n<=l.length):
  nS (w.setRow g (A.toList.take 0++(nI (l.drop n)++A.toList.drop (0+(nI (l.drop n)).length))).toArray) B xw (G (O (Z g 0 U)) (l.length - n) cap) (l.drop n)/\w.grownBy (w.setRow g (A.toList.take 0++(nI (l.drop n)++A.toList.drop (0+(nI (l.drop n)).length))).toArray) (O g):=by
 have hlen:(l.drop n).length=l.length - n:=jP;refine⟨⟨ny,.inr ⟨g,cap,_,by rw[hlen],hb,setRow_heap w g A _ xw _ hg,I,J,?_,?_⟩⟩,⟨rfl,rfl,rfl,by simp[World.setRow],λi _ C=>setRow_other w g i _ (λe=>C (by rw[e]))⟩⟩;.simp[hsz];omega
 .simp
def a0A(h:p:=by
 go_in;go_wp2_with (with_reducible refine wpList_copy_nothing rfl (.tmp 7) (.tmp 10) Yr Yr rfl xw kQ mZ _ _ _ _ _ _ rfl rfl (by simp[Nat.min_def]) ?_)
 .refine(CC.out _ _ HOWN.out).mono ?_
  rintro e w2 ⟨v',rfl,ho,hb2,hf⟩;go_wp2;go_returns;exact⟨v',rfl,ho.low HB.out.1,oP hb2,λb hb=> .inr (nS.blk ho b hb).1,hf⟩
 .go_returns
  exact⟨_,rfl,HOWN.out,oP (iT _ _),λ_ h=> .inl h,_,_,rfl⟩):p:=h
def a0B(B:Nat)(v:iQ)(l:List AC)(n:Nat)(w:K)(h:nS w B xw v l)(hn:n<=l.length)(hl:l.length<=100000)(hB:B<=w.heap.size):
  iW iN 66 #[v,V X n] w λe w'=>∃v',e=mK v'/\nS w' B xw v' (l.drop n)/\w.grownBy w' v.ownBlock/\FrV w v v'/\(∃oa cap,v'=G oa (l.drop n).length cap):=by
 rcases h.2 with⟨rfl,h0⟩|⟨g,cap,ae,rfl,hb,hg,E,av,hsz,htake⟩
 .have:l=[]:=j5.1 h0
  subst this;obtain rfl:n=0:=by simpa using hn
  go_in;go_wp2_with (with_reducible refine wpList_copy_nothing rfl (.tmp 7) (.tmp 10) Yr Yr rfl xw kQ mZ U U 0 0 0 0 rfl rfl rfl ?_);go_returns;exact⟨_,rfl,nS.nil _ _ _,⟨rfl,rfl,rfl,iP _,λ_ _ _=>rfl⟩,λ_ h=> .inl h,U,0,rfl⟩
 .have hlen:(l.drop n).length=l.length - n:=jP
  have A:=Y (P9 (n:=n) hb hg E av (by simpa using hsz) hn);have CC:=Y (λ(W:K) (v':iQ) (h:nS W B xw v' (l.drop n))=>P8 B v' (l.drop n) W h I);have aB:=Y hlen;have HB:=Y (iU hB (iU hb (jE.1 hg).1));have⟨N,aj⟩:=nE l.length;have aG:cap<=9223372036854775807:=by unfold jd at av;omega
  have C:=λj (ak:j<l.length)=>World.ownsRow.cells h (g:=g) rfl j (V .u8 (l[j].toNat:Int)) (by simp[nI,ja ak])
  by_cases ay:n=l.length
  .
   subst ay;have hd:l.drop l.length=[]:=List.drop_length;have HOWN:R (nS w B xw (G (O (Z g 0 U)) 0 cap) []):=Y ⟨rfl,.inr ⟨g,cap,ae,rfl,hb,hg,jB _,av,hsz,by simp[nI]⟩⟩;rw[hd]at CC|-;clear A C h hg htake hsz hb;rw[aj]at E hl|-;by_cases hc:N=cap
   .subst hc
    exact a0A
   .have aH:N<cap:=I
    exact a0A
  .have az:n<l.length:=I
   have af:∀j v,(nI (l.drop n))[j]? =O v->w.cell? (((Z g n U):j4).add j)=O v:=λj v ak=>by
    have aI:j<(l.drop n).length:=by
     have:=(jU.1 ak).1;simpa using this
    have J:=C (n+j) I;rw[Addr.add_lit]at J|-;rw[mg]at J;rw[J,<-ak];simp[nI,ja (show n+j<l.length by omega)]
   have⟨aw,ax⟩:=nE (l.length - n);have aa:(nI (l.drop n)).length=aw:=by rw[rC,hlen,ax]
   have ag:(nI (l.drop n)).length=Nat.min (N - n) N:=by rw[aa,<-ax,aj];simp[Nat.min_def]
   have ah:0+(nI (l.drop n)).length<=ae.size:=by rw[aa];omega
   have au:=Y (iU hg (iU af (iU ag ah)));rw[<-hlen]at A;simp only[jI,cW,mg,rC]at A;have aD:(l.drop n).length<=cap:=I;have aF:(l.drop n).length<=100000:=I;have aJ:n<cap:=I;have aK:n<=N:=I;clear C af ag ah aa hlen aB az h hg htake hsz hb ax;rw[aj]at E hl|-;clear aj hn ay;generalize aL:l.drop n=aA at*;go_in;go_wp2_with (with_reducible refine wpList_copy_own rfl (.tmp 7) (.tmp 10) Yr Yr rfl xw kQ mZ g 0 N cap (Z g n U) (N - n) (cap - n) rfl rfl ae xw au.out.1 (nI aA) au.out.2.2.1 au.out.2.1 au.out.2.2.2 (vH aA) ?_)
   .have⟨J,ai⟩:=A.out
    refine(CC.out _ _ J).mono ?_;rintro e w2 ⟨v',rfl,ho,hb2,hf⟩;go_wp2;go_returns;exact⟨v',rfl,ho.low (jk HB.out.1 ai.size),pJ ai (oP hb2),λb hb=> .inr (jk ai.size (nS.blk ho b hb).1),hf⟩
   .have⟨J,ai⟩:=A.out
    go_returns;exact⟨_,rfl,J,ai,λ_ h=> .inl h,_,_,rfl⟩
abbrev MlT:jl:=35
structure G7 where
 m:JY
 ov:Option j4
 cv:Nat
def G7.ar(y:G7):iQ:=G y.ov y.m.val.sub.length y.cv
def mcl(y:G7):List iQ:=[H y.m.name,H (txt y.m.val.lab),mH y.m.val.lab.list,y.ar]
def Vf(y:G7):(mcl y).length=4:=rfl
def a0C:yN iN MlT yA 4:=⟨Tryz.underlying35,⟨.agg #[.string ⟨#[]⟩,.string ⟨#[]⟩,.bool M,.slice U 0 0],64,by
 have⟨i,A,C,E,J⟩:=info_parts (show(Tryz.prog.info? yA).map (λi=>(i.zero,i.size,i.bytes))=O (O (mI #[H ⟨#[]⟩,H ⟨#[]⟩,mH M,G U 0 0]),4,64)by kernel_rfl);exact⟨i,A,C,E,J,mX,rfl⟩⟩,mX⟩
def qi(w:K)(Q:Nat->Prop)(v:iQ)(L:List G7):Prop:=
 pz mcl 4 w 0 yA v L/\(∀b,v.ownBlock=O b->Q b)/\∀y,y∈L->nC w (λc=>Q c/\v.ownBlock≠O c) y.ar y.m.val.sub
def qi.nil(w:K)(Q:Nat->Prop):qi w Q (G U 0 0) []:=⟨pz.nil w 0 yA,λb h=>by simp[jK]at h,λy h=>by cases h⟩
def qi.slice{Q:Nat->Prop}{v:iQ}{L:List G7}(h:qi w Q v L):∃oa cap,v=G oa L.length cap:=h.1.slice
def qi.keep{w w':K}{Q Q':Nat->Prop}{v:iQ}{L:List G7}(h:qi w Q v L)(hs:w.heap.size<=w'.heap.size)(hk:∀c,c<w.heap.size->Q c->w'.heap[c]? =w.heap[c]?)(C:∀c,c<w.heap.size->Q c->Q' c):qi w' Q' v L:=by
 refine⟨h.1.keep λb hb=>hk b (h.1.block b hb).2.1 (h.2.1 b hb),λb hb=>C b (h.1.block b hb).2.1 (h.2.1 b hb),λy hy=> ?_⟩;exact Shape.nA.keep (h.2.2 y hy) hs (λc hc A=>⟨C c hc A.1,A.2⟩) λc hc A=>hk c hc A.1
def eJ:=@qi.keep
def qi.push{w1:K}{Q E:Nat->Prop}{v:iQ}{L:List G7}{x:G7}(h:qi w Q v L)(hrow:pz mcl 4 w1 0 yA (G (O (Z g 0 U)) (L.length+1) cap) (L++[x]))(hg:w.grownBy w1 v.ownBlock)(A:v.ownBlock=O g\/w.heap.size<=g)(N:nC w E x.ar x.m.val.sub)(hxv:∀c,E c->v.ownBlock≠O c):
  qi w1 (λc=>Q c\/E c\/c=g) (G (O (Z g 0 U)) (L.length+1) cap) (L++[x]):=by
 have hgn:∀c,c<w.heap.size->v.ownBlock≠O c->c≠g:=λc hc J e=>by
  rcases A with A|A
  .exact J (by rw[A,e])
  .omega
 have C:∀c,c<w.heap.size->v.ownBlock≠O c->w1.heap[c]? =w.heap[c]? :=λc hc J=>hg.block c hc (λe=>J e.symm)
 refine⟨hrow,λb hb=> ?_,λy hy=> ?_⟩
 .simp[jK]at hb
  exact .inr (.inr hb.symm)
 .rcases List.mem_append.1 hy with hy|hy
  .refine Shape.nA.keep (h.2.2 y hy) hg.size (λc hc hq=>⟨.inl hq.1,?_⟩) λc hc hq=>C c hc hq.2
   intro e;simp[jK]at e;exact hgn c hc hq.2 e.symm
  .simp at hy
   subst hy;refine Shape.nA.keep N hg.size (λc hc hq=>⟨.inr (.inl hq),?_⟩) λc hc hq=>C c hc (hxv c hq)
   exact MK
structure rF(F:Nat->Prop)(w w':K):Prop where
 os:w'.os=w.os
 tape:w'.tape=w.tape
 output:w'.output=w.output
 size:w.heap.size<=w'.heap.size
 block:∀k,k<w.heap.size->¬F k->w'.heap[k]? =w.heap[k]?
section
variable {F F':Nat->Prop}{ar w w':K}
def rF.refl(F:Nat->Prop)(w:K):rF F w w:=⟨rfl,rfl,rfl,iP _,λ_ _ _=>rfl⟩
def rF.trans(h:rF F ar w)(k:rF F' w w')(hF:∀c,c<ar.heap.size->F' c->F c):rF F ar w':=
 ⟨k.os.trans h.os,k.tape.trans h.tape,k.output.trans h.output,jk h.size k.size,λi hi hn=>(k.block i (jy hi h.size) λA=>hn (hF i hi A)).trans (h.block i hi hn)⟩
def rF.of(h:iR w.heap.size w w'):rF F w w':=⟨h.os,h.tape,h.output,h.size,λk hk _=>h.block k hk⟩
def rF.of2{q:Nat}(h:oC b q w w')(hb:b<w.heap.size->F b)(A:q<w.heap.size->F q):rF F w w':=
 ⟨h.os,h.tape,h.output,h.size,λk hk hn=>h.block k hk (λe=>hn (e▸hb (e▸hk))) (λe=>hn (e▸A (e▸hk)))⟩
def rF.grown{row:Option Nat}(h:w.grownBy w' row)(hb:∀b,row=O b->F b):rF F w w':=
 ⟨h.os,h.tape,h.output,h.size,λk hk hn=>h.block k hk λe=>hn (hb k e.symm)⟩
def rF.set(h:rF F ar w){p:j4}(hp:p.block<ar.heap.size->F p.block)(v:iQ):rF F ar (w.setCell p v):=
 ⟨h.os,h.tape,h.output,by simpa [jr]using h.size,λk hk hn=>(jh w p v k (λe=>hn (e▸hp (e▸hk)))).trans (h.block k hk hn)⟩
def rF.blk(h:rF F w w'){c:Nat}{cs:Array iQ}(hc:mY w c cs t)(hn:¬F c):mY w' c cs t:=by
 unfold mY;rw[h.block c hc.lt hn];exact hc
def rF.below(h:rF F w w')(hB:∀c,c<B->¬F c)(A:B<=w.heap.size):iR B w w':=⟨h.os,h.tape,h.output,h.size,λk hk=>h.block k I (hB k hk)⟩
def rF.mono(h:rF F w w')(hF:∀c,c<w.heap.size->F c->F' c):rF F' w w':=⟨h.os,h.tape,h.output,h.size,λk hk hn=>h.block k hk λA=>hn (hF k hk A)⟩
end
def nS.kp{v:iQ}(h:nS w B e v l)(k:rF F w w')(hn:∀b,v.ownBlock=O b->¬F b):nS w' B e v l:=by
 refine⟨h.1,?_⟩;rcases h.2 with J|⟨g,cap,A,C,hg,E,r⟩
 .exact .inl J
 .refine .inr ⟨g,cap,A,C,hg,?_,r⟩
  rw[k.block g (jE.1 E).1 (hn g (by rw[C];rfl))];exact E
def Jr(r bn bi:Nat)(c:nU)(L:List oJ)(w:K)(h:pY r bn bi c L w):
  iW iN 38 #[mG (O (Z r 0 U))] w λe w'=>e=mK (mI #[V X c.fmt,V mQ c.mag,V X c.oL,V X c.pq,V X c.dep,V X c.oo])/\iR w.heap.size w w':=by
 obtain⟨g,hg⟩:=o7 w;have A:R (∀W,w.alloc (mM #[V X 0,V mQ 0,V X 0,V X 0,V X 0,V X 0] rG)=W->mY W g #[V X 0,V mQ 0,V X 0,V X 0,V X 0,V X 0] rG/\iR g w W/\pY r bn bi c L W):=Y λW E=>by
  subst E;have a:=(iT w.heap.size w).alloc (iP _) (mM #[V X 0,V mQ 0,V X 0,V X 0,V X 0,V X 0] rG);exact⟨hg▸mY.new w _ _,hg▸a,h.below a⟩
 rw[hg];go_in;go_upto_region 1 with fail;have⟨hB,hb,J⟩:=A.out _ rfl;generalize w.alloc _=w1 at*;have⟨c0,c1,c2,c3,c4,c5⟩:=J.rg.a6;have⟨ah,ai,aj,ak,au,av,f0,f1,f2,f3,f4,ax⟩:=hB.b6;have C:=Y (iU hB hb);go_wp2_with fail
 have N:mY ((((((w1.setCell (Z g 0 U) (V X c.fmt)).setCell (Z g 1 U) (V mQ c.mag)).setCell (Z g 2 U) (V X c.oL)).setCell (Z g 3 U) (V X c.pq)).setCell (Z g 4 U) (V X c.dep)).setCell (Z g 5 U) (V X c.oo)) g #[V X c.fmt,V mQ c.mag,V X c.oL,V X c.pq,V X c.dep,V X c.oo] rG:=
  (((((C.1.set 0 _).set 1 _).set 2 _).set 3 _).set 4 _).set 5 _
 have⟨aa,ae,af,ag,d4,d5⟩:=N.a6;refine iY (v:=mI #[V X c.fmt,V mQ c.mag,V X c.oL,V X c.pq,V X c.dep,V X c.oo]) (by simp[jv,Tryz.results38,go_sem,aa,ae,af,ag,d4,d5]) rfl ⟨rfl,?_⟩;exact(((((C.2.setCell (p:=(Z g 0 U)) (iP g) _).setCell (p:=(Z g 1 U)) (iP g) _).setCell (p:=(Z g 2 U)) (iP g) _).setCell (p:=(Z g 3 U)) (iP g) _).setCell (p:=(Z g 4 U)) (iP g) _).setCell (p:=(Z g 5 U)) (iP g) _
def yS(c:nU)(s:An):Nat:=
 if c.fmt=1 then if s.size<24 then 0 else 24+oM (s.extract 16 20).data.toList
 else if(og c.oL s.data.toList).2.2≠0 then 0 else(og c.oL s.data.toList).2.1+(og c.oL s.data.toList).1
def Su(c:nU)(hc:nV c=u)(s:An)(w:K)(hs:s.size<=100000):
  iW iN 65 #[mI #[V X c.fmt,V mQ c.mag,V X c.oL,V X c.pq,V X c.dep,V X c.oo],H s] w λe w'=>e=mK (V X (yS c s:Nat))/\iR w.heap.size w w':=by
 have⟨_,⟨az,aA⟩,_⟩:=ql hc;have af:=Y (vS (w:=w) c (t:=rG));obtain⟨g,hg⟩:=o7 w;have ag:s.size<=jd:=jk hs mX;have ah:=Y (λW=>xx c.oL s W I ag);have C:(og c.oL s.data.toList).2.2=0->((og c.oL s.data.toList).1:Int)<=65536/\(og c.oL s.data.toList).2.1<=10:=λh=>by
  generalize au:og c.oL s.data.toList=q at*;obtain⟨a,b,e⟩:=q;dsimp only at h|-;subst h;have:=vW au;omega
 have⟨N,aa⟩:=nE (yS c s);have E:R (N=if c.fmt=1 then if s.size<24 then 0 else 24+oM (s.extract 16 20).data.toList else if(og c.oL s.data.toList).2.2≠0 then 0 else(og c.oL s.data.toList).2.1+(og c.oL s.data.toList).1):=Y aa.symm;rw[aa];rw[hg]at af|-;generalize og c.oL s.data.toList=q at*;obtain⟨a,b,er⟩:=q;dsimp only at*;go_in;go_upto_region 1 with fail;have⟨hb,c0,c1,c2,c3,c4,c5⟩:=af.out _ rfl;generalize w.alloc _=w1 at*;have HB:=Y hb;by_cases A:c.fmt=1
 .have t1:(c.fmt !=1)=M:=by simp[A]
  by_cases J:s.size<24
  .have HE:R (N=0):=Y (by rw[E.out,Ax A,Ax J])
   have ai:As ((s.size:Int)<24)=u:=nk;clear A J E C;exact EO
  .have aj:(s.extract 16 20).size=4:=by simp only[iV];omega
   have HE:R (N=24+oM (s.extract 16 20).data.toList):=Y (by rw[E.out,Ax A,At J]);have av:=Y (uh (s.extract 16 20) w1 I I);have aG:oM (s.extract 16 20).data.toList<4294967296:=by
    have ak:=qD (s.extract 16 20).data.toList;have ax:(s.extract 16 20).data.toList.length=4:=by
     have:(s.extract 16 20).data.toList.length=(s.extract 16 20).size:=jR;omega
    rw[ax]at ak;exact ak
   have aB:24<=s.size:=I;have ai:As ((s.size:Int)<24)=M:=nk;clear A J E C aj;generalize ay:s.extract 16 20=ac at*;generalize oM ac.data.toList=ab at*;go_wp2_with fail;all_goals try rw[ay]
   refine av.mono ?_;rintro e w2 ⟨rfl,rfl⟩;go_wp2;go_returns;exact⟨by rw[HE.out];simp,HB.out⟩
 .have t1:(c.fmt !=1)=u:=by simp[A]
  by_cases J:er=0
  .subst J
   have⟨aD,aF⟩:=C rfl;have HE:R (N=b+a):=Y (by rw[E.out,At A,At ny]);clear A E C;go_wp2_with fail;refine pG (ah _) λw2 ae=> ?_
   subst ae;go_wp2;go_returns;exact⟨by rw[HE.out];simp,HB.out⟩
  .have ai:((er:Int) !=0)=u:=nk
   have HE:R (N=0):=Y (by rw[E.out,At A,Ax J]);clear A E C J;go_wp2_with fail;refine pG (ah _) λw2 ae=> ?_
   subst ae;exact EO
abbrev Ld:jl:=88
def Ga(r:Nat)(bv:iQ)(nd fa la tt se:Int):Array iQ:=#[mG (O (Z r 0 U)),bv,V X nd,V X fa,V X la,V X tt,V X se]
structure N1C(ks sb r:Nat)(bv:iQ)(nd fa la tt se:Int)(Bs:K->Prop)(W:K):Prop where
 bs:Bs W
 sv:mY W ks #[mG (O (Z sb 0 U))] Sr
 ss:mY W sb (Ga r bv nd fa la tt se) Ld
structure GA(ks kc kt ka sb r:Nat)(c:nU)(s:An)(p:Nat)(bv:iQ)(nd fa la tt se:Int)(Bs:K->Prop)(W:K):Prop where
 sv:mY W ks #[mG (O (Z sb 0 U))] Sr
 ss:mY W sb (Ga r bv nd fa la tt se) Ld
 cf:mY W kc #[V X c.fmt,V mQ c.mag,V X c.oL,V X c.pq,V X c.dep,V X c.oo] rG
 tx:mY W kt #[H s] QN
 at_:mY W ka #[V X p] InT
 bs:Bs W
 ne:ks≠sb/\kc≠sb/\kt≠sb/\ka≠sb
def GA.below{s:An}{p:Nat}{A:K}(qP:∀W A,Bs W->iR W.heap.size W A->Bs A)(h:GA ks kc kt ka sb r c s p bv nd fa la tt se Bs W)(hb:iR W.heap.size W A):GA ks kc kt ka sb r c s p bv nd fa la tt se Bs A:=
 ⟨a7 hb h.sv h.sv.lt,a7 hb h.ss h.ss.lt,a7 hb h.cf h.cf.lt,a7 hb h.tx h.tx.lt,a7 hb h.at_ h.at_.lt,qP _ _ h.bs hb,h.ne⟩
def GA.put{s:An}{p:Nat}(N7:∀W i v,Bs W->Bs (W.setCell (Z sb i U) v))(h:GA ks kc kt ka sb r c s p bv nd fa la tt se Bs W)(n2:Int):GA ks kc kt ka sb r c s p bv n2 fa la tt se Bs (W.setCell (Z sb 2 U) (V X n2)):=
 have n:=h.ne;have o:∀{b:Nat}{cs:Array iQ}{t:jl},mY W b cs t->b≠sb->mY (W.setCell (Z sb 2 U) (V X n2)) b cs t:=λhB hn=>hB.setOther (a:=(Z sb 2 U)) hn _
 ⟨o h.sv n.1,h.ss.set 2 _,o h.cf n.2.1,o h.tx n.2.2.1,o h.at_ n.2.2.2,N7 _ _ _ h.bs,h.ne⟩
structure Cx(ks ka sb r ao T p:Nat)(buf:List AC)(bo:Option j4)(bc:Nat)(nd fa la tt se:Int)(Bs:K->Prop)(d6 d9:Bool)(v6:iQ)(W:K):Prop where
 sv:mY W ks #[mG (O (Z sb 0 U))] Sr
 at_:mY W ka #[V X p] InT
 ss:mY W sb (Ga r (if d9=u then v6 else G bo buf.length bc) nd fa la tt se) Ld
 ob:d6=M->nS W ao xw (G bo buf.length bc) buf
 od:d6=u->(∃oa cap,v6=G oa (buf.drop p).length cap)/\nS W ao xw v6 (buf.drop p)/\∀b,v6.ownBlock=O b->(jM bo buf.length bc).ownBlock=O b\/T<=b
 bs:Bs W
 dn:d9=u->d6=u
 ne:ks≠sb/\ka≠sb/\ao<=sb/\ao<=W.heap.size/\∀b,(jM bo buf.length bc).ownBlock=O b->b≠ks/\b≠ka/\b≠sb
section
variable {ks ka sb r ao T p:Nat}{buf:List AC}{bo:Option j4}{bc:Nat}{nd fa la tt se:Int}{Bs:K->Prop}{d6 d9:Bool}{v6 v6':iQ}{W W':K}
def Cx.call(hBg:∀W W',Bs W->W.grownBy W' (jM bo buf.length bc).ownBlock->Bs W')(h:Cx ks ka sb r ao T p buf bo bc nd fa la tt se Bs M M v6 W)(hg:W.grownBy W' (jM bo buf.length bc).ownBlock)(ho:nS W' ao xw v6' (buf.drop p))(A:FrV W (G bo buf.length bc) v6')(C:∃oa cap,v6'=G oa (buf.drop p).length cap)(hBT:T<=W.heap.size):
  Cx ks ka sb r ao T p buf bo bc nd fa la tt se Bs u M v6' W':=by
 have n:=h.ne;have q:∀{c:Nat}{cs:Array iQ}{t:jl},mY W c cs t->(∀b,(jM bo buf.length bc).ownBlock=O b->b≠c)->mY W' c cs t:=λhB hn=>oV hB hg hn
 exact⟨q h.sv λb hb=>(n.2.2.2.2 b hb).1,q h.at_ λb hb=>(n.2.2.2.2 b hb).2.1,q h.ss λb hb=>(n.2.2.2.2 b hb).2.2,(λh=>by cases h),λ_=>⟨C,ho,λb hb=>(A b hb).imp id λk=>jk hBT k⟩,hBg _ _ h.bs hg,λ_=>rfl,⟨n.1,n.2.1,n.2.2.1,jk n.2.2.2.1 hg.size,n.2.2.2.2⟩⟩
def Cx.put(N7:∀W i v,Bs W->Bs (W.setCell (Z sb i U) v))(A:∀b,v6.ownBlock=O b->b≠sb)(h:Cx ks ka sb r ao T p buf bo bc nd fa la tt se Bs u M v6 W):Cx ks ka sb r ao T p buf bo bc nd fa la tt se Bs u u v6 (W.setCell (Z sb 1 U) v6):=by
 have n:=h.ne;have o:∀{b:Nat}{cs:Array iQ}{t:jl},mY W b cs t->b≠sb->mY (W.setCell (Z sb 1 U) v6) b cs t:=λhB hn=>hB.setOther (a:=(Z sb 1 U)) hn _
 refine⟨o h.sv n.1,o h.at_ n.2.1,h.ss.set 1 _,(λh=>by cases h),λ_=>⟨(h.od rfl).1,?_,(h.od rfl).2.2⟩,N7 _ _ _ h.bs,λ_=>rfl,⟨n.1,n.2.1,n.2.2.1,by simpa [jr]using n.2.2.2.1,n.2.2.2.2⟩⟩;exact nS.kp (h.od rfl).2.1 (F:=λk=>k=sb) (rF.set (F:=λk=>k=sb) (p:=(Z sb 1 U)) (rF.refl _ W) (λ_=>rfl) v6) λb hb e=>A b hb e
end
noncomputable def M6:List kC:=cO (cL (cL (cR (cB Tryz.f34))))
section
variable (ks sb r:Nat)(bo:Option j4)(bn bc:Nat)(nd fa la tt se:Int)(Bs:K->Prop)
def M7:Nat->iQ
 |0=> mG (O (Z sb 0 U))
 |1=> mG (O (Z sb 0 U))
 |2=> mG (O (Z sb 1 U))
 |3=> G bo bn bc
 |4=> V X bn
 |5=> mG (O (Z sb 0 U))
 |6=> mG (O (Z sb 0 U))
 |7=> mG (O (Z sb 2 U))
 |8=> V X nd
 |9=> mH (As ((bn:Int)<nd))
 |_=>jw
structure b0j(D:Nat->Bool)(vs:Nat->iQ)(w:K):Prop where
 nP:N1C ks sb r (G bo bn bc) nd fa la tt se Bs w
 val:∀j,(u)=u->D j=u->vs j=M7 sb bo bn bc nd j
variable {ks sb r bo bn bc nd fa la tt se Bs}
def a6J{id:Nat}(ht2:a0.tmps.getD 2 jw=mG (O (Z ks 0 U)))(hsz:a0.tmps.size=73)(hI0:∀vs:Nat->iQ,(λw=>N1C ks sb r (G bo bn bc) nd fa la tt se Bs w) ws.drew)(J:∀(vs:Nat->iQ) (w:K),N1C ks sb r (G bo bn bc) nd fa la tt se Bs w->Q .normal {a0 with tmps:=vG a0.tmps [(12,mG (O (Z sb 0 U))),(13,mG (O (Z sb 0 U))),(14,mG (O (Z sb 1 U))),(15,G bo bn bc),(16,V X bn),(17,mG (O (Z sb 0 U))),(18,mG (O (Z sb 0 U))),(19,mG (O (Z sb 2 U))),(20,V X nd),(21,mH (As ((bn:Int)<nd)))]} w):
  (jZ id M6.toArray u).wp iN Q a0 ws:=by
 refine nJ 10 73 (b0j ks sb r bo bn bc nd fa la tt se Bs) mZ hsz mZ (.inl rfl) mZ ?_ ?_ ?_;.exact qg
 .refine rR λA ae=> ?_
  clear hI0 J hsz;replace ht2:=Y ht2;dsimp+instances only[M6,cO,cL,cR,cB,Tryz.f34];simp only[jm,jI,qU];refine⟨?_,?_,?_,?_,?_,?_,?_,?_,?_,?_,trivial⟩<;>(intro D vs a w aq hI hd E ah C af;subst ae;dsimp+instances only[M6,cO,cL,cR,cB,Tryz.f34]);have e2:=(C 2 mX).trans ht2.out;have hB:=hI.nP.sv;have c0:=hB.c0;clear hB;rotate_left;have ai:=fe C hI.val E 12 0;rotate_left;have aj:=fe C hI.val E 13 1;rotate_left;have N:=fe C hI.val E 14 2;simp only[M7]at N;have hB:=hI.nP.ss;have c0:=hB.cell 1;simp only[Ga,ji,jb,jc]at c0;clear hB;rotate_left;have ak:=fe C hI.val E 15 3;rotate_left;have e2:=(C 2 mX).trans ht2.out;have hB:=hI.nP.sv;have c0:=hB.c0;clear hB;rotate_left;have au:=fe C hI.val E 17 5;rotate_left;have av:=fe C hI.val E 18 6;rotate_left;have aa:=fe C hI.val E 19 7;simp only[M7]at aa;have hB:=hI.nP.ss;have c0:=hB.cell 2;simp only[Ga,ji,jb,jc]at c0;clear hB;rotate_left;have ax:=fe C hI.val E 16 4;have ay:=fe C hI.val E 20 8;rotate_left
  all_goals
   try simp only[M7]at*
   go_simp;exact af _ _ _ rfl ⟨hI.nP,uj hI.val⟩
 .intro D vs w ag hI
  have E:=hI.nP;have q:=J vs w E;rw[oD hI.val ag];dsimp+instances only[M6,cO,cL,cR,cB,Tryz.f34];exact qf
end
noncomputable def G8:List kC:=cO (cL (cR (cL (cR (cR (cR (cR (cR (cR (cR (cR (cR (cB Tryz.f34)))))))))))))
section
variable (ks kc kt ka sb r:Nat)(c:nU)(s:An)(p:Nat)(bv:iQ)(nd fa la tt se:Int)(n2:Nat)(Bs:K->Prop)
def zz:Nat->iQ
 |0=> mG (O (Z sb 0 U))
 |1=> mI #[V X c.fmt,V mQ c.mag,V X c.oL,V X c.pq,V X c.dep,V X c.oo]
 |2=> H s
 |3=> V X p
 |4=> H (s.extract p s.size)
 |5=> V X n2
 |6=> mG (O (Z sb 0 U))
 |7=> mG (O (Z sb 2 U))
 |_=>jw
structure a0D(D:Nat->Bool)(vs:Nat->iQ)(w:K):Prop where
 nP:GA ks kc kt ka sb r c s p bv (if(D 8)=u then n2 else nd) fa la tt se Bs w
 val:∀j,(u)=u->D j=u->vs j=zz sb c s p n2 j
variable {ks kc kt ka sb r c s p bv nd fa la tt se n2 Bs}
def a0E{D:Nat->Bool}{vs:Nat->iQ}(h:a0D ks kc kt ka sb r c s p bv nd fa la tt se n2 Bs D vs w){i:Nat}(hi:i≠8)(A:GA ks kc kt ka sb r c s p bv (if(D 8)=u then n2 else nd) fa la tt se Bs w->GA ks kc kt ka sb r c s p bv (if(D 8)=u then n2 else nd) fa la tt se Bs w'):a0D ks kc kt ka sb r c s p bv nd fa la tt se n2 Bs (zR D i) (zS vs i (zz sb c s p n2 i)) w':=by
 refine⟨?_,uj h.val⟩;rw[nz D (show 8≠i by omega)];exact A h.nP
def a3R{id:Nat}(ht2:a0.tmps.getD 2 jw=mG (O (Z ks 0 U)))(ht5:a0.tmps.getD 5 jw=mG (O (Z kc 0 U)))(y8:a0.tmps.getD 6 jw=mG (O (Z kt 0 U)))(FY:a0.tmps.getD 7 jw=mG (O (Z ka 0 U)))(hp:p<=s.size/\s.size<=100000)(Js:∀W,iW iN 65 #[mI #[V X c.fmt,V mQ c.mag,V X c.oL,V X c.pq,V X c.dep,V X c.oo],H (s.extract p s.size)] W λe J=>e=mK (V X n2)/\iR W.heap.size W J)(qP:∀W J,Bs W->iR W.heap.size W J->Bs J)(N7:∀W i v,Bs W->Bs (W.setCell (Z sb i U) v))(hsz:a0.tmps.size=73)(hI0:∀vs:Nat->iQ,(λw=>GA ks kc kt ka sb r c s p bv (if M=u then n2 else nd) fa la tt se Bs w) ws.drew)(ae:∀(vs:Nat->iQ) (w:K),GA ks kc kt ka sb r c s p bv (if u=u then n2 else nd) fa la tt se Bs w->Q .normal {a0 with tmps:=vG a0.tmps [(51,mG (O (Z sb 0 U))),(52,mI #[V X c.fmt,V mQ c.mag,V X c.oL,V X c.pq,V X c.dep,V X c.oo]),(53,H s),(54,V X p),(55,H (s.extract p s.size)),(56,V X n2),(57,mG (O (Z sb 0 U))),(58,mG (O (Z sb 2 U)))]} w):
  (jZ id G8.toArray u).wp iN Q a0 ws:=by
 refine nJ 9 73 (a0D ks kc kt ka sb r c s p bv nd fa la tt se n2 Bs) mZ hsz mZ (.inl rfl) mZ ?_ ?_ ?_;.exact qg
 .refine rR λA av=> ?_
  clear hI0 ae hsz;replace ht2:=Y ht2;replace ht5:=Y ht5;replace y8:=Y y8;replace FY:=Y FY;replace hp:=Y hp;replace Js:=Y Js;replace qP:=Y qP;replace N7:=Y N7;dsimp+instances only[G8,cO,cL,cR,cB,Tryz.f34];simp only[jm,jI,qU];refine⟨?_,?_,?_,?_,?_,?_,?_,?_,?_,trivial⟩<;>(intro D vs a w aq hI hd E ay C N;subst av;dsimp+instances only[G8,cO,cL,cR,cB,Tryz.f34]);have e2:=(C 2 mX).trans ht2.out;have hB:=hI.nP.sv;have c0:=hB.c0;clear hB;rotate_left;have e5:=(C 5 mX).trans ht5.out;have hB:=hI.nP.cf;have⟨c0,c1,c2,c3,c4,c5⟩:=hB.a6;clear hB;rotate_left;have aF:=(C 6 mX).trans y8.out;have hB:=hI.nP.tx;have c0:=hB.c0;clear hB;rotate_left;have aG:=(C 7 mX).trans FY.out;have hB:=hI.nP.at_;have c0:=hB.c0;clear hB;rotate_left;have hp:=hp.out;have af:=fe C hI.val E 53 2;have ag:=fe C hI.val E 54 3;simp only[zz]at af ag;obtain⟨az,aA⟩:=hp;rotate_left
  .have Js:=Js.out
   have qP:=qP.out;have ah:=fe C hI.val E 52 1;have ai:=fe C hI.val E 55 4;simp only[zz]at ah ai;have ax:=Js w;clear Js;rw[Ax (by rfl)];go_simp;refine pG ax λaH hb=> ?_
   exact N (zz sb c s p n2 5) _ _ rfl (a0E hI (i:=5) mX λh=>h.below qP hb)
  have aB:=fe C hI.val E 51 0;rotate_left;have aD:=fe C hI.val E 57 6;rotate_left
  .have N7:=N7.out
   have aj:=fe C hI.val E 56 5;have ak:=fe C hI.val E 58 7;simp only[zz]at aj ak;have aa:=hI.nP;rw[hd]at aa;have hB:=aa.ss;have c0:=hB.cell 2;have f0:=hB.free 2;simp only[Ga,kM,cU,ji,jb,jc]at c0;clear hB;go_simp;refine N jw _ _ rfl ⟨?_,uj hI.val⟩;rw[nL];exact aa.put N7 _
  all_goals
   try simp only[zz]at*
   go_simp;exact N _ _ _ rfl ⟨hI.nP,uj hI.val⟩
 .intro D vs w au hI
  have E:=hI.nP;rw[au 8 mX]at E;have q:=ae vs w E;rw[oD hI.val au];dsimp+instances only[G8,cO,cL,cR,cB,Tryz.f34];exact qf
end
noncomputable def G9:List kC:=cO (cL (cR (cR (cR (cR (cR (cR (cR (cR (cR (cR (cB Tryz.f34))))))))))))
section
variable (ks ka sb r ao T p:Nat)(buf:List AC)(bo:Option j4)(bc:Nat)(nd fa la tt se:Int)(Bs:K->Prop)
def D8:Nat->iQ
 |0=> mG (O (Z sb 0 U))
 |1=> mG (O (Z sb 0 U))
 |2=> mG (O (Z sb 0 U))
 |3=> mG (O (Z sb 1 U))
 |4=> G bo buf.length bc
 |5=> V X p
 |7=> mG (O (Z sb 0 U))
 |8=> mG (O (Z sb 1 U))
 |_=>jw
structure a8H(D:Nat->Bool)(vs:Nat->iQ)(w:K):Prop where
 nP:Cx ks ka sb r ao T p buf bo bc nd fa la tt se Bs (D 6) (D 9) (vs 6) w
 val:∀j,(j !=6)=u->D j=u->vs j=D8 sb p buf bo bc j
variable {ks ka sb r ao T p buf bo bc nd fa la tt se Bs}
def Vg{id:Nat}(ht2:a0.tmps.getD 2 jw=mG (O (Z ks 0 U)))(FY:a0.tmps.getD 7 jw=mG (O (Z ka 0 U)))(hp:p<=buf.length/\buf.length<=100000)(hBg:∀W af,Bs W->W.grownBy af (jM bo buf.length bc).ownBlock->Bs af)(N7:∀W i v,Bs W->Bs (W.setCell (Z sb i U) v))(hBT:∀W,Bs W->T<=W.heap.size)(hBo:∀W v,Bs W->nS W ao xw v (buf.drop p)->∀b,v.ownBlock=O b->b≠sb)(hsz:a0.tmps.size=73)(hI0:∀vs:Nat->iQ,(λw=>Cx ks ka sb r ao T p buf bo bc nd fa la tt se Bs M M (vs 6) w) ws.drew)(ag:∀(vs:Nat->iQ) (w:K),Cx ks ka sb r ao T p buf bo bc nd fa la tt se Bs u u (vs 6) w->Q .normal {a0 with tmps:=vG a0.tmps [(63,mG (O (Z sb 0 U))),(64,mG (O (Z sb 0 U))),(65,mG (O (Z sb 0 U))),(66,mG (O (Z sb 1 U))),(67,G bo buf.length bc),(68,V X p),(69,vs 6),(70,mG (O (Z sb 0 U))),(71,mG (O (Z sb 1 U)))]} w):
  (jZ id G9.toArray u).wp iN Q a0 ws:=by
 refine nJ 10 73 (a8H ks ka sb r ao T p buf bo bc nd fa la tt se Bs) mZ hsz mZ (.inl rfl) mZ ?_ ?_ ?_;.exact qg
 .refine rR λA az=> ?_
  clear hI0 ag hsz;replace ht2:=Y ht2;replace FY:=Y FY;replace hp:=Y hp;replace hBg:=Y hBg;replace hBT:=Y hBT;replace N7:=Y N7;replace hBo:=Y hBo;dsimp+instances only[G9,cO,cL,cR,cB,Tryz.f34];simp only[jm,jI,qU];refine⟨?_,?_,?_,?_,?_,?_,?_,?_,?_,?_,trivial⟩<;>(intro D vs a w aq hI hd E ah C aa;subst az;dsimp+instances only[G9,cO,cL,cR,cB,Tryz.f34]);have e2:=(C 2 mX).trans ht2.out;have hB:=hI.nP.sv;have c0:=hB.c0;clear hB;rotate_left;have e2:=(C 2 mX).trans ht2.out;have hB:=hI.nP.sv;have c0:=hB.c0;clear hB;rotate_left;have aG:=fe C hI.val E 64 1;rotate_left;have aH:=fe C hI.val E 65 2;rotate_left;have ai:=fe C hI.val E 66 3;simp only[D8]at ai;have hB:=hI.nP.ss;rw[ah 9 mX mZ,At mX]at hB;have c0:=hB.cell 1;simp only[Ga,ji,jb,jc]at c0;clear hB;rotate_left;have aK:=(C 7 mX).trans FY.out;have hB:=hI.nP.at_;have c0:=hB.c0;clear hB;rotate_left
  .have hp:=hp.out
   have hBg:=hBg.out;have aj:=fe C hI.val E 67 4;have ak:=fe C hI.val E 68 5;simp only[D8]at aj ak;have J:=hI.nP;have au:D 9=M:=by cases h:D 9 with|false=>rfl|true=>exact absurd (hI.nP.dn h) (by rw[hd];decide)
   rw[hd,au]at J;have aA:=a0B ao _ buf p w (J.ob rfl) hp.1 hp.2 J.ne.2.2.2.1;rw[Ax (by rfl)];go_simp;refine aA.mono ?_;rintro e aL ⟨v6,rfl,ho,hg,aB,aD⟩;refine aa v6 _ _ rfl ⟨?_,I9 rfl hI.val⟩;rw[nL,nz D (show 9≠6 by decide),o6,au];exact J.call hBg hg ho aB aD (hBT _ J.bs)
  have aI:=fe C hI.val E 63 0;rotate_left;have aJ:=fe C hI.val E 70 7;rotate_left
  .have N7:=N7.out
   have hBo:=hBo.out;have d6:=E 6 mX mZ;have N:a.tmps.getD 69 jw=vs 6:=C 69 mX;have av:=fe C hI.val E 71 8;simp only[D8]at av;have J:=hI.nP;rw[hd,d6]at J;have⟨oa,cap,ax⟩:=(J.od rfl).1;have ay:=hBo w _ J.bs (J.od rfl).2.1;have aF:=J.put N7 ay;have N:=N.trans ax;have hB:=J.ss;have c0:=hB.cell 1;have f0:=hB.free 1;simp only[Ga,kM,cU,ji,jb,jc]at c0;clear hB;go_simp;refine aa jw _ _ rfl ⟨?_,uj hI.val⟩;rw[nL,nz D (show 6≠9 by decide),nM vs _ (show 6≠9 by decide),d6];rw[<-jP,<-ax];exact aF
  all_goals
   try simp only[D8]at*
   go_simp;exact aa _ _ _ rfl ⟨hI.nP,uj hI.val⟩
 .intro D vs w ae hI
  have E:=hI.nP;rw[ae 6 mX]at E;rw[ae 9 mX]at E;have q:=ag vs w E;rw[oD hI.val ae];dsimp+instances only[G9,cO,cL,cR,cB,Tryz.f34];exact qf
end
def Qa{f:tJ}(h:tN c rows f=.error er):er≠0:=by
 unfold tN at h;split at h;.cases h;decide
 .split at h
  .rename_i e1 A
   have:=Jo A;cases h;split<;>omega
  .cases h
def Le{s:An}{mt:Option (Nat×MS)}(h:(tu c rows s mt).1=.error er):er≠0:=by
 unfold tu at h;split at h
 .rename_i e1 m2 A
  have:=Bd c s mt e1 (by rw[A]);cases h;omega
 .rename_i y m2 A
  split at h
  .rename_i e1 C
   have:=Qa C;cases h;exact this
  .cases h
def a0F(hc:nV c=u){s:An}(hs:s.size<=100000){mt:Option (Nat×MS)}(h:(tu c rows s mt).1=.ok y):0<y.2/\y.2<=s.size:=by
 unfold tu at h;split at h;.cases h
 .rename_i z m2 A
  have:=yK hc hs (y:=z) (mt:=mt) (by rw[A]);split at h;.cases h
  .cases h;exact⟨this.1,this.2.1⟩
def Bj(c:nU)(rows:List Row)(s:An)(n p:Nat)(mt:Option (Nat×MS))(h:tu c rows (s.extract p s.size) mt=(.ok y,m2)):uD c rows s (n+1) p mt=⟨y.1::(uD c rows s n (p+y.2) m2).told,(uD c rows s n (p+y.2) m2).at_,(uD c rows s n (p+y.2) m2).err,(uD c rows s n (p+y.2) m2).mt⟩:=by
 rw[uD,h]
def AB(c:nU)(rows:List Row)(s:An)(n p:Nat)(mt:Option (Nat×MS))(h:tu c rows (s.extract p s.size) mt=(.error er,m2)):uD c rows s (n+1) p mt=⟨[],p,er,m2⟩:=by
 rw[uD,h]
structure GD(w0:K)(ao g kc kt ka kx sb r mb:Nat)(c:nU)(s:An)(p:Nat)(m:MS)(bo:Option j4)(bc:Nat)(buf:List AC)(nd fa la tt se:Int)(lv:iQ)(Lm:List G7)(W:K):Prop where
 nx:NxE kc (g+1) kt ka g sb r mb c s p m W
 ss:mY W sb (Ga r (G bo buf.length bc) nd fa la tt se) Ld
 ob:nS W ao xw (G bo buf.length bc) buf
 lm:qi W (λd=>ka<d/\d≠kx) lv Lm
 kp:rF (λk=>k=sb\/k=mb\/(jM bo buf.length bc).ownBlock=O k) w0 W
 lt:w0.heap.size=g/\sb<g/\mb<g/\sb≠mb/\ao<=sb/\ao<=mb/\ao<=g/\g+2<=kc/\g+2<=kt/\g+2<=ka/\kc<W.heap.size/\kt<W.heap.size/\ka<W.heap.size/\kc<ka/\kt<ka/\ka<kx
 bl:∀b,(jM bo buf.length bc).ownBlock=O b->ao<=b/\b<g/\b≠sb/\b≠mb
section
variable {w0:K}{ao g kc kt ka kx sb r mb:Nat}{c:nU}{s:An}{p:Nat}{m m2:MS}{bo:Option j4}{bc:Nat}{buf:List AC}{nd fa la tt se:Int}{lv lv2:iQ}{Lm Lm2:List G7}{W W':K}
def GD.kpf(h:GD w0 ao g kc kt ka kx sb r mb c s p m bo bc buf nd fa la tt se lv Lm W)(k:rF F W W')(hF:∀d,F d->ka<d)(hl:qi W' (λd=>ka<d/\d≠kx) lv2 Lm2):GD w0 ao g kc kt ka kx sb r mb c s p m bo bc buf nd fa la tt se lv2 Lm2 W':=by
 have l:=h.lt;have n:=h.nx;have q:∀{d:Nat}{cs:Array iQ}{t:jl},mY W d cs t->(d<g+2\/d=kc\/d=kt\/d=ka)->mY W' d cs t:=λhB hd=>k.blk hB λA=>by have:=hF _ A;omega
 refine⟨⟨q n.cf I,q n.mv I,q n.tx I,q n.at_ I,q n.sv I,⟨?_,jy n.se.2 k.size⟩,⟨q n.mm.1 I,n.mm.2⟩,n.ne⟩,q h.ss I,h.ob.kp k λb hb A=>by have:=hF _ A;have:=h.bl b hb;omega,hl,?_,?_,h.bl⟩
 .have:=k.block sb n.se.2 λA=>by have:=hF _ A;omega
  simp only[lV,this];exact n.se.1
 .exact h.kp.trans k λd hd A=>by have:=hF _ A;omega
 .have:=k.size
  omega
def GD.below(h:GD w0 ao g kc kt ka kx sb r mb c s p m bo bc buf nd fa la tt se lv Lm W)(hb:iR W.heap.size W W'):GD w0 ao g kc kt ka kx sb r mb c s p m bo bc buf nd fa la tt se lv Lm W':=
 h.kpf (F:=λ_=>False) (rF.of hb) (λ_ h=>h.elim) (eJ h.lm hb.size (λd hd _=>hb.block d hd) λ_ _ h=>h)
def GD.next{E:Nat}(h:GD w0 ao g kc kt ka kx sb r mb c s p m bo bc buf nd fa la tt se lv Lm W)(A:oC ka mb W W')(N:o9 W' (O (mb,m2)))(aa:mY W' ka #[V X E] InT):GD w0 ao g kc kt ka kx sb r mb c s E m2 bo bc buf nd fa la tt se lv Lm W':=by
 have l:=h.lt;have n:=h.nx;have q:∀{d:Nat}{cs:Array iQ}{t:jl},mY W d cs t->d≠ka->d≠mb->mY W' d cs t:=λhB ae af=>A.blk hB ae af
 refine⟨⟨q n.cf I I,q n.mv I I,q n.tx I I,aa,q n.sv I I,⟨?_,jy n.se.2 A.size⟩,N,n.ne⟩,q h.ss I I,?_,eJ h.lm A.size (λd hd J=>A.block d hd (by have:=J.1;omega) (by have:=J.1;omega)) λ_ _ h=>h,?_,?_,h.bl⟩
 .have:=A.block sb n.se.2 I I
  simp only[lV,this];exact n.se.1
 .exact h.ob.kp (F:=λd=>d=ka\/d=mb) (rF.of2 A (λ_=> .inl rfl) (λ_=> .inr rfl)) λb hb C=>by have:=h.bl b hb;omega
 .exact h.kp.trans (F':=λd=>d=ka\/d=mb) (rF.of2 A (λ_=> .inl rfl) (λ_=> .inr rfl)) λd hd C=>by
   rcases C with C|C
   .omega
   .exact .inr (.inl C)
 .have:=A.size
  omega
def GD.reg(h:GD w0 ao g kc kt ka kx sb r mb c s p m bo bc buf nd fa la tt se lv Lm W)(C:oC ka mb W W'):rF (λk=>k=sb\/k=mb\/(jM bo buf.length bc).ownBlock=O k) w0 W':=
 h.kp.trans (F':=λd=>d=ka\/d=mb) (rF.of2 C (λ_=> .inl rfl) (λ_=> .inr rfl)) λd hd A=>by
  rcases A with A|A
  .have:=h.lt;omega
  .exact .inr (.inl A)
end
def lenOf:iQ->Nat
 | G _ n _=>n
 |_=>0
structure a8I(T ao sb r mb:Nat)(c:nU)(aE:a3h)(bo:Option j4)(bc:Nat)(buf:List AC)(nd fa la tt se:Int)(w:K)(lv:iQ)(w':K):Prop where
 msgs:∃Lm:List G7,(∃oa cap,lv=G oa Lm.length cap)/\qi w' (λd=>w.heap.size<=d/\d<T) lv Lm/\Lm.map (λy=>y.m)=aE.told
 ses:∃bo' bc',mY w' sb (Ga r (G bo' (buf.drop aE.at_).length bc') (if aE.err=2 then(yS c ((⟨buf.toArray⟩:An).extract aE.at_ (⟨buf.toArray⟩:An).size):Int)else nd) (if aE.err=2 then fa else(aE.err:Int)) la tt se) Ld/\nS w' ao xw (G bo' (buf.drop aE.at_).length bc') (buf.drop aE.at_)/\(∀b,(jM bo' (buf.drop aE.at_).length bc').ownBlock=O b->b≠sb)/\∀b,(jM bo' (buf.drop aE.at_).length bc').ownBlock=O b->(jM bo buf.length bc).ownBlock=O b\/T<=b
 wt:w.heap.size<=T
 mt:o9 w' aE.mt
 kp:rF (λk=>k=sb\/k=mb\/(jM bo buf.length bc).ownBlock=O k) w w'
def zA(ao sb r mb:Nat)(c:nU)(rows:List Row)(m:MS)(bo:Option j4)(bc:Nat)(buf:List AC)(nd fa la tt se:Int)(w:K)(e:kV)(w':K):Prop:=
 if(buf.length:Int)<nd then e=mK (G U 0 0)/\iR w.heap.size w w'
 else∃lv T,e=mK lv/\a8I T ao sb r mb c (uD c rows ⟨buf.toArray⟩ (buf.length+1) 0 (O (mb,m))) bo bc buf nd fa la tt se w lv w'
def a3S(l:List AC):(⟨l.toArray⟩:An).size=l.length:=lh
def Jt{ao:Nat}{v:iQ}(h:nS w ao xw v l)(hb:v.ownBlock=O b){cs:Array iQ}(hs:mY w sb cs Ld):b≠sb:=by
 rintro rfl;rcases h.2 with⟨rfl,_⟩|⟨g,cap,C,rfl,_,hg,_⟩
 .cases hb
 .cases hb
  have A:w.heap[g]? =O (mM cs Ld (0,0)):=hs;rw[A]at hg;have:Ld=xw:=by
   injection hg with e
   injection e
  exact absurd this mX
structure yB(w0:K)(sb mb ka T:Nat)(m:MS)(bv lv:iQ)(Lm:List G7)(W:K):Prop where
 lm:qi W (λd=>ka<d/\d<T) lv Lm
 tt:w0.heap.size<=T/\T<=W.heap.size
 mt:o9 W (O (mb,m))
 kp:rF (λk=>k=sb\/k=mb\/bv.ownBlock=O k) w0 W
 ss:∃cs,mY W sb cs Ld
 lt:w0.heap.size<=ka/\sb<w0.heap.size/\mb<w0.heap.size/\sb≠mb/\∀b,bv.ownBlock=O b->b<w0.heap.size/\b≠sb/\b≠mb
section
variable {w0:K}{sb mb ka T:Nat}{m:MS}{bv lv:iQ}{Lm:List G7}{W W':K}
def yB.kpf(h:yB w0 sb mb ka T m bv lv Lm W)(k:rF F W W')(hF:∀d,F d->d=sb\/bv.ownBlock=O d)(hs:∃cs,mY W' sb cs Ld):yB w0 sb mb ka T m bv lv Lm W':=by
 have l:=h.lt;have C:∀d,F d->d<w0.heap.size/\d≠mb:=λd hd=>by
  rcases hF d hd with e|e
  .omega
  .have:=l.2.2.2.2 d e;omega
 refine⟨eJ h.lm k.size (λd hd E=>k.block d hd λA=>by have:=C d A;have E:ka<d/\d<T:=E;omega) λ_ _ h=>h,⟨h.tt.1,jk h.tt.2 k.size⟩,⟨k.blk h.mt.1 λA=>(C _ A).2 rfl,h.mt.2⟩,h.kp.trans k λd _ A=> ?_,hs,l⟩;rcases hF d A with e|e
 .exact .inl e
 .exact .inr (.inr e)
def yB.below(h:yB w0 sb mb ka T m bv lv Lm W)(hb:iR W.heap.size W W'):yB w0 sb mb ka T m bv lv Lm W':=
 h.kpf (F:=λ_=>False) (rF.of hb) (λ_ h=>h.elim) (h.ss.imp λ_ k=>a7 hb k k.lt)
def yB.put(h:yB w0 sb mb ka T m bv lv Lm W)(i:Nat)(v:iQ):yB w0 sb mb ka T m bv lv Lm (W.setCell (Z sb i U) v):=
 h.kpf (F:=λd=>d=sb) (rF.set (F:=λd=>d=sb) (p:=(Z sb i U)) (rF.refl _ W) (λ_=>rfl) v) (λ_ h=> .inl h) (h.ss.elim λcs k=>⟨_,k.set i v⟩)
def yB.grow(h:yB w0 sb mb ka T m bv lv Lm W)(hg:W.grownBy W' bv.ownBlock):yB w0 sb mb ka T m bv lv Lm W':=
 h.kpf (F:=λd=>bv.ownBlock=O d) (rF.grown hg λ_ e=>e) (λ_ h=> .inr h) (h.ss.imp λ_ k=>oV k hg λx A=>(h.lt.2.2.2.2 x A).2.1)
end
def Kq(w0:K)(ao sb mb ka T:Nat)(m:MS)(bo:Option j4)(bc:Nat)(buf:List AC)(lv:iQ)(Lm:List G7)(W:K):Prop:=
 yB w0 sb mb ka T m (G bo buf.length bc) lv Lm W/\nS W ao xw (G bo buf.length bc) buf/\ao<=W.heap.size/\ao<=sb/\w0.heap.size<=W.heap.size/\ka≠sb
section
variable {w0:K}{ao T g kc kt ka kx sb r mb n2 q:Nat}{c:nU}{s:An}{m:MS}{bo:Option j4}{bc:Nat}{buf:List AC}{nd fa la tt se:Int}{lv v6:iQ}{Lm:List G7}{W W':K}{TOT:a3h}{e1:Nat}
def Kq.below(h:Kq w0 ao sb mb ka T m bo bc buf lv Lm W)(hb:iR W.heap.size W W'):Kq w0 ao sb mb ka T m bo bc buf lv Lm W':=
 ⟨h.1.below hb,h.2.1.kp (rF.of (F:=λ_=>False) hb) λ_ _ h=>h,jk h.2.2.1 hb.size,h.2.2.2.1,jk h.2.2.2.2.1 hb.size,h.2.2.2.2.2⟩
def Kq.put(h:Kq w0 ao sb mb ka T m bo bc buf lv Lm W)(i:Nat)(v:iQ):Kq w0 ao sb mb ka T m bo bc buf lv Lm (W.setCell (Z sb i U) v):=
 ⟨h.1.put i v,h.2.1.kp (rF.set (F:=λd=>d=sb) (p:=(Z sb i U)) (rF.refl _ W) (λ_=>rfl) v) λb hb e=>(h.1.lt.2.2.2.2 b hb).2.1 e,by simpa [jr]using h.2.2.1,h.2.2.2.1,by simpa [jr]using h.2.2.2.2.1,h.2.2.2.2.2⟩
def GD.fin(h:GD w0 ao g kc kt ka kx sb r mb c s q m bo bc buf nd fa la tt se lv Lm W):Kq w0 ao sb mb ka W.heap.size m bo bc buf lv Lm W:=by
 have l:=h.lt;refine⟨⟨eJ h.lm (iP _) (λ_ _ _=>rfl) λ_ hd h=>⟨h.1,hd⟩,⟨I,iP _⟩,h.nx.mm,h.kp,⟨_,h.ss⟩,I,I,I,I,λb hb=> ?_⟩,h.ob,I,I,I,I⟩;have:=h.bl b hb;omega
def GD.a8K(h:GD w0 ao g kc kt ka kx sb r mb c s q m bo bc buf nd fa la tt se lv Lm W):GA g kc kt ka sb r c s q (G bo buf.length bc) nd fa la tt se (Kq w0 ao sb mb ka W.heap.size m bo bc buf lv Lm) W:=by
 have l:=h.lt;exact⟨h.nx.sv,h.ss,h.nx.cf,h.nx.tx,h.nx.at_,h.fin,I,I,I,I⟩
def Vh(A:mY W g #[mG (O (Z sb 0 U))] Sr)(C:mY W ka #[V X q] InT)(E:mY W sb (Ga r (G bo buf.length bc) nd fa la tt se) Ld)(h:Kq w0 ao sb mb ka T m bo bc buf lv Lm W)(hg:w0.heap.size=g):Cx g ka sb r ao T q buf bo bc nd fa la tt se (yB w0 sb mb ka T m (G bo buf.length bc) lv Lm) M M v6 W:=by
 have l:=h.1.lt;refine⟨A,C,E,λ_=>h.2.1,(λh=>by cases h),h.1,(λh=>by cases h),I,h.2.2.2.2.2,h.2.2.2.1,h.2.2.1,λb hb=> ?_⟩;have:=l.2.2.2.2 b hb;omega
def GD.Vh(h:GD w0 ao g kc kt ka kx sb r mb c s q m bo bc buf nd fa la tt se lv Lm W)(e:Int):Cx g ka sb r ao W.heap.size q buf bo bc nd e la tt se (yB w0 sb mb ka W.heap.size m (G bo buf.length bc) lv Lm) M M v6 (W.setCell (Z sb 3 U) (V X e)):=by
 have l:=h.lt;exact Go.Proofs.YtamfcjmhnndbdaaGreatDoor.Vh (h.nx.sv.setOther (a:=(Z sb 3 U)) (by show g≠sb;omega) _) (h.nx.at_.setOther (a:=(Z sb 3 U)) (by show ka≠sb;omega) _) (h.ss.set 3 _) (h.fin.put 3 _) l.1
def a3T{mm:MS}(A:¬(buf.length:Int)<nd)(J:uD c rows ⟨buf.toArray⟩ (buf.length+1) 0 (O (mb,mm))=⟨Lm.map λy=>y.m,q,e1,O (mb,m)⟩)(aa:w0.heap.size=g)(h:Cx g ka sb r ao T q buf bo bc (if e1=2 then(yS c ((⟨buf.toArray⟩:An).extract q (⟨buf.toArray⟩:An).size):Int)else nd) (if e1=2 then fa else(e1:Int)) la tt se (yB w0 sb mb ka T m (G bo buf.length bc) lv Lm) u u v6 W):
  zA ao sb r mb c rows mm bo bc buf nd fa la tt se w0 (mK lv) W:=by
 unfold zA;rw[At A];obtain⟨⟨C,E,rfl⟩,ho,N⟩:=h.od rfl;refine⟨lv,T,rfl,?_⟩;rw[J];exact⟨⟨Lm,h.bs.lm.slice,eJ h.bs.lm (iP _) (λ_ _ _=>rfl) λd _ hd=>⟨by have:=h.bs.lt.1;have hd:ka<d/\d<T:=hd;omega,hd.2⟩,rfl⟩,⟨C,E,h.ss,ho,λb hb=>h.bs.ss.elim λcs k=>Jt ho hb k,N⟩,h.bs.tt.1,h.bs.mt,h.bs.kp⟩
end
def Vi(h:p:=by
 clear hF5;simp only[vG,iX,jg,jf];go_wp2;try go_returns
 exact HP5):p:=h
def a3U(ao sb r mb bn bi:Nat)(c:nU)(L:List oJ)(m:MS)(bo:Option j4)(bc:Nat)(buf:List AC)(nd fa la tt se:Int)(w:K)(hc:nV c=u)(dI:c.wf)(bC:mY w sb (Ga r (G bo buf.length bc) nd fa la tt se) Ld)(bD:nS w ao xw (G bo buf.length bc) buf)(bE:o9 w (O (mb,m)))(dJ:∀b,(jM bo buf.length bc).ownBlock=O b->b≠sb/\b≠mb)(aQ:sb≠mb/\ao<=sb/\ao<=mb)(hlen:buf.length<=100000)(bF:∀W,rF (λk=>k=sb\/k=mb\/(jM bo buf.length bc).ownBlock=O k) w W->pY r bn bi c L W/\qB W/\BC W):
  iW iN 34 #[mG (O (Z sb 0 U)),mG (O (Z mb 0 U))] w (zA ao sb r mb c (L.map λx=>x.r) m bo bc buf nd fa la tt se w):=by
 obtain⟨g,hg⟩:=o7 w;have⟨s,bG⟩:∃s,(⟨buf.toArray⟩:An)=s:=⟨_,rfl⟩;have hsz:s.size=buf.length:=bG▸a3S buf;have⟨gY,dK⟩:=nE buf.length;have dL:sb<g/\mb<g:=⟨hg▸bC.lt,hg▸mY.lt bE.1⟩;have bH:=λb hb=>nS.blk bD b hb
 have dM:R (∀W,(w.alloc (mM #[mG (O (Z sb 0 U))] Sr)).alloc (mM #[mG (O (Z mb 0 U))] MtT)=W->mY W g #[mG (O (Z sb 0 U))] Sr/\mY W (g+1) #[mG (O (Z mb 0 U))] MtT/\iR g w W/\W.heap.size=g+2):=Y λW aL=>by
  subst aL;have a1:=(iT w.heap.size w).alloc (iP _) (mM #[mG (O (Z sb 0 U))] Sr);have a2:=a1.alloc ny (mM #[mG (O (Z mb 0 U))] MtT);have aF:=mY.new w #[mG (O (Z sb 0 U))] Sr;have aG:=mY.new (w.alloc (mM #[mG (O (Z sb 0 U))] Sr)) #[mG (O (Z mb 0 U))] MtT;rw[show(w.alloc (mM #[mG (O (Z sb 0 U))] Sr)).heap.size=g+1 by simp[hg]]at aG;rw[hg]at aF;exact⟨aF.alloc _,aG,hg▸a2,by simp[hg]⟩
 have bI:=Y (iU bC (iU bD (iU bE (iU dJ (iU aQ (iU dL bH))))));have bJ:=Y bF;have dB:=Y (iU hc dI);have af:=Y (iU bG hsz);have eX:R (ao<=g):=Y I;have au:=Y hlen;have⟨eu,eB⟩:=nE (zA ao sb r mb c (L.map λx=>x.r) m bo bc buf nd fa la tt se w);have eY:=Y eB;have eZ:=Y dK;rw[eB];clear bC bD bE dJ aQ hlen bF hc dI bG hsz eB dL bH dK;go_in;go_upto_region 1 with fail;have⟨dN,dO,dP,dQ⟩:=dM.out _ rfl;generalize (w.alloc _).alloc _=w1 at*;have bA:=Y (iU dN (iU dO (iU dP dQ)));clear dM dN dO dP dQ;have hdr:mY w1.drew g #[mG (O (Z sb 0 U))] Sr/\mY w1.drew (g+1) #[mG (O (Z mb 0 U))] MtT/\iR g w w1.drew/\w1.drew.heap.size=g+2:=⟨bA.1,bA.2.1,bA.2.2.1.trans ((nN w1).mono (by have:=bA.2.2.2;omega)),bA.2.2.2⟩;rw[<-eZ.out]at*;refine a6J (ks:=g) (sb:=sb) (r:=r) (bo:=bo) (bn:=buf.length) (bc:=bc) (nd:=nd) (fa:=fa) (la:=la) (tt:=tt) (se:=se) (Bs:=λW=>mY W g #[mG (O (Z sb 0 U))] Sr/\mY W (g+1) #[mG (O (Z mb 0 U))] MtT/\iR g w W/\W.heap.size=g+2) (ht2:=by rfl) (hsz:=by rfl) (hI0:=λ_=>⟨hdr,hdr.1,a7 hdr.2.2.1 bI.1 bI.2.2.2.2.2.1.1⟩) ?_;intro vs dD hF;have C:=Y hF.bs;clear hF hdr bA;simp only[vG,iX,jg,jf];by_cases E:(buf.length:Int)<nd
 .have t0:As ((buf.length:Int)<nd)=u:=by simp[E]
  have eD:=Y E;rw[t0];clear E t0;go_wp2;try go_returns
  rw[<-eY.out];unfold zA;rw[Ax eD.out];exact⟨rfl,hg.symm▸C.2.2.1⟩
 .have t0:As ((buf.length:Int)<nd)=M:=by simp[E]
  have eD:=Y E;rw[t0];clear E;have aR:∀W,iR g w W->mY W sb (Ga r (G bo buf.length bc) nd fa la tt se) Ld/\nS W ao xw (G bo buf.length bc) buf/\o9 W (O (mb,m)):=λW hb=>by
   have⟨e1,e2,e3,e4,e5,eF,fq⟩:=bI.out;exact⟨a7 hb e1 eF.1,nS.kp e2 (rF.of (F:=λ_=>False) (hg.symm▸hb)) (λ_ _ h=>h),⟨a7 hb e3.1 eF.2,e3.2⟩⟩
  have aH:=Y aR;clear aR;have c1:dD.cell? (Z sb 0 U)=O (mG (O (Z r 0 U))):=(aH _ C.2.2.1).1.cell 0;have c2:dD.cell? (Z g 0 U)=O (mG (O (Z sb 0 U))):=C.1.cell 0;have fu:=Y (Jr r bn bi c L dD (bJ dD (rF.of (hg.symm▸C.2.2.1))).1);go_wp2_with fail;refine pG fu λw2 aI=> ?_
  obtain⟨kc,dR⟩:=o7 w2;have fw:R (∀W,w2.alloc (mM #[V X c.fmt,V mQ c.mag,V X c.oL,V X c.pq,V X c.dep,V X c.oo] rG)=W->mY W g #[mG (O (Z sb 0 U))] Sr/\mY W (g+1) #[mG (O (Z mb 0 U))] MtT/\iR g w W/\g+2<=kc/\W.heap.size=kc+1/\mY W kc #[V X c.fmt,V mQ c.mag,V X c.oL,V X c.pq,V X c.dep,V X c.oo] rG):=Y λW aL=>by
   subst aL;have a:=(iT w2.heap.size w2).alloc (iP _) (mM #[V X c.fmt,V mQ c.mag,V X c.oL,V X c.pq,V X c.dep,V X c.oo] rG);have⟨aM,av,bK,gD⟩:=C.out;have il:=aI.size;have aF:=a7 aI aM aM.lt;have aG:=a7 aI av av.lt;exact⟨a7 a aF aF.lt,a7 a aG aG.lt,bK.trans ((aI.mono I).trans (a.mono I)),I,by simp[dR],dR▸mY.new w2 _ _⟩
  clear aI fu c1 c2 t0;go_upto_region 4 with fail;have fA:=fw.out _ rfl;generalize w2.alloc _=w3 at*;have aA:=Y fA;clear fA fw C;have gF:w3.cell? (Z g 0 U)=O (mG (O (Z sb 0 U))):=aA.1.cell 0;have gG:w3.cell? (Z sb 1 U)=O (G bo buf.length bc):=(aH _ aA.2.2.1).1.cell 1;have fB:(convert Yr QN (G bo buf.length bc)).run iN w3=.ok (H s) w3:=af.1▸nS.string NV (aH _ aA.2.2.1).2.1;have bL:R (∀W,(w3.alloc (mM #[H s] QN)).alloc (mM #[V X 0] InT)=W->∀kx,kc+2<kx->GD w ao g kc (kc+1) (kc+2) kx sb r mb c s 0 m bo bc buf nd fa la tt se (G U 0 0) [] W/\W.heap.size=kc+3):=Y λW aL kx bM=>by
   subst aL;have⟨aM,av,bK,gD,ay,bN⟩:=aA.out;have⟨e1,e2,e3,e4,e5,eF,fq⟩:=bI.out;have a1:=(iT w3.heap.size w3).alloc (iP _) (mM #[H s] QN);have a2:=a1.alloc ny (mM #[V X 0] InT);have aF:=mY.new w3 #[H s] QN;have aG:=mY.new (w3.alloc (mM #[H s] QN)) #[V X 0] InT;rw[show(w3.alloc (mM #[H s] QN)).heap.size=kc+2 by simp[ay]]at aG;rw[ay]at aF;have bO:iR g w ((w3.alloc (mM #[H s] QN)).alloc (mM #[V X 0] InT)):=bK.trans (a2.mono I);have⟨dE,eG,gH⟩:=aH.out _ bO;have gZ:=eX.out;refine⟨⟨⟨a7 a2 bN bN.lt,a7 a2 av av.lt,aF.alloc _,aG,a7 a2 aM aM.lt,⟨dE.cell 0,dE.lt⟩,gH,I⟩,dE,eG,qi.nil _ _,rF.of (hg.symm▸bO),?_,λb hb=> ?_⟩,by simp[ay]⟩;.simp[ay];omega
   .have:=fq b hb;have:=e4 b hb;omega
  have ic:=aA.2.2.2.2.1;go_upto_region 8 with fail;have dS:=λkx hk=>(bL _ rfl kx hk).1
  have dU:=(bL _ rfl (kc+3) I).2;generalize (w3.alloc _).alloc _=w4 at*;rw[show kc+1+1=kc+2 from rfl];have bP:=Y (λkx hk=>(dS kx hk:GD w ao g kc (kc+1) (kc+2) kx sb r mb c s 0 m bo bc buf nd fa la tt se (G U 0 0) [] w4));have bQ:=Y dU;clear dS dU bL aA gG gF fB aH;have bR:∀(kx p:Nat)(m:MS)(lv:iQ)(Lm:List G7)(W:K),GD w ao g kc (kc+1) (kc+2) kx sb r mb c s p m bo bc buf nd fa la tt se lv Lm W->p<=s.size->iW iN 62 #[mG (O (Z kc 0 U)),mG (O (Z (g+1) 0 U)),mG (O (Z (kc+1) 0 U)),mG (O (Z (kc+2) 0 U)),mG (O (Z g 0 U))] W (Jq (kc+2) mb p (tu c (L.map λx=>x.r) (s.extract p s.size) (O (mb,m))) W):=λkx p m lv Lm W h hp=>
   a0z kc (g+1) (kc+1) (kc+2) g sb r mb bn bi c L s p m W h.nx dB.1 dB.2 ⟨hp,by rw[af.2];exact au.out⟩ λgI gJ=>bJ.out gI (h.reg gJ)
  have dV:=Y bR;have bS:=Y (bR (kc+3) 0 m _ _ w4 (bP _ I) (jB _));clear bR;have⟨⟨N,fC⟩,aS⟩:∃aE,tu c (L.map λx=>x.r) (s.extract 0 s.size) (O (mb,m))=aE:=⟨_,rfl⟩;rw[aS]at bS;have fD:=Y aS;have aU:=EW c (L.map λx=>x.r) (s.extract 0 s.size) (O (mb,m));rw[aS]at aU;obtain⟨dF,rfl⟩:∃dF,fC=O (mb,dF):=by
   cases fC with
   |none=>cases aU
   |some q=>obtain⟨dE,eG⟩:=q;cases aU;exact⟨eG,rfl⟩
  clear aS aU;go_wp2_with fail;refine bS.mono ?_;unfold Jq;dsimp only;rintro e w5 ⟨ov,cv,bT,rfl,aa,dW,aB,bU⟩;have dX:=Y (λkx hk=>(bP kx hk).next bU dW aB);obtain⟨kx,bM⟩:=o7 w5;have aN:kc+2<kx:=by have:=bU.size;have:=bQ.out;omega
  have dY:R (∀W,w5.alloc (mM #[H (mN (sj N)),H (mT (sj N)),mH (mL (sj N)),G ov (mS (sj N)).length cv] yA)=W->GD w ao g kc (kc+1) (kc+2) kx sb r mb c s (goR 0 N) dF bo bc buf nd fa la tt se (G U 0 0) [] W/\mY W kx #[H (mN (sj N)),H (mT (sj N)),mH (mL (sj N)),G ov (mS (sj N)).length cv] yA/\nC W (λd=>kc+2<d/\d≠kx/\(jM U 0 0).ownBlock≠O d) (G ov (mS (sj N)).length cv) (mS (sj N))):=Y λW aL=>by
   subst aL;have a:=(iT w5.heap.size w5).alloc (iP _) (mM #[H (mN (sj N)),H (mT (sj N)),mH (mL (sj N)),G ov (mS (sj N)).length cv] yA);refine⟨(dX kx aN).below a,bM▸mY.new w5 _ _,Shape.nA.keep aa a.size (λd hd ah=>⟨by have:w4.heap.size<=d:=ah;have:=bQ.out;omega,I,by simp[jK]⟩) λd hd _=>a.block d hd⟩
  clear bT aa dW aB bU bS bP dX;go_upto_region 9 with fail;have dZ:=dY.out _ rfl;generalize w5.alloc _=iq at*;have fE:=Y dZ;clear dZ dY;have⟨ed,bV⟩:=nE (uD c (L.map λx=>x.r) s (buf.length+1) 0 (O (mb,m)));have bW:=Y bV;clear bV;have fF:R (∀q (ag:Option (Nat×MS)) er,(tu c (L.map λx=>x.r) (s.extract q s.size) ag).1=.error er->er≠0):=Y λq ag er h=>Le h
  have fG:R (∀q (ag:Option (Nat×MS)) y,q<=s.size->(tu c (L.map λx=>x.r) (s.extract q s.size) ag).1=.ok y->0<y.2/\q+y.2<=s.size):=Y λq ag y ah h=>by
   have hsz:=af.2;have hl:=au.out;have:=a0F dB.1 (s:=s.extract q s.size) (by simp only[iV];omega) h;simp only[iV]at this;omega
  have aO:R (kc+2<kx):=Y aN;clear bQ bM aN;have⟨gK,bX⟩:=nE (mE (sj N));rw[bX];have fH:=Y bX;clear bX
  go_loopw [9,11] (λlv ev eH=>∃(n:Nat) (oa:Option j4) (cap:Nat) (er:Nat),lv=G oa n cap/\ev=V X er/\n<=100000/\R (∃(q fuel:Nat) (ag m2:MS) (aE:Except Nat (JY×Nat)) (Lm:List G7) (ov:Option j4) (cv:Nat),Lm.length=n/\mE (sj aE)=er/\q<=s.size/\s.size<=q+fuel/\n<=q/\tu c (L.map λx=>x.r) (s.extract q s.size) (O (mb,ag))=(aE,O (mb,m2))/\
   GD w ao g kc (kc+1) (kc+2) kx sb r mb c s (goR q aE) m2 bo bc buf nd fa la tt se (G oa n cap) Lm eH/\mY eH kx #[H (mN (sj aE)),H (mT (sj aE)),mH (mL (sj aE)),G ov (mS (sj aE)).length cv] yA/\nC eH (λd=>kc+2<d/\d≠kx/\(jM oa n cap).ownBlock≠O d) (G ov (mS (sj aE)).length cv) (mS (sj aE))/\
   ed=⟨Lm.map (λy=>y.m)++(uD c (L.map λx=>x.r) s (fuel+1) q (O (mb,ag))).told,(uD c (L.map λx=>x.r) s (fuel+1) q (O (mb,ag))).at_,(uD c (L.map λx=>x.r) s (fuel+1) q (O (mb,ag))).err,(uD c (L.map λx=>x.r) s (fuel+1) q (O (mb,ag))).mt⟩)) (λlv _ _=>100001 -(lenOf lv))
  case atStart=>
   have⟨aM,av,bK⟩:=fE.out;exact⟨0,U,0,gK,rfl,rfl,I,Y ⟨0,buf.length,m,dF,N,[],ov,cv,rfl,fH.out,jB _,by rw[af.2];omega,iP _,fD.out,aM,av,bK,by rw[bW.out];rfl⟩⟩
  case round=>
   obtain⟨n,oa,cap,er,rfl,rfl,hn,fI⟩:=hrel;have⟨q,fuel,ag,m2,aE,Lm,ov,cv,hl,ax,ah,aV,ai,aj,A,aD,aa,J⟩:=fI.out;clear fI;by_cases h0:er=0
   .obtain⟨y,rfl⟩:∃y,aE=.ok y:=by
     cases aE with
     |error e1=>exact absurd (ax.trans h0) (fF q _ e1 (by rw[aj]))
     |ok y=>exact⟨y,rfl⟩
    subst h0;have⟨bY,aJ⟩:=fG.out q _ y ah (by rw[aj]);have aD:mY wr kx #[H y.1.name,H (txt y.1.val.lab),mH y.1.val.lab.list,G ov y.1.val.sub.length cv] yA:=aD;have aa:nC wr (λd=>kc+2<d/\d≠kx/\(jM oa n cap).ownBlock≠O d) (G ov y.1.val.sub.length cv) y.1.val.sub:=aa;have A:GD w ao g kc (kc+1) (kc+2) kx sb r mb c s (q+y.2) m2 bo bc buf nd fa la tt se (G oa n cap) Lm wr:=A;have⟨⟨b0,b1,gL,b3⟩,_⟩:=nR aD;have fJ:n+1<=100000:=by have:=af.2;have:=au.out;omega
    have C:=Y (iU hl (iU ah (iU aV (iU ai (iU aj (iU A (iU aD (iU aa (iU J (iU bY aJ))))))))));clear hl ax ah aV ai aj A aD aa J bY aJ;go_upto_region 11 with(at_builtin;go_loud (refine qx a0C Vf rfl _ _ rfl (B:=0) (v:=G oa n cap) (L:=Lm) (y:=(⟨y.1,ov,cv⟩:G7)) rfl (C.2.2.2.2.2.1.lm.1.below ((iT _ wr).alloc (iP _) _)) rfl (mY.new wr #[H y.1.name,H (txt y.1.val.lab),mH y.1.val.lab.list,G ov y.1.val.sub.length cv] yA) rfl (by simp[mcl,G7.ar,Value.oneCell']) (by have:=C.1;omega) (jB _) ?_);intro dG fK w2 bZ ae aB eO)
    have aW:wr.grownBy w2 (jM oa n cap).ownBlock:=⟨ae.os,ae.tape,ae.output,by have:=ae.size;simp at this;omega,λd hd aQ=>(ae.block d nk aQ).trans (((iT wr.heap.size wr).alloc (iP _) _).block d hd)⟩;have bB:GD w ao g kc (kc+1) (kc+2) kx sb r mb c s (q+y.2) m2 bo bc buf nd fa la tt se (G (O (Z dG 0 U)) (Lm.length+1) fK) (Lm++[⟨y.1,ov,cv⟩]) w2/\mY w2 kx #[H y.1.name,H (txt y.1.val.lab),mH y.1.val.lab.list,G ov y.1.val.sub.length cv] yA:=by
     have A:=C.2.2.2.2.2.1;have aX:=A.lm;have fM:=C.2.2.2.2.2.2.1.lt;have dH:=qi.push (x:=(⟨y.1,ov,cv⟩:G7)) aX bZ aW (aB.imp id λe=>by rw[e];simp) C.2.2.2.2.2.2.2.1 (λd hd=>hd.2.2);refine⟨A.kpf (rF.grown aW (F:=λd=>(jM oa n cap).ownBlock=O d) λb hb=>hb) (λd hd=>(aX.2.1 d hd).1) (eJ dH (iP _) (λ_ _ _=>rfl) λd _ hd=> ?_),oV C.2.2.2.2.2.2.1 aW λx gM=>(aX.2.1 x gM).2⟩;rcases hd with hd|hd|hd
     .exact hd
     .exact⟨hd.1,hd.2.1⟩
     .subst hd
      rcases aB with ay|ay
      .exact aX.2.1 _ ay
      .have hk:kx<wr.heap.size:=fM
       have bN:d=wr.heap.size+1:=by rw[ay];simp
       have:=A.lt;show kc+2<d/\d≠kx;constructor<;>omega
    clear bZ ae aB eO aW b0 b1 gL b3;have aJ:=C.2.2.2.2.2.2.2.2.2.2;have eP:=Y (dV kx (q+y.2) m2 _ _ w2 bB.1 aJ);have⟨⟨az,fO⟩,aY⟩:∃aE,tu c (L.map λx=>x.r) (s.extract (q+y.2) s.size) (O (mb,m2))=aE:=⟨_,rfl⟩;rw[aY]at eP;have aZ:=EW c (L.map λx=>x.r) (s.extract (q+y.2) s.size) (O (mb,m2));rw[aY]at aZ;obtain⟨eQ,rfl⟩:∃eQ,fO=O (mb,eQ):=by
     cases fO with
     |none=>cases aZ
     |some z=>obtain⟨iw,gN⟩:=z;cases aZ;exact⟨gN,rfl⟩
    have fP:=Y aY;have aK:=Y bB;clear aY aZ bB;go_wp2_with fail;refine eP.mono ?_;unfold Jq;dsimp only;rintro e bg ⟨cz,cK,bT,rfl,bq,cZ,df,aP⟩;have dh:mY bg kx #[H y.1.name,H (txt y.1.val.lab),mH y.1.val.lab.list,G ov y.1.val.sub.length cv] yA:=aP.blk aK.2 (by have:=aO.out;omega) (by have:=bI.2.2.2.2.2.1;have:=aK.1.lt;omega);have fQ:=Y (iU (aK.1.next aP cZ df) (iU dh bq));have⟨⟨iy,aF,aG,iA⟩,f0,f1,f2,f3⟩:=nR dh;have⟨e3,dw⟩:=nE (mE (sj az));rw[dw];have fT:=Y dw;clear bT bq cZ df aP dh dw eP;go_wp2_with fail;rw[uu];have dx:Lm.length=n:=C.1;go_roundw;case rel=>
     have⟨fU,gP,gQ⟩:=fQ.out;have⟨_,ah,aV,ai,aj,_,_,_,J,bY,_⟩:=C.out;obtain⟨f1,rfl⟩:∃f1,fuel=f1+1:=⟨fuel - 1,I⟩;have⟨eT,eU,gT,gU,gV⟩:=zx bg kx (H (mN (sj az))) (H (mT (sj az))) (mH (mL (sj az))) (G cz (mS (sj az)).length cK);have fV:rF (λd=>d=kx) bg (zt bg kx (H (mN (sj az))) (H (mT (sj az))) (mH (mL (sj az))) (G cz (mS (sj az)).length cK)):=⟨gT,gU,gV,kP eU.symm,λk _ hk=>eT k hk⟩;have fZ:=fU.kpf fV (λd hd=>by subst hd;exact aO) (eJ fU.lm (kP eU.symm) (λd _ hd=>eT d hd.2) λ_ _ h=>h);have ig:=aK.2.lt;have gm:=aK.1.lm;refine⟨n+1,O (Z dG 0 U),fK,e3,by rw[dx],rfl,fJ,Y ⟨q+y.2,f1,m2,eQ,az,Lm++[⟨y.1,ov,cv⟩],cz,cK,by simp[dx],fT.out,aJ,I,I,fP.out,by rw[<-dx];exact fZ,rT gP,?_,?_⟩⟩
     .refine Shape.nA.keep gQ (kP eU.symm) (λd hd ah=> ?_) (λd _ ah=>eT d (by have:w2.heap.size<=d:=ah;omega))
      have hd2:w2.heap.size<=d:=ah;refine⟨by have:=aO.out;omega,I,λe=> ?_⟩;have:=(gm.1.block dG rfl).2.1;have gW:O dG=O d:=e;cases gW;omega
     .rw[J,Bj c _ s (f1+1) q (O (mb,ag)) aj]
      simp
    case measure=>simp[lenOf];omega
   .obtain⟨e1,rfl⟩:∃e1,aE=.error e1:=by
     cases aE with
     |error e1=>exact⟨e1,rfl⟩
     |ok y=>exact absurd ax.symm h0
    have ax:e1=er:=ax;subst ax;have ik:((e1:Int)==0)=M:=nk;rw[AB c _ s fuel q (O (mb,ag)) aj]at J;have A:GD w ao g kc (kc+1) (kc+2) kx sb r mb c s q m2 bo bc buf nd fa la tt se (G oa n cap) Lm wr:=A;have J:ed=⟨Lm.map (λy=>y.m),q,e1,O (mb,m2)⟩:=by rw[J];simp
    have C:=Y (iU hl (iU ah (iU J A)));clear hl ax ah aV ai aj A aD aa J dV;have ek:R (∀T dz dA v6 W,dz=(if e1=2 then(yS c ((⟨buf.toArray⟩:An).extract q (⟨buf.toArray⟩:An).size):Int)else nd)->dA=(if e1=2 then fa else(e1:Int))->Cx g (kc+2) sb r ao T q buf bo bc dz dA la tt se (yB w sb mb (kc+2) T m2 (G bo buf.length bc) (G oa n cap) Lm) u u v6 W->eu (mK (G oa n cap)) W):=Y λT dz dA v6 W e2 e3 h=>by
     subst e2 e3;rw[<-eY.out];refine a3T (Int.not_lt.mpr eD) ?_ hg h;have ay:=bW.out;have bN:=af.1;subst bN;rw[ay];exact C.2.2.1
    have bu:q<=s.size/\s.size<=100000:=⟨C.2.1,by have:=af.2;have:=au.out;omega⟩;have bz:q<=buf.length/\buf.length<=100000:=⟨by have:=af.2;have:=C.2.1;omega,au.out⟩;by_cases av:e1=2
    .subst av
     go_upto_region 13 with fail;have⟨nq,ai⟩:=nE (yS c (s.extract q s.size));have gp:=Y (λW=>Su c dB.1 (s.extract q s.size) W (by simp only[iV];omega));rw[ai]at gp;have gq:=Y ai;clear ai;refine a3R (ks:=g) (kc:=kc) (kt:=kc+1) (ka:=kc+2) (sb:=sb) (r:=r) (c:=c) (s:=s) (p:=q) (bv:=G bo buf.length bc) (nd:=nd) (fa:=fa) (la:=la) (tt:=tt) (se:=se) (n2:=nq) (Bs:=Kq w ao sb mb (kc+2) wr.heap.size m2 bo bc buf (G oa n cap) Lm) (ht2:=by rfl) (ht5:=by rfl) (y8:=by rfl) (FY:=by rfl) (hsz:=by rfl) (hp:=bu) (Js:=gp.out) (qP:=λ_ _ h hb=>h.below hb) (N7:=λ_ i v h=>h.put i v) (hI0:=λ_=>(C.2.2.2.below (nN _)).a8K) ?_;intro vs gu ak;have gy:R (∀v6,Cx g (kc+2) sb r ao wr.heap.size q buf bo bc nq fa la tt se (yB w sb mb (kc+2) wr.heap.size m2 (G bo buf.length bc) (G oa n cap) Lm) M M v6 gu.drew):=Y λv6=>by
      have hd:=(nN gu);exact Vh (a7 hd ak.sv ak.sv.lt) (a7 hd ak.at_ ak.at_.lt) (a7 hd ak.ss ak.ss.lt) (ak.bs.below hd) C.2.2.2.lt.1
     clear ak bu;simp only[vG,iX,jg,jf];go_upto_region 15 with fail;refine Vg (ks:=g) (ka:=kc+2) (sb:=sb) (r:=r) (ao:=ao) (T:=wr.heap.size) (p:=q) (buf:=buf) (bo:=bo) (bc:=bc) (nd:=nq) (fa:=fa) (la:=la) (tt:=tt) (se:=se) (Bs:=yB w sb mb (kc+2) wr.heap.size m2 (G bo buf.length bc) (G oa n cap) Lm) (ht2:=by rfl) (FY:=by rfl) (hsz:=by rfl) (hp:=bz) (hBg:=λ_ _ h hg=>h.grow hg) (N7:=λ_ i v h=>h.put i v) (hBT:=λ_ h=>h.tt.2) (hBo:=λ_ v h ho b hb=>h.ss.elim λcs k=>Jt ho hb k) (hI0:=λ_=>gy.out _) ?_;intro gz gX hF5;have HP5:=Y (ek _ _ _ _ _ (by rw[af.1,gq.out,Ax rfl]) (by rw[Ax rfl]) hF5);exact Vi
    .have iB:((e1:Int)==2)=M:=nk
     have A:=C.2.2.2;have c1:=A.nx.sv.cell 0;have f1:=A.ss.free 3;have c2:=A.ss.cell 3;have gB:R (∀v6,Cx g (kc+2) sb r ao wr.heap.size q buf bo bc nd e1 la tt se (yB w sb mb (kc+2) wr.heap.size m2 (G bo buf.length bc) (G oa n cap) Lm) M M v6 (wr.setCell (Z sb 3 U) (V X e1)).drew):=Y λv6=>by
      have h:=(A.Vh (v6:=v6) (e1:Int));have hd:=nN (wr.setCell (Z sb 3 U) (V X e1));exact⟨a7 hd h.sv h.sv.lt,a7 hd h.at_ h.at_.lt,a7 hd h.ss h.ss.lt,λ_=>(h.ob rfl).kp (rF.of (F:=λ_=>False) hd) (λ_ _ h=>h),(λh=>by cases h),h.bs.below hd,(λh=>by cases h),h.ne⟩
     simp only[Ga,ji,jb,jc]at c1 c2;have bB:=Y av;clear A av;go_upto_region 15 with fail;refine Vg (ks:=g) (ka:=kc+2) (sb:=sb) (r:=r) (ao:=ao) (T:=wr.heap.size) (p:=q) (buf:=buf) (bo:=bo) (bc:=bc) (nd:=nd) (fa:=e1) (la:=la) (tt:=tt) (se:=se) (Bs:=yB w sb mb (kc+2) wr.heap.size m2 (G bo buf.length bc) (G oa n cap) Lm) (ht2:=by rfl) (FY:=by rfl) (hsz:=by rfl) (hp:=bz) (hBg:=λ_ _ h hg=>h.grow hg) (N7:=λ_ i v h=>h.put i v) (hBT:=λ_ h=>h.tt.2) (hBo:=λ_ v h ho b hb=>h.ss.elim λcs k=>Jt ho hb k) (hI0:=λ_=>gB.out _) ?_;intro gz gX hF5;have HP5:=Y (ek _ _ _ _ _ (by rw[At bB.out]) (by rw[At bB.out]) hF5);exact Vi
end
section
open Go.RowKit Go.Maps
mutual
def Shape.ug.xO{S:Shape α}{w w':K}{Q:Nat->Prop}(hs:w.heap.size<=w'.heap.size)(hk:∀b o,b<w.heap.size->w'.cell? (Z b o U)=w.cell? (Z b o U)):
  ∀(x:mW α)(b off:Nat),b<w.heap.size->S.ug w Q x b off->S.ug w' Q x b off
 | .node a s,b,off,hb,h=>by
  simp only[Shape.ug]at h|-;obtain⟨ho,v,hc,A⟩:=h;refine⟨ho,v,λj E=> ?_,A.mono hs (λ_ _ h=>h) λb' J aa C N=>Shape.qR.xO hs hk s b' J C N⟩;rw[hk b (off+j) hb];exact hc j E
def Shape.qR.xO{S:Shape α}{w w':K}{Q:Nat->Prop}(hs:w.heap.size<=w'.heap.size)(hk:∀b o,b<w.heap.size->w'.cell? (Z b o U)=w.cell? (Z b o U)):
  ∀(s:List (mW α))(b off:Nat),b<w.heap.size->S.qR w Q s b off->S.qR w' Q s b off
 |[],_,_,_,_=>by simp only[Shape.qR]
 |x::A,b,off,hb,h=>by
  simp only[Shape.qR]at h|-;exact⟨Shape.ug.xO hs hk x b off hb h.1,Shape.qR.xO hs hk A b _ hb h.2⟩
end
def Shape.nA.xO{S:Shape α}{Q:Nat->Prop}{v:iQ}{s:List (mW α)}(h:S.nA w Q v s)(hs:w.heap.size<=w'.heap.size)(hk:∀b o,b<w.heap.size->w'.cell? (Z b o U)=w.cell? (Z b o U)):S.nA w' Q v s:=
 SliceOf.mono h hs (λ_ _ h=>h) λb o q hb A=>Shape.qR.xO hs hk s b o hb A
abbrev Xx:jl:=67
abbrev Ju:jl:=63
structure RaB(g r bn bi:Nat)(c:nU)(L:List oJ)(id:Nat)(nm tx:An)(w0 W:K):Prop where
 rg:pY r bn bi c L W
 en:mY W g #[V mP id,H nm,H tx] Xx
 pV:iR g w0 W
 lt:w0.heap.size=g/\r<g/\bn<g/\bi<g
def RaB.below{id:Nat}{A:K}(h:RaB g r bn bi c L id nm tx w0 W)(hb:iR W.heap.size W A):RaB g r bn bi c L id nm tx w0 A:=
 ⟨h.rg.below hb,a7 hb h.en h.en.lt,h.pV.trans (hb.mono (by have:=h.en.lt;omega)),h.lt⟩
structure Yy(g r bn bi:Nat)(c:nU)(L:List oJ)(id:Nat)(nm tx:An)(w0:K)(k:Nat)(da:Bool)(W:K):Prop where
 b:RaB g r bn bi c L id nm tx w0 W
 sz:W.heap.size=if da=u then k+1 else k
 bk:da=u->∃x:RC,mY W k x.cs GN
 lt:g<k
def Yy.made{id:Nat}(h:Yy g r bn bi c L id nm tx w0 k M W):Yy g r bn bi c L id nm tx w0 k u (W.alloc (mM DJ.cs GN)):=by
 have A:W.heap.size=k:=by simpa using h.sz
 exact⟨h.b.below ((iT W.heap.size W).alloc (iP _) _),by simp[A],λ_=>⟨DJ,A▸mY.new W DJ.cs GN⟩,h.lt⟩
def Yy.put{id:Nat}(h:Yy g r bn bi c L id nm tx w0 k u W)(x:RC)(h0:pY r bn bi c L w0):Yy g r bn bi c L id nm tx w0 k u (DK W k x):=by
 have⟨y,hy⟩:=h.bk rfl;have l:=h.b.lt;have g1:=h.lt;have hb:=vL (x:=x) h.b.pV (show g<=k by omega);exact⟨⟨h0.below (l.1▸hb),xM h.b.en I,hb,l⟩,by rw[K8];exact h.sz,λ_=>⟨x,yL hy⟩,h.lt⟩
def wT{P:j6}{k:jl}{κ ac:Type}{E:Gt P k κ}{F:Kc ac}{l:List (κ×ac)}(h:q9 E F w b n l)(o:Nat):w.cell? (Z b o U)=U:=by
 obtain⟨_,⟨J,A,C,_⟩,_⟩:=h;simp[lV,C]
structure Lf(g r bn bi kt:Nat)(c:nU)(L:List oJ)(x:oJ)(w0:K)(dn di:Bool)(W:K):Prop where
 rg:mY W r #[V X c.fmt,V mQ c.mag,V X c.oL,V X c.pq,V X c.dep,V X c.oo,.map (O bn),.map (O bi),Jb c,K7 c] RgT
 nm:q9 NmK tC W bn (if dn=u then x::L else L).length ((if dn=u then x::L else L).map λx=>(x.r.name,x.rc.cs))
 id:q9 IdK tC W bi (if di=u then x::L else L).length ((if di=u then x::L else L).map λx=>((x.r.id:Int),x.rc.cs))
 sub:∀y,y∈x::L->nK.nA W (λk=>r<k) (G y.ou y.r.ty.sub.length y.cu) y.r.ty.sub
 en:mY W g #[V mP x.r.id,H x.r.name,H x.r.text] Xx
 ty:mY W kt #[V X x.r.ty.lab.kind,V X x.r.ty.lab.size,G x.ou x.r.ty.sub.length x.cu,V X x.r.ty.lab.tail] Ju
 kp:rF (λd=>d=bn\/d=bi) w0 W
 fr:(∀y,y∈L->y.r.name≠x.r.name)/\(∀y,y∈L->y.r.id≠x.r.id)/\x.r.name.size<=jd/\x.r.id<18446744073709551616/\L.length<1000
 lt:bn≠bi/\r≠bn/\r≠bi/\g≠bn/\g≠bi/\kt≠bn/\kt≠bi
section
variable {g r bn bi kt:Nat}{c:nU}{L:List oJ}{x:oJ}{w0:K}{dn di:Bool}{W W':K}
def Lf.below(h:Lf g r bn bi kt c L x w0 dn di W)(hb:iR W.heap.size W W'):Lf g r bn bi kt c L x w0 dn di W':=
 ⟨a7 hb h.rg h.rg.lt,h.nm.below hb,h.id.below hb,λy hy=>Shape.nA.below (h.sub y hy) hb,a7 hb h.en h.en.lt,a7 hb h.ty h.ty.lt,h.kp.trans (F':=λ_=>False) (rF.of hb) (λ_ _ h=>h.elim),h.fr,h.lt⟩
def Lf.upd(h:Lf g r bn bi kt c L x w0 dn di W)(A:oO b W W')(hb:b=bn\/b=bi)(hc:∀o,W.cell? (Z b o U)=U)(N:∀o,W'.cell? (Z b o U)=U){C E:Bool}(hn:q9 NmK tC W' bn (if C=u then x::L else L).length ((if C=u then x::L else L).map λx=>(x.r.name,x.rc.cs)))(hi:q9 IdK tC W' bi (if E=u then x::L else L).length ((if E=u then x::L else L).map λx=>((x.r.id:Int),x.rc.cs))):Lf g r bn bi kt c L x w0 C E W':=by
 have hk:∀d,d<W.heap.size->d≠b->W'.heap[d]? =W.heap[d]? :=λd hd hn=>A.block d hd λe=>hn (kU e)
 have q:∀{d:Nat}{cs:Array iQ}{t:jl},mY W d cs t->d≠b->mY W' d cs t:=λhB hd=>by unfold mY;rw[hk _ hB.lt hd];exact hB
 have l:=h.lt;refine⟨q h.rg I,hn,hi,λy hy=>Shape.nA.xO (h.sub y hy) A.size λd o hd=> ?_,q h.en I,q h.ty I,h.kp.trans (F':=λd=>d=b) ⟨A.os,A.tape,A.output,A.size,λd hd J=>hk d hd J⟩ (λd _ J=>by have J:d=b:=J;rcases hb with e|e<;>subst e<;>simp[J]),h.fr,h.lt⟩;by_cases e:d=b;.rw[e,hc,N]
 .exact World.cell?_of_block (w:=W) (a:=(Z d o U)) (hk d hd e)
def Jv{κ:Type}[DecidableEq κ](f:oJ->κ)(k:κ)(L:List oJ)(h:∀y,y∈L->f y≠k):(L.map λx=>(f x,x.rc.cs)).filter (λp=>p.1 !=k)=L.map λx=>(f x,x.rc.cs):=by
 rw[List.filter_eq_self];intro p hp;obtain⟨y,hy,rfl⟩:=List.mem_map.1 hp;simpa using h y hy
def Lf.a2M(h:Lf g r bn bi kt c L x w0 M di W):∃W',(Instr.mapUpdate 130 (.map (O bn)) (H x.r.name) (mI x.rc.cs)).run iN W=.ok () W'/\Lf g r bn bi kt c L x w0 u di W':=by
 have⟨W',A,C,E⟩:=q9.store (x:=x.r.name) h.nm Tryz.underlying130 h.fr.2.2.1 x.rc.cs (by have:=h.fr.2.2.2.2;unfold jd;simp;omega);rw[At ny,Jv (λy=>y.r.name) x.r.name L h.fr.1]at C;refine⟨W',A,h.upd E (.inl rfl) (wT h.nm) (wT C) (by rw[Ax rfl];exact C) (h.id.block (E.block bi h.id.lt λe=>h.lt.1 (kU e).symm))⟩
def Lf.b0m(h:Lf g r bn bi kt c L x w0 dn M W):∃W',(Instr.mapUpdate 131 (.map (O bi)) (V mP x.r.id) (mI x.rc.cs)).run iN W=.ok () W'/\Lf g r bn bi kt c L x w0 dn u W':=by
 have⟨W',A,C,E⟩:=q9.store (x:=(x.r.id:Int)) h.id Tryz.underlying131 (UN h.fr.2.2.2.1) x.rc.cs (by have:=h.fr.2.2.2.2;unfold jd;simp;omega);rw[At ny,Jv (λy=>(y.r.id:Int)) (x.r.id:Int) L λy hy e=>h.fr.2.1 y hy I]at C;refine⟨W',A,h.upd E (.inr rfl) (wT h.id) (wT C) (h.nm.block (E.block bn h.nm.lt λe=>h.lt.1 (kU e))) (by rw[Ax rfl];exact C)⟩
end
noncomputable def Ha:List kC:=cO (cL (cL (cR (cB Tryz.f87))))
section
variable (g r bn bi:Nat)(c:nU)(L:List oJ)(JZ:Nat)(nm tx:An)(w0:K)(k:Nat)(b:Bool)(x:RC)
def Bl:Nat->iQ
 |0=> mG (O (Z r 0 U))
 |1=> mG (O (Z r 0 U))
 |2=> mG (O (Z r 6 U))
 |3=> .map (O bn)
 |4=> mG (O (Z g 1 U))
 |5=> H nm
 |6=> mJ #[mI #[V mP x.i,H x.nm,H x.tx,V X x.k,V X x.z,G x.ou x.nu x.cu,V X x.tl],mH b]
 |7=> mJ #[mI #[V mP x.i,H x.nm,H x.tx,V X x.k,V X x.z,G x.ou x.nu x.cu,V X x.tl],mH b]
 |8=> mI #[V mP x.i,H x.nm,H x.tx,V X x.k,V X x.z,G x.ou x.nu x.cu,V X x.tl]
 |9=> mH b
 |10=> mG (O (Z k 0 U))
 |12=> mH b
 |_=>jw
structure a8L(D:Nat->Bool)(vs:Nat->iQ)(w:K):Prop where
 nP:Yy g r bn bi c L JZ nm tx w0 k (D 10) w
 val:∀j,(u)=u->D j=u->vs j=Bl g r bn nm k b x j
variable {g r bn bi c L JZ nm tx w0 k b x}
def Vj(h:p:=by
 have hW:=hI.nP;rw[hd]at hW;have hz:w.heap.size=k:=by simpa using hW.sz
 go_simp;refine hK (mG (O (Z k 0 U))) _ _ rfl ⟨?_,uj hI.val⟩;rw[nL];exact hW.made):p:=h
def a0G(h:p:=by
 have d10:=hw 10 mX mZ;have hW:=hI.nP;rw[d10]at hW;have⟨y,hB⟩:=hW.bk rfl;have⟨⟨z0,z1,z2,z3,z4,z5,z6⟩,f0,f1,f2,f3,f4,f5,f6⟩:=pW hB;go_simp;rw[Be];refine hK jw _ _ rfl ⟨?_,uj hI.val⟩;rw[nz D (show 10≠11 by decide),d10];exact hW.put x h0):p:=h
def a3V{id:Nat}(ht0:a0.tmps.getD 0 jw=mG (O (Z r 0 U)))(ht3:a0.tmps.getD 3 jw=mG (O (Z g 0 U)))(hl:∀W,pY r bn bi c L W->(Instr.lookup 130 (.map (O bn)) (H nm) u).run iN W=.ok (mJ #[mI #[V mP x.i,H x.nm,H x.tx,V X x.k,V X x.z,G x.ou x.nu x.cu,V X x.tl],mH b]) W)(h0:pY r bn bi c L w0)(hsz:a0.tmps.size=76)(hI0:∀vs:Nat->iQ,(λw=>Yy g r bn bi c L JZ nm tx w0 k M w) ws.drew)(E:∀(vs:Nat->iQ) (w:K),Yy g r bn bi c L JZ nm tx w0 k u w->Q .normal {a0 with tmps:=vG a0.tmps [(12,mG (O (Z r 0 U))),(13,mG (O (Z r 0 U))),(14,mG (O (Z r 6 U))),(15,.map (O bn)),(16,mG (O (Z g 1 U))),(17,H nm),(18,mJ #[mI #[V mP x.i,H x.nm,H x.tx,V X x.k,V X x.z,G x.ou x.nu x.cu,V X x.tl],mH b]),(11,mJ #[mI #[V mP x.i,H x.nm,H x.tx,V X x.k,V X x.z,G x.ou x.nu x.cu,V X x.tl],mH b]),(19,mI #[V mP x.i,H x.nm,H x.tx,V X x.k,V X x.z,G x.ou x.nu x.cu,V X x.tl]),(20,mH b),(5,mG (O (Z k 0 U))),(6,mH b)]} w):
  (jZ id Ha.toArray u).wp iN Q a0 ws:=by
 refine nJ 13 76 (a8L g r bn bi c L JZ nm tx w0 k b x) mZ hsz mZ (.inl rfl) mZ ?_ ?_ ?_;.exact qg
 .refine rR λA ai=> ?_
  clear hI0 E hsz;replace ht0:=Y ht0;replace ht3:=Y ht3;replace hl:=Y hl;replace h0:=Y h0;dsimp+instances only[Ha,cO,cL,cR,cB,Tryz.f87];simp only[jm,jI,qU];refine⟨?_,?_,?_,?_,?_,?_,?_,?_,?_,?_,?_,?_,?_,trivial⟩<;>(intro D vs a w aq hI hd hw aj C hK;subst ai;dsimp+instances only[Ha,cO,cL,cR,cB,Tryz.f87]);have ay:=(C 0 mX).trans ht0.out;rotate_left;have ak:=fe C hI.val hw 12 0;rotate_left;have au:=fe C hI.val hw 13 1;rotate_left;have J:=fe C hI.val hw 14 2;simp only[Bl]at J;have c0:=hI.nP.b.rg.rg.c6;rotate_left;have e3:=(C 3 mX).trans ht3.out;rotate_left;have N:=fe C hI.val hw 16 4;simp only[Bl]at N;have c0:=hI.nP.b.en.c1;rotate_left;have hl:=hl.out;have aa:=fe C hI.val hw 15 3;have ae:=fe C hI.val hw 17 5;simp only[Bl]at aa ae;have q:=hl w hI.nP.b.rg;rotate_left;have av:=fe C hI.val hw 18 6;rotate_left;have af:=fe C hI.val hw 11 7;rotate_left;have af:=fe C hI.val hw 11 7;rotate_left;.exact Vj
  .have h0:=h0.out
   have e5:=fe C hI.val hw 5 10;have ag:=fe C hI.val hw 19 8;simp only[Bl]at e5 ag;exact a0G
  have ax:=fe C hI.val hw 20 9;rotate_left
  all_goals
   try simp only[Bl]at*
   go_simp;exact hK _ _ _ rfl ⟨hI.nP,uj hI.val⟩
 .intro D vs w ah hI
  have hw:=hI.nP;rw[ah 10 mX]at hw;have q:=E vs w hw;rw[oD hI.val ah];dsimp+instances only[Ha,cO,cL,cR,cB,Tryz.f87];exact qf
end
noncomputable def Hd:List kC:=cO (cL (cL (cR (cR (cB Tryz.f87)))))
section
variable (g r bn bi:Nat)(c:nU)(L:List oJ)(JZ:Nat)(nm tx:An)(w0:K)(k:Nat)(b:Bool)(x:RC)
def Bn:Nat->iQ
 |0=> mG (O (Z r 0 U))
 |1=> mG (O (Z r 0 U))
 |2=> mG (O (Z r 7 U))
 |3=> .map (O bi)
 |4=> mG (O (Z g 0 U))
 |5=> V mP JZ
 |6=> mJ #[mI #[V mP x.i,H x.nm,H x.tx,V X x.k,V X x.z,G x.ou x.nu x.cu,V X x.tl],mH b]
 |7=> mJ #[mI #[V mP x.i,H x.nm,H x.tx,V X x.k,V X x.z,G x.ou x.nu x.cu,V X x.tl],mH b]
 |8=> mI #[V mP x.i,H x.nm,H x.tx,V X x.k,V X x.z,G x.ou x.nu x.cu,V X x.tl]
 |9=> mH b
 |10=> mG (O (Z k 0 U))
 |12=> mH b
 |_=>jw
structure a8M(D:Nat->Bool)(vs:Nat->iQ)(w:K):Prop where
 nP:Yy g r bn bi c L JZ nm tx w0 k (D 10) w
 val:∀j,(u)=u->D j=u->vs j=Bn g r bi JZ k b x j
variable {g r bn bi c L JZ nm tx w0 k b x}
def a3W{id:Nat}(ht0:a0.tmps.getD 0 jw=mG (O (Z r 0 U)))(ht3:a0.tmps.getD 3 jw=mG (O (Z g 0 U)))(hl:∀W,pY r bn bi c L W->(Instr.lookup 131 (.map (O bi)) (V mP JZ) u).run iN W=.ok (mJ #[mI #[V mP x.i,H x.nm,H x.tx,V X x.k,V X x.z,G x.ou x.nu x.cu,V X x.tl],mH b]) W)(h0:pY r bn bi c L w0)(hsz:a0.tmps.size=76)(hI0:∀vs:Nat->iQ,(λw=>Yy g r bn bi c L JZ nm tx w0 k M w) ws.drew)(E:∀(vs:Nat->iQ) (w:K),Yy g r bn bi c L JZ nm tx w0 k u w->Q .normal {a0 with tmps:=vG a0.tmps [(29,mG (O (Z r 0 U))),(30,mG (O (Z r 0 U))),(31,mG (O (Z r 7 U))),(32,.map (O bi)),(33,mG (O (Z g 0 U))),(34,V mP JZ),(35,mJ #[mI #[V mP x.i,H x.nm,H x.tx,V X x.k,V X x.z,G x.ou x.nu x.cu,V X x.tl],mH b]),(28,mJ #[mI #[V mP x.i,H x.nm,H x.tx,V X x.k,V X x.z,G x.ou x.nu x.cu,V X x.tl],mH b]),(36,mI #[V mP x.i,H x.nm,H x.tx,V X x.k,V X x.z,G x.ou x.nu x.cu,V X x.tl]),(37,mH b),(7,mG (O (Z k 0 U))),(8,mH b)]} w):
  (jZ id Hd.toArray u).wp iN Q a0 ws:=by
 refine nJ 13 76 (a8M g r bn bi c L JZ nm tx w0 k b x) mZ hsz mZ (.inl rfl) mZ ?_ ?_ ?_;.exact qg
 .refine rR λA ai=> ?_
  clear hI0 E hsz;replace ht0:=Y ht0;replace ht3:=Y ht3;replace hl:=Y hl;replace h0:=Y h0;dsimp+instances only[Hd,cO,cL,cR,cB,Tryz.f87];simp only[jm,jI,qU];refine⟨?_,?_,?_,?_,?_,?_,?_,?_,?_,?_,?_,?_,?_,trivial⟩<;>(intro D vs a w aq hI hd hw ak C hK;subst ai;dsimp+instances only[Hd,cO,cL,cR,cB,Tryz.f87]);have az:=(C 0 mX).trans ht0.out;rotate_left;have au:=fe C hI.val hw 29 0;rotate_left;have av:=fe C hI.val hw 30 1;rotate_left;have J:=fe C hI.val hw 31 2;simp only[Bn]at J;have c0:=hI.nP.b.rg.rg.c7;rotate_left;have e3:=(C 3 mX).trans ht3.out;rotate_left;have N:=fe C hI.val hw 33 4;simp only[Bn]at N;have c0:=hI.nP.b.en.c0;rotate_left;have hl:=hl.out;have aa:=fe C hI.val hw 32 3;have ae:=fe C hI.val hw 34 5;simp only[Bn]at aa ae;have q:=hl w hI.nP.b.rg;rotate_left;have ax:=fe C hI.val hw 35 6;rotate_left;have af:=fe C hI.val hw 28 7;rotate_left;have af:=fe C hI.val hw 28 7;rotate_left;.exact Vj
  .have h0:=h0.out
   have aj:=fe C hI.val hw 7 10;have ag:=fe C hI.val hw 36 8;simp only[Bn]at aj ag;exact a0G
  have ay:=fe C hI.val hw 37 9;rotate_left
  all_goals
   try simp only[Bn]at*
   go_simp;exact hK _ _ _ rfl ⟨hI.nP,uj hI.val⟩
 .intro D vs w ah hI
  have hw:=hI.nP;rw[ah 10 mX]at hw;have q:=E vs w hw;rw[oD hI.val ah];dsimp+instances only[Hd,cO,cL,cR,cB,Tryz.f87];exact qf
end
noncomputable def D9:List kC:=cO (cL (cR (cR (cR (cR (cR (cR (cB Tryz.f87))))))))
section
variable (g r bn bi kt:Nat)(c:nU)(L:List oJ)(x:oJ)(w0:K)
def yT:Nat->iQ
 |0=> mG (O (Z r 0 U))
 |1=> mG (O (Z r 0 U))
 |2=> mG (O (Z r 6 U))
 |3=> .map (O bn)
 |4=> mG (O (Z g 1 U))
 |5=> H x.r.name
 |6=> mI #[V mP x.r.id,H x.r.name,H x.r.text]
 |7=> mI #[V X x.r.ty.lab.kind,V X x.r.ty.lab.size,G x.ou x.r.ty.sub.length x.cu,V X x.r.ty.lab.tail]
 |8=> mI #[V mP x.r.id,H x.r.name,H x.r.text,V X x.r.ty.lab.kind,V X x.r.ty.lab.size,G x.ou x.r.ty.sub.length x.cu,V X x.r.ty.lab.tail]
 |_=>jw
structure a6N(D:Nat->Bool)(vs:Nat->iQ)(w:K):Prop where
 nP:Lf g r bn bi kt c L x w0 (D 9) M w
 val:∀j,(u)=u->D j=u->vs j=yT g r bn x j
variable {g r bn bi kt c L x w0}
def Vk(h:p:=by
 unfold oJ.rc RC.cs at q;dsimp only at q;go_simp;refine hK jw _ _ rfl ⟨?_,uj hI.val⟩;rw[nL];exact hN):p:=h
def Qb{id:Nat}(ht0:a0.tmps.getD 0 jw=mG (O (Z r 0 U)))(ht3:a0.tmps.getD 3 jw=mG (O (Z g 0 U)))(Gy:a0.tmps.getD 9 jw=mG (O (Z kt 0 U)))(hsz:a0.tmps.size=76)(hI0:∀vs:Nat->iQ,(λw=>Lf g r bn bi kt c L x w0 M M w) ws.drew)(aa:∀(vs:Nat->iQ) (w:K),Lf g r bn bi kt c L x w0 u M w->Q .normal {a0 with tmps:=vG a0.tmps [(58,mG (O (Z r 0 U))),(59,mG (O (Z r 0 U))),(60,mG (O (Z r 6 U))),(61,.map (O bn)),(62,mG (O (Z g 1 U))),(63,H x.r.name),(64,mI #[V mP x.r.id,H x.r.name,H x.r.text]),(65,mI #[V X x.r.ty.lab.kind,V X x.r.ty.lab.size,G x.ou x.r.ty.sub.length x.cu,V X x.r.ty.lab.tail]),(66,mI #[V mP x.r.id,H x.r.name,H x.r.text,V X x.r.ty.lab.kind,V X x.r.ty.lab.size,G x.ou x.r.ty.sub.length x.cu,V X x.r.ty.lab.tail])]} w):
  (jZ id D9.toArray u).wp iN Q a0 ws:=by
 refine nJ 10 76 (a6N g r bn bi kt c L x w0) mZ hsz mZ (.inl rfl) mZ ?_ ?_ ?_;.exact qg
 .refine rR λA ax=> ?_
  clear hI0 aa hsz;replace ht0:=Y ht0;replace ht3:=Y ht3;replace Gy:=Y Gy;dsimp+instances only[D9,cO,cL,cR,cB,Tryz.f87];simp only[jm,jI,qU];refine⟨?_,?_,?_,?_,?_,?_,?_,?_,?_,?_,trivial⟩<;>(intro D vs a w aq hI hd E ay C hK;subst ax;dsimp+instances only[D9,cO,cL,cR,cB,Tryz.f87]);have aB:=(C 0 mX).trans ht0.out;rotate_left;have az:=fe C hI.val E 58 0;rotate_left;have aA:=fe C hI.val E 59 1;rotate_left;have ae:=fe C hI.val E 60 2;simp only[yT]at ae;have c0:=hI.nP.rg.c6;rotate_left;have e3:=(C 3 mX).trans ht3.out;rotate_left;have af:=fe C hI.val E 62 4;simp only[yT]at af;have c0:=hI.nP.en.c1;rotate_left;have e3:=(C 3 mX).trans ht3.out;have hB:=hI.nP.en;have⟨c0,c1,c2⟩:=hB.a3;clear hB;rotate_left;have aD:=(C 9 mX).trans Gy.out;have hB:=hI.nP.ty;have⟨c0,c1,c2,c3⟩:=hB.a4;clear hB;rotate_left;have J:=fe C hI.val E 64 6;have N:=fe C hI.val E 65 7;simp only[yT]at J N;have ag:=J;have ah:=N;rw[jJ]at ag;rw[jJ]at ah;rotate_left
  .have ai:=fe C hI.val E 61 3
   have aj:=fe C hI.val E 63 5;have ak:=fe C hI.val E 66 8;simp only[yT]at ai aj ak;have au:=hI.nP;rw[hd]at au;have⟨aF,q,hN⟩:=au.a2M;exact Vk
  all_goals
   try simp only[yT]at*
   go_simp;exact hK _ _ _ rfl ⟨hI.nP,uj hI.val⟩
 .intro D vs w av hI
  have E:=hI.nP;rw[av 9 mX]at E;have q:=aa vs w E;rw[oD hI.val av];dsimp+instances only[D9,cO,cL,cR,cB,Tryz.f87];exact qf
end
noncomputable def Ea:List kC:=cO (cL (cR (cR (cR (cR (cR (cR (cR (cB Tryz.f87)))))))))
section
variable (g r bn bi kt:Nat)(c:nU)(L:List oJ)(x:oJ)(w0:K)
def yU:Nat->iQ
 |0=> mG (O (Z r 0 U))
 |1=> mG (O (Z r 0 U))
 |2=> mG (O (Z r 7 U))
 |3=> .map (O bi)
 |4=> mG (O (Z g 0 U))
 |5=> V mP x.r.id
 |6=> mI #[V mP x.r.id,H x.r.name,H x.r.text]
 |7=> mI #[V X x.r.ty.lab.kind,V X x.r.ty.lab.size,G x.ou x.r.ty.sub.length x.cu,V X x.r.ty.lab.tail]
 |8=> mI #[V mP x.r.id,H x.r.name,H x.r.text,V X x.r.ty.lab.kind,V X x.r.ty.lab.size,G x.ou x.r.ty.sub.length x.cu,V X x.r.ty.lab.tail]
 |_=>jw
structure a6O(D:Nat->Bool)(vs:Nat->iQ)(w:K):Prop where
 nP:Lf g r bn bi kt c L x w0 u (D 9) w
 val:∀j,(u)=u->D j=u->vs j=yU g r bi x j
variable {g r bn bi kt c L x w0}
def a0H{id:Nat}(ht0:a0.tmps.getD 0 jw=mG (O (Z r 0 U)))(ht3:a0.tmps.getD 3 jw=mG (O (Z g 0 U)))(Gy:a0.tmps.getD 9 jw=mG (O (Z kt 0 U)))(hsz:a0.tmps.size=76)(hI0:∀vs:Nat->iQ,(λw=>Lf g r bn bi kt c L x w0 u M w) ws.drew)(aa:∀(vs:Nat->iQ) (w:K),Lf g r bn bi kt c L x w0 u u w->Q .normal {a0 with tmps:=vG a0.tmps [(67,mG (O (Z r 0 U))),(68,mG (O (Z r 0 U))),(69,mG (O (Z r 7 U))),(70,.map (O bi)),(71,mG (O (Z g 0 U))),(72,V mP x.r.id),(73,mI #[V mP x.r.id,H x.r.name,H x.r.text]),(74,mI #[V X x.r.ty.lab.kind,V X x.r.ty.lab.size,G x.ou x.r.ty.sub.length x.cu,V X x.r.ty.lab.tail]),(75,mI #[V mP x.r.id,H x.r.name,H x.r.text,V X x.r.ty.lab.kind,V X x.r.ty.lab.size,G x.ou x.r.ty.sub.length x.cu,V X x.r.ty.lab.tail])]} w):
  (jZ id Ea.toArray u).wp iN Q a0 ws:=by
 refine nJ 10 76 (a6O g r bn bi kt c L x w0) mZ hsz mZ (.inl rfl) mZ ?_ ?_ ?_;.exact qg
 .refine rR λA ax=> ?_
  clear hI0 aa hsz;replace ht0:=Y ht0;replace ht3:=Y ht3;replace Gy:=Y Gy;dsimp+instances only[Ea,cO,cL,cR,cB,Tryz.f87];simp only[jm,jI,qU];refine⟨?_,?_,?_,?_,?_,?_,?_,?_,?_,?_,trivial⟩<;>(intro D vs a w aq hI hd E ay C hK;subst ax;dsimp+instances only[Ea,cO,cL,cR,cB,Tryz.f87]);have aB:=(C 0 mX).trans ht0.out;rotate_left;have az:=fe C hI.val E 67 0;rotate_left;have aA:=fe C hI.val E 68 1;rotate_left;have ae:=fe C hI.val E 69 2;simp only[yU]at ae;have c0:=hI.nP.rg.c7;rotate_left;have e3:=(C 3 mX).trans ht3.out;rotate_left;have af:=fe C hI.val E 71 4;simp only[yU]at af;have c0:=hI.nP.en.c0;rotate_left;have e3:=(C 3 mX).trans ht3.out;have hB:=hI.nP.en;have⟨c0,c1,c2⟩:=hB.a3;clear hB;rotate_left;have aD:=(C 9 mX).trans Gy.out;have hB:=hI.nP.ty;have⟨c0,c1,c2,c3⟩:=hB.a4;clear hB;rotate_left;have J:=fe C hI.val E 73 6;have N:=fe C hI.val E 74 7;simp only[yU]at J N;have ag:=J;have ah:=N;rw[jJ]at ag;rw[jJ]at ah;rotate_left
  .have ai:=fe C hI.val E 70 3
   have aj:=fe C hI.val E 72 5;have ak:=fe C hI.val E 75 8;simp only[yU]at ai aj ak;have au:=hI.nP;rw[hd]at au;have⟨aF,q,hN⟩:=au.b0m;exact Vk
  all_goals
   try simp only[yU]at*
   go_simp;exact hK _ _ _ rfl ⟨hI.nP,uj hI.val⟩
 .intro D vs w av hI
  have E:=hI.nP;rw[av 9 mX]at E;have q:=aa vs w E;rw[oD hI.val av];dsimp+instances only[Ea,cO,cL,cR,cB,Tryz.f87];exact qf
end
end
section
open Go.RowKit
end
section
def a0I(n:Nat):List AC:=if h:n<10 then [jH (48+n)]else a0I (n/10)++[jH (48+n % 10)]
mutual
def put:mW TL->List AC
 | .node a s=>
  if a.kind=1 then 117::a0I (8*a.size).toNat
  else if a.kind=2 then 98::a0I a.size.toNat
  else if a.kind=3 then 115::a0I a.size.toNat
  else if a.kind=4 then 91::(a6P u 0 s++58::(a0I a.size.toNat++[93]))
  else 123::(a6P u a.tail.toNat s++[125])
def a6P:Bool->Nat->List (mW TL)->List AC
 |_,_,[]=>[]
 |first,t,x::A=>(if first then []else [44])++((if A.length+1<=t then [63]else [])++(put x++a6P M t A))
end
def Lg(ds:List AC)(b:AC):zh (ds++[b])=10*zh ds+(b.toNat - 48):=by simp[zh]
def Xy(l:List AC):pM l++past l=l:=by
 induction l with
 |nil=>rfl
 |cons b r A=>simp only[pM,past];split<;>simp_all
def a0J(l:List AC):∀b,b∈pM l->vC b=u:=by
 induction l with
 |nil=>intro b h;cases h
 |cons c r A=>
  intro b h;simp only[pM]at h;split at h
  .rcases l5.1 h with h|h
   .subst h;assumption
   .exact A b h
  .cases h
end
end Go.Proofs.YtamfcjmhnndbdaaGreatDoor


