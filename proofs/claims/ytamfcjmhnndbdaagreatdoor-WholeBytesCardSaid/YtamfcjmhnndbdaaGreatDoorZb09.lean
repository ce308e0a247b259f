/- Part 9 of the proof. -/
import Derived.Test.YtamfcjmhnndbdaaGreatDoorZb08
open Go.Value renaming agg→mI,bool→mH,int→V,pointer→mG,slice→G,string→H,tuple→mJ,slice→jM,int→lL
open Go.Obj renaming cells→mM
open Go.IntKind renaming i64→X,u32→mQ,u64→mP
open Go.Ending renaming returned→mK
open Go.Lib renaming hid→Y,splitN→kY
open Go.Proofs.Tryz renaming prog→iN
open Go renaming World→K,Value→iQ,Calls→iW,maxLen→jd,TypeId→jl,results→jv,undef→jw,Addr→j4,Oper→kC,Ending→kV,Act→lY
open Go.RowKit renaming Below→iR,Hid→R,intOf→jF
open And renaming intro→iU
open List renaming replicate→jC
open Go.World renaming setCell→jr
open UInt8 renaming ofNat→jH
open Go.Code renaming region→jZ
open Go.Sem renaming run→lJ
open Go.Act renaming put→l7
open Option renaming none→U,some→O
open Bool renaming true→u,false→M
open Go.Addr renaming mk→Z
open Decidable renaming decide→As
namespace Go.Proofs.YtamfcjmhnndbdaaGreatDoor
set_option linter.unusedVariables false
set_option linter.defProp false
set_option linter.unusedSimpArgs false
set_option maxRecDepth 100000
set_option maxHeartbeats 8000000
variable{A r:RS}{Bs:K->Prop}{D:Nat->Bool}{E:List tV}{L:List oJ}{P:kV->K->Prop}{Q:Exit->lY->K->Prop}{W w w' w0 w1 ws:K}{aw bi bn er g j k l lim sb:Nat}{b:Bool}{buf:List AC}{c:nU}{fa most nd:Int}{ms:Array iQ}{p:Prop}{rows:List Row}{t:jl}{tv va x y z:iQ}{vs:Nat->iQ}
variable {a a0:lY}
section
open Go.RowKit Go.Shelf
structure a5q(L:List Nat)(mx:S8->List AC->S8)(f0:S8):Prop where
 len:L.length=72
 first:∀j,j<8->(kA L)[64+j]? =O (V mQ ((f0.get j).toNat:Int))
 mix:∀(st:S8)(s:An)(w:K),s.size=64->iW iN 152 #[mI (kA L),mI st.cs,H s] w λe w'=>e=mK (mI (mx st s.data.toList).cs)/\iR w.heap.size w w'
def AZ:JL.length=72:=tH _ _ _
def a4t:a5q JL Gs rE where
 len:=AZ
 first j h:=by
  rw[NA _ _ (by rw[AZ];omega),VO,jN,kX ny,cX,List.length_range,show 64+j - 64=j by omega];have:j=0\/j=1\/j=2\/j=3\/j=4\/j=5\/j=6\/j=7:=I;rcases this with rfl|rfl|rfl|rfl|rfl|rfl|rfl|rfl<;>rfl
 mix st s w h:=a4q st s w h
def Tu(x:UInt32)(a b c d:Int)(A:a=(x.toNat:Int)/16777216 % 256)(hb:b=(x.toNat:Int)/65536 % 256)(hc:c=(x.toNat:Int)/256 % 256)(hd:d=(x.toNat:Int) % 256):
  [lL .u8 a,V .u8 b,V .u8 c,V .u8 d]=nI (uR x):=by
 subst A;subst hb;subst hc;subst hd;exact tK x
def Tv(S:An):(S.extract 0 64).data.toList=S.data.toList.take 64:=by
 rw[lI];simp
def Tw(S:An):(S.extract 64 S.size).data.toList=S.data.toList.drop 64:=by
 rw[lI,kK (by rw[jP,<-kJ];exact iP _)]
def a1G(L:List Nat)(mx:S8->List AC->S8)(f0:S8)(au:a5q L mx f0)(s:An)(w:K)(hs:s.size<=100000)(r:S8)(aS:sU mx (s.data.toList++zb s.size) 0 f0 r):
  iW iN 114 #[mI (kA L),H s] w λe w'=>e=mK (H ⟨r.out.toArray⟩)/\iR w.heap.size w w':=by
 have A:=au.first
 have ah:(kA L).size=72:=by rw[Bt,au.len]
 obtain⟨B,hB⟩:=o7 w;have⟨KA,av⟩:∃KA,KA=kA L:=⟨_,rfl⟩;rw[<-av]at A ah;have ai:=au.mix;rw[<-av]at ai|-;have aU:=Y ai;have aX:=Y ah;have cp:=Y (λw=>a4s s.size w I);have aY:=xV s.size;have⟨ak,aj⟩:∃ak:An,ak=⟨(zb s.size).toArray⟩:=⟨_,rfl⟩;have bG:ak.size<=72:=by rw[aj,size_mk];omega
 have aJ:(s++ak).data.toList=s.data.toList++zb s.size:=by rw[aj];simp
 rw[<-aJ]at aS;rw[<-aj]at cp;have aZ:=Y aS;have bg:(mY (w.alloc (mM KA 33)) B KA 33):=hB▸mY.new w KA _;have J:iR B w (w.alloc (mM KA 33)):=(iT _ _).alloc I _;have aF:=Y (iU bg J);have bq:=Y A;rw[hB];clear au A ah aS av ai aj aJ aY bg J;go_in;go_wp2_with fail;refine pG (cp _) λw1 ax=> ?_
 have hlt:=aF.1.lt;have C:=a7 ax aF.1 hlt;have aK:=aF.2.trans (ax.mono I);have A:=bq.out;have c0:w1.cell? (Z B 64 U)=O (V mQ (f0.a.toNat:Int)):=(C.cell _).trans (A 0 I);have c1:w1.cell? (Z B 65 U)=O (V mQ (f0.b.toNat:Int)):=(C.cell _).trans (A 1 I);have c2:w1.cell? (Z B 66 U)=O (V mQ (f0.c.toNat:Int)):=(C.cell _).trans (A 2 I);have c3:w1.cell? (Z B 67 U)=O (V mQ (f0.d.toNat:Int)):=(C.cell _).trans (A 3 I);have c4:w1.cell? (Z B 68 U)=O (V mQ (f0.e.toNat:Int)):=(C.cell _).trans (A 4 I);have c5:w1.cell? (Z B 69 U)=O (V mQ (f0.f.toNat:Int)):=(C.cell _).trans (A 5 I);have c6:w1.cell? (Z B 70 U)=O (V mQ (f0.g.toNat:Int)):=(C.cell _).trans (A 6 I);have c7:w1.cell? (Z B 71 U)=O (V mQ (f0.h.toNat:Int)):=(C.cell _).trans (A 7 I);have aV:B<w1.heap.size:=C.lt;have bu:=Y (iU (C.alloc (mM f0.cs 31)) (iU (mY.new w1 f0.cs 31) (aK.alloc I (mM f0.cs 31))));clear C aK A aF bq ax hlt;go_upto_region 3 with fail;have aW:=bu.out;have ay:(s++ak).size<=100100:=by rw[cg];omega
 clear c0 c1 c2 c3 c4 c5 c6 c7 bu cp;generalize s++ak=S at*;obtain⟨aa,aL⟩:=o7 w1;rw[aL]at aW aV|-;refine rY (λW=>mY W B KA 33/\mY W aa f0.cs 31/\iR B w W) aW ?_;clear aW aL w1;rintro w1 ⟨hk,az,J⟩;have aG:=Y (iU hk (iU az J));clear hk az J;go_wp2;go_loopw [1] (λsv wr=>∃(S:An) (g:S8),sv=H S/\S.size<=100100/\R (sU mx S.data.toList 0 g r)/\R (mY wr B KA 33/\mY wr aa g.cs 31/\iR B w wr)) (λsv _=>a81 sv);case atStart=>exact⟨S,f0,rfl,ay,aZ,aG⟩
 case round=>
  clear aZ aG ay w1;obtain⟨S,g,rfl,au,ag,ae⟩:=hrel;have E:aa<wr.heap.size:=ae.2.1.lt;by_cases c:0<S.size
  .have bH:64<=S.size:=by
    have⟨k,hk,hl⟩:=ag.out;rw[<-kJ]at hl;omega
   have N:=(ag.step (by rw[<-kJ];omega)).drop;rw[ll,<-Tv,mg,<-Tw]at N;have hsz:(S.extract 0 64).size=64:=by rw[iV];omega
   have aH:=Y (λw=>aU.out g (S.extract 0 64) w hsz);generalize mx g (S.extract 0 64).data.toList=g1 at aH N;have bz:=Y N;have bA:=λ(x:qX wr)=>(a7 x.is ae.2.1 E).eight
   have aM:R (∀W,(∃x:qX wr,W=x.at_)->mY W B KA 33):=by
    rintro _ ⟨x,rfl⟩;exact a7 x.is ae.1 I
   clear N hsz;go_upto_region 4 with fail;refine sQ 5 mZ mZ ?_;simp only[jm,jI,kZ,ll];go_big_quiet_want;refine vz 33 (.tmp 2) rfl B rfl _ KA _ aM lF rfl (by rw[aX.out];exact(zero_of_info (P:=iN) yZ).2) ?_;go_big_quiet_on;simp only[l7,Array.set!_eq_setIfInBounds,iX,jg,jf];unfold S8.cs at aH;repeat(go_big_quiet_step ((exact bp (aH _))))
   refine jT ?_;intro x;have af:=a7 x.is ae.2.1 E;have aA:=a7 x.is ae.1 I;have aB:=ae.2.2.trans (x.is.mono I);have bM:=af.eight;have fr:=af.free;have aG:=Y (iU (xP aA (show B≠aa by omega) g1) (iU (Ab af g1) (xC aB (show B<=aa by omega) g1)));clear af aB aA bA aM ae aH ag;obtain⟨bN,bI⟩:=x;simp only at*;go_wp2_with fail;refine⟨⟨S.extract 64 S.size,g1,rfl,by rw[iV];omega,bz,aG⟩,?_⟩;show(S.extract 64 S.size).size<S.size;rw[iV];omega
  .have bJ:S.size=0:=I
   obtain rfl:g=r:=ag.done (by rw[<-kJ];omega);clear ag;have aN:=ae.2.1;have aO:=ae.2.2;have bB:=Y aN;have aP:=Y aO;clear ae aN aO;go_wp2;go_loopw [6,7] (λv i wr=>∃j:Nat,j<=8/\i=V X j/\nS wr (aa+1) 5 v (zf g j)/\R (mY wr aa g.cs 31)/\R (iR B w wr)/\aa<wr.heap.size) (λ_ i _=>8 -(jF i).toNat);case atStart=>exact⟨0,I,rfl,nS.nil _ _ _,bB,aP,E⟩
   case round=>
    clear bB aP E;obtain⟨j,bO,rfl,aD,az,J,E⟩:=hrel;by_cases bD:j<8
    .have bP:wr.cell? (Z aa j U)=O (V mQ ((g.get j).toNat:Int)):=(az.cell _).trans (a1D g j bD)
     have bQ:=(g.get j).toNat_lt;have aQ:zf g (j+1)=zf g j++uR (g.get j):=rfl;have bK:(zf g j).length<=32:=by
      have:∀n,(zf g n).length=4*n:=by
       intro n;induction n with
       |zero=>rfl
       |succ n bE=>rw[zf,jo,bE];show 4*n+4=_;omega
      rw[this];omega
     generalize g.get j=x at*;have bC:=Y aQ;clear aQ;go_wp2_with (at_builtin;refine ow Im rfl (.tmp 33) (.tmp 48) rfl (aa+1) _ _ (uR x) 4 rfl wr _ (Tu x _ _ _ _ I I I I) rfl aD rfl I I ?_;intro v' w' aI aR bF);go_roundw;case rel=>exact⟨j+1,I,by go_num,by rw[bC.out];exact aI,a7 aR az I,J.trans (aR.mono I),I⟩
     case measure=>simp[jF];omega
    .obtain rfl:j=8:=I
     have bL:=aD.string Im;go_wp2;go_returns;exact⟨by rw[OP];rfl,J.out⟩
def a4u(s:An)(w:K)(hs:s.size<=100000):
  iW iN 114 #[mI (kA JL),H s] w λe w'=>e=mK (H ⟨(Bz s.data.toList).toArray⟩)/\iR w.heap.size w w':=by
 have hl:s.data.toList.length=s.size:=rfl;have h:=a1G JL Gs rE a4t s w hs _ (sU.start Gs (s.data.toList++zb s.size) rE (by rw[jo,hl,xV];omega));exact h
structure QF(KA:Array iQ)(f:List AC->List AC):Prop where
 size:(Tryz.prog.info? 33).map (·.size)=O KA.size
 len:∀l,(f l).length=32
 one:KA.all (·.oneCell')=u
 sum:∀(s:An)(w:K),s.size<=100000->iW iN 114 #[mI KA,H s] w λe w'=>e=mK (H ⟨(f s.data.toList).toArray⟩)/\iR w.heap.size w w'
def Tx:QF (kA JL) Bz where
 size:=by rw[Bt,AZ];exact(zero_of_info (P:=iN) yZ).2
 len:=Ac
 one:=a1w _
 sum s w h:=a4u s w h
def Ty(KA:Array iQ)(f:List AC->List AC)(E:QF KA f)(s:An)(w:K)(hs:s.size<=100000):
  iW iN 73 #[mI KA,H s] w λe w'=>e=mK (H ⟨((f (f s.data.toList)).take 4).toArray⟩)/\iR w.heap.size w w':=by
 have c1:=λw=>E.sum s w hs
 have ae:=E.len s.data.toList;have⟨J,A⟩:∃J:An,J=⟨(f s.data.toList).toArray⟩:=⟨_,rfl⟩;have ah:J.size=32:=by rw[A,size_mk,ae]
 have af:J.data.toList=f s.data.toList:=by rw[A]
 have c2:=λw=>E.sum J w I
 have N:=E.len J.data.toList;rw[af]at c2 N;rw[<-A]at c1;have⟨aa,C⟩:∃aa:An,aa=⟨(f (f s.data.toList)).toArray⟩:=⟨_,rfl⟩;have ax:aa.size=32:=by rw[C,size_mk,N]
 have hd2:(⟨((f (f s.data.toList)).take 4).toArray⟩:An)=aa.extract 0 4:=by
  apply cS;apply Array.ext';rw[lI,C];rfl
 rw[<-C]at c2;rw[hd2];have au:=Y c1;have av:=Y c2;have ai:=Y E.size;clear c1 c2 ae N A C af hd2 ah E;obtain⟨B,hB⟩:=o7 w;have aj:R (mY (w.alloc (mM KA 33)) B KA 33):=hB▸mY.new w KA _;have ak:R (iR B w (w.alloc (mM KA 33))):=(iT _ _).alloc I _;rw[hB];go_in;go_upto_region 1 with fail;have hlt:=aj.lt;generalize w.alloc (mM KA 33)=w1 at*;have ag:R (∀W,(∃x:qX w1,W=x.at_)->mY W B KA 33):=by
  rintro _ ⟨x,rfl⟩;exact a7 x.is aj hlt
 refine nG mZ mZ ?_;go_big_quiet_want;refine vz 33 (.tmp 2) rfl B rfl _ KA _ ag lF rfl ai ?_;go_big_quiet_on;simp only[l7,iX,jg,jf];go_big_quiet_want;refine vz 33 (.tmp 2) rfl B rfl _ KA _ ag lF rfl ai ?_;go_big_quiet_on;simp only[l7,iX,jg,jf];go_big_quiet_step (fail);go_big_quiet_step (exact bp (au _));go_big_quiet_step (exact bp (av _));repeat(go_big_quiet_step (fail))
 refine jT ?_;intro x;go_wp2;go_returns;exact⟨rfl,ak.trans (x.is.mono I)⟩
end
section
open Go.RowKit
abbrev zV:jl:=33
def JO(hk:mY w1 g #[x,y,z] pR)(f0 f1 f2 n e:iQ)(C:a.tmps.getD 8 jw=mG (O (Z g 0 U)))(E:a.tmps.getD 9 jw=n)(A:a.tmps.getD 10 jw=e)(hd:a.defers=[])(J:P (mK (mJ #[mI #[f0,f1,f2],n,e])) (q8 w1 g f0 f1 f2)):bodyPost iN Tryz.f40 P .ret a (q8 w1 g f0 f1 f2):=by
 have⟨N,aa,ae⟩:=qa (oU (a:=f0) (b:=f1) (c:=f2) hk);refine iY (v:=mJ #[mI #[f0,f1,f2],n,e]) ?_ hd J;rw[jJ]at C E A;simp[jv,Tryz.results40,go_sem,N,aa,ae,C,E,A]
def Ev{f:Nat->Int}(h:∀i,i<j->f i=0)(C:f j=0):∀i,i<j+1->f i=0:=λi hi=>by
 rcases jL i j with A|A
 .exact h i A
 .obtain rfl:i=j:=I
  exact C
def LG{er:Int}(h:b=M):wF b er=er:=by rw[h];rfl
def LH{er:Int}(h:b=u):wF b er=0:=by rw[h];rfl
def a1H{s:An}{m:Int}{v:Nat}(A:∀i,i<j->rV s m most i=0)(C:rV s m most j=(v:Int))(h0:v≠0)(E:j<9):qp s m most=.error v:=by
 have h:sV (rV s m most) 9 0=(v:Int):=by rw[Fp (j:=j) I 9 0 I I λi _ hi=>A i hi,C]
 unfold qp;rw[h,At I];rfl
def Yb{s:An}{m:Int}(A:∀i,i<9->rV s m most i=0):qp s m most=.ok (⟨0,uM s,s.extract 24 (24+qz s)⟩,24+qz s):=by
 have h:sV (rV s m most) 9 0=0:=by
  simp only[sV];simp[A]
 unfold qp;rw[Ax h]
def a1I{s:An}(C:4<=s.size)(A:aw<4294967296):((oM (s.extract 0 4).data.toList:Int)==(aw:Int))=((s.extract 0 4).toList==(⟨(xQ 4 aw).toArray⟩:An).toList):=by
 have hl:(s.extract 0 4).data.toList.length=4:=by simp[iV];omega
 by_cases h:oM (s.extract 0 4).data.toList=aw
 .have e2:=CW (s.extract 0 4).data.toList
  rw[hl,h]at e2;have e:s.extract 0 4=⟨(xQ 4 aw).toArray⟩:=Dr (by rw[e2]);rw[str_eq e,h];simp
 .rw[Ro λe=>h (by rw[e];exact Og 4 aw A),bj]
  omega
def NG(h:p:=by
 simp only[IntKind.wrap,IntKind.signed,IntKind.bits];exact Int.emod_eq_of_lt I I):p:=h
def NH(h:p:=by
 go_wp2_with fail;rw[nO];exact JO HF2 _ _ _ _ _ rfl rfl rfl rfl (HQ 2 _ HE (oK HW2 hgg _ _ _))):p:=h
def Tz(KA:Array iQ)(aY:QF KA Bz)(s:An)(m most:Int)(w:K)(bE:0<=m/\m<=4294967295)(bR:most<=65536)(hs:s.size<=100000):
  iW iN 40 #[mI KA,V mQ m,V X most,H s] w (uZ (qp s m most) w):=by
 obtain⟨aw,rfl⟩:∃aw:Nat,m=aw:=⟨m.toNat,I⟩;have bS:aw<4294967296:=I;have bz:=Y (λW=>Nw aw W I);have aj:=Y (λ(W:K) (h:16<=s.size)=>X3 (s.extract 4 16) W (by rw[iV];omega));have bA:=Y (λW=>sZ (s.extract 16 20) W (by rw[iV];unfold jd;omega));have aZ:R (∀W,iW iN 71 #[H ⟨(s.extract 16 20).data.toList.reverse.toArray⟩] W λe w'=>e=mK (V mP (qz s))/\W=w'):=Y λW=>by
  have:=uC ⟨(s.extract 16 20).data.toList.reverse.toArray⟩ W (by rw[size_mk,lC];simp[iV];omega);unfold qY at this;rw[lW,lU]at this;exact this
 have⟨N,ai⟩:=nE (qz s);have bT:N<4294967296:=by
  rw[<-ai];have h1:=qD (s.extract 16 20).data.toList;have h2:(s.extract 16 20).data.toList.length<=4:=by simp[iV];omega
  exact H6
 have bB:=Y (λW=>Ty KA Bz aY (s.extract 24 (24+N)) W (by rw[iV];omega));have⟨aE,ax⟩:=nE (qp s aw most);have A:R (∀{j v:Nat},(∀i,i<j->rV s aw most i=0)->rV s aw most j=(v:Int)->v≠0->j<9->aE=.error v):=Y λbg bF h0 bG=>by rw[<-ax];exact a1H bg bF h0 bG
 have aa:R ((∀i,i<9->rV s aw most i=0)->aE=.ok (⟨0,uM s,s.extract 24 (24+N)⟩,24+N)):=Y λbg=>by rw[<-ax,<-ai];exact Yb bg
 have ay:R (rV s aw most 0=wF (As (4<=s.size)) 2):=Y rfl;have ak:R (4<=s.size->rV s aw most 1=wF ((s.extract 0 4).toList==(⟨(xQ 4 aw).toArray⟩:An).toList) 9):=Y λh=>by rw[<-a1I h I];rfl
 have au:R (rV s aw most 2=wF (As (16<=s.size)) 2):=Y rfl;have ag:R (rV s aw most 3=wF (vY (s.extract 4 16)).isSome 3):=Y rfl;have ah:R (rV s aw most 4=wF (As (20<=s.size)) 2):=Y rfl;have af:R (rV s aw most 5=wF (As ((N:Int)<=most)) 5):=Y (by rw[<-ai];rfl);have ae:R (rV s aw most 6=wF (As (24<=s.size)) 2):=Y rfl;have J:R (rV s aw most 7=wF (As (24+N<=s.size)) 2):=Y (by rw[<-ai];rfl);have C:R (rV s aw most 8=wF ((s.extract 20 24).toList==(⟨(checkN (s.extract 24 (24+N)).data.toList).toArray⟩:An).toList) 10):=Y (by rw[<-ai];rfl);have e3:checkN (s.extract 24 (24+N)).data.toList=(Bz (Bz (s.extract 24 (24+N)).data.toList)).take 4:=rfl;rw[e3]at C;have bH:=Y aY.size;obtain⟨g,hg⟩:=o7 w;have aN:R (∀W,(w.alloc (mM KA zV)).alloc (mM #[V mP 0,H ⟨#[]⟩,H ⟨#[]⟩] pR)=W->mY W g KA zV/\mY W (g+1) #[V mP 0,H ⟨#[]⟩,H ⟨#[]⟩] pR/\iR w.heap.size w W):=Y λW bI=>by
  subst bI;have k:=mY.new (w.alloc (mM KA zV)) #[V mP 0,H ⟨#[]⟩,H ⟨#[]⟩] pR;have av:(w.alloc (mM KA zV)).heap.size=g+1:=by simp[hg]
  rw[av]at k;exact⟨(hg▸mY.new w KA zV).alloc _,k,((iT w.heap.size w).alloc (iP _) _).alloc ny _⟩
 have⟨bJ,aO⟩:∃ac:An,(⟨(xQ 4 aw).toArray⟩:An)=ac:=⟨_,rfl⟩;have⟨bU,aP⟩:∃ac:An,(⟨(s.extract 16 20).data.toList.reverse.toArray⟩:An)=ac:=⟨_,rfl⟩;have⟨bK,aQ⟩:∃ac:An,(⟨((Bz (Bz (s.extract 24 (24+N)).data.toList)).take 4).toArray⟩:An)=ac:=⟨_,rfl⟩;have⟨bq,az⟩:=nE (uZ aE w);have bL:=Y az;have HQ:R (∀(er:Nat) W,aE=.error er->iR w.heap.size w W->bq (mK (mJ #[mI #[V mP 0,H ⟨#[]⟩,H ⟨#[]⟩],V X 0,V X (er:Nat)])) W):=Y λer W h hb=>by
  subst h;rw[<-az];exact⟨hb,rfl⟩
 have bC:=Y hg;rw[ax,az];rw[aO]at bz ak;rw[aP]at bA aZ;rw[aQ]at bB C;rw[ai]at aZ;clear aY bE ai ax e3 aO aP aQ az;go_in;go_upto_region 1 with fail;have⟨hk,E,hb⟩:=aN.out _ rfl;generalize (w.alloc _).alloc _=w1 at*;have bu:=Y hk;have aA:=Y E;have aB:=Y hb;have⟨f0,f1,f2⟩:=qa E;have⟨z0,av,aD⟩:=E.f3;have hgg:R (w.heap.size<=g+1):=Y (by have:=bC.out;omega);clear aN hk hb E;by_cases c0:4<=s.size;rotate_left
 .have HE:R (aE=.error 2):=Y (A (j:=0) (λi hi=>by omega) (ay.trans (LG (bh c0))) mX mX)
  clear ak au ag ah af ae J C;go_wp2_with fail;rw[nO];exact JO aA _ _ _ _ _ rfl rfl rfl rfl (HQ 2 _ HE (oK aB hgg _ _ _))
 have aF:R (∀i,i<1->rV s aw most i=0):=Y (Ev (λi hi=>by omega) (ay.trans (LH (a8 c0))));have bM:IntKind.u64.wrap (aw:Int)=aw:=by
  exact NG
 go_upto_region 3 with fail;refine nG mZ mZ ?_;repeat(go_big_quiet_step (fail))
 go_big_quiet_step (exact bp (bz _));repeat(go_big_quiet_step (fail))
 refine jT ?_;intro x;have E:=a7 x.is aA aA.lt;have hk:=a7 x.is bu bu.lt;have HW2:=Y (aB.trans (x.is.mono aB.size));have HF2:=Y E;have aR:=Y hk;clear f0 f1 f2 z0 av aD aA bu aB hk;have⟨f0,f1,f2⟩:=qa E;have⟨z0,av,aD⟩:=E.f3;clear E;generalize x.at_=w2 at*;clear x;generalize ((s.extract 0 4).toList==bJ.toList)=b1 at*;cases b1 with
 |false=>
  have HE:R (aE=.error 9):=Y (A aF ((ak c0).trans rfl) mX mX);clear ay ak au ag ah af ae J C A aa aF;go_wp2_with fail;rw[nO];exact JO HF2 _ _ _ _ _ rfl rfl rfl rfl (HQ 9 _ HE (oK HW2 hgg _ _ _))
 |true=>
 have aG:R (∀i,i<2->rV s aw most i=0):=Y (Ev aF ((ak c0).trans rfl));clear ay ak aF;by_cases c2:16<=s.size;rotate_left
 .have HE:R (aE=.error 2):=Y (A aG (au.trans (LG (bh c2))) mX mX)
  clear au ag ah af ae J C A aa aG;exact NH
 have aH:R (∀i,i<3->rV s aw most i=0):=Y (Ev aG (au.trans (LH (a8 c2))));clear au aG;have aj:=Y (λW=>aj.out W c2);have aS:R (uM s=(vY (s.extract 4 16)).getD ⟨#[]⟩):=Y rfl;have⟨bN,aU⟩:=nE (vY (s.extract 4 16));rw[aU]at aj ag aS;clear aU;cases bN with
 |none=>
  have HE:R (aE=.error 3):=Y (A aH (ag.trans rfl) mX mX);clear ag ah af ae J C A aa aH;go_wp2_with fail;refine(aj _).mono ?_;rintro e w3 ⟨rfl,rfl⟩;go_wp2_with fail;rw[nO];exact JO HF2 _ _ _ _ _ rfl rfl rfl rfl (HQ 3 _ HE (oK HW2 hgg _ _ _))
 |some nm=>
 have aI:R (∀i,i<4->rV s aw most i=0):=Y (Ev aH (ag.trans rfl));clear ag aH;by_cases c4:20<=s.size;rotate_left
 .have HE:R (aE=.error 2):=Y (A aI (ah.trans (LG (bh c4))) mX mX)
  clear ah af ae J C A aa aI;go_wp2_with fail;refine(aj _).mono ?_;rintro e w3 ⟨rfl,rfl⟩;exact NH
 have aJ:R (∀i,i<5->rV s aw most i=0):=Y (Ev aI (ah.trans (LH (a8 c4))));clear ah aI;go_wp2_with fail;refine vE (aj _) ?_;go_wp2_with fail;refine vE (bA _) ?_;go_wp2_with fail;refine vE (aZ _) ?_;by_cases c5:(N:Int)<=most;rotate_left
 .have HE:R (aE=.error 5):=Y (A aJ (af.trans (LG (bh c5))) mX mX)
  have bO:As ((N:Int)>most)=u:=nk;clear af ae J C A aa aJ c5;go_wp2_with fail;rw[nO];exact JO HF2 _ _ _ _ _ rfl rfl rfl rfl (HQ 5 _ HE (oK HW2 hgg _ _ _))
 have aK:R (∀i,i<6->rV s aw most i=0):=Y (Ev aJ (af.trans (LH (a8 c5))));have bO:As ((N:Int)>most)=M:=nk;clear af aJ;by_cases c6:24<=s.size;rotate_left
 .have HE:R (aE=.error 2):=Y (A aK (ae.trans (LG (bh c6))) mX mX)
  clear ae J C A aa aK c5;exact NH
 have aL:R (∀i,i<7->rV s aw most i=0):=Y (Ev aK (ae.trans (LH (a8 c6))));clear ae aK;by_cases c7:24+N<=s.size;rotate_left
 .have HE:R (aE=.error 2):=Y (A aL (J.trans (LG (bh c7))) mX mX)
  have bP:As ((s.size:Int) - 24<(N:Int))=u:=nk;clear J C A aa aL c5;exact NH
 have aM:R (∀i,i<8->rV s aw most i=0):=Y (Ev aL (J.trans (LH (a8 c7))));have bP:As ((s.size:Int) - 24<(N:Int))=M:=nk;clear J aL;go_upto_region 18 with fail;have bD:=Y (a4l aR);refine nG mZ mZ ?_;go_big_quiet_want;refine vz zV (.tmp 4) rfl g rfl _ KA _ bD lF rfl bH ?_;go_big_quiet_on;simp only[l7,iX,jg,jf];go_big_quiet_step (fail);go_big_quiet_step (exact bp (bB _));repeat(go_big_quiet_step (fail))
 refine jT ?_;intro x;have E:=a7 x.is HF2 HF2.lt;have aV:=Y (HW2.trans (x.is.mono HW2.size));have aW:=Y E;clear f0 f1 f2 z0 av aD HF2 aR HW2;have⟨f0,f1,f2⟩:=qa E;have⟨z0,av,aD⟩:=E.f3;clear E;generalize x.at_=bV at*;rw[BEq.comm]at C;generalize (bK.toList==(s.extract 20 24).toList)=bQ at*;cases bQ with
 |false=>
  have HE:R (aE=.error 10):=Y (A aM (C.trans rfl) mX mX);clear C A aa aM c5;go_wp2_with fail;rw[nO];exact JO aW _ _ _ _ _ rfl rfl rfl rfl (HQ 10 _ HE (oK aV hgg _ _ _))
 |true=>
  have HE:=Y (aa (Ev aM (C.trans rfl)));clear C A aa aM c5;go_wp2_with fail;rw[nO];refine JO aW _ _ _ _ _ rfl rfl rfl rfl ?_;rw[<-bL.out,HE.out];refine⟨oK aV hgg _ _ _,?_⟩;rw[aS.out];have aX:(24:Int)+(N:Int)=((24+N:Nat):Int):=I;exact(by first|rfl|(rw[aX];rfl)|(rw[<-aX];rfl))
def Gf(s:An)(w:K)(hs:s.size<=jd):iW iN 76 #[H s] w λe w'=>e=mK (mJ #[V X (qG s.data.toList).1,V X (qG s.data.toList).2.1,V X (qG s.data.toList).2.2])/\w'=w:=by
 have A:=wM s w hs;have hp:qG s.data.toList=if(nD s.data.toList 0 0).2.2=0 then if 4294967295<(nD s.data.toList 0 0).1 then(0,0,5)else nD s.data.toList 0 0 else(0,0,(nD s.data.toList 0 0).2.2):=rfl
 have C:∀N aq,nD s.data.toList 0 0=(N,aq,0)->aq<=10:=λN aq h=>(rD h).2.2.2
 generalize qG s.data.toList=aE at*;generalize nD s.data.toList 0 0=t at*;obtain⟨n,k,e⟩:=t;unfold LU at A;dsimp only at A hp;have A:=Y A;by_cases he:e=0
 .subst he
  rw[Ax rfl]at hp;by_cases hn:4294967295<n
  .have e1:As ((n:Int)>4294967295)=u:=nk
   rw[Ax hn]at hp;subst hp;clear hn C;go_in;go_wp2_with fail;refine A.mono ?_;rintro e w2 ⟨rfl,rfl⟩;exact qF
  .have e1:As ((n:Int)>4294967295)=M:=nk
   have E:n<=4294967295:=I;rw[At hn]at hp;subst hp;clear hn C;go_in;go_wp2_with fail;refine A.mono ?_;rintro e w2 ⟨rfl,rfl⟩;exact qF
 .rw[At he]at hp
  subst hp;have J:((e:Int) !=0)=u:=yE;clear he C;go_in;go_wp2_with fail;refine vE A ?_;exact qF
def Kz(s:An)(most:Int)(n k:Nat)(w:K)(hs:s.size<=100000)(C:qG s.data.toList=(n,k,0))(N:(n:Int)<=most/\most<=65536)(hk:k<=s.size):
  iW iN 77 #[H s,V X most] w (Nt (uV (s.extract k s.size) n) w):=by
 have A:=Gf s w yF;rw[C]at A;have A:=Y A;have aa:=Y (Nv (s.extract k s.size) n w I (by rw[iV];omega));have ae:As ((n:Int)>most)=M:=nk;generalize uV (s.extract k s.size) n=aE at*;clear C N;go_in;go_wp2_with fail;refine vE A ?_;go_wp2_with fail;refine aa.mono ?_;rintro e w3 ⟨hb,T,er,rfl,E⟩;have J:=Y (iU hb E);clear hb E;go_wp2;go_returns;exact⟨J.1,_,_,rfl,J.2⟩
def Bv(aE:Except Nat (tJ×Nat))(w:K)(e:kV)(w':K):Prop:=iR w.heap.size w w'/\∃z:Int,match aE with
 | .error er=>e=mK (mJ #[mI #[V mP 0,H ⟨#[]⟩,H ⟨#[]⟩],V X 0,V X z,V X (er:Nat)])
 | .ok y=>e=mK (mJ #[mI #[V mP y.1.id,H y.1.name,H y.1.body],V X (y.2:Nat),V X z,V X 0])
def TA{aE:Except Nat (tJ×Nat)}{z:Int}(h:aE=.error er)(hb:iR w.heap.size w w'):Bv aE w (mK (mJ #[mI #[V mP 0,H ⟨#[]⟩,H ⟨#[]⟩],V X 0,V X z,V X (er:Nat)])) w':=by
 subst h;exact⟨hb,z,rfl⟩
def QG(hk:mY w1 g #[x,y,z] pR)(f0 f1 f2 n m e:iQ)(A:a.tmps.getD 6 jw=mG (O (Z g 0 U)))(C:a.tmps.getD 7 jw=n)(E:a.tmps.getD 8 jw=m)(J:a.tmps.getD 9 jw=e)(hd:a.defers=[])(N:P (mK (mJ #[mI #[f0,f1,f2],n,m,e])) (q8 w1 g f0 f1 f2)):bodyPost iN Tryz.f42 P .ret a (q8 w1 g f0 f1 f2):=by
 have⟨aa,ae,af⟩:=qa (oU (a:=f0) (b:=f1) (c:=f2) hk);refine iY (v:=mJ #[mI #[f0,f1,f2],n,m,e]) ?_ hd N;rw[jJ]at A C E J;simp[jv,Tryz.results42,go_sem,aa,ae,af,A,C,E,J]
def a1J(hk:mY w1 g #[x,y,z] pR)(f0 f1 f2 n m e:iQ)(A:a.tmps.getD 6 jw=mG (O (Z g 0 U)))(C:a.tmps.getD 7 jw=n)(E:a.tmps.getD 8 jw=m)(J:a.tmps.getD 9 jw=e)(hd:a.defers=[])(N:P (mK (mJ #[mI #[f0,f1,f2],n,m,e])) (q8 w1 g f0 f1 f2)):bodyPost iN Tryz.f16 P .ret a (q8 w1 g f0 f1 f2):=by
 have⟨aa,ae,af⟩:=qa (oU (a:=f0) (b:=f1) (c:=f2) hk);refine iY (v:=mJ #[mI #[f0,f1,f2],n,m,e]) ?_ hd N;rw[jJ]at A C E J;simp[jv,Tryz.results16,go_sem,aa,ae,af,A,C,E,J]
def VS(h:p:=by
 go_wp2_with fail;rw[nO];exact QG H3.1 _ _ _ _ _ _ rfl rfl rfl rfl rfl (HB 5 0 _ HE (oK H3.2.2 hgg _ _ _))):p:=h
def QH(most un:Int)(s:An)(w:K)(bq:0<=most/\most<=65536)(aU:un<=65536)(hs:s.size<=100000):
  iW iN 42 #[V X most,V X un,H s] w (Bv (qA most un s U).1 w):=by
 have⟨aE,ak⟩:=nE ((qA most un s U).1);have ae:(nT most s).e≠0->aE=.error (nT most s).e:=λh=>by rw[<-ak];unfold qA;rw[Ax h]
 have af:=λ(h:(nT most s).e=0) n k e (J:qG (nT most s).body.data.toList=(n,k,e))=>ak.symm.trans (congrArg Prod.fst (XX (un:=un) h J))
 have au:=λW=>Ie most s W I yF
 have ag:=Iq most s;rw[ak];have⟨⟨id,A,n,er⟩,hp⟩:∃P,nT most s=P:=⟨_,rfl⟩;rw[hp]at au ae af ag;have au:R (∀W,iW iN 41 #[V X most,H s] W λe w'=>e=mK (mJ #[mI #[V mP id,H ⟨#[]⟩,H A],V X n,V X er])/\iR W.heap.size W w'):=Y au;dsimp only at ae af ag;have az:A.size<=100000:=I;have ah:=λW=>Gf A W yF
 have⟨N,aq,E,J⟩:∃N aq E,qG A.data.toList=(N,aq,E):=⟨_,_,_,rfl⟩;have aL:=Y (λh=>af h N aq E J);have aV:R (E=0->aq<=A.size):=Y λh=>by
  subst h;have bH:=(KH J).1;have:A.data.toList.length=A.size:=ny;omega
 have aM:=Y (λW (h0:E=0) (h:(N:Int)<=un)=>Kz A un N aq W az (h0▸J) ⟨h,aU⟩ (aV h0));rw[J]at ah;have ah:R (∀W,iW iN 76 #[H A] W λe w'=>e=mK (mJ #[V X N,V X aq,V X E])/\w'=W):=Y ah;have⟨bu,aA⟩:=nE (uV (A.extract aq A.size) N);rw[aA]at aM aL;have aB:=Y ae;obtain⟨g,hg⟩:=o7 w;have aN:=Y hg;have aD:R (∀W,w.alloc (mM #[V mP 0,H ⟨#[]⟩,H ⟨#[]⟩] pR)=W->mY W g #[V mP 0,H ⟨#[]⟩,H ⟨#[]⟩] pR/\iR w.heap.size w W/\W.heap.size=g+1):=Y λW aO=>by
  subst aO;exact⟨hg▸mY.new w _ _,(iT w.heap.size w).alloc (iP _) _,by simp[hg]⟩
 have⟨aP,av⟩:=nE (Bv aE w);have bz:=Y av;have HB:R (∀(v:Nat)(z:Int) W,aE=.error v->iR w.heap.size w W->aP (mK (mJ #[mI #[V mP 0,H ⟨#[]⟩,H ⟨#[]⟩],V X 0,V X z,V X (v:Nat)])) W):=Y λv z W h hb=>by
  rw[<-av];exact TA h hb
 rw[av];clear ak af ag hp ae J aA az av bq;go_in;go_upto_region 1 with fail;have⟨C,aa,aF⟩:=aD.out _ rfl;generalize w.alloc _=w1 at*;have bA:=Y (iU C (iU aa aF));clear aD C aa aF;go_wp2_with fail;refine pG (au _) λw2 hb=> ?_
 obtain⟨f,bB⟩:=o7 w2;have aG:R (∀W,w2.alloc (mM #[V mP id,H ⟨#[]⟩,H A] pR)=W->mY W g #[V mP 0,H ⟨#[]⟩,H ⟨#[]⟩] pR/\mY W f #[V mP id,H ⟨#[]⟩,H A] pR/\iR w.heap.size w W):=Y λW aO=>by
  subst aO;have⟨aW,bC,bI⟩:=bA.out;have J:=hb.size;have kb:=(a7 hb aW aW.lt);have aX:=(iT w2.heap.size w2).alloc (iP _) (mM #[V mP id,H ⟨#[]⟩,H A] pR);exact⟨a7 aX kb kb.lt,bB▸mY.new w2 _ _,bC.trans ((hb.mono (by have:=aN.out;omega)).trans (aX.mono (by have:=aN.out;omega)))⟩
 clear hb;go_upto_region 2 with fail;have⟨C,ai,aa⟩:=aG.out _ rfl;generalize w2.alloc _=w3 at*;have H3:=Y (iU C (iU ai aa));have⟨f0,f1,f2⟩:=qa ai;have⟨c0,c1,c2⟩:=qa C;have⟨z0,aY,aZ⟩:=C.f3;clear aG C ai aa;have hgg:R (w.heap.size<=g):=Y (kP aN);by_cases aj:er=0;rotate_left
 .have u1:((er:Int) !=0)=u:=yE
  have HE:=Y (aB aj);clear aj ah;go_wp2_with fail;rw[nO];exact QG H3.1 _ _ _ _ _ _ rfl rfl rfl rfl rfl (HB er 0 _ HE (oK H3.2.2 hgg _ _ _))
 subst aj;have aH:=Y (aL rfl);clear aL aB;go_wp2_with fail;refine vE (ah _) ?_;by_cases aQ:E=0;rotate_left
 .have aI:=Y (aH.trans (At aQ))
  have u1:((E:Int)==0)=M:=qJ;have u2:((E:Int) !=0)=u:=yE;clear aQ;by_cases aR:E=5
  .subst aR
   have HE:=Y (aI.trans (Ax rfl));exact VS
  .have HE:=Y (aI.trans (At aR))
   have u3:((E:Int)==5)=M:=qJ;clear aR;go_wp2_with fail;rw[nO];exact QG H3.1 _ _ _ _ _ _ rfl rfl rfl rfl rfl (HB 3 0 _ HE (oK H3.2.2 hgg _ _ _))
 subst aQ;have aJ:=Y (aH.trans (Ax rfl));by_cases ax:un<N
 .have HE:=Y (aJ.trans (Ax ax))
  have bD:As ((N:Int)>un)=u:=nk;clear ax;exact VS
 have aK:=Y (aJ.trans (At ax));have bD:As ((N:Int)>un)=M:=nk;have bE:=Y (λW=>aM.out W rfl I);clear ax aM;go_wp2_with fail;refine(bE _).mono ?_;rintro e w5 ⟨hb,T,bF,rfl,aS⟩;have r1:=a7 hb H3.1 H3.1.lt;have r2:=a7 hb H3.2.1 H3.2.1.lt;have ay:=Y (iU r1 (H3.2.2.trans (hb.mono H3.2.2.size)));clear f0 f1 f2 c0 c1 c2 z0 aY aZ hb;have⟨f0,f1,f2⟩:=qa r2;have⟨c0,c1,c2⟩:=qa r1;have⟨z0,aY,aZ⟩:=r1.f3;clear r1 r2;cases bu with
 |error bJ=>
  have u1:(bF !=0)=u:=by rw[ce];exact aS
  clear aS;go_wp2_with fail;rw[nO];exact QG ay.1 _ _ _ _ _ _ rfl rfl rfl rfl rfl (HB 3 N _ aK (oK ay.2 hgg _ _ _))
 |ok l=>
  obtain⟨bg,rfl⟩:=aS;have bG:=Y bg;clear bg;go_wp2_with fail;rw[nO];refine QG ay.1 _ _ _ _ _ _ rfl rfl rfl rfl rfl ?_;rw[<-bz.out,aK.out];exact⟨oK ay.2 hgg _ _ _,N,by rw[bG.out];rfl⟩
def VT(h:p:=by
 go_wp2_with fail;rw[nO];refine a1J HK.1 _ _ _ _ _ _ rfl rfl rfl rfl rfl ?_;rw[<-HP.out];exact TA rfl (oK HK.2 hgg _ _ _)):p:=h
def VU(h:p:=by
 go_wp2_with fail;rw[nO];refine a1J HK.1 _ _ _ _ _ _ rfl rfl rfl rfl rfl ?_;rw[<-HP.out];exact⟨oK HK.2 hgg _ _ _,_,rfl⟩):p:=h
def QI(KA:Array iQ)(aA:QF KA Bz)(c:nU)(s:An)(w:K)(hc:nV c=u)(ax:c.wf)(hs:s.size<=100000):
  iW iN 16 #[mI KA,c.v,H s] w (Bv (oG c s U).1 w):=by
 have⟨aB,⟨r1,r2⟩,⟨r3,r4⟩,_⟩:=ql hc;have aJ:=Y (λW=>Gc c W);rw[hc]at aJ;have ay:0<=c.mag/\c.mag<=4294967295:=by have:=ax.2.1;simpa [Lit.wf,IntKind.min,IntKind.max,IntKind.signed,IntKind.bits]using this
 have aK:=Y (λW=>Tz KA aA s c.mag c.oL W ay r2 hs);have aa:=λW=>Ie c.oL s W I yF
 have aL:=Y (λW=>QH c.oL c.pq s W I r4 hs);have⟨⟨id,aD,n,er⟩,hp⟩:∃P,nT c.oL s=P:=⟨_,rfl⟩;rw[hp]at aa;have aa:R (∀W,iW iN 41 #[V X c.oL,H s] W λe w'=>e=mK (mJ #[mI #[V mP id,H ⟨#[]⟩,H aD],V X n,V X er])/\iR W.heap.size W w'):=Y aa;have aF:R (er≠0->id=0/\aD=⟨#[]⟩/\n=0):=Y λh=>by
  have aM:=Ir (most:=c.oL) (s:=s) (by rw[hp];exact h);rw[hp]at aM;injection aM with a b c _
  exact⟨a,b,c⟩
 have⟨aE,ai⟩:=nE ((oG c s U).1);have ae:R (c.fmt=1->aE=qp s c.mag c.oL):=Y λh=>by rw[<-ai];unfold oG;rw[Ax h]
 have af:R (c.fmt=2->aE=wo ⟨id,aD,n,er⟩):=Y λh=>by rw[<-ai,<-hp];unfold oG;rw[At I,Ax h]
 have ag:R (c.fmt=3->aE=(qA c.oL c.pq s U).1):=Y λh=>by rw[<-ai];unfold oG;rw[At I,At I]
 have⟨aP,aG⟩:=nE (Bv aE w);have HP:=Y aG;rw[ai,aG];have aQ:=Y aA.size;obtain⟨g,hg⟩:=o7 w;have aR:=Y hg;have az:R (∀W,((w.alloc (mM KA zV)).alloc (mM #[V X c.fmt,V mQ c.mag,V X c.oL,V X c.pq,V X c.dep,V X c.oo] rG)).alloc (mM #[V mP 0,H ⟨#[]⟩,H ⟨#[]⟩] pR)=W->mY W g KA zV/\mY W (g+2) #[V mP 0,H ⟨#[]⟩,H ⟨#[]⟩] pR/\mY W (g+1) #[V X c.fmt,V mQ c.mag,V X c.oL,V X c.pq,V X c.dep,V X c.oo] rG/\iR w.heap.size w W):=Y λW aH=>by
  subst aH;have A:=mY.new w KA zV;rw[hg]at A;have aj:(w.alloc (mM KA zV)).heap.size=g+1:=by simp[hg]
  have C:=mY.new (w.alloc (mM KA zV)) #[V X c.fmt,V mQ c.mag,V X c.oL,V X c.pq,V X c.dep,V X c.oo] rG;have ak:((w.alloc (mM KA zV)).alloc (mM #[V X c.fmt,V mQ c.mag,V X c.oL,V X c.pq,V X c.dep,V X c.oo] rG)).heap.size=g+2:=by simp[hg]
  have aN:=mY.new ((w.alloc (mM KA zV)).alloc (mM #[V X c.fmt,V mQ c.mag,V X c.oL,V X c.pq,V X c.dep,V X c.oo] rG)) #[V mP 0,H ⟨#[]⟩,H ⟨#[]⟩] pR;rw[aj]at C;rw[ak]at aN;exact⟨(A.alloc _).alloc _,aN,C.alloc _,((((iT w.heap.size w).alloc (iP _) _).alloc ny _).alloc nk _)⟩
 unfold nU.v nU.cs at*;clear hp ai aG hc aA ax ay r1 r2 r3 r4;go_in;go_upto_region 1 with fail;have⟨ah,A,C,b1⟩:=az.out _ rfl;generalize ((w.alloc _).alloc _).alloc _=w1 at*;have⟨c0,c1,c2,c3,c4,c5⟩:=C.a6;have aO:=Y (iU ah (iU A (iU C b1)));clear az ah A C b1;go_wp2_with fail;refine pG (aJ _) λw2 hb=> ?_
 have⟨ah,A,C,b1⟩:=aO.out;have J:R (mY w2 g KA zV/\mY w2 (g+2) #[V mP 0,H ⟨#[]⟩,H ⟨#[]⟩] pR/\iR w.heap.size w w2):=Y ⟨a7 hb ah ah.lt,a7 hb A A.lt,b1.trans (hb.mono b1.size)⟩;have C:=a7 hb C C.lt;clear c0 c1 c2 c3 c4 c5 hb ah A b1 aO;have⟨c0,c1,c2,c3⟩:=C.a4;clear C;have aI:R (∀(w4 W:K)(f0 f1 f2:iQ),iR w2.heap.size w2 w4->w4.alloc (mM #[f0,f1,f2] pR)=W->mY W (g+2) #[V mP 0,H ⟨#[]⟩,H ⟨#[]⟩] pR/\mY W w4.heap.size #[f0,f1,f2] pR/\iR w.heap.size w W):=Y λw4 W f0 f1 f2 hb aH=>by
  subst aH;have h:=hb.alloc hb.size (mM #[f0,f1,f2] pR);exact⟨a7 h J.2.1 J.2.1.lt,mY.new w4 _ _,J.2.2.trans (h.mono J.2.2.size)⟩
 have hgg:R (w.heap.size<=g+2):=Y (by have:=aR.out;omega);have E:c.fmt=1\/c.fmt=2\/c.fmt=3:=I;clear aB;rcases E with E|E|E
 .have t1:(c.fmt==1)=u:=by rw[beq_iff_eq];exact E
  have au:=Y (ae E);clear E ae af ag;go_wp2_with (refine wpList_load_row rfl zV (.tmp 3) rfl g rfl _ KA (0,0) _ J.1 lF rfl aQ ?_);refine(aK _).mono ?_;rintro e w4 ⟨hb,N⟩;have av:=Y hb;rw[<-au.out]at N;clear hb c0 c1 c2 c3;cases aE with
  |error er=>
   subst N;go_upto_region 5 with fail;obtain⟨ka,kb,hb⟩:=aI.out _ _ _ _ _ av rfl;generalize w4.alloc _=w5 at*;have⟨f0,f1,f2⟩:=qa kb;have⟨c0,c1,c2⟩:=qa ka;have⟨z0,aj,ak⟩:=ka.f3;have HK:=Y (iU ka hb);clear ka kb hb;exact VT
  |ok y=>
   subst N;go_upto_region 5 with fail;obtain⟨ka,kb,hb⟩:=aI.out _ _ _ _ _ av rfl;generalize w4.alloc _=w5 at*;have⟨f0,f1,f2⟩:=qa kb;have⟨c0,c1,c2⟩:=qa ka;have⟨z0,aj,ak⟩:=ka.f3;have HK:=Y (iU ka hb);clear ka kb hb;exact VU
 .have t1:(c.fmt==1)=M:=qJ
  have aS:(c.fmt==2)=u:=by rw[beq_iff_eq];exact E
  have au:=Y (af E);clear E ae af ag;go_wp2_with fail;refine pG (aa _) λw4 hb=> ?_
  have av:=Y hb;clear hb c0 c1 c2 c3;go_upto_region 8 with fail;obtain⟨ka,kb,hb⟩:=aI.out _ _ _ _ _ av rfl;generalize w4.alloc _=w5 at*;have⟨f0,f1,f2⟩:=qa kb;have⟨c0,c1,c2⟩:=qa ka;have⟨z0,aj,ak⟩:=ka.f3;have HK:=Y (iU ka hb);clear ka kb hb;go_wp2_with fail;rw[nO];refine a1J HK.1 _ _ _ _ _ _ rfl rfl rfl rfl rfl ?_;rw[<-HP.out,au.out];unfold wo;by_cases h0:er=0
  .subst h0
   exact⟨oK HK.2 hgg _ _ _,_,rfl⟩
  .obtain⟨rfl,rfl,rfl⟩:=aF.out h0
   rw[Ax (by exact h0)];exact TA rfl (oK HK.2 hgg _ _ _)
 .have t1:(c.fmt==1)=M:=qJ
  have aS:(c.fmt==2)=M:=qJ;have au:=Y (ag E);clear E ae af ag;go_wp2_with fail;refine(aL _).mono ?_;rintro e w4 ⟨hb,z,N⟩;rw[<-au.out]at N;have A:=a7 hb J.2.1 J.2.1.lt;have HK:=Y (iU A (J.2.2.trans (hb.mono J.2.2.size)));have⟨b0,b1,aU⟩:=qa A;have⟨z0,aj,ak⟩:=A.f3;clear hb A c0 c1 c2 c3;cases aE with
  |error er=>
   subst N;exact VT
  |ok y=>
   subst N;exact VU
def y7(c:nU)(f:tJ)(e:tV):Bool:=if c.fmt=1 then(f.name.toList==e.nm.toList)&&((f.id:Int)==0)else((f.id:Int)==(e.id:Int))&&(f.name.toList==([]:List AC))
def ByK(c:nU)(A:List tV)(f:tJ)(k:Int):Prop:=(k= -1/\∀e,e∈A->y7 c f e=M)\/∃(j:Nat) (e:tV),k=j/\A[j]? =O e/\y7 c f e=u/\∀(i:Nat)(C:tV),i<j->A[i]? =O C->y7 c f C=M
def a7q{f:tJ}{k:Int}(h:ByK c E f k){i:Nat}{e:tV}(hi:∀(k:Nat) (C:tV),k<i->E[k]? =O C->y7 c f C=M)(he:E[i]? =O e)(ht:y7 c f e=u):k=i:=by
 rcases h with⟨_,h⟩|⟨j,C,N,aa,J,ae⟩
 .rw[h e (jq he)]at ht;cases ht
 .rw[N]
  rcases Nat.lt_trichotomy i j with A|A|A
  .rw[ae i e A he]at ht;cases ht
  .rw[A]
  .rw[hi j C A aa]at J;cases J
def a7r{C:List tV}{f:tJ}{k:Int}(h:ByK c C f k)(hi:∀(k:Nat) (A:tV),k<C.length->C[k]? =O A->y7 c f A=M):k= -1:=by
 rcases h with⟨h,_⟩|⟨j,A,N,E,J,aa⟩
 .exact h
 .rw[hi j A (jU.1 E).1 E]at J;cases J
def a1K(h:p:=by
 rw[hh]at HHI HHN;have hno:bn=u/\bi=u\/bn=M\/bn=u/\bi=M:=by cases bn<;>cases bi<;>simp
 rcases hno with⟨rfl,rfl⟩|rfl|⟨rfl,rfl⟩
 .have HK:=Y (HHI (by trivial))
  go_upto_region 4 with fail;refine nG mZ mZ ?_;repeat(go_big_quiet_step (fail))
  refine jT ?_;intro x;have HX:=Y (HE _ x.is);go_wp2;go_returns;exact⟨by rw[HK.out];rfl,HX.1⟩
 .have HM:=Y (HHN (by trivial))
  go_upto_region 4 with fail;refine nG mZ mZ ?_;repeat(go_big_quiet_step (fail))
  refine jT ?_;intro x;have HX:=Y (HE _ x.is);go_wp2;go_roundw;case rel=>exact⟨i+1,by go_num,I,HM,Y HX.2⟩
  case measure=>simp[jF];omega
 .have HM:=Y (HHN (by trivial))
  go_upto_region 4 with fail;refine nG mZ mZ ?_;repeat(go_big_quiet_step (fail))
  refine jT ?_;intro x;have HX:=Y (HE _ x.is);go_wp2;go_roundw;case rel=>exact⟨i+1,by go_num,I,HM,Y HX.2⟩
  case measure=>simp[jF];omega):p:=h
def KC(c:nU)(E:List tV)(f:tJ)(k:Int)(v:iQ)(w:K)(az:CJ w v E)(hn:E.length<=100)(hk:ByK c E f k):
  iW iN 56 #[c.v,v,f.v] w λe w'=>e=mK (V X k)/\iR w.heap.size w w':=by
 obtain⟨oa,cap,rfl,ah,aG,aP⟩:=id az;have⟨n,au⟩:=nE E.length;obtain⟨g,hg⟩:=o7 w;have aA:R (∀W,(w.alloc (mM #[V X c.fmt,V mQ c.mag,V X c.oL,V X c.pq,V X c.dep,V X c.oo] rG)).alloc (mM #[V mP f.id,H f.name,H f.body] pR)=W->W.cell? (Z g 0 U)=O (V X c.fmt)/\mY W (g+1) #[V mP f.id,H f.name,H f.body] pR/\iR g w W/\W.heap.size=g+2):=Y λW aH=>by
  subst aH;have ai:=(mY.new w #[V X c.fmt,V mQ c.mag,V X c.oL,V X c.pq,V X c.dep,V X c.oo] rG).alloc (mM #[V mP f.id,H f.name,H f.body] pR);have aB:=mY.new (w.alloc (mM #[V X c.fmt,V mQ c.mag,V X c.oL,V X c.pq,V X c.dep,V X c.oo] rG)) #[V mP f.id,H f.name,H f.body] pR;have aI:(w.alloc (mM #[V X c.fmt,V mQ c.mag,V X c.oL,V X c.pq,V X c.dep,V X c.oo] rG)).heap.size=g+1:=by simp[hg]
  rw[hg]at ai;rw[aI]at aB;exact⟨ai.cell 0,aB,hg▸((iT w.heap.size w).alloc (iP _) _).alloc ny _,by simp[hg]⟩
 have aD:=Y az;have aJ:=Y au;have aK:=Y (λi e C J aj=>a7q (i:=i) (e:=e) hk C J aj);have aF:=Y (a7r hk);rw[au]at aD hn ah aF|-;rw[hg];unfold nU.v nU.cs tJ.v;go_in;go_upto_region 1 with fail;have⟨c0,av,hb,ax⟩:=aA.out _ rfl;generalize (w.alloc _).alloc _=w1 at*;have ak:=Y (iU c0 (iU av (iU hb ax)));go_wp2;go_loopw [7] (λiv aL=>∃i:Nat,iv=V X i/\i<=n/\R (∀(k:Nat)(A:tV),k<i->E[k]? =O A->y7 c f A=M)/\R (iR (g+2) w1 aL)) (λiv _=>n -(jF iv).toNat);case atStart=>exact⟨0,rfl,I,Y (λk e h=>by omega),Y (iT _ _)⟩
 case round=>
  obtain⟨i,rfl,hi,ay,N⟩:=hrel;have ax:g+2<=wr.heap.size:=by have:=N.size;have:=ak.2.2.2;omega
  have HE:R (∀W,iR wr.heap.size wr W->iR g w W/\iR (g+2) w1 W):=Y λW h=>⟨ak.2.2.1.trans ((N.mono I).trans (h.mono I)),N.trans (h.mono ax)⟩
  have aQ:∀x:qX wr,x.at_.cell? (Z g 0 U)=O (V X c.fmt):=λx=>((HE _ x.is).2.cell (p:=(Z g 0 U)) (show g<g+2 by omega)).trans ak.1
  have av:∀x:qX wr,mY x.at_ (g+1) #[V mP f.id,H f.name,H f.body] pR:=λx=>a7 (HE _ x.is).2 ak.2.1 I
  have f0:=λx=>(av x).a2.1
  have f1:=λx=>(av x).a2.2
  by_cases ci:i<n
  .have⟨A,aa⟩:∃A,E[i]? =O A:=⟨_,ja (by rw[aJ.out];exact ci)⟩
   have⟨bk,ok,FV,ae,aM,ai,_⟩:=CJ.at_ (aD.below (hg.symm▸(HE wr (iT _ _)).1)) aa;subst FV;have aR:∀x:qX wr,x.at_.cell? (Z bk (ok+i*3) U)=O (V mP A.id):=λx=>(x.is.cell (p:=(Z bk (ok+i*3) U)) ae).trans aM
   have e1:∀x:qX wr,x.at_.cell? (Z bk (ok+i*3+1) U)=O (H A.nm):=λx=>(x.is.cell (p:=(Z bk (ok+i*3+1) U)) ae).trans ai
   have HHI:R (y7 c f A=u->k=i):=Y λh=>aK.out i A ay aa h
   have HHN:R (y7 c f A=M->∀(k:Nat)(A:tV),k<i+1->E[k]? =O A->y7 c f A=M):=Y λh k e2 hk J=>by
    rcases jL k i with aj|aj
    .exact ay k e2 aj J
    .obtain rfl:k=i:=I
     rw[aa]at J;cases J;exact h
   by_cases C:c.fmt=1
   .have aN:(c.fmt==1)=u:=by rw[beq_iff_eq];exact C
    have aO:(c.fmt !=1)=M:=by rw[bne_eq_false_iff_eq];exact C
    have⟨bn,af⟩:=nE ((f.name.toList==A.nm.toList));have⟨bi,ag⟩:=nE (((f.id:Int)==0));have hh:y7 c f A=(bn&&bi):=by unfold y7;rw[Ax C,af,ag]
    exact a1K
   .have aN:(c.fmt==1)=M:=by rw[bj];exact C
    have aO:(c.fmt !=1)=u:=by rw[ce];exact C
    have⟨bn,af⟩:=nE (((f.id:Int)==(A.id:Int)));have⟨bi,ag⟩:=nE ((f.name.toList==([]:List AC)));have hh:y7 c f A=(bn&&bi):=by unfold y7;rw[At C,af,ag]
    exact a1K
  .obtain rfl:i=n:=I
   have HK:=Y (aF ay);have HX:=Y (HE _ (iT _ _));go_wp2;go_returns;exact⟨by rw[HK.out];rfl,HX.1⟩
def a1L{id:Nat}{nm tx:An}{row:Row}(h:um c rows id nm tx=(er,O row)):row.id=id/\∀r,r∈rows->r.id≠id:=by
 refine⟨(xe h).1,λr A hi=> ?_⟩;unfold um at h;split at h;.cases h
 .split at h
  .cases h
  .rename_i C
   exact C (Ef.2 ⟨r,A,hi⟩)
def JP{ah:Type}(A:Row->ah)(C:tV->ah){c:nU}(E:∀rows (e:tV) er row,um c rows e.id e.nm e.tx=(er,O row)->A row=C e/\∀r,r∈rows->A r≠C e):∀(J:List tV)(rows out:List Row),qQ c rows J=.ok out->∀r,r∈out->r∈rows\/∃(j:Nat) (e:tV),J[j]? =O e/\C e=A r/\e.nm=r.name/\wP e.tx.data.toList=O r.ty/\(∀(k:Nat)(N:tV),k<j->J[k]? =O N->C N≠A r)/\∀r',r'∈rows->A r'≠A r
 |[],rows,out,h,r,ae=>by
  unfold qQ at h;cases h;exact .inl ae
 |e::J,rows,out,h,r,ae=>by
  unfold qQ at h;split at h;.cases h
  .rename_i er row ai
   have⟨af,ak⟩:=E _ _ _ _ ai;have⟨_,au,av,_⟩:=xe ai;rcases JP A C E J (row::rows) out h r ae with ag|⟨j,N,ax,ay,az,aA,aB,aj⟩
   .rcases l5.1 ag with rfl|ag
    .exact .inr ⟨0,e,rfl,af.symm,au.symm,av,λk N hk=>by omega,λr' aa=>by rw[af];exact ak r' aa⟩
    .exact .inl ag
   .refine .inr ⟨j+1,N,by simpa using ax,ay,az,aA,λk e2 hk he=> ?_,λr' aa=>aj r' (List.mem_cons_of_mem _ aa)⟩
    cases k with
    |zero=>
     simp at he;subst he;rw[<-af];exact aj row (List.mem_cons_self ..)
    |succ k=>exact aB k e2 I (by simpa using he)
def a4v(a b:An):(a.toList==b.toList)=As (a=b):=by
 by_cases h:a=b;.rw[str_eq h,a8 h]
 .rw[Ro h,bh h]
def a1M(a b:Nat):((a:Int)==(b:Int))=As (a=b):=by
 by_cases h:a=b;.subst h;simp
 .rw[bh h,bj];omega
def a88{f:tJ}(A:c.fmt=1)(e:tV):y7 c f e=(As (f.name=e.nm)&&As (f.id=0)):=by
 unfold y7;rw[Ax A,a4v,show((f.id:Int)==0)=((f.id:Int)==((0:Nat):Int))from rfl,a1M]
def hit2{f:tJ}(A:¬c.fmt=1)(e:tV):y7 c f e=(As (f.id=e.id)&&As (f.name.size=0)):=by
 unfold y7;rw[At A,wO,a1M]
def VV(h:p:=by
 exact⟨j,e,.inr ⟨j,e,rfl,q1,by rw[hh,a8 (by rw[<-hrn];exact q2.symm)],λi e' hi he=>by rw[hh,bh λhc=>q5 i e' hi he (by rw[<-hc,hrn])]⟩,q1,q3,q4⟩):p:=h
def a7s(h:qQ c [] E=.ok rows)(f:tJ):
  (ZC c rows f=U->ByK c E f (-1))/\∀r,ZC c rows f=O r->∃(j:Nat) (e:tV),ByK c E f j/\E[j]? =O e/\e.nm=r.name/\wP e.tx.data.toList=O r.ty:=by
 unfold ZC;by_cases J:c.fmt=1
 .rw[Ax J]
  by_cases C:f.id=0
  .rw[Ax C]
   have hh:∀e,y7 c f e=As (f.name=e.nm):=λe=>by rw[a88 J,a8 C,ea]
   refine⟨λhn=> .inl ⟨rfl,λe he=> ?_⟩,λr A=> ?_⟩
   .rw[hh]
    refine bh λN=> ?_
    have⟨r,A,hrn⟩:=(Fe E [] rows h e.nm).2 (.inr ⟨e,he,rfl⟩);rw[List.find?_eq_none]at hn;exact hn r A (by simp[hrn,N])
   .have aa:=lT A
    have hrn:r.name=f.name:=by simpa using List.find?_some A
    rcases JP (λr=>r.name) (λe=>e.nm) (λrows e er row ae=>⟨(xe ae).2.1,(xe ae).2.2.2.1⟩) E [] rows h r aa with af|⟨j,e,q1,q2,q3,q4,q5,_⟩
    .cases af
    .exact VV
  .rw[At C]
   exact⟨λ_=> .inl ⟨rfl,λe _=>by rw[a88 J,bh C,cI]⟩,λr A=>by cases A⟩
 .rw[At J]
  by_cases C:f.name.size=0
  .rw[Ax C]
   have hh:∀e,y7 c f e=As (f.id=e.id):=λe=>by rw[hit2 J,a8 C,ea]
   refine⟨λhn=> .inl ⟨rfl,λe he=> ?_⟩,λr A=> ?_⟩
   .rw[hh]
    refine bh λN=> ?_
    have⟨r,A,hrn⟩:=(Nh E [] rows h e.id).2 (.inr ⟨e,he,rfl⟩);rw[List.find?_eq_none]at hn;exact hn r A (by simp[hrn,N])
   .have aa:=lT A
    have hrn:r.id=f.id:=by simpa using List.find?_some A
    rcases JP (λr=>r.id) (λe=>e.id) (λrows e er row ae=>a1L ae) E [] rows h r aa with af|⟨j,e,q1,q2,q3,q4,q5,_⟩
    .cases af
    .exact VV
  .rw[At C]
   exact⟨λ_=> .inl ⟨rfl,λe _=>by rw[hit2 J,bh C,cI]⟩,λr A=>by cases A⟩
structure IG where
 tx:An
 li:Bool
 o:Option j4
 n:Nat
 c:Nat
def igf(y:IG):List iQ:=[H y.tx,mH y.li,G y.o y.n y.c]
def VW(y:IG):(igf y).length=3:=rfl
def LJ(w:K)(k:Nat):iR w.heap.size w (w.drewN k):=⟨rfl,rfl,rfl,iP _,λ_ _=>rfl⟩
structure TB(b g:Nat)(k z tl:Int)(ot:Option j4)(tn ct:Nat)(ts:List (mW TL))(w0:K)(r:RS)(W:K):Prop where
 ty:mY W g #[V X k,V X z,G ot tn ct,V X tl] zK
 res:mY W (g+1) #[H ⟨#[]⟩,mH M,G U 0 0] IT
 rd:QO W b r
 ok:r.Ok
 upd:oO b w0 W
 sub:nK.nA W (λc=>c≠b/\c<g) (G ot tn ct) ts
 hg:w0.heap.size=g
 hb:b<g
section
variable {b g:Nat}{k z tl:Int}{ot:Option j4}{tn ct:Nat}{ts:List (mW TL)}{w0 W W':K}{r r':RS}
def oO.heap{b c:Nat}(h:oO b w w')(hc:c<w.heap.size)(A:c≠b):w'.heap[c]? =w.heap[c]? :=h.block c hc λe=>A (by injection e)
def TB.go(h:TB b g k z tl ot tn ct ts w0 r W)(A:oO b W W')(C:QO W' b r')(ho:r'.Ok):TB b g k z tl ot tn ct ts w0 r' W':=
 have J:=h.hb
 ⟨A.blk h.ty I,A.blk h.res I,C,ho,h.upd.trans A,Shape.nA.keep h.sub A.size (λ_ _ q=>q) λc hc E=>A.heap hc E.1,h.hg,h.hb⟩
def TB.below(h:TB b g k z tl ot tn ct ts w0 r W)(hb:iR W.heap.size W W'):TB b g k z tl ot tn ct ts w0 r W':=h.go (oO.of hb) (a7 hb h.rd h.rd.lt) h.ok
def TB.start(hg:w0.heap.size=g)(hb:QO w0 b r)(ho:r.Ok)(hs:nK.nA w0 (λc=>c≠b) (G ot tn ct) ts):TB b g k z tl ot tn ct ts w0 r ((w0.alloc (mM #[V X k,V X z,G ot tn ct,V X tl] zK)).alloc (mM #[H ⟨#[]⟩,mH M,G U 0 0] IT)):=by
 have J:(w0.alloc (mM #[V X k,V X z,G ot tn ct,V X tl] zK)).heap.size=g+1:=by simp[hg]
 have C:=mY.new w0 #[V X k,V X z,G ot tn ct,V X tl] zK;have E:=mY.new (w0.alloc (mM #[V X k,V X z,G ot tn ct,V X tl] zK)) #[H ⟨#[]⟩,mH M,G U 0 0] IT;rw[hg]at C;rw[J]at E;have A:=((iT w0.heap.size w0).alloc (iP _) (mM #[V X k,V X z,G ot tn ct,V X tl] zK)).alloc ny (mM #[H ⟨#[]⟩,mH M,G U 0 0] IT);exact⟨C.alloc _,E,a7 A hb hb.lt,ho,oO.of A,Shape.nA.keep hs A.size (λc hc q=>⟨q,hg▸hc⟩) λc hc _=>A.block c hc,hg,hg▸hb.lt⟩
def TC(b:Nat)(w:K)(A:RS)(aw C:Nat)(e:kV)(w':K):Prop:=oO b w w'/\QO w' b A/\∃tx li o n c,∃m:Int,(A.f=0->m=(aw:Int) -(C:Int))/\e=mK (mJ #[mI #[H tx,mH li,G o n c],V X m])
def a9b{E:Nat}(h:TB b g k z tl ot tn ct ts w0 r W)(tx:An)(li:Bool)(o:Option j4)(n c:Nat)(m:Int)(J:a.tmps.getD 8 jw=mG (O (Z (g+1) 0 U)))(N:a.tmps.getD 9 jw=V X m)(hd:a.defers=[])(aa:r.f=0->m=(aw:Int) -(E:Int)):
  bodyPost iN Tryz.f125 (TC b w0 r aw E) .ret a (q8 W (g+1) (H tx) (mH li) (G o n c)):=by
 have⟨ae,af,ag⟩:=qa (oU (a:=H tx) (b:=mH li) (c:=G o n c) h.res);have A:w0.heap.size<=g+1:=by have:=h.hg;omega
 have C:b≠g+1:=by have:=h.hb;omega
 refine iY (v:=mJ #[mI #[H tx,mH li,G o n c],V X m]) ?_ hd ⟨((h.upd.xm (a:=(Z (g+1) 0 U)) A _).xm (a:=(Z (g+1) 1 U)) A _).xm (a:=(Z (g+1) 2 U)) A _,((h.rd.setOther (a:=(Z (g+1) 0 U)) C _).setOther (a:=(Z (g+1) 1 U)) C _).setOther (a:=(Z (g+1) 2 U)) C _,tx,li,o,n,c,m,aa,rfl⟩;rw[jJ]at J N;simp[jv,Tryz.results125,go_sem,ae,af,ag,J,N]
structure LK(b g p:Nat)(k z tl:Int)(ot:Option j4)(tn ct:Nat)(ts:List (mW TL))(w0:K)(r:RS)(v:iQ)(L:List IG)(W:K):Prop where
 r:TB b g k z tl ot tn ct ts w0 r W
 x:mY W p #[H ⟨#[]⟩,mH u,v] IT
 own:pz igf 3 W (p+1) IT v L
 hp:g+1<p
variable {p:Nat}{v v':iQ}{L:List IG}
def LK.go(h:LK b g p k z tl ot tn ct ts w0 r v L W)(A:oO b W W')(C:QO W' b r')(ho:r'.Ok):LK b g p k z tl ot tn ct ts w0 r' v L W':=
 ⟨h.r.go A C ho,A.blk h.x (by have:=h.r.hb;have:=h.hp;omega),h.own.keep λc hc=>A.heap (h.own.block c hc).2.1 (by have:=(h.own.block c hc).1;have:=h.r.hb;have:=h.hp;omega),h.hp⟩
def LK.below(h:LK b g p k z tl ot tn ct ts w0 r v L W)(hb:iR W.heap.size W W'):LK b g p k z tl ot tn ct ts w0 r v L W':=h.go (oO.of hb) (a7 hb h.r.rd h.r.rd.lt) h.r.ok
def TB.loop(h:TB b g k z tl ot tn ct ts w0 r W)(hp:W.heap.size=p):LK b g p k z tl ot tn ct ts w0 r (G U 0 0) [] (W.alloc (mM #[H ⟨#[]⟩,mH u,G U 0 0] IT)):=
 ⟨h.below ((iT _ W).alloc (iP _) _),hp▸mY.new W _ _,pz.nil _ _ _,by have:=h.res.lt;omega⟩
def LK.next{W3:K}{ae:List IG}{C n E:Nat}(h:LK b g p k z tl ot tn ct ts w0 r v L W)(ah:iR W.heap.size W W3)(J:pz igf 3 W' (p+1) IT (G (O (Z C 0 U)) n E) ae)(hg:W3.grownBy W' v.ownBlock):LK b g p k z tl ot tn ct ts w0 r (G (O (Z C 0 U)) n E) ae (W'.setCell (Z p 2 U) (G (O (Z C 0 U)) n E)):=by
 have af:∀c,(jM (O (Z C 0 U)) n E).ownBlock=O c->c≠p:=λc hc=>by have:=(J.block c hc).1;omega
 generalize jM (O (Z C 0 U)) n E=v' at*;have A:=h.below ah;have hrow:∀c,v.ownBlock=O c->p+1<=c:=λc hc=>(h.own.block c hc).1
 have hk:∀c,c<W3.heap.size->c<=p->W'.heap[c]? =W3.heap[c]? :=λc hc aa=>hg.block c hc λe=>by have:=hrow c e.symm;omega
 have hbk:∀{c:Nat}{cs:Array iQ}{t:jl},mY W3 c cs t->c<=p->mY W' c cs t:=λ{c cs t} hc aa=>by
  unfold mY;rw[hk c hc.lt aa];exact hc
 have aj:=h.hp;have ak:=h.r.hb;have N:∀c,c≠p->(W'.setCell (Z p 2 U) v').heap[c]? =W'.heap[c]? :=λc hc=>by simp[jr,kg,show p≠c from λe=>hc e.symm]
 refine⟨⟨(hbk A.r.ty I).setOther (by show g≠p;omega) _,(hbk A.r.res I).setOther (by show g+1≠p;omega) _,(hbk A.r.rd I).setOther (by show b≠p;omega) _,A.r.ok,?_,?_,A.r.hg,A.r.hb⟩,(hbk A.x (iP _)).set 2 v',?_,h.hp⟩
 .have ai:oO b w0 W':=by
   have h0:=A.r.upd;refine⟨hg.os.trans h0.os,hg.tape.trans h0.tape,hg.output.trans h0.output,jk h0.size hg.size,λc hc ag=> ?_⟩;have av:=h0.size;have ax:=A.r.hg;exact(hk c I I).trans (h0.block c hc ag)
  exact ai.xm (a:=(Z p 2 U)) (by show w0.heap.size<=p;have:=A.r.hg;omega) _
 .have ay:=A.r.upd.size
  have au:=A.r.hg;refine Shape.nA.keep A.r.sub (by simp[jr];exact hg.size) (λ_ _ q=>q) λc hc az=>(N c I).trans (hk c hc I)
 .exact J.keep λc hc=>N c (af c hc)
def LK.opn(h:LK b g p k z tl ot tn ct ts w0 r v L W)(hg:W.grownBy W' v.ownBlock):W'.cell? (Z p 2 U)=O v/\W'.frozen? (Z p 2 U)=M:=by
 have hk:mY W' p #[H ⟨#[]⟩,mH u,v] IT:=by
  unfold mY;rw[hg.block p h.x.lt λe=>by have:=(h.own.block p e.symm).1;omega];exact h.x
 exact⟨hk.cell 2,hk.free 2⟩
end
def JQ(r:RS)(n:Nat):(r.comp n).2<=n:=by
 by_cases h:(r.comp n).1.f=0;.exact yI h
 .unfold RS.comp at h|-
  split
  .rename_i h0
   rw[Ax h0]at h;dsimp only at h|-;split
   .rename_i A
    rw[Ax A]at h;exact absurd rfl h
   .exact jB _
  .exact jB _
def NI{f:mW TL->RS->Nat->ZB}{T:List (mW TL×Bool)}{i:Nat}{t:mW TL}(ht:T[i]? =O (t,b))(hc:(b=u\/r.p<r.t.size)/\r.f=0):(oN f (T.drop i) r l).2=(oN f (T.drop (i+1)) (f t r l).2.1 (f t r l).2.2).2:=by
 have⟨hi,he⟩:=jU.1 ht;rw[lH hi,he];unfold oN;rw[Ax hc];cases T.drop (i+1)<;>rfl
def A7{f:mW TL->RS->Nat->ZB}{T:List (mW TL×Bool)}{i:Nat}(h:T.length<=i\/r.f≠0\/∃t,T[i]? =O (t,M)/\¬r.p<r.t.size):(oN f (T.drop i) r l).2=(r,l):=by
 by_cases hi:i<T.length
 .rw[lH hi]
  unfold oN;rw[At];intro hc;rcases h with h|h|⟨t,A,C⟩
  .omega
  .exact h hc.2
  .rw[ja hi]at A
   injection A with A
   rw[A]at hc;rcases hc.1 with h|h
   .cases h
   .exact C h
 .rw[ef I]
  rfl
def TD(r:RS){n:Int}(h:n<=k):(r.take n).2.size<=k:=by
 unfold RS.take;split
 .split
  .exact jB _
  .split
   .exact jB _
   .dsimp only
    rw[iV];omega
 .exact jB _
def a1N(h:p:=by
 have HM2:=Y hm2;have HA:R (∀W,w2.alloc (mM #[H tx,mH lb,G o2 n2 c2'] IT)=W->LK b g p 5 0 kt (O (Z b' off' U)) tn ct ts w r3 (G oa i cap) L W/\mY W w2.heap.size #[H tx,mH lb,G o2 n2 c2'] IT/\iR w2.heap.size w2 W):=Y λW hW=>by
  subst hW;have hb:=(iT w2.heap.size w2).alloc (iP _) (mM #[H tx,mH lb,G o2 n2 c2'] IT);exact⟨HL2.below hb,mY.new w2 _ _,hb⟩
 clear hu hx hm2 y0 y1 y2 y3 e0 e1 e2 g0 g1 g2 g3;go_upto_region 28 with fail;have⟨hl3,hq3,hb3⟩:=HA.out _ rfl;generalize w2.alloc _=w3 at*;have HL3:=Y hl3;have HB3:=Y hb3;have⟨q0,q1,q2⟩:=qa hq3;have⟨p0',p1',p2'⟩:=qa hl3.x;clear HA hl3 hq3 hb3;go_upto_region 29 with(at_builtin;go_loud (refine qx Je VW rfl _ _ rfl (B:=p+1) (v:=G oa i cap) (L:=L) (y:=(⟨tx,lb,o2,n2,c2'⟩:IG)) rfl (HL3.own.below ((iT _ w3).alloc (iP _) _)) rfl (mY.new w3 #[H tx,mH lb,G o2 n2 c2'] IT) rfl (by simp[igf,Value.oneCell']) (by rw[HLL.out];omega) (by have:=HL3.x.lt;simp;omega) ?_);intro gg cc w5 hown5 Cz a7v a7w;rw[HLL.out]at hown5|-;have HN:=Y (iU hown5 Cz);obtain⟨k0,k1⟩:=(HL3.below ((iT _ w3).alloc (iP _) _)).opn Cz;clear hown5 Cz a7v a7w)
 have HNX:=Y (LK.next HL2 (HB3.trans (((iT w3.heap.size w3).alloc (iP _) _).mono HB3.size)) HN.1 HN.2);have a7x:R ((L++[(⟨tx,lb,o2,n2,c2'⟩:IG)]).length=i+1):=Y (by rw[jo,HLL.out];rfl);have HZ2:R (r3.f=0->m2=((aw - l3:Nat):Int)/\l3<=aw):=Y λh=>by have:=HRG.out h;have:=HM2.out h;omega
 have HT2:R (r3.t=T):=Y HTT.out;go_wp2;go_roundw;case rel=>exact⟨i+1,m2,r3,l3,O (Z gg 0 U),cc,_,rfl,by go_num,I,HGO,HZ2,HT2,a7x,HNX⟩
 case measure=>simp[jF];omega):p:=h
def NJ(h:p:=by
 have⟨j0,j1,j2⟩:=qa HL.x;have⟨x0,x1,x2⟩:=qa HL.r.res;have⟨z0,z1,z2⟩:=HL.r.res.f3;have HE:R ((ri,li)=(RF,LF)):=Y (hend.symm.trans HLV);have HMF:R (ri.f=0->z=(aw:Int) -(LF:Int)):=Y λh=>by have h1:=HZ.out h;have h2:=congrArg Prod.snd HE.out;dsimp only at h2;omega
 clear hend;go_wp2_with fail;rw[nO];exact HPF HL.r (congrArg Prod.fst HE) _ _ _ _ _ _ rfl rfl rfl HMF.out):p:=h
def VX(h:p:=by
 go_wp2_with fail;rw[nO];exact HPF H3 J2.1 _ _ _ _ _ _ rfl rfl rfl (λ_=>by rw[<-J2.2];exact hMa)):p:=h
def a1O(h:p:=by
 go_wp2_with fail;refine vF CF λw2 hu hx=> ?_
 have H2:=Y (HR.go hu hx ⟨BQ.1,BQ.2⟩);clear hu hx;have⟨c0,c1,c2⟩:=qa H2.rd;have⟨x0,x1,x2⟩:=qa H2.res;have⟨z0,z1,z2⟩:=H2.res.f3;go_wp2_with fail;rw[nO];exact HPF H2 J2.1 _ _ _ _ _ _ rfl rfl rfl (λh=>by cases h)):p:=h
def TE(items:Int)(aw:Nat)(dD:(min items 1024).toNat=aw)(hi:1<=items):∀(d:Nat)(t:mW TL)(b:Nat)(r:RS)(a l:Nat)(w:K)(tv:iQ),t.deep<=d->t.all nW=u->nK.nA w (λc=>c≠b) tv t.sub->QO w b r->r.Ok->r.f=0->r.t.size<=100000->a+l=aw->
  iW iN 125 #[mG (O (Z b 0 U)),mI #[V X t.lab.kind,V X t.lab.size,tv,V X t.lab.tail],V X a,V X items] w (TC b w (nQ d t r l).2.1 aw (nQ d t r l).2.2):=by
 have dM:aw<=1024:=I;have bO:(aw:Int)<=items/\(items<=1024->(aw:Int)=items)/\(1024<items->aw=1024):=I;clear dD;intro d;induction d with
 |zero=>
  intro t b r a l w tv aV;have:=t.Dj;omega
 |succ d bP=>
  intro t b r a l w tv aV aP az hx hok dE hsz bQ;obtain⟨⟨bg,ag,kt⟩,ts⟩:=t;obtain⟨T,p0,f0⟩:=r;simp only[mW.oW,mW.qm]at*;subst dE;obtain⟨ot,ct,rfl,bR,bS,bT⟩:=id az;clear bT;have⟨tn,aQ⟩:=nE ts.length;have aR:=Y aQ;obtain⟨g,hg⟩:=o7 w;rw[aQ]at az|-;have bA:R (∀W,(w.alloc (mM #[V X bg,V X ag,G ot tn ct,V X kt] zK)).alloc (mM #[H ⟨#[]⟩,mH M,G U 0 0] IT)=W->TB b g bg ag kt ot tn ct ts w ⟨T,p0,0⟩ W):=Y λW hW=>hW▸TB.start hg hx hok az
  have aF:R (∀y,y∈ts->y.deep<=d):=Y λy hy=>by
   have:=yJ hy;simp only[mW.deep]at aV;omega
  simp only[mW.all,je]at aP;have aG:R (∀y,y∈ts->y.all nW=u):=Y λy hy=>wu aP.2 hy
  have aK:=aP.1;unfold nW qd at aK;simp only[bb]at aK;rw[aQ]at aK;have⟨ab,bF⟩:∃ab,(nQ (d+1) (.node ⟨bg,ag,kt⟩ ts) ⟨T,p0,0⟩ l).2=ab:=⟨_,rfl⟩;have aU:=Y bF;rw[bF];obtain⟨RF,LF⟩:=ab;dsimp only;have⟨bG,bq⟩:=nE (TC b w RF aw LF);have dP:=Y bq;rw[bq];have bH:=Y bP;have BQ:=Y hok;have dN:a<=1024:=I
  have HPF:R (∀{W:K}{r:RS}{a:lY}(h:TB b g bg ag kt ot tn ct ts w r W)(bU:r=RF)(tx:An)(li:Bool)(o:Option j4)(n c:Nat)(m:Int)(bV:a.tmps.getD 8 jw=mG (O (Z (g+1) 0 U)))(bW:a.tmps.getD 9 jw=V X m)(hd:a.defers=[])(bX:r.f=0->m=(aw:Int) -(LF:Int)),
    bodyPost iN Tryz.f125 bG .ret a (q8 W (g+1) (H tx) (mH li) (G o n c))):=Y λh bU tx li o n c m bV bW hd bX=>by
   rw[<-bq];subst bU;exact a9b h tx li o n c m bV bW hd bX
  have aO:T.size<=100000:=hsz;clear bP bF bq az hx hok aV aP aQ bR bS hsz;go_in;go_upto_region 1 with fail;have HR:=Y (bA _ rfl);generalize (w.alloc _).alloc _=w1 at*;clear bA;cases l with
  |zero=>
   clear aK;have J2:R ((⟨T,p0,4⟩:RS)=RF/\0=LF):=Y (by have h:=aU.out;rw[U2]at h;injection h with h1 h2;exact⟨h1,h2⟩);have CF:=Y (RX b ⟨T,p0,0⟩ 4 w1 HR.rd);have e0:RS.fail ⟨T,p0,0⟩ 4=⟨T,p0,4⟩:=rfl;rw[e0]at CF;have⟨b1,bB⟩:=nE (As (items<(a:Int)+1));have dF:As ((a:Int)+1>items)=b1:=bB;have bC:b1=M->As ((a:Int)+1>1024)=u/\As ((1024:Int)<(a:Int)+1)=u:=λh=>by
    subst h;simp only[b8]at bB;simp only[bb];omega
   have bY:=Y bC;clear bC;cases b1 with
   |true=>
    exact a1O
   |false=>
    have⟨dG,dH⟩:=bY.out rfl;exact a1O
  |succ m=>
   have dG:As ((a:Int)+1>items)=M:=nk;have dH:As ((a:Int)+1>1024)=M:=nk;have dQ:(a:Int)+1<=1024:=I;have hMa:R ((a:Int)+1=(aw:Int) -(m:Int)):=Y I;have⟨c0,c1,c2⟩:=qa HR.rd;have⟨t0,t1,aH,t3⟩:=AR HR.ty;have⟨x0,x1,x2⟩:=qa HR.res;have⟨z0,z1,z2⟩:=HR.res.f3;clear bO bQ;rcases aK with⟨rfl,h2,_,_⟩|⟨rfl,h2,bu,_,_⟩|⟨rfl,h2,bu,_,_⟩|⟨rfl,h2,bu,rfl,rfl⟩|⟨rfl,rfl,bu,dR,dS⟩
   .have J2:R (((⟨T,p0,0⟩:RS).take ag).1=RF/\m=LF):=Y (by have h:=aU.out;rw[U3 _ _ _ _ _ rfl]at h;injection h with h1 h2;exact⟨h1,h2⟩)
    have az:=TD (⟨T,p0,0⟩:RS) (n:=ag) (k:=8) I;have aA:=Y (Ct b ⟨T,p0,0⟩ ag w1 BQ HR.rd);have A:=BQ.take ag;have⟨⟨r2,S⟩,ah⟩:∃y,(⟨T,p0,0⟩:RS).take ag=y:=⟨_,rfl⟩;rw[ah]at aA az J2 A;dsimp only at aA az J2 A;have af:=Y A;have bZ:=Y (λW=>sZ S W yF);have cz:=Y (λW=>uC ⟨S.data.toList.reverse.toArray⟩ W (by rw[size_mk,lC];simp;omega));have⟨cK,bI⟩:∃cK:An,(⟨S.data.toList.reverse.toArray⟩:An)=cK:=⟨_,rfl⟩;have cZ:qY cK.data.toList<18446744073709551616:=by
     rw[<-bI];unfold qY;rw[lW,lU];have h1:=qD S.data.toList;have h2:S.data.toList.length<=8:=nk;exact H6
    rw[bI]at bZ cz;have dI:=Y (λW=>KY (qY cK.data.toList) W cZ);generalize qY cK.data.toList=dJ at*;generalize (⟨(zH dJ).reverse.toArray⟩:An)=dU at*;clear bI ah A;go_wp2_with fail;refine vF aA λw2 hu hx=> ?_
    have H2:=Y (HR.go hu hx af);clear hu hx c0 c1 c2 t0 t1 aH t3 x0 x1 x2 z0 z1 z2;go_wp2_with fail;refine(bZ _).mono ?_;rintro e w3 ⟨rfl,rfl⟩;go_wp2_with fail;refine(cz _).mono ?_;rintro e w3 ⟨rfl,rfl⟩;go_wp2_with fail;refine pG (dI _) λw3 hb=> ?_
    have H3:=Y (H2.below hb);have⟨x0,x1,x2⟩:=qa H3.res;have⟨z0,z1,z2⟩:=H3.res.f3;clear hb;exact VX
   .have J2:R (((⟨T,p0,0⟩:RS).take ag).1=RF/\m=LF):=Y (by have h:=aU.out;rw[U4 _ _ _ _ _ rfl]at h;injection h with h1 h2;exact⟨h1,h2⟩)
    have aA:=Y (Ct b ⟨T,p0,0⟩ ag w1 BQ HR.rd);have A:=BQ.take ag;have⟨⟨r2,S⟩,ah⟩:∃y,(⟨T,p0,0⟩:RS).take ag=y:=⟨_,rfl⟩;rw[ah]at aA J2 A;dsimp only at aA J2 A;have af:=Y A;clear ah A;go_wp2_with fail;refine vF aA λw2 hu hx=> ?_
    have H2:=Y (HR.go hu hx af);clear hu hx c0 c1 c2 t0 t1 aH t3 x0 x1 x2 z0 z1 z2;have⟨x0,x1,x2⟩:=qa H2.res;have⟨z0,z1,z2⟩:=H2.res.f3;go_wp2_with fail;rw[nO];exact HPF H2 J2.1 _ _ _ _ _ _ rfl rfl rfl (λ_=>by rw[<-J2.2];exact hMa)
   .obtain⟨N,rfl⟩:∃N:Nat,ag=N:=⟨ag.toNat,I⟩
    have J2:R ((((⟨T,p0,0⟩:RS).comp N).1.take ((⟨T,p0,0⟩:RS).comp N).2).1=RF/\m=LF):=Y (by have h:=aU.out;rw[U5 _ _ _ _ _ rfl]at h;injection h with h1 h2;exact⟨h1,h2⟩);have aB:=JQ (⟨T,p0,0⟩:RS) N;have aI:=Y (BJ b ⟨T,p0,0⟩ N w1 BQ HR.rd I);have A:=BQ.comp N;have⟨⟨r2,aq⟩,ah⟩:∃y,(⟨T,p0,0⟩:RS).comp N=y:=⟨_,rfl⟩;rw[ah]at aI J2 A aB;dsimp only at aI J2 A aB;have aA:=Y (λ(W:K) (h:QO W b r2)=>Ct b r2 aq W A h);have aJ:=A.take aq;have⟨⟨r3,S⟩,ai⟩:∃y,r2.take aq=y:=⟨_,rfl⟩;rw[ai]at aA J2 aJ;dsimp only at aA J2 aJ;have af:=Y (iU A aJ);have df:IntKind.u64.wrap (N:Int)=N:=by
     exact NG
    have dh:aq<=65536:=I;clear ah A ai aJ aB;go_wp2_with fail;refine vF aI λw2 hu hx=> ?_
    have H2:=Y (HR.go hu hx af.1);clear hu hx c0 c1 c2 t0 t1 aH t3 x0 x1 x2 z0 z1 z2;go_wp2_with fail;refine vF (aA _ H2.rd) λw3 hu hx=> ?_
    have H3:=Y (H2.go hu hx af.2);clear hu hx;have⟨x0,x1,x2⟩:=qa H3.res;have⟨z0,z1,z2⟩:=H3.res.f3;exact VX
   .obtain⟨N,rfl⟩:∃N:Nat,ag=N:=⟨ag.toNat,I⟩
    obtain⟨y,rfl⟩:∃y,ts=[y]:=List.length_eq_one_iff.1 aR.out;have E:y∈[y]:=ny;have J2:R ((oN (nQ d) (jC ((⟨T,p0,0⟩:RS).comp N).2 (y,u)) ((⟨T,p0,0⟩:RS).comp N).1 m).2=(RF,LF)):=Y (by have h:=aU.out;rw[U6 _ _ _ _ _ rfl]at h;exact h);have aB:=JQ (⟨T,p0,0⟩:RS) N;have aS:=MF (⟨T,p0,0⟩:RS) N;have A:=BQ.comp N;have aI:=λ(W:K) (h:QO W b ⟨T,p0,0⟩)=>BJ b ⟨T,p0,0⟩ N W BQ h I
    have⟨⟨r2,aq⟩,ah⟩:∃y,(⟨T,p0,0⟩:RS).comp N=y:=⟨_,rfl⟩;rw[ah]at aI J2 A aB aS;dsimp only at aI J2 A aB aS;have aI:=Y aI;have af:=Y (iU A aS);have df:IntKind.u64.wrap (N:Int)=N:=by
     exact NG
    have dh:aq<=1024:=I;obtain⟨p,hp⟩:=o7 w1;have aL:R (∀W,w1.alloc (mM #[H ⟨#[]⟩,mH u,G U 0 0] IT)=W->LK b g p 4 N 0 ot 1 ct [y] w ⟨T,p0,0⟩ (G U 0 0) [] W):=Y λW hW=>hW▸HR.loop hp
    clear ah A aS aB h2 bu;go_upto_region 14 with fail;have aD:=Y (aL _ rfl);generalize w1.alloc _=w2 at*;clear aL t0 t1 aH t3 c0 c1 c2 x0 x1 x2 z0 z1 z2;have⟨c0,c1,c2⟩:=qa aD.r.rd;have⟨t0,t1,aH,t3⟩:=AR aD.r.ty;go_wp2_with fail;refine vF (aI _ aD.r.rd) λw3 hu hx=> ?_
    have HL2:=Y (aD.go hu hx af.1);clear hu hx c0 c1 c2 t0 t1 aH t3;go_wp2;go_loopw [10,13] (λbJ iv bK=>∃(i:Nat) (z:Int) (ri:RS) (li:Nat) (oa:Option j4) (cap:Nat) (L:List IG),bJ=V X z/\iv=V X i/\i<=aq/\R ((oN (nQ d) ((jC aq (y,u)).drop i) ri li).2=(RF,LF))/\R (ri.f=0->z=((aw - li:Nat):Int)/\li<=aw)/\R (ri.t=T)/\R (L.length=i)/\R (LK b g p 4 N 0 ot 1 ct [y] w ri (G oa i cap) L bK)) (λ_ iv _=>aq -(jF iv).toNat);case atStart=>exact⟨0,_,r2,m,U,0,[],rfl,rfl,jB _,J2,Y (λ_=>by have:=hMa.out;omega),Y af.2,Y rfl,HL2⟩
    case round=>
     obtain⟨i,z,ri,li,oa,cap,L,rfl,rfl,dw,HLV,HZ,aW,HLL,HL⟩:=hrel;have⟨e0,e1,e2⟩:=qa HL.r.rd;have⟨g0,g1,g2,g3⟩:=AR HL.r.ty;by_cases ci:i<aq
     .by_cases aa:ri.f=0
      .obtain⟨bL,C,bM⟩:=ri
       obtain rfl:T=bL:=aW.symm;have aa:bM=0:=aa;subst aa;have⟨aX,dx⟩:=HZ.out rfl;subst aX;have hy:([y]:List (mW TL))[0]? =O y:=rfl;have aj:(jC aq (y,u))[i]? =O (y,u):=by rw[List.getElem?_replicate,Ax ci]
       have J:u=u\/C<T.size:=.inl rfl;have⟨b',off',ou,cu,aM,aY,_,y0,y1,y2,y3,ak⟩:=DN HL.r.sub hy;subst aM;have au:=bH.out y b ⟨T,C,0⟩ (aw - li) li wr (G ou y.sub.length cu) (aF y E) (aG y E) (Shape.nA.keep ak (iP _) (λ_ _ q=>q.1) λ_ _ _=>rfl) HL.r.rd HL.r.ok rfl aO I;have av:=NI (f:=nQ d) (r:=⟨T,C,0⟩) (l:=li) aj ⟨J,rfl⟩;have HRG:R ((nQ d y ⟨T,C,0⟩ li).2.1.f=0->(nQ d y ⟨T,C,0⟩ li).2.2<=li):=Y λh=>by
        have:=(DF d y ⟨T,C,0⟩ li (aG y E) (aF y E) HL.r.ok h).count;omega
       have ax:=Y ((vo d y ⟨T,C,0⟩ li).ok HL.r.ok);have HTT:=Y ((vo d y ⟨T,C,0⟩ li).t);have⟨⟨r3,l3⟩,ai⟩:∃v,(nQ d y ⟨T,C,0⟩ li).2=v:=⟨_,rfl⟩;rw[ai]at au av HRG ax HTT;have HGO:R ((oN (nQ d) ((jC aq (y,u)).drop (i+1)) r3 l3).2=(RF,LF)):=Y (av.symm.trans HLV);have⟨dz,ay⟩:=nE y.sub.length;rw[ay]at au y2;have au:=Y au;simp only[Nat.zero_mul,mh]at y0 y1 y2 y3;clear av ai ak ay hy aj J E HLV;go_wp2_with fail;refine au.mono ?_;rintro e w2 ⟨hu,hx,tx,lb,o2,n2,c2',m2,hm2,rfl⟩;have HL2:=Y (HL.go hu hx ax);have HM2:=Y hm2;have HA:R (∀W,w2.alloc (mM #[H tx,mH lb,G o2 n2 c2'] IT)=W->LK b g p 4 (N:Int) 0 (O (Z b' off' U)) 1 ct [y] w r3 (G oa i cap) L W/\mY W w2.heap.size #[H tx,mH lb,G o2 n2 c2'] IT/\iR w2.heap.size w2 W):=Y λW hW=>by
        subst hW;have hb:=(iT w2.heap.size w2).alloc (iP _) (mM #[H tx,mH lb,G o2 n2 c2'] IT);exact⟨HL2.below hb,mY.new w2 _ _,hb⟩
       clear hu hx hm2 y0 y1 y2 y3 e0 e1 e2 g0 g1 g2 g3;go_upto_region 20 with fail;have⟨hl3,hq3,hb3⟩:=HA.out _ rfl;generalize w2.alloc _=w3 at*;have HL3:=Y hl3;have HB3:=Y hb3;have⟨q0,q1,q2⟩:=qa hq3;have⟨p0',p1',p2'⟩:=qa hl3.x;clear HA hl3 hq3 hb3;go_upto_region 21 with(at_builtin;go_loud (refine qx Je VW rfl _ _ rfl (B:=p+1) (v:=G oa i cap) (L:=L) (y:=(⟨tx,lb,o2,n2,c2'⟩:IG)) rfl (HL3.own.below ((iT _ w3).alloc (iP _) _)) rfl (mY.new w3 #[H tx,mH lb,G o2 n2 c2'] IT) rfl (by simp[igf,Value.oneCell']) (by rw[HLL.out];omega) (by have:=HL3.x.lt;simp;omega) ?_);intro gg cc w5 hown5 Cz a7v a7w;rw[HLL.out]at hown5|-;have HN:=Y (iU hown5 Cz);obtain⟨k0,k1⟩:=(HL3.below ((iT _ w3).alloc (iP _) _)).opn Cz;clear hown5 Cz a7v a7w)
       have HNX:=Y (LK.next HL2 (HB3.trans (((iT w3.heap.size w3).alloc (iP _) _).mono HB3.size)) HN.1 HN.2);have a7x:R ((L++[(⟨tx,lb,o2,n2,c2'⟩:IG)]).length=i+1):=Y (by rw[jo,HLL.out];rfl);have HZ2:R (r3.f=0->m2=((aw - l3:Nat):Int)/\l3<=aw):=Y λh=>by have:=HRG.out h;have:=HM2.out h;omega
       have HT2:R (r3.t=T):=Y HTT.out;go_wp2;go_roundw;case rel=>exact⟨i+1,m2,r3,l3,O (Z gg 0 U),cc,_,rfl,by go_num,I,HGO,HZ2,HT2,a7x,HNX⟩
       case measure=>simp[jF];omega
      .have q1:(ri.f==0)=M:=by rw[bj];exact aa
       have hend:=A7 (f:=nQ d) (T:=jC aq (y,u)) (i:=i) (r:=ri) (l:=li) (.inr (.inl aa));clear aa;exact NJ
     .obtain rfl:i=aq:=I
      have hend:=A7 (f:=nQ d) (T:=jC i (y,u)) (i:=i) (r:=ri) (l:=li) (.inl ny);exact NJ
   .have J2:R ((oN (nQ d) (ry ts kt) ⟨T,p0,0⟩ m).2=(RF,LF)):=Y (by have h:=aU.out;rw[U7 _ _ _ _ _ rfl]at h;exact h)
    have bD:(ry ts kt).length=tn:=by simp[ry,aR.out]
    have dA:R (∀(i:Nat)(y:mW TL),ts[i]? =O y->(ry ts kt)[i]? =O (y,As ((i:Int)<(tn:Int) - kt))):=Y λi y h=>by
     unfold ry;rw[List.getElem?_mapIdx,h,<-aR.out];rfl
    have dB:=Y bD;obtain⟨p,hp⟩:=o7 w1;have aL:R (∀W,w1.alloc (mM #[H ⟨#[]⟩,mH u,G U 0 0] IT)=W->LK b g p 5 0 kt ot tn ct ts w ⟨T,p0,0⟩ (G U 0 0) [] W):=Y λW hW=>hW▸HR.loop hp
    clear bD;go_upto_region 14 with fail;have aD:=Y (aL _ rfl);generalize w1.alloc _=w2 at*;clear aL t0 t1 aH t3 c0 c1 c2 x0 x1 x2 z0 z1 z2;have⟨t0,t1,aH,t3⟩:=AR aD.r.ty;go_wp2_with fail;clear t0 t1 aH t3;go_loopw [10,16] (λbJ iv bK=>∃(i:Nat) (z:Int) (ri:RS) (li:Nat) (oa:Option j4) (cap:Nat) (L:List IG),bJ=V X z/\iv=V X i/\i<=tn/\R ((oN (nQ d) ((ry ts kt).drop i) ri li).2=(RF,LF))/\R (ri.f=0->z=((aw - li:Nat):Int)/\li<=aw)/\R (ri.t=T)/\R (L.length=i)/\R (LK b g p 5 0 kt ot tn ct ts w ri (G oa i cap) L bK)) (λ_ iv _=>tn -(jF iv).toNat);case atStart=>exact⟨0,_,⟨T,p0,0⟩,m,U,0,[],rfl,rfl,jB _,J2,Y (λ_=>by have:=hMa.out;omega),Y rfl,Y rfl,aD⟩
    case round=>
     obtain⟨i,z,ri,li,oa,cap,L,rfl,rfl,dw,HLV,HZ,aW,HLL,HL⟩:=hrel;have⟨e0,e1,e2⟩:=qa HL.r.rd;have⟨g0,g1,g2,g3⟩:=AR HL.r.ty;by_cases ci:i<tn
     .have⟨y,hy⟩:∃y,ts[i]? =O y:=⟨_,ja (by rw[aR.out];exact ci)⟩
      have E:=jq hy;by_cases aa:ri.f=0
      .obtain⟨bL,C,bM⟩:=ri
       obtain rfl:T=bL:=aW.symm;have aa:bM=0:=aa;subst aa;have⟨aX,dx⟩:=HZ.out rfl;subst aX;have aj:=dA.out i y hy;by_cases bE:(i:Int)<(tn:Int) - kt
       .rw[a8 bE]at aj
        have J:u=u\/C<T.size:=.inl rfl;have dK:As ((i:Int)>=(tn:Int) - kt)=M:=nk;have⟨b',off',ou,cu,aM,aY,_,y0,y1,y2,y3,ak⟩:=DN HL.r.sub hy;subst aM;have au:=bH.out y b ⟨T,C,0⟩ (aw - li) li wr (G ou y.sub.length cu) (aF y E) (aG y E) (Shape.nA.keep ak (iP _) (λ_ _ q=>q.1) λ_ _ _=>rfl) HL.r.rd HL.r.ok rfl aO I;have av:=NI (f:=nQ d) (r:=⟨T,C,0⟩) (l:=li) aj ⟨J,rfl⟩;have HRG:R ((nQ d y ⟨T,C,0⟩ li).2.1.f=0->(nQ d y ⟨T,C,0⟩ li).2.2<=li):=Y λh=>by
         have:=(DF d y ⟨T,C,0⟩ li (aG y E) (aF y E) HL.r.ok h).count;omega
        have ax:=Y ((vo d y ⟨T,C,0⟩ li).ok HL.r.ok);have HTT:=Y ((vo d y ⟨T,C,0⟩ li).t);have⟨⟨r3,l3⟩,ai⟩:∃v,(nQ d y ⟨T,C,0⟩ li).2=v:=⟨_,rfl⟩;rw[ai]at au av HRG ax HTT;have HGO:R ((oN (nQ d) ((ry ts kt).drop (i+1)) r3 l3).2=(RF,LF)):=Y (av.symm.trans HLV);have⟨dz,ay⟩:=nE y.sub.length;rw[ay]at au y2;have au:=Y au;clear av ai ak ay hy aj J E HLV;go_wp2_with fail;refine au.mono ?_;rintro e w2 ⟨hu,hx,tx,lb,o2,n2,c2',m2,hm2,rfl⟩;have HL2:=Y (HL.go hu hx ax);exact a1N
       .rw[bh bE]at aj
        have dK:As ((i:Int)>=(tn:Int) - kt)=u:=nk;have CF:=Y (I1 b ⟨T,C,0⟩ wr HL.r.ok HL.r.rd);have dO:C<=T.size:=HL.r.ok.1;by_cases aZ:C<T.size
        .have J:M=u\/C<T.size:=.inr aZ
         have dL:(((T.size:Int) -(C:Int))==0)=M:=qJ;go_wp2_with fail;refine pG CF λbz aN=> ?_;obtain⟨bN,aN⟩:=aN
         have ae:=Y (HL.below (show iR wr.heap.size wr bz by rw[aN];exact LJ wr bN));clear aN CF e0 e1 e2 g0 g1 g2 g3;have⟨e0,e1,e2⟩:=qa ae.r.rd;have⟨g0,g1,g2,g3⟩:=AR ae.r.ty;have⟨b',off',ou,cu,aM,aY,_,y0,y1,y2,y3,ak⟩:=DN ae.r.sub hy;subst aM;have au:=bH.out y b ⟨T,C,0⟩ (aw - li) li bz (G ou y.sub.length cu) (aF y E) (aG y E) (Shape.nA.keep ak (iP _) (λ_ _ q=>q.1) λ_ _ _=>rfl) ae.r.rd ae.r.ok rfl aO I;have av:=NI (f:=nQ d) (r:=⟨T,C,0⟩) (l:=li) aj ⟨J,rfl⟩;have HRG:R ((nQ d y ⟨T,C,0⟩ li).2.1.f=0->(nQ d y ⟨T,C,0⟩ li).2.2<=li):=Y λh=>by
          have:=(DF d y ⟨T,C,0⟩ li (aG y E) (aF y E) ae.r.ok h).count;omega
         have ax:=Y ((vo d y ⟨T,C,0⟩ li).ok ae.r.ok);have HTT:=Y ((vo d y ⟨T,C,0⟩ li).t);have⟨⟨r3,l3⟩,ai⟩:∃v,(nQ d y ⟨T,C,0⟩ li).2=v:=⟨_,rfl⟩;rw[ai]at au av HRG ax HTT;have HGO:R ((oN (nQ d) ((ry ts kt).drop (i+1)) r3 l3).2=(RF,LF)):=Y (av.symm.trans HLV);have⟨dz,ay⟩:=nE y.sub.length;rw[ay]at au y2;have au:=Y au;clear av ai ak ay hy aj J E HLV;go_wp2_with fail;refine au.mono ?_;rintro e w2 ⟨hu,hx,tx,lb,o2,n2,c2',m2,hm2,rfl⟩;have HL2:=Y (ae.go hu hx ax);exact a1N
        .have hend:=A7 (f:=nQ d) (T:=ry ts kt) (i:=i) (r:=⟨T,C,0⟩) (l:=li) (.inr (.inr ⟨y,aj,aZ⟩))
         have dL:(((T.size:Int) -(C:Int))==0)=u:=EA;clear aZ aj;go_wp2_with fail;refine pG CF λbz aN=> ?_;obtain⟨bN,aN⟩:=aN
         have ae:=Y (HL.below (show iR wr.heap.size wr bz by rw[aN];exact LJ wr bN));clear aN CF e0 e1 e2 g0 g1 g2 g3;have⟨j0,j1,j2⟩:=qa ae.x;have⟨x0,x1,x2⟩:=qa ae.r.res;have⟨z0,z1,z2⟩:=ae.r.res.f3;have HE:R (((⟨T,C,0⟩:RS),li)=(RF,LF)):=Y (hend.symm.trans HLV);have HMF:R (((aw - li:Nat):Int)=(aw:Int) -(LF:Int)):=Y (by have h2:=congrArg Prod.snd HE.out;dsimp only at h2;omega);clear hend;go_wp2_with fail;rw[nO];exact HPF ae.r (congrArg Prod.fst HE) _ _ _ _ _ _ rfl rfl rfl (λ_=>HMF.out)
      .have q1:(ri.f==0)=M:=by rw[bj];exact aa
       have hend:=A7 (f:=nQ d) (T:=ry ts kt) (i:=i) (r:=ri) (l:=li) (.inr (.inl aa));clear aa;exact NJ
     .obtain rfl:i=tn:=I
      have hend:=A7 (f:=nQ d) (T:=ry ts kt) (i:=i) (r:=ri) (l:=li) (.inl (by rw[dB.out];exact iP _));exact NJ
end
section
open Go.RowKit Go.Maps
def hd0(l:List AC):Bool:=match l with
 |[]=>u
 |b::_=>As (b.toNat≠0)
def a4x{A C kt:Int}{ts:List (mW TL)}{tx:List AC}{li:Bool}{m tn tl:Nat}(E:nW ⟨A,C,kt⟩ ts=u)(J:ts.length=tn)(htl:tx.length=tl):
  (A=1/\qM (.node ⟨A,C,kt⟩ ts) ⟨tx,li⟩ m=(!li&&As ((tl:Int)<=C)&&hd0 tx))\/
  (A=2/\qM (.node ⟨A,C,kt⟩ ts) ⟨tx,li⟩ m=(!li&&As ((tl:Int)=C)))\/
  (A=3/\qM (.node ⟨A,C,kt⟩ ts) ⟨tx,li⟩ m=(!li&&As ((tl:Int)<=C)))\/
  (A=4/\qM (.node ⟨A,C,kt⟩ ts) ⟨tx,li⟩ m=(li&&As ((m:Int)<=C))/\tn=1)\/
  (A=5/\qM (.node ⟨A,C,kt⟩ ts) ⟨tx,li⟩ m=(li&&As (m<=tn)&&As ((tn:Int) - kt<=(m:Int)))/\tn<=16/\0<=kt/\kt<=tn):=by
 subst J htl;unfold nW qd at E;simp only[bb]at E;have e:qM (.node ⟨A,C,kt⟩ ts) ⟨tx,li⟩ m=if A=1 then xY ⟨A,C,kt⟩ ⟨tx,li⟩else if A=2 then zL ⟨A,C,kt⟩ ⟨tx,li⟩else if A=3 then zM ⟨A,C,kt⟩ ⟨tx,li⟩else if A=4 then BI ⟨A,C,kt⟩ ⟨tx,li⟩ m else if A=5 then zN ⟨A,C,kt⟩ ts.length ⟨tx,li⟩ m else M:=rfl
 rw[e];clear e;rcases E with h|h|h|h|h
 .left
  rw[Ax h.1];refine⟨h.1,?_⟩;unfold xY;cases li
  .by_cases N:(tx.length:Int)<=C
   .have aa:tx.length<=8:=I
    unfold okL qw hd0;cases tx with
    |nil=>simp
    |cons b r=>
     simp only[jD]at aa;dsimp only;rw[At I];by_cases hb:b.toNat=0<;>simp[hb]
   .simp[N]
  .rfl
 .right;left
  rw[At I,Ax h.1];exact⟨h.1,rfl⟩
 .right;right;left
  rw[At I,At I,Ax h.1];exact⟨h.1,rfl⟩
 .right;right;right;left
  rw[At I,At I,At I,Ax h.1];exact⟨h.1,rfl,I⟩
 .right;right;right;right
  rw[At I,At I,At I,At I,Ax h.1];exact⟨h.1,rfl,I,I,I⟩
def a1P{t:mW TL}{a:IL}{s:List (mW IL)}(hk:t.lab.kind<=3)(A:oh a s=u):(qM t a s.length&&sF s t 0)=qM t a s.length:=by
 cases h:qM t a s.length with
 |false=>rfl
 |true=>
  have hl:a.list=M:=by
   unfold qM at h;split at h;.simp only[xY,je,el]at h;exact h.1.1
   .split at h
    .simp only[zL,je,el]at h;exact h.1
    .split at h
     .simp only[zM,je,el]at h;exact h.1
     .split at h
      .omega
      .split at h
       .omega
       .cases h
  unfold oh qN at A;rw[hl]at A;simp only[kM,cU,bb]at A;rw[j5.1 A];rfl
def VY(h:p:=by
 obtain rfl:k=m:=I;have HRR:R (aE=u):=Y (by rw[a4y.out,<-HFK.out,<-HM.out,ky]);go_wp2;go_returns;exact⟨by rw[HRR.out];rfl,HF _ hbe.out⟩):p:=h
def a1Q(h:p:=by
 refine nG mZ mZ ?_;repeat(go_big_quiet_step (exact bp (CY _)))
 refine jT ?_;intro x;cases FB with
 |true=>
  go_wp2_with fail;exact⟨⟨k+1,by go_num,I,Y (HFN (by trivial)),Y (hbk x)⟩,by simp[jF];omega⟩
 |false=>
  go_wp2;go_returns;exact⟨by rw[HFF.out (by trivial)];rfl,HF _ (hbk x)⟩):p:=h
def yD(h:p:=by
 go_wp2;go_returns;exact⟨rfl,HB1.out⟩):p:=h
def a4z(x:mW IL):∀(t:mW TL)(w:K)(tv iv:iQ),nZ w tv t.sub->rf w iv x.sub->t.all nW=u->x.all oh=u->x.count<=100000->x.lab.text.length<=jd->
  iW iN 49 #[mI #[V X t.lab.kind,V X t.lab.size,tv,V X t.lab.tail],mI #[H (txt x.lab),mH x.lab.list,iv]] w
   λe w'=>e=mK (mH (rH x t))/\iR w.heap.size w w':=by
 induction x using mW.ind with
 |h a s bY=>
  intro t w tv iv aP aQ ax aK aR bK;simp only[mW.oW,mW.qm]at*;obtain⟨ot,ct,rfl,_,_⟩:=aP.slice;obtain⟨oi,ci,rfl,_,_⟩:=b7 aQ;have⟨m,aS⟩:=nE s.length;have dG:m<=100000:=by
   have aG:=mW.qc s;simp only[mW.count]at aR;omega
  have aU:nW t.lab t.sub=u:=by
   obtain⟨ta,ts⟩:=t;simp only[mW.all,je]at ax;exact ax.1
  have bL:R (∀y,y∈t.sub->y.all nW=u):=Y λy hy=>by
   obtain⟨ta,ts⟩:=t;simp only[mW.all,je]at ax;exact wu ax.2 hy
  simp only[mW.all,je]at aK;have bM:R (∀y,y∈s->y.all oh=u):=Y λy hy=>wu aK.2 hy
  have bN:R (∀y:mW IL,y∈s->y.count<=100000):=Y λy hy=>by
   have:=mW.xG hy;simp only[mW.count]at aR;omega
  have⟨aE,bV⟩:=nE (rH (.node a s) t);have aL:(qM t a m&&sF s t 0)=aE:=by rw[<-bV,<-aS];rfl
  have aa:R (t.lab.kind<=3->aE=qM t a m):=Y λh=>by rw[<-aL,<-aS];exact a1P h aK.1
  have ae:R (qM t a m=M->aE=M):=Y λh=>by rw[<-aL,h];rfl
  have af:R (qM t a m=u->aE=sF s t 0):=Y λh=>by rw[<-aL,h];rfl
  have aj:R (∀k z,rq t k=O z->z∈t.sub):=Y λk z aG=>by
   unfold rq at aG;split at aG<;>exact jq aG
  rw[bV];have ay:=yG a;have htl:=O0 a;obtain⟨g,hg⟩:=o7 w;have aV:=Y (zk (w:=w) t.lab.kind t.lab.size t.lab.tail (G ot t.sub.length ct) (txt a) a.list (G oi m ci));have HM:=Y aS;have bZ:=Y bY;have aW:=Y aP;have aX:=Y aQ;have cz:a.text.length<=9223372036854775807:=by unfold jd at bK;omega
  rw[hg]at aV|-;rw[aS]at aX|-;obtain⟨ta,ts⟩:=t;obtain⟨dw,N,kt⟩:=ta;obtain⟨tx,li⟩:=a;simp only[mW.oW,mW.qm]at*;have⟨tn,aM⟩:=nE ts.length;rw[aM]at aV aW|-;have⟨tl,aH⟩:=nE tx.length;have bO:=Y aM;have bP:=a4x (li:=li) (m:=m) aU aM aH;have⟨E,bQ⟩:∃T,txt ⟨tx,li⟩=T:=⟨_,rfl⟩;rw[bQ]at aV ay htl|-;generalize cK:qM ⟨⟨dw,N,kt⟩,ts⟩ ⟨tx,li⟩ m=aY at*;clear bQ aP aQ ax aK aR bK aU aL bV bY aS aM cK;rw[aH]at ay cz;have ak:R (∀h:E.size≠0,∃b r,tx=b::r/\E[0]'(Nat.pos_of_ne_zero h)=b):=Y λh=>by
   have e:E.data.toList.length=E.size:=jR;cases tx with
   |nil=>rw[htl]at e;simp at e;omega
   |cons b r=>exact⟨b,r,rfl,by
     have aG:E.data.toList[0]? =O b:=by rw[htl];rfl
     rw[ja I]at aG;exact kU aG⟩
  have cZ:R (E.size=0->tx=[]):=Y λh=>by
   have e:E.data.toList.length=E.size:=jR;rw[htl]at e;exact j5.1 I
  clear aH htl;go_in;go_upto_region 1 with fail;have⟨aN,⟨t0,t1,bI,t3⟩,⟨df,i1,i2⟩,hsz⟩:=aV.out _ rfl;generalize (w.alloc _).alloc _=w1 at*;have ai:=Y (iU aN (iU (Shape.nA.below aW (hg.symm▸aN)) (Shape.nA.below aX (hg.symm▸aN))));have av:=Y hsz;clear aV aN aW aX hsz;have HB1:=Y ai.1;rcases bP with⟨rfl,C⟩|⟨rfl,C⟩|⟨rfl,C⟩|⟨rfl,C,dJ⟩|⟨rfl,C,dK,dL,dM⟩
  .obtain rfl:aE=aY:=aa.out mX
   clear aa ae af aj ai;have ag:(tl:Int)=(E.size:Int):=I;rw[ag]at C;clear ag ay;have⟨q,aI⟩:=nE (As ((E.size:Int)<=N));rw[aI]at C;cases li with
   |true=>
    obtain rfl:aE=M:=C;clear ak aI;exact yD
   |false=>
   cases q with
   |false=>
    obtain rfl:aE=M:=C;clear ak;exact yD
   |true=>
   by_cases h0:E.size=0
   .have dx:(E.toList==([]:List AC))=u:=by rw[wO];simp[h0]
    obtain rfl:aE=u:=by
     rw[C,cZ.out h0];rfl
    have dH:As ((0:Int)<=N)=u:=by rw[h0]at aI;exact aI
    clear ak C aI;exact yD
   .have dx:(E.toList==([]:List AC))=M:=by rw[wO];simp[h0]
    have⟨b,r,e1,e2⟩:=ak.out h0;have bW:0<E.size:=Nat.pos_of_ne_zero h0;have dI:(((E[0]'bW).toNat:Int) !=0)=aE:=by
     rw[C,e1,e2];show _=As (b.toNat≠0);by_cases hb:b.toNat=0<;>simp[hb]
    clear C e1 e2 ak;cases aE with
    |true=>
     exact yD
    |false=>
     exact yD
  .obtain rfl:aE=aY:=aa.out mX
   clear aa ae af aj ai ak;have ag:(tl:Int)=(E.size:Int):=I;rw[ag]at C;clear ag ay;have aZ:((E.size:Int)==N)=As ((E.size:Int)=N):=rfl;generalize As ((E.size:Int)=N)=q at*;cases li<;>cases q<;>(obtain rfl:=C;go_wp2;go_returns;exact⟨rfl,HB1.out⟩)
  .obtain rfl:aE=aY:=aa.out mX
   clear aa ae af aj ai ak;have ag:(tl:Int)=(E.size:Int):=I;rw[ag]at C;clear ag ay;have⟨q,aI⟩:=nE (As ((E.size:Int)<=N));rw[aI]at C;cases li<;>cases q<;>(obtain rfl:=C;go_wp2;go_returns;exact⟨rfl,HB1.out⟩)
  .have dz:0<tn:=I
   cases aY with
   |false=>
    obtain rfl:aE=M:=ae.out rfl;clear aa ae af aj ai ak;cases li with
    |false=>
     clear C;exact yD
    |true=>
     have az:¬(m:Int)<=N:=λh=>by rw[a8 h]at C;cases C
     have aZ:As ((m:Int)>N)=u:=nk;have aO:As (N<(m:Int))=u:=nk;clear az C;exact yD
   |true=>
   have aA:u=u:=rfl;rw[eq_comm,je]at C;obtain⟨rfl,az⟩:=C;replace az:=b2 az;have C:True:=trivial;have aZ:As ((m:Int)>N)=M:=nk;have aO:As (N<(m:Int))=M:=nk;have bg:R (w1.cell? (Z g 2 U)=O (G ot tn ct)/\w1.cell? (Z (g+1) 2 U)=O (G oi m ci)):=Y ⟨bI,i2⟩;have bq:R (∀k,k<m->∃z,ts[0]? =O z/\rq ⟨⟨4,N,kt⟩,ts⟩ k=O z/\z∈ts):=Y λk hk=>by
    have h:0<ts.length:=by rw[bO.out];omega
    exact⟨ts[0],ja h,by simp[rq,ja h],ey h⟩
   have a4y:=Y (af aA);clear ak aa ae af aj aA C;go_wp2_with fail;clear t0 t1 bI t3 df i1 i2;go_loopw [5] (λiv bX=>∃k:Nat,iv=V X k/\k<=m/\R (sF (s.take k) ⟨⟨4,N,kt⟩,ts⟩ 0=u)/\R (iR (g+2) w1 bX)) (λiv _=>m -(jF iv).toNat);case atStart=>exact⟨0,rfl,I,Y rfl,Y (iT _ _)⟩
   case round=>
    obtain⟨k,rfl,hk,HFK,hbe⟩:=hrel;have bu:g+2<=wr.heap.size:=by have:=hbe.size;have:=av.out;omega
    have bz:wr.cell? (Z (g+1) 2 U)=O (G oi m ci):=(hbe.cell (p:=(Z (g+1) 2 U)) (show g+1<g+2 by omega)).trans bg.2;have bA:wr.cell? (Z g 2 U)=O (G ot tn ct):=(hbe.cell (p:=(Z g 2 U)) (show g<g+2 by omega)).trans bg.1;have HF:R (∀W,iR (g+2) w1 W->iR g w W):=Y λW h=>ai.1.trans (h.mono I)
    by_cases c:k<m
    .have⟨y,hy⟩:∃y,s[k]? =O y:=⟨_,ja (by rw[HM.out];exact c)⟩
     have⟨z,ag,au,aB⟩:=bq.out k c;obtain⟨b,off,ar,rfl,hlt,_,bB,bC,bD,bE,aD⟩:=nC.at_ (Shape.nA.below ai.2.2 (av.out▸hbe.out)) hy;obtain⟨b',A,bF,rfl,J,z0,bG,bH,z3,aF,aJ⟩:=nZ.at_ (Shape.nA.below ai.2.1 (av.out▸hbe.out)) ag;have dA:∀x:qX wr,x.at_.cell? (Z (g+1) 2 U)=O (G (O (Z b off U)) m ci):=λx=>(x.is.cell (p:=(Z (g+1) 2 U)) (show g+1<wr.heap.size by omega)).trans bz
     have dh:∀x:qX wr,x.at_.cell? (Z g 2 U)=O (G (O (Z b' A U)) tn ct):=λx=>(x.is.cell (p:=(Z g 2 U)) (show g<wr.heap.size by omega)).trans bA
     have dB:∀x:qX wr,x.at_.cell? (Z b (off+k*3) U)=O (H (txt y.lab)):=λx=>(x.is.cell (p:=(Z b (off+k*3) U)) hlt).trans bB
     have dD:∀x:qX wr,x.at_.cell? (Z b (off+k*3+1) U)=O (mH y.lab.list):=λx=>(x.is.cell (p:=(Z b (off+k*3+1) U)) hlt).trans bC
     have dE:∀x:qX wr,x.at_.cell? (Z b (off+k*3+2) U)=O ar:=λx=>(x.is.cell (p:=(Z b (off+k*3+2) U)) hlt).trans bD
     have bR:∀x:qX wr,x.at_.cell? (Z b' (A+0*4) U)=O (V X z.lab.kind):=λx=>(x.is.cell (p:=(Z b' (A+0*4) U)) J).trans z0
     have bS:∀x:qX wr,x.at_.cell? (Z b' (A+0*4+1) U)=O (V X z.lab.size):=λx=>(x.is.cell (p:=(Z b' (A+0*4+1) U)) J).trans bG
     have bT:∀x:qX wr,x.at_.cell? (Z b' (A+0*4+2) U)=O bF:=λx=>(x.is.cell (p:=(Z b' (A+0*4+2) U)) J).trans bH
     have bU:∀x:qX wr,x.at_.cell? (Z b' (A+0*4+3) U)=O (V X z.lab.tail):=λx=>(x.is.cell (p:=(Z b' (A+0*4+3) U)) J).trans z3
     have CY:=λx:qX wr=>bZ.out y (jq hy) z x.at_ bF ar (Shape.nA.below aF x.is) (Shape.nA.below bE x.is) (bL z aB) (bM y (jq hy)) (bN y (jq hy)) aD
     have⟨FB,ah⟩:=nE (rH y z);have HFN:R (FB=u->sF (s.take (k+1)) ⟨⟨4,N,kt⟩,ts⟩ 0=u):=Y λh=>by rw[Cm hy au,HFK.out,ah,h];rfl
     have HFF:R (FB=M->aE=M):=Y λh=>by rw[a4y.out];exact x8 hy (by rw[mg];exact au) (ah.trans h)
     rw[ah]at CY;have CY:=Y CY;have hbk:R (∀x:qX wr,iR (g+2) w1 x.at_):=Y λx=>hbe.trans (x.is.mono bu)
     clear bE aD aF aJ bB bC bD z0 bG bH z3 ag aB au ah hy HFK;simp only[Nat.zero_mul,mh]at bR bS bT bU;go_upto_region 14 with fail;exact a1Q
    .exact VY
  .cases aY with
   |false=>
    obtain rfl:aE=M:=ae.out rfl;clear aa ae af aj ai ak;cases li with
    |false=>
     clear C;exact yD
    |true=>
     by_cases az:tn<m
     .have aZ:As ((m:Int)>(tn:Int))=u:=nk
      have aO:As ((tn:Int)<(m:Int))=u:=nk;clear C;exact yD
     .have aZ:As ((m:Int)>(tn:Int))=M:=nk
      have aO:As ((tn:Int)<(m:Int))=M:=nk;have dF:As ((m:Int)<(tn:Int) - kt)=u:=by
       rw[a8 (show m<=tn by omega)]at C;by_cases bJ:(tn:Int) - kt<=(m:Int);.rw[a8 bJ]at C;cases C
       .simp;omega
      clear C;exact yD
   |true=>
   have aA:u=u:=rfl;rw[eq_comm,je,je]at C;obtain⟨⟨rfl,az⟩,bJ⟩:=C;replace az:=b2 az;replace bJ:=b2 bJ;have C:True:=trivial;have aZ:As ((m:Int)>(tn:Int))=M:=nk;have aO:As ((tn:Int)<(m:Int))=M:=nk;have dF:As ((m:Int)<(tn:Int) - kt)=M:=nk;have bg:R (w1.cell? (Z g 2 U)=O (G ot tn ct)/\w1.cell? (Z (g+1) 2 U)=O (G oi m ci)):=Y ⟨bI,i2⟩;have bq:R (∀k,k<m->∃z,ts[k]? =O z/\rq ⟨⟨5,N,kt⟩,ts⟩ k=O z/\z∈ts):=Y λk hk=>by
    have h:k<ts.length:=by rw[bO.out];omega
    exact⟨ts[k],ja h,by simp[rq,ja h],ey h⟩
   have a4y:=Y (af aA);clear ak aa ae af aj aA C;go_wp2_with fail;clear t0 t1 bI t3 df i1 i2;go_loopw [6] (λiv bX=>∃k:Nat,iv=V X k/\k<=m/\R (sF (s.take k) ⟨⟨5,N,kt⟩,ts⟩ 0=u)/\R (iR (g+2) w1 bX)) (λiv _=>m -(jF iv).toNat);case atStart=>exact⟨0,rfl,I,Y rfl,Y (iT _ _)⟩
   case round=>
    obtain⟨k,rfl,hk,HFK,hbe⟩:=hrel;have bu:g+2<=wr.heap.size:=by have:=hbe.size;have:=av.out;omega
    have bz:wr.cell? (Z (g+1) 2 U)=O (G oi m ci):=(hbe.cell (p:=(Z (g+1) 2 U)) (show g+1<g+2 by omega)).trans bg.2;have bA:wr.cell? (Z g 2 U)=O (G ot tn ct):=(hbe.cell (p:=(Z g 2 U)) (show g<g+2 by omega)).trans bg.1;have HF:R (∀W,iR (g+2) w1 W->iR g w W):=Y λW h=>ai.1.trans (h.mono I)
    by_cases c:k<m
    .have⟨y,hy⟩:∃y,s[k]? =O y:=⟨_,ja (by rw[HM.out];exact c)⟩
     have⟨z,ag,au,aB⟩:=bq.out k c;obtain⟨b,off,ar,rfl,hlt,_,bB,bC,bD,bE,aD⟩:=nC.at_ (Shape.nA.below ai.2.2 (av.out▸hbe.out)) hy;obtain⟨b',A,bF,rfl,J,z0,bG,bH,z3,aF,aJ⟩:=nZ.at_ (Shape.nA.below ai.2.1 (av.out▸hbe.out)) ag;have dA:∀x:qX wr,x.at_.cell? (Z (g+1) 2 U)=O (G (O (Z b off U)) m ci):=λx=>(x.is.cell (p:=(Z (g+1) 2 U)) (show g+1<wr.heap.size by omega)).trans bz
     have dh:∀x:qX wr,x.at_.cell? (Z g 2 U)=O (G (O (Z b' A U)) tn ct):=λx=>(x.is.cell (p:=(Z g 2 U)) (show g<wr.heap.size by omega)).trans bA
     have dB:∀x:qX wr,x.at_.cell? (Z b (off+k*3) U)=O (H (txt y.lab)):=λx=>(x.is.cell (p:=(Z b (off+k*3) U)) hlt).trans bB
     have dD:∀x:qX wr,x.at_.cell? (Z b (off+k*3+1) U)=O (mH y.lab.list):=λx=>(x.is.cell (p:=(Z b (off+k*3+1) U)) hlt).trans bC
     have dE:∀x:qX wr,x.at_.cell? (Z b (off+k*3+2) U)=O ar:=λx=>(x.is.cell (p:=(Z b (off+k*3+2) U)) hlt).trans bD
     have bR:∀x:qX wr,x.at_.cell? (Z b' (A+k*4) U)=O (V X z.lab.kind):=λx=>(x.is.cell (p:=(Z b' (A+k*4) U)) J).trans z0
     have bS:∀x:qX wr,x.at_.cell? (Z b' (A+k*4+1) U)=O (V X z.lab.size):=λx=>(x.is.cell (p:=(Z b' (A+k*4+1) U)) J).trans bG
     have bT:∀x:qX wr,x.at_.cell? (Z b' (A+k*4+2) U)=O bF:=λx=>(x.is.cell (p:=(Z b' (A+k*4+2) U)) J).trans bH
     have bU:∀x:qX wr,x.at_.cell? (Z b' (A+k*4+3) U)=O (V X z.lab.tail):=λx=>(x.is.cell (p:=(Z b' (A+k*4+3) U)) J).trans z3
     have CY:=λx:qX wr=>bZ.out y (jq hy) z x.at_ bF ar (Shape.nA.below aF x.is) (Shape.nA.below bE x.is) (bL z aB) (bM y (jq hy)) (bN y (jq hy)) aD
     have⟨FB,ah⟩:=nE (rH y z);have HFN:R (FB=u->sF (s.take (k+1)) ⟨⟨5,N,kt⟩,ts⟩ 0=u):=Y λh=>by rw[Cm hy au,HFK.out,ah,h];rfl
     have HFF:R (FB=M->aE=M):=Y λh=>by rw[a4y.out];exact x8 hy (by rw[mg];exact au) (ah.trans h)
     rw[ah]at CY;have CY:=Y CY;have hbk:R (∀x:qX wr,iR (g+2) w1 x.at_):=Y λx=>hbe.trans (x.is.mono bu)
     clear bE aD aF aJ bB bC bD z0 bG bH z3 ag aB au ah hy HFK;have bP:k<tn:=I;go_upto_region 22 with fail;exact a1Q
    .exact VY
def Yc(t:mW TL)(x:mW IL)(w:K)(tv iv:iQ)(C:nZ w tv t.sub)(E:rf w iv x.sub)(ax:x.lab.text.length<=jd)(A:pg t=u)(J:ve x=u):
  iW iN 22 #[mI #[V X t.lab.kind,V X t.lab.size,tv,V X t.lab.tail],mI #[H (txt x.lab),mH x.lab.list,iv]] w λe w'=>e=mK (V X (rJ t x))/\iR w.heap.size w w':=by
 have ay:t.count<=1000:=by
  unfold pg at A;simp only[je,bb]at A;omega
 have⟨az,aa⟩:=Cn J;have aA:=Pm A;obtain⟨ot,ct,rfl,_,_⟩:=C.slice;obtain⟨oi,ci,rfl,_,_⟩:=b7 E;have aP:=Y (λW (h:iR w.heap.size w W)=>by have:=GL t W (G ot t.sub.length ct) (Shape.nA.below C h) ay;rw[A]at this;exact this);have aQ:=Y (λW (h:iR w.heap.size w W)=>by have:=Zh x W (G oi x.sub.length ci) (Shape.nA.below E h) aa;rw[J]at this;exact this);have au:=Y (λW (h:iR w.heap.size w W)=>a4z x t W (G ot t.sub.length ct) (G oi x.sub.length ci) (Shape.nA.below C h) (Shape.nA.below E h) aA az aa ax);have⟨aR,ae⟩:=nE (rH x t);have aB:rJ t x=if aR=u then 0 else 12:=by unfold rJ;rw[Ax ⟨A,J⟩,ae]
 rw[aB];rw[ae]at au;obtain⟨g,hg⟩:=o7 w;have av:=Y (zk (w:=w) t.lab.kind t.lab.size t.lab.tail (G ot t.sub.length ct) (txt x.lab) x.lab.list (G oi x.sub.length ci));rw[hg]at av aP aQ au|-;have⟨tn,aD⟩:=nE t.sub.length;have⟨aW,aF⟩:=nE x.sub.length;have⟨aX,aG⟩:=nE t.lab.kind;have⟨ts,aH⟩:=nE t.lab.size;have⟨tt,aI⟩:=nE t.lab.tail;have⟨aY,aJ⟩:=nE (txt x.lab);have⟨aZ,af⟩:=nE x.lab.list;simp only[aD,aF,aG,aH,aI,aJ,af]at av aP aQ au|-;clear C E ax A J aB ae ay az aa aA aD aF aG aH aI aJ af;go_in;go_upto_region 1 with fail;have⟨aK,⟨t0,t1,ag,t3⟩,⟨ah,i1,i2⟩,hsz⟩:=av.out _ rfl;generalize (w.alloc _).alloc _=w1 at*;have ai:=Y aK;have aj:=Y hsz
 have aS:R (∀W,iR (g+2) w1 W->(W.cell? (Z g 0 U)=O (V X aX)/\W.cell? (Z g 1 U)=O (V X ts)/\W.cell? (Z g 2 U)=O (G ot tn ct)/\W.cell? (Z g 3 U)=O (V X tt))/\
   (W.cell? (Z (g+1) 0 U)=O (H aY)/\W.cell? (Z (g+1) 1 U)=O (mH aZ)/\W.cell? (Z (g+1) 2 U)=O (G oi aW ci))):=Y λW h=>
  have q:∀b i,b<g+2->W.cell? (Z b i U)=w1.cell? (Z b i U):=λb i hb=>h.cell (p:=(Z b i U)) hb
  ⟨⟨(q g 0 I).trans t0,(q g 1 I).trans t1,(q g 2 I).trans ag,(q g 3 I).trans t3⟩,(q (g+1) 0 I).trans ah,(q (g+1) 1 I).trans i1,(q (g+1) 2 I).trans i2⟩
 clear av aK hsz;go_wp2_with fail;refine pG (aP _ ai) λw2 aL=> ?_
 have N:R (iR (g+2) w1 w2):=Y (aj.out▸aL);have aU:R (iR g w w2):=Y (ai.trans (N.mono I));clear aL t0 t1 ag t3 ah i1 i2;have⟨⟨t0,t1,ag,t3⟩,ah,i1,i2⟩:=aS.out _ N.out;go_wp2_with fail;refine pG (aQ _ aU) λw3 aM=> ?_
 have ak:R (iR (g+2) w1 w3):=Y (N.trans (aM.mono (by have:=N.size;have:=aj.out;omega)));have aN:R (iR g w w3):=Y (ai.trans (ak.mono I));clear aM t0 t1 ag t3 ah i1 i2;have⟨⟨t0,t1,ag,t3⟩,ah,i1,i2⟩:=aS.out _ ak.out;go_wp2_with fail;refine pG (au _ aN) λw4 aO=> ?_
 have aV:R (iR g w w4):=Y (aN.trans (aO.mono (by have:=ak.size;have:=aj.out;omega)));clear aO;cases aR<;>(go_wp2;go_returns;exact⟨rfl,aV.out⟩)
end
section
open Go.RowKit
def wE{α:Type}(aE:Except Nat α):Nat:=match aE with
 | .error er=>er
 | .ok _=>0
def NK(aE:Nat)(w:K)(e:kV)(w':K):Prop:=iR w.heap.size w w'/\∃tx li o n c,e=mK (mJ #[mI #[H tx,mH li,G o n c],V X (aE:Nat)])
def a5r(hk:mY w1 g #[x,y,z] IT)(aE:Nat)(tx:An)(li:Bool)(o:Option j4)(n c:Nat)(A:a.tmps.getD 8 jw=mG (O (Z g 0 U)))(C:a.tmps.getD 9 jw=V X (aE:Nat))(hd:a.defers=[])(hb:iR w.heap.size w w1)(hg:w.heap.size<=g):bodyPost iN Tryz.f57 (NK aE w) .ret a (q8 w1 g (H tx) (mH li) (G o n c)):=by
 have⟨E,J,N⟩:=qa (oU (a:=H tx) (b:=mH li) (c:=G o n c) hk);refine iY (v:=mJ #[mI #[H tx,mH li,G o n c],V X (aE:Nat)]) ?_ hd ⟨oK hb hg _ _ _,_,_,_,_,_,rfl⟩;rw[jJ]at A C;simp[jv,Tryz.results57,go_sem,E,J,N,A,C]
def Yd{t:mW TL}{aE:Except Nat (mW IL)}(A:pg t=u)(h:aE=.error er):wE (vD t aE)=er:=by subst h;unfold vD;rw[Ax A];rfl
def a1R{t:mW TL}{aE:Except Nat (mW IL)}{x:mW IL}(C:pg t=u)(h:aE=.ok x):wE (vD t aE)=(rJ t x).toNat:=by
 subst h;unfold vD;rw[Ax C];dsimp only;by_cases A:rJ t x=0;.rw[Ax A,A];rfl
 .rw[At A];rfl
def a1S{s:An}{dep oo:Int}{x:mW IL}(h:vK s.data.toList (uq (min dep 16).toNat s.data.toList (min oo 1024).toNat)=.ok x):ve x=u/\x.lab.text.length<=s.size:=by
 unfold vK at h;split at h;.cases h
 .rename_i y hy
  split at h;.cases h
  .cases h
   have A:=Aj _ _ _ _ hy;refine⟨?_,?_⟩
   .unfold ve
    rw[A.2.2.2.2.1,a8 I,a8 I];rfl
   .obtain⟨⟨C,E⟩,sz,m2⟩:=y
    exact FX (iP _) hy
def a1T{s:An}{aq:Nat}(h:vK s.data.toList (uq aq s.data.toList aw)=.error er):er≠0:=by
 unfold vK at h;split at h
 .rename_i e he
  have:=yQ _ _ _ _ he;injection h with h
  omega
 .split at h
  .injection h with h;omega
  .cases h
def VZ(h:p:=by
 go_wp2_with fail;rw[nO];exact a5r HJ.1 TG _ _ _ _ _ rfl (by rw[HT.out];rfl) rfl HJ.2 (by rw[HG.out];exact jO g)):p:=h
def Ye(t:mW TL)(s:An)(dep oo:Int)(w:K)(tv:iQ)(ah:nZ w tv t.sub)(C:pg t=u)(hs:s.size<=100000):
  iW iN 57 #[mI #[V X t.lab.kind,V X t.lab.size,tv,V X t.lab.tail],H s,V X dep,V X oo] w (NK (wE (vD t (vK s.data.toList (uq (min dep 16).toNat s.data.toList (min oo 1024).toNat)))) w):=by
 have aM:t.count<=1000:=by
  unfold pg at C;simp only[je,bb]at C;omega
 obtain⟨ot,ct,rfl,_,_⟩:=ah.slice;have aN:=Y (λW (h:iR w.heap.size w W)=>by have:=GL t W (G ot t.sub.length ct) (Shape.nA.below ah h) aM;rw[C]at this;exact this);have ax:=λW=>a3K dep oo _ _ rfl rfl s W hs
 have⟨aE,aG⟩:=nE (vK s.data.toList (uq (min dep 16).toNat s.data.toList (min oo 1024).toNat));have ay:R (∀x,aE=.ok x->ve x=u/\x.lab.text.length<=jd):=Y λx N=>by
  have:=a1S (aG.trans N);unfold jd;exact⟨this.1,I⟩
 rw[aG]at ax|-;have aO:=aG;have ax:=Y ax;have aH:=Y (λ(x:mW IL) W (h:iR w.heap.size w W) iv (hi:rf W iv x.sub) (N:ve x=u/\x.lab.text.length<=jd)=>Yc t x W (G ot t.sub.length ct) iv (Shape.nA.below ah h) hi N.2 C N.1);have az:=Y (λ(er:Nat) (h:aE=.error er)=>Yd C h);have ai:=Y (λ(x:mW IL) (h:aE=.ok x)=>a1R C h);have aP:R (∀er,aE=.error er->er≠0):=Y λer h=>a1T (aO.trans h)
 have aA:R (∀x,aE=.ok x->rJ t x=0\/rJ t x=12):=Y λx h=>by
  unfold rJ;rw[Ax ⟨C,(ay.out x h).1⟩];split;.exact .inl rfl
  .exact .inr rfl
 have⟨bq,aQ⟩:∃F:mW IL->Int,rJ t=F:=⟨_,rfl⟩;have⟨TG,aR⟩:=nE (wE (vD t aE));rw[aQ]at aH ai aA;rw[aR]at az ai|-;obtain⟨g,hg⟩:=o7 w;have⟨tn,aS⟩:=nE t.sub.length;have⟨ag,aU⟩:=nE t.lab.kind;have⟨ts,aV⟩:=nE t.lab.size;have⟨tt,aW⟩:=nE t.lab.tail;simp only[aS,aU,aV,aW]at aN aH|-;have HG:=Y hg;have aX:R (∀W,(w.alloc (mM #[V X ag,V X ts,G ot tn ct,V X tt] zK)).alloc (mM #[H ⟨#[]⟩,mH M,G U 0 0] IT)=W->mY W g #[V X ag,V X ts,G ot tn ct,V X tt] zK/\mY W (g+1) #[H ⟨#[]⟩,mH M,G U 0 0] IT/\iR w.heap.size w W):=Y λW aj=>by
  subst aj;have k:=mY.new (w.alloc (mM #[V X ag,V X ts,G ot tn ct,V X tt] zK)) #[H ⟨#[]⟩,mH M,G U 0 0] IT;have aI:(w.alloc (mM #[V X ag,V X ts,G ot tn ct,V X tt] zK)).heap.size=g+1:=by simp[hg]
  rw[aI]at k;exact⟨(hg▸mY.new w _ zK).alloc _,k,((iT w.heap.size w).alloc (iP _) _).alloc ny _⟩
 go_in;go_upto_region 1 with fail;have⟨hk,hi,hb⟩:=aX.out _ rfl;generalize (w.alloc _).alloc _=w1 at*;have E:=Y (iU hk (iU hi hb));have⟨t0,t1,bu,t3⟩:=AR hk;go_wp2_with fail;refine pG (aN _ E.2.2) λw2 ak=> ?_
 have A:R (mY w2 g #[V X ag,V X ts,G ot tn ct,V X tt] zK/\mY w2 (g+1) #[H ⟨#[]⟩,mH M,G U 0 0] IT/\iR w.heap.size w w2):=Y ⟨a7 ak E.1 E.1.lt,a7 ak E.2.1 E.2.1.lt,E.2.2.trans (ak.mono E.2.2.size)⟩;go_wp2_with fail;refine(ax _).mono ?_;intro e w3 hp;cases aE with
 |error er=>
  obtain⟨rfl,aa⟩:=hp;unfold qC;have HT:=Y (az er rfl);have aY:=Y (aP er rfl);have af:R (∀W,w3.alloc (mM #[H ⟨#[]⟩,mH M,G U 0 0] IT)=W->mY W (g+1) #[H ⟨#[]⟩,mH M,G U 0 0] IT/\iR w.heap.size w W):=Y λW aj=>by
   subst aj;have h:=aa.alloc aa.size (mM #[H ⟨#[]⟩,mH M,G U 0 0] IT);exact⟨a7 h A.2.1 A.2.1.lt,A.2.2.trans (h.mono A.2.2.size)⟩
  go_upto_region 4 with fail;have⟨hi,hb⟩:=af.out _ rfl;generalize w3.alloc _=w4 at*;have⟨f0,f1,f2⟩:=qa hi;have⟨z0,aI,bz⟩:=hi.f3;have J:=Y (iU hi hb);have u1:((er:Int) !=0)=u:=by rw[ce];have:=aY.out;omega
  go_wp2_with fail;rw[nO];exact a5r J.1 TG _ _ _ _ _ rfl (by rw[HT.out];rfl) rfl J.2 (by rw[HG.out];exact jO g)
 |ok x=>
  obtain⟨v,rfl,aJ,aa⟩:=hp;obtain⟨oi,ci,rfl,_,_⟩:=b7 aJ;have⟨au,aZ⟩:=nE x.sub.length;rw[aZ]at aJ|-;have HT:=Y (ai x rfl);have bA:=Y (ay x rfl);have⟨aK,aB⟩:=nE (txt x.lab);have⟨aL,aD⟩:=nE x.lab.list;have ae:=λW h hi=>aH.out x W h (G oi au ci) hi bA.out
  rw[aB,aD]at ae;rw[aB,aD];have⟨bE,bg⟩:=nE (bq x);have aF:=aA.out x rfl;rw[bg]at ae HT aF;have ae:=Y ae;have af:R (∀W,w3.alloc (mM #[H aK,mH aL,G oi au ci] IT)=W->mY W g #[V X ag,V X ts,G ot tn ct,V X tt] zK/\mY W (g+1) #[H ⟨#[]⟩,mH M,G U 0 0] IT/\mY W w3.heap.size #[H aK,mH aL,G oi au ci] IT/\iR w.heap.size w W/\rf W (G oi au ci) x.sub):=Y λW aj=>by
   subst aj;have h:=aa.alloc aa.size (mM #[H aK,mH aL,G oi au ci] IT);exact⟨a7 h A.1 A.1.lt,a7 h A.2.1 A.2.1.lt,mY.new w3 _ _,A.2.2.trans (h.mono A.2.2.size),nC.any (Shape.nA.below aJ ((iT _ w3).alloc (iP _) _))⟩
  obtain⟨p,hp⟩:=o7 w3;rw[hp]at af;go_upto_region 4 with fail;have⟨hk,hi,N,hb,hs⟩:=af.out _ rfl;generalize w3.alloc _=w4 at*;have J:=Y (iU hi (iU N (iU hb hs)));have⟨t0,t1,bu,t3⟩:=AR hk;have⟨bB,bC,bD⟩:=qa N;go_wp2_with fail;refine pG (ae _ J.2.2.1 J.2.2.2) λw5 av=> ?_
  have hi:=a7 av J.1 J.1.lt;have N:=a7 av J.2.1 J.2.1.lt;have HJ:=Y (iU hi (J.2.2.1.trans (av.mono J.2.2.1.size)));have⟨f0,f1,f2⟩:=qa hi;have⟨z0,aI,bz⟩:=hi.f3;have⟨bB,bC,bD⟩:=qa N;rcases aF with rfl|rfl
  .exact VZ
  .exact VZ
def a9c(A:RS)(w:K)(e:kV)(w':K):Prop:=iR w.heap.size w w'/\∃tx li o n c,∃m:Int,(A.f=0->m=A.p)/\e=mK (mJ #[mI #[H tx,mH li,G o n c],V X m,V X A.f])
def a9d(hk:mY w1 g #[x,y,z] IT)(tx:An)(li:Bool)(o:Option j4)(n c:Nat)(m:Int)(C:a.tmps.getD 6 jw=mG (O (Z g 0 U)))(E:a.tmps.getD 7 jw=V X m)(J:a.tmps.getD 8 jw=V X A.f)(hd:a.defers=[])(N:A.f=0->m=A.p)(hb:iR w.heap.size w w1)(hg:w.heap.size<=g):bodyPost iN Tryz.f90 (a9c A w) .ret a (q8 w1 g (H tx) (mH li) (G o n c)).drew:=by
 have⟨aa,ae,af⟩:=qa (oU (a:=H tx) (b:=mH li) (c:=G o n c) hk);refine iY (v:=mJ #[mI #[H tx,mH li,G o n c],V X m,V X A.f]) ?_ hd ⟨(oK hb hg _ _ _).drew,_,_,_,_,_,_,N,rfl⟩;rw[jJ]at C E J;simp[jv,Tryz.results90,go_sem,aa,ae,af,C,E,J]
def a1U(hg:w.heap.size=g){k z tl:Int}:∀W,(w.alloc (mM #[V X k,V X z,tv,V X tl] zK)).alloc (mM #[H ⟨#[]⟩,mH M,G U 0 0] IT)=W->mY W g #[V X k,V X z,tv,V X tl] zK/\mY W (g+1) #[H ⟨#[]⟩,mH M,G U 0 0] IT/\iR w.heap.size w W:=by
 rintro W rfl;have q:=mY.new (w.alloc (mM #[V X k,V X z,tv,V X tl] zK)) #[H ⟨#[]⟩,mH M,G U 0 0] IT;have A:(w.alloc (mM #[V X k,V X z,tv,V X tl] zK)).heap.size=g+1:=by simp[hg]
 rw[A]at q;exact⟨(hg▸mY.new w _ zK).alloc _,q,((iT w.heap.size w).alloc (iP _) _).alloc ny _⟩
def TF(t:mW TL)(s:An)(items:Int)(w:K)(tv:iQ)(aa:nZ w tv t.sub)(av:pg t=u)(aD:mW.oI p0 t.sub=u)(hi:1<=items)(hs:s.size<=100000):
  iW iN 90 #[mI #[V X t.lab.kind,V X t.lab.size,tv,V X t.lab.tail],H s,V X items] w (a9c (nQ 8 t (RS.of s) (min items 1024).toNat).2.1 w):=by
 have hm2:=av;unfold pg at hm2;simp only[je,bb]at hm2;obtain⟨ot,ct,rfl,_,_⟩:=aa.slice;have aF:=Y (λW (h:iR w.heap.size w W)=>by have:=Pz t W (G ot t.sub.length ct) (Shape.nA.below aa h) I;rw[av,aD]at this;exact this);have⟨aw,aG⟩:=nE ((min items 1024).toNat);have aP:=Y (λW=>Zz s W);have J:=Y (λ(W:K) (b:Nat) (h:iR w.heap.size w W) (hb:w.heap.size<=b) (N:QO W b (RS.of s))=>TE items aw aG hi 8 t b (RS.of s) 0 aw W (G ot t.sub.length ct) hm2.1.2 hm2.2 (Shape.nA.keep aa h.size (λc hc _ e=>by omega) λc hc _=>h.block c hc) N (RS.Ok.of I) rfl hs I);have⟨aQ,aH⟩:=nE ((nQ 8 t (RS.of s) aw).2);rw[aG];rw[aH]at J|-;obtain⟨ai,aY⟩:=aQ;dsimp only at J|-;have⟨tn,aI⟩:=nE t.sub.length;have⟨aR,aJ⟩:=nE t.lab.kind;have⟨ts,aK⟩:=nE t.lab.size;have⟨tt,aL⟩:=nE t.lab.tail;simp only[aI,aJ,aK,aL]at aF J|-;obtain⟨g,hg⟩:=o7 w;have aj:=Y hg;have aM:=Y (a1U (k:=aR) (z:=ts) (tl:=tt) (tv:=G ot tn ct) hg);go_in;go_upto_region 1 with fail;have⟨hk,hi,hb⟩:=aM.out _ rfl;generalize (w.alloc _).alloc _=w1 at*;have A:=Y (iU hk (iU hi hb));have⟨t0,t1,aS,t3⟩:=AR hk;go_wp2_with fail;refine pG (aF _ A.2.2) λw2 ae=> ?_
 have C:=Y (iU (a7 ae A.1 A.1.lt) (iU (a7 ae A.2.1 A.2.1.lt) (A.2.2.trans (ae.mono A.2.2.size))));go_wp2_with fail;refine YC (aP _) λw3 af az ax=> ?_
 obtain⟨b,aN⟩:=o7 w2;rw[aN]at ax az|-;have E:R (g+1<b):=Y (by have:=C.2.1.lt;omega);have ag:=Y (iU (a7 af C.1 C.1.lt) (iU (a7 af C.2.1 C.2.1.lt) (C.2.2.trans (af.mono C.2.2.size))));have⟨t0,t1,aS,t3⟩:=AR ag.1;have J:=Y (J w3 b ag.2.2 (by have:=E.out;have:=aj.out;omega) ax);go_wp2_with fail;refine J.mono ?_;rintro e w4 ⟨aO,N,tx,li,o,n,c,m,aZ,rfl⟩;have ah:=aO.blk ag.2.1 (by have:=E.out;omega);have ay:=aO.below ag.2.2 (by have:=E.out;have:=aj.out;omega) ag.2.2.size;have aU:R (∀W,w4.alloc (mM #[H tx,mH li,G o n c] IT)=W->mY W (g+1) #[H ⟨#[]⟩,mH M,G U 0 0] IT/\mY W w4.heap.size #[H tx,mH li,G o n c] IT/\QO W b ai/\iR w.heap.size w W):=Y λW aV=>by
  subst aV;have h:=(iT w4.heap.size w4).alloc (iP _) (mM #[H tx,mH li,G o n c] IT);exact⟨a7 h ah ah.lt,mY.new w4 _ _,a7 h N N.lt,ay.trans (h.mono ay.size)⟩
 go_upto_region 5 with fail;have⟨aA,aW,N,hb⟩:=aU.out _ rfl;generalize w4.alloc _=w5 at*;have ak:=Y (iU aA hb);have⟨bg,bq,bu⟩:=qa aA;have⟨z0,bz,bA⟩:=aA.f3;have⟨bB,bC,bD⟩:=qa aW;have⟨bE,e1,e2⟩:=qa N;have aX:g+1≠b:=by have:=E.out;omega
 by_cases au:ai.f=0
 .have u1:(ai.f !=0)=M:=by rw[au];rfl
  have aB:=Y au;go_upto_region 7 with fail;go_big_region;go_wp2_with fail;rw[nO];exact a9d ak.1 _ _ _ _ _ _ rfl rfl (by rw[aB.out];rfl) rfl (λ_=>rfl) ak.2 (by rw[aj.out];exact jO g)
 .have u1:(ai.f !=0)=u:=by rw[ce];exact au
  have aB:=Y au;go_upto_region 6 with fail;go_big_region;go_wp2_with fail;rw[nO];exact a9d ak.1 _ _ _ _ _ _ rfl rfl rfl rfl (λh=>absurd h aB) ak.2 (by rw[aj.out];exact jO g)
def b0F(hk:mY w1 g #[x,y,z] IT)(aE:Nat)(tx:An)(li:Bool)(o:Option j4)(n c:Nat)(A:a.tmps.getD 6 jw=mG (O (Z g 0 U)))(C:a.tmps.getD 7 jw=V X (aE:Nat))(hd:a.defers=[])(hb:iR w.heap.size w w1)(hg:w.heap.size<=g):bodyPost iN Tryz.f58 (NK aE w) .ret a (q8 w1 g (H tx) (mH li) (G o n c)):=by
 have⟨E,J,N⟩:=qa (oU (a:=H tx) (b:=mH li) (c:=G o n c) hk);refine iY (v:=mJ #[mI #[H tx,mH li,G o n c],V X (aE:Nat)]) ?_ hd ⟨oK hb hg _ _ _,_,_,_,_,_,rfl⟩;rw[jJ]at A C;simp[jv,Tryz.results58,go_sem,E,J,N,A,C]
def a4A(t:mW TL)(s:An)(items:Int)(h:(nQ 8 t (RS.of s) (min items 1024).toNat).2.1=A):wE (Gw t s items)=if A.f≠0 then A.f.toNat else if A.p<s.size then 3 else 0:=by
 unfold Gw Kj;rw[h];by_cases C:A.f≠0;.rw[Ax C,Ax C];rfl
 .rw[At C,At C]
  dsimp only;by_cases hp:A.p<s.size;.rw[Ax hp,Ax hp];rfl
  .rw[At hp,At hp];rfl
def TH(h:p:=by
 go_wp2_with fail;rw[nO];exact b0F H5.1 aE _ _ _ _ _ rfl (by rw[HR.out];rfl) rfl H5.2 (by rw[HG.out];exact jO g)):p:=h
def Yf(t:mW TL)(s:An)(items:Int)(w:K)(tv:iQ)(N:nZ w tv t.sub)(ah:pg t=u)(ai:mW.oI p0 t.sub=u)(hi:1<=items)(hs:s.size<=100000):
  iW iN 58 #[mI #[V X t.lab.kind,V X t.lab.size,tv,V X t.lab.tail],H s,V X items] w (NK (wE (Gw t s items)) w):=by
 obtain⟨ot,ct,rfl,_,_⟩:=N.slice;have ae:=Y (λW (h:iR w.heap.size w W)=>TF t s items W (G ot t.sub.length ct) (Shape.nA.below N h) ah ai hi hs);have aj:=yR 8 t (RS.of s) (min items 1024).toNat (dt _);have⟨C,aa⟩:=nE ((nQ 8 t (RS.of s) (min items 1024).toNat).2.1);have J:=Y (a4A t s items aa);rw[aa]at ae aj;have⟨aE,az⟩:=nE (wE (Gw t s items));rw[az]at J|-;have⟨tn,ak⟩:=nE t.sub.length;have⟨aA,au⟩:=nE t.lab.kind;have⟨ts,av⟩:=nE t.lab.size;have⟨tt,ax⟩:=nE t.lab.tail;simp only[ak,au,av,ax]at ae|-;obtain⟨g,hg⟩:=o7 w;have HG:=Y hg;have ay:=Y (a1U (k:=aA) (z:=ts) (tl:=tt) (tv:=G ot tn ct) hg);go_in;go_upto_region 1 with fail;have⟨hk,hi,hb⟩:=ay.out _ rfl;generalize (w.alloc _).alloc _=w1 at*;have E:=Y (iU hk (iU hi hb));have⟨t0,t1,aH,t3⟩:=AR hk;go_wp2_with fail;refine(ae _ E.2.2).mono ?_;rintro e w2 ⟨hb,tx,li,o,n,c,m,af,rfl⟩;have aB:R (∀W,w2.alloc (mM #[H tx,mH li,G o n c] IT)=W->mY W (g+1) #[H ⟨#[]⟩,mH M,G U 0 0] IT/\mY W w2.heap.size #[H tx,mH li,G o n c] IT/\iR w.heap.size w W):=Y λW aD=>by
  subst aD;have h:=hb.alloc hb.size (mM #[H tx,mH li,G o n c] IT);exact⟨a7 h E.2.1 E.2.1.lt,mY.new w2 _ _,E.2.2.trans (h.mono E.2.2.size)⟩
 have aF:=Y af;go_upto_region 2 with fail;have⟨ag,aG,hb⟩:=aB.out _ rfl;generalize w2.alloc _=w5 at*;have H5:=Y (iU ag hb);have⟨aI,aJ,aK⟩:=qa ag;have⟨z0,aL,aM⟩:=ag.f3;have⟨aN,aO,aP⟩:=qa aG;by_cases A:C.f=0
 .have u1:(C.f !=0)=M:=by rw[A];rfl
  have af:=aF.out A;subst af;by_cases hp:C.p<s.size
  .have HR:R (aE=3):=Y (by rw[J.out,At (dy A),Ax hp])
   exact TH
  .have HR:R (aE=0):=Y (by rw[J.out,At (dy A),At hp])
   exact TH
 .have u1:(C.f !=0)=u:=by rw[ce];exact A
  have HR:R ((aE:Int)=C.f):=Y (by rw[J.out,Ax A];omega);exact TH
abbrev MgT:jl:=49
def TI(aE:Nat)(w:K)(e:kV)(w':K):Prop:=iR w.heap.size w w'/\∃nm tx li o n c,e=mK (mJ #[mI #[H nm,H tx,mH li,G o n c],V X (aE:Nat)])
def QJ(w:K)(g:Nat)(a b c d:iQ):K:=(((w.setCell (Z g 0 U) a).setCell (Z g 1 U) b).setCell (Z g 2 U) c).setCell (Z g 3 U) d
def Ew(w:K)(g:Nat)(a b c d:iQ):(((w.setCell (Z g 0 U) a).setCell (Z g 1 U) b).setCell (Z g 2 U) c).setCell (Z g 3 U) d=QJ w g a b c d:=rfl
def Yg{a b c d a0 b0 c0 A:iQ}(h:mY w g #[a0,b0,c0,A] t):mY (QJ w g a b c d) g #[a,b,c,d] t:=(((h.set 0 _).set 1 _).set 2 _).set 3 _
def Gg{B:Nat}(h:iR B w W)(hB:B<=g)(a b c d:iQ):iR B w (QJ W g a b c d):=
 (((h.setCell (p:=(Z g 0 U)) hB a).setCell (p:=(Z g 1 U)) hB b).setCell (p:=(Z g 2 U)) hB c).setCell (p:=(Z g 3 U)) hB d
def a4B{ar:iQ}(hk:mY w1 g #[x,y,z,ar] MgT)(aE:Nat)(nm tx:An)(li:Bool)(o:Option j4)(n c:Nat)(C:a.tmps.getD 6 jw=mG (O (Z g 0 U)))(E:a.tmps.getD 7 jw=V X (aE:Nat))(hd:a.defers=[])(hb:iR w.heap.size w w1)(hg:w.heap.size<=g)(J:W=QJ w1 g (H nm) (H tx) (mH li) (G o n c)\/W=(QJ w1 g (H nm) (H tx) (mH li) (G o n c)).drew):bodyPost iN Tryz.f31 (TI aE w) .ret a W:=by
 have hk2:=Yg (a:=H nm) (b:=H tx) (c:=mH li) (d:=G o n c) hk;have A:iR w.heap.size w W/\mY W g #[H nm,H tx,mH li,G o n c] MgT:=by
  rcases J with rfl|rfl
  .exact⟨Gg hb hg _ _ _ _,hk2⟩
  .exact⟨(Gg hb hg _ _ _ _).drew,hk2⟩
 have⟨N,aa,ae,af⟩:=AR A.2;refine iY (v:=mJ #[mI #[H nm,H tx,mH li,G o n c],V X (aE:Nat)]) ?_ hd ⟨A.1,_,_,_,_,_,_,rfl⟩;rw[jJ]at C E;simp[jv,Tryz.results31,go_sem,N,aa,ae,af,C,E]
def Yh{f:tJ}(h:ZC c rows f=U):wE (tN c rows f)=11:=by unfold tN;rw[h];rfl
def Yi{f:tJ}{r:Row}(h:ZC c rows f=O r):wE (tN c rows f)=if wE (zn c r.ty f.body)=2 then 3 else wE (zn c r.ty f.body):=by
 unfold tN;rw[h];dsimp only;cases zn c r.ty f.body with
 |error er=>rfl
 |ok x=>rfl
def a1W(h:p:=by
 have⟨m0,m1,m2,m3⟩:=AR HZ.2.1;have⟨z0,z1,z2,z3⟩:=HZ.2.1.f4;have⟨i0,i1,i2⟩:=qa HZ.2.2;have hgw:R (w.heap.size<=g+2):=Y (by have:=HG.out;omega);by_cases e2:E=2
 .have HRR:R (aE=3):=Y (by rw[HR.out,Ax e2])
  have u1:((E:Int)==2)=u:=by rw[e2];rfl
  clear e2;go_wp2_with fail;rw[Ew];exact a4B HZ.2.1 aE _ _ _ _ _ _ rfl (by rw[HRR.out];rfl) rfl HZ.1 hgw (.inl rfl)
 .have HRR:R (aE=E):=Y (by rw[HR.out,At e2])
  have u1:((E:Int)==2)=M:=qJ;clear e2;by_cases e0:E=0
  .have u2:((E:Int) !=0)=M:=by rw[e0];rfl
   have⟨bk',ok',FV,hlt,_,k1,_⟩:=CJ.at_ (a4C _ HZ.1) HE.out;cases FV;have⟨bk',ok',FV,b1W,_,_,_⟩:=CJ.at_ (a4C w (iT _ _)) HE.out;cases FV;have HR0:R (aE=0):=Y (HRR.trans e0);clear e0;go_upto_region 12 with fail;go_big_region;go_wp2_with fail;rw[Ew];exact a4B HZ.2.1 aE _ _ _ _ _ _ rfl (by rw[HR0.out];rfl) rfl HZ.1 hgw (.inr rfl)
  .have u2:((E:Int) !=0)=u:=yE
   clear e0;go_wp2_with fail;rw[Ew];exact a4B HZ.2.1 aE _ _ _ _ _ _ rfl (by rw[HRR.out];rfl) rfl HZ.1 hgw (.inl rfl)):p:=h
def NL(c:nU)(N:List tV)(rows:List Row)(f:tJ)(v:iQ)(w:K)(bP:CJ w v N)(hn:N.length<=100)(bq:∀e,e∈N->e.tx.size<=1000)(hc:nV c=u)(bu:qQ c [] N=.ok rows)(aK:∀r,r∈rows->pg r.ty=u/\(c.fmt=1->mW.oI p0 r.ty.sub=u))(bz:f.body.size<=100000):
  iW iN 31 #[c.v,v,f.v] w (TI (wE (tN c rows f)) w):=by
 have⟨_,_,_,_,aL,dH⟩:=ql hc;have⟨bA,bB⟩:=a7s bu f;obtain⟨oa,cap,rfl,aX,dx,bU⟩:=id bP;clear bU;have⟨n,av⟩:=nE N.length;obtain⟨g,hg⟩:=o7 w;have HG:=Y hg;have ax:R (∀W,((w.alloc (mM #[V X c.fmt,V mQ c.mag,V X c.oL,V X c.pq,V X c.dep,V X c.oo] rG)).alloc (mM #[V mP f.id,H f.name,H f.body] pR)).alloc (mM #[H ⟨#[]⟩,H ⟨#[]⟩,mH M,G U 0 0] MgT)=W->mY W g #[V X c.fmt,V mQ c.mag,V X c.oL,V X c.pq,V X c.dep,V X c.oo] rG/\mY W (g+1) #[V mP f.id,H f.name,H f.body] pR/\mY W (g+2) #[H ⟨#[]⟩,H ⟨#[]⟩,mH M,G U 0 0] MgT/\iR w.heap.size w W):=Y λW aM=>by
  subst aM;have k1:=((mY.new w #[V X c.fmt,V mQ c.mag,V X c.oL,V X c.pq,V X c.dep,V X c.oo] rG).alloc (mM #[V mP f.id,H f.name,H f.body] pR)).alloc (mM #[H ⟨#[]⟩,H ⟨#[]⟩,mH M,G U 0 0] MgT);have af:=(mY.new (w.alloc (mM #[V X c.fmt,V mQ c.mag,V X c.oL,V X c.pq,V X c.dep,V X c.oo] rG)) #[V mP f.id,H f.name,H f.body] pR).alloc (mM #[H ⟨#[]⟩,H ⟨#[]⟩,mH M,G U 0 0] MgT);have bV:=mY.new ((w.alloc (mM #[V X c.fmt,V mQ c.mag,V X c.oL,V X c.pq,V X c.dep,V X c.oo] rG)).alloc (mM #[V mP f.id,H f.name,H f.body] pR)) #[H ⟨#[]⟩,H ⟨#[]⟩,mH M,G U 0 0] MgT;have z1:(w.alloc (mM #[V X c.fmt,V mQ c.mag,V X c.oL,V X c.pq,V X c.dep,V X c.oo] rG)).heap.size=g+1:=by simp[hg]
  have z2:((w.alloc (mM #[V X c.fmt,V mQ c.mag,V X c.oL,V X c.pq,V X c.dep,V X c.oo] rG)).alloc (mM #[V mP f.id,H f.name,H f.body] pR)).heap.size=g+2:=by simp[hg]
  rw[hg]at k1;rw[z1]at af;rw[z2]at bV;exact⟨k1,af,bV,(((iT w.heap.size w).alloc (iP _) _).alloc ny _).alloc nk _⟩
 have a4C:R (∀W,iR w.heap.size w W->CJ W (G oa n cap) N):=Y λW h=>by have:=bP.below h;rw[av]at this;exact this
 have bQ:R (∀k,ByK c N f k->∀W,iR w.heap.size w W->iW iN 56 #[mI #[V X c.fmt,V mQ c.mag,V X c.oL,V X c.pq,V X c.dep,V X c.oo],G oa n cap,mI #[V mP f.id,H f.name,H f.body]] W λe w'=>e=mK (V X k)/\iR W.heap.size W w'):=Y λk hk W h=>KC c N f k _ W (a4C W h) hn hk
 have bW:R (∀e,e∈N->∀W,iW iN 21 #[H e.tx] W (JF e.tx.data.toList W)):=Y λe he W=>Vz e.tx W (bq e he)
 have bR:=Y aK;have dz:=Y av;have aN:=Y bA;have aO:=Y bB;have bC:=Y bz;have aL:=aL;rw[av]at hn aX|-;unfold nU.v nU.cs tJ.v;clear bP bq hc bu aK bA bB bz av;cases aj:ZC c rows f with
 |none=>
  have aY:=Y (aN aj);have HR:R (wE (tN c rows f)=11):=Y (Yh aj);clear aj aO aN;go_in;go_upto_region 1 with fail;have⟨aG,k1,af,hb⟩:=ax.out _ rfl;generalize ((w.alloc _).alloc _).alloc _=w1 at*;try simp only[show g+1+1=g+2 from rfl]
  have C:=Y (iU af hb);have⟨c0,c1,c2,c3,c4,c5⟩:=aG.a6;have⟨f0,f1,f2⟩:=qa k1;clear ax aG k1 af hb;go_wp2_with fail;refine pG (bQ _ aY _ C.2) λw2 hb=> ?_
  have aZ:=a7 hb C.1 C.1.lt;have aa:=Y (iU aZ (C.2.trans (hb.mono C.2.size)));have⟨m0,m1,m2,m3⟩:=AR aZ;have⟨z0,z1,z2,z3⟩:=aZ.f4;clear aZ hb c0 c1 c2 c3 c4 c5 f0 f1 f2;go_wp2_with fail;rw[Ew];exact a4B aa.1 _ _ _ _ _ _ _ rfl (by rw[HR.out];rfl) rfl aa.2 (by rw[HG.out];omega) (.inl rfl)
 |some r=>
  have⟨j,e,bD,he,bE,ay⟩:=aO.out r aj;have dI:j<n:=by rw[<-dz.out];exact(jU.1 he).1
  have ag:=bR.out r (a3i aj);have aP:=Yi aj;have⟨aE,bF⟩:=nE (wE (tN c rows f));rw[bF]at aP|-;rw[ES]at ay;obtain⟨dJ,dK,dL,a,sub⟩:=r;dsimp only at ag aP ay bE;have aY:=Y (bQ _ bD);have dA:=Y (bW e (jq he));have bG:=Y ay;have HE:=Y he;have aQ:=Y (λW (v:iQ) (h:nZ W v sub)=>Ye (.node a sub) f.body c.dep c.oo W v h ag.1 bC);have aR:=Y (λW (v:iQ) (h:nZ W v sub) (A:c.fmt=1)=>Yf (.node a sub) f.body c.oo W v h ag.1 (ag.2 A) aL bC);have az:R (c.fmt=1->wE (zn c (.node a sub) f.body)=wE (Gw (.node a sub) f.body c.oo)):=Y λh=>by unfold zn;rw[Ax h]
  have aA:R (¬c.fmt=1->wE (zn c (.node a sub) f.body)=wE (vD (.node a sub) (vK f.body.data.toList (uq (min c.dep 16).toNat f.body.data.toList (min c.oo 1024).toNat)))):=Y λh=>by unfold zn;rw[At h]
  have⟨E,bX⟩:=nE (wE (zn c (.node a sub) f.body));rw[bX]at aP az aA;have HR:=Y aP;generalize wE (Gw (.node a sub) f.body c.oo)=dO at*;generalize wE (vD (.node a sub) (vK f.body.data.toList (uq (min c.dep 16).toNat f.body.data.toList (min c.oo 1024).toNat)))=dP at*;have dM:¬(j:Int)<0:=I;clear aj aO aN bD he bE ay ag aP bF bX bQ bW;go_in;go_upto_region 1 with fail;have⟨aG,k1,af,hb⟩:=ax.out _ rfl;generalize ((w.alloc _).alloc _).alloc _=w1 at*;try simp only[show g+1+1=g+2 from rfl]
  have C:=Y (iU aG (iU k1 (iU af hb)));have⟨c0,c1,c2,c3,c4,c5⟩:=aG.a6;have⟨f0,f1,f2⟩:=qa k1;clear ax aG k1 af hb;have bS:R (∀ak W,iR w.heap.size w ak->iR ak.heap.size ak W->mY ak g #[V X c.fmt,V mQ c.mag,V X c.oL,V X c.pq,V X c.dep,V X c.oo] rG->mY ak (g+1) #[V mP f.id,H f.name,H f.body] pR->mY ak (g+2) #[H ⟨#[]⟩,H ⟨#[]⟩,mH M,G U 0 0] MgT->iR w.heap.size w W/\mY W g #[V X c.fmt,V mQ c.mag,V X c.oL,V X c.pq,V X c.dep,V X c.oo] rG/\mY W (g+1) #[V mP f.id,H f.name,H f.body] pR/\mY W (g+2) #[H ⟨#[]⟩,H ⟨#[]⟩,mH M,G U 0 0] MgT):=Y λak W h aH a b d=>⟨h.trans (aH.mono h.size),a7 aH a a.lt,a7 aH b b.lt,a7 aH d d.lt⟩
  go_wp2_with fail;refine pG (aY _ C.2.2.2) λw2 hb=> ?_
  have aa:=Y (bS w1 w2 C.2.2.2 hb C.1 C.2.1 C.2.2.1);obtain⟨bk,ok,rfl,hlt,_,_,e2⟩:=CJ.at_ (a4C w2 aa.1) HE.out;clear hb c0 c1 c2 c3 c4 c5 f0 f1 f2 C aY;go_wp2_with fail;refine(dA _).mono ?_;rintro bY w3 ⟨ta,aI,n3,J,er,au,rfl,hb,_,ah,aB⟩;obtain⟨rfl,rfl,rfl⟩:ta=a/\au=sub/\er=0:=by
   rcases aB with⟨A,aH⟩|⟨A,_⟩
   .rw[bG.out]at A
    cases A;exact⟨rfl,rfl,aH⟩
   .rw[bG.out]at A;cases A
  have bg:=Y (iU hb ah);have aS:R (∀W,w3.alloc (mM #[V X ta.kind,V X ta.size,G aI n3 J,V X ta.tail] zK)=W->iR w2.heap.size w2 W/\mY W w3.heap.size #[V X ta.kind,V X ta.size,G aI n3 J,V X ta.tail] zK/\nZ W (G aI n3 J) au):=Y λW aM=>by
   subst aM;have h:=(iT w3.heap.size w3).alloc (iP _) (mM #[V X ta.kind,V X ta.size,G aI n3 J,V X ta.tail] zK);exact⟨bg.1.trans (h.mono bg.1.size),mY.new w3 _ _,Shape.nA.below bg.2 h⟩
  obtain⟨bt,bZ⟩:=o7 w3;rw[bZ]at aS;clear aB hb ah e2 hlt;go_upto_region 5 with fail;have⟨hb,ht,ah⟩:=aS.out _ rfl;generalize w3.alloc _=w4 at*;have ai:=Y (bS w2 w4 aa.1 hb aa.2.1 aa.2.2.1 aa.2.2.2);have aD:=Y (iU ht ah);have⟨t0,t1,bT,t3⟩:=AR ht;have c4:=ai.2.1.c4;have c5:=ai.2.1.c5;have⟨f0,f1,f2⟩:=qa ai.2.2.1;have aQ:=Y (aQ w4 _ aD.2);clear aS hb ht ah aa bg;go_wp2_with fail;refine aQ.mono ?_;rintro bY w5 ⟨hb,tx,li,cz,cK,bH,rfl⟩;have aU:R (∀W,w5.alloc (mM #[H tx,mH li,G cz cK bH] IT)=W->iR w4.heap.size w4 W/\mY W w5.heap.size #[H tx,mH li,G cz cK bH] IT):=Y λW aM=>by
   subst aM;exact⟨hb.alloc hb.size _,mY.new w5 _ _⟩
  have bI:R (w4.heap.size<=w5.heap.size):=Y hb.size;obtain⟨p,hp⟩:=o7 w5;rw[hp]at aU bI;clear hb c4 c5 f0 f1 f2 t0 t1 bT t3;go_upto_region 6 with fail;have⟨hb,cZ⟩:=aU.out _ rfl;generalize w5.alloc _=aJ at*;have ae:=Y (bS w4 aJ ai.1 hb ai.2.1 ai.2.2.1 ai.2.2.2);have aV:=Y cZ;have bJ:R (mY aJ bt #[V X ta.kind,V X ta.size,G aI n3 J,V X ta.tail] zK/\nZ aJ (G aI n3 J) au):=Y ⟨a7 hb aD.1 aD.1.lt,Shape.nA.below aD.2 hb⟩;have dN:g+2<p:=by have:=bI.out;have:=ai.2.2.2.lt;omega
  have c0:=ae.2.1.c0;have c5:=ae.2.1.c5;clear aU hb cZ;have dB:R (∀W,iR aJ.heap.size aJ W->iR w.heap.size w W/\mY W (g+2) #[H ⟨#[]⟩,H ⟨#[]⟩,mH M,G U 0 0] MgT):=Y λW h=>⟨ae.1.trans (h.mono ae.1.size),a7 h ae.2.2.2 ae.2.2.2.lt⟩
  rcases Classical.em (c.fmt=1)with A|A
  .have dD:(c.fmt==1)=u:=by rw[beq_iff_eq];exact A
   obtain rfl:=az.out A;have aR:=Y (aR aJ _ bJ.2 A);have⟨f0,f1,f2⟩:=qa ae.2.2.1;have⟨t0,t1,bT,t3⟩:=AR bJ.1;have df:R (w.heap.size<=p):=Y (by have:=HG.out;omega);clear A az aA;go_wp2_with fail;refine aR.mono ?_;rintro bY aW ⟨hb,bK,bL,dh,dw,c7,rfl⟩;have⟨bM,bN⟩:=dB.out aW hb;have aF:=a7 hb aV aV.lt;have⟨i0,i1,i2⟩:=qa aF;have⟨dE,dF,dG⟩:=aF.f3;have bO:R (∀a b d,iR w.heap.size w (q8 aW p a b d)/\mY (q8 aW p a b d) (g+2) #[H ⟨#[]⟩,H ⟨#[]⟩,mH M,G U 0 0] MgT/\mY (q8 aW p a b d) p #[a,b,d] IT):=Y λa b d=>
    ⟨oK bM df a b d,((bN.setOther (a:=(Z p 0 U)) (by show g+2≠p;omega) _).setOther (a:=(Z p 1 U)) (by show g+2≠p;omega) _).setOther (a:=(Z p 2 U)) (by show g+2≠p;omega) _,oU aF⟩
   clear c0 c5 f0 f1 f2 t0 t1 bT t3 hb bM bN aF;go_upto_region 8 with fail;rw[nO];have HZ:=Y (bO (H bK) (mH bL) (G dh dw c7));generalize q8 aW p (H bK) (mH bL) (G dh dw c7)=dQ at*;clear bO i0 i1 i2 dE dF dG;exact a1W
  .have dD:(c.fmt==1)=M:=by rw[bj];exact A
   obtain rfl:=aA.out A;have HZ:=Y (iU ae.1 (iU ae.2.2.2 aV.out));clear A az aA c5;exact a1W
structure MG where
 nm:An
 tx:An
 li:Bool
 o:Option j4
 n:Nat
 c:Nat
def mgf(y:MG):List iQ:=[H y.nm,H y.tx,mH y.li,G y.o y.n y.c]
def a4D(y:MG):(mgf y).length=4:=rfl
def a1X(aE:Nat)(w:K)(e:kV)(w':K):Prop:=iR w.heap.size w w'/\∃(o:Option j4) (n c:Nat) (t:An) (al:Int),e=mK (mJ #[G o n c,H t,V X al,V X (aE:Nat)])
def a1Y{f:tJ}(h:wE (tN c rows f)≠0):tN c rows f=.error (wE (tN c rows f)):=by
 cases hd:tN c rows f with
 |error er=>rfl
 |ok m=>rw[hd]at h;exact absurd rfl h
def Yj{f:tJ}(h:wE (tN c rows f)=0):∃m,tN c rows f=.ok m:=by
 cases hd:tN c rows f with
 |error er=>rw[hd]at h;exact absurd h (Qa hd)
 |ok m=>exact⟨m,rfl⟩
def szV:iQ->Nat
 | H t=>t.size
 |_=>0
def QK(KA:Array iQ)(az:QF KA Bz)(c:nU)(ai:List tV)(rows:List Row)(v:iQ)(s:An)(w:K)(bC:CJ w v ai)(hn:ai.length<=100)(bD:∀e,e∈ai->e.tx.size<=1000)(hc:nV c=u)(bE:c.wf)(bF:qQ c [] ai=.ok rows)(aY:∀r,r∈rows->pg r.ty=u/\(c.fmt=1->mW.oI p0 r.ty.sub=u))(hs:s.size<=1000):
  iW iN 12 #[mI KA,c.v,v,H s] w (a1X (kY c rows (s.size+1) s) w):=by
 obtain⟨oa,cap,rfl,bY,bZ,dK⟩:=id bC;have⟨aE,bG⟩:=nE (kY c rows (s.size+1) s);have cz:R (∀ A:An,A.size<=1000->∀W,iW iN 16 #[mI KA,mI #[V X c.fmt,V mQ c.mag,V X c.oL,V X c.pq,V X c.dep,V X c.oo],H A] W (Bv (oG c A U).1 W)):=Y λA h W=>QI KA az c A W hc bE I
 have bH:R (∀ f:tJ,f.body.size<=100000->∀W,iR w.heap.size w W->iW iN 31 #[mI #[V X c.fmt,V mQ c.mag,V X c.oL,V X c.pq,V X c.dep,V X c.oo],G oa ai.length cap,mI #[V mP f.id,H f.name,H f.body]] W (TI (wE (tN c rows f)) W)):=Y λf h W hb=>NL c ai rows f _ W (bC.below hb) hn bD hc bF aY h
 have bI:R (∀(A:An)(er:Nat),(oG c A U).1=.error er->er≠0):=Y λA er h=>by have:=Bd c A U er h;omega
 have bJ:R (∀(A:An)(y:tJ×Nat),A.size<=1000->(oG c A U).1=.ok y->0<y.2/\y.2<=A.size/\y.1.body.size<=100000):=Y λA y h aJ=>yK hc I aJ
 have bK:R (∀(n m:Nat)(A:An),A.size<=1000->A.size<n->A.size<m->kY c rows n A=kY c rows m A):=Y λn m A bL aJ cK=>wD hc n m A I aJ cK
 have cZ:=Y az.size;have⟨en,bM⟩:=nE ai.length;rw[bM]at bH|-;obtain⟨g,hg⟩:=o7 w;have df:=Y hg;have bN:R (∀W,(w.alloc (mM KA zV)).alloc (mM #[V X c.fmt,V mQ c.mag,V X c.oL,V X c.pq,V X c.dep,V X c.oo] rG)=W->mY W g KA zV/\mY W (g+1) #[V X c.fmt,V mQ c.mag,V X c.oL,V X c.pq,V X c.dep,V X c.oo] rG/\iR w.heap.size w W):=Y λW aA=>by
  subst aA;have aK:=(mY.new w KA zV).alloc (mM #[V X c.fmt,V mQ c.mag,V X c.oL,V X c.pq,V X c.dep,V X c.oo] rG);have aL:=mY.new (w.alloc (mM KA zV)) #[V X c.fmt,V mQ c.mag,V X c.oL,V X c.pq,V X c.dep,V X c.oo] rG;have dh:(w.alloc (mM KA zV)).heap.size=g+1:=by simp[hg]
  rw[hg]at aK;rw[dh]at aL;exact⟨aK,aL,((iT w.heap.size w).alloc (iP _) _).alloc ny _⟩
 rw[bG];have bO:=Y bG;unfold nU.v nU.cs;go_in;go_upto_region 1 with fail;have⟨aK,aL,hb⟩:=bN.out _ rfl;generalize (w.alloc _).alloc _=w1 at*;have dw:=Y (iU aK (iU aL hb));go_wp2;go_loopw [3,12,13] (λsv ov dx aM=>∃(A:An) (L:List MG) (o:Option j4) (cp:Nat) (al:Int),sv=H A/\ov=G o L.length cp/\dx=V X al/\R (kY c rows (A.size+1) A=aE)/\R (L.length+A.size<=1000)/\R (pz mgf 4 aM (g+2) yA (G o L.length cp) L)/\R (mY aM g KA zV/\mY aM (g+1) #[V X c.fmt,V mQ c.mag,V X c.oL,V X c.pq,V X c.dep,V X c.oo] rG/\iR w.heap.size w aM)) (λsv _ _ _=>szV sv);case atStart=>exact⟨s,[],U,0,0,rfl,rfl,rfl,bO,Y nk,Y (pz.nil _ _ _),dw⟩
 case round=>
  obtain⟨A,L,o,cp,al,rfl,rfl,rfl,aB,aj,bP,N⟩:=hrel;have aP:A.size<=1000:=by have:=aj.out;omega
  have⟨aN,aQ⟩:=nE L.length;have aD:=Y aQ;rw[aQ]at bP aj|-;have ak:=cz.out A aP wr;have⟨dz,aR⟩:=nE ((oG c A U).1);have aa:=Y aR;rw[aR]at ak;have ak:=Y ak;have aF:=N.2.1;have⟨c0,c1,c2,c3,c4,c5⟩:=aF.a6;go_wp2_with (refine wpList_load_row rfl zV (.tmp 4) rfl g rfl _ KA (0,0) _ N.1 lF rfl cZ ?_);refine ak.mono ?_;rintro e w2 ⟨hb,z,bQ⟩;have bR:R (∀(f0 f1 f2:iQ) W,w2.alloc (.cells #[f0,f1,f2] pR)=W->mY W w2.heap.size #[f0,f1,f2] pR/\iR wr.heap.size wr W):=Y λf0 f1 f2 W aA=>by
   subst aA;exact⟨mY.new w2 _ _,hb.alloc hb.size _⟩
  have aZ:R (∀W,iR wr.heap.size wr W->(mY W g KA zV/\mY W (g+1) #[V X c.fmt,V mQ c.mag,V X c.oL,V X c.pq,V X c.dep,V X c.oo] rG/\iR w.heap.size w W)/\pz mgf 4 W (g+2) yA (G o aN cp) L):=Y λW h=>⟨⟨a7 h N.1 N.1.lt,a7 h N.2.1 N.2.1.lt,N.2.2.trans (h.mono N.2.2.size)⟩,bP.below h⟩
  cases dz with
  |error er=>
   subst bQ;have bS:=Y (aB.symm.trans (Fq aa));have dL:=bI.out A er aa.out;go_upto_region 4 with fail;have aS:=Y (aZ _ (bR (V mP 0) (H ⟨#[]⟩) (H ⟨#[]⟩) _ rfl).2);generalize w2.alloc _=w3 at*;by_cases e2:er=2
   .subst e2
    have ae:=Y (bS.trans (Ax rfl));go_wp2;go_returns;exact⟨aS.1.2.2,_,_,_,_,_,by rw[ae.out];rfl⟩
   .have ae:=Y (bS.trans (At e2))
    have u1:((er:Int)==2)=M:=qJ;have u2:((er:Int) !=0)=u:=yE;go_wp2;go_returns;exact⟨aS.1.2.2,_,_,_,_,_,by rw[ae.out]⟩
  |ok y=>
   subst bQ;have⟨bT,bU,aU⟩:=bJ.out A y aP aa.out;obtain⟨⟨au,av,ax⟩,n⟩:=y;dsimp only at bT bU aU|-;have aV:=Y (bR (V mP au) (H av) (H ax));obtain⟨f,dA⟩:=o7 w2;rw[dA]at aV;go_upto_region 4 with fail;have aG:=aV.out _ rfl;generalize w2.alloc _=w3 at*;have aW:=Y (aZ w3 aG.2);have aX:=Y aG.2;have⟨dB,dD,dE⟩:=qa aG.1;have aF:=aW.1.2.1;have⟨c0,c1,c2,c3,c4,c5⟩:=aF.a6;have af:=bH.out ⟨au,av,ax⟩ aU w3 aW.1.2.2;dsimp only at af;have⟨D,az⟩:∃D,wE (tN c rows ⟨au,av,ax⟩)=D:=⟨_,rfl⟩;have bg:=Y az;rw[az]at af;have af:=Y af;go_wp2_with fail;refine af.mono ?_;rintro e w4 ⟨hb,nm,tx,li,ag,n2,C,rfl⟩;have bV:R (∀W,w4.alloc (mM #[H nm,H tx,mH li,G ag n2 C] yA)=W->mY W w4.heap.size #[H nm,H tx,mH li,G ag n2 C] yA/\iR wr.heap.size wr W):=Y λW aA=>by
    subst aA;exact⟨mY.new w4 _ _,aX.trans ((hb.alloc hb.size _).mono aX.size)⟩
   go_upto_region 10 with fail;have bW:=bV.out _ rfl;generalize w4.alloc _=w5 at*;have E:=Y (aZ w5 bW.2);by_cases bq:D=0
   .have u1:((D:Int) !=0)=M:=by rw[bq];rfl
    have⟨dB,dD,dE,dM⟩:=AR bW.1;have bX:(A.extract n A.size).size=A.size - n:=by rw[iV];omega
    have bu:R (kY c rows ((A.extract n A.size).size+1) (A.extract n A.size)=aE):=Y (by
     have⟨m,dF⟩:=Yj (bg.trans bq);rw[<-aB.out,Fs aa.out dF];exact bK _ _ _ I I I)
    go_upto_region 13 with(at_builtin;go_loud (refine qx a0C a4D rfl _ _ rfl (B:=g+2) (v:=G o aN cp) (L:=L) (y:=(⟨nm,tx,li,ag,n2,C⟩:MG)) rfl (E.2.below ((iT _ w5).alloc (iP _) _)) rfl (mY.new w5 #[H nm,H tx,mH li,G ag n2 C] yA) rfl (by simp[mgf,Value.oneCell']) (by have:=aD.out;have:=aj.out;omega) (by have:=E.1.2.1.lt;simp;omega) ?_);intro dG dH aO J ah bz bA;rw[aD.out]at J|-;have ay:=Y (iU J ah);clear J ah bz bA)
    have dI:R ((mY aO g KA zV/\mY aO (g+1) #[V X c.fmt,V mQ c.mag,V X c.oL,V X c.pq,V X c.dep,V X c.oo] rG/\iR w.heap.size w aO)):=Y (by
     have aH:=(iT w5.heap.size w5).alloc (iP _) (mM #[H nm,H tx,mH li,G ag n2 C] yA);have hrow:∀d,(jM o aN cp).ownBlock=O d->g+2<=d:=λd hd=>(E.2.block d hd).1
     have hk:∀d,d<w5.heap.size->d<g+2->aO.heap[d]? =w5.heap[d]? :=λd bL aJ=>(ay.2.block d nk λe=>by have:=hrow d e.symm;omega).trans (aH.block d bL)
     have dJ:=E.1.2.1.lt;have hg:=df.out;refine⟨?_,?_,?_⟩
     .unfold mY
      rw[hk g I I];exact E.1.1
     .unfold mY
      rw[hk (g+1) dJ I];exact E.1.2.1
     .have h0:=E.1.2.2
      exact⟨(ay.2.os.trans aH.os).trans h0.os,(ay.2.tape.trans aH.tape).trans h0.tape,(ay.2.output.trans aH.output).trans h0.output,jk h0.size (jk aH.size ay.2.size),λd hd=>(hk d (by have:=h0.size;omega) I).trans (h0.block d hd)⟩)
    have aI:R ((L++[(⟨nm,tx,li,ag,n2,C⟩:MG)]).length=aN+1):=Y (by rw[jo,aD.out];rfl);have bB:R ((L++[(⟨nm,tx,li,ag,n2,C⟩:MG)]).length+(A.extract n A.size).size<=1000):=Y (by rw[aI.out,bX];have:=aj.out;omega);go_wp2;go_roundw;case rel=>exact⟨_,L++[⟨nm,tx,li,ag,n2,C⟩],O (Z dG 0 U),dH,_,rfl,by rw[aI.out],rfl,bu,bB,Y (by rw[aI.out];exact ay.1),dI⟩
    case measure=>simp only[szV];omega
   .have u1:((D:Int) !=0)=u:=yE
    have ae:R (aE=D):=Y (by
     have h:=a1Y (f:=⟨au,av,ax⟩) (c:=c) (rows:=rows) (by rw[bg.out];exact bq);rw[bg.out]at h;exact aB.symm.trans (JH aa h))
    go_wp2;go_returns;exact⟨E.1.2.2,_,_,_,_,_,by rw[ae.out]⟩
def a7z(aE:Nat)(v:iQ):Prop:=∃(o:Option j4) (n c:Nat) (t:An) (al:Int),v=mJ #[G o n c,H t,V X al,V X (aE:Nat)]
structure W12(aE:Nat)(Bs:K->Prop)(d7 d8:Bool)(v7 v8:iQ)(w:K):Prop where
 bs:Bs w
 c7:d7=u->a7z aE v7
 c8:d8=u->a7z aE v8
def NM:List kC:=[⟨O 44,.load 33 (.tmp 8),33,"top28.go:109",#[],U⟩,⟨O 45,.load 24 (.tmp 3),24,"top28.go:109",#[],U⟩,⟨O 46,.move (.tmp 1),25,"top28.go:109",#[],U⟩,⟨O 47,.move (.tmp 2),9,"top28.go:109",#[],U⟩,⟨O 48,.move (.tmp 9),3,"top28.go:109",#[],U⟩,⟨O 49,.binOp .add 3 (.tmp 48) (.const (.int .i64 1)) 3,3,"top28.go:109",#[⟨4,.data⟩],U⟩,⟨O 50,.slice 9 (.tmp 47) U (O (.tmp 49)) U,9,"top28.go:109",#[⟨3,.data⟩,⟨5,.data⟩],U⟩,⟨O 51,.call {callee:=.value (.func 12),args:=#[.tmp 44,.tmp 45,.tmp 46,.tmp 50],argTypes:=#[33,24,25,9]},37,"top28.go:109",#[⟨0,.data⟩,⟨1,.data⟩,⟨2,.data⟩,⟨6,.data⟩],U⟩,⟨O 43,.move (.tmp 51),37,"top28.go:109",#[⟨7,.data⟩],U⟩,⟨O 52,.extract (.tmp 43) 0,35,"top28.go:109",#[⟨8,.data⟩],U⟩,⟨O 53,.extract (.tmp 43) 1,9,"top28.go:109",#[⟨8,.data⟩,⟨13,.gcOnly .lateStores⟩],U⟩,⟨O 54,.extract (.tmp 43) 2,3,"top28.go:109",#[⟨8,.data⟩,⟨14,.gcOnly .lateStores⟩],U⟩,⟨O 55,.extract (.tmp 43) 3,36,"top28.go:109",#[⟨8,.data⟩,⟨15,.gcOnly .lateStores⟩],U⟩,⟨O 10,.assign (.tmp 52),35,"top28.go:109",#[⟨9,.data⟩,⟨7,.chain⟩,⟨0,.phase⟩,⟨1,.phase⟩,⟨2,.phase⟩,⟨3,.phase⟩,⟨4,.phase⟩,⟨5,.phase⟩,⟨6,.phase⟩,⟨7,.phase⟩,⟨8,.phase⟩,⟨9,.phase⟩,⟨10,.textOnly .lateStores⟩,⟨11,.textOnly .lateStores⟩,⟨12,.textOnly .lateStores⟩],U⟩,⟨O 11,.assign (.tmp 53),9,"top28.go:109",#[⟨10,.data⟩,⟨13,.chain⟩,⟨0,.phase⟩,⟨1,.phase⟩,⟨2,.phase⟩,⟨3,.phase⟩,⟨4,.phase⟩,⟨5,.phase⟩,⟨6,.phase⟩,⟨7,.phase⟩,⟨8,.phase⟩,⟨9,.phase⟩,⟨10,.phase⟩,⟨11,.textOnly .lateStores⟩,⟨12,.textOnly .lateStores⟩,⟨13,.phase⟩],U⟩,⟨O 12,.assign (.tmp 54),3,"top28.go:109",#[⟨11,.data⟩,⟨14,.chain⟩,⟨0,.phase⟩,⟨1,.phase⟩,⟨2,.phase⟩,⟨3,.phase⟩,⟨4,.phase⟩,⟨5,.phase⟩,⟨6,.phase⟩,⟨7,.phase⟩,⟨8,.phase⟩,⟨9,.phase⟩,⟨10,.phase⟩,⟨11,.phase⟩,⟨12,.textOnly .lateStores⟩,⟨13,.phase⟩,⟨14,.phase⟩],U⟩,⟨O 13,.assign (.tmp 55),36,"top28.go:109",#[⟨12,.data⟩,⟨15,.chain⟩,⟨0,.phase⟩,⟨1,.phase⟩,⟨2,.phase⟩,⟨3,.phase⟩,⟨4,.phase⟩,⟨5,.phase⟩,⟨6,.phase⟩,⟨7,.phase⟩,⟨8,.phase⟩,⟨9,.phase⟩,⟨10,.phase⟩,⟨11,.phase⟩,⟨12,.phase⟩,⟨13,.phase⟩,⟨14,.phase⟩,⟨15,.phase⟩],U⟩]
section
variable (k gk i:Nat)(KA:Array iQ)(c:nU)(a1:Option j4)(zF wJ:Nat)(s:An)(aE:Nat)(Bs:K->Prop)
def JR:Nat->iQ
 |0=> mI KA
 |1=> mI #[V X c.fmt,V mQ c.mag,V X c.oL,V X c.pq,V X c.dep,V X c.oo]
 |2=> G a1 zF wJ
 |3=> H s
 |4=> V X (i:Int)
 |5=> V X ((i:Int)+1)
 |6=> H (s.extract 0 (i+1))
 |12=> V X (aE:Nat)
 |16=> V X (aE:Nat)
 |_=>jw
structure b0H(D:Nat->Bool)(vs:Nat->iQ)(w:K):Prop where
 nP:W12 aE Bs (D 7) (D 8) (vs 7) (vs 8) w
 val:∀j,(j !=7&&j !=8&&j !=9&&j !=10&&j !=11&&j !=13&&j !=14&&j !=15)=u->D j=u->vs j=JR i KA c a1 zF wJ s aE j
variable {k gk i KA c a1 zF wJ s aE Bs}
def TJ(h:p:=by
 have d8:=hw 8 mX mZ;have e43:a.tmps.getD 43 jw=vs 8:=hev 43 mX;have⟨o4,n4,c4,t4,al4,e4⟩:=hI.nP.c8 d8;replace e43:=e43.trans e4;clear e4;go_simp;exact hK _ _ _ rfl ⟨hI.nP,I9 rfl hI.val⟩):p:=h
def a7A{id:Nat}(ht8:a0.tmps.getD 8 jw=mG (O (Z gk 0 U)))(hbk:∀W,Bs W->mY W gk KA zV)(hka:(Tryz.prog.info? zV).map (·.size)=O KA.size)(ht3:a0.tmps.getD 3 jw=mG (O (Z k 0 U)))(hbc:∀W,Bs W->W.cell? (Z k 0 U)=O (V X c.fmt)/\W.cell? (Z k 1 U)=O (V mQ c.mag)/\W.cell? (Z k 2 U)=O (V X c.oL)/\W.cell? (Z k 3 U)=O (V X c.pq)/\W.cell? (Z k 4 U)=O (V X c.dep)/\W.cell? (Z k 5 U)=O (V X c.oo))(ht1:a0.tmps.getD 1 jw=G a1 zF wJ)(ht2:a0.tmps.getD 2 jw=H s)(Gy:a0.tmps.getD 9 jw=V X (i:Int))(hlt:i<s.size/\s.size<=1000)(hcs:∀W,Bs W->iW iN 12 #[mI KA,mI #[V X c.fmt,V mQ c.mag,V X c.oL,V X c.pq,V X c.dep,V X c.oo],G a1 zF wJ,H (s.extract 0 (i+1))] W λe aj=>(∃v,e=mK v/\a7z aE v)/\Bs aj)(hsz:a0.tmps.size=84)(hI0:∀vs:Nat->iQ,(λw=>W12 aE Bs M M (vs 7) (vs 8) w) ws.drew)(ak:∀(vs:Nat->iQ) (w:K),W12 aE Bs u u (vs 7) (vs 8) w->Q .normal {a0 with tmps:=vG a0.tmps [(44,mI KA),(45,mI #[V X c.fmt,V mQ c.mag,V X c.oL,V X c.pq,V X c.dep,V X c.oo]),(46,G a1 zF wJ),(47,H s),(48,V X (i:Int)),(49,V X ((i:Int)+1)),(50,H (s.extract 0 (i+1))),(51,vs 7),(43,vs 8),(52,vs 9),(53,vs 10),(54,vs 11),(55,V X (aE:Nat)),(10,vs 13),(11,vs 14),(12,vs 15),(13,V X (aE:Nat))]} w):
  (jZ id NM.toArray u).wp iN Q a0 ws:=by
 refine nJ 17 84 (b0H i KA c a1 zF wJ s aE Bs) mZ hsz mZ (.inl rfl) mZ ?_ ?_ ?_;.exact qg
 .refine rR λA au=> ?_
  replace ht8:=Y ht8;replace hbk:=Y hbk;replace hka:=Y hka;replace ht3:=Y ht3;replace hbc:=Y hbc;replace ht1:=Y ht1;replace ht2:=Y ht2;replace Gy:=Y Gy;replace hlt:=Y hlt;replace hcs:=Y hcs;unfold NM;simp only[jm,jI,qU];refine⟨?_,?_,?_,?_,?_,?_,?_,?_,?_,?_,?_,?_,?_,?_,?_,?_,?_,trivial⟩<;>(intro D vs a w aq hI hd hw E hev hK;subst au;unfold NM)
  .have hbk:=hbk.out
   have hka:=hka.out;have av:=(hev 8 mX).trans ht8.out;have hB:=hbk w hI.nP.bs;rw[Ax (by rfl)];refine wp_load_row zV (.tmp 8) rfl gk av zV KA (0,0) _ hB lF rfl hka ?_;exact hK (.agg KA) _ _ rfl ⟨hI.nP,uj hI.val⟩
  have hbc:=hbc.out;have e3:=(hev 3 mX).trans ht3.out;have⟨c0,c1,c2,c3,c4,c5⟩:=hbc w hI.nP.bs;rotate_left;have e1:=(hev 1 mX).trans ht1.out;rotate_left;have e2:=(hev 2 mX).trans ht2.out;rotate_left;have aK:=(hev 9 mX).trans Gy.out;rotate_left;have hlt:=hlt.out;have J:=fe hev hI.val hw 48 4;simp only[JR]at J;have az:IntKind.i64.wrap ((i:Int)+1)=(i:Int)+1:=IntWalk.i64_in _ I;rotate_left;have hlt:=hlt.out;have N:=fe hev hI.val hw 47 3;have aa:=fe hev hI.val hw 49 5;simp only[JR]at N aa;have aA:(((i:Int)+1)).toNat=i+1:=I;have aB:(i:Int)+1<=(s.size:Int):=I;have aD:(0:Int)<=(i:Int)+1:=I;rotate_left
  .have hcs:=hcs.out
   have ae:=fe hev hI.val hw 44 0;have af:=fe hev hI.val hw 45 1;have ag:=fe hev hI.val hw 46 2;have ah:=fe hev hI.val hw 50 6;simp only[JR]at ae af ag ah;have ax:=hcs w hI.nP.bs;clear hcs;rw[Ax (by rfl)];go_simp;refine ax.mono ?_;rintro e aL ⟨⟨v,rfl,ay⟩,hb⟩;have d8:=E 8 mX mZ;refine hK v _ _ rfl ⟨⟨hb,λ_=> ?_,λh=> ?_⟩,I9 rfl hI.val⟩;.rw[o6];exact ay
   .rw[nz D (show 8≠7 by decide),d8]at h;cases h
  .have d7:=hw 7 mX mZ
   have aF:a.tmps.getD 51 jw=vs 7:=hev 51 mX;have ai:=hI.nP.c7 d7;go_simp;refine hK _ _ _ rfl ⟨⟨hI.nP.bs,λ_=> ?_,λ_=> ?_⟩,I9 rfl hI.val⟩;.rw[nM vs _ (show 7≠8 by decide)];exact ai
   .rw[o6];exact ai
  .exact TJ
  .exact TJ
  .exact TJ
  .have d8:=hw 8 mX mZ
   have e43:a.tmps.getD 43 jw=vs 8:=hev 43 mX;have⟨o4,n4,c4,t4,al4,e4⟩:=hI.nP.c8 d8;replace e43:=e43.trans e4;clear e4;go_simp;exact hK _ _ _ rfl ⟨hI.nP,uj hI.val⟩
  .have d9:=hw 9 mX mZ
   have aG:a.tmps.getD 52 jw=vs 9:=hev 52 mX;go_simp;exact hK _ _ _ rfl ⟨hI.nP,I9 rfl hI.val⟩
  .have d10:=hw 10 mX mZ
   have aH:a.tmps.getD 53 jw=vs 10:=hev 53 mX;go_simp;exact hK _ _ _ rfl ⟨hI.nP,I9 rfl hI.val⟩
  .have d11:=hw 11 mX mZ
   have aI:a.tmps.getD 54 jw=vs 11:=hev 54 mX;go_simp;exact hK _ _ _ rfl ⟨hI.nP,I9 rfl hI.val⟩
  have aJ:=fe hev hI.val hw 55 12;rotate_left
  all_goals
   try simp only[JR]at*
   go_simp;exact hK _ _ _ rfl ⟨hI.nP,uj hI.val⟩
 .intro D vs w C hI
  have hw:=hI.nP;rw[C 7 mX]at hw;rw[C 8 mX]at hw;have q:=ak vs w hw;rw[oD hI.val C];unfold NM;exact qf
end
end
section
open Go.RowKit Go.Maps
def AP.kp{F F':Nat->Prop}{r:Nat}(h:AP w F r sb buf nd fa)(k:rF F' w w')(hF:∀b,b<w.heap.size->F b->¬F' b):AP w' F r sb buf nd fa:=by
 obtain⟨bv,la,tt,se,A,C,E,J⟩:=h;exact⟨bv,la,tt,se,k.blk A (hF _ A.lt E),C.kp k λb hb=>hF b (nS.blk C b hb).2 (J b hb),E,J⟩
end
section
open Go.RowKit
abbrev FnT:jl:=121
structure KD(g:Nat)(w:K)(t:TL)(tv:iQ)(a:IL)(iv:iQ)(deep most:Int)(s:An)(W:K):Prop where
 t:mY W g #[V X t.kind,V X t.size,tv,V X t.tail] 63
 x:mY W (g+1) #[H (txt a),mH a.list,iv] IT
 d:mY W (g+2) #[V X deep] 3
 m:mY W (g+3) #[V X most] 3
 o:mY W (g+4) #[H s] 9
 f:mY W (g+5) #[.func (.func 156) #[] #[mG (O (Z g 0 U)),mG (O (Z (g+1) 0 U))],
  .func (.func 158) #[] #[mG (O (Z (g+1) 0 U)),mG (O (Z (g+2) 0 U)),mG (O (Z (g+3) 0 U))],
  .func (.func 160) #[] #[mG (O (Z (g+1) 0 U)),mG (O (Z (g+4) 0 U))]] FnT
 b:iR g w W
section
variable {g:Nat}{w W W':K}{t:TL}{tv iv:iQ}{a:IL}{deep most:Int}{s:An}
def KD.below(h:KD g w t tv a iv deep most s W)(hb:iR W.heap.size W W'):KD g w t tv a iv deep most s W':=
 ⟨a7 hb h.t h.t.lt,a7 hb h.x h.x.lt,a7 hb h.d h.d.lt,a7 hb h.m h.m.lt,a7 hb h.o h.o.lt,a7 hb h.f h.f.lt,h.b.trans (hb.mono (by have:=h.t.lt;omega))⟩
def KD.put(h:KD g w t tv a iv deep most s W)(A:An):KD g w t tv a iv deep most A (W.setCell (Z (g+4) 0 U) (H A)):=
 have o:∀{n:Nat}{cs:Array iQ}{t:jl},mY W n cs t->n≠g+4->mY (W.setCell (Z (g+4) 0 U) (H A)) n cs t:=λh hn=>h.setOther (a:=(Z (g+4) 0 U)) hn _
 ⟨o h.t I,o h.x I,o h.d I,o h.m I,h.o.set 0 _,o h.f I,h.b.setCell (p:=(Z (g+4) 0 U)) ny _⟩
end
def a7B(t:mW TL)(x:mW IL)(w:K)(tv iv:iQ)(A:nZ w tv t.sub)(C:rf w iv x.sub)(J:x.lab.text.length<=jd)(N:qB w)(deep most:Int)(s:An)(W:K)(h:KD w.heap.size w t.lab tv x.lab iv deep most s W):
  iW iN 156 #[mG (O (Z w.heap.size 0 U)),mG (O (Z (w.heap.size+1) 0 U))] W λe w'=>e=mK (V X (rJ t x))/\KD w.heap.size w t.lab tv x.lab iv deep most s w':=by
 have aa:=Y (IQ t x W tv iv (Shape.nA.below A h.b) (Shape.nA.below C h.b) J (N.below h.b N.lt));have an:=Y h;have⟨t0,t1,af,t3⟩:=h.t.a4;have⟨ag,i1,i2⟩:=h.x.a3;generalize rJ t x=E at*;generalize w.heap.size=g at*;go_in;go_wp2_with fail;refine pG aa λw2 hb=> ?_
 have ae:=Y (an.below hb);go_wp2;go_returns;exact⟨rfl,ae.out⟩
def a7C(t:mW TL)(x:mW IL)(w:K)(tv iv:iQ)(A:rf w iv x.sub)(deep most:Int)(s:An)(W:K)(h:KD w.heap.size w t.lab tv x.lab iv deep most s W):
  iW iN 158 #[mG (O (Z (w.heap.size+1) 0 U)),mG (O (Z (w.heap.size+2) 0 U)),mG (O (Z (w.heap.size+3) 0 U))] W λe w'=>e=mK (V X (Dm x deep most))/\KD w.heap.size w t.lab tv x.lab iv deep most s w':=by
 have C:=Y (WN x deep most W iv (Shape.nA.below A h.b));have an:=Y h;have⟨N,i1,i2⟩:=h.x.a3;have aa:=h.d.c0;have ae:=h.m.c0;generalize Dm x deep most=E at*;generalize w.heap.size=g at*;go_in;go_wp2_with fail;refine pG C λw2 hb=> ?_
 have J:=Y (an.below hb);go_wp2;go_returns;exact⟨rfl,J.out⟩
def KE(x:mW IL):An:=if ve x=u then⟨(enc x).toArray⟩else⟨#[]⟩
def TK(x:mW IL):Int:=if ve x=u then 0 else 1
def a7D(t:mW TL)(x:mW IL)(w:K)(tv iv:iQ)(N:rf w iv x.sub)(aa:x.lab.text.length<=jd)(C:∀W,iR w.heap.size w W->iW iN 161 #[mI #[H (txt x.lab),mH x.lab.list,iv]] W λe w'=>e=mK (mJ #[H (KE x),V X (TK x)])/\iR W.heap.size W w')(deep most:Int)(s:An)(W:K)(h:KD w.heap.size w t.lab tv x.lab iv deep most s W):
  iW iN 160 #[mG (O (Z (w.heap.size+1) 0 U)),mG (O (Z (w.heap.size+4) 0 U))] W λe w'=>e=mK (V X (TK x))/\KD w.heap.size w t.lab tv x.lab iv deep most (KE x) w':=by
 have J:=Y (C W h.b);have an:=Y h;have⟨ae,i1,i2⟩:=h.x.a3;generalize TK x=E at*;generalize KE x=S at*;generalize w.heap.size=g at*;go_in;go_wp2_with fail;refine pG J λw2 hb=> ?_
 have A:=Y (an.below hb);have⟨o0,af⟩:=A.o.b1;go_wp2;go_returns;exact⟨rfl,A.put S⟩
def JS(t:mW TL)(x:mW IL)(deep most:Int):Int:=if rJ t x≠0 then rJ t x else if Dm x deep most≠0 then Dm x deep most else TK x
def a7E{w2 w3 w4 w5:K}{t:TL}{iv:iQ}{a:IL}{deep:Int}(e1:w.alloc (mM #[V X t.kind,V X t.size,tv,V X t.tail] 63)=w1)(e2:w1.alloc (mM #[H (txt a),mH a.list,iv] IT)=w2)(e3:w2.alloc (mM #[V X deep] 3)=w3)(e4:w3.alloc (mM #[V X most] 3)=w4)(e5:w4.alloc (mM #[H ⟨#[]⟩] 9)=w5)(aa:w5.alloc (mM #[.func (.func 156) #[] #[mG (O (Z w.heap.size 0 U)),mG (O (Z (w.heap.size+1) 0 U))],
  .func (.func 158) #[] #[mG (O (Z (w.heap.size+1) 0 U)),mG (O (Z (w.heap.size+2) 0 U)),mG (O (Z (w.heap.size+3) 0 U))],
  .func (.func 160) #[] #[mG (O (Z (w.heap.size+1) 0 U)),mG (O (Z (w.heap.size+4) 0 U))]] FnT)=W):KD w.heap.size w t tv a iv deep most ⟨#[]⟩ W/\w5.heap.size=w.heap.size+5:=by
 have ae:w1.heap.size=w.heap.size+1:=by rw[<-e1];simp
 have af:w2.heap.size=w.heap.size+2:=by rw[<-e2];simp[ae]
 have z3:w3.heap.size=w.heap.size+3:=by rw[<-e3];simp[af]
 have z4:w4.heap.size=w.heap.size+4:=by rw[<-e4];simp[z3]
 have z5:w5.heap.size=w.heap.size+5:=by rw[<-e5];simp[z4]
 have b1:iR w.heap.size w w1:=by rw[<-e1];exact(iT _ _).alloc (iP _) _
 have ah:iR w1.heap.size w1 w2:=by rw[<-e2];exact(iT _ _).alloc (iP _) _
 have b3:iR w2.heap.size w2 w3:=by rw[<-e3];exact(iT _ _).alloc (iP _) _
 have b4:iR w3.heap.size w3 w4:=by rw[<-e4];exact(iT _ _).alloc (iP _) _
 have ai:iR w4.heap.size w4 w5:=by rw[<-e5];exact(iT _ _).alloc (iP _) _
 have b6:iR w5.heap.size w5 W:=by rw[<-aa];exact(iT _ _).alloc (iP _) _
 have A:=mY.new w #[V X t.kind,V X t.size,tv,V X t.tail] 63;have C:=mY.new w1 #[H (txt a),mH a.list,iv] IT;have E:=mY.new w2 #[V X deep] 3;have J:=mY.new w3 #[V X most] 3;have N:=mY.new w4 #[H ⟨#[]⟩] 9
 have ag:=mY.new w5 #[.func (.func 156) #[] #[mG (O (Z w.heap.size 0 U)),mG (O (Z (w.heap.size+1) 0 U))],
  .func (.func 158) #[] #[mG (O (Z (w.heap.size+1) 0 U)),mG (O (Z (w.heap.size+2) 0 U)),mG (O (Z (w.heap.size+3) 0 U))],
  .func (.func 160) #[] #[mG (O (Z (w.heap.size+1) 0 U)),mG (O (Z (w.heap.size+4) 0 U))]] FnT
 rw[e1]at A;rw[e2,ae]at C;rw[e3,af]at E;rw[e4,z3]at J;rw[e5,z4]at N;rw[aa,z5]at ag;have c5:=ai.trans (b6.mono I);have c4:=b4.trans (c5.mono I);have c3:=b3.trans (c4.mono I);have c2:=ah.trans (c3.mono I);exact⟨⟨a7 c2 A A.lt,a7 c3 C C.lt,a7 c4 E E.lt,a7 c5 J J.lt,a7 b6 N N.lt,ag,b1.trans (c2.mono I)⟩,z5⟩
def a1Z(t:mW TL)(x:mW IL)(w:K)(tv iv:iQ)(N:nZ w tv t.sub)(C:rf w iv x.sub)(aa:x.lab.text.length<=jd)(ay:∀W,iR w.heap.size w W->iW iN 161 #[mI #[H (txt x.lab),mH x.lab.list,iv]] W λe w'=>e=mK (mJ #[H (KE x),V X (TK x)])/\iR W.heap.size W w')(az:qB w)(deep most:Int):
  iW iN 116 #[mI #[V X t.lab.kind,V X t.lab.size,tv,V X t.lab.tail],mI #[H (txt x.lab),mH x.lab.list,iv],V X deep,V X most] w
   λe w'=>e=mK (mJ #[H (if JS t x deep most=0 then KE x else⟨#[]⟩),V X (JS t x deep most)])/\iR w.heap.size w w':=by
 have af:R (∀w5 W,(((((w.alloc (mM #[V X t.lab.kind,V X t.lab.size,tv,V X t.lab.tail] 63)).alloc (mM #[H (txt x.lab),mH x.lab.list,iv] IT)).alloc (mM #[V X deep] 3)).alloc (mM #[V X most] 3)).alloc (mM #[H ⟨#[]⟩] 9))=w5->
   w5.alloc (mM #[.func (.func 156) #[] #[mG (O (Z w.heap.size 0 U)),mG (O (Z (w.heap.size+1) 0 U))],
  .func (.func 158) #[] #[mG (O (Z (w.heap.size+1) 0 U)),mG (O (Z (w.heap.size+2) 0 U)),mG (O (Z (w.heap.size+3) 0 U))],
  .func (.func 160) #[] #[mG (O (Z (w.heap.size+1) 0 U)),mG (O (Z (w.heap.size+4) 0 U))]] FnT)=W->w5.heap.size=w.heap.size+5/\iW iN 155 #[G (O (Z w5.heap.size 0 U)) 3 3] W λe ae=>e=mK (V X (JS t x deep most))/\iR w.heap.size w ae/\
    (JS t x deep most=0->ae.cell? (Z (w.heap.size+4) 0 U)=O (H (KE x)))):=Y λw5 W aA aB=>by
  have⟨hI,E⟩:=a7E (t:=t.lab) (tv:=tv) (iv:=iv) (a:=x.lab) (deep:=deep) (most:=most) rfl rfl rfl rfl aA aB;refine⟨E,?_⟩;rw[E];have⟨A,ag,ah,ai,aj⟩:∃A:Nat->An,A 0=⟨#[]⟩/\A 1=⟨#[]⟩/\A 2=⟨#[]⟩/\A 3=KE x:=⟨λk=>if k=3 then KE x else⟨#[]⟩,At mX,At mX,At mX,Ax rfl⟩;have aD:∀W,KD w.heap.size w t.lab tv x.lab iv deep most (A 0) W->iW iN 156 #[mG (O (Z w.heap.size 0 U)),mG (O (Z (w.heap.size+1) 0 U))] W λe w'=>e=mK (V X (rJ t x))/\KD w.heap.size w t.lab tv x.lab iv deep most (A 1) w':=λW h=>by
   rw[ag]at h;rw[ah];exact a7B t x w tv iv N C aa az deep most _ W h
  have aF:∀W,KD w.heap.size w t.lab tv x.lab iv deep most (A 1) W->iW iN 158 #[mG (O (Z (w.heap.size+1) 0 U)),mG (O (Z (w.heap.size+2) 0 U)),mG (O (Z (w.heap.size+3) 0 U))] W λe w'=>e=mK (V X (Dm x deep most))/\KD w.heap.size w t.lab tv x.lab iv deep most (A 2) w':=λW h=>by
   rw[ah]at h;rw[ai];exact a7C t x w tv iv C deep most _ W h
  have aG:∀W,KD w.heap.size w t.lab tv x.lab iv deep most (A 2) W->iW iN 160 #[mG (O (Z (w.heap.size+1) 0 U)),mG (O (Z (w.heap.size+4) 0 U))] W λe w'=>e=mK (V X (TK x))/\KD w.heap.size w t.lab tv x.lab iv deep most (A 3) w':=λW h=>by
   rw[ai]at h;rw[aj];exact a7D t x w tv iv C aa ay deep most _ W h
  rw[<-ag]at hI;refine pG (O6 W _ _ _ (w.heap.size+5) FnT (rJ t x) (Dm x deep most) (TK x) (λk W=>KD w.heap.size w t.lab tv x.lab iv deep most (A k) W) (λk W h=>KD.f h) hI aD (λ_=>aF) (λ_ _=>aG)) λae J=> ?_
  refine⟨rfl,J.b,λh0=> ?_⟩;unfold JS at h0;by_cases c1:rJ t x≠0;.rw[Ax c1]at h0;exact absurd h0 c1
  .by_cases c2:Dm x deep most≠0
   .rw[At c1,Ax c2]at h0;exact absurd h0 c2
   .rw[At c1,At c2]at J
    rw[aj]at J;exact J.o.cell 0
 obtain⟨ot,ct,rfl,_,_⟩:=N.slice;obtain⟨oi,ci,rfl,_,_⟩:=b7 C;have⟨aE,aH⟩:=nE (JS t x deep most);have⟨S,aI⟩:=nE (KE x);rw[aH,aI]at af|-;go_in;go_upto_region 2 with fail;generalize ak:World.alloc (World.alloc _ _) _=w5;have⟨E,hcall⟩:=af.out w5 _ ak rfl;rw[E]at hcall;have aJ:=Y hcall;rw[show w.heap.size+1+1+1+1=w.heap.size+4 from rfl,show w.heap.size+1+1+1=w.heap.size+3 from rfl,show w.heap.size+1+1=w.heap.size+2 from rfl];go_wp2_with fail;refine vF aJ λaK au av=> ?_
 have ax:=Y au;by_cases c:aE=0
 .have o0:=av c
  subst c;go_wp2;go_returns;exact⟨rfl,ax.out⟩
 .have aL:(aE !=0)=u:=by simp[c]
  have aM:=Y c;go_wp2;go_returns;exact⟨rfl,ax.out⟩
end
section
open Go.RowKit Go.Maps
def zf3:Array iQ:=#[V mP 0,H ⟨#[]⟩,H ⟨#[]⟩]
structure EnB(g r bn bi:Nat)(c:nU)(L:List oJ)(ms:Array iQ)(w0 W:K):Prop where
 rg:pY r bn bi c L W
 ms:mY W g ms yA
 rs:mY W (g+1) zf3 pR
 pV:iR g w0 W
 lt:w0.heap.size=g/\r<g/\bn<g/\bi<g
def EnB.below{r:Nat}{A:K}(h:EnB g r bn bi c L ms w0 W)(hb:iR W.heap.size W A):EnB g r bn bi c L ms w0 A:=
 ⟨h.rg.below hb,a7 hb h.ms h.ms.lt,a7 hb h.rs h.rs.lt,h.pV.trans (hb.mono (by have:=h.ms.lt;omega)),h.lt⟩
structure EnL(g r bn bi:Nat)(c:nU)(L:List oJ)(ms:Array iQ)(w0:K)(k:Nat)(x:RC)(da ds:Bool)(W:K):Prop where
 b:EnB g r bn bi c L ms w0 W
 sz:W.heap.size=if da=u then k+1 else k
 bk:da=u->mY W k (if ds=u then x else DJ).cs GN
 lt:g+1<k
def EnL.made{r:Nat}{x:RC}(h:EnL g r bn bi c L ms w0 k x M M W):EnL g r bn bi c L ms w0 k x u M (W.alloc (mM DJ.cs GN)):=by
 have A:W.heap.size=k:=by simpa using h.sz
 exact⟨h.b.below ((iT W.heap.size W).alloc (iP _) _),by simp[A],λ_=>A▸mY.new W DJ.cs GN,h.lt⟩
def EnL.put{r:Nat}{x:RC}(h:EnL g r bn bi c L ms w0 k x u M W)(h0:pY r bn bi c L w0):EnL g r bn bi c L ms w0 k x u u (DK W k x):=by
 have l:=h.b.lt;have g1:=h.lt;have hb:=vL (x:=x) h.b.pV (show g<=k by omega);exact⟨⟨h0.below (l.1▸hb),xM h.b.ms I,xM h.b.rs I,hb,l⟩,by rw[K8];exact h.sz,λ_=>yL (h.bk rfl),h.lt⟩
structure V3(g k:Nat)(ms:Array iQ)(x:RC)(w0 W:K):Prop where
 pV:iR g w0 W
 ms:mY W g ms yA
 rs:mY W (g+1) zf3 pR
 rw_:mY W k x.cs GN
def V3.up{x:RC}{A:K}(h:V3 g k ms x w0 W)(hb:iR W.heap.size W A):V3 g k ms x w0 A:=
 ⟨h.pV.trans (hb.mono (by have:=h.ms.lt;omega)),a7 hb h.ms h.ms.lt,a7 hb h.rs h.rs.lt,a7 hb h.rw_ h.rw_.lt⟩
noncomputable def Ho:List kC:=cO (cL (cR (cR (cB Tryz.f36))))
section
variable (g r bn bi:Nat)(c:nU)(L:List oJ)(nm tx:An)(li:Bool)(oi:Option j4)(ni ci:Nat)(w0:K)(k:Nat)(b:Bool)(x:RC)
def Bw:Nat->iQ
 |0=> mG (O (Z r 0 U))
 |1=> mG (O (Z r 0 U))
 |2=> mG (O (Z r 6 U))
 |3=> .map (O bn)
 |4=> mG (O (Z g 0 U))
 |5=> H nm
 |6=> mJ #[mI #[V mP x.i,H x.nm,H x.tx,V X x.k,V X x.z,G x.ou x.nu x.cu,V X x.tl],mH b]
 |7=> mJ #[mI #[V mP x.i,H x.nm,H x.tx,V X x.k,V X x.z,G x.ou x.nu x.cu,V X x.tl],mH b]
 |8=> mI #[V mP x.i,H x.nm,H x.tx,V X x.k,V X x.z,G x.ou x.nu x.cu,V X x.tl]
 |9=> mH b
 |10=> mG (O (Z k 0 U))
 |12=> mH b
 |_=>jw
structure a9g(D:Nat->Bool)(vs:Nat->iQ)(w:K):Prop where
 nP:EnL g r bn bi c L #[H nm,H tx,mH li,G oi ni ci] w0 k x (D 10) (D 11) w
 val:∀j,(u)=u->D j=u->vs j=Bw g r bn nm k b x j
variable {g r bn bi c L nm tx li oi ni ci w0 k b x}
def a4H{id:Nat}(ht0:a0.tmps.getD 0 jw=mG (O (Z r 0 U)))(ht3:a0.tmps.getD 3 jw=mG (O (Z g 0 U)))(hl:∀W,pY r bn bi c L W->(Instr.lookup 130 (.map (O bn)) (H nm) u).run iN W=.ok (mJ #[mI #[V mP x.i,H x.nm,H x.tx,V X x.k,V X x.z,G x.ou x.nu x.cu,V X x.tl],mH b]) W)(h0:pY r bn bi c L w0)(hsz:a0.tmps.size=59)(hI0:∀vs:Nat->iQ,(λw=>EnL g r bn bi c L #[H nm,H tx,mH li,G oi ni ci] w0 k x M M w) ws.drew)(ae:∀(vs:Nat->iQ) (w:K),EnL g r bn bi c L #[H nm,H tx,mH li,G oi ni ci] w0 k x u u w->Q .normal {a0 with tmps:=vG a0.tmps [(14,mG (O (Z r 0 U))),(15,mG (O (Z r 0 U))),(16,mG (O (Z r 6 U))),(17,.map (O bn)),(18,mG (O (Z g 0 U))),(19,H nm),(20,mJ #[mI #[V mP x.i,H x.nm,H x.tx,V X x.k,V X x.z,G x.ou x.nu x.cu,V X x.tl],mH b]),(13,mJ #[mI #[V mP x.i,H x.nm,H x.tx,V X x.k,V X x.z,G x.ou x.nu x.cu,V X x.tl],mH b]),(21,mI #[V mP x.i,H x.nm,H x.tx,V X x.k,V X x.z,G x.ou x.nu x.cu,V X x.tl]),(22,mH b),(6,mG (O (Z k 0 U))),(7,mH b)]} w):
  (jZ id Ho.toArray u).wp iN Q a0 ws:=by
 refine nJ 13 59 (a9g g r bn bi c L nm tx li oi ni ci w0 k b x) mZ hsz mZ (.inl rfl) mZ ?_ ?_ ?_;.exact qg
 .refine rR λA av=> ?_
  clear hI0 ae hsz;replace ht0:=Y ht0;replace ht3:=Y ht3;replace hl:=Y hl;replace h0:=Y h0;dsimp+instances only[Ho,cO,cL,cR,cB,Tryz.f36];simp only[jm,jI,qU];refine⟨?_,?_,?_,?_,?_,?_,?_,?_,?_,?_,?_,?_,?_,trivial⟩<;>(intro D vs a w aq hI hd E af C N;subst av;dsimp+instances only[Ho,cO,cL,cR,cB,Tryz.f36]);have aD:=(C 0 mX).trans ht0.out;rotate_left;have ay:=fe C hI.val E 14 0;rotate_left;have az:=fe C hI.val E 15 1;rotate_left;have ag:=fe C hI.val E 16 2;simp only[Bw]at ag;have c0:=hI.nP.b.rg.rg.c6;rotate_left;have e3:=(C 3 mX).trans ht3.out;rotate_left;have ah:=fe C hI.val E 18 4;simp only[Bw]at ah;have c0:=hI.nP.b.ms.c0;rotate_left;have hl:=hl.out;have ai:=fe C hI.val E 17 3;have aj:=fe C hI.val E 19 5;simp only[Bw]at ai aj;have q:=hl w hI.nP.b.rg;rotate_left;have aA:=fe C hI.val E 20 6;rotate_left;have ak:=fe C hI.val E 13 7;rotate_left;have ak:=fe C hI.val E 13 7;rotate_left
  .have J:=hI.nP
   have d11:=af 11 mX mZ;rw[hd,d11]at J;have aF:w.heap.size=k:=by simpa using J.sz
   go_simp;refine N (mG (O (Z k 0 U))) _ _ rfl ⟨?_,uj hI.val⟩;rw[nL,nz D (show 11≠10 by decide),d11];exact J.made
  .have h0:=h0.out
   have ax:=fe C hI.val E 6 10;have au:=fe C hI.val E 21 8;simp only[Bw]at ax au;have d10:=E 10 mX mZ;have J:=hI.nP;rw[d10,hd]at J;have hB:=J.bk rfl;have⟨⟨z0,aG,aH,z3,z4,z5,aI⟩,f0,f1,f2,f3,f4,aJ,aK⟩:=pW hB;go_simp;rw[Be];refine N jw _ _ rfl ⟨?_,uj hI.val⟩;rw[nz D (show 10≠11 by decide),d10,nL];exact J.put h0
  have aB:=fe C hI.val E 22 9;rotate_left
  all_goals
   try simp only[Bw]at*
   go_simp;exact N _ _ _ rfl ⟨hI.nP,uj hI.val⟩
 .intro D vs w aa hI
  have E:=hI.nP;rw[aa 10 mX]at E;rw[aa 11 mX]at E;have q:=ae vs w E;rw[oD hI.val aa];dsimp+instances only[Ho,cO,cL,cR,cB,Tryz.f36];exact qf
end
noncomputable def Hq:List kC:=cO (cL (cR (cR (cR (cR (cB Tryz.f36))))))
section
variable (g r k:Nat)(c:nU)(x:RC)(nm tx:An)(li:Bool)(oi:Option j4)(ni ci:Nat)(w0:K)(fn:FuncId)(T:An)(er:Int)
def yj:Nat->iQ
 |0=> mG (O (Z r 0 U))
 |1=> mG (O (Z r 0 U))
 |2=> mG (O (Z r 8 U))
 |3=> mG (O (Z r 8 U))
 |4=> .func (.func fn) #[mI #[V X c.dep,V X c.oo]] #[]
 |5=> mG (O (Z k 3 U))
 |6=> mI #[V X x.k,V X x.z,G x.ou x.nu x.cu,V X x.tl]
 |7=> mG (O (Z g 1 U))
 |8=> mI #[H tx,mH li,G oi ni ci]
 |9=> mJ #[H T,V X er]
 |10=> mJ #[H T,V X er]
 |11=> H T
 |12=> V X er
 |13=> H T
 |14=> V X er
 |_=>jw
structure a11(D:Nat->Bool)(vs:Nat->iQ)(w:K):Prop where
 nP:V3 g k #[H nm,H tx,mH li,G oi ni ci] x w0 w
 val:∀j,(u)=u->D j=u->vs j=yj g r k c x tx li oi ni ci fn T er j
variable {g r k c x nm tx li oi ni ci w0 fn T er}
def a13(h:a11 g r k c x nm tx li oi ni ci w0 fn T er D vs w){i:Nat}(hi:True)(A:V3 g k #[H nm,H tx,mH li,G oi ni ci] x w0 w->V3 g k #[H nm,H tx,mH li,G oi ni ci] x w0 w'):a11 g r k c x nm tx li oi ni ci w0 fn T er (zR D i) (zS vs i (yj g r k c x tx li oi ni ci fn T er i)) w':=by
 refine⟨?_,uj h.val⟩;exact A h.nP
def a4I{id:Nat}(ht0:a0.tmps.getD 0 jw=mG (O (Z r 0 U)))(Kr:∀W,V3 g k #[H nm,H tx,mH li,G oi ni ci] x w0 W->W.cell? (Z r 8 U)=O (.func (.func fn) #[mI #[V X c.dep,V X c.oo]] #[]))(y8:a0.tmps.getD 6 jw=mG (O (Z k 0 U)))(ht3:a0.tmps.getD 3 jw=mG (O (Z g 0 U)))(hput:∀W,V3 g k #[H nm,H tx,mH li,G oi ni ci] x w0 W->iW iN fn #[mI #[V X c.dep,V X c.oo],mI #[V X x.k,V X x.z,G x.ou x.nu x.cu,V X x.tl],mI #[H tx,mH li,G oi ni ci]] W (sw T er W))(hcf:∀a b d W,lJ iN (callFunc fn #[a,b,d]) W=.ok (.enter fn #[a,b,d]) W)(hsz:a0.tmps.size=59)(hI0:∀vs:Nat->iQ,(λw=>V3 g k #[H nm,H tx,mH li,G oi ni ci] x w0 w) ws.drew)(J:∀(vs:Nat->iQ) (w:K),V3 g k #[H nm,H tx,mH li,G oi ni ci] x w0 w->Q .normal {a0 with tmps:=vG a0.tmps [(27,mG (O (Z r 0 U))),(28,mG (O (Z r 0 U))),(29,mG (O (Z r 8 U))),(30,mG (O (Z r 8 U))),(31,.func (.func fn) #[mI #[V X c.dep,V X c.oo]] #[]),(32,mG (O (Z k 3 U))),(33,mI #[V X x.k,V X x.z,G x.ou x.nu x.cu,V X x.tl]),(34,mG (O (Z g 1 U))),(35,mI #[H tx,mH li,G oi ni ci]),(36,mJ #[H T,V X er]),(26,mJ #[H T,V X er]),(37,H T),(38,V X er),(8,H T),(9,V X er)]} w):
  (jZ id Hq.toArray u).wp iN Q a0 ws:=by
 refine nJ 15 59 (a11 g r k c x nm tx li oi ni ci w0 fn T er) mZ hsz mZ (.inl rfl) mZ ?_ ?_ ?_;.exact qg
 .refine rR λA ak=> ?_
  clear hI0 J hsz;replace ht0:=Y ht0;replace Kr:=Y Kr;replace y8:=Y y8;replace ht3:=Y ht3;replace hput:=Y hput;replace hcf:=Y hcf;dsimp+instances only[Hq,cO,cL,cR,cB,Tryz.f36];simp only[jm,jI,qU];refine⟨?_,?_,?_,?_,?_,?_,?_,?_,?_,?_,?_,?_,?_,?_,?_,trivial⟩<;>(intro D vs a w aq hI hd E ax C N;subst ak;dsimp+instances only[Hq,cO,cL,cR,cB,Tryz.f36]);have aG:=(C 0 mX).trans ht0.out;rotate_left;have ay:=fe C hI.val E 27 0;rotate_left;have az:=fe C hI.val E 28 1;rotate_left;have aA:=fe C hI.val E 29 2;rotate_left;have Kr:=Kr.out;have aa:=fe C hI.val E 30 3;simp only[yj]at aa;have c0:=Kr w hI.nP;rotate_left;have aH:=(C 6 mX).trans y8.out;rotate_left;have ae:=fe C hI.val E 32 5;simp only[yj]at ae;have⟨⟨c0,c1,c2,c3,c4,c5,c6⟩,_⟩:=pW hI.nP.rw_;rotate_left;have e3:=(C 3 mX).trans ht3.out;rotate_left;have af:=fe C hI.val E 34 7;simp only[yj]at af;have hB:=hI.nP.ms;have c1:=hB.c1;have c2:=hB.c2;have c3:=hB.c3;clear hB;rotate_left
  .have hput:=hput.out
   have hcf:=hcf.out;have ag:=fe C hI.val E 31 4;have ah:=fe C hI.val E 33 6;have ai:=fe C hI.val E 35 8;simp only[yj]at ag ah ai;have au:=hput w hI.nP;clear hput;rw[Ax (by rfl)];go_simp;refine pG au λaI hb=> ?_
   exact N (yj g r k c x tx li oi ni ci fn T er 9) _ _ rfl (a13 hI (i:=9) mX λh=>h.up hb)
  have aB:=fe C hI.val E 36 9;rotate_left;have aj:=fe C hI.val E 26 10;rotate_left;have aj:=fe C hI.val E 26 10;rotate_left;have aD:=fe C hI.val E 37 11;rotate_left;have aF:=fe C hI.val E 38 12;rotate_left
  all_goals
   try simp only[yj]at*
   go_simp;exact N _ _ _ rfl ⟨hI.nP,uj hI.val⟩
 .intro D vs w av hI
  have E:=hI.nP;have q:=J vs w E;rw[oD hI.val av];dsimp+instances only[Hq,cO,cL,cR,cB,Tryz.f36];exact qf
end
def NP(c:nU)(o:Option Row)(T:An)(er:Nat):tJ×Nat:=match o with
 |none=>(⟨0,⟨#[]⟩,⟨#[]⟩⟩,11)
 |some x=>if er≠0 then(⟨0,⟨#[]⟩,⟨#[]⟩⟩,er)else if c.fmt=1 then(⟨0,x.name,T⟩,0)else(⟨x.id,⟨#[]⟩,T⟩,0)
def Gh(c:nU):FuncId:=if c.fmt=1 then 85 else 83
def a14(c:nU):∀a b d W,lJ iN (callFunc (Gh c) #[a,b,d]) W=.ok (.enter (Gh c) #[a,b,d]) W:=by
 unfold Gh;split<;>exact λ_ _ _ _=>rfl
def a15(c:nU):Jb c=.func (.func (Gh c)) #[mI #[V X c.dep,V X c.oo]] #[]:=by
 unfold Jb Gh;split<;>rfl
def TM(r bn bi:Nat)(c:nU)(L:List oJ)(nm tx:An)(li:Bool)(oi:Option j4)(ni ci:Nat)(T:An)(er:Nat)(w:K)(h:pY r bn bi c L w)(hn:nm.size<=jd)(hput:∀x,(L.find? λx=>As (x.r.name=nm))=O x->∀W,iR w.heap.size w W->iW iN (Gh c) #[mI #[V X c.dep,V X c.oo],mI #[V X x.r.ty.lab.kind,V X x.r.ty.lab.size,G x.ou x.r.ty.sub.length x.cu,V X x.r.ty.lab.tail],mI #[H tx,mH li,G oi ni ci]] W (sw T er W)):
  iW iN 36 #[mG (O (Z r 0 U)),mI #[H nm,H tx,mH li,G oi ni ci]] w λe w'=>e=mK (mJ #[mI #[V mP (NP c ((L.find? λx=>As (x.r.name=nm)).map λx=>x.r) T er).1.id,H (NP c ((L.find? λx=>As (x.r.name=nm)).map λx=>x.r) T er).1.name,H (NP c ((L.find? λx=>As (x.r.name=nm)).map λx=>x.r) T er).1.body],V X (NP c ((L.find? λx=>As (x.r.name=nm)).map λx=>x.r) T er).2])/\iR w.heap.size w w':=by
 obtain⟨g,hg⟩:=o7 w;have aY:=h.lt3;have aG:R (∀W,(w.alloc (mM #[H nm,H tx,mH li,G oi ni ci] yA)).alloc (mM #[V mP 0,H ⟨#[]⟩,H ⟨#[]⟩] pR)=W->EnB g r bn bi c L #[H nm,H tx,mH li,G oi ni ci] w W/\W.heap.size=g+2):=Y λW ae=>by
  subst ae;have a1:=(iT w.heap.size w).alloc (iP _) (mM #[H nm,H tx,mH li,G oi ni ci] yA);have a2:=a1.alloc ny (mM #[V mP 0,H ⟨#[]⟩,H ⟨#[]⟩] pR);have aN:=mY.new (w.alloc (mM #[H nm,H tx,mH li,G oi ni ci] yA)) #[V mP 0,H ⟨#[]⟩,H ⟨#[]⟩] pR;rw[show(w.alloc (mM #[H nm,H tx,mH li,G oi ni ci] yA)).heap.size=g+1 by simp[hg]]at aN;exact⟨⟨h.below a2,(hg▸mY.new w _ _:mY _ g _ _).alloc _,aN,hg▸a2,hg,I⟩,by simp[hg]⟩
 have az:R (∀W,pY r bn bi c L W->_):=Y λW ae=>ae.look nm hn
 have aI:=Y h;have⟨aJ,ak,af⟩:=yM L λx=>As (x.r.name=nm)
 rw[ak]at az;unfold RC.cs at az;have⟨o,ho⟩:=nE ((L.find? λx=>As (x.r.name=nm)));rw[ho]at az hput af|-;have aK:=Y hput;have aZ:=Y af;have aO:=Y (a14 c);have aP:=Y (a15 c);have⟨E,aL⟩:=nE (NP c (o.map λx=>x.r) T er);have aB:=Y aL;rw[aL];obtain⟨⟨JZ,au,av⟩,ax⟩:=E;rw[hg];dsimp only;clear h hn hput ho ak af aL aY;go_in;go_upto_region 3 with fail;have⟨hI,aQ⟩:=aG.out _ rfl;generalize (w.alloc _).alloc _=w1 at*;have aA:=Y (iU hI aQ);clear aG hI aQ;refine a4H (g:=g) (r:=r) (bn:=bn) (bi:=bi) (c:=c) (L:=L) (nm:=nm) (tx:=tx) (li:=li) (oi:=oi) (ni:=ni) (ci:=ci) (w0:=w) (k:=g+2) (b:=o.isSome) (x:=aJ) (ht0:=by rfl) (ht3:=by rfl) (hl:=az.out) (h0:=aI.out) (hsz:=by rfl) (hI0:=λ_=>⟨aA.1.below (nN w1),by simpa using aA.2,(λh=>by cases h),I⟩) ?_;intro vs ag hF;have J:=Y (iU hF.b (iU (hF.bk rfl:mY ag (g+2) aJ.cs GN) (show ag.heap.size=g+3 by simpa using hF.sz)));clear hF aA az;simp only[vG,iX,jg,jf];have⟨f0,f1,f2⟩:=J.1.rs.f3;have z0:=J.1.rs.cell 0;have aD:=J.1.rs.cell 1;have aF:=J.1.rs.cell 2;simp only[zf3,ji,jb,jc]at z0 aD aF;cases o with
 |none=>
  have N:R (JZ=0/\au=⟨#[]⟩/\av=⟨#[]⟩/\ax=11):=Y (by have:=aB.out;simp only[NP,Option.map]at this;injection this with a b;injection a with a1 a2 a3;exact⟨a1.symm,a2.symm,a3.symm,b.symm⟩);go_wp2_with fail;have hbk:mY (((ag.setCell (Z (g+1) 0 U) (V mP 0)).setCell (Z (g+1) 1 U) (H ⟨#[]⟩)).setCell (Z (g+1) 2 U) (H ⟨#[]⟩)) (g+1) #[V mP 0,H ⟨#[]⟩,H ⟨#[]⟩] pR:=((J.1.rs.set 0 _).set 1 _).set 2 _;have⟨ah,ai,aj⟩:=hbk.a3;have A:iR g w (((ag.setCell (Z (g+1) 0 U) (V mP 0)).setCell (Z (g+1) 1 U) (H ⟨#[]⟩)).setCell (Z (g+1) 2 U) (H ⟨#[]⟩)):=((J.1.pV.setCell (p:=(Z (g+1) 0 U)) (jO g) _).setCell (p:=(Z (g+1) 1 U)) (jO g) _).setCell (p:=(Z (g+1) 2 U)) (jO g) _;generalize ((ag.setCell (Z (g+1) 0 U) _).setCell (Z (g+1) 1 U) _).setCell (Z (g+1) 2 U) _=aM at*;refine iY (v:=mJ #[mI #[V mP 0,H ⟨#[]⟩,H ⟨#[]⟩],V X 11]) (by simp[jv,Tryz.results36,go_sem,ah,ai,aj]) rfl ⟨?_,A⟩;obtain⟨rfl,rfl,rfl,rfl⟩:=N.out;rfl
 |some x=>
  have ak:aJ=x.rc:=aZ.out;subst ak;have Kr:∀W,V3 g (g+2) #[H nm,H tx,mH li,G oi ni ci] x.rc w W->W.cell? (Z r 8 U)=O (.func (.func (Gh c)) #[mI #[V X c.dep,V X c.oo]] #[]):=λW ae=>by
   have hB:=(aI.below (hg.symm▸ae.pV)).rg.cell 8;rw[<-aP.out];exact hB
  have aR:=Y Kr;clear Kr;go_upto_region 6 with fail;have aS:V3 g (g+2) #[H nm,H tx,mH li,G oi ni ci] x.rc w ag.drew:=V3.up ⟨J.1.pV,J.1.ms,J.1.rs,J.2.1⟩ (nN ag);have aH:=Y (λ(W:K) (ae:V3 g (g+2) #[H nm,H tx,mH li,G oi ni ci] x.rc w W)=>aK.out x rfl W (hg.symm▸ae.pV));refine a4I (g:=g) (r:=r) (k:=g+2) (c:=c) (x:=x.rc) (nm:=nm) (tx:=tx) (li:=li) (oi:=oi) (ni:=ni) (ci:=ci) (w0:=w) (fn:=Gh c) (T:=T) (er:=er) (ht0:=by rfl) (y8:=by rfl) (ht3:=by rfl) (Kr:=aR.out) (hput:=aH.out) (hcf:=aO.out) (hsz:=by rfl) (hI0:=λ_=>aS) ?_;intro bB aa aU;have C:=Y aU;clear aU aS J aH f0 f1 f2 z0 aD aF;simp only[vG,iX,jg,jf];have⟨f0,f1,f2⟩:=C.rs.f3;have z0:=C.rs.cell 0;have aD:=C.rs.cell 1;have aF:=C.rs.cell 2;have c0:=(aI.below (hg.symm▸C.pV)).rg.cell 0;have⟨⟨aV,aW,aX,bg,bq,bu,bz⟩,_⟩:=pW C.rw_;simp only[zf3,ji,jb,jc]at z0 aD aF c0;unfold oJ.rc at aV aW aX;dsimp only at aV aW aX;clear bg bq bu bz;by_cases he:er=0
  .have bA:((er:Int) !=0)=M:=by simp[he]
   by_cases ay:c.fmt=1
   .have t1:(c.fmt==1)=u:=by simp[ay]
    have N:R (JZ=0/\au=x.r.name/\av=T/\ax=0):=Y (by have:=aB.out;simp only[NP,Option.map]at this;rw[At (by simp[he]),Ax ay]at this;injection this with a b;injection a with a1 a2 a3;exact⟨a1.symm,a2.symm,a3.symm,b.symm⟩);clear ay;go_wp2_with fail;have hbk:mY (((aa.setCell (Z (g+1) 0 U) (V mP 0)).setCell (Z (g+1) 1 U) (H x.r.name)).setCell (Z (g+1) 2 U) (H T)) (g+1) #[V mP 0,H x.r.name,H T] pR:=((C.rs.set 0 _).set 1 _).set 2 _;have⟨ah,ai,aj⟩:=hbk.a3;have A:iR g w (((aa.setCell (Z (g+1) 0 U) (V mP 0)).setCell (Z (g+1) 1 U) (H x.r.name)).setCell (Z (g+1) 2 U) (H T)):=((C.pV.setCell (p:=(Z (g+1) 0 U)) (jO g) _).setCell (p:=(Z (g+1) 1 U)) (jO g) _).setCell (p:=(Z (g+1) 2 U)) (jO g) _;generalize ((aa.setCell (Z (g+1) 0 U) _).setCell (Z (g+1) 1 U) _).setCell (Z (g+1) 2 U) _=aM at*;refine iY (v:=mJ #[mI #[V mP 0,H x.r.name,H T],V X 0]) (by simp[jv,Tryz.results36,go_sem,ah,ai,aj]) rfl ⟨?_,A⟩;obtain⟨rfl,rfl,rfl,rfl⟩:=N.out;rfl
   .have t1:(c.fmt==1)=M:=by simp[ay]
    have N:R (JZ=x.r.id/\au=⟨#[]⟩/\av=T/\ax=0):=Y (by have:=aB.out;simp only[NP,Option.map]at this;rw[At (by simp[he]),At ay]at this;injection this with a b;injection a with a1 a2 a3;exact⟨a1.symm,a2.symm,a3.symm,b.symm⟩);clear ay;go_wp2_with fail;have hbk:mY (((aa.setCell (Z (g+1) 0 U) (V mP x.r.id)).setCell (Z (g+1) 1 U) (H ⟨#[]⟩)).setCell (Z (g+1) 2 U) (H T)) (g+1) #[V mP x.r.id,H ⟨#[]⟩,H T] pR:=((C.rs.set 0 _).set 1 _).set 2 _;have⟨ah,ai,aj⟩:=hbk.a3;have A:iR g w (((aa.setCell (Z (g+1) 0 U) (V mP x.r.id)).setCell (Z (g+1) 1 U) (H ⟨#[]⟩)).setCell (Z (g+1) 2 U) (H T)):=((C.pV.setCell (p:=(Z (g+1) 0 U)) (jO g) _).setCell (p:=(Z (g+1) 1 U)) (jO g) _).setCell (p:=(Z (g+1) 2 U)) (jO g) _;generalize ((aa.setCell (Z (g+1) 0 U) _).setCell (Z (g+1) 1 U) _).setCell (Z (g+1) 2 U) _=aM at*;refine iY (v:=mJ #[mI #[V mP x.r.id,H ⟨#[]⟩,H T],V X 0]) (by simp[jv,Tryz.results36,go_sem,ah,ai,aj]) rfl ⟨?_,A⟩;obtain⟨rfl,rfl,rfl,rfl⟩:=N.out;rfl
  .have bA:((er:Int) !=0)=u:=nk
   have N:R (JZ=0/\au=⟨#[]⟩/\av=⟨#[]⟩/\ax=er):=Y (by have:=aB.out;simp only[NP,Option.map]at this;rw[Ax he]at this;injection this with a b;injection a with a1 a2 a3;exact⟨a1.symm,a2.symm,a3.symm,b.symm⟩);go_wp2_with fail;have hbk:mY (((aa.setCell (Z (g+1) 0 U) (V mP 0)).setCell (Z (g+1) 1 U) (H ⟨#[]⟩)).setCell (Z (g+1) 2 U) (H ⟨#[]⟩)) (g+1) #[V mP 0,H ⟨#[]⟩,H ⟨#[]⟩] pR:=((C.rs.set 0 _).set 1 _).set 2 _;have⟨ah,ai,aj⟩:=hbk.a3;have A:iR g w (((aa.setCell (Z (g+1) 0 U) (V mP 0)).setCell (Z (g+1) 1 U) (H ⟨#[]⟩)).setCell (Z (g+1) 2 U) (H ⟨#[]⟩)):=((C.pV.setCell (p:=(Z (g+1) 0 U)) (jO g) _).setCell (p:=(Z (g+1) 1 U)) (jO g) _).setCell (p:=(Z (g+1) 2 U)) (jO g) _;generalize ((aa.setCell (Z (g+1) 0 U) _).setCell (Z (g+1) 1 U) _).setCell (Z (g+1) 2 U) _=aM at*;refine iY (v:=mJ #[mI #[V mP 0,H ⟨#[]⟩,H ⟨#[]⟩],V X er]) (by simp[jv,Tryz.results36,go_sem,ah,ai,aj]) rfl ⟨?_,A⟩;obtain⟨rfl,rfl,rfl,rfl⟩:=N.out;rfl
def V4(W:K)(b:Nat)(x y z:iQ):K:=((W.setCell (Z b 0 U) x).setCell (Z b 1 U) y).setCell (Z b 2 U) z
def a18(W:K)(b:Nat)(x y z:iQ):((W.setCell (Z b 0 U) x).setCell (Z b 1 U) y).setCell (Z b 2 U) z=V4 W b x y z:=rfl
def Yk{b:Nat}{A C E:iQ}(h:mY W b #[x,y,z] t):mY (V4 W b A C E) b #[A,C,E] t:=((h.set 0 A).set 1 C).set 2 E
def Gi{B b:Nat}(h:iR B w0 W)(hb:B<=b):iR B w0 (V4 W b x y z):=
 ((h.setCell (p:=(Z b 0 U)) hb x).setCell (p:=(Z b 1 U)) hb y).setCell (p:=(Z b 2 U)) hb z
structure TN(Bs:K->Prop)(lim:Nat)(x y z:iQ)(da ds:Bool)(va:iQ)(W:K):Prop where
 bs:Bs W
 al:da=u->∃b,va=mG (O (Z b 0 U))/\lim<=b/\mY W b (if ds=u then#[x,y,z]else zf3) pR
 lt:lim<=W.heap.size
def V5(h:p:=by
 refine⟨qP _ _ h.bs (hb.mono h.lt),λhd=> ?_,jk h.lt hb.size⟩;have⟨b,e,hl,hB⟩:=h.al hd;exact⟨b,e,hl,a7 hb hB hB.lt⟩):p:=h
def TN.below{da ds:Bool}{A:K}(qP:∀W A,Bs W->iR lim W A->Bs A)(h:TN Bs lim x y z da ds va W)(hb:iR W.heap.size W A):TN Bs lim x y z da ds va A:=by
 exact V5
def TN.made(qP:∀W A,Bs W->iR lim W A->Bs A)(h:TN Bs lim x y z M M va W):TN Bs lim x y z u M (mG (O (Z W.heap.size 0 U))) (W.alloc (mM zf3 pR)):=
 ⟨qP _ _ h.bs ((iT lim W).alloc h.lt _),λ_=>⟨_,rfl,h.lt,mY.new W zf3 pR⟩,by have:=h.lt;simp;omega⟩
def TN.fill(qP:∀W A,Bs W->iR lim W A->Bs A)(h:TN Bs lim x y z u M va W):∃b,va=mG (O (Z b 0 U))/\mY W b zf3 pR/\TN Bs lim x y z u u va (V4 W b x y z):=by
 have⟨b,e,hl,hB⟩:=h.al rfl;have hB:=hB;exact⟨b,e,hB,qP _ _ h.bs (Gi (iT lim W) hl),λ_=>⟨b,e,hl,Yk hB⟩,jk h.lt (Gi (iT lim W) hl).size⟩
noncomputable def NQ:List kC:=cO (cL (cR (cR (cB Tryz.f15))))
section
variable (g sb r:Nat)(nm tx:An)(li:Bool)(oi:Option j4)(ni ci:Nat)(F:tJ)(er:Int)(lim:Nat)(Bs:K->Prop)
def A8:Nat->iQ
 |0=> mG (O (Z sb 0 U))
 |1=> mG (O (Z sb 0 U))
 |2=> mG (O (Z sb 0 U))
 |3=> mG (O (Z r 0 U))
 |4=> mI #[H nm,H tx,mH li,G oi ni ci]
 |5=> mJ #[mI #[V mP F.id,H F.name,H F.body],V X er]
 |6=> mJ #[mI #[V mP F.id,H F.name,H F.body],V X er]
 |7=> mI #[V mP F.id,H F.name,H F.body]
 |8=> V X er
 |11=> V X er
 |_=>jw
structure a7F(D:Nat->Bool)(vs:Nat->iQ)(w:K):Prop where
 nP:TN Bs lim (V mP F.id) (H F.name) (H F.body) (D 9) (D 10) (vs 9) w
 val:∀j,(j !=9)=u->D j=u->vs j=A8 sb r nm tx li oi ni ci F er j
variable {g sb r nm tx li oi ni ci F er lim Bs}
def a4J(h:a7F sb r nm tx li oi ni ci F er lim Bs D vs w){i:Nat}(hi:i≠9/\i≠10)(A:TN Bs lim (V mP F.id) (H F.name) (H F.body) (D 9) (D 10) (vs 9) w->TN Bs lim (V mP F.id) (H F.name) (H F.body) (D 9) (D 10) (vs 9) w'):a7F sb r nm tx li oi ni ci F er lim Bs (zR D i) (zS vs i (A8 sb r nm tx li oi ni ci F er i)) w':=by
 refine⟨?_,uj h.val⟩;rw[nz D (show 9≠i by omega)];rw[nz D (show 10≠i by omega)];rw[nM vs (A8 sb r nm tx li oi ni ci F er i) (show 9≠i by omega)];exact A h.nP
def a7G{id:Nat}(ht0:a0.tmps.getD 0 jw=mG (O (Z sb 0 U)))(hb0:∀W,Bs W->W.cell? (Z sb 0 U)=O (mG (O (Z r 0 U))))(ht3:a0.tmps.getD 3 jw=mG (O (Z g 0 U)))(Yv:∀W,Bs W->mY W g #[H nm,H tx,mH li,G oi ni ci] yA)(qP:∀W N,Bs W->iR lim W N->Bs N)(henc:∀W,Bs W->iW iN 36 #[mG (O (Z r 0 U)),mI #[H nm,H tx,mH li,G oi ni ci]] W λe N=>e=mK (mJ #[mI #[V mP F.id,H F.name,H F.body],V X er])/\iR W.heap.size W N)(hsz:a0.tmps.size=44)(hI0:∀vs:Nat->iQ,(λw=>TN Bs lim (V mP F.id) (H F.name) (H F.body) M M (vs 9) w) ws.drew)(av:∀(vs:Nat->iQ) (w:K),TN Bs lim (V mP F.id) (H F.name) (H F.body) u u (vs 9) w->Q .normal {a0 with tmps:=vG a0.tmps [(12,mG (O (Z sb 0 U))),(13,mG (O (Z sb 0 U))),(14,mG (O (Z sb 0 U))),(15,mG (O (Z r 0 U))),(16,mI #[H nm,H tx,mH li,G oi ni ci]),(17,mJ #[mI #[V mP F.id,H F.name,H F.body],V X er]),(11,mJ #[mI #[V mP F.id,H F.name,H F.body],V X er]),(18,mI #[V mP F.id,H F.name,H F.body]),(19,V X er),(6,vs 9),(7,V X er)]} w):
  (jZ id NQ.toArray u).wp iN Q a0 ws:=by
 refine nJ 12 44 (a7F sb r nm tx li oi ni ci F er lim Bs) mZ hsz mZ (.inl rfl) mZ ?_ ?_ ?_;.exact qg
 .refine rR λA ax=> ?_
  replace ht0:=Y ht0;replace hb0:=Y hb0;replace ht3:=Y ht3;replace Yv:=Y Yv;replace qP:=Y qP;replace henc:=Y henc;dsimp+instances only[NQ,cO,cL,cR,cB,Tryz.f15];simp only[jm,jI,qU];refine⟨?_,?_,?_,?_,?_,?_,?_,?_,?_,?_,?_,?_,trivial⟩<;>(intro D vs a w aq hI hd E af C aa;subst ax;dsimp+instances only[NQ,cO,cL,cR,cB,Tryz.f15]);have aI:=(C 0 mX).trans ht0.out;rotate_left;have aD:=fe C hI.val E 12 0;rotate_left;have aF:=fe C hI.val E 13 1;rotate_left;have hb0:=hb0.out;have ag:=fe C hI.val E 14 2;simp only[A8]at ag;have c0:=hb0 w hI.nP.bs;rotate_left;have Yv:=Yv.out;have e3:=(C 3 mX).trans ht3.out;have hB:=Yv w hI.nP.bs;have⟨c0,c1,c2,c3⟩:=hB.a4;rotate_left
  .have qP:=qP.out
   have henc:=henc.out;have ah:=fe C hI.val E 15 3;have ai:=fe C hI.val E 16 4;simp only[A8]at ah ai;have ay:=henc w hI.nP.bs;rw[Ax (by rfl)];go_simp;refine pG ay λaJ hb=> ?_
   exact aa (A8 sb r nm tx li oi ni ci F er 5) _ _ rfl (a4J hI (i:=5) mX λh=>h.below qP hb)
  have aG:=fe C hI.val E 17 5;rotate_left;have aj:=fe C hI.val E 11 6;rotate_left;have aj:=fe C hI.val E 11 6;rotate_left
  .have qP:=qP.out
   have J:=hI.nP;have d10:=af 10 mX mZ;rw[hd,d10]at J;go_simp;refine aa (mG (O (Z w.heap.size 0 U))) _ _ rfl ⟨?_,I9 rfl hI.val⟩;rw[nL,nz D (show 10≠9 by decide),o6,d10];exact J.made qP
  .have qP:=qP.out
   have d9:=E 9 mX mZ;have ak:a.tmps.getD 6 jw=vs 9:=C 6 mX;have au:=fe C hI.val E 18 7;simp only[A8]at au;have J:=hI.nP;rw[d9,hd]at J;have⟨b,ev,hB,az⟩:=J.fill qP;have ak:=ak.trans ev;have z0:=hB.cell 0;have aA:=hB.cell 1;have aB:=hB.cell 2;have⟨f0,f1,f2⟩:=hB.f3;simp only[zf3,ji,jb,jc]at z0 aA aB;go_simp;rw[a18];refine aa jw _ _ rfl ⟨?_,uj hI.val⟩;rw[nL,nz D (show 9≠10 by decide),nM vs _ (show 9≠10 by decide),d9];exact az
  have aH:=fe C hI.val E 19 8;rotate_left
  all_goals
   try simp only[A8]at*
   go_simp;exact aa _ _ _ rfl ⟨hI.nP,uj hI.val⟩
 .intro D vs w ae hI
  have E:=hI.nP;rw[ae 9 mX]at E;rw[ae 10 mX]at E;have q:=av vs w E;rw[oD hI.val ae];dsimp+instances only[NQ,cO,cL,cR,cB,Tryz.f15];exact qf
end
noncomputable def NR:List kC:=cO (cL (cR (cR (cR (cR (cB Tryz.f15))))))
section
variable (sb r fb:Nat)(c:nU)(F:tJ)(T:An)(er:Int)(Bs:K->Prop)
def A9:Nat->iQ
 |0=> mG (O (Z sb 0 U))
 |1=> mG (O (Z sb 0 U))
 |2=> mG (O (Z sb 0 U))
 |3=> mG (O (Z r 0 U))
 |4=> mI #[V X c.fmt,V mQ c.mag,V X c.oL,V X c.pq,V X c.dep,V X c.oo]
 |5=> mI #[V mP F.id,H F.name,H F.body]
 |6=> mJ #[H T,V X er]
 |7=> mJ #[H T,V X er]
 |8=> H T
 |9=> V X er
 |10=> H T
 |11=> V X er
 |_=>jw
structure a7H(D:Nat->Bool)(vs:Nat->iQ)(w:K):Prop where
 nP:Bs w
 val:∀j,(u)=u->D j=u->vs j=A9 sb r c F T er j
variable {sb r fb c F T er Bs}
def V6(h:a7H sb r c F T er Bs D vs w){i:Nat}(hi:True)(A:Bs w->Bs w'):a7H sb r c F T er Bs (zR D i) (zS vs i (A9 sb r c F T er i)) w':=by
 refine⟨?_,uj h.val⟩;exact A h.nP
def a7I{id:Nat}(ht0:a0.tmps.getD 0 jw=mG (O (Z sb 0 U)))(hb0:∀W,Bs W->W.cell? (Z sb 0 U)=O (mG (O (Z r 0 U))))(qP:∀W J,Bs W->iR W.heap.size W J->Bs J)(Yl:∀W,Bs W->iW iN 38 #[mG (O (Z r 0 U))] W λe J=>e=mK (mI #[V X c.fmt,V mQ c.mag,V X c.oL,V X c.pq,V X c.dep,V X c.oo])/\iR W.heap.size W J)(y8:a0.tmps.getD 6 jw=mG (O (Z fb 0 U)))(hbf:∀W,Bs W->mY W fb #[V mP F.id,H F.name,H F.body] pR)(hput:∀W,Bs W->iW iN 37 #[mI #[V X c.fmt,V mQ c.mag,V X c.oL,V X c.pq,V X c.dep,V X c.oo],mI #[V mP F.id,H F.name,H F.body]] W (sw T er W))(hsz:a0.tmps.size=44)(hI0:∀vs:Nat->iQ,(λw=>Bs w) ws.drew)(aj:∀(vs:Nat->iQ) (w:K),Bs w->Q .normal {a0 with tmps:=vG a0.tmps [(24,mG (O (Z sb 0 U))),(25,mG (O (Z sb 0 U))),(26,mG (O (Z sb 0 U))),(27,mG (O (Z r 0 U))),(28,mI #[V X c.fmt,V mQ c.mag,V X c.oL,V X c.pq,V X c.dep,V X c.oo]),(29,mI #[V mP F.id,H F.name,H F.body]),(30,mJ #[H T,V X er]),(23,mJ #[H T,V X er]),(31,H T),(32,V X er),(8,H T),(7,V X er)]} w):
  (jZ id NR.toArray u).wp iN Q a0 ws:=by
 refine nJ 12 44 (a7H sb r c F T er Bs) mZ hsz mZ (.inl rfl) mZ ?_ ?_ ?_;.exact qg
 .refine rR λA ak=> ?_
  replace ht0:=Y ht0;replace hb0:=Y hb0;replace qP:=Y qP;replace Yl:=Y Yl;replace y8:=Y y8;replace hbf:=Y hbf;replace hput:=Y hput;dsimp+instances only[NR,cO,cL,cR,cB,Tryz.f15];simp only[jm,jI,qU];refine⟨?_,?_,?_,?_,?_,?_,?_,?_,?_,?_,?_,?_,trivial⟩<;>(intro D vs a w aq hI hd E ax C N;subst ak;dsimp+instances only[NR,cO,cL,cR,cB,Tryz.f15]);have aF:=(C 0 mX).trans ht0.out;rotate_left;have ay:=fe C hI.val E 24 0;rotate_left;have az:=fe C hI.val E 25 1;rotate_left;have hb0:=hb0.out;have ae:=fe C hI.val E 26 2;simp only[A9]at ae;have c0:=hb0 w hI.nP;rotate_left
  .have qP:=qP.out
   have Yl:=Yl.out;have af:=fe C hI.val E 27 3;simp only[A9]at af;have aa:=Yl w hI.nP;rw[Ax (by rfl)];go_simp;refine pG aa λau hb=> ?_
   exact N (A9 sb r c F T er 4) _ _ rfl (V6 hI (i:=4) mX λh=>qP _ _ h hb)
  have hbf:=hbf.out;have aG:=(C 6 mX).trans y8.out;have hB:=hbf w hI.nP;have⟨c0,c1,c2⟩:=hB.a3;rotate_left
  .have qP:=qP.out
   have hput:=hput.out;have ag:=fe C hI.val E 28 4;have ah:=fe C hI.val E 29 5;simp only[A9]at ag ah;have aa:=hput w hI.nP;rw[Ax (by rfl)];go_simp;refine pG aa λau hb=> ?_
   exact N (A9 sb r c F T er 6) _ _ rfl (V6 hI (i:=6) mX λh=>qP _ _ h hb)
  have aA:=fe C hI.val E 30 6;rotate_left;have ai:=fe C hI.val E 23 7;rotate_left;have ai:=fe C hI.val E 23 7;rotate_left;have aB:=fe C hI.val E 31 8;rotate_left;have aD:=fe C hI.val E 32 9;rotate_left
  all_goals
   try simp only[A9]at*
   go_simp;exact N _ _ _ rfl ⟨hI.nP,uj hI.val⟩
 .intro D vs w av hI
  have E:=hI.nP;have q:=aj vs w E;rw[oD hI.val av];dsimp+instances only[NR,cO,cL,cR,cB,Tryz.f15];exact qf
end
def Gj(A:Int)(T:An)(C:Int):An×Int:=if A≠0 then(⟨#[]⟩,A)else if C≠0 then(⟨#[]⟩,C)else(T,0)
def zP.DY{ao:Nat->Prop}{r:Nat}{bv:iQ}{la tt se:Int}(h:zP w0 ao sb r bv buf nd fa la tt se W)(x:Int):zP w0 ao sb r bv buf nd fa la tt x (W.setCell (Z sb 6 U) (V X x)):=⟨h.ss.set 6 _,h.kp 6 _,h.bwp 6 _,h.lt,h.fr⟩
def Ym(ao:Nat->Prop)(sb r bn bi:Nat)(c:nU)(L:List oJ)(buf:List AC)(nd fa:Int)(nm tx:An)(li:Bool)(oi:Option j4)(ni ci:Nat)(F:tJ)(A C:Int)(T:An)(w:K)(hs:AP w ao r sb buf nd fa)(az:∀W,iR w.heap.size w W->pY r bn bi c L W)(henc:∀W,iR w.heap.size w W->iW iN 36 #[mG (O (Z r 0 U)),mI #[H nm,H tx,mH li,G oi ni ci]] W λe aK=>e=mK (mJ #[mI #[V mP F.id,H F.name,H F.body],V X A])/\iR W.heap.size W aK)(hput:A=0->∀W,iR w.heap.size w W->iW iN 37 #[mI #[V X c.fmt,V mQ c.mag,V X c.oL,V X c.pq,V X c.dep,V X c.oo],mI #[V mP F.id,H F.name,H F.body]] W (sw T C W)):
  iW iN 15 #[mG (O (Z sb 0 U)),mI #[H nm,H tx,mH li,G oi ni ci]] w λe w'=>e=mK (mJ #[H (Gj A T C).1,V X (Gj A T C).2])/\AP w' ao r sb buf nd fa/\rF ao w w':=by
 obtain⟨bv,la,tt,se,af,aL,aj,ak⟩:=hs;obtain⟨g,hg⟩:=o7 w;have aU:=Y (show zP w ao sb r bv buf nd fa la tt se w from⟨af,aL,rF.refl ao w,⟨aj,af.lt⟩,λb hb=> .inl (ak b hb)⟩);have J:=Y (iU aj ak);have aM:R (∀W,w.alloc (mM #[H nm,H tx,mH li,G oi ni ci] yA)=W->iR g w W/\mY W g #[H nm,H tx,mH li,G oi ni ci] yA/\W.heap.size=g+1):=Y λW hW=>by
  exact Vw
 have aV:=Y af;have aA:=Y henc;have aB:=Y hput;have aD:=Y az;have aW:R (sb<g):=Y (hg▸af.lt);have⟨aX,au⟩:=nE (Gj A T C);have ah:=Y au;rw[au];obtain⟨RT,aF⟩:=aX;dsimp only;go_in;go_upto_region 3 with fail;have⟨aN,aO,aP⟩:=aM.out _ rfl;generalize w.alloc _=w1 at*;have ag:=Y (iU aN (iU aO aP));have av:∀W,iR (g+1) w1 W->iR g w W:=λW hW=>ag.1.trans (hW.mono (jO g))
 have aG:∀W,iR (g+1) w1 W->mY W sb (Ga r bv nd fa la tt se) Ld:=λW hW=>a7 (av W hW) aV aW.out
 have hb0:∀W,iR (g+1) w1 W->W.cell? (Z sb 0 U)=O (mG (O (Z r 0 U))):=λW hW=>(aG W hW).cell 0
 have Yv:∀W,iR (g+1) w1 W->mY W g #[H nm,H tx,mH li,G oi ni ci] yA:=λW hW=>a7 hW ag.2.1 (jV g)
 have ax:TN (iR (g+1) w1) (g+1) (V mP F.id) (H F.name) (H F.body) M M jw w1.drew:=⟨(nN w1).mono (by rw[ag.2.2];exact iP _),(λh=>by cases h),by rw[<-ag.2.2];exact(nN w1).size⟩;have ai:=Y av;refine a7G (g:=g) (sb:=sb) (r:=r) (nm:=nm) (tx:=tx) (li:=li) (oi:=oi) (ni:=ni) (ci:=ci) (F:=F) (er:=A) (lim:=g+1) (Bs:=iR (g+1) w1) (ht0:=by rfl) (ht3:=by rfl) (hb0:=hb0) (Yv:=Yv) (qP:=λ_ _ h hb=>h.trans hb) (henc:=λW hW=>aA.out W (hg.symm▸ai.out W hW)) (hsz:=by rfl) (hI0:=λ_=>⟨ax.bs,(λh=>by cases h),ax.lt⟩) ?_;intro vs aa hF;have⟨fb,ev,aZ,aQ⟩:=hF.al rfl;have aR:zP w ao sb r bv buf nd fa la tt se aa:=aU.below (hg.symm▸ai.out aa hF.bs);have E:=Y (iU hF.bs (iU (aQ:mY aa fb #[V mP F.id,H F.name,H F.body] pR) (iU aR hF.lt)));simp only[vG,iX,jg,jf];rw[ev];by_cases aH:A=0
 .subst aH
  go_upto_region 6 with fail;have aS:∀W,iR aa.heap.size aa W->iR g w W:=λW hW=>(ai aa E.1).trans (hW.mono (by have:=E.2.2.2;omega))
  have ay:=Y aS;refine a7I (sb:=sb) (r:=r) (fb:=fb) (c:=c) (F:=F) (T:=T) (er:=C) (Bs:=iR aa.heap.size aa) (ht0:=by rfl) (y8:=by rfl) (hb0:=λW hW=>(a7 hW E.2.2.1.ss E.2.2.1.ss.lt).cell 0) (qP:=λW aK h hb=>h.trans (hb.mono h.size)) (Yl:=λW hW=>Jr r bn bi c L W (aD W (hg.symm▸ay.out W hW))) (hbf:=λW hW=>a7 hW E.2.1 E.2.1.lt) (hput:=λW hW=>aB.out rfl W (hg.symm▸ay.out W hW)) (hsz:=by rfl) (hI0:=λ_=>nN aa) ?_;intro bg bq aY;have N:=Y (E.2.2.1.below aY);simp only[vG,iX,jg,jf];by_cases aI:C=0
  .subst aI
   have ae:R (RT=T/\aF=0):=Y (by have:=ah.out;unfold Gj at this;rw[At ny,At ny]at this;injection this with a b;exact⟨a.symm,b.symm⟩);have c6:=N.ss.cell 6;have bu:=N.ss.free 6;simp only[Ga,ji,jb,jc]at c6;go_wp2;try go_returns
   refine⟨by rw[ae.1,ae.2];rfl,?_⟩;have aJ:=λx=>N.DY x
   exact⟨⟨_,_,_,_,(aJ _).ss,(aJ _).ob,J.1,J.2⟩,(aJ _).bw⟩
  .have bz:(C !=0)=u:=by simp[aI]
   have ae:R (RT=⟨#[]⟩/\aF=C):=Y (by have:=ah.out;unfold Gj at this;rw[At ny,Ax aI]at this;injection this with a b;exact⟨a.symm,b.symm⟩);go_wp2;try go_returns
   exact⟨by rw[ae.1,ae.2];rfl,⟨_,_,_,_,N.ss,N.ob,J.1,J.2⟩,N.bw⟩
 .have t1:(A !=0)=u:=by simp[aH]
  have ae:R (RT=⟨#[]⟩/\aF=A):=Y (by have:=ah.out;unfold Gj at this;rw[Ax aH]at this;injection this with a b;exact⟨a.symm,b.symm⟩);go_wp2;try go_returns
  exact⟨by rw[ae.1,ae.2];rfl,⟨_,_,_,_,E.2.2.1.ss,E.2.2.1.ob,J.1,J.2⟩,E.2.2.1.bw⟩
def a19{ao:Nat}(k:rF (λb=>ao<=b) w W)(C:ao<=w.heap.size):iR ao w W:=k.below (λc hc A=>by have A:ao<=c:=A;omega) C
def a2a(ao sb r bn bi:Nat)(c:nU)(L:List oJ)(buf:List AC)(nd fa:Int)(nm tx:An)(li:Bool)(oi:Option j4)(ni ci:Nat)(F:tJ)(A C:Int)(T:An)(w:K)(hs:yg w ao r sb buf nd fa)(hlt:ao<=sb/\ao<=w.heap.size)(E:∀W,iR ao w W->pY r bn bi c L W)(henc:∀W,iR w.heap.size w W->iW iN 36 #[mG (O (Z r 0 U)),mI #[H nm,H tx,mH li,G oi ni ci]] W λe J=>e=mK (mJ #[mI #[V mP F.id,H F.name,H F.body],V X A])/\iR W.heap.size W J)(hput:A=0->∀W,iR w.heap.size w W->iW iN 37 #[mI #[V X c.fmt,V mQ c.mag,V X c.oL,V X c.pq,V X c.dep,V X c.oo],mI #[V mP F.id,H F.name,H F.body]] W (sw T C W)):
  iW iN 15 #[mG (O (Z sb 0 U)),mI #[H nm,H tx,mH li,G oi ni ci]] w λe w'=>e=mK (mJ #[H (Gj A T C).1,V X (Gj A T C).2])/\yg w' ao r sb buf nd fa/\iR ao w w':=by
 refine(Ym _ sb r bn bi c L buf nd fa nm tx li oi ni ci F A C T w (hs.f hlt.1) (λW h=>E W (h.mono hlt.2)) henc hput).mono ?_;rintro e w' ⟨N,aa,ae⟩;exact⟨N,aa.at_,a19 ae hlt.2⟩
end
section
open Go.RowKit
def cA:nU:=⟨3,0,50,50,2,9⟩
def ym:An:=⟨#[112,105,110,103]⟩
def u8A:An:=⟨#[117,56]⟩
def eA:tV:=⟨5,ym,u8A⟩
def tyA:mW TL:=.node ⟨1,1,0⟩ []
def Ex:Row:=⟨5,ym,u8A,tyA⟩
def xA:mW IL:=.node ⟨[7],M⟩ []
def Ey:An:=⟨#[4,5,1,0,7]⟩
def b0J:wB cA [eA]=.ok [Ex]:=by rfl
def a9i:JS tyA xA 2 9=0:=by rfl
def b0K:KE xA=⟨#[7]⟩:=by rfl
def a9j:(⟨(oz (⟨#[7]⟩:An).size++[jH (4*((⟨#[7]⟩:An).size - 1))]++(⟨#[7]⟩:An).data.toList).toArray⟩:An)=⟨#[1,0,7]⟩:=by
 rw[show(⟨#[7]⟩:An).size=1 from rfl,qW 1 mX];rfl
def a2b:ED 5 ⟨#[1,0,7]⟩=Ey:=by
 unfold ED;rw[qW 5 mX];show(⟨(oz 4).toArray⟩:An)++_++_=_;rw[qW 4 mX];rfl
def a9k:(nxv (qA 50 50 Ey U).1).e=0:=by rfl
def a9l(mb:Nat):∃nd,rX cA [Ex] mb [] 0 0 Ey=([⟨ym,xA⟩],[],nd,0):=⟨_,by rfl⟩
end
end Go.Proofs.YtamfcjmhnndbdaaGreatDoor


