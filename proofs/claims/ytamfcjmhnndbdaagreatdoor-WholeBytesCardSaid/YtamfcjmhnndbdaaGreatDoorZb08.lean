/- Part 8 of the proof. -/
import Derived.Test.YtamfcjmhnndbdaaGreatDoorZb07
open Go.Value renaming agg→mI,bool→mH,int→V,pointer→mG,slice→G,string→H,tuple→mJ,ownBlock→jK,slice→jM,int→lL
open Go.Obj renaming cells→mM
open Go.IntKind renaming i64→X,u32→mQ,u64→mP,u32→kF
open Go.Ending renaming returned→mK,returned→jS
open Go.Lib renaming hid→Y,trimRightB→jW,splitN→kY
open Go.Proofs.Tryz renaming prog→iN
open Go renaming World→K,Value→iQ,Calls→iW,maxLen→jd,TypeId→jl,results→jv,undef→jw,Addr→j4,Program→j6,Oper→kC,Ending→kV,Act→lY,wpList→mq
open Go.RowKit renaming Below→iR,Hid→R,intOf→jF
open And renaming intro→iU
open List renaming replicate→jC,range→kG,length→lQ
open Go.World renaming setCell→jr,cell?→lV
open Array renaming replicate→ku
open UInt8 renaming ofNat→jH
open Go.Instr renaming index→jX
open Go.Code renaming region→jZ
open Go.Lit renaming int→lN
open Go.Act renaming put→l7
open Option renaming none→U,some→O
open Bool renaming true→u,false→M
open Go.Addr renaming mk→Z
open Decidable renaming decide→As
namespace Go.Proofs.YtamfcjmhnndbdaaGreatDoor
set_option linter.unusedVariables false
set_option linter.defProp false
set_option linter.unusedSimpArgs false
set_option maxRecDepth 100000
set_option maxHeartbeats 8000000
variable{A:List tV}{B T aE ao b bi bk bn bo br cap d er g k m n sb x:Nat}{F:Nat->Prop}{KA W:Array iQ}{L o:List Nat}{P:j6}{Q:Exit->lY->K->Prop}{S:An}{a0:lY}{ad:RS×List AC}{an:Type}{buf l lr:List AC}{c:nU}{e t:jl}{fa most nd un:Int}{held:Bool}{p:Prop}{r:RS}{rows:List Row}{w w' w0 w2 ws:K}{y:tJ×Nat}
variable {oa a:Option j4}{ops:Array kC}{st:S8}
section
open Go.RowKit
section
variable {c:nU}{rows:List Row}{id:Nat}{nm tx:An}
def a08(h:rP nm.data.toList=M):um c rows id nm tx=(11,U):=by unfold um;rw[Ax (.inr h)]
def XJ(h:(rows.find? λy=>As (y.name=nm)).isSome=u):um c rows id nm tx=(11,U):=by unfold um;rw[Ax (.inl h)]
def a4h(h0:rP nm.data.toList=u)(h:¬(rows.find? λy=>As (y.name=nm)).isSome=u)(A:(rows.find? λy=>As (y.id=id)).isSome=u):um c rows id nm tx=(1,U):=by
 unfold um;rw[At (by rw[h0];simpa using h),Ax A]
def a09(h0:rP nm.data.toList=u)(h:¬(rows.find? λy=>As (y.name=nm)).isSome=u)(A:¬(rows.find? λy=>As (y.id=id)).isSome=u)(C:wP tx.data.toList=U):um c rows id nm tx=(3,U):=by
 unfold um;rw[At (by rw[h0];simpa using h),At A,C]
def XK(h0:rP nm.data.toList=u)(h:¬(rows.find? λy=>As (y.name=nm)).isSome=u)(A:¬(rows.find? λy=>As (y.id=id)).isSome=u){t:mW TL}(C:wP tx.data.toList=O t)(E:c.fmt=1/\(mW.oI p0 t.sub&&pg t)=M):um c rows id nm tx=(12,U):=by
 unfold um;rw[At (by rw[h0];simpa using h),At A,C];dsimp only;rw[Ax E]
def VA(h0:rP nm.data.toList=u)(h:¬(rows.find? λy=>As (y.name=nm)).isSome=u)(A:¬(rows.find? λy=>As (y.id=id)).isSome=u){t:mW TL}(C:wP tx.data.toList=O t)(E:¬(c.fmt=1/\(mW.oI p0 t.sub&&pg t)=M)):um c rows id nm tx=(0,O ⟨id,nm,tx,t⟩):=by
 unfold um;rw[At (by rw[h0];simpa using h),At A,C];dsimp only;rw[At E]
end
def SN{x:mW TL}(h:ER l=O x):x.count<=1000/\pg x=u:=by
 unfold ER at h;split at h
 .split at h
  .rename_i A
   cases h;refine⟨?_,A⟩;unfold pg at A;simp only[je,bb]at A;omega
  .cases h
 .cases h
def CJ.at_(h:CJ w (G oa n cap) A){i:Nat}{e:tV}(he:A[i]? =O e):∃b off,oa=O (Z b off U)/\b<w.heap.size/\w.cell? (Z b (off+i*3) U)=O (V mP e.id)/\w.cell? (Z b (off+i*3+1) U)=O (H e.nm)/\w.cell? (Z b (off+i*3+2) U)=O (H e.tx):=by
 obtain⟨N,C,E,aa,ae,J⟩:=h;cases E;exact J i e he
def a1a(a b:An):((a.toList==b.toList)=u/\R (a=b))\/((a.toList==b.toList)=M/\R (a≠b)):=by
 by_cases h:a=b;.exact .inl ⟨str_eq h,Y h⟩
 .exact .inr ⟨Ro h,Y h⟩
def a7c(a b:Nat):(((a:Int)==(b:Int))=u/\R (a=b))\/(((a:Int)==(b:Int))=M/\R (a≠b)):=by
 by_cases h:a=b;.exact .inl ⟨by simp[h],Y h⟩
 .exact .inr ⟨qJ,Y h⟩
def VB(h:p:=by
 go_wp2_with fail;refine pG (CR _) λw2 hb2=> ?_
 have HB2:=Y (H1.trans (hb2.mono I));clear hb2;go_wp2;go_returns;exact⟨by rw[HE.out];rfl,HB2.out⟩):p:=h
def VC(h:p:=by
 refine nG mZ mZ ?_;repeat(go_big_quiet_step (fail))
 refine jT ?_;intro x;go_wp2;go_returns;exact⟨by rw[HX.out];rfl,HB3 x⟩):p:=h
def a4i(c:nU)(C:List tV)(v:iQ)(w:K)(bP:CJ w v C)(bJ:∀e,e∈C->e.nm.size<=jd/\e.tx.size<=1000)(hn:C.length<=100):
  iW iN 29 #[c.v,v] w λe w'=>e=mK (V X (GG c C))/\iR w.heap.size w w':=by
 obtain⟨oa,cap,rfl,bF,dA,_⟩:=id bP;have⟨n,aR⟩:=nE C.length;obtain⟨g,hg⟩:=o7 w;have bQ:=Y (vS (w:=w) c (t:=rG));have bK:R (∀W,w.alloc (mM #[V X c.fmt,V mQ c.mag,V X c.oL,V X c.pq,V X c.dep,V X c.oo] rG)=W->W.heap.size=g+1):=Y λW h=>by subst h;simp[hg]
 have bZ:=Y bP;have cz:=Y bJ;have bG:=Y aR;have CR:R (∀W,iW iN 39 #[mI #[V X c.fmt,V mQ c.mag,V X c.oL,V X c.pq,V X c.dep,V X c.oo]] W λe w'=>e=mK (mH (nV c))/\iR W.heap.size W w'):=Y λW=>Gc c W
 have⟨aE,aQ⟩:=nE (GG c C);have aS:R (nV c=M->aE=1):=Y λh=>by rw[<-aQ];unfold GG wB;rw[Ax h];rfl
 have aU:R (nV c=u->32<n->aE=4):=Y λh N=>by rw[<-aQ];unfold GG wB;rw[h,At mX,Ax I];rfl
 have aV:R (nV c=u->n<=32->∀er:Nat,qQ c [] C=.error er->aE=er):=Y λh N er aG=>by rw[<-aQ];unfold GG wB;rw[h,At mX,At I,aG]
 have aW:R (nV c=u->n<=32->∀rows,qQ c [] C=.ok rows->aE=0):=Y λh N rows aG=>by rw[<-aQ];unfold GG wB;rw[h,At mX,At I,aG]
 unfold nU.v nU.cs;rw[hg]at bQ|-;rw[aR]at bZ hn bF|-;rw[aQ];have⟨rc,bL⟩:=nE (nV c);rw[bL]at CR aS aU aV aW;clear bP bJ aR aQ bL;go_in;go_upto_region 1 with fail;have⟨bM,c0,c1,c2,c3,c4,c5⟩:=bQ.out _ rfl;have cK:=bK.out _ rfl;generalize w.alloc _=w1 at*;have H1:=Y bM;clear bQ bK bM;cases rc with
 |false=>
  have HE:=Y (aS rfl);exact VB
 |true=>
 by_cases cZ:32<n
 .have HE:=Y (aU rfl cZ)
  exact VB
 have ak:R (∀er:Nat,qQ c [] C=.error er->aE=er):=Y (λer h=>aV.out rfl I er h);have df:R (∀rows,qQ c [] C=.ok rows->aE=0):=Y (λrows h=>aW.out rfl I rows h);clear aV aW;clear aS aU;go_wp2_with fail;refine pG (CR _) λw2 hb2=> ?_
 have HB2:R (iR (g+1) w1 w2):=Y (cK▸hb2);clear hb2 CR c1 c2 c3 c4 c5;go_wp2;go_loopw [5] (λiv dB=>∃i rows,iv=V X (i:Nat)/\i<=n/\R (qQ c [] (C.take i)=.ok rows)/\R (iR (g+1) w1 dB)) (λiv _=>n -(jF iv).toNat);case atStart=>exact⟨0,[],rfl,I,Y (by simp[qQ]),HB2⟩
 case round=>
  obtain⟨i,rows,rfl,hi,ae,au⟩:=hrel;have aj:R (∀W,iR (g+1) w1 W->iR g w W):=Y λW h=>H1.trans (h.mono I)
  have av:R (∀W,iR (g+1) w1 W->CJ W (G oa n cap) C):=Y λW h=>bZ.below (hg.symm▸aj.out W h)
  have dF:g+1<=wr.heap.size:=by have:=au.size;omega
  by_cases ci:i<n
  .have⟨e,he⟩:∃e,C[i]? =O e:=⟨_,ja (by rw[bG.out];exact ci)⟩
   have HE:=Y he;have⟨dh,dw⟩:=cz.out e (jq he);obtain⟨b,off,rfl,hlt,dG,e1,e2⟩:=CJ.at_ (av wr au) he;have bR:=Y (KM e.nm wr dh);have aX:R (rP e.nm.data.toList=M->aE=11):=Y λh=>ak.out 11 (AL ae HE (a08 h))
   have⟨dD,aY⟩:=nE (rP e.nm.data.toList);have ax:=Y aY;rw[aY]at bR aX;clear he aY;cases dD with
   |false=>
    have HX:=Y (aX rfl);have HB3:=Y (aj wr au);go_wp2_with fail;refine bR.mono ?_;rintro e w3 ⟨rfl,rfl⟩;go_wp2;go_returns;exact⟨by rw[HX.out];rfl,HB3.out⟩
   |true=>
    clear aX;go_wp2_with fail;refine bR.mono ?_;rintro A w3 ⟨rfl,rfl⟩;go_wp2;go_loopw [6] (λkv wk=>∃k:Nat,kv=V X k/\k<=i/\R (∀j A,j<k->C[j]? =O A->A.nm≠e.nm)/\R (iR (g+1) w1 wk)) (λkv _=>i -(jF kv).toNat);case atStart=>exact⟨0,rfl,I,Y (λj A aH=>by omega),au⟩
    case round=>
     obtain⟨k,rfl,hk,af,hbk⟩:=hrel;have ag:g+1<=wr.heap.size:=by have:=hbk.size;omega
     have⟨bi,oi,FV,bS,aI,i1,i2⟩:=CJ.at_ (av wr hbk) HE.out;simp only[lS,Addr.mk.injEq]at FV;obtain⟨rfl,rfl,_⟩:=FV;by_cases bH:k<i
     .have⟨A,J⟩:∃A,C[k]? =O A:=⟨_,ja (by rw[bG.out];omega)⟩
      have⟨bk,ok,FV,E,aJ,aK,aZ⟩:=CJ.at_ (av wr hbk) J;simp only[lS,Addr.mk.injEq]at FV;obtain⟨rfl,rfl,_⟩:=FV;have dx:k<n:=I;rcases a1a A.nm e.nm with⟨bT,aL⟩|⟨bT,aL⟩
      .have HX:R (aE=11):=Y (ak 11 (AL ae HE (XJ ((Lr ae e.nm).2 ⟨k,A,bH,J,aL.out⟩))))
       clear J;have bU:∀x:qX wr,x.at_.cell? (Z b (off+k*3+1) U)=O (H A.nm):=λx=>(x.is.cell (p:=(Z b (off+k*3+1) U)) E).trans aK
       have bV:∀x:qX wr,x.at_.cell? (Z b (off+i*3+1) U)=O (H e.nm):=λx=>(x.is.cell (p:=(Z b (off+i*3+1) U)) E).trans i1
       have aa:R (∀x:qX wr,iR (g+1) w1 x.at_):=Y λx=>hbk.trans (x.is.mono ag)
       have HB3:R (∀x:qX wr,iR g w x.at_):=Y λx=>aj.out _ (aa x)
       clear aJ aK aZ aI i1 i2;go_upto_region 13 with fail;exact VC
      .have aM:R (∀q A,q<k+1->C[q]? =O A->A.nm≠e.nm):=Y λq e2 aH N=>by
        by_cases aG:q=k;.subst aG;rw[J]at N;cases N;exact aL
        .exact af q e2 I N
       clear J;have bU:∀x:qX wr,x.at_.cell? (Z b (off+k*3+1) U)=O (H A.nm):=λx=>(x.is.cell (p:=(Z b (off+k*3+1) U)) E).trans aK
       have bV:∀x:qX wr,x.at_.cell? (Z b (off+i*3+1) U)=O (H e.nm):=λx=>(x.is.cell (p:=(Z b (off+i*3+1) U)) E).trans i1
       have aa:R (∀x:qX wr,iR (g+1) w1 x.at_):=Y λx=>hbk.trans (x.is.mono ag)
       have HB3:R (∀x:qX wr,iR g w x.at_):=Y λx=>aj.out _ (aa x)
       clear aJ aK aZ aI i1 i2;go_upto_region 13 with fail;refine nG mZ mZ ?_;repeat(go_big_quiet_step (fail))
       refine jT ?_;intro x;go_wp2;go_roundw;case rel=>exact⟨k+1,by go_num,I,aM,aa x⟩
       case measure=>simp[jF];omega
     .obtain rfl:k=i:=I
      have ay:R (¬(rows.find? λy=>As (y.name=e.nm)).isSome=u):=Y λh=>by
       have⟨j,A,aH,bW,N⟩:=(Lr ae e.nm).1 h;exact af j A aH bW N
      clear af bH;go_wp2;go_loopw [7] (λkv wk=>∃j:Nat,kv=V X j/\j<=k/\R (∀q A,q<j->C[q]? =O A->A.id≠e.id)/\R (iR (g+1) w1 wk)) (λkv _=>k -(jF kv).toNat);case atStart=>exact⟨0,rfl,I,Y (λj A aH=>by omega),hbk⟩
      case round=>
       obtain⟨j,rfl,hk,af,hbk⟩:=hrel;have ag:g+1<=wr.heap.size:=by have:=hbk.size;omega
       have⟨bi,oi,FV,bS,aI,i1,i2⟩:=CJ.at_ (av wr hbk) HE.out;simp only[lS,Addr.mk.injEq]at FV;obtain⟨rfl,rfl,_⟩:=FV;by_cases bH:j<k
       .have⟨A,J⟩:∃A,C[j]? =O A:=⟨_,ja (by rw[bG.out];omega)⟩
        have⟨bk,ok,FV,E,aJ,aK,aZ⟩:=CJ.at_ (av wr hbk) J;simp only[lS,Addr.mk.injEq]at FV;obtain⟨rfl,rfl,_⟩:=FV;have dx:j<n:=I;rcases a7c A.id e.id with⟨bT,aL⟩|⟨bT,aL⟩
        .have HX:R (aE=1):=Y (ak 1 (AL ae HE (a4h ax ay ((Gb ae e.id).2 ⟨j,A,bH,J,aL.out⟩))))
         clear J;have bU:∀x:qX wr,x.at_.cell? (Z b (off+j*3) U)=O (V mP A.id):=λx=>(x.is.cell (p:=(Z b (off+j*3) U)) E).trans aJ
         have bV:∀x:qX wr,x.at_.cell? (Z b (off+k*3) U)=O (V mP e.id):=λx=>(x.is.cell (p:=(Z b (off+k*3) U)) E).trans aI
         have aa:R (∀x:qX wr,iR (g+1) w1 x.at_):=Y λx=>hbk.trans (x.is.mono ag)
         have HB3:R (∀x:qX wr,iR g w x.at_):=Y λx=>aj.out _ (aa x)
         clear aJ aK aZ aI i1 i2;go_upto_region 18 with fail;exact VC
        .have aM:R (∀q A,q<j+1->C[q]? =O A->A.id≠e.id):=Y λq e2 aH N=>by
          by_cases aG:q=j;.subst aG;rw[J]at N;cases N;exact aL
          .exact af q e2 I N
         clear J;have bU:∀x:qX wr,x.at_.cell? (Z b (off+j*3) U)=O (V mP A.id):=λx=>(x.is.cell (p:=(Z b (off+j*3) U)) E).trans aJ
         have bV:∀x:qX wr,x.at_.cell? (Z b (off+k*3) U)=O (V mP e.id):=λx=>(x.is.cell (p:=(Z b (off+k*3) U)) E).trans aI
         have aa:R (∀x:qX wr,iR (g+1) w1 x.at_):=Y λx=>hbk.trans (x.is.mono ag)
         have HB3:R (∀x:qX wr,iR g w x.at_):=Y λx=>aj.out _ (aa x)
         clear aJ aK aZ aI i1 i2;go_upto_region 18 with fail;refine nG mZ mZ ?_;repeat(go_big_quiet_step (fail))
         refine jT ?_;intro x;go_wp2;go_roundw;case rel=>exact⟨j+1,by go_num,I,aM,aa x⟩
         case measure=>simp[jF];omega
       .obtain rfl:j=k:=I
        have aN:R (¬(rows.find? λy=>As (y.id=e.id)).isSome=u):=Y λh=>by
         have⟨j,A,aH,bW,N⟩:=(Gb ae e.id).1 h;exact af j A aH bW N
        have bX:=Y (Vz e.tx wr dw);go_wp2_with fail;refine bX.mono ?_;rintro A w3 ⟨ta,bg,n3,az,er,sub,rfl,bq,_,ah,bI⟩;have HB3:R (iR (g+1) w1 w3):=Y (hbk.trans (bq.mono ag));have bu:R (∀W,w3.alloc (mM #[V X ta.kind,V X ta.size,G bg n3 az,V X ta.tail] 63)=W->iR (g+1) w1 W/\mY W w3.heap.size #[V X ta.kind,V X ta.size,G bg n3 az,V X ta.tail] 63/\nZ W (G bg n3 az) sub):=Y λW h=>by
         subst h;have a:=(iT w3.heap.size w3).alloc (iP _) (mM #[V X ta.kind,V X ta.size,G bg n3 az,V X ta.tail] 63);exact⟨HB3.trans (a.mono (by have:=bq.size;omega)),mY.new w3 _ _,Shape.nA.below ah a⟩
        clear ah bq;go_upto_region 21 with fail;have⟨aA,bz,ah⟩:=bu.out _ rfl;generalize w3.alloc _=w4 at*;have aO:=Y aA;have⟨t0,t1,dH,t3⟩:=bz.a4;have cf:w4.cell? (Z g 0 U)=O (V X c.fmt):=(aA.cell (p:=(Z g 0 U)) (jV g)).trans c0;rcases bI with⟨ai,rfl⟩|⟨ai,rfl,rfl,rfl⟩
        .have bN:wP e.tx.data.toList=O (.node ta sub):=by rw[ES];exact ai
         have⟨bA,bY⟩:=SN ai;have aP:=Y (Pz (.node ta sub) w4 (G bg n3 az) ah bA);simp only[mW.oW,mW.qm]at aP;have bB:=Y bN;have bC:g+1<=w4.heap.size:=by have:=aA.size;omega
         clear ai bN bA bY aA bz ah bu bX;by_cases aB:c.fmt=1
         .have f1:(c.fmt==1)=u:=by simp[aB]
          have dz:=Y aB;clear aB;have⟨dE,bD⟩:=nE ((mW.oI p0 sub&&pg (.node ta sub)));have bO:=Y bD;rw[bD]at aP;clear bD;cases dE with
          |false=>
           have HX:R (aE=12):=Y (ak 12 (AL ae HE (XK ax ay aN bB ⟨dz.out,bO.out⟩)));go_wp2_with fail;refine pG aP λw5 aD=> ?_
           have aF:=Y (aj _ (aO.trans (aD.mono bC)));clear aD;go_wp2;go_returns;exact⟨by rw[HX.out];rfl,aF.out⟩
          |true=>
           have bE:=Y (Lp ae HE (VA ax ay aN bB (c:=c) (by rw[show(mW.oI p0 (mW.sub (.node ta sub))&&pg (.node ta sub))=u from bO.out];simp)));go_wp2_with fail;refine pG aP λw5 aD=> ?_
           have aF:=Y (aO.trans (aD.mono bC));clear aD;go_wp2;go_roundw;case rel=>exact⟨j+1,_,by go_num,I,bE,aF⟩
           case measure=>simp[jF];omega
         .have f1:(c.fmt==1)=M:=by rw[bj];exact aB
          have bE:=Y (Lp ae HE (VA ax ay aN bB (c:=c) (λh=>aB h.1)));go_wp2;go_roundw;case rel=>exact⟨j+1,_,by go_num,I,bE,aO⟩
          case measure=>simp[jF];omega
        .have HX:R (aE=3):=Y (ak 3 (AL ae HE (a09 ax ay aN (by rw[ES];exact ai))))
         have aF:=Y (aj _ aO);clear ai aA bz ah bu bX;go_wp2;go_returns;exact⟨by rw[HX.out];rfl,aF.out⟩
  .obtain rfl:i=n:=I
   have HX:R (aE=0):=Y (df rows (by have:=ae.out;rw[<-bG.out,ky]at this;exact this));have HB3:=Y (aj wr au);go_wp2;go_returns;exact⟨by rw[HX.out];rfl,HB3.out⟩
end
section
open Go.RowKit Go.ChangeShapes Go.WideShapes Go.Deep
section
variable {an:Type}{enc:jl×iQ->an}{P:j6}{w:K}{base:Nat}{spare:Nat->Bool}{held:Bool}
def Nj{A:Array Field}{len:Nat}{d:DataW an}{p:List MemPlace}(ht:P.underlying t=O (.slice e))(he:P.underlying e=O (.struct A))(aj:oneCellFields P A=u)(aH:P.cellsOf e=A.size)(J:0<A.size)(h:DataW.Trod enc P w base spare held t (.slice a len cap) d p):
  len<=jd/\∀i,i<len->∃b off,a=O (Z b off U)/\b<w.heap.size/\
   ∀(j:Nat)(f:Field),A[j]? =O f->∃(v:iQ) (y:DataW an×List MemPlace) (n:Nat),w.cell? (Z b (off+(i*A.size+j)) U)=O v/\DataW.trod enc P w base spare held n f.type [v]=O y:=by
 obtain⟨fuel,aI⟩:=h;rcases open_slice ht aI with⟨h0,_⟩|⟨av,aJ,aK,m,n,D,aU,hcs,hb,hl,aL,ax,aV,hi⟩
 .simp[Value.cells]at h0
  exact⟨I,λi hi=>by omega⟩
 .simp[Value.cells]at hcs
  obtain⟨rfl,rfl,rfl⟩:=hcs;have aP:len<=m:=by rw[ax];split<;>omega
  have key:∀i,i<len->∀(j:Nat)(f:Field),A[j]? =O f->∃(v:iQ) (y:DataW an×List MemPlace) (n:Nat),w.cell? (av.add (i*A.size+j))=O v/\DataW.trod enc P w base spare held n f.type [v]=O y:=by
   intro i ah j f N;have⟨C,hc,ay⟩:=hi i I;rw[aH]at hc;have⟨az,aM,aQ,hy,hlen,aR,aA⟩:=DataW.trod_struct he ay;have⟨_,aS,aB⟩:=World.cells?_some hc;have⟨ho,hk⟩:=hone_of aj j f N;have aD:=(jE.1 N).1;have ae:=aB j aD;have aN:C[j]? =O (C[j]' I):=ja I;have E:=aA j f N;rw[ho,hk]at E;have af:(C.drop j).take 1=[C[j]' I]:=by
    rw[lH I];rfl
   rw[af]at E;have aF:az[j]? =O (az[j]' I):=ja I;refine⟨_,_,aM,?_,E.trans aF⟩;rw[<-Go.Deep.add_add,ae,aN]
  obtain⟨b,off,ak⟩:=av;refine⟨jk hl aL,λi ah=> ?_⟩;have aG:A[0]? =O (A[0]'J):=Array.getElem?_eq_getElem J;have⟨v,y,aW,ai,_⟩:=key 0 I 0 _ aG;have ag:ak=U:=by simpa [Addr.add]using World.cell?_spot ai
  subst ag;have aa:∀k,((Z b off U):j4).add k=(Z b (off+k) U):=λk=>by unfold Addr.add;split<;>simp_all
  refine⟨b,off,rfl,?_,λj f N=> ?_⟩
  .rcases jL b w.heap.size with au|au
   .exact au
   .simp[lV,aa,mi au]at ai
  .have⟨v,y,n1,E,aO⟩:=key i ah j f N
   rw[aa]at E;exact⟨v,y,n1,E,aO⟩
def vO{k:IntKind}{v:iQ}{y:DataW an×List MemPlace}(ht:P.underlying t=O (.int k))(h:DataW.trod enc P w base spare held n t [v]=O y):
  ∃x:Int,v=V k x/\(lN k x).wf=u:=by
 obtain⟨a,A,rfl,wa⟩:=DataW.trod_int ht h;simp at A;exact⟨a,A,wa⟩
def Ei{v:iQ}{y:DataW an×List MemPlace}(ht:P.underlying t=O .string)(h:DataW.trod enc P w base spare held n t [v]=O y):
  ∃s:An,v=H s/\s.size<=jd:=by
 obtain⟨a,A,rfl,wa⟩:=DataW.trod_string ht h;simp at A;exact⟨a,A,wa⟩
end
end
section
open Go.RowKit Go.ChangeShapes Go.WideShapes
end
section
open Go.RowKit Go.ChangeShapes Go.WideShapes Go.Deep
def a1b{enc:jl×iQ->an}{base:Nat}{A:Nat->Bool}{f0 f1 f2 f3 f4 E:Field}{cs:Array iQ}{d:DataW an}{p:List MemPlace}(ht:P.underlying t=O (.struct #[f0,f1,f2,f3,f4,E]))(N:oneCellFields P #[f0,f1,f2,f3,f4,E]=u)(af:P.cellsOf t=6)(ak:P.underlying f0.type=O (.int .i64))(e1:P.underlying f1.type=O (.int .u32))(e2:P.underlying f2.type=O (.int .i64))(e3:P.underlying f3.type=O (.int .i64))(e4:P.underlying f4.type=O (.int .i64))(e5:P.underlying E.type=O (.int .i64))(h:DataW.Trod enc P w base A held t (.agg cs) d p):∃q:nU,cs=q.cs/\q.wf:=by
 obtain⟨fuel,au⟩:=h;have⟨ag,av,aH,hy,hlen,ah,ai⟩:=DataW.trod_struct ht au;have key:∀(j:Nat)(f:Field),#[f0,f1,f2,f3,f4,E][j]? =O f->∃(v:iQ) (y:DataW an×List MemPlace),cs.toList[j]? =O v/\DataW.trod enc P w base A held av f.type [v]=O y:=by
  intro j f aa;have⟨ho,hk⟩:=hone_of N j f aa;have aI:j<6:=(jE.1 aa).1;have C:=hlen.trans af;have hcs:cs.toList.length=6:=by simpa [Value.cells]using C
  have ae:=ai j f aa;rw[ho,hk]at ae;have ax:cs.toList[j]? =O (cs.toList[j]' I):=ja I;have J:((Value.agg cs).cells.toList.drop j).take 1=[cs.toList[j]' I]:=by
   show(cs.toList.drop j).take 1=_;rw[lH I];rfl
  rw[J]at ae;have aj:ag[j]? =O (ag[j]'(by simp at ah;omega)):=ja _;exact⟨_,_,ax,ae.trans aj⟩
 have C:(Value.agg cs).cells.toList.length=6:=hlen.trans af;have hcs:cs.toList.length=6:=by simpa [Value.cells]using C
 have⟨v0,aJ,c0,t0⟩:=key 0 _ rfl;have⟨v1,aK,c1,t1⟩:=key 1 _ rfl;have⟨v2,aL,c2,ay⟩:=key 2 _ rfl;have⟨v3,aM,c3,t3⟩:=key 3 _ rfl;have⟨v4,aN,c4,t4⟩:=key 4 _ rfl;have⟨v5,aO,c5,t5⟩:=key 5 _ rfl;obtain⟨az,rfl,w0⟩:=vO ak t0;obtain⟨aA,rfl,w1⟩:=vO e1 t1;obtain⟨aB,rfl,w2⟩:=vO e2 ay;obtain⟨aD,rfl,w3⟩:=vO e3 t3;obtain⟨aF,rfl,w4⟩:=vO e4 t4;obtain⟨aG,rfl,w5⟩:=vO e5 t5;refine⟨⟨az,aA,aB,aD,aF,aG⟩,?_,w0,w1,w2,w3,w4,w5⟩;have:cs=⟨cs.toList⟩:=ny;rw[this];generalize cs.toList=l at*
 match l,hcs with
 |[a,b,c,e,f,g],_=>
  simp at c0 c1 c2 c3 c4 c5;subst c0 c1 c2 c3 c4 c5;rfl
def SQ(w:K)(a:Option j4)(len cap:Nat)(A:List tV):Prop:=
 CJ w (G a len cap) A/\∀e,e∈A->e.nm.size<=jd/\e.tx.size<=jd/\e.id<18446744073709551616
def XL{enc:jl×iQ->an}{base:Nat}{A:Nat->Bool}{len:Nat}{d:DataW an}{p:List MemPlace}(ht:P.underlying t=O (.slice e))(h:DataW.Trod enc P w base A held t (.slice a len cap) d p):len<=cap/\cap<=jd:=by
 obtain⟨fuel,C⟩:=h;rcases open_slice ht C with⟨h0,_⟩|⟨ae,E,J,m,n,D,af,hcs,hb,hl,N,aa,ag,hi⟩
 .simp[Value.cells]at h0
  unfold jd;omega
 .simp[Value.cells]at hcs
  obtain⟨rfl,rfl,rfl⟩:=hcs;exact⟨hl,N⟩
def VD{p:Nat->tV->Prop}:∀n:Nat,(∀i,i<n->∃e,p i e)->∃A:List tV,A.length=n/\∀i e,A[i]? =O e->p i e
 |0,_=>⟨[],rfl,λi e h=>by simp at h⟩
 |n+1,h=>by
  have⟨A,C,E⟩:=VD n λi hi=>h i I
  have⟨x,J⟩:=h n I;refine⟨A++[x],by simp[C],λi e he=> ?_⟩;by_cases hi:i<n
  .rw[kr I]at he
   exact E i e he
  .rw[kX I,C]at he
   have:i - n=0:=by
    rcases Nat.eq_zero_or_pos (i - n)with h|h
    .exact h
    .rw[dl nk]at he;cases he
   rw[this]at he;simp at he;subst he;rw[show i=n by omega];exact J
def XM{enc:jl×iQ->an}{base:Nat}{C:Nat->Bool}{f0 f1 f2:Field}{len:Nat}{d:DataW an}{p:List MemPlace}(ht:P.underlying t=O (.slice e))(he:P.underlying e=O (.struct #[f0,f1,f2]))(J:oneCellFields P #[f0,f1,f2]=u)(ag:P.cellsOf e=3)(ah:P.underlying f0.type=O (.int .u64))(e1:P.underlying f1.type=O .string)(e2:P.underlying f2.type=O .string)(h:DataW.Trod enc P w base C held t (.slice a len cap) d p):∃N,SQ w a len cap N:=by
 have⟨az,ae⟩:=XL ht h;have⟨hl,hi⟩:=Nj ht he J ag (show 0<3 by decide) h;have⟨N,hlen,E⟩:=VD (p:=λi e=>(∃b off,a=O (Z b off U)/\b<w.heap.size/\w.cell? (Z b (off+i*3) U)=O (V mP e.id)/\w.cell? (Z b (off+i*3+1) U)=O (H e.nm)/\w.cell? (Z b (off+i*3+2) U)=O (H e.tx))/\e.nm.size<=jd/\e.tx.size<=jd/\e.id<18446744073709551616) len λi af=>by
  have⟨b,off,ai,hb,aa⟩:=hi i af;have⟨v0,aA,aB,c0,t0⟩:=aa 0 _ rfl;have⟨v1,aD,n1,c1,t1⟩:=aa 1 _ rfl;have⟨v2,aF,n2,c2,aj⟩:=aa 2 _ rfl;obtain⟨A,rfl,w0⟩:=vO ah t0;obtain⟨ak,rfl,w1⟩:=Ei e1 t1;obtain⟨au,rfl,w2⟩:=Ei e2 aj;have aG:0<=A/\A<18446744073709551616:=by
   simp only[Lit.wf,je,bb]at w0;have av:IntKind.u64.min=0:=rfl;have ax:IntKind.u64.max=18446744073709551615:=rfl;rw[av,ax]at w0;omega
  exact⟨⟨A.toNat,ak,au⟩,⟨b,off,ai,hb,by rw[show((A.toNat:Nat):Int)=A by omega];simpa using c0,by simpa [j3]using c1,by simpa [j3]using c2⟩,w1,w2,by show A.toNat<_;omega⟩
 refine⟨N,⟨a,cap,by rw[hlen],I,ae,λi e h=>(E i e h).1⟩,λe ay=> ?_⟩;have⟨i,h⟩:=cw ay;exact(E i e h).2
end
section
open Go.RowKit
def a5m{s:jl}(T:pE P t e s){rest:List kC}{o:kC}{a:lY}(C:o.guard=U)(x y:Operand)(ho:o.op=.call {callee:=.builtin .append,args:=#[x,y],argTypes:=#[t,s]})(B:Nat)(v:iQ)(l:List AC)(S:An)(w:K)(aa:a.eval x=v)(A:nS w B e v l)(hy:a.eval y=H S)(hlen:l.length+S.size<=140737488355328)(hB:B<=w.heap.size)(h:∀v' w',nS w' B e v' (l++S.data.toList)->w.grownBy w' v.ownBlock->mq P ops Q rest (a.put o.dst v') w'):
  mq P ops Q (o::rest) a w:=by
 have⟨ae,hi,E,J,N⟩:=info_parts T.hi;refine Lib.wpList_append_own_string _ C x y t s ho B e ae T.ht T.hs hi E J N v l.length (nI l) aa A S hy yF I hB ?_;intro v' w' af ag _;refine h v' w' ?_ ag;have e1:Lib.strCells S=nI S.data.toList:=by simp[Lib.strCells,nI]
 show w'.ownsRow B e 1 v' (l++S.data.toList).length (nI (l++S.data.toList));rw[jo,pF,<-e1];have e2:S.data.toList.length=S.size:=ny;rw[e2];exact af
def Ku{s ty:jl}(T:pE P t e s)(w:K)(B:Nat)(v:iQ)(l:List AC)(S:An)(A:nS w B e v l)(hlen:l.length+S.size<=140737488355328):
  ∃v' w',(Builtin.append_ #[t,s] ty #[v,H S]).run P w=.ok v' w'/\FrV w v v':=by
 have⟨af,hi,aa,C,ae⟩:=info_parts T.hi;rcases A.2 with⟨rfl,h0⟩|⟨g,cap,ah,rfl,ak,hg,aj,ag,hsz,htake⟩
 .by_cases ag:S.size=0
  .refine⟨G U 0 0,w,?_,λb hb=>by cases hb⟩
   have ai:=Lib.run_firstCells_string (P:=P) w 1 S;rw[ag]at ai;simp[Builtin.append_,run_underlying T.ht,run_underlying T.hs,sizeOf,typeInfo,hi,C,Builtin.lenOf,ag,ai]
  .have E:=run_append_nil_string (P:=P) w t s ty e af (V .u8 0) T.ht T.hs hi aa S I I (by rw[ae];omega)
   exact⟨_,_,E,λb hb=> .inr (by cases hb;exact iP _)⟩
 .by_cases J:l.length+S.size<=cap
  .have E:=Lib.run_append_room_string (P:=P) w t s ty e af T.ht T.hs hi C g l.length cap ah hg S J I
   exact⟨_,_,E,λb hb=> .inl hb⟩
  .have N:=World.ownsRow.cells A (g:=g) rfl
   have E:=Lib.run_append_grow_string (P:=P) w t s ty e af (V .u8 0) T.ht T.hs hi aa (Z g 0 U) l.length cap (nI l) (by rw[C];simp) N S I I (by rw[ae];exact growslice_fits I I);exact⟨_,_,E,λb hb=> .inr (by cases hb;exact iP _)⟩
def Nk{s:jl}(T:pE P t e s){rest:List kC}{o:kC}{a:lY}(E:o.guard=U)(x y:Operand)(ho:o.op=.call {callee:=.builtin .append,args:=#[x,y],argTypes:=#[t,s]})(v:iQ)(l:List AC)(S:An)(w:K)(af:a.eval x=v)(A:nS w 0 e v l)(hy:a.eval y=H S)(hlen:l.length+S.size<=140737488355328)(h:∀v' w',nS w' 0 e v' (l++S.data.toList)->w.grownBy w' v.ownBlock->FrV w v v'->mq P ops Q rest (a.put o.dst v') w'):
  mq P ops Q (o::rest) a w:=by
 have⟨ag,hi,J,N,aa⟩:=info_parts T.hi;refine wpList_plain E λaq ah=> ?_
 have⟨v',w',ae,ai,aj,_⟩:=Lib.run_append_own_string (P:=P) w 0 t s o.type e ag T.ht T.hs hi J N aa v l.length (nI l) A S yF I (jB _);obtain⟨v2,w2,C,ak⟩:=Ku (ty:=o.type) T w 0 v l S A hlen;rw[ae]at C;cases C;unfold Oper.wp execOp;simp only[ho,resolve,invoke,builtin,Sem.run_bind,Sem.run_pure,lK,dc,lg,cE,af,hy,ae];refine ah _ _ (h v' w' ?_ aj ak);have e1:Lib.strCells S=nI S.data.toList:=by simp[Lib.strCells,nI]
 show w'.ownsRow 0 e 1 v' (l++S.data.toList).length (nI (l++S.data.toList));rw[jo,pF,<-e1];have e2:S.data.toList.length=S.size:=ny;rw[e2];exact ai
def rX(c:nU)(rows:List Row)(mb:Nat)(buf:List AC)(nd fa:Int)(ch:An):List JY×List AC×Int×Int:=
 if fa≠0 then([],buf,nd,fa)
 else if(((buf++ch.data.toList).length:Nat):Int)<nd then([],buf++ch.data.toList,nd,fa)
 else(λaE:a3h=>(aE.told,(buf++ch.data.toList).drop aE.at_,if aE.err=2 then(yS c ((⟨(buf++ch.data.toList).toArray⟩:An).extract aE.at_ (⟨(buf++ch.data.toList).toArray⟩:An).size):Int)else nd,if aE.err=2 then fa else(aE.err:Int)))
  (uD c rows ⟨(buf++ch.data.toList).toArray⟩ ((buf++ch.data.toList).length+1) 0 (O (mb,((MS.new 9223372036854775807).take ch.size).1)))
def AP(w:K)(F:Nat->Prop)(r sb:Nat)(buf:List AC)(nd fa:Int):Prop:=∃bv la tt se,mY w sb (Ga r bv nd fa la tt se) Ld/\nS w 0 xw bv buf/\F sb/\∀b,bv.ownBlock=O b->F b
structure a8S(c:nU)(rows:List Row)(F:Nat->Prop)(r sb mb:Nat)(buf:List AC)(nd fa:Int)(ch:An)(w:K)(lv:iQ)(Lm:List G7)(w':K):Prop where
 own:qi w' (λd=>w.heap.size<=d) lv Lm
 told:Lm.map (λy=>y.m)=(rX c rows mb buf nd fa ch).1
 ses:AP w' (λb=>F b\/w.heap.size<=b) r sb (rX c rows mb buf nd fa ch).2.1 (rX c rows mb buf nd fa ch).2.2.1 (rX c rows mb buf nd fa ch).2.2.2
 kp:rF F w w'
 ap:∃Q:Nat->Prop,qi w' Q lv Lm/\(∀d,Q d->w.heap.size<=d)/\AP w' (λb=>(F b\/w.heap.size<=b)/\¬Q b) r sb (rX c rows mb buf nd fa ch).2.1 (rX c rows mb buf nd fa ch).2.2.1 (rX c rows mb buf nd fa ch).2.2.2
structure zP(w0:K)(F:Nat->Prop)(sb r:Nat)(bv:iQ)(buf:List AC)(nd fa la tt se:Int)(W:K):Prop where
 ss:mY W sb (Ga r bv nd fa la tt se) Ld
 ob:nS W 0 xw bv buf
 bw:rF F w0 W
 lt:F sb/\sb<w0.heap.size
 fr:∀b,bv.ownBlock=O b->F b\/w0.heap.size<=b
section
variable {w0:K}{F:Nat->Prop}{sb r:Nat}{bv bv2:iQ}{buf a8T:List AC}{nd fa la tt se:Int}{W W':K}
def zP.below(h:zP w0 F sb r bv buf nd fa la tt se W)(hb:iR W.heap.size W W'):zP w0 F sb r bv buf nd fa la tt se W':=
 ⟨a7 hb h.ss h.ss.lt,h.ob.kp (rF.of (F:=λ_=>False) hb) (λ_ _ h=>h),h.bw.trans (rF.of (F:=F) hb) (λ_ _ k=>k),h.lt,h.fr⟩
def zP.ne(h:zP w0 F sb r bv buf nd fa la tt se W):∀b,bv.ownBlock=O b->b≠sb:=λb hb=>Jt h.ob hb h.ss
def zP.kp(h:zP w0 F sb r bv buf nd fa la tt se W)(i:Nat)(v:iQ):nS (W.setCell (Z sb i U) v) 0 xw bv buf:=
 h.ob.kp (rF.set (F:=λd=>d=sb) (p:=(Z sb i U)) (rF.refl _ W) (λ_=>rfl) v) λb hb e=>h.ne b hb e
def zP.bwp(h:zP w0 F sb r bv buf nd fa la tt se W)(i:Nat)(v:iQ):rF F w0 (W.setCell (Z sb i U) v):=h.bw.set (p:=(Z sb i U)) (λ_=>h.lt.1) v
def zP.p9(h:zP w0 F sb r bv buf nd fa la tt se W)(x:Int):zP w0 F sb r bv buf nd fa x tt se (W.setCell (Z sb 4 U) (V X x)):=⟨h.ss.set 4 _,h.kp 4 _,h.bwp 4 _,h.lt,h.fr⟩
def zP.b0t(h:zP w0 F sb r bv buf nd fa la tt se W)(x:Int):zP w0 F sb r bv buf nd fa la x se (W.setCell (Z sb 5 U) (V X x)):=⟨h.ss.set 5 _,h.kp 5 _,h.bwp 5 _,h.lt,h.fr⟩
def zP.grow(h:zP w0 F sb r bv buf nd fa la tt se W)(hg:W.grownBy W' bv.ownBlock)(ho:nS W' 0 xw bv2 a8T)(C:FrV W bv bv2):zP w0 F sb r bv2 a8T nd fa la tt se (W'.setCell (Z sb 1 U) bv2):=by
 have A:=oV h.ss hg h.ne;refine⟨A.set 1 _,ho.kp (rF.set (F:=λd=>d=sb) (p:=(Z sb 1 U)) (rF.refl _ W') (λ_=>rfl) bv2) (λb hb e=>Jt ho hb A e),(h.bw.trans (rF.grown (F:=λd=>bv.ownBlock=O d) hg λ_ e=>e) (λc hc E=>(h.fr c E).resolve_right I)).set (p:=(Z sb 1 U)) (λ_=>h.lt.1) bv2,h.lt,λb hb=> ?_⟩;rcases C b hb with e|e
 .exact h.fr b e
 .exact .inr (jk h.bw.size e)
def zP.upd(h:zP w0 F sb r bv buf nd fa la tt se W)(A:oO b W W')(ho:∀d,bv.ownBlock=O d->d≠b)(J:w0.heap.size<=b):zP w0 F sb r bv buf nd fa la tt se W':=by
 have k:rF (λd=>d=b) W W':=rF.mono (rF.of2 (F:=λd=>d=b) (b:=b) (q:=b) ⟨A.os,A.tape,A.output,A.size,λk hk E _=>A.block k hk λe=>E (kU e)⟩ (λ_=>rfl) (λ_=>rfl)) λ_ _ h=>h
 exact⟨k.blk h.ss (by show sb≠b;have:=h.lt.2;omega),h.ob.kp k ho,h.bw.trans k (λc hc C=>by have C:c=b:=C;omega),h.lt,h.fr⟩
end
def Qk(c:nU)(rows:List Row)(s:An):∀(n p:Nat)(mt:Option (Nat×MS)),nY (uD c rows s n p mt).mt=nY mt
 |0,p,mt=>rfl
 |n+1,p,mt=>by
  have h:=EW c rows (s.extract p s.size) mt;rcases hs:tu c rows (s.extract p s.size) mt with⟨aE,m2⟩
  rw[hs]at h;cases aE with
  |error er=>rw[AB c rows s n p mt hs];exact h
  |ok y=>rw[Bj c rows s n p mt hs];exact(Qk c rows s n _ m2).trans h
def a7d{r mb:Nat}{A:List AC}{ch:An}{w5 N:K}{C:MS}{ae:Option j4}{af:Nat}{la tt se:Int}{e:kV}(h:zA 0 sb r mb c rows C ae af A nd 0 la tt se w5 e N)(au:buf++ch.data.toList=A)(av:((MS.new 9223372036854775807).take ch.size).1=C)(hI:zP w F sb r (G ae A.length af) A nd 0 la tt se w5)(ax:IsM w5 mb C)(aF:w.heap.size<=mb):
  ∃(oa:Option j4) (cap:Nat) (Lm:List G7) (ag:iQ) (b6:List AC) (ah ai:Int) (J:MS),e=mK (G oa Lm.length cap)/\zP w F sb r ag b6 ah ai la tt se N/\IsM N mb J/\qi N (λd=>w.heap.size<=d/\ag.ownBlock≠O d) (G oa Lm.length cap) Lm/\rX c rows mb buf nd 0 ch=(Lm.map (λy=>y.m),b6,ah,ai):=by
 unfold rX;rw[At ny,au,av];unfold zA at h;by_cases aj:(A.length:Int)<nd
 .rw[Ax aj]at h|-
  obtain⟨rfl,hb⟩:=h;exact⟨U,0,[],_,A,nd,0,C,rfl,hI.below hb,a7 hb ax ax.lt,qi.nil _ _,rfl⟩
 .rw[At aj]at h|-
  obtain⟨lv,T,rfl,hk⟩:=h;have hrow:=Qk c rows ⟨A.toArray⟩ (A.length+1) 0 (O (mb,C));generalize uD c rows ⟨A.toArray⟩ (A.length+1) 0 (O (mb,C))=aE at*;obtain⟨Lm,⟨oa,cap,rfl⟩,ak,aa⟩:=hk.msgs;have⟨bo',bc',ay,az,aG,aA⟩:=hk.ses;obtain⟨told,at_,err,mt⟩:=aE;obtain⟨J,rfl⟩:∃J,mt=O (mb,J):=by
   cases mt with
   |none=>cases hrow
   |some q=>obtain⟨aH,aB⟩:=q;cases hrow;exact⟨aB,rfl⟩
  have aD:=hI.bw.size;have hlt:=hI.lt;refine⟨oa,cap,Lm,_,_,_,_,J,rfl,⟨ay,az,hI.bw.trans hk.kp (λd hd E=> ?_),hlt,λb hb=> ?_⟩,hk.mt.1,eJ ak (iP _) (λ_ _ _=>rfl) (λd _ hd=>⟨by have hd:w5.heap.size<=d/\d<T:=hd;omega,λe=>by
   have hd:w5.heap.size<=d/\d<T:=hd;rcases aA d e with e|e
   .have:=(nS.blk hI.ob d e).2;omega
   .omega⟩),?_⟩
  .rcases E with E|E|E
   .exact E▸hlt.1
   .omega
   .exact(hI.fr d E).resolve_right I
  .rcases aA b hb with e|e
   .exact hI.fr b e
   .exact .inr (jk aD (jk hk.wt e))
  .rw[aa]
noncomputable def Nl:List kC:=cO (cL (cL (cR (cL (cR (cR (cR (cB Tryz.f13))))))))
section
variable (w0:K)(F:Nat->Prop)(sb r:Nat)(bv:iQ)(buf:List AC)(nd fa la tt se:Int)(Bs:K->Prop)
def SS:Nat->iQ
 |0=> mG (O (Z sb 0 U))
 |1=> mG (O (Z sb 0 U))
 |2=> mG (O (Z sb 3 U))
 |3=> V X fa
 |4=> G U 0 0
 |5=> V X fa
 |_=>jw
structure b0u(D:Nat->Bool)(vs:Nat->iQ)(w:K):Prop where
 nP:zP w0 F sb r bv buf nd fa la tt se w/\Bs w
 val:∀j,(u)=u->D j=u->vs j=SS sb fa j
variable {w0 F sb r bv buf nd fa la tt se Bs}
def a7e{id:Nat}(ht0:a0.tmps.getD 0 jw=mG (O (Z sb 0 U)))(hsz:a0.tmps.size=58)(hI0:∀vs:Nat->iQ,(λw=>zP w0 F sb r bv buf nd fa la tt se w/\Bs w) ws.drew)(J:∀(vs:Nat->iQ) (w:K),zP w0 F sb r bv buf nd fa la tt se w/\Bs w->Q .normal {a0 with tmps:=vG a0.tmps [(18,mG (O (Z sb 0 U))),(19,mG (O (Z sb 0 U))),(20,mG (O (Z sb 3 U))),(21,V X fa),(4,G U 0 0),(5,V X fa)]} w):
  (jZ id Nl.toArray u).wp iN Q a0 ws:=by
 refine nJ 6 58 (b0u w0 F sb r bv buf nd fa la tt se Bs) mZ hsz mZ (.inl rfl) mZ ?_ ?_ ?_;.exact qg
 .refine rR λA aa=> ?_
  clear hI0 J hsz;replace ht0:=Y ht0;dsimp+instances only[Nl,cO,cL,cR,cB,Tryz.f13];simp only[jm,jI,qU];refine⟨?_,?_,?_,?_,?_,?_,trivial⟩<;>(intro D vs a w aq hI hd E ag C ae;subst aa;dsimp+instances only[Nl,cO,cL,cR,cB,Tryz.f13]);have ak:=(C 0 mX).trans ht0.out;rotate_left;have ah:=fe C hI.val E 18 0;rotate_left;have ai:=fe C hI.val E 19 1;rotate_left;have N:=fe C hI.val E 20 2;simp only[SS]at N;have hB:=hI.nP.1.ss;have c0:=hB.cell 3;simp only[Ga,ji,jb,jc]at c0;clear hB;rotate_left;rotate_left;have aj:=fe C hI.val E 21 3;rotate_left
  all_goals
   try simp only[SS]at*
   go_simp;exact ae _ _ _ rfl ⟨hI.nP,uj hI.val⟩
 .intro D vs w af hI
  have E:=hI.nP;have q:=J vs w E;rw[oD hI.val af];dsimp+instances only[Nl,cO,cL,cR,cB,Tryz.f13];exact qf
end
noncomputable def Hf:List kC:=cO (cL (cR (cR (cR (cR (cR (cR (cR (cR (cR (cR (cB Tryz.f13))))))))))))
section
variable (w0:K)(F:Nat->Prop)(sb r:Nat)(bv:iQ)(buf:List AC)(nd fa la tt se:Int)(Bs:K->Prop)(lv:iQ)
def Nn:Nat->iQ
 |0=>lv
 |1=> mG (O (Z sb 0 U))
 |2=> mG (O (Z sb 0 U))
 |3=> mG (O (Z sb 3 U))
 |4=> V X fa
 |5=>lv
 |6=> V X fa
 |_=>jw
structure a8U(D:Nat->Bool)(vs:Nat->iQ)(w:K):Prop where
 nP:zP w0 F sb r bv buf nd fa la tt se w/\Bs w
 val:∀j,(u)=u->D j=u->vs j=Nn sb fa lv j
variable {w0 F sb r bv buf nd fa la tt se Bs lv}
def a4j{id:Nat}(FY:a0.tmps.getD 7 jw=lv)(ht0:a0.tmps.getD 0 jw=mG (O (Z sb 0 U)))(hsz:a0.tmps.size=58)(hI0:∀vs:Nat->iQ,(λw=>zP w0 F sb r bv buf nd fa la tt se w/\Bs w) ws.drew)(J:∀(vs:Nat->iQ) (w:K),zP w0 F sb r bv buf nd fa la tt se w/\Bs w->Q .normal {a0 with tmps:=vG a0.tmps [(53,lv),(54,mG (O (Z sb 0 U))),(55,mG (O (Z sb 0 U))),(56,mG (O (Z sb 3 U))),(57,V X fa),(4,lv),(5,V X fa)]} w):
  (jZ id Hf.toArray u).wp iN Q a0 ws:=by
 refine nJ 7 58 (a8U w0 F sb r bv buf nd fa la tt se Bs lv) mZ hsz mZ (.inl rfl) mZ ?_ ?_ ?_;.exact qg
 .refine rR λA aa=> ?_
  clear hI0 J hsz;replace FY:=Y FY;replace ht0:=Y ht0;dsimp+instances only[Hf,cO,cL,cR,cB,Tryz.f13];simp only[jm,jI,qU];refine⟨?_,?_,?_,?_,?_,?_,?_,trivial⟩<;>(intro D vs a w aq hI hd E ag C ae;subst aa;dsimp+instances only[Hf,cO,cL,cR,cB,Tryz.f13]);have au:=(C 7 mX).trans FY.out;rotate_left;have av:=(C 0 mX).trans ht0.out;rotate_left;have ah:=fe C hI.val E 54 1;rotate_left;have ai:=fe C hI.val E 55 2;rotate_left;have N:=fe C hI.val E 56 3;simp only[Nn]at N;have hB:=hI.nP.1.ss;have c0:=hB.cell 3;simp only[Ga,ji,jb,jc]at c0;clear hB;rotate_left;have aj:=fe C hI.val E 53 0;rotate_left;have ak:=fe C hI.val E 57 4;rotate_left
  all_goals
   try simp only[Nn]at*
   go_simp;exact ae _ _ _ rfl ⟨hI.nP,uj hI.val⟩
 .intro D vs w af hI
  have E:=hI.nP;have q:=J vs w E;rw[oD hI.val af];dsimp+instances only[Hf,cO,cL,cR,cB,Tryz.f13];exact qf
end
def Lv(F:Nat->Prop)(sb r bn bi:Nat)(c:nU)(L:List oJ)(buf:List AC)(nd fa:Int)(ch:An)(w:K)(hc:nV c=u)(aV:c.wf)(hs:AP w F r sb buf nd fa)(hlen:buf.length+ch.size<=100000)(aF:∀W,rF F w W->pY r bn bi c L W/\qB W/\BC W):
  iW iN 13 #[mG (O (Z sb 0 U)),H ch] w λe w'=>∃mb lv Lm,e=mK (mJ #[lv,V X (rX c (L.map λx=>x.r) mb buf nd fa ch).2.2.2])/\a8S c (L.map λx=>x.r) F r sb mb buf nd fa ch w lv Lm w':=by
 obtain⟨bv,la,tt,se,ag,aG,aW,aX⟩:=hs;obtain⟨bo,bc,rfl⟩:=nS.form aG;obtain⟨g,hg⟩:=o7 w;have aS:=Y (show zP w F sb r (G bo buf.length bc) buf nd fa la tt se w from⟨ag,aG,rF.refl F w,⟨aW,ag.lt⟩,λb hb=> .inl (aX b hb)⟩);have aH:=Y aF;have bN:=Y (iU hc aV);have bV:=Y hlen;have c4:=ag.cell 4;have c3:=ag.cell 3;have f4:=ag.free 4;simp only[Ga,ji,jb,jc]at c3 c4;clear ag aG aW aX hlen aF hc aV;by_cases af:fa=0
 .have t0:(fa !=0)=M:=by simp[af]
  have bI:=Y af;have J:=aS.p9 0;go_in;go_upto_region 6 with fail;generalize w.setCell (Z sb 4 U) (V X 0)=w1 at*;have av:=Y J;clear J c4 c3 f4 aS;have bO:=Y (QY 9223372036854775807 w1);go_wp2_with fail;refine YC bO λw2 aa aj aI=> ?_
  obtain⟨mb,aJ⟩:=o7 w1;rw[aJ]at aI aj aa|-;have bP:=Y (Ia mb (MS.new 9223372036854775807) ch.size w2 (MS.Ok.new _ mX) aI);have ak:R (zP w F sb r (G bo buf.length bc) buf nd fa 0 tt se w2/\mb<w2.heap.size/\0<=mb/\sb<mb/\w.heap.size<=mb/\∀b,(jM bo buf.length bc).ownBlock=O b->b<mb):=Y (by
   have J:=av.out;have l:=J.lt;have df:=J.bw.size;refine⟨J.below (aJ.symm▸aa),aj,I,I,I,λb hb=>aJ▸(nS.blk J.ob b hb).2⟩)
  clear aa aj aI av bO;go_wp2_with fail;refine bP.mono ?_;unfold a4N;rintro e w3 ⟨rfl,aY,au⟩;have⟨aK,ax⟩:=nE (((MS.new 9223372036854775807).take ch.size).1);have⟨e4,aZ⟩:=nE (((MS.new 9223372036854775807).take ch.size).2);rw[ax]at au;rw[aZ];have bg:=Y ax;have bq:R aK.Ok:=Y (ax▸MS.Ok.take (MS.Ok.new _ mX) _);have E:R (zP w F sb r (G bo buf.length bc) buf nd fa 0 tt se w3/\IsM w3 mb aK):=Y (by
   have⟨a1,a2,a3,a4,a5,a6⟩:=ak.out;exact⟨a1.upd aY (λd hd=>Nat.ne_of_lt (a6 d hd)) a5,au⟩)
  clear ax aZ aY au bP;have c1:=E.1.ss.cell 1;simp only[Ga,ji,jb,jc]at c1;have cK:=bV.out;have aL:=E.1.ob;have bu:ch.data.toList.length=ch.size:=jR;have f1:∀w',w3.grownBy w' (jM bo buf.length bc).ownBlock->∃cs,mY w' sb cs Ld:=λw' hg=>⟨_,oV E.1.ss hg E.1.ne⟩
  clear f1;go_upto_region 9 with(at_builtin;go_loud (refine Nk NV rfl _ _ rfl (G bo buf.length bc) buf ch w3 rfl aL rfl I ?_);intro v' w4 J aD bW;obtain⟨ay,az,rfl⟩:=nS.form J;have ai:=Y (iU J (iU aD bW));have f1:=(oV E.1.ss aD E.1.ne).free 1;have bQ:=(oV E.1.ss aD E.1.ne).cell 1;simp only[Ga,ji,jb,jc]at bQ;clear J aD)
  have ae:buf.length+ch.size=(buf++ch.data.toList).length:=by rw[jo,bu]
  rw[ae];have bJ:=E.1.grow ai.2.1 ai.1 ai.2.2;have bz:IsM (w4.setCell (Z sb 1 U) (G ay (buf++ch.data.toList).length az)) mb aK:=(oV E.2 ai.2.1 λd hd=>Nat.ne_of_lt (ak.2.2.2.2.2 d hd)).setOther (a:=(Z sb 1 U)) (by show mb≠sb;have:=ak.2.2.2.1;omega) _;generalize w4.setCell (Z sb 1 U) (G ay (buf++ch.data.toList).length az)=w5 at*;have⟨bK,aa⟩:=nE (buf++ch.data.toList);have bL:bK.length<=100000:=by rw[<-aa,<-ae];omega
  rw[aa]at bJ ae|-;have bA:=Y aa;have A:=Y (iU bJ bz);clear ae aL bu f1 bQ c1 E ai aa bJ bz;have bB:∀d,(jM ay bK.length az).ownBlock=O d->d≠sb/\d≠mb:=λd hd=>⟨A.1.ne d hd,λe=>by
   subst e;rcases A.1.ob.2 with⟨e,_⟩|⟨q,cap,cZ,e,_,aM,_⟩
   .rw[e]at hd;cases hd
   .rw[e]at hd;cases hd
    have aD:w5.heap[q]? =O (mM aK.cs 119 (0,0)):=A.2;rw[aD]at aM;have:(119:jl)=xw:=by
     injection aM with e
     injection e
    exact absurd this mX⟩
  have bR:=Y (a3U 0 sb r mb bn bi c L aK ay az bK nd fa 0 tt se w5 bN.1 bN.2 A.1.ss A.1.ob ⟨A.2,bq.out⟩ bB ⟨by have:=ak.2.2.2.1;omega,jB _,jB _⟩ bL λW bX=>aH.out W (A.1.bw.trans bX λd hd af=>by
   rcases af with af|af|af
   .exact af▸A.1.lt.1
   .have:=ak.2.2.2.2.1;omega
   .exact(A.1.fr d af).resolve_right I))
  clear bB;go_wp2_with fail;refine bR.mono ?_;rintro e aN hcut;have bS:=bI.out;subst bS;obtain⟨oa,cap,Lm,aA,b6,bC,bD,ah,rfl,aO,bE,aP,aB⟩:=a7d hcut bA bg A.1 A.2 ak.2.2.2.2.1;have bY:=Y (YO mb ah aN bE);have aQ:=Y (iU aO (iU aP aB));have⟨n,hn⟩:=nE Lm.length;have bZ:=Y hn;rw[hn];have aR:=aO.p9 ah.ta;have a4:=aO.ss.cell 4;have f4:=aO.ss.free 4;have a5:=aR.ss.cell 5;have cz:=aR.ss.free 5;simp only[Ga,ji,jb,jc]at a4 a5;clear hcut aO bE aP aB bR A bA bg bq ak aH aR hn;go_wp2_with fail;refine vE bY ?_;go_upto_region 12 with fail;have bT:R (∀tv,zP w F sb r aA b6 bC bD ah.ta tv se ((aN.setCell (Z sb 4 U) (V X ah.ta)).setCell (Z sb 5 U) (V X tv))/\qi ((aN.setCell (Z sb 4 U) (V X ah.ta)).setCell (Z sb 5 U) (V X tv)) (λd=>w.heap.size<=d/\aA.ownBlock≠O d) (G oa n cap) Lm):=Y λtv=>by
   have bU:=(aQ.1.p9 ah.ta).b0t tv;have hl:=bU.lt;refine⟨bU,eJ (bZ.out▸aQ.2.1) (by simp[jr]) (λd hd aM=> ?_) λ_ _ h=>h⟩;have aM:w.heap.size<=d:=aM.1;exact(jh _ (Z sb 5 U) _ d (by show d≠sb;omega)).trans (jh _ (Z sb 4 U) _ d (by show d≠sb;omega))
  generalize bF:(aN.setCell (Z sb 4 U) (V X ah.ta)).setCell (Z sb 5 U) _=aU at*;have⟨tv,bG⟩:∃tv,(aN.setCell (Z sb 4 U) (V X ah.ta)).setCell (Z sb 5 U) (V X tv)=aU:=⟨_,bF⟩;have bM:=bT.out tv;rw[bG]at bM;have bH:=Y bM;clear bM bT bF bG a4 f4 a5 cz;refine a4j (w0:=w) (F:=F) (sb:=sb) (r:=r) (bv:=aA) (buf:=b6) (nd:=bC) (fa:=bD) (la:=ah.ta) (tt:=tv) (se:=se) (Bs:=λW=>qi W (λd=>w.heap.size<=d/\aA.ownBlock≠O d) (G oa n cap) Lm) (lv:=G oa n cap) (ht0:=by rfl) (FY:=by rfl) (hsz:=by rfl) (hI0:=λ_=>⟨bH.1.below (nN aU),eJ bH.2 (nN aU).size (λd hd _=>(nN aU).block d hd) λ_ _ h=>h⟩) ?_;intro vs dh hF;have C:=Y hF;clear hF;simp only[vG,iX,jg,jf];go_wp2;try go_returns
  have MB:=aQ.2.2;refine⟨mb,G oa n cap,Lm,by rw[MB];rfl,⟨eJ C.2 (iP _) (λ_ _ _=>rfl) λ_ _ h=>h.1,by rw[MB],?_,C.1.bw,_,C.2,λ_ h=>h.1,?_⟩⟩
  .rw[MB]
   exact⟨_,_,_,_,C.1.ss,C.1.ob,.inl C.1.lt.1,C.1.fr⟩
  .rw[MB]
   exact⟨_,_,_,_,C.1.ss,C.1.ob,⟨.inl C.1.lt.1,λh=>by have:=h.1;have:=C.1.lt.2;omega⟩,λb hb=>⟨C.1.fr b hb,λh=>h.2 hb⟩⟩
 .have t0:(fa !=0)=u:=by simp[af]
  have bI:=Y af;have J:=aS.p9 0;go_in;go_upto_region 5 with fail;generalize w.setCell (Z sb 4 U) (V X 0)=w1 at*;have av:=Y J;clear J c4 c3 f4 aS;refine a7e (w0:=w) (F:=F) (sb:=sb) (r:=r) (bv:=G bo buf.length bc) (buf:=buf) (nd:=nd) (fa:=fa) (la:=0) (tt:=tt) (se:=se) (Bs:=λ_=>True) (ht0:=by rfl) (hsz:=by rfl) (hI0:=λ_=>⟨av.below (nN w1),trivial⟩) ?_;intro vs w2 hF;have N:=Y hF.1;clear hF;simp only[vG,iX,jg,jf];go_wp2;try go_returns
  have hp:∀mb,rX c (L.map λx=>x.r) mb buf nd fa ch=([],buf,nd,fa):=λmb=>by unfold rX;rw[Ax bI.out]
  refine⟨0,G U 0 0,[],by rw[hp];rfl,⟨qi.nil _ _,by rw[hp];rfl,?_,N.bw,λ_=>False,qi.nil _ _,λ_ h=>h.elim,?_⟩⟩
  .rw[hp]
   exact⟨_,_,_,_,N.ss,N.ob,.inl N.lt.1,N.fr⟩
  .rw[hp]
   exact⟨_,_,_,_,N.ss,N.ob,⟨.inl N.lt.1,λh=>h⟩,λb hb=>⟨N.fr b hb,λh=>h⟩⟩
def AP.mono{F':Nat->Prop}{r:Nat}(h:AP w F r sb buf nd fa)(hF:∀b,b<w.heap.size->F b->F' b):AP w F' r sb buf nd fa:=by
 obtain⟨bv,la,tt,se,A,C,E,J⟩:=h;exact⟨bv,la,tt,se,A,C,hF _ A.lt E,λb hb=>hF b (nS.blk C b hb).2 (J b hb)⟩
def yg(w:K)(ao r sb:Nat)(buf:List AC)(nd fa:Int):Prop:=∃bv la tt se,mY w sb (Ga r bv nd fa la tt se) Ld/\nS w ao xw bv buf
def yg.f{r:Nat}(h:yg w ao r sb buf nd fa)(C:ao<=sb):AP w (λb=>ao<=b) r sb buf nd fa:=by
 obtain⟨bv,la,tt,se,E,A⟩:=h;exact⟨bv,la,tt,se,E,A.low (jB _),C,λb hb=>(nS.blk A b hb).1⟩
def AP.at_{r:Nat}(h:AP w (λb=>ao<=b) r sb buf nd fa):yg w ao r sb buf nd fa:=by
 obtain⟨bv,la,tt,se,E,A,_,J⟩:=h;exact⟨bv,la,tt,se,E,A.1,A.2.imp id λ⟨g,cap,C,e1,_,k⟩=>⟨g,cap,C,e1,J g (by rw[e1];rfl),k⟩⟩
structure Ql(c:nU)(rows:List Row)(ao r sb mb:Nat)(buf:List AC)(nd fa:Int)(ch:An)(w:K)(lv:iQ)(Lm:List G7)(w':K):Prop where
 own:qi w' (λd=>w.heap.size<=d) lv Lm
 told:Lm.map (λy=>y.m)=(rX c rows mb buf nd fa ch).1
 ses:yg w' ao r sb (rX c rows mb buf nd fa ch).2.1 (rX c rows mb buf nd fa ch).2.2.1 (rX c rows mb buf nd fa ch).2.2.2
 pV:iR ao w w'
def a1c(ao sb r bn bi:Nat)(c:nU)(L:List oJ)(buf:List AC)(nd fa:Int)(ch:An)(w:K)(hc:nV c=u)(E:c.wf)(hs:yg w ao r sb buf nd fa)(hlt:ao<=sb/\ao<=w.heap.size)(hlen:buf.length+ch.size<=100000)(C:∀W,iR ao w W->pY r bn bi c L W/\qB W/\BC W):
  iW iN 13 #[mG (O (Z sb 0 U)),H ch] w λe w'=>∃mb lv Lm,e=mK (mJ #[lv,V X (rX c (L.map λx=>x.r) mb buf nd fa ch).2.2.2])/\Ql c (L.map λx=>x.r) ao r sb mb buf nd fa ch w lv Lm w':=by
 have hb:∀W,rF (λb=>ao<=b) w W->iR ao w W:=λW k=>k.below (λc hc A=>by have A:ao<=c:=A;omega) hlt.2
 refine(Lv _ sb r bn bi c L buf nd fa ch w hc E (hs.f hlt.1) hlen λW J=>C W (hb W J)).mono ?_;rintro e w' ⟨mb,lv,Lm,he,N,aa,ae,af,_⟩;exact⟨mb,lv,Lm,he,N,aa,(ae.mono λb _ A=>A.elim id λh=>jk hlt.2 h).at_,hb w' af⟩
end
section
open Go.RowKit Go.Maps
structure a1d(lo hi r bn bi:Nat)(c:nU)(L:List oJ)(w:K):Prop where
 rg:pY r bn bi c L w
 lt:lo<=r/\r<hi/\lo<=bn/\bn<hi/\lo<=bi/\bi<hi
 su:∀x,x∈L->nK.nA w (λk=>r<k/\k<hi) (G x.ou x.r.ty.sub.length x.cu) x.r.ty.sub
def a1d.mono{lo A hi r:Nat}{L:List oJ}(h:a1d lo hi r bn bi c L w)(hl:A<=lo):a1d A hi r bn bi c L w:=
 ⟨h.rg,by have:=h.lt;omega,h.su⟩
def AQ(c:nU)(A:List tV)(w:K)(e:kV)(w':K):Prop:=
 iR w.heap.size w w'/\match wB c A with
 | .error er=>e=mK (mJ #[mG U,V X er])/\er≠0
 | .ok rows=>∃ao sb r bn bi L,e=mK (mJ #[mG (O (Z sb 0 U)),V X 0])/\(L.map λx:oJ=>x.r)=rows/\yg w' ao r sb [] 0 0/\(w.heap.size<=ao/\ao<=sb/\ao<=w'.heap.size/\bn≠bi/\r≠bn/\r≠bi/\a1d w.heap.size ao r bn bi c L w')/\∀W,iR ao w' W->pY r bn bi c L W
def a1e{J:List tV}{r:Nat}{L:List oJ}(h:wB c J=.ok (L.map λx=>x.r))(hb:iR w.heap.size w w2)(E:pY r bn bi c L w2)(A:(bn≠bi/\r≠bn/\r≠bi)/\w.heap.size<=r/\w.heap.size<=bn/\w.heap.size<=bi)(C:w2.heap.size=sb):
  AQ c J w (mK (mJ #[mG (O (Z sb 0 U)),V X 0])) (w2.alloc (mM #[mG (O (Z r 0 U)),G U 0 0,V X 0,V X 0,V X 0,V X 0,V X 0] Ld)):=by
 have a:=(iT w2.heap.size w2).alloc (iP _) (mM #[mG (O (Z r 0 U)),G U 0 0,V X 0,V X 0,V X 0,V X 0,V X 0] Ld);have N:=hb.size;refine⟨hb.trans (a.mono N),?_⟩;rw[h];refine⟨sb,sb,r,bn,bi,L,rfl,rfl,⟨G U 0 0,0,0,0,C▸mY.new w2 _ _,nS.nil _ _ _⟩,⟨I,iP _,nk,A.1.1,A.1.2.1,A.1.2.2,E.below a,by have:=E.lt3;omega,λx aa=> ?_⟩,λW ae=> ?_⟩;.exact((E.sq x aa).keep (iP _) (λk af ag=>(⟨ag,C▸af⟩:r<k/\k<sb)) λ_ _ _=>rfl).below a
 exact E.below (a.trans (C.symm▸ae))
def VE(c:nU)(A:List tV)(v:iQ)(w:K)(ai:CJ w v A)(aj:∀e,e∈A->e.nm.size<=jd/\e.tx.size<=jd/\e.id<18446744073709551616)(ak:qB w):
  iW iN 27 #[c.v,v] w (AQ c A w):=by
 obtain⟨g,hg⟩:=o7 w;have au:R (∀W,w.alloc (mM #[V X c.fmt,V mQ c.mag,V X c.oL,V X c.pq,V X c.dep,V X c.oo] rG)=W->iR w.heap.size w W/\mY W g #[V X c.fmt,V mQ c.mag,V X c.oL,V X c.pq,V X c.dep,V X c.oo] rG/\W.heap.size=g+1):=Y λW J=>by
  subst J;exact⟨(iT w.heap.size w).alloc (iP _) _,hg▸mY.new w _ _,by simp[hg]⟩
 have aI:R (∀W,iR w.heap.size w W->iW iN 52 #[mI #[V X c.fmt,V mQ c.mag,V X c.oL,V X c.pq,V X c.dep,V X c.oo],v] W (Bq c A W)):=Y λW J=>a4d c A v W (ai.below J) aj (ak.below J ak.lt)
 have⟨aJ,av⟩:=nE (AQ c A w);have ax:=Y av;obtain⟨oa,cap,rfl,_⟩:=ai;rw[av];unfold nU.v nU.cs;go_in;go_upto_region 1 with fail;have⟨N,ay,az⟩:=au.out _ rfl;generalize w.alloc _=w1 at*;have C:=Y (iU N az);have⟨c0,c1,c2,c3,c4,c5⟩:=ay.a6;have aA:=Y (aI w1 N);go_wp2_with fail;refine aA.mono ?_;unfold Bq;rintro e w2 ⟨aB,ag⟩;have aD:=C.1.trans (aB.mono (by have:=C.2;omega));have aa:=Y aD;have⟨aK,ae⟩:=nE (wB c A);have af:=Y ae;rw[ae]at ag;cases aK with
 |error er=>
  obtain⟨rfl,E⟩:=ag;have aN:((er:Int) !=0)=u:=nk;have aF:=Y E;go_wp2;try go_returns
  rw[<-ax.out];exact⟨aa.out,by rw[af.out];exact⟨rfl,aF.out⟩⟩
 |ok rows=>
  obtain⟨r,bn,bi,L,rfl,aL,rfl,E,aM⟩:=ag;have aG:=Y (iU aL (iU E (show w.heap.size<=r/\w.heap.size<=bn/\w.heap.size<=bi by have:=C.1.size;omega)));obtain⟨sb,aH⟩:=o7 w2;have ah:=Y (a1e af aa aG.1 aG.2 aH);go_wp2;try go_returns
  rw[<-ax.out];exact ah
def Np(ao r sb:Nat)(buf:List AC)(nd fa:Int)(w:K)(h:yg w ao r sb buf nd fa):
  iW iN 14 #[mG (O (Z sb 0 U))] w λe w'=>e=mK (V X (buf.length:Nat))/\w'=w:=by
 obtain⟨bv,la,tt,se,A,C⟩:=h;obtain⟨bo,bc,rfl⟩:=nS.form C;have c1:=A.cell 1;simp only[Ga,ji,jb,jc]at c1;go_in;go_wp2;go_returns;exact⟨rfl,rfl⟩
end
section
open Go.RowKit
def SV(c:nU)(rows:List Row)(w:K)(e:kV)(w':K):Prop:=
 iR w.heap.size w w'/\∃ao sb r bn bi L,e=mK (mG (O (Z sb 0 U)))/\(L.map λx:oJ=>x.r)=rows/\yg w' ao r sb [] 0 0/\(w.heap.size<=ao/\ao<=sb/\ao<=w'.heap.size/\bn≠bi/\r≠bn/\r≠bi/\a1d w.heap.size ao r bn bi c L w')/\∀W,iR ao w' W->pY r bn bi c L W
def uG(es:List tV):Bool:=As (40<es.length)||es.any λe=>As (100<e.nm.size)||As (500<e.tx.size)
def Ej(h:uG A=M):A.length<=40/\∀e,e∈A->e.nm.size<=100/\e.tx.size<=500:=by
 unfold uG at h;simp only[ep,b8,List.any_eq_false]at h;refine⟨I,λe he=> ?_⟩;have:=h.2 e he;simp only[cM,bb]at this;omega
def Lx{i:Nat}{e:tV}(he:A[i]? =O e)(h:100<e.nm.size\/500<e.tx.size):uG A=u:=by
 unfold uG;rw[cM,List.any_eq_true];exact .inr ⟨e,jq he,by simp only[cM,bb];exact h⟩
def Qm(h:A.length<=40)(C:∀i e,i<A.length->A[i]? =O e->e.nm.size<=100/\e.tx.size<=500):uG A=M:=by
 unfold uG;simp only[ep,b8,List.any_eq_false];refine⟨I,λe he=> ?_⟩;have⟨i,hi⟩:=cw he;have:=C i e (jU.1 hi).1 hi;simp only[cM,bb];omega
def Hg(h:p:=by
 go_wp2;go_returns;exact⟨by rw[HX.out];rfl,rfl⟩):p:=h
def SX(A:List tV)(v:iQ)(w:K)(af:CJ w v A)(ag:∀e,e∈A->e.nm.size<=jd/\e.tx.size<=jd):
  iW iN 28 #[v] w λe w'=>e=mK (mH (uG A))/\w'=w:=by
 obtain⟨oa,cap,rfl,E,J,_⟩:=id af;have⟨n,C⟩:=nE A.length;have aD:n<=9223372036854775807:=by unfold jd at J;omega
 have⟨aE,ah⟩:=nE (uG A);have N:=Y ah;have ai:=Y af;have aa:=Y C;have aj:=Y ag;rw[ah];rw[C]at ai E|-;by_cases ak:40<n
 .have HX:R (aE=u):=Y (by rw[<-N.out];unfold uG;rw[C];simp[ak])
  go_in;exact Hg
 go_in;go_wp2;go_loopw [3] (λiv ax=>∃i:Nat,iv=V X i/\i<=n/\R (∀k e,k<i->A[k]? =O e->e.nm.size<=100/\e.tx.size<=500)/\ax=w) (λiv _=>n -(jF iv).toNat);case atStart=>exact⟨0,rfl,I,Y (λk e h=>by omega),rfl⟩
 case round=>
  obtain⟨i,rfl,hi,au,rfl⟩:=hrel;by_cases c:i<n
  .have⟨e,he⟩:∃ay,A[i]? =O ay:=⟨_,ja (by rw[aa.out];exact c)⟩
   obtain⟨b,off,rfl,hlt,aH,aI,aJ⟩:=CJ.at_ ai he;have⟨az,aA⟩:=aj.out e (jq he);have aF:e.nm.size<=9223372036854775807:=by unfold jd at az;omega
   have aG:e.tx.size<=9223372036854775807:=by unfold jd at aA;omega
   by_cases c1:100<e.nm.size
   .have HX:R (aE=u):=Y (by rw[<-N.out];exact Lx he (.inl c1))
    exact Hg
   .by_cases c2:500<e.tx.size
    .have HX:R (aE=u):=Y (by rw[<-N.out];exact Lx he (.inr c2))
     exact Hg
    .have av:R (∀k e,k<i+1->A[k]? =O e->e.nm.size<=100/\e.tx.size<=500):=Y λk e2 hk ae=>by
      by_cases aB:k=i;.subst aB;rw[he]at ae;cases ae;omega
      .exact au k e2 I ae
     go_wp2;go_roundw;case rel=>exact⟨i+1,by go_num,I,av,trivial⟩
     case measure=>simp[jF];omega
  .obtain rfl:i=n:=I
   have HX:R (aE=M):=Y (by rw[<-N.out];exact Qm (by rw[aa.out];omega) (λk e hk he=>au.out k e (by rw[<-aa.out];exact hk) he));exact Hg
def Fj(c:nU)(A:List tV):Bool:= !uG A&&As (GG c A=0)
def VF(h:p:=by
 go_wp2_with fail;refine pG (CN2 _ H1) λw3 hb3=> ?_
 have HB3:=Y (H1.trans (hb3.mono I));go_wp2;go_returns;exact⟨by rw[K9.out];rfl,HB3.out⟩):p:=h
def XN(c:nU)(A:List tV)(v:iQ)(w:K)(af:CJ w v A)(ae:∀e,e∈A->e.nm.size<=jd/\e.tx.size<=jd):
  iW iN 9 #[c.v,v] w λe w'=>e=mK (mH (Fj c A))/\iR w.heap.size w w':=by
 have ah:=Y (vS (w:=w) c (t:=rG));obtain⟨g,hg⟩:=o7 w;have E:R (∀W,iR w.heap.size w W->iW iN 28 #[v] W λe w'=>e=mK (mH (uG A))/\w'=W):=Y λW h=>SX A v W (af.below h) ae
 have J:R (uG A=M->∀W,iR w.heap.size w W->iW iN 29 #[mI #[V X c.fmt,V mQ c.mag,V X c.oL,V X c.pq,V X c.dep,V X c.oo],v] W λe w'=>e=mK (V X (GG c A))/\iR W.heap.size W w'):=Y λh W ax=>by
  have⟨aA,ay⟩:=Ej h;exact a4i c A v W (af.below ax) (λe he=>⟨(ae e he).1,by have:=(ay e he).2;omega⟩) I
 have ai:R (∀W,w.alloc (mM #[V X c.fmt,V mQ c.mag,V X c.oL,V X c.pq,V X c.dep,V X c.oo] rG)=W->W.heap.size=g+1):=Y λW h=>by subst h;simp[hg]
 have⟨aE,aj⟩:=nE (Fj c A);have N:R (aE=(!uG A&&As (GG c A=0))):=Y aj.symm;obtain⟨oa,cap,rfl,_⟩:=af;unfold nU.v nU.cs;rw[hg]at ah E J|-;rw[aj];have⟨GE,ak⟩:=nE (uG A);have⟨ag,au⟩:=nE (GG c A);rw[ak]at E J N;rw[au]at J N;go_in;go_upto_region 1 with fail;have⟨av,c0,c1,c2,c3,c4,c5⟩:=ah.out _ rfl;have az:=ai.out _ rfl;generalize w.alloc _=w1 at*;have H1:=Y av;cases GE with
 |true=>
  have aa:R (aE=M):=Y (by rw[N.out];rfl);go_wp2_with fail;refine(E _ H1).mono ?_;rintro e w2 ⟨rfl,rfl⟩;go_wp2;go_returns;exact⟨by rw[aa.out];rfl,H1.out⟩
 |false=>
  have CN2:=Y (J rfl);have aa:R (aE=As (ag=0)):=Y (by rw[N.out];rfl);go_wp2_with fail;refine vE (E _ H1) ?_;by_cases C:ag=0
  .have K9:R (aE=u):=Y (by rw[aa.out,a8 C])
   subst C;exact VF
  .have K9:R (aE=M):=Y (by rw[aa.out,bh C])
   have aB:(ag==0)=M:=by rw[bj];exact C
   exact VF
def a4k(h:GG c A=0):∃rows,wB c A=.ok rows:=by
 unfold GG at h;cases hp:wB c A with
 |ok rows=>exact⟨rows,rfl⟩
 |error er=>
  rw[hp]at h;dsimp only at h;exfalso;have h0:er=0:=I;subst h0;unfold wB at hp;split at hp;.cases hp
  .split at hp
   .cases hp
   .exact Lt A [] hp
def SY(c:nU)(A:List tV)(v:iQ)(w:K)(rows:List Row)(hp:wB c A=.ok rows)(aa:CJ w v A)(ae:∀e,e∈A->e.nm.size<=jd/\e.tx.size<=jd/\e.id<18446744073709551616)(af:qB w):
  iW iN 10 #[c.v,v] w (SV c rows w):=by
 have ag:=Y (vS (w:=w) c (t:=rG));obtain⟨g,hg⟩:=o7 w;have ah:R (∀W,iR w.heap.size w W->iW iN 27 #[mI #[V X c.fmt,V mQ c.mag,V X c.oL,V X c.pq,V X c.dep,V X c.oo],v] W (AQ c A W)):=Y λW h=>VE c A v W (aa.below h) ae (af.below h af.lt)
 have ax:=Y hp;have⟨J,C⟩:=nE (SV c rows w);have ai:=Y C;obtain⟨oa,cap,rfl,_⟩:=aa;unfold nU.v nU.cs;rw[hg]at ag ah;rw[C];go_in;go_upto_region 1 with fail;have⟨E,c0,c1,c2,c3,c4,c5⟩:=ag.out _ rfl;generalize w.alloc _=w1 at*;have aj:=Y E;have ak:=Y (ah w1 E);go_wp2_with fail;refine ak.mono ?_;rintro e w2 ⟨au,av⟩;rw[ax.out]at av;obtain⟨ao,sb,r,bn,bi,L,rfl,hL,ay,hl,N⟩:=av;have az:R (J (mK (mG (O (Z sb 0 U)))) w2):=Y (by
  rw[<-ai.out];have aA:=aj.size;exact⟨(hg▸aj.out).trans (au.mono I),ao,sb,r,bn,bi,L,rfl,hL,ay,⟨I,hl.2.1,hl.2.2.1,hl.2.2.2.1,hl.2.2.2.2.1,hl.2.2.2.2.2.1,hl.2.2.2.2.2.2.mono I⟩,N⟩)
 go_wp2;try go_returns
 exact az
end
section
open Go.RowKit Go.Maps
end
section
open Go.RowKit
def XO{C:List tV}(h:Fj c C=u):uG C=M/\nV c=u/\∃rows,wB c C=.ok rows:=by
 unfold Fj at h;simp only[je,el,bb]at h;have⟨rows,A⟩:=a4k h.2;refine⟨h.1,?_,rows,A⟩;cases hc:nV c with
 |true=>rfl
 |false=>
  unfold wB at A;rw[Ax hc]at A;cases A
def XP(h:wB c A=.ok rows):qQ c [] A=.ok rows:=by
 unfold wB at h;split at h;.cases h
 .split at h
  .cases h
  .exact h
section
variable {P:j6}
end
end
section
open Go.RowKit Go.Maps
def sw(T:An)(er:Int)(w:K)(e:kV)(w':K):Prop:=e=mK (mJ #[H T,V X er])/\iR w.heap.size w w'
def Qn(k z tl:Int)(ou:Option j4)(n cu:Nat)(tx:An)(li:Bool)(oi:Option j4)(ni ci:Nat)(dep oo:Int)(T:An)(er:Int)(w:K)(ak:∀W,iR w.heap.size w W->iW iN 116 #[mI #[V X k,V X z,G ou n cu,V X tl],mI #[H tx,mH li,G oi ni ci],V X dep,V X oo] W (sw T er W)):
  iW iN 83 #[mI #[V X dep,V X oo],mI #[V X k,V X z,G ou n cu,V X tl],mI #[H tx,mH li,G oi ni ci]] w (sw T er w):=by
 obtain⟨g,hg⟩:=o7 w;have C:R (∀W,((w.alloc (mM #[V X dep,V X oo] XF)).alloc (mM #[V X k,V X z,G ou n cu,V X tl] Ju)).alloc (mM #[H tx,mH li,G oi ni ci] IT)=W->mY W g #[V X dep,V X oo] XF/\mY W (g+1) #[V X k,V X z,G ou n cu,V X tl] Ju/\mY W (g+2) #[H tx,mH li,G oi ni ci] IT/\iR w.heap.size w W/\W.heap.size=g+3):=Y λW au=>by
  subst au;have a1:=(iT w.heap.size w).alloc (iP _) (mM #[V X dep,V X oo] XF);have a2:=a1.alloc ny (mM #[V X k,V X z,G ou n cu,V X tl] Ju);have a3:=a2.alloc nk (mM #[H tx,mH li,G oi ni ci] IT);have E:=mY.new w #[V X dep,V X oo] XF;have J:=mY.new (w.alloc (mM #[V X dep,V X oo] XF)) #[V X k,V X z,G ou n cu,V X tl] Ju;have N:=mY.new ((w.alloc (mM #[V X dep,V X oo] XF)).alloc (mM #[V X k,V X z,G ou n cu,V X tl] Ju)) #[H tx,mH li,G oi ni ci] IT;rw[show(w.alloc (mM #[V X dep,V X oo] XF)).heap.size=g+1 by simp[hg]]at J;rw[show((w.alloc (mM #[V X dep,V X oo] XF)).alloc (mM #[V X k,V X z,G ou n cu,V X tl] Ju)).heap.size=g+2 by simp[hg]]at N;rw[hg]at E;exact⟨(E.alloc _).alloc _,J.alloc _,N,a3,by simp[hg]⟩
 have av:=Y ak;have⟨ax,aa⟩:=nE (sw T er w);have ay:=Y aa;rw[aa];go_in;go_upto_region 1 with fail;have⟨ae,af,hk2,A,ag⟩:=C.out _ rfl;generalize ((w.alloc _).alloc _).alloc _=w1 at*;have⟨c0,c1⟩:=ae.a2;have⟨t0,t1,az,t3⟩:=af.a4;have⟨aA,i1,i2⟩:=hk2.a3;have ah:=Y (iU A ag);have ai:=Y (av _ A);go_wp2_with fail;refine pG ai λw2 hb=> ?_
 have aj:=Y hb;go_wp2;try go_returns
 rw[<-ay.out];exact⟨rfl,ah.1.trans (aj.mono (by have:=ah.2;omega))⟩
end
section
open Go.RowKit
def a1f(l:List AC):jW l 0++jC (l.length -(jW l 0).length) 0=l:=by
 have h:=congrArg List.reverse (List.takeWhile_append_dropWhile (p:=λb=>b==(0:AC)) (l:=l.reverse));rw[eb,lU]at h;have e:jW l 0=(l.reverse.dropWhile λb=>b==(0:AC)).reverse:=rfl;have A:=congrArg lQ h;rw[jo,<-e]at A;have C:(l.reverse.takeWhile λb=>b==(0:AC)).reverse=jC (l.length -(jW l 0).length) 0:=by
  refine List.eq_replicate_iff.2 ⟨I,λb hb=> ?_⟩;have:=kz.1 List.all_takeWhile b (List.mem_reverse.1 hb);simpa using this
 rw[<-C,e];exact h
def yh(s:An)(a b:Nat):(s.extract a b).data.toList=(s.data.toList.drop a).take (b - a):=by
 rw[c9,dv,List.extract_eq_take_drop]
def Fp{f:Nat->Int}{j:Nat}(A:f j≠0):∀n k,k<=j->j<k+n->(∀i,k<=i->i<j->f i=0)->sV f n k=f j
 |0,k,C,E,_=>by omega
 |n+1,k,C,E,h=>by
  by_cases e:k=j;.subst e;exact rQ A
  .rw[tL (h k (iP _) I)]
   exact Fp A n (k+1) I I (λi a b=>h i I b)
def oK{W:K}(h:iR B w W)(hB:B<=g)(a b c:iQ):iR B w (q8 W g a b c):=
 ((h.setCell (p:=(Z g 0 U)) hB a).setCell (p:=(Z g 1 U)) hB b).setCell (p:=(Z g 2 U)) hB c
def qa{a b c:iQ}(h:mY w g #[a,b,c] t):w.cell? (Z g 0 U)=O a/\w.cell? (Z g 1 U)=O b/\w.cell? (Z g 2 U)=O c:=⟨h.cell 0,h.cell 1,h.cell 2⟩
def a4l{cs:Array iQ}(h:mY w b cs t):∀W,(∃x:qX w,W=x.at_)->mY W b cs t:=by
 rintro _ ⟨x,rfl⟩;exact a7 x.is h h.lt
def AR{a b c d:iQ}(h:mY w g #[a,b,c,d] t):w.cell? (Z g 0 U)=O a/\w.cell? (Z g 1 U)=O b/\w.cell? (Z g 2 U)=O c/\w.cell? (Z g 3 U)=O d:=⟨h.cell 0,h.cell 1,h.cell 2,h.cell 3⟩
def LA{f g:Nat->Int}{N:Nat}(h:∀j,j<N->(∀i,i<j->f i=0)->f j=2\/f j=g j):∀n k,k+n<=N->(∀i,i<k->f i=0)->sV f n k=2\/sV f n k=sV g n k
 |0,k,_,_=> .inr rfl
 |n+1,k,C,h0=>by
  by_cases hk:f k=0
  .have hg:g k=0:=by
    rcases h k I h0 with A|A
    .omega
    .omega
   rw[tL hk,tL hg];refine LA h n (k+1) I (λi hi=> ?_);rcases jL i k with A|A
   .exact h0 i A
   .obtain rfl:i=k:=I
    exact hk
  .rw[rQ hk]
   rcases h k I h0 with A|A
   .exact .inl A
   .exact .inr (by rw[rQ (by rw[<-A];exact hk),A])
def tF{s:An}{c a:Nat}(hb:b<=c):(s.extract 0 c).extract a b=s.extract a b:=by
 rw[ko];congr 1<;>omega
def VG{b:Bool}{er:Int}(h:b=M):wF b er=er:=by subst h;rfl
def VH{s:An}{m:Int}{c:Nat}(hc:c<=s.size):(rV (s.extract 0 c) m most 0=0->4<=c)/\(rV (s.extract 0 c) m most 2=0->16<=c)/\(rV (s.extract 0 c) m most 4=0->20<=c)/\
  (rV (s.extract 0 c) m most 6=0->24<=c)/\(rV (s.extract 0 c) m most 7=0->24+qz (s.extract 0 c)<=c):=by
 have A:(s.extract 0 c).size=c:=by rw[iV];omega
 have C:rV (s.extract 0 c) m most 0=0->4<=c:=λh=>by
  have:=qZ mX (show wF (As (4<=(s.extract 0 c).size)) 2=0 from h);simp only[bb,A]at this;exact this
 have g2:rV (s.extract 0 c) m most 2=0->16<=c:=λh=>by
  have:=qZ mX (show wF (As (16<=(s.extract 0 c).size)) 2=0 from h);simp only[bb,A]at this;exact this
 have g4:rV (s.extract 0 c) m most 4=0->20<=c:=λh=>by
  have:=qZ mX (show wF (As (20<=(s.extract 0 c).size)) 2=0 from h);simp only[bb,A]at this;exact this
 have E:rV (s.extract 0 c) m most 6=0->24<=c:=λh=>by
  have:=qZ mX (show wF (As (24<=(s.extract 0 c).size)) 2=0 from h);simp only[bb,A]at this;exact this
 have J:rV (s.extract 0 c) m most 7=0->24+qz (s.extract 0 c)<=c:=λh=>by
  have:=qZ mX (show wF (As (24+qz (s.extract 0 c)<=(s.extract 0 c).size)) 2=0 from h);simp only[bb,A]at this;exact this
 exact⟨C,g2,g4,E,J⟩
def Qo{m:Int}(s:An)(c:Nat)(hc:c<=s.size)(j:Nat)(ag:j<9)(A:∀i,i<j->rV (s.extract 0 c) m most i=0):rV (s.extract 0 c) m most j=2\/rV (s.extract 0 c) m most j=rV s m most j:=by
 have C:(s.extract 0 c).size=c:=by rw[iV];omega
 have hl:20<=c->qz (s.extract 0 c)=qz s:=λh=>by unfold qz;rw[tF h]
 have⟨aa,g2,g4,J,ae⟩:=VH (m:=m) (most:=most) hc;have sz:∀(P Q:Prop)[Decidable P][Decidable Q],(P->Q)->wF (As P) 2=2\/wF (As P) 2=wF (As Q) 2:=λP Q _ _ h=>by
  by_cases E:P;.right;rw[a8 E,a8 (h E)]
  .left;exact VG (bh E)
 have N:j=0\/j=1\/j=2\/j=3\/j=4\/j=5\/j=6\/j=7\/j=8:=I;rcases N with rfl|rfl|rfl|rfl|rfl|rfl|rfl|rfl|rfl
 .exact sz (4<=(s.extract 0 c).size) (4<=s.size) (λh=>by rw[C]at h;omega)
 .right;have:=aa (A 0 I);show wF ((oM ((s.extract 0 c).extract 0 4).data.toList:Int)==m) 9=wF ((oM (s.extract 0 4).data.toList:Int)==m) 9;rw[tF I]
 .exact sz (16<=(s.extract 0 c).size) (16<=s.size) (λh=>by rw[C]at h;omega)
 .right;have:=g2 (A 2 I);show wF (vY ((s.extract 0 c).extract 4 16)).isSome 3=wF (vY (s.extract 4 16)).isSome 3;rw[tF I]
 .exact sz (20<=(s.extract 0 c).size) (20<=s.size) (λh=>by rw[C]at h;omega)
 .right;have:=g4 (A 4 I);show wF (As ((qz (s.extract 0 c):Int)<=most)) 5=wF (As ((qz s:Int)<=most)) 5;rw[hl I]
 .exact sz (24<=(s.extract 0 c).size) (24<=s.size) (λh=>by rw[C]at h;omega)
 .have:=J (A 6 I)
  exact sz (24+qz (s.extract 0 c)<=(s.extract 0 c).size) (24+qz s<=s.size) (λh=>by rw[C,hl I]at h;omega)
 .right
  have ah:=J (A 6 I);have af:=ae (A 7 I);have e:=hl I;rw[e]at af;show wF (KS ((s.extract 0 c).extract 24 (24+qz (s.extract 0 c))) ((s.extract 0 c).extract 20 24)) 10=wF (KS (s.extract 24 (24+qz s)) (s.extract 20 24)) 10;rw[e,tF I,tF I]
def S9{m:Int}(s:An)(c:Nat)(hc:c<=s.size):qp (s.extract 0 c) m most=.error 2\/qp (s.extract 0 c) m most=qp s m most:=by
 have N:(s.extract 0 c).size=c:=by rw[iV];omega
 have hl:20<=c->qz (s.extract 0 c)=qz s:=λh=>by unfold qz;rw[tF h]
 have⟨aa,g2,g4,C,E⟩:=VH (m:=m) (most:=most) hc;rcases LA (Qo s c hc) 9 0 I (λi hi=>by omega)with h|h
 .left;unfold qp;rw[h];rfl
 .right
  unfold qp;rw[h];by_cases h0:sV (rV s m most) 9 0=0
  .rw[Ax h0,Ax h0]
   rw[h0]at h;have A:=I7 9 0 h;have ae:=C (A 6 mX);have J:=E (A 7 mX);have e:=hl I;rw[e]at J;have en:uM (s.extract 0 c)=uM s:=by unfold uM;rw[tF I]
   rw[e,en,tF I]
  .rw[At h0,At h0]
def Ta(s:An)(c:Nat)(hc:c<=s.size):(qA most un (s.extract 0 c) U).1=.error 2\/qA most un (s.extract 0 c) U=qA most un s U:=by
 rcases HY most s c hc with h|h
 .left;unfold qA;rw[h];rfl
 .right;unfold qA;rw[h]
def JG(c:nU)(s:An)(k:Nat)(hk:k<=s.size):(oG c (s.extract 0 k) U).1=.error 2\/(oG c (s.extract 0 k) U).1=(oG c s U).1:=by
 unfold oG;split;.exact S9 s k hk
 .split
  .rcases HY c.oL s k hk with h|h
   .left;rw[h];rfl
   .right;rw[h]
  .rcases Ta (most:=c.oL) (un:=c.pq) s k hk with h|h
   .exact .inl h
   .right;rw[h]
def Qp{f:Nat->Int}:∀n k,sV f n k=2->∃j,k<=j/\j<k+n/\f j=2/\∀i,k<=i->i<j->f i=0
 |0,k,h=>by cases h
 |n+1,k,h=>by
  by_cases hk:f k=0
  .rw[tL hk]at h
   have⟨j,J,N,C,E⟩:=Qp n (k+1) h;exact⟨j,I,I,C,λi hi A=>by
    by_cases e:i=k;.subst e;exact hk
    .exact E i I A⟩
  .rw[rQ hk]at h
   exact⟨k,iP _,I,h,λi a b=>by omega⟩
def XQ{s:An}{m:Int}(h:qp s m most=.error 2):sV (rV s m most) 9 0=2:=by
 have hn:=FO (qK s m most) 9 0;unfold qp at h;revert h hn;generalize sV (rV s m most) 9 0=r;intro h hn;by_cases e:r=0;.rw[Ax e]at h;cases h
 .rw[At e]at h
  injection h with h
  omega
def XR{s:An}{m:Int}(h:sV (rV s m most) 9 0=2):qp s m most=.error 2:=by
 unfold qp;rw[h];rfl
def Nq{b:Bool}{er:Int}(A:er≠2):wF b er≠2:=by cases b<;>simp[wF,A]
def Tc{s:An}(hk:k<=s.size)(hs:(oG c (s.extract 0 k) U).1=.error 2)(hlt:s.size<yS c (s.extract 0 k)):(oG c s U).1=.error 2:=by
 have av:(s.extract 0 k).size=k:=by rw[iV];omega
 have N:(s.extract 0 k).data.toList=s.data.toList.take k:=by rw[lI];simp
 have C:(og c.oL (s.extract 0 k).data.toList).2.2=0->s.size<(og c.oL (s.extract 0 k).data.toList).2.1+(og c.oL (s.extract 0 k).data.toList).1->nT c.oL s=.bad 2:=λh0 E=>by
  have⟨⟨n,z,e⟩,hp⟩:∃t,og c.oL (s.extract 0 k).data.toList=t:=⟨_,rfl⟩;rw[hp]at h0 E;simp only at h0 E;subst h0;rcases Hy c.oL s.data.toList k with h|h
  .rw[<-N,hp]at h;cases h
  .rw[<-N,hp]at h
   exact BX h.symm E
 unfold yS at hlt;unfold oG at hs|-;split
 .rename_i J
  rw[Ax J]at hs hlt;have au:24<=k:=by
   rcases jL k 24 with h|h
   .rw[Ax I]at hlt;omega
   .exact h
  rw[At I]at hlt;have hl:qz (s.extract 0 k)=qz s:=by unfold qz;rw[tF I]
  have ai:s.size<24+qz s:=by rw[<-hl];exact hlt
  have aj:=XQ hs;have⟨j,_,ax,A,aa⟩:=Qp 9 0 aj;have key:=λi hi=>Qo (m:=c.mag) (most:=c.oL) s k hk i hi
  have ak:j=7:=by
   have ae:j=0\/j=1\/j=2\/j=3\/j=4\/j=5\/j=6\/j=7\/j=8:=I;have sz:∀(P:Prop)[Decidable P],P->wF (As P) 2=2->False:=λP _ h e=>by rw[a8 h]at e;cases e
   rcases ae with rfl|rfl|rfl|rfl|rfl|rfl|rfl|rfl|rfl
   .exact(sz (4<=(s.extract 0 k).size) I A).elim
   .exact(Nq mX A).elim
   .exact(sz (16<=(s.extract 0 k).size) I A).elim
   .exact(Nq mX A).elim
   .exact(sz (20<=(s.extract 0 k).size) I A).elim
   .exact(Nq mX A).elim
   .exact(sz (24<=(s.extract 0 k).size) I A).elim
   .rfl
   .exact(Nq mX A).elim
  subst ak;have af:rV s c.mag c.oL 7=2:=by
   show wF (As (24+qz s<=s.size)) 2=2;exact VG (bh I)
  have ag:sV (rV s c.mag c.oL) 9 0=2:=by
   rw[Fp (j:=7) (by rw[af];decide) 9 0 I I (λi _ hi=> ?_),af];have h0:=aa i I hi;rcases key i I (λx ay=>aa x I I)with h|h
   .omega
   .omega
  exact XR ag
 .rename_i J
  rw[At J]at hlt;have h0:(og c.oL (s.extract 0 k).data.toList).2.2=0:=by
   by_cases h:(og c.oL (s.extract 0 k).data.toList).2.2=0;.exact h
   .rw[Ax h]at hlt;omega
  rw[At I]at hlt;have ah:=C h0 hlt;split;.rw[ah];rfl
  .unfold qA;rw[ah];rfl
def kY(c:nU)(rows:List Row):Nat->An->Nat
 |0,_=>0
 |n+1,s=>match (oG c s U).1 with
  | .error er=>if er=2 then 0 else er
  | .ok y=>match tN c rows y.1 with
   | .error er=>er
   | .ok _=>kY c rows n (s.extract y.2 s.size)
def ext_size(s:An)(a:Nat)(h:a<=s.size):(s.extract a s.size).size=s.size - a:=by rw[iV];omega
def wD{c:nU}(hc:nV c=u){rows:List Row}:∀(n m:Nat)(s:An),s.size<=100000->s.size<n->s.size<m->kY c rows n s=kY c rows m s
 |0,_,_,_,h,_=>by omega
 |_,0,_,_,_,h=>by omega
 |n+1,m+1,s,hs,hn,E=>by
  unfold kY;cases A:(oG c s U).1 with
  |error er=>rfl
  |ok y=>
   have C:=yK hc hs A;dsimp only;cases tN c rows y.1 with
   |error er=>rfl
   |ok J=>
    have N:=ext_size s y.2 C.2.1;exact wD hc n m _ I I I
def Gd{c:nU}(hc:nV c=u){rows:List Row}:∀(n:Nat)(s:An)(k:Nat),s.size<=100000->k<=s.size->kY c rows n (s.extract 0 k)=0\/kY c rows n (s.extract 0 k)=kY c rows n s
 |0,_,_,_,_=> .inl rfl
 |n+1,s,k,hs,hk=>by
  have A:(s.extract 0 k).size=k:=by rw[iV];omega
  unfold kY;rcases JG c s k hk with h|h
  .left;rw[h];rfl
  .rw[h]
   cases C:(oG c s U).1 with
   |error er=>right;rfl
   |ok y=>
    have E:=yK hc I (h.trans C);dsimp only;cases tN c rows y.1 with
    |error er=>right;rfl
    |ok J=>
     have N:=ext_size s y.2 I;have e:(s.extract 0 k).extract y.2 (s.extract 0 k).size=(s.extract y.2 s.size).extract 0 (k - y.2):=by
      rw[A,tF (iP k),ko];congr 1<;>omega
     dsimp only;rw[e];exact Gd hc n _ _ I I
def MtB(B:Int)(mt:Option (Nat×MS)):Prop:=∃mb ar t m,mt=O (mb,⟨9223372036854775807,ar,t,m⟩)/\0<=ar/\ar<=B/\0<=t/\t<=B
def MtB.le{B B':Int}{mt:Option (Nat×MS)}(h:MtB B mt)(hB:B<=B'):MtB B' mt:=by
 obtain⟨mb,ar,t,m,e,A,E,C,J⟩:=h;exact⟨mb,ar,t,m,e,A,I,C,I⟩
def MtB.take{B:Int}{mt:Option (Nat×MS)}(h:MtB B mt)(n:Nat)(hn:(n:Int)<=65536)(hB:B+65536<=9223372036854775807):z8 n mt=0/\MtB (B+65536) (rZ n mt):=by
 obtain⟨mb,ar,t,m,rfl,A,C,E,J⟩:=h;have e:(MS.mk 9223372036854775807 ar t m).take n=(⟨9223372036854775807,ar+n,t+n,Ma m (ar+n)⟩,0):=by
  unfold MS.take;dsimp only;rw[At I,At I]
 refine⟨?_,mb,ar+n,t+n,Ma m (ar+n),?_,I,I,I,I⟩
 .show((MS.mk 9223372036854775807 ar t m).take n).2=0
  rw[e]
 .show O (mb,((MS.mk 9223372036854775807 ar t m).take n).1)=_
  rw[e]
def a1g(hc:nV c=u)(s:An){B:Int}{mt:Option (Nat×MS)}(h:MtB B mt)(hB:B+65536<=9223372036854775807):(oG c s mt).1=(oG c s U).1/\MtB (B+65536) (oG c s mt).2:=by
 have⟨_,_,⟨C,E⟩,_,_⟩:=ql hc;have h0:=h.le (B':=B+65536) I;unfold oG;split;.exact⟨rfl,h0⟩
 .split
  .exact⟨rfl,h0⟩
  .unfold qA
   split;.exact⟨rfl,h0⟩
   .unfold sK
    generalize qG (nT c.oL s).body.data.toList=q;obtain⟨n,k,e⟩:=q;dsimp only;by_cases he:e≠0;.rw[Ax he,Ax he];exact⟨rfl,h0⟩
    .rw[At he,At he]
     by_cases ho:c.pq<n;.rw[Ax ho,Ax ho];exact⟨rfl,h0⟩
     .rw[At ho,At ho]
      have⟨t1,A⟩:=h.take n I hB;rw[t1,At mX,At (show¬z8 n U≠0 from λh=>h rfl)];cases uV ((nT c.oL s).body.extract k (nT c.oL s).body.size) n with
      |error er=>exact⟨rfl,A⟩
      |ok l=>exact⟨rfl,A⟩
def a1h{f:tJ}(h:tN c rows f=.error er):er≠2:=by
 unfold tN at h;split at h;.injection h with h;omega
 .split at h
  .rename_i e _
   injection h with h
   split at h<;>omega
  .cases h
section
variable {c:nU}{rows:List Row}{n:Nat}{s:An}
def Fq(h:(oG c s U).1=.error er):kY c rows (n+1) s=if er=2 then 0 else er:=by rw[kY,h]
def JH(h:(oG c s U).1=.ok y)(hd:tN c rows y.1=.error er):kY c rows (n+1) s=er:=by rw[kY,h];dsimp only;rw[hd]
def Fs{m:JY}(h:(oG c s U).1=.ok y)(hd:tN c rows y.1=.ok m):kY c rows (n+1) s=kY c rows n (s.extract y.2 s.size):=by rw[kY,h];dsimp only;rw[hd]
end
def LB{c:nU}(hc:nV c=u){rows:List Row}{s S:An}(aa:S.size<=100000)(J:s.size<=S.size)(he:S.extract 0 s.size=s):∀(n p:Nat)(mt:Option (Nat×MS))(B:Int),MtB B mt->B+65536*((n:Int)+1)<=9223372036854775807->p<=s.size->s.size - p<n->
  p<=(uD c rows s n p mt).at_/\(uD c rows s n p mt).at_<=s.size/\kY c rows n (s.extract p s.size)=(if(uD c rows s n p mt).err=2 then 0 else(uD c rows s n p mt).err)/\
  ((uD c rows s n p mt).err=2->(oG c (s.extract (uD c rows s n p mt).at_ s.size) U).1=.error 2/\∀m,S.size<m->kY c rows m (S.extract p S.size)=kY c rows m (S.extract (uD c rows s n p mt).at_ S.size))
 |0,p,mt,B,_,_,_,h=>by omega
 |n+1,p,mt,B,ae,hB,hp,hn=>by
  have af:=ext_size s p hp;have⟨ag,m2⟩:=a1g hc (s.extract p s.size) ae I
  have A:tu c rows (s.extract p s.size) mt=match (oG c (s.extract p s.size) U).1 with
   | .error er=>(.error er,(oG c (s.extract p s.size) mt).2)
   | .ok y=>match tN c rows y.1 with
    | .error er=>(.error er,(oG c (s.extract p s.size) mt).2)
    | .ok m=>(.ok (m,y.2),(oG c (s.extract p s.size) mt).2):=by
   unfold tu;rw[<-ag];have⟨a,b⟩:=oG c (s.extract p s.size) mt;cases a<;>rfl
  cases C:(oG c (s.extract p s.size) U).1 with
  |error er=>
   rw[C]at A;rw[AB c rows s n p mt A];exact⟨iP _,hp,Fq C,λh=>⟨by dsimp only at h|-;rw[C,h],λm _=>rfl⟩⟩
  |ok y=>
   rw[C]at A;dsimp only at A|-;have ak:=yK hc I C;cases hd:tN c rows y.1 with
   |error er=>
    rw[hd]at A;rw[AB c rows s n p mt A];have N:=a1h hd;exact⟨iP _,hp,by rw[JH C hd];dsimp only;rw[At N],λh=>absurd h N⟩
   |ok m=>
    rw[hd]at A;rw[Bj c rows s n p mt A];dsimp only;obtain⟨i1,i2,i3,i4⟩:=LB hc aa J he n (p+y.2) (oG c (s.extract p s.size) mt).2 (B+65536) m2 I I I;have e:(s.extract p s.size).extract y.2 (s.extract p s.size).size=s.extract (p+y.2) s.size:=by rw[af,ko];congr 1<;>omega
    refine⟨I,i2,by rw[Fs C hd,e];exact i3,λh=>⟨(i4 h).1,λk hk=> ?_⟩⟩;rw[<-(i4 h).2 k hk];have ah:=ext_size S p I;obtain⟨k,rfl⟩:∃ai,k=ai+1:=⟨k - 1,I⟩;have e2:(S.extract p S.size).extract 0 (s.size - p)=s.extract p s.size:=by
     rw[<-he,tF (by rw[he];exact iP _),ko,he];congr 1<;>omega
    have E:=JG c (S.extract p S.size) (s.size - p) I;rw[e2,C]at E;rcases E with E|E
    .cases E
    .have e3:(S.extract p S.size).extract y.2 (S.extract p S.size).size=S.extract (p+y.2) S.size:=by rw[ah,ko];congr 1<;>omega
     rw[Fs E.symm hd,e3];have aj:=ext_size S (p+y.2) I;exact wD hc k (k+1) _ I I I
def Td(c:nU)(mt:Option (Nat×MS)):(oG c ⟨#[]⟩ mt).1=.error 2:=by
 unfold oG qA;split;.rfl
 .split
  .rfl
  .rfl
def Te(c:nU):yS c ⟨#[]⟩=0:=by
 unfold yS;split;.rfl
 .rfl
def a1i(s:An){a:Nat}(A:a<=b)(C:b<=d)(E:d<=s.size):(s.extract a b).data.toList++(s.extract b d).data.toList=(s.extract a d).data.toList:=by
 rw[yh,yh,yh];have e:d - a=(b - a)+(d - b):=I;rw[e,List.take_add,List.drop_drop];congr 3;omega
def XT(s:An):(⟨s.data.toList.toArray⟩:An)=s:=cS ny
def Qq(c:nU)(rows:List Row)(s:An):∀(n p:Nat)(mt:Option (Nat×MS)),(uD c rows s n p mt).err≠0
 |0,p,mt=>λh=>by cases h
 |n+1,p,mt=>by
  rcases h:tu c rows (s.extract p s.size) mt with⟨aE,m2⟩
  cases aE with
  |error er=>rw[AB c rows s n p mt h];exact Le (by rw[h])
  |ok y=>rw[Bj c rows s n p mt h];exact Qq c rows s n _ _
structure ByI(c:nU)(rows:List Row)(S:An)(i:Nat)(buf:List AC)(nd:Int):Prop where
 ex:∃p q,p<=q/\q<=i/\i<=S.size/\buf=(S.extract p i).data.toList/\(oG c (S.extract p q) U).1=.error 2/\nd=yS c (S.extract p q)/\
  ∀k m,i<=k->k<=S.size->S.size<m->kY c rows m (S.extract 0 k)=kY c rows m (S.extract p k)
def ByI.start(c:nU)(rows:List Row)(S:An):ByI c rows S 0 [] 0:=by
 have e:S.extract 0 0=⟨#[]⟩:=cS ny;exact⟨0,0,iP _,iP _,jB _,by rw[e],by rw[e];exact Td c U,by rw[e,Te];rfl,λ_ _ _ _ _=>rfl⟩
def Fu(S:An){p a:Nat}(hk:k<=S.size)(hp:p<=k)(h:p+d<=k):(S.extract p k).extract a d=S.extract (p+a) (p+d):=by
 rw[ko];congr 1;omega
def ByI.step(hc:nV c=u)(aF:S.size<=1000){i:Nat}(hi:i<S.size)(h:ByI c rows S i buf nd)(mb:Nat):
  (rX c rows mb buf nd 0 (S.extract i (i+1))).2.2.2=(kY c rows (S.size+1) (S.extract 0 (i+1)):Int)/\
  ((rX c rows mb buf nd 0 (S.extract i (i+1))).2.2.2=0->ByI c rows S (i+1) (rX c rows mb buf nd 0 (S.extract i (i+1))).2.1 (rX c rows mb buf nd 0 (S.extract i (i+1))).2.2.1):=by
 obtain⟨p,q,ag,aA,aB,rfl,N,rfl,C⟩:=h.ex;have hl:(S.extract p i).data.toList++(S.extract i (i+1)).data.toList=(S.extract p (i+1)).data.toList:=a1i S I I I;have E:(S.extract p (i+1)).size=i+1 - p:=by rw[iV];omega
 have hlen:(S.extract p (i+1)).data.toList.length=i+1 - p:=by rw[<-E];exact jR
 have aa:=C (i+1) (S.size+1) I I I;unfold rX;rw[At (dy rfl),hl];by_cases hn:(((S.extract p (i+1)).data.toList.length:Nat):Int)<yS c (S.extract p q)
 .rw[Ax hn]
  have hs:(oG c (S.extract p (i+1)) U).1=.error 2:=by
   have e:(S.extract p (i+1)).extract 0 (q - p)=S.extract p q:=by rw[Fu S I I I];congr 1;omega
   refine Tc (k:=q - p) I (by rw[e];exact N) ?_;rw[e,E];rw[hlen]at hn;omega
  refine⟨by rw[aa,Fq hs];rfl,λ_=>⟨p,q,ag,I,I,rfl,N,rfl,λk m ae A ah=>C k m I A ah⟩⟩
 .rw[At hn,XT,hlen]
  have ai:(S.extract i (i+1)).size=1:=by rw[iV];omega
  have av:MtB 1 (O (mb,((MS.new 9223372036854775807).take (S.extract i (i+1)).size).1)):=by
   rw[ai];have e:MS.new 9223372036854775807=⟨9223372036854775807,0,0,0⟩:=rfl;rw[e];refine⟨mb,1,1,Ma 0 1,?_,mX,mX,mX,mX⟩;unfold MS.take;dsimp only;rw[At I,At I];rfl
  generalize aD:(O (mb,((MS.new 9223372036854775807).take (S.extract i (i+1)).size).1))=mt at*
  have key:=λ(k:Nat) (ae:i+1<=k) (A:k<=S.size)=>LB hc (rows:=rows) (s:=S.extract p (i+1)) (S:=S.extract p k) (by rw[iV];omega) (by rw[iV,iV];omega)
   (by rw[Fu S A I I,E];congr 1;omega) (i+1 - p+1) 0 mt 1 av I I I
  have⟨_,aG,aj,_⟩:=key (i+1) I I;have ak:=λk ae A=>(key k ae A).2.2.2
  have af:=Qq c rows (S.extract p (i+1)) (i+1 - p+1) 0 mt;generalize uD c rows (S.extract p (i+1)) (i+1 - p+1) 0 mt=aE at*;have ax:(S.extract p (i+1)).extract 0 (S.extract p (i+1)).size=S.extract p (i+1):=ByteArray.extract_zero_size;rw[ax]at aj;have ay:kY c rows (i+1 - p+1) (S.extract p (i+1))=kY c rows (S.size+1) (S.extract p (i+1)):=wD hc _ _ _ I I I;rw[aa,<-ay,aj];dsimp only;by_cases A:aE.err=2
  .rw[Ax A,Ax A,Ax A]
   refine⟨rfl,λ_=>⟨p+aE.at_,i+1,I,iP _,I,?_,?_,?_,λk m ah J az=> ?_⟩⟩
   .rw[yh,yh,List.drop_take,List.drop_drop]
    congr 1;omega
   .have:=(ak (i+1) I I A).1
    rw[Fu S I I I,E]at this;rw[show p+(i+1 - p)=i+1 by omega]at this;exact this
   .rw[Fu S I I I,E,show p+(i+1 - p)=i+1 by omega]
   .rw[C k m I J az]
    have au:(S.extract p k).size=k - p:=by rw[iV];omega
    have:=(ak k I J A).2 m I;rw[au,Fu S J I I,Fu S J I I,show p+(k - p)=k by omega]at this;exact this
  .rw[At A,At A,At A]
   refine⟨rfl,λh0=> ?_⟩;exfalso;have:=af;omega
def Qr(hc:nV c=u)(C:S.size<=1000)(hk:k<=S.size)(h:kY c rows (S.size+1) (S.extract 0 k)≠0):kY c rows (S.size+1) S=kY c rows (S.size+1) (S.extract 0 k):=by
 rcases Gd hc (rows:=rows) (S.size+1) S k I hk with A|A
 .exact absurd A h
 .exact A.symm
def sP(b:Nat):Nat:=if b % 4=0 then(if 60<=b/4 then b/4 - 58 else 1)else if b % 4=1 then 2 else if b % 4=2 then 3 else 5
def Hl(h:p:=by
 go_in;go_wp2;go_returns;exact⟨by rw[HQ.out];rfl,rfl⟩):p:=h
def Qs(b:Nat)(w:K)(hb:b<=255):iW iN 153 #[V X b] w λe w'=>e=mK (V X (sP b:Nat))/\w'=w:=by
 have⟨aE,E⟩:=nE (sP b);have C:=Y E;rw[E];have⟨v,J⟩:∃v:Nat,b/4=v:=⟨_,rfl⟩;have⟨m,N⟩:∃m:Nat,b % 4=m:=⟨_,rfl⟩;have A:R (b/4=v/\b % 4=m):=Y ⟨J,N⟩;have e1:(b:Int).tdiv 4=(v:Int):=by rw[dk I,<-J];omega
 have e2:(b:Int).tmod 4=(m:Int):=by rw[dg I,<-N];omega
 have aa:v<=63:=I;have ae:m<=3:=I;rcases m with _|_|_|_|m
 .by_cases c:60<=v
  .have HQ:R (aE=v - 58):=Y (by rw[<-C.out];unfold sP;rw[A.1,A.2,Ax rfl,Ax c])
   go_in;go_wp2;go_returns;have e3:((v - 58:Nat):Int)=1+(v:Int) - 59:=I;exact⟨by rw[HQ.out,e3];rfl,rfl⟩
  .have HQ:R (aE=1):=Y (by rw[<-C.out];unfold sP;rw[A.1,A.2,Ax rfl,At c])
   exact Hl
 .have HQ:R (aE=2):=Y (by rw[<-C.out];unfold sP;rw[A.2];rfl)
  exact Hl
 .have HQ:R (aE=3):=Y (by rw[<-C.out];unfold sP;rw[A.2];rfl)
  exact Hl
 .have HQ:R (aE=5):=Y (by rw[<-C.out];unfold sP;rw[A.2];rfl)
  exact Hl
 .omega
def Nr(s:An)(w:K)(E:s.size<=4):iW iN 154 #[H s] w λe w'=>e=mK (V X (oM s.data.toList:Nat))/\w'=w:=by
 have J:=Y (sZ s w yF);have aa:(⟨s.data.toList.reverse.toArray⟩:An).size<=8:=by
  have:(⟨s.data.toList.reverse.toArray⟩:An).size=s.data.toList.reverse.length:=lh;rw[this,lC];simp;omega
 have A:=Y (uC ⟨s.data.toList.reverse.toArray⟩ w aa);have ae:qY (⟨s.data.toList.reverse.toArray⟩:An).data.toList=oM s.data.toList:=by
  unfold qY;show oM (s.data.toList.reverse.toArray.toList.reverse)=_;rw[lW,lU]
 rw[ae]at A;have hlt:oM s.data.toList<4294967296:=by
  have C:=qD s.data.toList;have af:s.data.toList.length=s.size:=ny;rw[af]at C;exact jy C (jk (kR mX E) mX)
 generalize oM s.data.toList=N at*;generalize (⟨s.data.toList.reverse.toArray⟩:An)=T at*;go_in;go_wp2_with fail;refine vE J ?_;go_wp2_with fail;refine vE A ?_;exact qF
end
section
open Go.RowKit Go.Maps
structure Q4 where
 a:AC
 b:AC
 c:AC
 d:AC
 deriving DecidableEq
abbrev PkM:=List (Q4×Nat)
def Tf(n:Nat)(h:n<=65536):(oz n).length<=10:=by
 have:=wV 3 n I;omega
section
variable {t:An}{p:Nat}
end
def Qt{L:List AC}:∀ f n i j:Nat,n<=f->j<i->i+n<=L.length->(∀q,q<n->L[j+q]? =L[i+q]?)->vX f n (i - j) (L.take i)=L.take (i+n)
 |0,n,i,j,h,_,_,_=>by
  obtain rfl:n=0:=I;rfl
 |f+1,n,i,j,h,N,hl,A=>by
  unfold vX;by_cases h0:n=0;.rw[Ax h0,h0,mh]
  rw[At h0];have⟨m,C⟩:=nE (min n (i - j));have aa:1<=m/\m<=n/\m<=i - j:=I;rw[C];have E:L.take i++((L.take i).drop ((L.take i).length -(i - j))).take m=L.take (i+m):=by
   rw[jQ,lZ (by omega:i<=L.length),show i -(i - j)=j by omega];apply List.ext_getElem?;intro k;by_cases hk:k<i;.rw[kr (by rw[jQ];omega),lM,lM,Ax hk,Ax I]
   .rw[kX (by rw[jQ];omega),jQ,lZ (by omega:i<=L.length),lM,lM]
    by_cases hk2:k - i<m;.rw[Ax hk2,Ax I,dj,lM,Ax I,A (k - i) I,show i+(k - i)=k by omega]
    .rw[At hk2,At I]
  rw[E];have:=Qt (L:=L) f (n - m) (i+m) (j+m) I I I (λq J=>by rw[show j+m+q=j+(m+q)by omega,A _ I,show i+(m+q)=i+m+q by omega]);rw[show i+m -(j+m)=i - j by omega,show i+m+(n - m)=i+n by omega]at this;exact this
end
section
open Go.RowKit
def RS.rest(r:RS):An:=r.t.extract r.p r.t.size
def El(b:Nat)(s:An):Nat:=if 60<=b/4 then oM (s.extract 1 (sP b)).data.toList+1 else b/4+1
def Qu(b:Nat):Nat:=if b % 4=1 then 4+b/4 % 8 else b/4+1
def Kv(b:Nat)(s:An):Nat:=if b % 4=1 then b/4/8*256+oM (s.extract 1 (sP b)).data.toList else oM (s.extract 1 (sP b)).data.toList
def ElS(b:Nat)(s:An)(l:List AC)(size:Nat)(A:An)(C:List AC):Prop:=
 sP b<=s.size/\(b % 4=0/\El b s<=s.size - sP b/\l.length+El b s<=size/\A=(s.extract (sP b) s.size).extract (El b s) (s.size - sP b)/\C=l++((s.extract (sP b) s.size).extract 0 (El b s)).data.toList\/
  b % 4≠0/\1<=Kv b s/\Kv b s<=l.length/\l.length+Qu b<=size/\A=s.extract (sP b) s.size/\C=vX (Qu b) (Qu b) (Kv b s) l)
def xg(h:r.Ok):r.rest.size=r.t.size - r.p:=by
 have:=h.1;unfold RS.rest;rw[iV];omega
def VI{n:Int}(h:(r.take n).1.f=0)(ho:r.Ok):r.f=0/\0<=n/\r.p+n.toNat<=r.t.size/\(r.take n).1=⟨r.t,r.p+n.toNat,0⟩/\(r.take n).2=r.t.extract r.p (r.p+n.toNat):=by
 obtain⟨C,E⟩:=ho;unfold RS.take at h|-;split at h
 .rename_i A
  rw[Ax A];split at h;.simp at h
  .rename_i hn
   rw[At hn];split at h;.simp at h
   .rename_i hs
    rw[At hs];exact⟨A,I,I,rfl,rfl⟩
 .rename_i A;exact absurd h A
def Hm(t:An)(p k:Nat)(f:Int)(h:p+k<=t.size):(⟨t,p+k,f⟩:RS).rest=(t.extract p t.size).extract k (t.size - p):=by
 show t.extract (p+k) t.size=_;rw[ko];congr 1;omega
def a4m(t:An)(p k n:Nat)(h:p+k+n<=t.size):t.extract (p+k) (p+k+n)=(t.extract p t.size).extract k (k+n):=by
 rw[ko];congr 1;omega
def VJ{t:An}{p:Nat}(ho:(⟨t,p+1,0⟩:RS).Ok)(h:(rO (b % 4) (b/4) ⟨t,p+1,0⟩).1.f=0):
  p+sP b<=t.size/\rO (b % 4) (b/4) ⟨t,p+1,0⟩=(⟨t,p+sP b,0⟩,if b % 4=0 then El b (t.extract p t.size)else Qu b,if b % 4=0 then 0 else Kv b (t.extract p t.size)):=by
 have key:∀n:Nat,((⟨t,p+1,0⟩:RS).take (n:Nat)).1.f=0->p+(1+n)<=t.size/\((⟨t,p+1,0⟩:RS).take (n:Nat)).1=⟨t,p+(1+n),0⟩/\vI ⟨t,p+1,0⟩ (n:Nat)=oM ((t.extract p t.size).extract 1 (1+n)).data.toList:=λn hn=>by
  have⟨_,_,ae,af,ag⟩:=VI hn ho;have e:((n:Int)).toNat=n:=I;rw[e]at ae af ag;dsimp only at ae af ag;refine⟨I,by rw[af,j3],?_⟩;unfold vI;rw[ag,a4m t p 1 n ae]
 unfold rO at h|-;unfold El Qu Kv sP;by_cases J:b % 4=0
 .rw[Ax J]at h|-
  rw[Ax J,Ax J,Ax J];by_cases c:60<=b/4
  .rw[Ax c]at h|-
   have ah:((b/4:Nat):Int) - 59=((b/4 - 59:Nat):Int):=I;rw[ah]at h|-;have⟨N,A,C⟩:=key _ h;rw[Ax c,A,C];have e2:1+(b/4 - 59)=b/4 - 58:=I;rw[e2]at N|-;exact⟨N,by rw[Ax c]⟩
  .rw[At c]at h|-
   rw[At c];exact⟨ho.1,by rw[At c]⟩
 .rw[At J]at h|-
  rw[At J,At J,At J];by_cases E:b % 4=1
  .rw[Ax E]at h|-
   rw[Ax E,Ax E];have⟨N,A,C⟩:=key 1 h;have A:((⟨t,p+1,0⟩:RS).take 1).1=⟨t,p+2,0⟩:=A;have C:vI ⟨t,p+1,0⟩ 1=oM ((t.extract p t.size).extract 1 2).data.toList:=C;rw[A,C,Ax E];exact⟨N,rfl⟩
  .rw[At E]at h|-
   rw[At E,At E];by_cases aa:b % 4=2
   .rw[Ax aa]at h|-
    have⟨N,A,C⟩:=key 2 h;have A:((⟨t,p+1,0⟩:RS).take 2).1=⟨t,p+3,0⟩:=A;have C:vI ⟨t,p+1,0⟩ 2=oM ((t.extract p t.size).extract 1 3).data.toList:=C;rw[A,C,At E,Ax aa];exact⟨N,rfl⟩
   .rw[At aa]at h|-
    have⟨N,A,C⟩:=key 4 h;have A:((⟨t,p+1,0⟩:RS).take 4).1=⟨t,p+5,0⟩:=A;have C:vI ⟨t,p+1,0⟩ 4=oM ((t.extract p t.size).extract 1 5).data.toList:=C;rw[A,C,At E,At aa];exact⟨N,rfl⟩
def a4n{an:RS×Nat×Nat}{size:Nat}(h:(uT k an l size).1.f=0):an.1.f=0/\(k≠0->1<=an.2.2/\an.2.2<=l.length)/\an.2.1<=size - l.length/\
  uT k an l size=if k=0 then((an.1.take (an.2.1:Nat)).1,l++(an.1.take (an.2.1:Nat)).2.data.toList)else(an.1,vX an.2.1 an.2.1 an.2.2 l):=by
 unfold uT at h|-;by_cases h0:an.1.f=0
 .rw[At (dy h0)]at h|-
  by_cases A:(k≠0/\(an.2.2=0\/l.length<an.2.2))\/size - l.length<an.2.1
  .rw[Ax A]at h
   unfold RS.fail at h;rw[Ax h0]at h;cases h
  .rw[At A]
   exact⟨h0,λhk=>by omega,I,rfl⟩
 .rw[Ax h0]at h;exact absurd h h0
def XU{size:Nat}(ho:r.Ok)(h0:r.f=0)(J:r.p<r.t.size)(hl:l.length<=size)(h:(p8 r l size).1.f=0):
  ∃ae:0<r.rest.size,ElS (r.rest[0]'ae).toNat r.rest l size (p8 r l size).1.rest (p8 r l size).2:=by
 have C:=xg ho;refine⟨I,?_⟩;have hb:(r.rest[0]' I)=r.t[r.p]:=by
  unfold RS.rest;rw[ByteArray.getElem_extract];rfl
 rw[hb];have N:r.byte=(⟨r.t,r.p+1,0⟩,(r.t[r.p].toNat:Int)):=by
  unfold RS.byte;rw[Ax h0,dif_pos J]
 unfold p8 at h|-;rw[N]at h|-;generalize r.t[r.p].toNat=b at*;obtain⟨t,p,f⟩:=r;dsimp only at*;have aa:(⟨t,p+1,0⟩:RS).Ok:=⟨J,ho.2⟩;have af:((b:Int)).toNat=b:=I;rw[af]at h|-;have ag:(⟨t,p,f⟩:RS).rest=t.extract p t.size:=rfl;rw[ag]at C|-;have C:=C;have⟨b1,E,b3,b4⟩:=a4n h;have⟨g1,g2⟩:=VJ aa b1;rw[b4]at h|-;rw[g2]at h b1 E b3|-;dsimp only at*;refine⟨I,?_⟩;by_cases A:b % 4=0
 .left
  rw[Ax A]at h|-;rw[Ax A]at h b3|-;have hok:(⟨t,p+sP b,0⟩:RS).Ok:=⟨g1,ho.2⟩;have⟨_,_,t3,t4,t5⟩:=VI h hok;have e:((El b (t.extract p t.size):Nat):Int).toNat=El b (t.extract p t.size):=I;rw[e]at t3 t4 t5;dsimp only at t3 t4 t5;generalize El b (t.extract p t.size)=n at*;rw[t4,t5,C];refine⟨A,I,I,?_,?_⟩
  .rw[Hm t (p+sP b) n 0 t3]
   have:=Hm t p (sP b) 0 g1;have e3:=this.symm;rw[e3];congr 1;omega
  .show l++(t.extract (p+sP b) (p+sP b+n)).data.toList=l++_
   have:=Hm t p (sP b) 0 g1;have e3:(t.extract p t.size).extract (sP b) (t.size - p)=t.extract (p+sP b) t.size:=this.symm;rw[e3,ko,mh,lZ t3]
 .right
  simp only[At A]at h E b3|-;have⟨c1,c2⟩:=E A;refine⟨A,c1,c2,I,?_,by first|trivial|rfl⟩;rw[Hm t p (sP b) 0 g1,C]
def uH(P:j6)(g o:Nat)(t:jl)(C:Nat×Nat):∀(vs:List iQ)(i:Nat)(A:Array iQ)(w:K),w.heap[g]? =O (mM A t C)->(C.2<=C.1\/A.size<=C.1)->o+i+vs.length<=A.size->(∀v∈vs,v.oneCell'=u)->
  (storeCells (Z g o U) vs i).run P w=.ok () (w.setRow g (A.toList.take (o+i)++vs++A.toList.drop (o+i+vs.length)).toArray)
 |[],i,A,w,hg,_,_,_=>by
  simp only[storeCells,List.append_nil,dq,mh,kS,Array.toArray_toList];rw[setRow_self w g A t C hg];rfl
 |v::rest,i,A,w,hg,J,hl,ae=>by
  have hi:o+i<A.size:=by simp at hl;omega
  have N:((Z g o U):j4).add i=(Z g (o+i) U):=J3;have E:w.cell? (Z g (o+i) U)=O A[o+i]:=by simp[lV,hg,hi]
  have aa:w.frozen? (Z g (o+i) U)=M:=by
   obtain⟨lo,af⟩:=C;simp only at J;have:¬(lo<=o+i/\o+i<af):=I;simpa [World.frozen?,hg]using this
  have ag:(store (((Z g o U):j4).add i) v).run P w=.ok () (w.setRow g (A.setIfInBounds (o+i) v)):=by
   rw[N,run_store P w _ v _ (ae v ny),E];simp[aa,setCell_eq_setRow w g (o+i) A t C v hg]
  have ah:=uH P g o t C rest (i+1) (A.setIfInBounds (o+i) v) (w.setRow g (A.setIfInBounds (o+i) v)) (setRow_heap w g A _ t _ hg) (by simpa using J) (by simp at hl|-;omega) (λx ai=>ae x (by simp[ai]));simp only[storeCells,Sem.run_bind,ag,lK,ah,setRow_setRow];congr 3;have e:=list_seg_step A.toList (o+i) v rest (by simp at hl|-;omega);simpa [Array.toList_setIfInBounds,j3]using e
def qo(w:K)(B:Nat)(e:jl)(v:iQ)(l:List AC):Prop:=
 (v=G U 0 0/\l=[])\/∃g cap A C,v=G (O (Z g 0 U)) l.length cap/\B<=g/\w.heap[g]? =O (mM A e C)/\(C.2<=C.1\/A.size<=C.1)/\l.length<=cap/\cap<=jd/\A.size=cap/\A.toList.take l.length=nI l
section
variable {P:j6}{t e s:jl}{w w':K}{B:Nat}{v:iQ}{l:List AC}
def qo.of(h:nS w B e v l):qo w B e v l:=by
 obtain⟨ag,A⟩:=h;rcases A with⟨rfl,A⟩|⟨g,cap,C,E,hg,J,N,aa,ae,af⟩
 .exact .inl ⟨rfl,cV A⟩
 .exact .inr ⟨g,cap,C,(0,0),E,hg,J,.inl (iP _),N,aa,by simpa using ae,by simpa using af⟩
def qo.blk(h:qo w B e v l):∀b,v.ownBlock=O b->B<=b/\b<w.heap.size:=by
 intro k hk;rcases h with⟨rfl,_⟩|⟨g,cap,A,C,rfl,hb,hg,_⟩
 .simp[jK]at hk
 .simp[jK]at hk
  subst hk;exact⟨hb,(jE.1 hg).1⟩
def qo.kp(h:qo w B e v l)(k:rF F w w')(hn:∀b,v.ownBlock=O b->¬F b):qo w' B e v l:=by
 rcases h with h|⟨g,cap,A,J,C,hg,E,r⟩
 .exact .inl h
 .exact .inr ⟨g,cap,A,J,C,hg,by rw[k.block g (jE.1 E).1 (hn g (by rw[C];rfl))];exact E,r⟩
def qo.below(h:qo w B e v l)(hb:iR w.heap.size w w'):qo w' B e v l:=h.kp (F:=λ_=>False) (rF.of hb) λ_ _ h=>h
def qo.alloc(h:qo w B e v l)(o:Obj):qo (w.alloc o) B e v l:=h.below ((iT w.heap.size w).alloc (iP _) o)
def qo.base{C:Nat}(h:qo w B e v l)(E:C<=B):qo w C e v l:=by
 rcases h with h|⟨g,cap,A,J,N,hg,r⟩
 .exact .inl h
 .exact .inr ⟨g,cap,A,J,N,jk E hg,r⟩
def qo.len(h:qo w B e v l):∃A C,v=G A l.length C:=by
 rcases h with⟨rfl,rfl⟩|⟨g,cap,E,J,rfl,_⟩
 .exact⟨_,_,rfl⟩
 .exact⟨_,_,rfl⟩
def qo.cells(h:qo w B e v l)(hg:v.ownBlock=O g):∀j ar,(nI l)[j]? =O ar->w.cell? (Z g j U)=O ar:=by
 intro j ar A;rcases h with⟨rfl,_⟩|⟨J,cap,C,N,rfl,_,E,_,_,_,_,htake⟩
 .simp[jK]at hg
 .simp[jK]at hg
  subst hg;rw[cell_of_row w J j C e N E];rw[<-htake,lM]at A;split at A;.simpa using A
  .cases A
def qo.string(T:pE P t e s)(h:qo w B e v l):(convert t s v).run P w=.ok (H ⟨l.toArray⟩) w:=by
 rcases h with⟨rfl,rfl⟩|⟨g,cap,C,J,rfl,hb,hg,E,A,N,hsz,htake⟩
 .exact TU
 .have h:qo w B e (G (O (Z g 0 U)) l.length cap) l:=.inr ⟨g,cap,C,J,rfl,hb,hg,E,A,N,hsz,htake⟩
  refine run_convert_bytes_back w t s e (Z g 0 U) cap l T.ht T.he T.hs λj aa=> ?_
  have:=h.cells (g:=g) rfl j (V .u8 (l[j].toNat:Int)) (by simp[nI,ja aa]);have e1:((Z g 0 U):j4).add j=(Z g j U):=J3;rw[e1];exact this
def a1j(h:p:=by
 have:=qo.cells (.inr ⟨g,cap,cur,fz,rfl,hbg,hg,hfz,hnc,hcm,hcs,htake⟩:qo w B e (G (O (Z g 0 U)) l.length cap) l) (g:=g) rfl j ar hu;have e1:((Z g 0 U):j4).add j=(Z g j U):=J3;rw[e1];exact this):p:=h
def Em(T:pE P t e s)(ty:jl)(h:qo w B e v l)(m:List AC)(a:j4)(c:Nat)(C:∀j ar,(nI m)[j]? =O ar->w.cell? (a.add j)=O ar)(hlen:l.length+m.length<=140737488355328)(hB:B<=w.heap.size):
  ∃v' w',(Builtin.append_ #[t,t] ty #[v,G (O a) m.length c]).run P w=.ok v' w'/\qo w' B e v' (l++m)/\w.grownBy w' v.ownBlock/\(v'.ownBlock=v.ownBlock\/∃g,v'.ownBlock=O g/\w.heap.size<=g):=by
 have⟨i,hi,ae,A,J⟩:=info_parts T.hi;rcases h with⟨rfl,rfl⟩|⟨g,cap,cur,fz,rfl,hbg,hg,hfz,hnc,hcm,hcs,htake⟩
 .have⟨v',w',af,ah,ak,au⟩:=run_append_own (P:=P) w B t ty e i (V .u8 0) 1 1 T.ht hi ae A J rfl mX (G U 0 0) 0 [] (World.ownsRow_nil w B e 1) a m.length c (nI m) ny C (vH m) yF I hB
  refine⟨v',w',af,qo.of ?_,ak,?_⟩
  .show w'.ownsRow B e 1 v' (([]:List AC)++m).length (nI ([]++m))
   simpa using ah
  .rcases ah.2 with⟨rfl,_⟩|⟨g,cap,cur,rfl,hb,hg,_⟩
   .exact .inl rfl
   .refine .inr ⟨g,rfl,?_⟩
    by_cases av:m.length=0;.have:=(au.2 ⟨rfl,av⟩);cases this
    .have hlt:=(jE.1 hg).1
     refine Nat.le_of_not_lt λay=> ?_
     have⟨i2,az,_⟩:=info_parts T.hi;have ag:=run_append_nil (P:=P) w t ty e i (V .u8 0) T.ht hi ae a m.length c (nI m) (by simp[A]) C I I (by rw[J];omega);rw[ag]at af;simp only[Result.ok.injEq,Value.slice.injEq,lS,Addr.mk.injEq]at af;omega
 .by_cases E:l.length+m.length<=cap
  .have ax:=run_firstCells_some (P:=P) w i.size m.length a m.length c (nI m) (by simp[A]) C
   have aa:=uH P g (l.length*i.size) e fz (nI m) 0 cur w hg hfz (by simp[A];omega) (vH m);simp only[mh]at aa;refine⟨G (O (Z g 0 U)) (l.length+m.length) cap,w.setRow g (cur.toList.take (l.length*i.size)++nI m++cur.toList.drop (l.length*i.size+(nI m).length)).toArray,?_,.inr ⟨g,cap,_,fz,ny,hbg,setRow_heap w g cur _ e _ hg,?_,by simpa using E,hcm,?_,?_⟩,⟨rfl,rfl,rfl,ny,λk _ hk=>setRow_other w g k _ (λe=>hk (by simp[jK,e]))⟩,.inl rfl⟩;.simp[Builtin.append_,run_underlying T.ht,sizeOf,typeInfo,hi,Builtin.lenOf,E,ax,Addr.add_lit,aa]
   .simp only[lh,jo,jQ,jP,jR,rC,A,Nat.mul_one]
    rcases hfz with h|h
    .exact .inl h
    .exact .inr I
   .simp only[lh,jo,jQ,jP,jR,rC,A,Nat.mul_one]
    omega
   .simp only[A,Nat.mul_one]
    rw[htake,pF];exact dr ny
  .have N:∀j ar,(nI l)[j]? =O ar->w.cell? (((Z g 0 U):j4).add j)=O ar:=λj ar hu=>by
    exact a1j
   have ag:=run_append_grow (P:=P) w t ty e i (V .u8 0) T.ht hi ae (Z g 0 U) l.length cap (nI l) (by simp[A]) N a m.length c (nI m) (by simp[A]) C I I (growslice_fits I (by rw[J];omega));have ai:=grownCap_ge w (l.length+m.length) cap e;refine⟨_,_,ag,.inr ⟨w.heap.size,grownCap w (l.length+m.length) cap e,_,(0,0),ny,hB,heap_alloc_new w.drew _,.inl (iP _),by simpa using ai,grownCap_le_maxLen w _ cap e yF,?_,?_⟩,⟨rfl,rfl,rfl,ny,λk hk _=>heap_alloc_old w.drew _ hk⟩,.inr ⟨_,rfl,iP _⟩⟩
   .have aj:(lL IntKind.u8 0).cells.size=1:=rfl
    simp only[Array.size_append,lh,size_zeroCells,aj,rC];omega
   .simp only[ma,cC]
    rw[<-cC,<-pF];exact dr ny
def JI(T:pE P t e s){rest:List kC}{o:kC}{a:lY}(J:o.guard=U)(x y:Operand)(ho:o.op=.call {callee:=.builtin .append,args:=#[x,y],argTypes:=#[t,t]})(B:Nat)(v:iQ)(l m:List AC)(k:Nat)(hk:k=m.length)(w:K)(cs:Array iQ)(hcs:cs.toList=nI m)(af:a.eval x=v)(E:qo w B e v l)(hy:a.eval y=G (O (Z w.heap.size 0 U)) k k)(hlen:l.length+k<=140737488355328)(hB:B<=w.heap.size)(h:∀v' w',qo w' B e v' (l++m)->w.grownBy w' v.ownBlock->(v'.ownBlock=v.ownBlock\/∃g,v'.ownBlock=O g/\w.heap.size<=g)->mq P ops Q rest (a.put o.dst v') w'):
  mq P ops Q (o::rest) a (w.alloc (mM cs e)):=by
 subst hk;have N:=(iT w.heap.size w).alloc (iP _) (mM cs e);have aa:=mY.new w cs e;have⟨v',w',ag,ah,A,C⟩:=Em (w:=w.alloc (mM cs e)) T o.type (E.alloc _) m (Z w.heap.size 0 U) m.length (λj ar ai=>by
  have e1:((Z w.heap.size 0 U):j4).add j=(Z w.heap.size j U):=J3;rw[e1,aa.cell,<-ai,<-hcs,Array.getElem?_toList]) hlen nk
 refine wpList_plain J λaq aj=> ?_
 unfold Oper.wp execOp;simp only[ho,resolve,invoke,builtin,Sem.run_bind,Sem.run_pure,lK,dc,lg,cE,af,hy,ag];refine aj _ _ (h v' w' ah ⟨A.os,A.tape,A.output,by have:=A.size;simp at this;omega,λc hc ae=>(A.block c nk ae).trans (N.block c hc)⟩ ?_);rcases C with C|⟨g,C,ak⟩
 .exact .inl C
 .exact .inr ⟨g,C,by simp at ak;omega⟩
def Tg(T:pE P t e s){rest:List kC}{o:kC}{a:lY}(aj:o.guard=U)(x y:Operand)(ho:o.op=.call {callee:=.builtin .append,args:=#[x,y],argTypes:=#[t,s]})(B:Nat)(v:iQ)(l:List AC)(S:An)(w:K)(av:a.eval x=v)(ai:qo w B e v l)(hy:a.eval y=H S)(hlen:l.length+S.size<=140737488355328)(hB:B<=w.heap.size)(h:∀v' w',qo w' B e v' (l++S.data.toList)->w.grownBy w' v.ownBlock->(v'.ownBlock=v.ownBlock\/∃g,v'.ownBlock=O g/\w.heap.size<=g)->mq P ops Q rest (a.put o.dst v') w'):
  mq P ops Q (o::rest) a w:=by
 have⟨i,hi,ak,C,ag⟩:=info_parts T.hi;have e1:Lib.strCells S=nI S.data.toList:=by simp[Lib.strCells,nI]
 have A:S.data.toList.length=S.size:=jR;refine wpList_plain aj λaq ax=> ?_
 suffices∃v' w',(Builtin.append_ #[t,s] o.type #[v,H S]).run P w=.ok v' w'/\qo w' B e v' (l++S.data.toList)/\w.grownBy w' v.ownBlock/\(v'.ownBlock=v.ownBlock\/∃g,v'.ownBlock=O g/\w.heap.size<=g)by
  obtain⟨v',w',J,ay,az,aA⟩:=this;unfold Oper.wp execOp;simp only[ho,resolve,invoke,builtin,Sem.run_bind,Sem.run_pure,lK,dc,lg,cE,av,hy,J];exact ax _ _ (h v' w' ay az aA)
 rcases ai with⟨rfl,rfl⟩|⟨g,cap,cur,fz,rfl,hbg,hg,hfz,hnc,hcm,hcs,htake⟩
 .by_cases h0:S.size=0
  .have hn:S.data.toList=[]:=cV I
   have ae:=Lib.run_firstCells_string (P:=P) w 1 S;refine⟨G U 0 0,w,?_,.inl ⟨rfl,by rw[hn];rfl⟩,⟨rfl,rfl,rfl,iP _,λ_ _ _=>rfl⟩,.inl rfl⟩;rw[h0]at ae;have au:Lib.strCells S=[]:=by rw[e1,hn];rfl
   simp[Builtin.append_,run_underlying T.ht,run_underlying T.hs,sizeOf,typeInfo,hi,C,Builtin.lenOf,h0,ae,au,storeCells]
  .have J:=run_append_nil_string (P:=P) w t s o.type e i (V .u8 0) T.ht T.hs hi ak S I (by simp at hlen;omega) (by rw[ag];simp at hlen;omega)
   have N:=grownCap_ge w S.size 0 e;refine⟨_,_,J,.inr ⟨w.heap.size,grownCap w S.size 0 e,_,(0,0),by simp[A],hB,heap_alloc_new w.drew _,.inl (iP _),by simpa [A]using N,grownCap_le_maxLen w _ 0 e (by simp at hlen;unfold jd;omega),?_,?_⟩,⟨rfl,rfl,rfl,ny,λk hk _=>heap_alloc_old w.drew _ hk⟩,.inr ⟨_,rfl,iP _⟩⟩
   .have aa:(lL IntKind.u8 0).cells.size=1:=rfl
    have aB:S.data.size=S.size:=rfl;simp only[Array.size_append,Array.size_map,size_zeroCells,aa,aB];omega
   .simp only[ma,Array.toList_map,cW]
    exact dr ny
 .by_cases E:l.length+S.size<=cap
  .have ae:=Lib.run_firstCells_string (P:=P) w 1 S
   have ah:=uH P g l.length e fz (Lib.strCells S) 0 cur w hg hfz (by simp[Lib.strCells_length];omega) (Lib.strCells_oneCell S);simp only[mh,Lib.strCells_length]at ah;refine⟨G (O (Z g 0 U)) (l.length+S.size) cap,w.setRow g (cur.toList.take l.length++Lib.strCells S++cur.toList.drop (l.length+S.size)).toArray,?_,.inr ⟨g,cap,_,fz,by simp[A],hbg,setRow_heap w g cur _ e _ hg,?_,by simpa [A]using E,hcm,?_,?_⟩,⟨rfl,rfl,rfl,ny,λk _ hk=>setRow_other w g k _ (λe=>hk (by simp[jK,e]))⟩,.inl rfl⟩;.simp[Builtin.append_,run_underlying T.ht,run_underlying T.hs,sizeOf,typeInfo,hi,C,Builtin.lenOf,E,ae,Addr.add_lit,ah]
   .simp only[lh,jo,jQ,jP,jR,Lib.strCells_length]
    rcases hfz with h|h
    .exact .inl h
    .exact .inr I
   .simp only[lh,jo,jQ,jP,jR,Lib.strCells_length]
    omega
   .rw[htake,pF,e1]
    exact dr ny
  .have af:∀j ar,(nI l)[j]? =O ar->w.cell? (((Z g 0 U):j4).add j)=O ar:=λj ar hu=>by
    exact a1j
   have J:=Lib.run_append_grow_string (P:=P) w t s o.type e i (V .u8 0) T.ht T.hs hi ak (Z g 0 U) l.length cap (nI l) (by simp[C]) af S I I (by rw[ag];exact growslice_fits I I);have N:=grownCap_ge w (l.length+S.size) cap e;refine⟨_,_,J,.inr ⟨w.heap.size,grownCap w (l.length+S.size) cap e,_,(0,0),by simp[A],hB,heap_alloc_new w.drew _,.inl (iP _),by simpa [A]using N,grownCap_le_maxLen w _ cap e yF,?_,?_⟩,⟨rfl,rfl,rfl,ny,λk hk _=>heap_alloc_old w.drew _ hk⟩,.inr ⟨_,rfl,iP _⟩⟩
   .have aa:(lL IntKind.u8 0).cells.size=1:=rfl
    simp only[Array.size_append,lh,size_zeroCells,aa,rC,Lib.strCells_length];omega
   .simp only[ma,cC]
    rw[<-cC,e1,<-pF];exact dr ny
end
structure Ns(B:Nat)(v:iQ)(w:K)(v':iQ)(l:List AC)(w':K):Prop where
 own:qo w' B 5 v' l
 kp:rF (λd=>v.ownBlock=O d) w w'
 at_:v'.ownBlock=v.ownBlock\/∃g,v'.ownBlock=O g/\w.heap.size<=g
def Ns.of{v v':iQ}(h:qo w' B 5 v' l)(k:w.grownBy w' v.ownBlock)(a:v'.ownBlock=v.ownBlock\/∃g,v'.ownBlock=O g/\w.heap.size<=g):Ns B v w v' l w':=⟨h,rF.grown k λ_ e=>e,a⟩
def Ns.trans{v v' v2:iQ}{l2:List AC}(h:Ns B v w v' l w')(k:Ns B v' w' v2 l2 w2):Ns B v w v2 l2 w2:=by
 refine⟨k.own,h.kp.trans k.kp λc hc A=> ?_,?_⟩
 .rcases h.at_ with e|⟨g,e,hg⟩
  .rw[e]at A;exact A
  .rw[e]at A;cases A;omega
 .rcases k.at_ with e|⟨g,e,hg⟩
  .rw[e];exact h.at_
  .exact .inr ⟨g,e,jk h.kp.size hg⟩
end
section
open Go.RowKit Go.Maps
def VK(h:p:=by
 have h3:S.data.size=S.size:=rfl;simp only[bytesRow,Array.size_append,Array.size_map,Array.size_replicate,h3];omega):p:=h
def XV{s:jl}(T:pE P t e s)(S:An)(J:S.size<=1000000)(w:K):
  ∃cap w',(convert s t (H S)).run P w=.ok (G (O (Z w.heap.size 0 U)) S.size cap) w'/\qo w' w.heap.size e (G (O (Z w.heap.size 0 U)) S.size cap) S.data.toList/\iR w.heap.size w w'/\w'.heap.size=w.heap.size+1/\S.size<=cap/\cap<=jd:=by
 have A:S.data.toList.length=S.size:=jR;have C:=grownCap_ge w S.size 0 e;have E:=grownCap_le_maxLen w S.size 0 e yF;refine⟨_,_,run_bytes_of_string w s t e S T.hs T.ht T.he,.inr ⟨w.heap.size,grownCap w S.size 0 e,_,_,by rw[A],iP _,heap_alloc_new w.drew _,.inr (iP _),by rw[A];exact C,E,?_,?_⟩,((iT _ _).drew).alloc (iP _) _,ny,C,E⟩;.exact VK
 .simp only[bytesRow,ma,Array.toList_map]
  rw[dr ny];rfl
section
variable {w0:K}{g bm:Nat}{l:List AC}{pv pv2:iQ}{out b1I:List AC}{n n2:Nat}{mp mp2:PkM}{W W':K}
end
end
section
open Go.RowKit
def Ti{s:jl}(T:pE P t e s){rest:List kC}{o:kC}{a:lY}(E:o.guard=U)(x y:Operand)(ho:o.op=.call {callee:=.builtin .append,args:=#[x,y],argTypes:=#[t,t]})(B:Nat)(v:iQ)(l m:List AC)(q c n:Nat)(w:K)(J:a.eval x=v)(C:qo w B e v l)(hn:n=m.length)(hy:a.eval y=G (O (Z q 0 U)) n c)(A:∀j ar,(nI m)[j]? =O ar->w.cell? (Z q j U)=O ar)(hlen:l.length+m.length<=140737488355328)(hB:B<=w.heap.size)(h:∀v' w',qo w' B e v' (l++m)->w.grownBy w' v.ownBlock->mq P ops Q rest (a.put o.dst v') w'):
  mq P ops Q (o::rest) a w:=by
 subst hn;have⟨v',w',N,aa,ae,_⟩:=Em (w:=w) T o.type C m (Z q 0 U) c (λj ar af=>by
  have e1:((Z q 0 U):j4).add j=(Z q j U):=J3;rw[e1];exact A j ar af) hlen hB
 refine wpList_plain E λaq ag=> ?_
 unfold Oper.wp execOp;simp only[ho,resolve,invoke,builtin,Sem.run_bind,Sem.run_pure,lK,dc,lg,cE,J,hy,N];exact ag _ _ (h v' w' aa ae)
def qo.pV{v:iQ}(h:qo w B e v l)(hg:w.grownBy w' v.ownBlock)(hB:B<=w.heap.size):iR B w w':=
 rF.below (F:=λd=>v.ownBlock=O d) (rF.grown hg λ_ e=>e) (λc hc A=>by have:=(h.blk c A).1;omega) hB
def qo.pos(h:qo w B e (G oa n cap) l)(hl:0<l.length):∃q,oa=O (Z q 0 U):=by
 rcases h with⟨_,rfl⟩|⟨q,cap,E,J,A,_⟩
 .cases hl
 .injection A with C _ _
  exact⟨q,C⟩
structure En(lr:List AC)(bk i:Nat)(L:List AC):Prop where
 len:L.length=lr.length+i
 pre:L.take lr.length=lr
 eq:∀q,q<i->L[lr.length - bk+q]? =L[lr.length+q]?
def En.start(lr:List AC)(bk:Nat):En lr bk 0 lr:=⟨rfl,ky,λq h=>by omega⟩
def En.step{i:Nat}{L:List AC}(h:En lr bk i L)(hb:1<=bk)(hl:bk<=lr.length){x:AC}(A:L[L.length - bk]? =O x):En lr bk (i+1) (L++[x]):=by
 have hn:=h.len;refine⟨by rw[jo,hn];rfl,by rw[ee I];exact h.pre,λq C=> ?_⟩;by_cases e:q=i
 .subst e
  rw[kr I,show lr.length - bk+q=L.length - bk by omega,A,kX I,show lr.length+q - L.length=0 by omega];rfl
 .rw[kr I,kr I]
  exact h.eq q I
def En.fin{L:List AC}(h:En lr bk n L)(hb:1<=bk)(hl:bk<=lr.length):vX n n bk lr=L:=by
 have hn:=h.len;have:=Qt (L:=L) n n lr.length (lr.length - bk) (iP _) I I h.eq;rw[show lr.length -(lr.length - bk)=bk by omega,h.pre,kK I]at this;exact this
structure EI(n:Nat)(ad:RS×List AC)(s:An)(l:List AC):Prop where
 le:l.length<=n
 run:∃(F:Nat) (r:RS),r.Ok/\r.f=0/\s=r.rest/\uU n F r l=ad/\r.t.size - r.p<F/\r.t.size<=100000
def EI.size{s:An}(h:EI n ad s l):s.size<=100000:=by
 obtain⟨F,r,A,C,rfl,E,J,N⟩:=h.run;rw[xg A];omega
def EI.start{s:An}(hs:s.size<=100000):EI n (uU n (s.size+1) (RS.of s) []) s []:=
 ⟨jB _,s.size+1,RS.of s,RS.Ok.of I,rfl,by show s=s.extract 0 s.size;rw[ByteArray.extract_zero_size],rfl,by show s.size - 0<s.size+1;omega,hs⟩
def ElF(b:Nat)(s:An)(l:List AC)(size:Nat):Prop:=
 s.size<sP b\/sP b<=s.size/\(b % 4=0/\(size - l.length<El b s\/s.size - sP b<El b s)\/b % 4≠0/\(Kv b s=0\/l.length<Kv b s\/size - l.length<Qu b))
def JJ(h0:r.f=0)(h:(r.take (n:Nat)).1.f≠0):r.t.size<r.p+n:=by
 unfold RS.take at h;rw[Ax h0,At I]at h;split at h;.omega
 .exact absurd rfl h
def a1k{t:An}{p:Nat}(h:(rO (b % 4) (b/4) ⟨t,p+1,0⟩).1.f≠0):t.size<p+sP b:=by
 unfold rO at h;unfold sP;split at h
 .rename_i A
  rw[Ax A];split at h
  .rename_i c
   rw[Ax c];have N:((b/4:Nat):Int) - 59=((b/4 - 59:Nat):Int):=I;rw[N]at h;have C:t.size<p+1+(b/4 - 59):=JJ rfl h;omega
  .exact absurd rfl h
 .rename_i A
  rw[At A];split at h
  .rename_i E
   rw[Ax E];have C:=JJ (n:=1) rfl h;omega
  .rename_i E
   rw[At E];split at h
   .rename_i J
    rw[Ax J];have C:=JJ (n:=2) rfl h;omega
   .rename_i J
    rw[At J];have C:=JJ (n:=4) rfl h;omega
def a1l{size:Nat}(ho:r.Ok)(h0:r.f=0)(E:r.p<r.t.size)(h:(p8 r l size).1.f≠0):
  ∃J:0<r.rest.size,ElF (r.rest[0]'J).toNat r.rest l size:=by
 have C:=xg ho;refine⟨I,?_⟩;have hb:(r.rest[0]' I)=r.t[r.p]:=by
  unfold RS.rest;rw[ByteArray.getElem_extract];rfl
 rw[hb];have N:r.byte=(⟨r.t,r.p+1,0⟩,(r.t[r.p].toNat:Int)):=by
  unfold RS.byte;rw[Ax h0,dif_pos E]
 unfold p8 at h;rw[N]at h;generalize r.t[r.p].toNat=b at*;obtain⟨t,p,f⟩:=r;dsimp only at*;have aa:(⟨t,p+1,0⟩:RS).Ok:=⟨E,ho.2⟩;have af:((b:Int)).toNat=b:=I;rw[af]at h;have ag:(⟨t,p,f⟩:RS).rest=t.extract p t.size:=rfl;rw[ag]at C|-;have C:(t.extract p t.size).size=t.size - p:=C;unfold ElF;by_cases ae:(rO (b % 4) (b/4) ⟨t,p+1,0⟩).1.f=0;rotate_left
 .left
  have:=a1k ae;omega
 right;have⟨g1,g2⟩:=VJ aa ae;refine⟨I,?_⟩;rw[g2]at h;unfold uT at h;dsimp only at h;rw[At (dy rfl)]at h;by_cases A:b % 4=0
 .left
  refine⟨A,?_⟩;rw[Ax A,Ax A]at h;by_cases hc:size - l.length<El b (t.extract p t.size);.exact .inl hc
  .right
   rw[At I,Ax A]at h;have J:t.size<p+sP b+El b (t.extract p t.size):=JJ rfl h;omega
 .right
  refine⟨A,?_⟩;rw[At A,At A]at h;by_cases hc:(b % 4≠0/\(Kv b (t.extract p t.size)=0\/l.length<Kv b (t.extract p t.size)))\/size - l.length<Qu b
  .rcases hc with⟨_,hc⟩|hc
   .rcases hc with hc|hc
    .exact .inl hc
    .exact .inr (.inl hc)
   .exact .inr (.inr hc)
  .rw[At hc,At A]at h
   exact absurd rfl h
def EI.stepG{s:An}(h:EI n ad s l)(h0:0<s.size):(∃N ae,ElS s[0].toNat s l n N ae/\EI n ad N ae/\N.size<s.size)\/(ElF s[0].toNat s l n/\ad.1.f≠0):=by
 obtain⟨F,r,E,J,rfl,A,aj,ag⟩:=h.run;have ah:=xg E;have hp:r.p<r.t.size:=I;cases F with
 |zero=>omega
 |succ F=>
  unfold uU at A;rw[Ax ⟨J,hp⟩]at A;by_cases C:(p8 r l n).1.f=0
  .left
   have⟨e1,e2⟩:=XU E J hp h.le C;have⟨aa,ak,af,ai⟩:=xS E h.le J hp;refine⟨_,_,e2,⟨ai,F,(p8 r l n).1,af,C,rfl,A,by rw[aa];omega,by rw[aa];exact ag⟩,?_⟩;rw[xg af,ah,aa];omega
  .right
   have⟨e1,e2⟩:=a1l E J hp C;refine⟨e2,?_⟩;have:uU n F (p8 r l n).1 (p8 r l n).2=((p8 r l n).1,(p8 r l n).2):=by
    cases F with
    |zero=>rfl
    |succ F=>unfold uU;rw[At (λc=>C c.1)]
   rw[this]at A;rw[<-A];exact C
def Qv{s:An}(C:uU n (s.size+1) (RS.of s) []=ad):uV s n=(if ad.1.f=0 then if ad.2.length<n then .error 2 else .ok ad.2 else .error ad.1.f.toNat):=by
 unfold uV;rw[C];dsimp only;by_cases A:ad.1.f=0
 .rw[Ax A]
  by_cases hl:ad.2.length<n
  .rw[Ax hl,Ax hl]
   unfold RS.fail;rw[Ax A];rfl
  .rw[At hl,At hl,At (dy A)]
 .rw[At A]
  by_cases hl:ad.2.length<n
  .rw[Ax hl]
   unfold RS.fail;rw[At A,Ax A]
  .rw[At hl,Ax A]
def F23(x:Int):Prop:=x=0\/x=2\/x=3
def AU{n:Int}(hn:0<=n)(h:F23 r.f):F23 (r.take n).1.f:=by
 unfold RS.take;split
 .rw[At I]
  split;.exact .inr (.inl rfl)
  .exact .inl rfl
 .exact h
def a1m{size:Nat}(h:F23 r.f):F23 (p8 r l size).1.f:=by
 have hb:F23 r.byte.1.f:=by
  unfold RS.byte;split
  .split
   .exact .inl rfl
   .exact .inr (.inl rfl)
  .exact h
 have A:∀k v,F23 (rO k v r.byte.1).1.f:=λk v=>by
  unfold rO;split
  .split
   .exact AU I hb
   .exact hb
  .split
   .exact AU I hb
   .split
    .exact AU I hb
    .exact AU I hb
 unfold p8 uT;split;.exact A _ _
 .split
  .unfold RS.fail
   split;.exact .inr (.inr rfl)
   .exact A _ _
  .split
   .exact AU I (A _ _)
   .exact A _ _
def VL{size:Nat}:∀(f:Nat)(r:RS)(l:List AC),F23 r.f->F23 (uU size f r l).1.f
 |0,r,l,h=>h
 |f+1,r,l,h=>by
  unfold uU;split;.exact VL f _ _ (a1m h)
  .exact h
def XW{s:An}(h:uV s n=.error er):er=2\/er=3:=by
 have⟨ad,C⟩:=nE (uU n (s.size+1) (RS.of s) []);have A:=VL (size:=n) (s.size+1) (RS.of s) [] (.inl rfl);rw[C]at A;rw[Qv C]at h;split at h
 .split at h
  .injection h with h;omega
  .cases h
 .rename_i E
  injection h with h
  rcases A with A|A|A
  .exact absurd A E
  .rw[A]at h;omega
  .rw[A]at h;omega
def XX{s:An}{e:Nat}(hp:(nT most s).e=0)(hs:qG (nT most s).body.data.toList=(n,k,e)):
  qA most un s U=((if e=0 then if un<n then .error 5 else match uV ((nT most s).body.extract k (nT most s).body.size) n with
   | .error _=> .error 3
   | .ok l=> .ok (⟨(nT most s).id,⟨#[]⟩,⟨l.toArray⟩⟩,(nT most s).n)else if e=5 then .error 5 else .error 3),U):=by
 unfold qA;rw[At (dy hp)];unfold sK;rw[hs];dsimp only;have he:e=0\/e=2\/e=3\/e=5:=by
  unfold qG at hs;have hb:=FE (nT most s).body.data.toList 0 0;generalize nD (nT most s).body.data.toList 0 0=t at hs hb;rcases hb with h|h|h
  .rw[Ax h]at hs
   split at hs;.injection hs with _ hs;injection hs with _ hs;omega
   .rw[hs]at h;exact .inl h
  .subst h
   have hs:=hs;cases hs;exact .inr (.inl rfl)
  .subst h
   have hs:=hs;cases hs;exact .inr (.inr (.inl rfl))
 by_cases A:e=0
 .rw[At (dy A),Ax A]
  by_cases C:un<n;.rw[Ax C,Ax C];rfl
  .rw[At C,At C,At (show¬z8 n U≠0 from λh=>h rfl)]
   cases hl:uV ((nT most s).body.extract k (nT most s).body.size) n with
   |ok l=>rfl
   |error er=>
    rcases XW hl with rfl|rfl<;>rfl
 .rw[Ax A,At A]
  by_cases e5:e=5;.subst e5;rfl
  .rw[At e5]
   have:e=2\/e=3:=I;rcases this with rfl|rfl<;>rfl
def Nt(aE:Except Nat (List AC))(w:K)(e:kV)(w':K):Prop:=iR w.heap.size w w'/\∃(T:An) (er:Int),e=mK (mJ #[H T,V X er])/\match aE with
 | .ok l=>T=⟨l.toArray⟩/\er=0
 | .error _=>er≠0
def EI.b0w{s:An}(h:EI n ad s l)(h0:s.size=0):ad.1.f=0/\ad.2=l:=by
 obtain⟨F,r,C,E,rfl,A,J,_⟩:=h.run;rw[xg C]at h0;cases F with
 |zero=>omega
 |succ F=>
  unfold uU at A;rw[At I]at A;rw[<-A];exact⟨E,rfl⟩
def Nu(h:p:=by
 rintro e w3 ⟨rfl,rfl⟩;go_wp2_with fail;exact HFF 2 _ mX HB.out):p:=h
def a1n(h:p:=by
 rintro e w3 ⟨rfl,rfl⟩;go_wp2_with (at_builtin;refine Ti NV rfl _ _ rfl g (G oa L cap) lr ac.data.toList _ cp NN w2 rfl HO2 HXS.2.symm rfl HCL (by have:=HL.out;have:=HXS.out;omega) HB2.2 ?_;intro v2 w4 h1 h2;have HF:=Y (iU h1 h2);obtain⟨so,sc,rfl⟩:=h1.len;clear h1 h2);have HLN:R (lr.length+ac.size=l'.length):=Y (by rw[HL'.out,jo];congr 1);have HBX:R (iR g w w4):=Y (HB2.1.trans (qo.pV HO2 HF.2 HB2.2));have HOX:R (qo w4 g 5 (G so l'.length sc) l'):=Y (by have h:=HF.1;rw[<-HL'.out]at h;exact h);exact⟨⟨s',l',so,sc,by rw[HS'.out],by rw[HLN.out],HE2,HOX,HBX⟩,by rw[<-HS'.out];exact hlt⟩):p:=h
def a5o(h:p:=by
 go_wp2;go_loopw [6,14] (λov iv wi=>∃(i:Nat) (L1:List AC) (oa1:Option j4) (wJ:Nat),ov=G oa1 L1.length wJ/\iv=V X i/\i<=cn/\R (qo wi g 5 (G oa1 L1.length wJ) L1)/\R (En lr bk i L1)/\R (iR g w wi)) (λ_ iv _=>cn -(jF iv).toNat);case atStart=>exact⟨0,lr,oa,cap,by rw[HL.out],rfl,jB _,Y (by rw[HL.out];exact HO),Y (En.start lr bk),HB⟩
 case round=>
  obtain⟨i,L1,oa1,wJ,rfl,rfl,hi,HO1,HC1,HB1⟩:=hrel;by_cases ci:i<cn
  .have⟨Ln,hLn⟩:=nE L1.length
   have hl9:Ln=L+i:=by rw[<-hLn,HC1.len,HL.out]
   have hq:=HQ.out;have⟨x,hx⟩:∃x,L1[Ln - bk]? =O x:=⟨_,ja I⟩;have⟨dd,hdd⟩:=nE (Ln - bk);have d7:(Ln:Int) -(bk:Int)=(dd:Int):=I;rw[hdd]at hx;rw[hLn]at HO1|-;obtain⟨q,rfl⟩:=HO1.pos I;have hcell:=HO1.cells (g:=q) rfl dd (V .u8 (x.toNat:Int)) (by simp[nI,hx]);have HC2:=Y (HC1.step hq.1 (by rw[HL.out];omega) (x:=x) (by rw[hLn,hdd];exact hx));have hdl:dd<Ln:=I;have b1N:Ln<=70000:=I;have b1O:dd<=70000:=I;have HGW:R (g<=wr.heap.size/\Ln<=70000/\L1.length=Ln):=Y ⟨by have:=HB1.size;have:=HG.out;omega,I,hLn⟩;clear hq hx hdd hl9 hLn HC1;go_wp2_with (at_builtin;refine JI NV rfl _ _ rfl g (G (O (Z q 0 U)) Ln wJ) L1 [x] 1 rfl wr _ rfl rfl HO1 rfl (by have:=HGW.out;omega) HGW.1 ?_;intro v2 w4 h1 h2 _;have HF:=Y (iU h1 h2);obtain⟨so,sc,rfl⟩:=h1.len;clear h1 h2);have HBX:R (iR g w w4):=Y (HB1.trans (qo.pV HO1 HF.2 HGW.1));go_roundw;case rel=>exact⟨i+1,L1++[x],so,sc,by rw[jo];rfl,by go_num,I,Y HF.1,HC2,HBX⟩
   case measure=>simp[jF];omega
  .obtain rfl:i=cn:=I
   have HFN:R (l'=L1):=Y (by rw[HL'.out];exact HC1.fin HQ.1 (by rw[HL.out];exact HQ.2.1));have HE3:R (EI n ad s' L1):=Y (by rw[<-HFN.out];exact HE2);go_wp2_with fail;exact⟨⟨s',L1,oa1,wJ,by rw[HS'.out],rfl,HE3,HO1,HB1⟩,by rw[<-HS'.out];exact hlt⟩):p:=h
def a1o(h:p:=by
 rcases hor with rfl|⟨rfl,rfl⟩|⟨rfl,rfl,rfl⟩
 all_goals
  go_wp2_with fail;refine(CH _ BS).mono ?_;rintro e w3 ⟨rfl,rfl⟩;go_wp2_with fail;refine(CL _).mono ?_;rintro e w3 ⟨rfl,rfl⟩;go_wp2_with fail;exact HFF 3 _ mX HB.out):p:=h
def Nv(s:An)(n:Nat)(w:K)(hn:n<=65536)(hs:s.size<=100000):
  iW iN 115 #[H s,V X n] w (Nt (uV s n) w):=by
 have⟨ad,aW⟩:=nE (uU n (s.size+1) (RS.of s) []);have bG:R (EI n ad s []):=Y (aW▸EI.start hs);have⟨aE,aX⟩:=nE (uV s n);have ah:R (aE=if ad.1.f=0 then if ad.2.length<n then .error 2 else .ok ad.2 else .error ad.1.f.toNat):=Y (by rw[<-aX];exact Qv aW);have HF:R (ad.1.f≠0->∀(er:Int)(W:K),er≠0->iR w.heap.size w W->Nt aE w (mK (mJ #[H ⟨#[]⟩,V X er])) W):=Y λh er W he hb=>by
  have:=ah.out;rw[At h]at this;subst this;exact⟨hb,_,_,rfl,he⟩
 rw[aX];obtain⟨g,hg⟩:=o7 w;have HG:=Y hg;have⟨aY,aZ⟩:=nE (Nt aE w);have bg:=Y aZ;rw[aZ];clear aW aX hs hg aZ;go_in;go_wp2;go_loopw [0,6] (λsv ov wi=>∃(C:An) (lr:List AC) (oa:Option j4) (cap:Nat),sv=H C/\ov=G oa lr.length cap/\R (EI n ad C lr)/\R (qo wi g 5 (G oa lr.length cap) lr)/\R (iR g w wi)) (λsv _ _=>match sv with| H t=>t.size|_=>0);case atStart=>exact⟨s,[],U,0,rfl,rfl,bG,Y (.inl ⟨rfl,rfl⟩),Y (iT _ _)⟩
 case round=>
  obtain⟨C,lr,oa,cap,rfl,rfl,ai,HO,HB⟩:=hrel;have⟨L,hL⟩:=nE lr.length;have HL:=Y hL;rw[hL]at HO|-;have hLn:L<=n:=hL▸ai.le;have hsz:=ai.size;clear hL;by_cases c:0<C.size
  .have af:=ai.stepG c
   have⟨B,hB⟩:=nE (C[0]);have⟨b,hb⟩:=nE B.toNat;have BS:b<=255:=by have:=B.toNat_lt;omega
   rw[hB,hb]at af;unfold ElS ElF at af;have⟨k,hk⟩:=nE (sP b);have bU:1<=k/\k<=5:=by rw[<-hk];unfold sP;(repeat' split)<;>omega
   rw[hk]at af;have CH:=Qs b;rw[hk]at CH;have CH:=Y CH;have⟨v,bq⟩:∃v:Nat,b/4=v:=⟨_,rfl⟩;have⟨m,bu⟩:∃m:Nat,b % 4=m:=⟨_,rfl⟩;have e1:(b:Int).tdiv 4=(v:Int):=by rw[dk I,<-bq];omega
   have e2:(b:Int).tmod 4=(m:Int):=by rw[dg I,<-bu];omega
   have bL:v<=63:=I;have av:(C.extract 1 k).size<=4:=by rw[iV];omega
   have CL:=Y (λW=>Nr (C.extract 1 k) W av);unfold El Qu Kv at af;rw[hk,bq,bu]at af;clear bu bq hk av;have⟨N,aB⟩:=nE (oM (C.extract 1 k).data.toList);have bV:N<4294967296:=by
    rw[<-aB];have h1:=qD (C.extract 1 k).data.toList;have h2:(C.extract 1 k).data.toList.length<=4:=by simp[iV];omega
    exact H6
   rw[aB]at CL af;clear aB;have ax:(C.extract k C.size).size=C.size - k:=by rw[iV];omega
   have⟨rs,av⟩:=nE (C.extract 1 k);have⟨az,bH⟩:=nE (C.extract k C.size);rw[av]at CL;rw[bH]at af ax;rw[HL.out]at af;rcases af with⟨s',l',⟨bM,bz⟩,aN,hlt⟩|⟨q,aO⟩
   rotate_left
   .have HFF:R (∀(er:Int)(W:K),er≠0->iR g w W->aY (mK (mJ #[H ⟨#[]⟩,V X er])) W):=Y λer W he hb=>bg.out▸HF.out aO er W he (HG.symm▸hb)
    clear ai HF HO aO ah;rcases q with q|⟨bM,q⟩
    .have i1:As ((C.size:Int)<(k:Int))=u:=nk
     clear ax;go_wp2_with fail;refine(CH _ BS).mono ?_;exact Nu
    have i1:As ((C.size:Int)<(k:Int))=M:=nk;rw[<-ax]at q;rcases q with⟨rfl,q⟩|⟨bX,q⟩
    .have⟨NN,E⟩:=nE ((if 60<=v then N+1 else v+1))
     rw[E]at q;have⟨aI,aP⟩:=nE (As ((NN:Int)>(n:Int) -(L:Int)));have bN:As ((n:Int) -(L:Int)<(NN:Int))=aI:=aP;have n3:aI=M->az.size<NN:=λh=>by
      subst h;simp only[b8]at aP;omega
     have aQ:=Y n3;clear q n3;by_cases J:60<=v
     .have bA:As ((v:Int)>=60)=u:=nk
      rw[Ax J]at E;have bB:(N:Int)+1=(NN:Int):=I;clear E J;cases aI with
      |true=>
       go_wp2_with fail;refine(CH _ BS).mono ?_;rintro e w3 ⟨rfl,rfl⟩;go_wp2_with fail;refine(CL _).mono ?_;rintro e w3 ⟨rfl,rfl⟩;go_wp2_with fail;exact HFF 3 _ mX HB.out
      |false=>
       have n3:=aQ.out rfl;go_wp2_with fail;refine(CH _ BS).mono ?_;rintro e w3 ⟨rfl,rfl⟩;go_wp2_with fail;refine(CL _).mono ?_;exact Nu
     .have bA:As ((v:Int)>=60)=M:=nk
      rw[At J]at E;have bB:(v:Int)+1=(NN:Int):=I;clear E J;cases aI with
      |true=>
       go_wp2_with fail;refine(CH _ BS).mono ?_;rintro e w3 ⟨rfl,rfl⟩;go_wp2_with fail;exact HFF 3 _ mX HB.out
      |false=>
       have n3:=aQ.out rfl;go_wp2_with fail;refine(CH _ BS).mono ?_;exact Nu
    .have⟨cn,A⟩:=nE ((if m=1 then 4+v % 8 else v+1))
     have⟨bk,hbk⟩:=nE ((if m=1 then v/8*256+N else N));rw[A,hbk]at q;have bO:cn<=64:=by rw[<-A];split<;>omega
     have bP:bk<=4295000000:=by rw[<-hbk];split<;>omega
     have t0:((m:Int)==0)=M:=qJ;have⟨aJ,bC⟩:=nE (((bk:Int)==0));have⟨aD,aR⟩:=nE (As ((bk:Int)>(L:Int)));have bD:As ((L:Int)<(bk:Int))=aD:=aR;have bQ:As (L<bk)=aD:=by rw[<-bD,bx];omega
     have⟨bE,aS⟩:=nE (As ((cn:Int)>(n:Int) -(L:Int)));have bR:As ((n:Int) -(L:Int)<(cn:Int))=bE:=aS;have hor:aJ=u\/aJ=M/\aD=u\/aJ=M/\aD=M/\bE=u:=by
      cases aJ<;>cases aD<;>cases bE<;>simp at bC aR aS|-
      omega
     clear q;by_cases ag:m=1
     .have u1:((m:Int)==1)=u:=EA
      rw[Ax ag]at A hbk;have⟨v8,aa⟩:=nE (v % 8);have⟨ak,ae⟩:=nE (v/8);have e3:(v:Int).tmod 8=(v8:Int):=by rw[dg I,<-aa];omega
      have e4:(v:Int).tdiv 8=(ak:Int):=by rw[dk I,<-ae];omega
      rw[aa]at A;rw[ae]at hbk;have d5:(4:Int)+(v8:Int)=(cn:Int):=I;have d6:(ak:Int)*256+(N:Int)=(bk:Int):=I;have bF:ak<=7:=I;clear A hbk aa ae ag;exact a1o
     .have u1:((m:Int)==1)=M:=qJ
      rw[At ag]at A hbk;have d5:(v:Int)+1=(cn:Int):=I;rw[hbk]at CL;clear A hbk ag;exact a1o
   have HE2:=Y aN;clear aN;have i1:As ((C.size:Int)<(k:Int))=M:=nk;rcases bz with⟨rfl,aF,aK,aA,au⟩|⟨bz,aF,aK,aA,au,aL⟩
   .have⟨NN,E⟩:=nE ((if 60<=v then N+1 else v+1))
    rw[E]at aF aK aA au;rw[<-ax]at aF;have ay:(az.extract 0 NN).size=NN:=by rw[iV];omega
    have⟨cp,w2,aG,aM,aj,bI,_,_⟩:=XV (P:=iN) (t:=86) (e:=5) (s:=9) NV (az.extract 0 NN) I wr;rw[ay]at aG aM;have⟨ac,bJ⟩:=nE (az.extract 0 NN);have aU:ac.data.toList.length=NN:=by rw[<-ay,bJ];simp
    rw[bJ]at aG aM au;have HCL:=Y (aM.cells rfl);have HO2:=Y (HO.below aj);have bW:=Y aj;have HB2:R (iR g w w2/\g<=w2.heap.size):=Y ⟨HB.trans (aj.mono (by have:=HB.size;have:=HG.out;omega)),by have:=HB.size;have:=HG.out;have:=aj.size;omega⟩;have HS':=Y aA;have HL':=Y au;have n1:As ((NN:Int)>(n:Int) -(L:Int))=M:=nk;have n3:As ((NN:Int)>(az.size:Int))=M:=nk;have bS:As ((az.size:Int)<(NN:Int))=M:=nk;have HXS:=Y (iU ay aU);clear aA au aM aj bI ai ay aU;by_cases J:60<=v
    .have bA:As ((v:Int)>=60)=u:=nk
     rw[Ax J]at E;have bB:(N:Int)+1=(NN:Int):=I;clear E J;go_wp2_with fail;refine(CH _ BS).mono ?_;rintro e w3 ⟨rfl,rfl⟩;go_wp2_with fail;refine(CL _).mono ?_;exact a1n
    .have bA:As ((v:Int)>=60)=M:=nk
     rw[At J]at E;have bB:(v:Int)+1=(NN:Int):=I;clear E J;go_wp2_with fail;refine(CH _ BS).mono ?_;exact a1n
   .have⟨cn,A⟩:=nE ((if m=1 then 4+v % 8 else v+1))
    have⟨bk,hbk⟩:=nE ((if m=1 then v/8*256+N else N));rw[A]at aA aL;rw[hbk]at aF aK aL;have HS':=Y au;have HL':=Y aL;have t0:((m:Int)==0)=M:=qJ;have t1:((bk:Int)==0)=M:=qJ;have n1:As ((bk:Int)>(L:Int))=M:=nk;have bY:As (L<bk)=M:=bh I;have n3:As ((cn:Int)>(n:Int) -(L:Int))=M:=nk;have bS:As ((n:Int) -(L:Int)<(cn:Int))=M:=nk;have HQ:R (1<=bk/\bk<=L/\L+cn<=n/\n<=65536):=Y ⟨aF,aK,aA,hn⟩;clear bz au aL ai;by_cases ag:m=1
    .have u1:((m:Int)==1)=u:=EA
     rw[Ax ag]at A hbk;have⟨v8,aa⟩:=nE (v % 8);have⟨ak,ae⟩:=nE (v/8);have e3:(v:Int).tmod 8=(v8:Int):=by rw[dg I,<-aa];omega
     have e4:(v:Int).tdiv 8=(ak:Int):=by rw[dk I,<-ae];omega
     rw[aa]at A;rw[ae]at hbk;have d5:(4:Int)+(v8:Int)=(cn:Int):=I;have d6:(ak:Int)*256+(N:Int)=(bk:Int):=I;have bF:ak<=7:=I;clear A hbk aa ae ag;go_wp2_with fail;refine(CH _ BS).mono ?_;rintro e w3 ⟨rfl,rfl⟩;go_wp2_with fail;refine(CL _).mono ?_;rintro e w3 ⟨rfl,rfl⟩;exact a5o
    .have u1:((m:Int)==1)=M:=qJ
     rw[At ag]at A hbk;have d5:(v:Int)+1=(cn:Int):=I;rw[hbk]at CL;clear A hbk ag;go_wp2_with fail;refine(CH _ BS).mono ?_;rintro e w3 ⟨rfl,rfl⟩;go_wp2_with fail;refine vE (CL _) ?_;exact a5o
  .have⟨h0,h1⟩:=ai.b0w I
   subst h1;have ah:=Y (ah.trans (Ax h0));clear ai HF;by_cases aV:L<n
   .have aH:R (aE=.error 2):=Y (by rw[ah.out,Ax (by rw[HL.out];exact aV)])
    clear h0 hsz HO ah;go_wp2_with fail;rw[<-bg.out,aH.out];exact⟨HG.symm▸HB.out,_,_,rfl,mX⟩
   .have aH:R (aE=.ok ad.2):=Y (by rw[ah.out,At (by rw[HL.out];exact aV)])
    have aG:(convert 86 9 (G oa L cap)).run iN wr=.ok (H ⟨ad.2.toArray⟩) wr:=qo.string NV HO.out;generalize bK:(⟨ad.2.toArray⟩:An)=T at*;have bT:=Y bK;clear h0 hsz ah bK;go_wp2_with fail;rw[<-bg.out,aH.out];exact⟨HG.symm▸HB.out,_,_,rfl,bT.symm,rfl⟩
def Nw(n:Nat)(w:K)(hn:n<4294967296):
  iW iN 69 #[V mP n] w λe w'=>e=mK (H ⟨(xQ 4 n).toArray⟩)/\iR w.heap.size w w':=by
 have C:=Y (UE n 4 w I mX I);have A:=Y (λW=>sZ ⟨(xQ 4 n).reverse.toArray⟩ W (by
  have:(⟨(xQ 4 n).reverse.toArray⟩:An).size=4:=by rw[size_mk,lC,uA]
  rw[this];decide))
 have e:(⟨(⟨(xQ 4 n).reverse.toArray⟩:An).data.toList.reverse.toArray⟩:An)=⟨(xQ 4 n).toArray⟩:=ny;rw[e]at A;have⟨ac,E⟩:∃ac:An,(⟨(xQ 4 n).reverse.toArray⟩:An)=ac:=⟨_,rfl⟩;have⟨aE,J⟩:∃aE:An,(⟨(xQ 4 n).toArray⟩:An)=aE:=⟨_,rfl⟩;rw[E]at C A;rw[J]at A|-;go_in;go_wp2_with fail;refine pG C λw1 hB=> ?_
 go_wp2_with fail;refine vE (A _) ?_;go_wp2;go_returns;exact⟨rfl,hB⟩
def yC(l:List AC):List AC:=l++jC (12 - l.length) 0
def XY(s:An)(w:K)(hs:s.size<=100000):
  iW iN 113 #[H s] w λe w'=>e=mK (H ⟨(yC s.data.toList).toArray⟩)/\w'=w:=by
 have⟨aE,E⟩:∃aE:An,(⟨(yC s.data.toList).toArray⟩:An)=aE:=⟨_,rfl⟩;have aa:=Y E;rw[E];go_in;go_wp2;go_loopw [0] (λsv ae=>∃S:An,sv=H S/\S.size<=100012/\R (yC S.data.toList=yC s.data.toList)/\ae=w) (λsv _=>match sv with| H t=>12 - t.size|_=>0);case atStart=>exact⟨s,rfl,I,Y rfl,rfl⟩
 case round=>
  obtain⟨S,rfl,ai,J,rfl⟩:=hrel;by_cases c:S.size<12
  .have af:As ((S.size:Int)<12)=u:=nk
   have ag:(S++⟨#[0]⟩).size=S.size+1:=by rw[cg];rfl
   have N:R (yC (S++(⟨#[0]⟩:An)).data.toList=yC s.data.toList):=Y (by
    rw[<-J.out];have hl:S.data.toList.length=S.size:=jR;have e:(S++(⟨#[0]⟩:An)).data.toList=S.data.toList++[0]:=ny;unfold yC;rw[e,jo,ej,cC];have:12 - S.data.toList.length=(12 -(S.data.toList.length+1))+1:=I;rw[this,cJ];rfl)
   have⟨C,A⟩:∃C,S++(⟨#[0]⟩:An)=C:=⟨_,rfl⟩;rw[A]at ag N;go_wp2;go_roundw;case rel=>exact⟨C,by rw[<-A],I,N,trivial⟩
   case measure=>simp;omega
  .have af:As ((S.size:Int)<12)=M:=nk
   have ah:R (S=aE):=Y (by
    rw[<-aa.out,<-J.out];have hl:S.data.toList.length=S.size:=jR;unfold yC;rw[show 12 - S.data.toList.length=0 by omega,List.replicate_zero,List.append_nil])
   go_wp2;go_returns;rw[ah.out];exact⟨rfl,rfl⟩
def a7h{t:List AC}(h:rP t=u):∀b∈t,b≠0:=by
 intro b hb e;unfold rP at h;simp only[je,bb]at h;have:=kz.1 h.2 b hb;subst e;revert this;decide
def a1p(ae:l.length=12)(hn:n<=12)(A:rP (l.take n)=u)(C:yC (l.take n)=l):jW l 0=l.take n:=by
 have hl:(l.take n).length=n:=by rw[jQ];omega
 have E:l.drop n=jC (12 - n) 0:=by
  have:=congrArg (List.drop n) C;unfold yC at this;rw[hl,List.drop_left' hl]at this;exact this.symm
 have ht:jW l 0=((l.take n++l.drop n).reverse.dropWhile λb=>b==(0:AC)).reverse:=by rw[kS];rfl
 rw[ht,E,eb,List.reverse_replicate];have hd:∀(k:Nat)(r:List AC),(jC k 0++r).dropWhile (λb=>b==(0:AC))=r.dropWhile λb=>b==(0:AC):=by
  intro k r;induction k with
  |zero=>simp
  |succ k J=>rw[cJ,cP,List.dropWhile_cons_of_pos (by rfl)];exact J
 rw[hd];have N:((l.take n).reverse.dropWhile λb=>b==(0:AC))=(l.take n).reverse:=by
  cases aa:(l.take n).reverse with
  |nil=>rfl
  |cons b r=>
   refine List.dropWhile_cons_of_neg ?_;have hb:b∈l.take n:=by rw[<-List.mem_reverse,aa];exact List.mem_cons_self
   simpa using a7h A b hb
 rw[N,lU]
def XZ{s:An}(hs:s.size=12)(hn:n<=12)(A:rP (s.data.toList.take n)=u)(C:yC (s.data.toList.take n)=s.data.toList):vY s=O ⟨(s.data.toList.take n).toArray⟩:=by
 have hl:s.data.toList.length=12:=by rw[<-hs];exact jR
 have:=a1p hl hn A C;unfold vY;rw[this,Ax ⟨hs,A⟩]
def X0{s:An}(hs:s.size=12)(h:∀n,1<=n->n<=12->¬(rP (s.data.toList.take n)=u/\yC (s.data.toList.take n)=s.data.toList)):vY s=U:=by
 have hl:s.data.toList.length=12:=by rw[<-hs];exact jR
 unfold vY;by_cases A:rP (jW s.data.toList 0)=u
 .have hp:=a1f s.data.toList
  have⟨t,ht⟩:=nE (jW s.data.toList 0);rw[ht]at hp A|-;have E:1<=t.length/\t.length<=12:=by
   unfold rP at A;simp only[je,bb]at A;exact A.1
  have C:s.data.toList.take t.length=t:=by rw[<-hp,List.take_left]
  exact absurd ⟨by rw[C];exact A,by rw[C];unfold yC;rw[hl]at hp;exact hp⟩ (h t.length E.1 E.2)
 .rw[At (λh=>A h.2)]
def VM(h:p:=by
 go_wp2;go_roundw;case rel=>exact⟨k+1,by go_num,I,I,HB,trivial⟩
 case measure=>(simp[jF]<;>omega)):p:=h
def X3(s:An)(w:K)(hs:s.size=12):
  iW iN 70 #[H s] w λe w'=>e=mK (match vY s with|some t=> mJ #[H t,V X 0]|none=> mJ #[H ⟨#[]⟩,V X 3])/\w'=w:=by
 have au:=Y hs;have hsz:s.size<=jd:=by rw[hs];decide
 have av:R (∀n:Nat,iW iN 53 #[H (s.extract 0 n)] w λe w'=>e=mK (mH (rP (s.data.toList.take n)))/\w'=w):=Y (λn=>by
  have e:(s.extract 0 n).data.toList=s.data.toList.take n:=by rw[yh,ll,Nat.sub_zero]
  have:=KM (s.extract 0 n) w (by rw[iV];omega);rw[e]at this;exact this)
 have ax:R (∀n:Nat,iW iN 113 #[H (s.extract 0 n)] w λe w'=>e=mK (H ⟨(yC (s.data.toList.take n)).toArray⟩)/\w'=w):=Y (λn=>by
  have e:(s.extract 0 n).data.toList=s.data.toList.take n:=by rw[yh,ll,Nat.sub_zero]
  have:=XY (s.extract 0 n) w (by rw[iV];omega);rw[e]at this;exact this)
 generalize ay:(match vY s with|some t=>Value.tuple #[H t,V X 0]|none=> mJ #[H ⟨#[]⟩,V X 3])=aE;have af:=Y ay;go_in;go_wp2;go_loopw [4] (λiv az=>∃k:Nat,iv=V X k/\1<=k/\k<=13/\R (∀n,1<=n->n<k->¬(rP (s.data.toList.take n)=u/\yC (s.data.toList.take n)=s.data.toList))/\az=w) (λiv _=>13 -(jF iv).toNat);case atStart=>exact⟨1,rfl,I,I,Y (λn C N=>by omega),rfl⟩
 case round=>
  obtain⟨k,rfl,aB,hk2,aa,rfl⟩:=hrel;have J:=au.out;by_cases c:k<=12
  .have aA:As ((k:Int)<=12)=u:=nk
   have aF:As ((k:Int)<=(s.size:Int))=u:=nk;have aD:k<=s.size:=I;have ag:rP (s.data.toList.take k)=u/\yC (s.data.toList.take k)=s.data.toList->False\/vY s=O (s.extract 0 k):=λh=> .inr (by
    rw[XZ J c h.1 h.2];congr 1;refine cS ?_;rw[<-Array.toList_inj];show s.data.toList.take k=_;rw[yh,ll,Nat.sub_zero])
   have ah:=Y ag;go_wp2_with fail;refine(av k).mono ?_;rintro e w' ⟨rfl,rfl⟩;cases ai:rP (s.data.toList.take k)with
   |false=>
    have HB:R (∀n,1<=n->n<k+1->¬(rP (s.data.toList.take n)=u/\yC (s.data.toList.take n)=s.data.toList)):=Y (λn C N E=>by
     rcases jL n k with h|h
     .exact aa n C h E
     .obtain rfl:n=k:=I
      rw[ai]at E;cases E.1)
    exact VM
   |true=>
    go_wp2_with fail;refine vE (ax k) ?_;by_cases hp:yC (s.data.toList.take k)=s.data.toList
    .have ae:=Y ((ah ⟨ai,hp⟩).resolve_left id)
     have e1:(⟨(yC (s.data.toList.take k)).toArray⟩:An)=s:=by rw[hp]
     rw[e1];have A:=af.out;rw[ae.out]at A;dsimp only at A;subst A;have t1:(s.toList==s.toList)=u:=ny;exact qF
    .have HB:R (∀n,1<=n->n<k+1->¬(rP (s.data.toList.take n)=u/\yC (s.data.toList.take n)=s.data.toList)):=Y (λn C N E=>by
      rcases jL n k with h|h
      .exact aa n C h E
      .obtain rfl:n=k:=I
       exact hp E.2)
     have⟨P,aj⟩:∃P:An,(⟨(yC (s.data.toList.take k)).toArray⟩:An)=P:=⟨_,rfl⟩;have ak:P≠s:=λe=>hp (by have:=congrArg (λb:An=>b.data.toList) (aj.trans e);simpa using this)
     rw[aj];have t1:(P.toList==s.toList)=M:=by
      rw[Lib.toList_data,Lib.toList_data,bj];exact λe=>ak (Go.WideShapes.bytes_inj e)
     exact VM
  .have aA:As ((k:Int)<=12)=M:=nk
   have ae:=Y (X0 J (λn C N=>aa.out n C I));have A:=af.out;rw[ae.out]at A;dsimp only at A;subst A;exact qF
end
section
def wK(f3 f2:Nat->Nat)(ps:List Nat):List Nat:=
 (kG 64).map (λi=>if i<ps.length then f3 (ps.getD i 0)else 0)++(kG 8).map (λi=>if i<ps.length then f2 (ps.getD i 0)else 0)
def tH(f3 f2:Nat->Nat)(ps:List Nat):(wK f3 f2 ps).length=72:=by simp[wK]
def Ny{ps:List Nat}{p i:Nat}(h:i<ps.length):(ps++[p]).getD i 0=ps.getD i 0:=by
 rw[jN,kr h,jN]
def Nz{ps:List Nat}{p:Nat}:(ps++[p]).getD ps.length 0=p:=by
 rw[jN,kX (iP _)];simp
def Eo(f:Nat->Nat)(ps:List Nat)(p i:Nat):(if i<(ps++[p]).length then f ((ps++[p]).getD i 0)else 0)=if i=ps.length then f p else if i<ps.length then f (ps.getD i 0)else 0:=by
 rw[jo,ej];by_cases h:i=ps.length
 .subst h
  rw[Ax I,Ax rfl,Nz]
 .rw[At h]
  by_cases A:i<ps.length;.rw[Ax I,Ax A,Ny A]
  .rw[At I,At A]
def vU(f3 f2:Nat->Nat)(ps:List Nat)(i:Nat):(wK f3 f2 ps)[i]? =if i<64 then O (if i<ps.length then f3 (ps.getD i 0)else 0)else if i<72 then O (if i - 64<ps.length then f2 (ps.getD (i - 64) 0)else 0)else U:=by
 unfold wK;by_cases h:i<64;.rw[kr (by simpa using h),eo,List.getElem?_range h,Ax h];rfl
 .rw[kX nk,eo,At h]
  simp only[cX,List.length_range];by_cases A:i<72;.rw[List.getElem?_range I,Ax A];rfl
  .rw[dl nk,At A];rfl
def VN(h:p:=by
 by_cases h2:i<64;.rw[Ax h2,Ax h2]
 .rw[At h2,At h2]
  by_cases h3:i<72;.rw[Ax h3,Ax h3,At (show¬i - 64=ps.length by omega)]
  .rw[At h3,At h3]):p:=h
def X4(f3 f2:Nat->Nat)(ps:List Nat)(p n:Nat)(hn:n=ps.length)(E:8<=n)(A:n<64):(wK f3 f2 ps).set n (f3 p)=wK f3 f2 (ps++[p]):=by
 subst hn;apply List.ext_getElem?;intro i;rw[List.getElem?_set,tH,vU,vU,Eo,Eo];by_cases C:ps.length=i
 .subst C
  rw[Ax rfl,Ax I,Ax A,Ax rfl]
 .rw[At C,At (show¬i=ps.length by omega)]
  exact VN
def X5(f3 f2:Nat->Nat)(ps:List Nat)(p n:Nat)(hn:n=ps.length)(E:n<8):((wK f3 f2 ps).set n (f3 p)).set (64+n) (f2 p)=wK f3 f2 (ps++[p]):=by
 subst hn;apply List.ext_getElem?;intro i;rw[List.getElem?_set,List.getElem?_set,dp,tH,vU,vU,Eo,Eo];by_cases A:64+ps.length=i
 .subst A
  rw[Ax rfl,Ax I,At I,Ax I,Ax I]
 .rw[At A]
  by_cases C:ps.length=i
  .subst C
   rw[Ax rfl,Ax I,Ax I,Ax rfl]
  .rw[At C,At (show¬i=ps.length by omega)]
   exact VN
def Tj(p d:Nat):Bool:=(kG (d - 2)).all λe=>As (0<p %(e+2))
def LC(p d:Nat)(h:2<=d):Tj p (d+1)=(Tj p d&&As (0<p % d)):=by
 unfold Tj;obtain⟨e,rfl⟩:∃e,d=e+2:=⟨d - 2,I⟩;rw[show e+2+1 - 2=e+1 by omega,show e+2 - 2=e by omega,List.range_succ,List.all_append];simp
def Qw(p:Nat):Tj p p=isP p:=rfl
def oQ(p:Nat):List Nat:=((kG (p - 2)).map (.+2)).filter isP
def Kw:oQ 2=[]:=rfl
def Ep(p:Nat)(h:2<=p):oQ (p+1)=oQ p++(if isP p then [p]else []):=by
 unfold oQ;obtain⟨e,rfl⟩:∃e,p=e+2:=⟨p - 2,I⟩;rw[show e+2+1 - 2=e+1 by omega,show e+2 - 2=e by omega,List.range_succ,List.map_append,List.filter_append];congr 1;rw[lg,cE,List.filter_cons];rfl
def Qx(p:Nat)(h:2<=p)(hp:Tj p p=u):oQ (p+1)=oQ p++[p]:=by
 rw[Ep p h,Ax (by rw[<-Qw];exact hp)]
def Tk(p:Nat)(h:2<=p)(hp:Tj p p=M):oQ (p+1)=oQ p:=by
 rw[Ep p h,At (by rw[<-Qw,hp];decide),List.append_nil]
def Qy:oQ 312=Ul:=Wu
def JK:((kG 312).all λp=>As ((oQ p).length<64))=u:=xh
def Tm(p:Nat)(h:p<312):(oQ p).length<64:=by
 have:=kz.1 JK p (lu.2 h);simpa using this
def Qz:(oQ 312).length=64:=by rw[Qy];rfl
def JL:List Nat:=wK (λp=>FL p 3) (λp=>FL p 2) (oQ 312)
def VO:JL=((kG 64).map λi=>(kN i).toNat)++[rE.a,rE.b,rE.c,rE.d,rE.e,rE.f,rE.g,rE.h].map UInt32.toNat:=xh
def qy(l:List Nat):Nat:=l.foldr (λd A=>d+65536*A) 0
def vP(d:Nat)(l:List Nat):qy (d::l)=d+65536*qy l:=rfl
def AV(l m:List Nat):qy (l++m)=qy l+65536^l.length*qy m:=by
 induction l with
 |nil=>simp[qy]
 |cons d r A=>rw[cP,vP,A,vP,jD,kD,eE,<-dT,db 65536 (65536^r.length),j3]
def JM:∀(l:List Nat)(i x:Nat),i<l.length->qy (l.set i x)+65536^i*l.getD i 0=qy l+65536^i*x
 |[],i,x,h=>by simp at h
 |d::r,0,x,_=>by simp[vP];omega
 |d::r,i+1,x,h=>by
  have A:=JM r i x (by simpa using h);simp only[jf,vP,List.getD_cons_succ,kD];have e:∀y,65536^i*65536*y=65536*(65536^i*y):=λy=>by rw[db (65536^i) 65536,dT]
  rw[e,e];omega
def Er:∀ l:List Nat,(∀d∈l,d<65536)->qy l<65536^l.length
 |[],_=>by simp[qy]
 |d::r,h=>by
  have C:=Er r λx A=>h x (by simp[A])
  have h0:=h d ny;rw[vP,jD,kD];omega
def a1q(h:qy o+65536^m*(x/65536)=T)(C:T<65536^o.length)(E:65536<=x):m<o.length:=by
 have A:1<=x/65536:=I;have J:65536^m*1<=65536^m*(x/65536):=Nat.mul_le_mul_left _ A;exact(Nat.pow_lt_pow_iff_right mX).1 (show 65536^m<65536^o.length by omega)
def Tn(h:qy o+65536^m*(x/65536)=T)(A:m<o.length):
  qy (o.set m ((x/65536+o.getD m 0) % 65536))+65536^(m+1)*((x/65536+o.getD m 0)/65536)=T:=by
 have C:=JM o m ((x/65536+o.getD m 0) % 65536) A;generalize o.getD m 0=d at*;generalize x/65536=q at*;have E:65536^m*((q+d) % 65536)+65536^(m+1)*((q+d)/65536)=65536^m*q+65536^m*d:=by
  rw[kD,dT,<-eE,<-eE];congr 1;omega
 omega
def a1r{j c:Nat}(A:j<o.length):
  qy (o.set j ((o.getD j 0+c) % 65536))+65536^(j+1)*((o.getD j 0+c)/65536)=qy o+65536^j*c:=by
 have C:=JM o j ((o.getD j 0+c) % 65536) A;generalize o.getD j 0=d at*;have E:65536^j*((d+c) % 65536)+65536^(j+1)*((d+c)/65536)=65536^j*d+65536^j*c:=by
  rw[kD,dT,<-eE,<-eE];congr 1;omega
 omega
def AX(l:List Nat)(i:Nat)(h:i<l.length):qy (l.take (i+1))=qy (l.take i)+65536^i*l.getD i 0:=by
 rw[List.take_succ_eq_append_getElem h,AV,jQ,lZ I];congr 2;rw[jN,ja h];rfl
def Tp(h:∀d∈o,d<65536)(i x:Nat):∀d∈o.set i (x % 65536),d<65536:=by
 intro d hd;rcases List.mem_or_eq_of_mem_set hd with A|A
 .exact h d A
 .rw[A];exact cN _ mX
def prod_bound{a b:List Nat}(C:∀d∈a,d<65536)(hb:∀d∈b,d<65536){y:Nat}(E:x<=qy a)(hy:y<=qy b):x*y<65536^(a.length+b.length):=by
 have J:=Er a C;have A:=Er b hb;rw[Nat.pow_add];have N:=et E hy;have aa:=Nat.mul_lt_mul_of_lt_of_le J (cG A) (cQ (jB _) A);omega
def Es(l:List Nat)(k:Nat):qy (l.take k)<=qy l:=by
 have h:=AV (l.take k) (l.drop k);rw[kS]at h;omega
def Fv(a b:List Nat)(i k:Nat):Nat:=qy (a.take i)*qy b+65536^i*(a.getD i 0*qy (b.take k))
def X6(a b:List Nat)(i:Nat):Fv a b i 0=qy (a.take i)*qy b:=by
 unfold Fv;simp[qy]
def VP(a b:List Nat)(i:Nat)(h:i<a.length):Fv a b i b.length=qy (a.take (i+1))*qy b:=by
 unfold Fv;rw[ky,AX a i h,lq,dT]
def a1s(a b:List Nat)(i k:Nat)(h:k<b.length):Fv a b i k+65536^(i+k)*(a.getD i 0*b.getD k 0)=Fv a b i (k+1):=by
 unfold Fv;rw[AX b k h,eE (a.getD i 0),eE (65536^i),Nat.pow_add,j3];congr 2;rw[dT];congr 1;exact Nat.mul_left_comm _ _ _
def a7i{a b:List Nat}(A:∀d∈a,d<65536)(hb:∀d∈b,d<65536)(i k:Nat)(h:i<a.length):Fv a b i k<65536^(a.length+b.length):=by
 refine cQ ?_ (prod_bound A hb (Es a (i+1)) (iP (qy b)));rw[<-VP a b i h];unfold Fv;exact Nat.add_le_add_left (Nat.mul_le_mul_left _ (Nat.mul_le_mul_left _ (by rw[ky];exact Es b k))) _
def getD_lt{a:List Nat}(A:∀d∈a,d<65536)(i:Nat):a.getD i 0<65536:=by
 rw[jN];by_cases h:i<a.length;.rw[ja h];exact A _ (ey h)
 .rw[dl I];decide
def vw(o:List Nat)(m x T:Nat):Prop:=qy o+65536^m*(x/65536)=T
def vw.in_(h:vw o m x T)(A:T<65536^n)(ho:o.length=n)(C:65536<=x):m<n:=by
 subst ho;exact a1q h A C
def vw.step(h:vw o m x T)(A:m<o.length)(hd:d=o.getD m 0):vw (o.set m ((x/65536+d) % 65536)) (m+1) (x/65536+d) T:=by
 subst hd;exact Tn h A
def vw.done(h:vw o m x T)(A:x<65536):qy o=T:=by
 have C:qy o+65536^m*(x/65536)=T:=h;rwa [Nat.div_eq_of_lt A,Nat.mul_zero,mh]at C
def vw.start{a b:List Nat}{j z p:Nat}(A:j+k<o.length)(E:z=o.getD (j+k) 0)(hk:k<b.length)(ho:qy o=Fv a b j k)(hp:p=a.getD j 0*b.getD k 0):
  vw (o.set (j+k) ((z+p) % 65536)) (j+k+1) (z+p) (Fv a b j (k+1)):=by
 have C:=a1r (o:=o) (j:=j+k) (c:=p) A;subst E;rw[ho,hp,a1s a b j k hk]at C;rw[hp];exact C
def X7{y z:Nat}(A:x<65536)(hy:y<65536)(C:z<65536):z+x*y<4294967296:=by
 have E:x*y<=65535*65535:=et I I;omega
def LD(h:∀d∈o,d<65536)(k:Nat)(hk:k<=o.length):qy (o.drop k)=qy o/65536^k:=by
 have A:=AV (o.take k) (o.drop k);have C:=Er (o.take k) λd hd=>h d (List.mem_of_mem_take hd)
 rw[kS,jQ,lZ hk]at A;rw[jQ,lZ hk]at C;rw[A,Nat.add_mul_div_left _ _ (Nat.pow_pos mX),Nat.div_eq_of_lt C,mg]
def pQ(o:List Nat)(k whole:Nat):Prop:=whole=qy (o.drop k)
def pQ.start(o:List Nat)(n:Nat)(h:o.length=n):pQ o n 0:=by
 unfold pQ;rw[List.drop_of_length_le I];rfl
def pQ.step{whole:Nat}(h:pQ o (k+1) whole)(hk:k<o.length)(hd:d=o.getD k 0):pQ o k (whole*65536+d):=by
 unfold pQ at*;rw[lH hk,vP,<-h,hd,jN,ja hk];show whole*65536+o[k]=o[k]+65536*whole;omega
def pQ.lt{whole:Nat}(h:pQ o k whole)(ho:∀d∈o,d<65536)(hk:o.length<=k+2):whole<4294967296:=by
 unfold pQ at h;have A:=Er (o.drop k) λd hd=>ho d (List.mem_of_mem_drop hd)
 rw[jP]at A;have C:65536^(o.length - k)<=65536^2:=kR mX I;omega
def b0z:(65536:Nat)^4=2^(32*2):=mX
def b0A:(65536:Nat)^6=2^(32*3):=mX
def pQ.a8W{whole y:Nat}(h:pQ o 4 whole)(ho:∀d∈o,d<65536)(hl:o.length=6)(A:qy o=y*y):whole=y^2/2^(32*2):=by
 unfold pQ at h;rw[h,LD ho 4 I,A,b0z,Nat.pow_two]
def pQ.a8X{whole y:Nat}(h:pQ o 6 whole)(ho:∀d∈o,d<65536)(hl:o.length=9)(A:qy o=y*y*y):whole=y^3/2^(32*3):=by
 unfold pQ at h;have e:y^3=y*y*y:=by rw[kD,Nat.pow_two]
 rw[h,LD ho 6 I,A,b0A,e]
def Ky(y:Nat):List Nat:=[y % 65536,y/65536 % 65536,y/4294967296]
def QA(y:Nat):qy (Ky y)=y:=by
 show y % 65536+65536*(y/65536 % 65536+65536*(y/4294967296+65536*0))=y;omega
def VQ(y:Nat)(h:y<68719476736):∀d∈Ky y,d<65536:=by
 intro d hd;unfold Ky at hd;simp only[l5,List.not_mem_nil,or_false]at hd;rcases hd with rfl|rfl|rfl<;>omega
def rA(p C n A x aE:Nat):Prop:=EK p C n A x=aE/\A=2^n/2
def rA.start(p A:Nat):rA p A 36 34359738368 0 (EK p A 36 34359738368 0):=⟨rfl,mX⟩
def rA.step{p C A whole:Nat}(h:rA p C n A x aE)(hb:0<A)(J:whole=(x+A)^C/2^(32*C)):
  ∃m,rA p C m (A/2) (if whole<p then x+A else x) aE:=by
 obtain⟨N,E⟩:=h;obtain⟨m,rfl⟩:∃m,n=m+1:=by
  cases n with
  |zero=>simp at E;omega
  |succ m=>exact⟨m,rfl⟩
 refine⟨m,?_,by rw[E,kD];omega⟩;rw[J];exact N
def rA.yes{p C A whole:Nat}(h:rA p C n A x aE)(hb:0<A)(J:whole=(x+A)^C/2^(32*C))(hc:whole<p):∃m,rA p C m (A/2) (x+A) aE:=by
 have⟨m,E⟩:=h.step hb J;rw[Ax hc]at E;exact⟨m,E⟩
def rA.no{p A C whole:Nat}(h:rA p A n C x aE)(hb:0<C)(J:whole=(x+C)^A/2^(32*A))(hc:¬whole<p):∃m,rA p A m (C/2) x aE:=by
 have⟨m,E⟩:=h.step hb J;rw[At hc]at E;exact⟨m,E⟩
def rA.done{p A:Nat}(h:rA p A n 0 x aE):x=aE:=by
 obtain⟨E,C⟩:=h;cases n with
 |zero=>exact E
 |succ m=>rw[kD,Nat.mul_div_cancel _ mX]at C;exact absurd C.symm (Nat.ne_of_gt (Nat.pow_pos mX))
end
section
open Go.RowKit Go.Shelf
def dC(l:List Nat):Array iQ:=(l.map λd:Nat=>lL mP (d:Int)).toArray
def Fw(l:List Nat)(i:Nat)(h:i<l.length):(dC l)[i]? =O (V mP ((l.getD i 0:Nat):Int)):=by
 unfold dC;simp[ja h]
def a7j(l:List Nat)(i x:Nat):(dC l).setIfInBounds i (V mP (x:Int))=dC (l.set i x):=by
 unfold dC;simp[List.map_set]
def VR(h:p:=by
 have⟨i,hi,hz⟩:=Option.map_eq_some_iff.1 h;simp only[cT]at hz;exact⟨i,hi,hz.1,hz.2.1,hz.2.2⟩):p:=h
def a1t:∃i,Tryz.prog.info? 50=O i/\i.zero=O (V mP 0)/\i.size=1/\i.bytes=8:=by
 have h:(Tryz.prog.info? 50).map (λi=>(i.zero,i.size,i.bytes))=O (O (V mP 0),1,8):=mZ;exact VR
def QB(n:Nat)(L:Int)(hL:L=n)(hn:n<=1000)(w:K):(Instr.makeSlice 112 (V X L) (V X L)).run iN w=
  .ok (G (O (Z w.heap.size 0 U)) n n) (w.alloc (mM (dC (jC n 0)) 50)):=by
 subst hL;obtain⟨i,hi,A,hs,hb⟩:=a1t;have C:=run_make (P:=iN) w 112 50 i (.int .u64 0) Tryz.underlying112 hi A .i64 .i64 (n:Int) (n:Int) I I (by rw[hb];omega) I;have e:madeCells #[.int .u64 0] n=dC (jC n 0):=by
  apply Array.ext';rw[toList_madeCells_one];simp[dC]
 simpa [hs,Value.cells,e]using C
structure AY(W:K)(bo n v:Nat)(o:List Nat):Prop where
 blk:mY W bo (dC o) 50
 len:o.length=n
 YB:∀d∈o,d<65536
 val:qy o=v
def AY.drewN{W:K}{v:Nat}(h:AY W bo n v o)(k:Nat):AY (W.drewN k) bo n v o:=⟨h.blk,h.len,h.YB,h.val⟩
def Below.drewN'{ar v:K}(h:iR B ar v)(n:Nat):iR B ar (v.drewN n):=⟨h.os,h.tape,h.output,h.size,h.block⟩
def AY.put{W:K}{v:Nat}(h:AY W bo n v o)(i x:Nat)(y:Int)(hy:y=((x % 65536:Nat):Int)):AY (W.setCell (Z bo i U) (V mP y)) bo n (qy (o.set i (x % 65536))) (o.set i (x % 65536)):=by
 subst hy;exact⟨by have:=h.blk.set i (V mP ((x % 65536:Nat):Int));rwa [a7j]at this,by rw[dp,h.len],Tp h.YB i x,rfl⟩
def AY.same{W:K}{v:Nat}(h:AY W bo n v o){ar:Nat}(e:qy o=ar):AY W bo n ar o:=⟨h.blk,h.len,h.YB,e⟩
def QC(a b:List Nat)(ba N:Nat)(w:K)(aD:mY w ba (dC a) 50)(hB:mY w N (dC b) 50)(aW:∀d∈a,d<65536)(hb:∀d∈b,d<65536)(bC:a.length<=8)(bD:b.length<=8):
  iW iN 55 #[G (O (Z ba 0 U)) a.length a.length,G (O (Z N 0 U)) b.length b.length] w λe w'=>
   ∃bo o,e=mK (G (O (Z bo 0 U)) (a.length+b.length) (a.length+b.length))/\w.heap.size<=bo/\AY w' bo (a.length+b.length) (qy a*qy b) o/\iR w.heap.size w w':=by
 have aX:=QB (a.length+b.length) ((a.length:Int)+(b.length:Int)) I I w
 have aY:AY (w.alloc (mM (dC (jC (a.length+b.length) 0)) 50)) w.heap.size (a.length+b.length) 0 (jC (a.length+b.length) 0):=
  ⟨mY.new w _ _,ny,by intro d hd;rw[List.eq_of_mem_replicate hd];decide,by
   generalize a.length+b.length=n;induction n with
   |zero=>rfl
   |succ n aZ=>rw[cJ,vP,aZ]⟩
 have aF:=aD.lt;have aG:=hB.lt;have bg:=Y (mY.alloc aD (mM (dC (jC (a.length+b.length) 0)) 50));have aH:=Y (mY.alloc hB (mM (dC (jC (a.length+b.length) 0)) 50));have aI:=Y ((iT w.heap.size w).alloc (iP _) (mM (dC (jC (a.length+b.length) 0)) 50));have bq:=Y aY;go_in;go_wp2_with fail;have⟨n,hn⟩:=nE (a.length+b.length);obtain⟨B,J⟩:=o7 w;have ay:=Y hn;have bu:n<=16:=I;have ag:=Y J;have aa:=iU bq.out (iU bg.out (iU aH.out aI.out));rw[hn,J]at aa;rw[J]at aF aG;have aa:=Y aa;rw[hn,J];go_loopw [6] (λi wr=>∃(j:Nat) (o:List Nat),i=V X j/\j<=a.length/\R (AY wr B n (qy (a.take j)*qy b) o)/\R (mY wr ba (dC a) 50/\mY wr N (dC b) 50/\iR B w wr)) (λi _=>a.length -(jF i).toNat);case atStart=>exact⟨0,_,rfl,jB _,by have:=aa.1;simpa [R,qy]using this,aa.2⟩
 case round=>
  obtain⟨j,o,rfl,bF,A,C⟩:=hrel;by_cases c:j<a.length
  .have aJ:=Y aW
   have aK:=Y hb;have⟨x,az⟩:∃x,x=a.getD j 0:=⟨_,rfl⟩;have aL:x<65536:=az▸getD_lt aJ j;have ah:=Y az;clear az;go_wp2;go_loopw [7] (λi wr=>∃(k:Nat) (o:List Nat),i=V X k/\k<=b.length/\R (AY wr B n (Fv a b j k) o)/\R (mY wr ba (dC a) 50/\mY wr N (dC b) 50/\iR B w wr)) (λi _=>b.length -(jF i).toNat);case atStart=>exact⟨0,o,rfl,jB _,by rw[X6];exact A,C⟩
   case round=>
    clear A C o;obtain⟨k,o,rfl,hk,A,C⟩:=hrel;by_cases aM:k<b.length
    .have ai:j+k<n:=by have:=ay.out;omega
     have⟨y,hy⟩:∃y,y=b.getD k 0:=⟨_,rfl⟩;have⟨z,ae⟩:∃z,z=o.getD (j+k) 0:=⟨_,rfl⟩;have aN:y<65536:=hy▸getD_lt aK k;have aO:z<65536:=ae▸getD_lt A.YB (j+k);have aP:wr.cell? (Z B (j+k) U)=O (V mP (z:Int)):=by rw[A.blk.cell,Fw _ _ (by rw[A.len];exact ai),ae]
     have f0:wr.frozen? (Z B (j+k) U)=M:=A.blk.free _;have g1:wr.cell? (Z ba j U)=O (V mP (x:Int)):=by rw[C.1.cell,Fw _ _ c,ah.out]
     have g2:wr.cell? (Z N k U)=O (V mP (y:Int)):=by rw[C.2.1.cell,Fw _ _ aM,hy]
     have aQ:=Y hy;have aj:=Y ae;clear hy ae;have ak:=X7 aL aN aO;have⟨p,hp⟩:∃p,p=x*y:=⟨_,rfl⟩;rw[<-hp]at ak;have bz:IntKind.u64.wrap ((x:Int)*(y:Int))=(p:Int):=by
      rw[IntKind.wrap_u64,hp];have e:((x:Int)*(y:Int))=((x*y:Nat):Int):=ny;rw[e,<-hp];omega
     have au:R (p=a.getD j 0*b.getD k 0):=by rw[<-ah.out,<-aQ.out];exact hp
     clear hp;go_wp2_with fail;go_quiet (fail);go_wp2_with fail;have aA:=a7i aJ aK j (k+1) c;rw[ay.out]at aA;have bA:=Y aA;clear aA aP f0 g1 g2;go_loopw [8,9] (λbB mv wr=>∃(m E:Nat) (o:List Nat),bB=V mP E/\mv=V X m/\m<=n/\E<4294967296/\R (AY wr B n (qy o) o)/\R (vw o m E (Fv a b j (k+1)))/\R (mY wr ba (dC a) 50/\mY wr N (dC b) 50/\iR B w wr)) (λ_ mv _=>n -(jF mv).toNat);case atStart=>
      have aR:=A.drewN nq;refine⟨j+k+1,z+p,o.set (j+k) ((z+p) % 65536),by go_num,by go_num,I,ak,aR.put (j+k) (z+p) _ I,?_,cx (C.1.drewN nq) nk _,cx (C.2.1.drewN nq) nk _,?_⟩;.exact vw.start (by rw[A.len];exact ai) aj aM A.val au.out
      .exact(Below.drewN' C.2.2 nq).setCell (iP _) _
     case round=>
      clear A C aj au o;obtain⟨m,E,o,rfl,rfl,aX,bE,A,af,C⟩:=hrel;by_cases aB:65536<=E
      .have av:m<n:=by
        exact af.in_ bA A.len aB
       have⟨d,hd⟩:∃d,d=o.getD m 0:=⟨_,rfl⟩;have hd0:d<65536:=hd▸getD_lt A.YB m;have aP:wr.cell? (Z B m U)=O (V mP (d:Int)):=by rw[A.blk.cell,Fw _ _ (by rw[A.len];exact av),hd]
       have f0:wr.frozen? (Z B m U)=M:=A.blk.free _;have aS:=Y hd;clear hd;have ht:As ((65536:Int)<=(E:Int))=u:=nk;clear aB;go_wp2_with fail;refine⟨⟨m+1,E/65536+d,o.set m ((E/65536+d) % 65536),by go_num,by go_num,I,I,A.put m (E/65536+d) _ I,?_,cx C.1 nk _,cx C.2.1 nk _,C.2.2.setCell (iP _) _⟩,by simp[jF];omega⟩;exact af.step (by rw[A.len];exact av) aS.out
      .have ax:=af.done I
       have aU:=Y (A.same ax);have ht:As ((65536:Int)<=(E:Int))=M:=nk;clear af ax A aB;go_wp2_with fail;exact⟨⟨k+1,o,by go_num,I,aU,C⟩,by simp[jF];omega⟩
    .obtain rfl:k=b.length:=I
     have aV:=VP a b j c;go_wp2_with fail;exact⟨⟨j+1,o,by go_num,I,aV▸A,C⟩,by simp[jF];omega⟩
  .obtain rfl:j=a.length:=I
   go_wp2;go_returns;have hd:=A.out;rw[ky]at hd;have hn:=ay.out;subst hn;exact⟨B,o,rfl,by rw[ag.out];exact iP _,hd,ag.out▸C.2.2⟩
def QD(y:Nat)(a b c:Int)(A:a=((y % 65536:Nat):Int))(hb:b=((y/65536 % 65536:Nat):Int))(hc:c=((y/4294967296:Nat):Int)):
  (#[V mP a,V mP b,V mP c]:Array iQ)=dC (Ky y):=by
 subst A;subst hb;subst hc;rfl
def zD(a b:List Nat)(la lb ba A:Nat)(w:K)(J:mY w ba (dC a) 50)(hB:mY w A (dC b) 50)(N:∀d∈a,d<65536)(hb:∀d∈b,d<65536)(C:a.length=la)(E:b.length=lb)(aa:la<=8)(ae:lb<=8):
  iW iN 55 #[G (O (Z ba 0 U)) la la,G (O (Z A 0 U)) lb lb] w λe w'=>
   ∃bo o,e=mK (G (O (Z bo 0 U)) (la+lb) (la+lb))/\w.heap.size<=bo/\AY w' bo (la+lb) (qy a*qy b) o/\iR w.heap.size w w':=by
 subst C;subst E;exact QC a b ba A w J hB N hb aa ae
def a1u(h:p:=by
 clear hG CK;by_cases cp:whole<p
 .have⟨m,hm⟩:=hF.yes c hwh cp
  have HM:=Y hm;clear hm hwh;go_wp2_with fail;exact⟨⟨m,x+bit,bit/2,by go_num,by go_num,I,HM,hb,hBw⟩,by simp[jF];omega⟩
 .have⟨m,hm⟩:=hF.no c hwh cp
  have HM:=Y hm;clear hm hwh;go_wp2_with fail;exact⟨⟨m,x,bit/2,by go_num,by go_num,I,HM,hb,hBw⟩,by simp[jF];omega⟩):p:=h
def a1v(h:p:=by
 have HDE:=Y hd;clear hd;have e1:((j+1:Nat):Int) - 1=(j:Int):=I;rw[e1];go_wp2_with fail;exact⟨⟨j,whole*65536+d,by go_num,by go_num,I,I,hG.step (by rw[CK.len];omega) HDE.out,CK,hb,hBw⟩,by simp[jF];omega⟩):p:=h
def X8(p:Nat)(hp:p<4294967296)(w:K):
  iW iN 30 #[V mP p,V X 2] w λe w'=>e=mK (V mQ (FL p 2:Nat))/\iR w.heap.size w w':=by
 have ai:=rA.start p 2;have⟨aE,aj⟩:∃aE,aE=EK p 2 36 34359738368 0:=⟨_,rfl⟩;have C:FL p 2=aE % 4294967296:=by rw[aj];rfl
 rw[C];rw[<-aj]at ai;have ak:=Y ai;clear C aj ai;obtain⟨B,hB⟩:=o7 w;have au:=Y hB;rw[hB];go_in;go_wp2;go_loopw [5,6] (λaD bv wr=>∃(n x bit:Nat),aD=V mP x/\bv=V mP bit/\x+2*bit<=68719476736/\R (rA p 2 n bit x aE)/\iR B w wr/\B<=wr.heap.size) (λ_ bv _=>(jF bv).toNat);case atStart=>exact⟨36,0,34359738368,rfl,rfl,I,ak,au.out▸iT _ _,kP au.symm⟩
 case round=>
  obtain⟨n,x,bit,rfl,rfl,aL,hF,hb,av⟩:=hrel;by_cases c:0<bit
  .go_upto_region 7 with fail
   have hy:x+bit<68719476736:=I;have aa:=VQ (x+bit) hy;have ae:=QA (x+bit);rw[QD (x+bit) _ _ _ I I I];have af:(Ky (x+bit)).length=3:=rfl;refine rY (λW=>mY W wr.heap.size (dC (Ky (x+bit))) 50/\iR B w W) ⟨mY.new wr _ _,hb.alloc av _⟩ ?_;have⟨D,aF⟩:∃D,D=Ky (x+bit):=⟨_,rfl⟩;rw[<-aF]at aa ae af|-;have ag:=Y aa;have ax:=Y ae;have ah:=Y af;generalize wr.heap.size=bd at*;rintro wr ⟨hk,hb⟩;have ay:=hk.lt;have N:=Y hk;have A:=Y hb;go_wp2_with fail;refine(zD D D 3 3 bd bd _ N N ag ag ah ah mX mX).mono ?_;rintro e w1 ⟨az,o,rfl,aH,CK,E⟩;have aA:=a7 E N ay;have aB:=A.trans (E.mono I);rw[ax.out]at CK;have aI:=E.size;have N:=Y aA;have A:=Y aB;have J:=Y CK;go_wp2;go_loopw [10,11] (λaG iv wr=>∃(k whole:Nat),aG=V mP whole/\iv=V X ((k:Int) - 1)/\k<=6/\4<=k/\R (pQ o k whole)/\R (AY wr az 6 ((x+bit)*(x+bit)) o)/\iR B w wr/\B<=wr.heap.size) (λ_ iv _=>(jF iv).toNat);case atStart=>exact⟨6,0,rfl,by go_num,I,I,pQ.start o 6 J.len,J,A.out,I⟩
   case round=>
    clear J A;obtain⟨k,whole,rfl,rfl,hk,aJ,hG,CK,hb,hBw⟩:=hrel;by_cases aM:4<k
    .obtain⟨j,rfl⟩:∃j,k=j+1:=⟨k - 1,I⟩
     have aK:=hG.lt CK.YB (by rw[CK.len];omega);have⟨d,hd⟩:∃d,d=o.getD j 0:=⟨_,rfl⟩;have hd0:d<65536:=hd▸getD_lt CK.YB j;have aN:wr.cell? (Z az j U)=O (V mP (d:Int)):=by rw[CK.blk.cell,Fw _ _ (by rw[CK.len];omega),hd]
     exact a1v
    .obtain rfl:k=4:=I
     have hwh:=hG.a8W CK.YB CK.len CK.val;exact a1u
  .obtain rfl:bit=0:=I
   obtain rfl:=hF.done;go_wp2;go_returns;exact⟨ny,hb⟩
def X9(p:Nat)(hp:p<4294967296)(w:K):
  iW iN 30 #[V mP p,V X 3] w λe w'=>e=mK (V mQ (FL p 3:Nat))/\iR w.heap.size w w':=by
 have ax:=rA.start p 3;have⟨aE,ay⟩:∃aE,aE=EK p 3 36 34359738368 0:=⟨_,rfl⟩;have J:FL p 3=aE % 4294967296:=by rw[ay];rfl
 rw[J];rw[<-ay]at ax;have az:=Y ax;clear J ay ax;obtain⟨B,hB⟩:=o7 w;have aA:=Y hB;rw[hB];go_in;go_wp2;go_loopw [5,6] (λaG bv wr=>∃(n x bit:Nat),aG=V mP x/\bv=V mP bit/\x+2*bit<=68719476736/\R (rA p 3 n bit x aE)/\iR B w wr/\B<=wr.heap.size) (λ_ bv _=>(jF bv).toNat);case atStart=>exact⟨36,0,34359738368,rfl,rfl,I,az,aA.out▸iT _ _,kP aA.symm⟩
 case round=>
  obtain⟨n,x,bit,rfl,rfl,aQ,hF,hb,aB⟩:=hrel;by_cases c:0<bit
  .go_upto_region 7 with fail
   have hy:x+bit<68719476736:=I;have ai:=VQ (x+bit) hy;have aj:=QA (x+bit);rw[QD (x+bit) _ _ _ I I I];have ak:(Ky (x+bit)).length=3:=rfl;refine rY (λW=>mY W wr.heap.size (dC (Ky (x+bit))) 50/\iR B w W) ⟨mY.new wr _ _,hb.alloc aB _⟩ ?_;have⟨D,aH⟩:∃D,D=Ky (x+bit):=⟨_,rfl⟩;rw[<-aH]at ai aj ak|-;have N:=Y ai;have au:=Y aj;have aa:=Y ak;generalize wr.heap.size=bd at*;rintro wr ⟨hk,hb⟩;have aD:=hk.lt;have ae:=Y hk;have C:=Y hb;go_wp2_with fail;refine(zD D D 3 3 bd bd _ ae ae N N aa aa mX mX).mono ?_;rintro e w1 ⟨aI,o,rfl,aK,CK,af⟩;have aF:=a7 af ae aD;have E:=C.trans (af.mono I);rw[au.out]at CK;have aL:=af.size;have ae:=Y aF;have C:=Y E;have A:=Y CK;go_wp2_with fail;refine(zD o D 6 3 aI bd _ A.blk ae A.YB N A.len aa mX mX).mono ?_;rintro e w2 ⟨av,ah,rfl,aM,CK,ag⟩;have E:=C.trans (ag.mono I);rw[au.out,A.val]at CK;have aN:=ag.size;have C:=Y E;have A:=Y CK;clear E CK ag;go_wp2;go_loopw [10,11] (λaJ iv wr=>∃(k whole:Nat),aJ=V mP whole/\iv=V X ((k:Int) - 1)/\k<=9/\6<=k/\R (pQ ah k whole)/\R (AY wr av 9 ((x+bit)*(x+bit)*(x+bit)) ah)/\iR B w wr/\B<=wr.heap.size) (λ_ iv _=>(jF iv).toNat);case atStart=>exact⟨9,0,rfl,by go_num,I,I,pQ.start ah 9 A.len,A,C.out,I⟩
   case round=>
    clear A C;obtain⟨k,whole,rfl,rfl,hk,aO,hG,CK,hb,hBw⟩:=hrel;by_cases aR:6<k
    .obtain⟨j,rfl⟩:∃j,k=j+1:=⟨k - 1,I⟩
     have aP:=hG.lt CK.YB (by rw[CK.len];omega);have⟨d,hd⟩:∃d,d=ah.getD j 0:=⟨_,rfl⟩;have hd0:d<65536:=hd▸getD_lt CK.YB j;have aS:wr.cell? (Z av j U)=O (V mP (d:Int)):=by rw[CK.blk.cell,Fw _ _ (by rw[CK.len];omega),hd]
     exact a1v
    .obtain rfl:k=6:=I
     have hwh:=hG.a8X CK.YB CK.len CK.val;exact a1u
  .obtain rfl:bit=0:=I
   obtain rfl:=hF.done;go_wp2;go_returns;exact⟨ny,hb⟩
end
section
open Go.RowKit
variable {P:j6}
def mY.setRow{cs:Array iQ}(h:mY w b cs t)(A:Array iQ):mY (w.setRow b A) b A t:=setRow_heap w b cs A t (0,0) h
def Below.setRow(hb:iR B w0 w)(hBg:B<=g)(cs:Array iQ):iR B w0 (w.setRow g cs):=below_setRow hb hBg cs
def vz{C:K->Prop}{a:lY}{o:kC}{aq:lY->Prop}(ty:jl)(x:Operand)(ho:o.op=.load ty x)(g:Nat)(A:a.eval x=.pointer (O (Z g 0 U)))(t:jl)(cs:Array iQ)(d:TypeDesc)(E:∀w,C w->mY w g cs t)(J:P.underlying ty=O d)(hd:(match d with| .struct _| .array _ _=>u|_=>M)=u)(hi:(P.info? ty).map (·.size)=O cs.size)(hk:aq (a.put o.dst (.agg cs))):o.quiet P a C aq:=
 ⟨mI cs,λw N=>by
  unfold Oper.quietAt execOp;simp only[ho,A,Instr.loadAt,Instr.sureAddr,Sem.run_bind,Sem.run_pure,lK,run_loadVar_row w g t ty cs (0,0) d (E w N) J hd hi];exact⟨rfl,rfl⟩,hk⟩
end
section
open Go.RowKit Go.Shelf
def kA(l:List Nat):Array iQ:=(l.map λd:Nat=>lL mQ (d:Int)).toArray
def Bt(l:List Nat):(kA l).size=l.length:=by simp[kA]
def NA(l:List Nat)(i:Nat)(h:i<l.length):(kA l)[i]? =O (V mQ ((l.getD i 0:Nat):Int)):=by
 unfold kA;simp[ja h]
def a7k(l:List Nat)(i x:Nat):(kA l).setIfInBounds i (V mQ (x:Int))=kA (l.set i x):=by
 unfold kA;simp[List.map_set]
def a1w(l:List Nat):(kA l).all (·.oneCell')=u:=by
 rw[Array.all_eq_true_iff_forall_mem];intro v A;unfold kA at A;simp at A;obtain⟨d,_,rfl⟩:=A;rfl
def yZ:(Tryz.prog.info? 33).map (λi=>(i.zero,i.size))=O (O (mI (kA (jC 72 0))),72):=mZ
def a1x(f3 f2:Nat->Nat):wK f3 f2 []=jC 72 0:=by
 unfold wK;simp;decide
structure a1y(f3 f2:Nat->Nat):Prop where
 three:∀(p:Nat)(w:K),p<4294967296->iW iN 30 #[V mP p,V X 3] w λe w'=>e=mK (V mQ (f3 p:Nat))/\iR w.heap.size w w'
 two:∀(p:Nat)(w:K),p<4294967296->iW iN 30 #[V mP p,V X 2] w λe w'=>e=mK (V mQ (f2 p:Nat))/\iR w.heap.size w w'
def a4o:a1y (λp=>FL p 3) (λp=>FL p 2):=⟨λp w h=>X9 p h w,λp w h=>X8 p h w⟩
structure Et(B bk br:Nat)(w0 w:K)(L:List Nat):Prop where
 key:mY w bk (kA L) 33
 res:mY w br (kA (jC 72 0)) 33
 below:iR B w0 w
def Et.after(h:Et B bk br w0 w L)(hb:iR w.heap.size w w')(hB:B<=w.heap.size):Et B bk br w0 w' L:=
 ⟨a7 hb h.key h.key.lt,a7 hb h.res h.res.lt,h.below.trans (hb.mono hB)⟩
def Et.put(h:Et B bk br w0 w L)(hk:B<=bk)(A:br≠bk)(i x:Nat):Et B bk br w0 (w.setCell (Z bk i U) (V mQ (x:Int))) (L.set i x):=
 ⟨by have:=h.key.set i (V mQ (x:Int));rwa [a7k]at this,h.res.setOther A _,h.below.setCell hk _⟩
def a1z(f3 f2:Nat->Nat)(bB:a1y f3 f2)(w:K):
  iW iN 11 #[] w λe w'=>e=mK (mI (kA (wK f3 f2 (oQ 312))))/\iR w.heap.size w w':=by
 have aS:=Y bB;obtain⟨B,hB⟩:=o7 w;have aU:=(zero_of_info (P:=iN) yZ).1;have⟨aV,aN⟩:∃aV,aV=kA (jC 72 0):=⟨_,rfl⟩;rw[<-aN]at aU;have aW:=Y aN;rw[hB];clear aN;go_in;go_upto_region 2 with fail;have N:Et B (B+1) B w ((w.alloc (mM aV 33)).alloc (mM aV 33)) (wK f3 f2 (oQ 2)):=by
  rw[Kw,a1x];rw[aW.out,<-hB];refine⟨?_,(mY.new _ _ _).alloc _,((iT _ _).alloc (iP _) _).alloc ny _⟩;have:=mY.new (w.alloc (mM (kA (jC 72 0)) 33)) (kA (jC 72 0)) 33;rwa [jY]at this
 refine rY (λW=>Et B (B+1) B w W (wK f3 f2 (oQ 2))) N ?_;clear aU N hB aW aV;rintro w1 N;have aF:=Y N;clear N;go_wp2;go_loopw [2,3] (λbC aO wr=>∃(p n:Nat),aO=V mP p/\bC=V X n/\2<=p/\p<=312/\n<=64/\R (n=(oQ p).length)/\R (Et B (B+1) B w wr (wK f3 f2 (oQ p)))) (λ_ aO _=>312 -(jF aO).toNat);case atStart=>exact⟨2,0,rfl,rfl,I,I,I,rfl,aF⟩
 case round=>
  clear aF w1;obtain⟨p,n,rfl,rfl,aG,bG,aP,hn,C⟩:=hrel;have E:n<64->p<312:=λh=>by
   have az:=hn.out;rcases jL p 312 with ah|ah
   .exact ah
   .obtain rfl:p=312:=I
    rw[Qz]at az;omega
  have bH:B+1<wr.heap.size:=C.key.lt;by_cases c:n<64
  .have bI:=E c
   clear E;go_wp2;go_loopw [4,5] (λrv aQ aX=>∃(d:Nat) (ai:Bool),rv=mH ai/\aQ=V mP d/\2<=d/\d<=p/\R (ai=Tj p d)/\aX=wr) (λ_ aQ _=>p -(jF aQ).toNat);case atStart=>exact⟨2,u,rfl,rfl,I,I,rfl,rfl⟩
   case round=>
    obtain⟨d,ai,rfl,rfl,hd2,bJ,aa,rfl⟩:=hrel;by_cases cd:d<p
    .cases ai with
     |true=>
      go_wp2_with fail;refine⟨⟨d+1,_,rfl,by go_num,I,I,?_,trivial⟩,by simp[jF];omega⟩;unfold R;rw[LC p d hd2,<-aa.out,lX];congr 1;exact propext ⟨λh=>by omega,λh=>by omega⟩
     |false=>
      go_wp2_with fail;refine⟨⟨d+1,_,rfl,by go_num,I,I,?_,trivial⟩,by simp[jF];omega⟩;unfold R;rw[LC p d hd2,<-aa.out,Bool.false_and]
    .obtain rfl:d=p:=I
     cases ai with
     |false=>
      have aH:=Tk d aG aa.symm;go_wp2_with fail;exact⟨⟨d+1,n,by go_num,rfl,I,I,aP,by rw[aH];exact hn,by rw[aH];exact C⟩,by simp[jF];omega⟩
     |true=>
      have aj:=Qx d aG aa.symm;have aA:=Y aj;clear aj;go_wp2_with fail;refine pG (aS.three d _ I) λw2 aI=> ?_
      have ae:=C.after aI I;have aB:w2.cell? (Z (B+1) n U)=O (V mQ (((wK f3 f2 (oQ d)).getD n 0:Nat):Int)):=by
       rw[ae.key.cell,NA _ _ (by rw[tH];omega)]
      generalize (wK f3 f2 (oQ d)).getD n 0=aY at aB;have f0:w2.frozen? (Z (B+1) n U)=M:=ae.key.free _;have ak:=Y ae;clear ae C aI;by_cases c8:n<8
      .go_upto_region 13 with fail
       have A:=ak.put I I n (f3 d);generalize w2.setCell (Z (B+1) n U) (V mQ (f3 d:Nat))=w3 at*;have bD:B+1<w3.heap.size:=A.key.lt;have aJ:=Y A;clear A aB f0 ak;go_wp2_with fail;refine pG (aS.two d _ I) λw4 aK=> ?_
       have af:=aJ.after aK I;have aB:w4.cell? (Z (B+1) (64+n) U)=O (V mQ (((((wK f3 f2 (oQ d)).set n (f3 d)).getD (64+n) 0:Nat):Nat):Int)):=by
        rw[af.key.cell,NA _ _ (by rw[dp,tH];omega)]
       generalize ((wK f3 f2 (oQ d)).set n (f3 d)).getD (64+n) 0=aY at aB;have f0:w4.frozen? (Z (B+1) (64+n) U)=M:=af.key.free _;have J:=X5 f3 f2 (oQ d) d n hn c8;have au:=af.put I I (64+n) (f2 d);rw[J,<-aA.out]at au;have ag:n+1=(oQ (d+1)).length:=by rw[aA.out,jo,ej,<-hn.out]
       have aZ:=Y au;have bg:=Y ag;clear af J au ag aJ aK;go_wp2_with fail;exact⟨⟨d+1,n+1,by go_num,by go_num,I,I,I,bg,aZ⟩,by simp[jF];omega⟩
      .go_wp2_with fail
       have J:=X4 f3 f2 (oQ d) d n hn I c;have A:=ak.put I I n (f3 d);rw[J,<-aA.out]at A;have ag:n+1=(oQ (d+1)).length:=by rw[aA.out,jo,ej,<-hn.out]
       exact⟨⟨d+1,n+1,by go_num,by go_num,I,I,I,ag,A⟩,by simp[jF];omega⟩
  .obtain rfl:n=64:=I
   have bq:p=312:=by
    rcases jL p 312 with ah|ah
    .have:=Tm p ah;rw[<-hn.out]at this;omega
    .omega
   subst bq;have av:=C.key;have ax:=C.res;have ay:(kA (jC 72 0)).size=(kA (wK f3 f2 (oQ 312))).size:=by rw[Bt,Bt,tH];rfl
   have az:=a1w (wK f3 f2 (oQ 312));have bu:=C.res.setRow (kA (wK f3 f2 (oQ 312)));have aL:=Below.setRow C.below (iP _) (kA (wK f3 f2 (oQ 312)));have hi:(Tryz.prog.info? 33).map (·.size)=O (kA (wK f3 f2 (oQ 312))).size:=by rw[Bt,tH];exact(zero_of_info (P:=iN) yZ).2
   clear E hn;generalize aM:kA (wK f3 f2 (oQ 312))=KA at*;have bz:=Y aM;clear aM;have bE:=Y bu;have bA:=Y aL;have aR:=Y hi;generalize kA (jC 72 0)=bF at*;have aD:=Y (iU av (iU ax (iU ay az)));clear bu aL C hi av ax ay az;go_wp2_with (first|(refine wpList_load_row rfl 33 (.tmp 1) rfl (B+1) rfl _ KA (0,0) _ aD.1 lF rfl aR ?_)|(refine wpList_store_row rfl 33 (.tmp 0) (.tmp 38) rfl B KA rfl rfl _ bF aD.2.1 aR aD.2.2.1 aD.2.2.2 ?_));exact iY (v:=.agg KA) (results_cell_row (P:=iN) Tryz.results11 _ _ B _ KA (0,0) _ rfl bE lF rfl aR) rfl ⟨by rw[bz.out],bA.out⟩
def a4p(w:K):iW iN 11 #[] w λe w'=>e=mK (mI (kA JL))/\iR w.heap.size w w':=
 a1z _ _ a4o w
def Tq(e f g:UInt32)(w:K):
  iW iN 193 #[V mQ e.toNat,V mQ f.toNat,V mQ g.toNat] w λen w'=>en=mK (V mQ ((e&&&f)^^^(~~~e&&&g)).toNat)/\w=w':=by
 have A:=Y (KN e f);have C:=Y (xB e 4294967295);have E:=Y (KN (e^^^4294967295) g);have J:=Y (a5C (e&&&f) ((e^^^4294967295)&&&g));have N:=Y (Wt e f g);go_in;go_wp2;go_returns;refine⟨congrArg (λz=>jS (lL mQ z)) ?_,rfl⟩;rw[N.out,<-J.out,<-E.out,<-C.out,<-A.out];rfl
def a1A(a b c:UInt32)(w:K):
  iW iN 194 #[V mQ a.toNat,V mQ b.toNat,V mQ c.toNat] w λen w'=>en=mK (V mQ ((a&&&b)^^^(a&&&c)^^^(b&&&c)).toNat)/\w=w':=by
 have A:=Y (KN a b);have C:=Y (KN a c);have E:=Y (KN b c);have J:=Y (a5C (a&&&b) (a&&&c));have N:=Y (a5C (a&&&b|||a&&&c) (b&&&c));have aa:=Y (a2F a b c);go_in;go_wp2;go_returns;refine⟨congrArg (λz=>jS (lL mQ z)) ?_,rfl⟩;rw[aa.out,<-N.out,<-J.out,<-E.out,<-C.out,<-A.out]
def a1B(x:UInt32)(n:Nat)(w:K)(C:1<=n)(E:n<=31):
  iW iN 192 #[V mQ x.toNat,V mP n] w λen w'=>en=mK (V mQ (qj x n).toNat)/\w=w':=by
 have A:=Y (a5D x n);go_in;go_wp2;go_returns;refine⟨congrArg (λz=>jS (lL mQ z)) ?_,rfl⟩;rw[<-A.out]
def JN(x:UInt32)(n:Int)(w:K)(A:1<=n/\n<=31):
  iW iN 192 #[V mQ x.toNat,V mP n] w λen w'=>en=mK (V mQ (qj x n.toNat).toNat)/\w=w':=by
 have h:=a1B x n.toNat w I I;rwa [show((n.toNat:Nat):Int)=n by omega]at h
def a1C:∃i,Tryz.prog.info? 22=O i/\i.zero=O (V mQ 0)/\i.size=1/\i.bytes=4:=by
 have h:(Tryz.prog.info? 22).map (λi=>(i.zero,i.size,i.bytes))=O (O (V mQ 0),1,4):=mZ;exact VR
def wC(l:Nat->UInt32):Nat->Array iQ
 |0=>ku 64 (V mQ 0)
 |k+1=>(wC l k).setIfInBounds k (V mQ ((l k).toNat:Int))
def NC(l:Nat->UInt32):∀k,(wC l k).size=64
 |0=>by rw[wC];exact Array.size_replicate
 |k+1=>by rw[wC,Array.size_setIfInBounds,NC l k]
def Fx(l:Nat->UInt32):∀ k m:Nat,m<k->k<=64->(wC l k)[m]? =O (V mQ ((l m).toNat:Int))
 |0,m,h,_=>by omega
 |k+1,m,h,A=>by
  rw[wC];by_cases e:m=k
  .subst e
   rw[cy,Ax (by rw[NC];omega)]
  .rw[Array.getElem?_setIfInBounds_ne I]
   exact Fx l k m I I
def QE(l:Nat->UInt32)(k m:Nat)(h:m<64):∃v,(wC l k)[m]? =O v:=⟨_,Array.getElem?_eq_getElem (by rw[NC];exact h)⟩
def a7l(l:Nat->UInt32)(w:K):(Instr.makeSlice 231 (V X 64) (V X 64)).run iN w=
  .ok (G (O (Z w.heap.size 0 U)) 64 64) (w.alloc (mM (wC l 0) 22)):=by
 obtain⟨i,hi,A,hs,hb⟩:=a1C;have C:=run_make (P:=iN) w 231 22 i (.int .u32 0) Tryz.underlying231 hi A .i64 .i64 ((64:Nat):Int) ((64:Nat):Int) I I (by rw[hb];decide) I;have e:madeCells #[.int .u32 0] 64=wC l 0:=by
  apply Array.ext';rw[toList_madeCells_one];simp[wC]
 simpa [hs,Value.cells,e]using C
def aC(A W:S8):Nat->Array iQ
 |0=>A.cs
 |k+1=>(aC A W k).setIfInBounds k (V mQ ((A.get k+W.get k).toNat:Int))
def a7m(A W:S8)(k:Nat)(h:k<8):(aC A W k)[k]? =O (V mQ ((A.get k).toNat:Int)):=by
 have:k=0\/k=1\/k=2\/k=3\/k=4\/k=5\/k=6\/k=7:=I;rcases this with rfl|rfl|rfl|rfl|rfl|rfl|rfl|rfl<;>simp[aC,S8.cs,S8.get]
def a1D(A:S8)(k:Nat)(h:k<8):(A.cs)[k]? =O (V mQ ((A.get k).toNat:Int)):=by
 have:k=0\/k=1\/k=2\/k=3\/k=4\/k=5\/k=6\/k=7:=I;rcases this with rfl|rfl|rfl|rfl|rfl|rfl|rfl|rfl<;>simp[S8.cs,S8.get]
def a7n(A W:S8):aC A W 8=(Gr A W).cs:=by simp[aC,S8.cs,S8.get,Gr]
def ND(l:List AC)(s:S8)(k:Nat):sM l s (k+1)=KO (sM l s k) (kN k) (wS l k):=by rw[sM,wS]
def NF(l:List AC)(s:S8):sM l s 0=s:=by rw[sM]
def xP{c:Nat}{cs:Array iQ}(h:mY w c cs t)(A:c≠b)(C:S8):mY (Mk w b C) c cs t:=
 (((((((h.setOther (by simpa using A) _).setOther (by simpa using A) _).setOther (by simpa using A) _).setOther (by simpa using A) _).setOther (by simpa using A) _).setOther (by simpa using A) _).setOther (by simpa using A) _).setOther (by simpa using A) _
def Fy{f:FuncId}{args:Array iQ}{v:iQ}(h:iW P f args (w.drewN (m+n)) λe w'=>e=mK v/\w.drewN (m+n)=w'):iW P f args (w.drewN (m+n)) λe A=>e=mK v/\∃k,A=w.drewN (m+k):=
 h.mono λ_ _ ⟨he,C⟩=>⟨he,n,C.symm⟩
def Bu(s:An)(i:Nat)(h:i<s.size)(x:Int)(A:x=(i:Int))(w:K):(jX 9 (H s) (V X x)).run iN w=.ok (V .u8 ((s[i]).toNat:Int)) w:=by
 subst A;rw[run_index_string w 9 s .i64 i l8];simp[h]
structure a5p(st:S8)(s:An)(wv kn:Nat->UInt32)(rv:Nat->S8)(L:List Nat)(aE:S8):Prop where
 lo:∀k,k<16->wv k=Aa s.data.toList k
 hi:∀k,16<=k->k<64->wv k=wv (k - 16)+(uW (wv (k - 15)) 7 18 3+wv (k - 7)+uW (wv (k - 2)) 17 19 10)
 key:∀k,k<64->(kA L)[k]? =O (V mQ ((kn k).toNat:Int))
 zero:rv 0=st
 next:∀k,rv (k+1)=KO (rv k) (kn k) (wv k)
 all:aE=Gr (rv 64) st
def a7o(st:S8)(s:An):a5p st s (wS s.data.toList) kN (sM s.data.toList st) JL (Gr (sM s.data.toList st 64) st) where
 lo k h:=a4P _ k h
 hi k h h2:=a4Q _ k h h2
 key k h:=by
  rw[VO,NA _ _ nk,jN,kr (by simpa using h),eo,List.getElem?_range h,Option.map_some,Option.getD_some]
 zero:=NF _ _
 next k:=ND _ _ k
 all:=rfl
def Ya(s t:S8):Gr s t=Gr t s:=by
 unfold Gr;simp only[UInt32.add_comm]
structure Eu(B:Nat)(w0 w:K)(KA:Array iQ)(v:S8)(W:Array iQ):Prop where
 key:mY w B KA 33
 v:mY w (B+1) v.cs 31
 res:mY w (B+2) OM.cs 31
 ws:mY w (B+3) W 22
 below:iR B w0 w
def Eu.drewN{v:S8}(h:Eu B w0 w KA v W)(n:Nat):Eu B w0 (w.drewN n) KA v W:=⟨h.key,h.v,h.res,h.ws,Below.drewN' h.below n⟩
def Eu.a8Z{v:S8}{l:Nat->UInt32}(h:Eu B w0 w KA v (wC l k)):Eu B w0 (w.setCell (Z (B+3) k U) (V mQ ((l k).toNat:Int))) KA v (wC l (k+1)):=
 ⟨h.key.setOther ny _,h.v.setOther ny _,h.res.setOther ny _,h.ws.set _ _,h.below.setCell ny _⟩
structure vB(B b:Nat)(w0 w:K)(KA ab W:Array iQ)(st:S8):Prop where
 key:mY w B KA 33
 v:mY w (B+1) ab 31
 res:mY w (B+2) OM.cs 31
 ws:mY w (B+3) W 22
 was:mY w b st.cs 31
 below:iR B w0 w
def vB.drewN{ab:Array iQ}(h:vB B b w0 w KA ab W st)(n:Nat):vB B b w0 (w.drewN n) KA ab W st:=⟨h.key,h.v,h.res,h.ws,h.was,Below.drewN' h.below n⟩
def vB.Mk{A:S8}(h:vB B b w0 w KA A.cs W st)(hb:B+3<b)(ad:S8):vB B b w0 (Mk w (B+1) ad) KA ad.cs W st:=
 ⟨xP h.key I ad,Ab h.v ad,xP h.res I ad,xP h.ws I ad,xP h.was I ad,xC h.below I ad⟩
def vB.one{A:S8}(h:vB B b w0 w KA (aC A st k) W st)(hb:B+3<b):vB B b w0 (w.setCell (Z (B+1) k U) (V mQ ((A.get k+st.get k).toNat:Int))) KA (aC A st (k+1)) W st:=
 ⟨h.key.setOther ny _,h.v.set _ _,h.res.setOther ny _,h.ws.setOther ny _,h.was.setOther nk _,h.below.setCell ny _⟩
def a1E(st:S8)(s:An)(wv kn:Nat->UInt32)(rv:Nat->S8)(L:List Nat)(aE:S8)(aY:a5p st s wv kn rv L aE)(w:K)(hs:s.size=64):
  iW iN 152 #[mI (kA L),mI st.cs,H s] w λe w'=>e=mK (mI aE.cs)/\iR w.heap.size w w':=by
 have ah:=Y aY;clear aY;obtain⟨B,hB⟩:=o7 w;have⟨KA,aj⟩:∃KA,KA=kA L:=⟨_,rfl⟩;rw[<-aj];have aZ:=λw=>a7l wv w
 have bS:=Y aj;have⟨ab,aP⟩:∃ab,ab=st.cs:=⟨_,rfl⟩;rw[<-aP];have⟨ai,ak⟩:∃ai,ai=wC wv 0:=⟨_,rfl⟩;rw[<-ak]at aZ;have aQ:=Y (iU hB (iU aP ak));rw[hB];clear aj aP ak;go_in;go_upto_region 2 with fail;have ae:Eu B w ((((w.alloc (mM KA 33)).alloc (mM ab 31)).alloc (mM OM.cs 31)).alloc (mM ai 22)) KA st ai:=by
  have⟨bT,bU,dz⟩:=aQ.out;rw[bU,<-bT];have bV:=mY.new w KA 33;have bg:=mY.new (w.alloc (mM KA 33)) st.cs 31;have bq:=mY.new ((w.alloc (mM KA 33)).alloc (mM st.cs 31)) OM.cs 31;have bu:=mY.new (((w.alloc (mM KA 33)).alloc (mM st.cs 31)).alloc (mM OM.cs 31)) ai 22;rw[jY]at bg;rw[jY,jY]at bq;rw[jY,jY,jY]at bu;exact⟨((bV.alloc _).alloc _).alloc _,(bg.alloc _).alloc _,bq.alloc _,bu,((((iT _ _).alloc (iP _) _).alloc (by rw[jY];omega) _).alloc (by rw[jY,jY];omega) _).alloc (by rw[jY,jY,jY];omega) _⟩
 refine rY (λW=>Eu B w W KA st ai) ae ?_;rw[aQ.2.2];clear aZ hB ae aQ;rintro w1 A;have N:=Y A;clear A;go_wp2;go_loopw [8] (λiv wr=>∃(k:Nat),iv=V X k/\k<=64/\R (Eu B w wr KA st (wC wv k))) (λiv _=>64 -(jF iv).toNat);case atStart=>exact⟨0,rfl,I,N⟩
 case round=>
  clear N w1;obtain⟨k,rfl,hk,A⟩:=hrel;by_cases c:k<64
  .by_cases bz:16<=k
   .have bW:wr.cell? (Z (B+3) (k - 16) U)=O (V mQ ((wv (k - 16)).toNat:Int)):=(A.ws.cell _).trans (Fx wv k _ I hk)
    have g1:wr.cell? (Z (B+3) (k - 15) U)=O (V mQ ((wv (k - 15)).toNat:Int)):=(A.ws.cell _).trans (Fx wv k _ I hk);have g2:wr.cell? (Z (B+3) (k - 7) U)=O (V mQ ((wv (k - 7)).toNat:Int)):=(A.ws.cell _).trans (Fx wv k _ I hk);have g3:wr.cell? (Z (B+3) (k - 2) U)=O (V mQ ((wv (k - 2)).toNat:Int)):=(A.ws.cell _).trans (Fx wv k _ I hk);have⟨ov,af⟩:=QE wv k k c;have g4:wr.cell? (Z (B+3) k U)=O ov:=(A.ws.cell _).trans af;have f4:wr.frozen? (Z (B+3) k U)=M:=A.ws.free _;have aH:=ah.hi k bz c;generalize wv (k - 16)=bX at*;generalize wv (k - 15)=E at*;generalize wv (k - 7)=bY at*;generalize wv (k - 2)=C at*;have bA:=Y aH;clear aH af;have e1:=xB (qj E 7) (qj E 18);have e2:=xB (qj E 7^^^qj E 18) (shr E 3);have e3:=xB (qj C 17) (qj C 19);have e4:=xB (qj C 17^^^qj C 19) (shr C 10);have e5:(E.toNat:Int)/8=((shr E 3).toNat:Int):=YX E 3;have dA:(C.toNat:Int)/1024=((shr C 10).toNat:Int):=YX C 10;go_wp2_with fail;go_quiet (fail);go_upto_region 7 with fail;refine oZ 32 mZ mZ ?_;simp only[jm,jI,kZ,ll];repeat(go_big_quiet_step (exact Fy (JN _ _ _ mX)))
    refine jT ?_;intro au;go_wp2_with fail;have t1:bits BinOp.xor kF (((qj E 7).toNat^^^(qj E 18).toNat:Nat):Int) ((shr E 3).toNat:Int)=((uW E 7 18 3).toNat:Int):=by rw[<-ew,e2];rfl
    have bZ:bits BinOp.xor kF (((qj C 17).toNat^^^(qj C 19).toNat:Nat):Int) ((shr C 10).toNat:Int)=((uW C 17 19 10).toNat:Int):=by rw[<-ew,e4];rfl
    have hval:((bX.toNat:Int)+bits BinOp.xor kF (((qj E 7).toNat^^^(qj E 18).toNat:Nat):Int) ((shr E 3).toNat:Int)+(bY.toNat:Int)+bits BinOp.xor kF (((qj C 17).toNat^^^(qj C 19).toNat:Nat):Int) ((shr C 10).toNat:Int)) % 4294967296=((wv k).toNat:Int):=by
     rw[t1,bZ,bA.out,<-tY,<-tY,<-tY];omega
    rw[hval];exact⟨⟨k+1,by go_num,I,(A.drewN _).a8Z⟩,by simp[jF];omega⟩
   .have⟨ov,af⟩:=QE wv k k c
    have g4:wr.cell? (Z (B+3) k U)=O ov:=(A.ws.cell _).trans af;have f4:wr.frozen? (Z (B+3) k U)=M:=A.ws.free _;have aI:=ah.lo k I;clear af;have aJ:=OB s k I;have dB:=λw=>Bu s (4*k) I (4*(k:Int)) I w
    have dD:=λw=>Bu s (4*k+1) I (4*(k:Int)+1) I w
    have dE:=λw=>Bu s (4*k+2) I (4*(k:Int)+2) I w
    have dF:=λw=>Bu s (4*k+3) I (4*(k:Int)+3) I w
    have b0:=(s[4*k]).toNat_lt;have b1:=(s[4*k+1]).toNat_lt;have dG:=(s[4*k+2]).toNat_lt;have b3:=(s[4*k+3]).toNat_lt;generalize (s[4*k]).toNat=cz at*;generalize (s[4*k+1]).toNat=cK at*;generalize (s[4*k+2]).toNat=cZ at*;generalize (s[4*k+3]).toNat=df at*;have dh:=Y (aI.trans aJ);clear aI aJ;go_wp2_with fail;refine oZ 32 mZ mZ ?_;simp only[jm,jI,kZ,ll];repeat(go_big_quiet_step (fail))
    refine jT ?_;intro au;go_wp2_with fail;have hval:(cz:Int)*16777216+(cK:Int)*65536+(cZ:Int)*256+(df:Int)=((wv k).toNat:Int):=by
     rw[dh.out,YW _ I];omega
    rw[hval];exact⟨⟨k+1,by go_num,I,(A.drewN _).a8Z⟩,by simp[jF];omega⟩
  .obtain rfl:k=64:=I
   have av:=A.v.eight;have hlt:B+3<wr.heap.size:=A.ws.lt;have bB:B<=wr.heap.size:=I
   have ag:vB B wr.heap.size w (wr.alloc (mM st.cs 31)) KA st.cs (wC wv 64) st:=
    ⟨A.key.alloc _,A.v.alloc _,A.res.alloc _,A.ws.alloc _,mY.new wr st.cs _,A.below.alloc bB _⟩
   have aK:=Y ag;clear ag bB;go_upto_region 10 with fail;have ag:=aK.out;refine rY (λW=>vB B wr.heap.size w W KA st.cs (wC wv 64) st) ag ?_;generalize wr.heap.size=b at*;clear ag aK av A wr;rintro w1 A;have N:=Y A;clear A;rw[<-ah.zero]at N;go_wp2;go_loopw [12] (λiv wr=>∃(k:Nat),iv=V X k/\k<=64/\R (vB B b w wr KA (rv k).cs (wC wv 64) (rv 0))) (λiv _=>64 -(jF iv).toNat);case atStart=>exact⟨0,rfl,I,N⟩
   case round=>
    clear N w1;obtain⟨k,rfl,hk,A⟩:=hrel;by_cases c:k<64
    .have aR:wr.cell? (Z B k U)=O (V mQ ((kn k).toNat:Int)):=by rw[A.key.cell,bS.out,ah.key k c]
     have bC:wr.cell? (Z (B+3) k U)=O (V mQ ((wv k).toNat:Int)):=(A.ws.cell _).trans (Fx wv 64 k c I);have aL:=ah.next k
     have av:=A.v.eight;have bD:=A.v.free;generalize kn k=aS at*;generalize wv k=aU at*;generalize bE:rv k=aM at*;obtain⟨a,b1,c1,d,e,f,g,h⟩:=aM;have⟨ch,ax⟩:∃ch,ch=(e&&&f)^^^(~~~e&&&g):=⟨_,rfl⟩;have⟨aV,ay⟩:∃aV,aV=(a&&&b1)^^^(a&&&c1)^^^(b1&&&c1):=⟨_,rfl⟩;have az:=λw=>Tq e f g w
     have aA:=λw=>a1A a b1 c1 w
     rw[<-ax]at az;rw[<-ay]at aA;have bF:=Y aL;have bG:=Y ax;have bH:=Y ay;have bI:=Y az;have bJ:=Y aA;clear ax ay aL bE az aA;have E:=xB (qj e 6) (qj e 11);have dw:=xB (qj a 2) (qj a 13);simp only at av;go_wp2_with fail;go_quiet ((first|(go_at_call 192;exact Calls.Ht (JN _ _ _ mX))|(go_at_call 193;exact Calls.Ht (bI _))));go_upto_region 14 with fail;have bK:(((h.toNat:Int)+bits BinOp.xor kF (((qj e 6).toNat^^^(qj e 11).toNat:Nat):Int) ((qj e 25).toNat:Int)+(aS.toNat:Int)+(aU.toNat:Int)) % 4294967296+(ch.toNat:Int)) % 4294967296=((FK ⟨a,b1,c1,d,e,f,g,h⟩ aS aU).toNat:Int):=by
      have t:bits BinOp.xor kF (((qj e 6).toNat^^^(qj e 11).toNat:Nat):Int) ((qj e 25).toNat:Int)=((Oz e 6 11 25).toNat:Int):=by rw[<-ew,xB];rfl
      unfold FK;simp only;rw[t,bG.out,<-tY,<-tY,<-tY,<-tY];omega
     rw[bK];generalize aN:FK ⟨a,b1,c1,d,e,f,g,h⟩ aS aU=P;have bL:=Y aN;clear bK aN;go_quiet ((first|(go_at_call 192;exact Fy (JN _ _ _ mX))|(go_at_call 194;exact Fy (bJ _))));go_upto_region 15 with fail;have bM:(bits BinOp.xor kF (((qj a 2).toNat^^^(qj a 13).toNat:Nat):Int) ((qj a 22).toNat:Int)+(aV.toNat:Int)) % 4294967296=((Ii ⟨a,b1,c1,d,e,f,g,h⟩).toNat:Int):=by
      have t:bits BinOp.xor kF (((qj a 2).toNat^^^(qj a 13).toNat:Nat):Int) ((qj a 22).toNat:Int)=((Oz a 2 13 22).toNat:Int):=by rw[<-ew,xB];rfl
      unfold Ii;simp only;rw[t,bH.out,<-tY]
     rw[bM];generalize aO:Ii ⟨a,b1,c1,d,e,f,g,h⟩=aW;have bN:=Y aO;clear bM aO aR bC E dw;go_wp2_with fail;rw[tY P aW,tY d P];have bO:rv (k+1)=⟨P+aW,a,b1,c1,d+P,e,f,g⟩:=by
      rw[bF.out];unfold KO;simp only;rw[bL.out,bN.out]
     refine⟨⟨k+1,by go_num,I,?_⟩,by simp[jF];omega⟩;rw[bO];exact(A.drewN _).Mk hlt ⟨P+aW,a,b1,c1,d+P,e,f,g⟩
    .obtain rfl:k=64:=I
     have bP:aE=Gr (rv 64) (rv 0):=by rw[ah.zero];exact ah.all
     generalize rv 64=aM at*;generalize rv 0=aa at*;have bQ:=Y bP;have ae:vB B b w wr KA (aC aM aa 0) (wC wv 64) aa:=A.out;have N:=Y ae;clear bP A ae;go_wp2;go_loopw [15] (λiv wr=>∃(k:Nat),iv=V X k/\k<=8/\R (vB B b w wr KA (aC aM aa k) (wC wv 64) aa)) (λiv _=>8 -(jF iv).toNat);case atStart=>exact⟨0,rfl,I,N⟩
     case round=>
      clear N;obtain⟨k,rfl,hk,A⟩:=hrel;by_cases c:k<8
      .have bW:wr.cell? (Z (B+1) k U)=O (V mQ ((aM.get k).toNat:Int)):=(A.v.cell _).trans (a7m aM aa k c)
       have f0:wr.frozen? (Z (B+1) k U)=M:=A.v.free _;have g1:wr.cell? (Z b k U)=O (V mQ ((aa.get k).toNat:Int)):=(A.was.cell _).trans (a1D aa k c);have hval:=Y (tY (aM.get k) (aa.get k));have J:=(λn=>(A.drewN n).one hlt);generalize aM.get k=x at*;generalize aa.get k=y at*;have aB:=Y J;clear J;go_wp2_with fail;refine oZ 9 mZ mZ ?_;simp only[jm,jI,kZ,ll];repeat(go_big_quiet_step (fail))
       refine jT ?_;intro au;have J:=aB.out au;have aG:=Y J;clear aB J;go_wp2_with fail;rw[hval.out];exact⟨⟨k+1,by go_num,I,aG⟩,by simp[jF];omega⟩
      .obtain rfl:k=8:=I
       have aX:=A.v;rw[a7n,<-bQ.out]at aX;have av:=aX.eight;have bD:=A.res.free;have dx:=A.res.eight;have aD:=Y A.res;have aF:=Y A.below;clear A aX;go_wp2_with fail;change bodyPost _ _ _ _ _ (Mk wr (B+2) aE);have q:=(Ab aD aE).eight;have bR:=xC aF (show B<=B+2 by omega) aE;clear aD aF bD av dx;generalize Mk wr (B+2) aE=w2 at*;exact iY (v:=mI aE.cs) (by simp[jv,Tryz.results152,go_sem,q];rfl) rfl ⟨rfl,bR⟩
def a4q(st:S8)(s:An)(w:K)(hs:s.size=64):
  iW iN 152 #[mI (kA JL),mI st.cs,H s] w λe w'=>e=mK (mI (Gs st s.data.toList).cs)/\iR w.heap.size w w':=by
 have h:=a1E st s _ _ _ _ _ (a7o st s) w hs;rw[Ya]at h;exact h
def a81:iQ->Nat
 | H b=>b.size
 |_=>0
def a4r(n:Nat):Nat->List AC
 |0=>[]
 |j+1=>jH (n/256^j % 256)::a4r n j
def a1F(n:Nat):a4r (n*8) 8=wm n 8:=rfl
def Tt(j:Nat):(⟨(xD j).toArray⟩:An)++⟨#[0]⟩=⟨(xD (j+1)).toArray⟩:=by
 apply cS;unfold xD;simp[List.replicate_succ']
def a4s(n:Nat)(w:K)(hn:n<=1099511627776):
  iW iN 151 #[V X n] w λe w'=>e=mK (H ⟨(zb n).toArray⟩)/\iR w.heap.size w w':=by
 have hp:=Y (Uo n);generalize zb n=aF at*;have⟨k,hk⟩:∃k,k=(64 -(n+9) % 64) % 64:=⟨_,rfl⟩;rw[<-hk]at hp;have av:k<64:=I;have ax:=Y hk;obtain⟨B,hB⟩:=o7 w;have ah:=Y hB;rw[hB];go_in;go_wp2;go_loopw [3] (λv wr=>∃(j:Nat) (S:An),v=H S/\R (j<=k)/\R (S.size=1+j)/\R (S=⟨(xD j).toArray⟩)/\iR B w wr) (λv _=>100 - a81 v);case atStart=>exact⟨0,_,rfl,jB _,rfl,rfl,ah.out▸iT _ _⟩
 case round=>
  obtain⟨j,S,rfl,aa,ae,E,A⟩:=hrel;have ay:S.size<=72:=by have af:=aa.out;have ag:=ae.out;omega
  have ai:=ax.out;have J:=aa.out;have C:=ae.out;have aG:=Y (iU ai (iU J C));by_cases c:j<k
  .have ht:(((n:Int)+(S.size:Int)+8) % 64 !=0)=u:=by rw[C];simp only[ce,ne_eq];omega
   go_wp2_with fail;have J:=aa.out;have C:=ae.out;refine⟨⟨j+1,_,rfl,by show j+1<=k;omega,?_,?_,A⟩,?_⟩
   .show(S++⟨#[0]⟩).size=_
    rw[cg,C];rfl
   .show S++⟨#[0]⟩=_
    rw[E.out];exact Tt j
   .show 100 -(S++⟨#[0]⟩).size<100 - S.size
    rw[cg];have:(⟨#[0]⟩:An).size=1:=rfl;omega
  .obtain rfl:j=k:=I
   have ht:(((n:Int)+(S.size:Int)+8) % 64 !=0)=M:=by rw[C];simp only[bne_eq_false_iff_eq];omega
   go_wp2;go_loopw [4,5,6] (λm t i wr=>∃(j aw:Nat) (T:An),m=V mP aw/\t=H T/\i=V X j/\j<=8/\R (aw=n*8/256^j)/\aw<18446744073709551616/\R (T.size=j)/\R (T=⟨(a4r (n*8) j).toArray⟩)/\iR B w wr) (λ_ _ i _=>8 -(jF i).toNat);case atStart=>exact⟨0,n*8,_,by go_num,rfl,rfl,I,by unfold R;simp,I,rfl,rfl,A⟩
   case round=>
    obtain⟨j,aw,T,rfl,rfl,rfl,aB,aj,az,ak,N,A⟩:=hrel;have aA:T.size<=8:=by have:=ak.out;omega
    by_cases c8:j<8
    .have aD:=λW b=>a2s Im W b ((aw:Int) % 256)
     go_wp2_with fail;have au:B<=wr.heap.size:=by have af:=A.size;have ag:=ah.out;omega
     refine⟨⟨j+1,aw/256,_,by go_num,rfl,by go_num,I,?_,I,?_,?_,A.alloc au _⟩,by simp[jF];omega⟩
     .unfold R
      rw[aj.out,Nat.div_div_eq_div_mul,<-kD]
     .unfold R
      have af:=ak.out;have ag:∀x:AC,(⟨#[x]⟩:An).size=1:=λ_=>rfl
      rw[cg,ag,af];omega
     .unfold R
      rw[N.out,a4r,<-aj.out];apply cS;simp
    .obtain rfl:j=8:=I
     go_wp2;go_returns;refine⟨congrArg (λb:An=>jS (Value.string b)) ?_,A⟩;rw[E.out,N.out,a1F,hp.out];apply cS;simp
end
end Go.Proofs.YtamfcjmhnndbdaaGreatDoor


