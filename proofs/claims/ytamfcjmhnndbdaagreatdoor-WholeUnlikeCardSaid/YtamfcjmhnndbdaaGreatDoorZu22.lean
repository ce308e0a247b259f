/- Part 22 of the proof. -/
import Derived.Test.YtamfcjmhnndbdaaGreatDoorZu00
import Derived.Test.YtamfcjmhnndbdaaGreatDoorZu18
import Derived.Test.YtamfcjmhnndbdaaGreatDoorZu06
import Derived.Test.YtamfcjmhnndbdaaGreatDoorZu07
import Derived.Test.YtamfcjmhnndbdaaGreatDoorZu08
import Derived.Test.YtamfcjmhnndbdaaGreatDoorZu09
import Derived.Test.YtamfcjmhnndbdaaGreatDoorZu16
import Derived.Test.YtamfcjmhnndbdaaGreatDoorZu20
import Derived.Test.YtamfcjmhnndbdaaGreatDoorZu21
import Derived.WalkKit
import Derived.Deep.Slices
import Derived.Deep.Fields
import Derived.ChangeSame
import Derived.SliceStrings
import Derived.ChangeArms
open Go.Value renaming agg→nC,bool→nA,int→ng,pointer→nz,slice→nk,string→ny
open Go.Obj renaming cells→nG
open Go.IntKind renaming i64→nH,u32→nJ,u64→nI
open Go.Ending renaming returned→nE
open Go.Lib renaming hid→jH
open Go.Proofs.Tryz renaming prog→jI,underlying9→mR
open Go renaming World→jJ,Value→jP,Calls→jV,maxLen→j5,TypeId→ko,Addr→l5,wpQuiet_nil→mJ,Program→mK
open Nat renaming le_refl→jL,le_trans→kg,add_assoc→kP,lt_or_ge→lh,lt_succ_self→lM
open Go.RowKit renaming Below→jS,Hid→jW,intOf→kW
open Go.RowKit.Below renaming refl→jT
open And renaming intro→jU
open List renaming getElem?_eq_getElem→jX,mem_of_getElem?→kT,getElem?_eq_some_iff→ll,take_length→l9
open Bool renaming and_eq_true→j3
open Array renaming getElem?_eq_some_iff→ku
open Go.Lit renaming int→lJ
open Option.some renaming injEq→mI
open Go.World renaming cell?→mW
namespace Go.Proofs.YtamfcjmhnndbdaaGreatDoor
set_option linter.unusedVariables false
set_option linter.unusedSimpArgs false
set_option maxRecDepth 100000
set_option maxHeartbeats 8000000
variable {a:Option l5}
section
open Go.RowKit
section
variable {c:oK}{rows:List Row}{id:Nat}{nm tx:ByteArray}
theorem ZQ(h:qX nm.data.toList=false):uP c rows id nm tx=(11,none):=by unfold uP;rw[if_pos (.inr h)]
theorem VB(h:(rows.find? λy=>decide (y.name=nm)).isSome=true):uP c rows id nm tx=(11,none):=by unfold uP;rw[if_pos (.inl h)]
theorem a2i(h0:qX nm.data.toList=true)(h:¬(rows.find? λy=>decide (y.name=nm)).isSome=true)(A:(rows.find? λy=>decide (y.id=id)).isSome=true):uP c rows id nm tx=(1,none):=by
 unfold uP;rw[if_neg (by rw[h0];simpa using h),if_pos A]
theorem ZR(h0:qX nm.data.toList=true)(h:¬(rows.find? λy=>decide (y.name=nm)).isSome=true)(A:¬(rows.find? λy=>decide (y.id=id)).isSome=true)(C:xu tx.data.toList=none):uP c rows id nm tx=(3,none):=by
 unfold uP;rw[if_neg (by rw[h0];simpa using h),if_neg A,C]
theorem VC(h0:qX nm.data.toList=true)(h:¬(rows.find? λy=>decide (y.name=nm)).isSome=true)(A:¬(rows.find? λy=>decide (y.id=id)).isSome=true){t:nL TL}(C:xu tx.data.toList=some t)(E:c.fmt=1/\(nL.o7 p0 t.sub&&pX t)=false):uP c rows id nm tx=(12,none):=by
 unfold uP;rw[if_neg (by rw[h0];simpa using h),if_neg A,C];dsimp only;rw[if_pos E]
theorem Tu(h0:qX nm.data.toList=true)(h:¬(rows.find? λy=>decide (y.name=nm)).isSome=true)(A:¬(rows.find? λy=>decide (y.id=id)).isSome=true){t:nL TL}(C:xu tx.data.toList=some t)(E:¬(c.fmt=1/\(nL.o7 p0 t.sub&&pX t)=false)):uP c rows id nm tx=(0,some ⟨id,nm,tx,t⟩):=by
 unfold uP;rw[if_neg (by rw[h0];simpa using h),if_neg A,C];dsimp only;rw[if_neg E]
end
theorem Ra{l:List UInt8}{x:nL TL}(h:BM l=some x):x.count<=1000/\pX x=true:=by
 unfold BM at h;split at h
 .split at h
  .rename_i A
   cases h;refine⟨?_,A⟩;unfold pX at A;simp only[j3,decide_eq_true_eq]at A;omega
  .cases h
 .cases h
theorem IA.at_{w:jJ}{oa:Option l5}{n cap:Nat}{A:List xG}(h:IA w (nk oa n cap) A){i:Nat}{e:xG}(he:A[i]? =some e):∃b off,oa=some ⟨b,off,none⟩/\b<w.heap.size/\w.cell? ⟨b,off+i*3,none⟩=some (ng nI e.id)/\w.cell? ⟨b,off+i*3+1,none⟩=some (ny e.nm)/\w.cell? ⟨b,off+i*3+2,none⟩=some (ny e.tx):=by
 obtain⟨J,C,E,N,O,I⟩:=h;cases E;exact I i e he
theorem ZT(a b:ByteArray):((a.toList==b.toList)=true/\jW (a=b))\/((a.toList==b.toList)=false/\jW (a≠b)):=by
 by_cases h:a=b;.exact .inl ⟨str_eq h,jH h⟩
 .exact .inr ⟨WL h,jH h⟩
theorem a4N(a b:Nat):(((a:Int)==(b:Int))=true/\jW (a=b))\/(((a:Int)==(b:Int))=false/\jW (a≠b)):=by
 by_cases h:a=b;.exact .inl ⟨by simp[h],jH h⟩
 .exact .inr ⟨wL,jH h⟩
theorem Tv{p:Prop}(h:p:=by
 refine oC nM nM ?_;repeat(go_big_quiet_step (fail))
 refine mJ ?_;intro x;go_wp2_with fail;go_returns;exact⟨by rw[HX.out];rfl,HB3 x⟩):p:=h
theorem a2j(c:oK)(E:List xG)(v:jP)(w:jJ)(bL:IA w v E)(bF:∀e,e∈E->e.nm.size<=j5/\e.tx.size<=1000)(hn:E.length<=100):
  jV jI 29 #[c.v,v] w λe w'=>e=nE (ng nH (Fa c E))/\jS w.heap.size w w':=by
 obtain⟨oa,cap,rfl,bB,dw,_⟩:=id bL;obtain⟨n,aM⟩:=nT E.length;obtain⟨g,hg⟩:=nT w.heap.size;have bM:=jH (wy (w:=w) c (t:=tV));have bG:jW (∀W,w.alloc (nG #[ng nH c.fmt,ng nJ c.mag,ng nH c.pO,ng nH c.qj,ng nH c.dep,ng nH c.oZ] tV)=W->W.heap.size=g+1):=jH λW h=>by subst h;simp[hg]
 have bW:=jH bL;have bX:=jH bF;have bC:=jH aM;have aN:jW (∀W,jV jI 39 #[nC #[ng nH c.fmt,ng nJ c.mag,ng nH c.pO,ng nH c.qj,ng nH c.dep,ng nH c.oZ]] W λe w'=>e=nE (nA (oM c))/\jS W.heap.size W w'):=jH λW=>OG c W
 obtain⟨R,aL⟩:=nT (Fa c E);have aO:jW (oM c=false->R=1):=jH λh=>by rw[<-aL];unfold Fa vo;rw[if_pos h];rfl
 have aP:jW (oM c=true->32<n->R=4):=jH λh N=>by rw[<-aL];unfold Fa vo;rw[h,if_neg nN,if_pos nK];rfl
 have aQ:jW (oM c=true->n<=32->∀er:Nat,rF c [] E=.error er->R=er):=jH λh N er az=>by rw[<-aL];unfold Fa vo;rw[h,if_neg nN,if_neg nK,az]
 have aR:jW (oM c=true->n<=32->∀rows,rF c [] E=.ok rows->R=0):=jH λh N rows az=>by rw[<-aL];unfold Fa vo;rw[h,if_neg nN,if_neg nK,az]
 unfold oK.v oK.cs;rw[hg]at bM⊢;rw[aM]at bW hn bB⊢;rw[aL];obtain⟨rc,bH⟩:=nT (oM c);rw[bH]at aN aO aP aQ aR;clear bL bF aM aL bH;go_in;go_upto_region 1 with fail;obtain⟨bI,c0,c1,c2,c3,c4,c5⟩:=bM.out _ rfl;have bY:=bG.out _ rfl;generalize w.alloc _=w1 at*;have bN:=jH bI;clear bM bG bI;cases rc with
 |false=>
  have HE:=jH (aO rfl);go_wp2_with fail;refine(aN _).mono ?_;rintro e w2 ⟨rfl,Q⟩;have HB2:=jH (bN.trans (Q.mono nK));clear Q;exact D6
 |true=>
 by_cases bZ:32<n
 .have HE:=jH (aP rfl bZ)
  go_wp2_with fail;refine(aN _).mono ?_;rintro e w2 ⟨rfl,Q⟩;have HB2:=jH (bN.trans (Q.mono nK));clear Q;exact D6
 have af:jW (∀er:Nat,rF c [] E=.error er->R=er):=jH (λer h=>aQ.out rfl nK er h);have cz:jW (∀rows,rF c [] E=.ok rows->R=0):=jH (λrows h=>aR.out rfl nK rows h);clear aQ aR;clear aO aP;go_wp2_with fail;refine(aN _).mono ?_;rintro e w2 ⟨rfl,Q⟩;have HB2:jW (jS (g+1) w1 w2):=jH (bY▸Q);clear Q aN c1 c2 c3 c4 c5;go_wp2_with fail;go_loopw [5] (λiv dx=>∃i rows,iv=ng nH (i:Nat)/\i<=n/\jW (rF c [] (E.take i)=.ok rows)/\jW (jS (g+1) w1 dx)) (λiv _=>n -(kW iv).toNat);case atStart=>exact⟨0,[],rfl,nK,jH (by simp[rF]),HB2⟩
 case round=>
  obtain⟨i,rows,rfl,hi,U,ag⟩:=hrel;have ae:jW (∀W,jS (g+1) w1 W->jS g w W):=jH λW h=>bN.trans (h.mono nK)
  have ah:jW (∀W,jS (g+1) w1 W->IA W (nk oa n cap) E):=jH λW h=>bW.below (hg.symm▸ae.out W h)
  have dB:g+1<=wr.heap.size:=by have:=ag.size;omega
  by_cases ci:i<n
  .obtain⟨e,he⟩:∃e,E[i]? =some e:=⟨_,jX (by rw[bC.out];exact ci)⟩
   have HE:=jH he;obtain⟨cK,cZ⟩:=bX.out e (kT he);obtain⟨b,off,rfl,hlt,dC,e1,e2⟩:=IA.at_ (ah wr ag) he;have bO:=jH (TS e.nm wr cK);have aS:jW (qX e.nm.data.toList=false->R=11):=jH λh=>af.out 11 (Ai U HE (ZQ h))
   obtain⟨dz,aT⟩:=nT (qX e.nm.data.toList);have ai:=jH aT;rw[aT]at bO aS;clear he aT;cases dz with
   |false=>
    have HX:=jH (aS rfl);have HB3:=jH (ae wr ag);go_wp2_with fail;refine bO.mono ?_;rintro e w3 ⟨rfl,rfl⟩;go_wp2_with fail;go_returns;exact⟨by rw[HX.out];rfl,HB3.out⟩
   |true=>
    clear aS;go_wp2_with fail;refine bO.mono ?_;rintro A w3 ⟨rfl,rfl⟩;go_wp2_with fail;go_loopw [6] (λkv wk=>∃k:Nat,kv=ng nH k/\k<=i/\jW (∀j A,j<k->E[j]? =some A->A.nm≠e.nm)/\jW (jS (g+1) w1 wk)) (λkv _=>i -(kW kv).toNat);case atStart=>exact⟨0,rfl,nK,jH (λj A aA=>by omega),ag⟩
    case round=>
     obtain⟨k,rfl,hk,V,C⟩:=hrel;have Y:g+1<=wr.heap.size:=by have:=C.size;omega
     obtain⟨bi,oi,Iw,bP,aB,aC,aU⟩:=IA.at_ (ah wr C) HE.out;simp only[mI,Addr.mk.injEq]at Iw;obtain⟨rfl,rfl,_⟩:=Iw;by_cases bD:k<i
     .obtain⟨A,J⟩:∃A,E[k]? =some A:=⟨_,jX (by rw[bC.out];omega)⟩
      obtain⟨bk,ok,Iw,I,aD,aF,aV⟩:=IA.at_ (ah wr C) J;simp only[mI,Addr.mk.injEq]at Iw;obtain⟨rfl,rfl,_⟩:=Iw;have df:k<n:=nK;rcases ZT A.nm e.nm with⟨bQ,aG⟩|⟨bQ,aG⟩
      .have HX:jW (R=11):=jH (af 11 (Ai U HE (VB ((JY U e.nm).2 ⟨k,A,bD,J,aG.out⟩))))
       clear J;have bR:∀x:sM wr,x.at_.cell? ⟨b,off+k*3+1,none⟩=some (ny A.nm):=λx=>(x.is.cell (p:=⟨b,off+k*3+1,none⟩) I).trans aF
       have bS:∀x:sM wr,x.at_.cell? ⟨b,off+i*3+1,none⟩=some (ny e.nm):=λx=>(x.is.cell (p:=⟨b,off+i*3+1,none⟩) I).trans aC
       have O:jW (∀x:sM wr,jS (g+1) w1 x.at_):=jH λx=>C.trans (x.is.mono Y)
       have HB3:jW (∀x:sM wr,jS g w x.at_):=jH λx=>ae.out _ (O x)
       clear aD aF aV aB aC aU;go_upto_region 13 with fail;exact Tv
      .have aH:jW (∀q A,q<k+1->E[q]? =some A->A.nm≠e.nm):=jH λq e2 aA N=>by
        by_cases az:q=k;.subst az;rw[J]at N;cases N;exact aG
        .exact V q e2 nK N
       clear J;have bR:∀x:sM wr,x.at_.cell? ⟨b,off+k*3+1,none⟩=some (ny A.nm):=λx=>(x.is.cell (p:=⟨b,off+k*3+1,none⟩) I).trans aF
       have bS:∀x:sM wr,x.at_.cell? ⟨b,off+i*3+1,none⟩=some (ny e.nm):=λx=>(x.is.cell (p:=⟨b,off+i*3+1,none⟩) I).trans aC
       have O:jW (∀x:sM wr,jS (g+1) w1 x.at_):=jH λx=>C.trans (x.is.mono Y)
       have HB3:jW (∀x:sM wr,jS g w x.at_):=jH λx=>ae.out _ (O x)
       clear aD aF aV aB aC aU;go_upto_region 13 with fail;refine oC nM nM ?_;repeat(go_big_quiet_step (fail))
       refine mJ ?_;intro x;go_wp2_with fail;go_roundw;case rel=>exact⟨k+1,by go_num,nK,aH,O x⟩
       case measure=>simp[kW];omega
     .obtain rfl:k=i:=nK
      have aj:jW (¬(rows.find? λy=>decide (y.name=e.nm)).isSome=true):=jH λh=>by
       obtain⟨j,A,aA,bT,N⟩:=(JY U e.nm).1 h;exact V j A aA bT N
      clear V bD;go_wp2_with fail;go_loopw [7] (λkv wk=>∃j:Nat,kv=ng nH j/\j<=k/\jW (∀q A,q<j->E[q]? =some A->A.id≠e.id)/\jW (jS (g+1) w1 wk)) (λkv _=>k -(kW kv).toNat);case atStart=>exact⟨0,rfl,nK,jH (λj A aA=>by omega),C⟩
      case round=>
       obtain⟨j,rfl,hk,V,C⟩:=hrel;have Y:g+1<=wr.heap.size:=by have:=C.size;omega
       obtain⟨bi,oi,Iw,bP,aB,aC,aU⟩:=IA.at_ (ah wr C) HE.out;simp only[mI,Addr.mk.injEq]at Iw;obtain⟨rfl,rfl,_⟩:=Iw;by_cases bD:j<k
       .obtain⟨A,J⟩:∃A,E[j]? =some A:=⟨_,jX (by rw[bC.out];omega)⟩
        obtain⟨bk,ok,Iw,I,aD,aF,aV⟩:=IA.at_ (ah wr C) J;simp only[mI,Addr.mk.injEq]at Iw;obtain⟨rfl,rfl,_⟩:=Iw;have df:j<n:=nK;rcases a4N A.id e.id with⟨bQ,aG⟩|⟨bQ,aG⟩
        .have HX:jW (R=1):=jH (af 1 (Ai U HE (a2i ai aj ((EP U e.id).2 ⟨j,A,bD,J,aG.out⟩))))
         clear J;have bR:∀x:sM wr,x.at_.cell? ⟨b,off+j*3,none⟩=some (ng nI A.id):=λx=>(x.is.cell (p:=⟨b,off+j*3,none⟩) I).trans aD
         have bS:∀x:sM wr,x.at_.cell? ⟨b,off+k*3,none⟩=some (ng nI e.id):=λx=>(x.is.cell (p:=⟨b,off+k*3,none⟩) I).trans aB
         have O:jW (∀x:sM wr,jS (g+1) w1 x.at_):=jH λx=>C.trans (x.is.mono Y)
         have HB3:jW (∀x:sM wr,jS g w x.at_):=jH λx=>ae.out _ (O x)
         clear aD aF aV aB aC aU;go_upto_region 18 with fail;exact Tv
        .have aH:jW (∀q A,q<j+1->E[q]? =some A->A.id≠e.id):=jH λq e2 aA N=>by
          by_cases az:q=j;.subst az;rw[J]at N;cases N;exact aG
          .exact V q e2 nK N
         clear J;have bR:∀x:sM wr,x.at_.cell? ⟨b,off+j*3,none⟩=some (ng nI A.id):=λx=>(x.is.cell (p:=⟨b,off+j*3,none⟩) I).trans aD
         have bS:∀x:sM wr,x.at_.cell? ⟨b,off+k*3,none⟩=some (ng nI e.id):=λx=>(x.is.cell (p:=⟨b,off+k*3,none⟩) I).trans aB
         have O:jW (∀x:sM wr,jS (g+1) w1 x.at_):=jH λx=>C.trans (x.is.mono Y)
         have HB3:jW (∀x:sM wr,jS g w x.at_):=jH λx=>ae.out _ (O x)
         clear aD aF aV aB aC aU;go_upto_region 18 with fail;refine oC nM nM ?_;repeat(go_big_quiet_step (fail))
         refine mJ ?_;intro x;go_wp2_with fail;go_roundw;case rel=>exact⟨j+1,by go_num,nK,aH,O x⟩
         case measure=>simp[kW];omega
       .obtain rfl:j=k:=nK
        have aI:jW (¬(rows.find? λy=>decide (y.id=e.id)).isSome=true):=jH λh=>by
         obtain⟨j,A,aA,bT,N⟩:=(EP U e.id).1 h;exact V j A aA bT N
        have bU:=jH (a2h e.tx wr cZ);go_wp2_with fail;refine bU.mono ?_;rintro A w3 ⟨ta,aW,n3,ak,er,sub,rfl,aX,_,Z,bE⟩;have HB3:jW (jS (g+1) w1 w3):=jH (C.trans (aX.mono Y));have aY:jW (∀W,w3.alloc (nG #[ng nH ta.kind,ng nH ta.size,nk aW n3 ak,ng nH ta.tail] 63)=W->jS (g+1) w1 W/\nO W w3.heap.size #[ng nH ta.kind,ng nH ta.size,nk aW n3 ak,ng nH ta.tail] 63/\oL W (nk aW n3 ak) sub):=jH λW h=>by
         subst h;have a:=(jT w3.heap.size w3).alloc (jL _) (nG #[ng nH ta.kind,ng nH ta.size,nk aW n3 ak,ng nH ta.tail] 63);exact⟨HB3.trans (a.mono (by have:=aX.size;omega)),nO.new w3 _ _,Shape.nX.below Z a⟩
        clear Z aX;go_upto_region 21 with fail;obtain⟨au,aZ,Z⟩:=aY.out _ rfl;generalize w3.alloc _=w4 at*;have aJ:=jH au;obtain⟨t0,dD,dE,t3⟩:=aZ.a4;have cf:w4.cell? ⟨g,0,none⟩=some (ng nH c.fmt):=(au.cell (p:=⟨g,0,none⟩) (lM g)).trans c0;rcases bE with⟨aa,rfl⟩|⟨aa,rfl,rfl,rfl⟩
        .have bJ:xu e.tx.data.toList=some (.node ta sub):=by rw[Jn];exact aa
         obtain⟨bg,bV⟩:=Ra aa;have aK:=jH (Xx (.node ta sub) w4 (nk aW n3 ak) Z bg);simp only[nL.oQ,nL.qx]at aK;have bq:=jH bJ;have bu:g+1<=w4.heap.size:=by have:=au.size;omega
         clear aa bJ bg bV au aZ Z aY bU;by_cases av:c.fmt=1
         .have f1:(c.fmt==1)=true:=by simp[av]
          have dh:=jH av;clear av;obtain⟨dA,bz⟩:=nT ((nL.o7 p0 sub&&pX (.node ta sub)));have bK:=jH bz;rw[bz]at aK;clear bz;cases dA with
          |false=>
           have HX:jW (R=12):=jH (af 12 (Ai U HE (VC ai aj aI bq ⟨dh.out,bK.out⟩)));go_wp2_with fail;refine aK.mono ?_;rintro A w5 ⟨rfl,ax⟩;have ay:=jH (ae _ (aJ.trans (ax.mono bu)));clear ax;go_wp2_with fail;go_returns;exact⟨by rw[HX.out];rfl,ay.out⟩
          |true=>
           have bA:=jH (JX U HE (Tu ai aj aI bq (c:=c) (by rw[show(nL.o7 p0 (nL.sub (.node ta sub))&&pX (.node ta sub))=true from bK.out];simp)));go_wp2_with fail;refine aK.mono ?_;rintro A w5 ⟨rfl,ax⟩;have ay:=jH (aJ.trans (ax.mono bu));clear ax;go_wp2_with fail;go_roundw;case rel=>exact⟨j+1,_,by go_num,nK,bA,ay⟩
           case measure=>simp[kW];omega
         .have f1:(c.fmt==1)=false:=by rw[beq_eq_false_iff_ne];exact av
          have bA:=jH (JX U HE (Tu ai aj aI bq (c:=c) (λh=>av h.1)));go_wp2_with fail;go_roundw;case rel=>exact⟨j+1,_,by go_num,nK,bA,aJ⟩
          case measure=>simp[kW];omega
        .have HX:jW (R=3):=jH (af 3 (Ai U HE (ZR ai aj aI (by rw[Jn];exact aa))))
         have ay:=jH (ae _ aJ);clear aa au aZ Z aY bU;go_wp2_with fail;go_returns;exact⟨by rw[HX.out];rfl,ay.out⟩
  .obtain rfl:i=n:=nK
   have HX:jW (R=0):=jH (cz rows (by have:=U.out;rw[<-bC.out,l9]at this;exact this));have HB3:=jH (ae wr ag);go_wp2_with fail;go_returns;exact⟨by rw[HX.out];rfl,HB3.out⟩
end
section
open Go.RowKit Go.ChangeShapes Go.WideShapes Go.Deep
section
variable {H:Type}{enc:ko×jP->H}{P:mK}{w:jJ}{base:Nat}{spare:Nat->Bool}{held:Bool}
theorem LK{t e:ko}{A:Array Field}{len cap:Nat}{d:DataW H}{p:List MemPlace}(ht:P.underlying t=some (.slice e))(he:P.underlying e=some (.struct A))(aa:oneCellFields P A=true)(ay:P.cellsOf e=A.size)(I:0<A.size)(h:DataW.Trod enc P w base spare held t (.slice a len cap) d p):
  len<=j5/\∀i,i<len->∃b off,a=some ⟨b,off,none⟩/\b<w.heap.size/\
   ∀(j:Nat)(f:Field),A[j]? =some f->∃(v:jP) (y:DataW H×List MemPlace) (n:Nat),w.cell? ⟨b,off+(i*A.size+j),none⟩=some v/\DataW.trod enc P w base spare held n f.type [v]=some y:=by
 obtain⟨fuel,az⟩:=h;rcases open_slice ht az with⟨h0,_⟩|⟨ag,aA,aB,m,n,D,aL,V,hb,hl,aC,ah,aM,hi⟩
 .simp[Value.cells]at h0
  exact⟨nK,λi hi=>by omega⟩
 .simp[Value.cells]at V
  obtain⟨rfl,rfl,rfl⟩:=V;have aH:len<=m:=by rw[ah];split<;>omega
  have key:∀i,i<len->∀(j:Nat)(f:Field),A[j]? =some f->∃(v:jP) (y:DataW H×List MemPlace) (n:Nat),w.cell? (ag.add (i*A.size+j))=some v/\DataW.trod enc P w base spare held n f.type [v]=some y:=by
   intro i Y j f J;obtain⟨C,hc,ai⟩:=hi i nK;rw[ay]at hc;obtain⟨ys,aD,aI,aN,hlen,aJ,aj⟩:=DataW.trod_struct he ai;obtain⟨_,aK,ak⟩:=World.cells?_some hc;obtain⟨ho,hk⟩:=hone_of aa j f J;have au:j<A.size:=(ku.1 J).1;have O:=ak j au;have aF:C[j]? =some (C[j]' nK):=jX nK;have E:=aj j f J;rw[ho,hk]at E;have Q:(C.drop j).take 1=[C[j]' nK]:=by
    rw[List.drop_eq_getElem_cons nK];rfl
   rw[Q]at E;have av:ys[j]? =some (ys[j]' nK):=jX nK;refine⟨_,_,aD,?_,E.trans av⟩;rw[<-Go.Deep.add_add,O,aF]
  obtain⟨b,off,ae⟩:=ag;refine⟨kg hl aC,λi Y=> ?_⟩;have ax:A[0]? =some (A[0]'I):=Array.getElem?_eq_getElem I;obtain⟨v,y,aO,Z,_⟩:=key 0 nK 0 _ ax;have U:ae=none:=by simpa [Addr.add]using World.cell?_spot Z
  subst U;have N:∀k,(⟨b,off,none⟩:l5).add k=⟨b,off+k,none⟩:=λk=>by unfold Addr.add;split<;>simp_all
  refine⟨b,off,rfl,?_,λj f J=> ?_⟩
  .rcases lh b w.heap.size with af|af
   .exact af
   .simp[mW,N,Array.getElem?_eq_none af]at Z
  .obtain⟨v,y,n1,E,aG⟩:=key i Y j f J
   rw[N]at E;exact⟨v,y,n1,E,aG⟩
theorem vC{t:ko}{k:IntKind}{n:Nat}{v:jP}{y:DataW H×List MemPlace}(ht:P.underlying t=some (.int k))(h:DataW.trod enc P w base spare held n t [v]=some y):
  ∃x:Int,v=ng k x/\(lJ k x).wf=true:=by
 obtain⟨a,A,rfl,wa⟩:=DataW.trod_int ht h;simp at A;exact⟨a,A,wa⟩
theorem wF{t:ko}{n:Nat}{v:jP}{y:DataW H×List MemPlace}(ht:P.underlying t=some .string)(h:DataW.trod enc P w base spare held n t [v]=some y):
  ∃s:ByteArray,v=ny s/\s.size<=j5:=by
 obtain⟨a,A,rfl,wa⟩:=DataW.trod_string ht h;simp at A;exact⟨a,A,wa⟩
end
end
section
open Go.RowKit Go.ChangeShapes Go.WideShapes
end
section
open Go.RowKit Go.ChangeShapes Go.WideShapes Go.Deep
theorem Tw{p:Prop}(h:p:=by
 rw[hone']at h1;have hys:ys[j]? =some (ys[j]'(by simp at hyl;omega)):=jX _;exact⟨_,_,hv,h1.trans hys⟩):p:=h
theorem ZU{H:Type}{enc:ko×jP->H}{P:mK}{w:jJ}{base:Nat}{spare:Nat->Bool}{held:Bool}{t:ko}{C f1 f2 f3 f4 E:Field}{cs:Array jP}{d:DataW H}{p:List MemPlace}(ht:P.underlying t=some (.struct #[C,f1,f2,f3,f4,E]))(J:oneCellFields P #[C,f1,f2,f3,f4,E]=true)(O:P.cellsOf t=6)(U:P.underlying C.type=some (.int .i64))(e1:P.underlying f1.type=some (.int .u32))(e2:P.underlying f2.type=some (.int .i64))(e3:P.underlying f3.type=some (.int .i64))(e4:P.underlying f4.type=some (.int .i64))(e5:P.underlying E.type=some (.int .i64))(h:DataW.Trod enc P w base spare held t (.agg cs) d p):∃q:oK,cs=q.cs/\q.wf:=by
 obtain⟨fuel,V⟩:=h;obtain⟨ys,Y,ak,av,hlen,hyl,Q⟩:=DataW.trod_struct ht V;have key:∀(j:Nat)(f:Field),#[C,f1,f2,f3,f4,E][j]? =some f->∃(v:jP) (y:DataW H×List MemPlace),cs.toList[j]? =some v/\DataW.trod enc P w base spare held Y f.type [v]=some y:=by
  intro j f N;obtain⟨ho,hk⟩:=hone_of J j f N;have au:j<6:=(ku.1 N).1;have A:(Value.agg cs).cells.toList.length=6:=hlen.trans O;have I:cs.toList.length=6:=by simpa [Value.cells]using A
  have h1:=Q j f N;rw[ho,hk]at h1;have hv:cs.toList[j]? =some (cs.toList[j]' nK):=jX nK;have hone':((Value.agg cs).cells.toList.drop j).take 1=[cs.toList[j]' nK]:=by
   show(cs.toList.drop j).take 1=_;rw[List.drop_eq_getElem_cons nK];rfl
  exact Tw
 have A:(Value.agg cs).cells.toList.length=6:=hlen.trans O;have I:cs.toList.length=6:=by simpa [Value.cells]using A
 obtain⟨v0,ax,c0,t0⟩:=key 0 _ rfl;obtain⟨v1,ay,c1,Z⟩:=key 1 _ rfl;obtain⟨v2,y2,c2,aa⟩:=key 2 _ rfl;obtain⟨v3,az,c3,t3⟩:=key 3 _ rfl;obtain⟨v4,aA,c4,t4⟩:=key 4 _ rfl;obtain⟨v5,aB,c5,t5⟩:=key 5 _ rfl;obtain⟨ae,rfl,w0⟩:=vC U t0;obtain⟨af,rfl,w1⟩:=vC e1 Z;obtain⟨ag,rfl,w2⟩:=vC e2 aa;obtain⟨ah,rfl,w3⟩:=vC e3 t3;obtain⟨ai,rfl,w4⟩:=vC e4 t4;obtain⟨aj,rfl,w5⟩:=vC e5 t5;refine⟨⟨ae,af,ag,ah,ai,aj⟩,?_,w0,w1,w2,w3,w4,w5⟩;have:cs=⟨cs.toList⟩:=nR;rw[this];generalize cs.toList=l at*
 match l,I with
 |[a,b,c,e,f,g],_=>
  simp at c0 c1 c2 c3 c4 c5;subst c0 c1 c2 c3 c4 c5;rfl
def Rb(w:jJ)(a:Option l5)(len cap:Nat)(A:List xG):Prop:=
 IA w (nk a len cap) A/\∀e,e∈A->e.nm.size<=j5/\e.tx.size<=j5/\e.id<18446744073709551616
theorem VD{H:Type}{enc:ko×jP->H}{P:mK}{w:jJ}{base:Nat}{spare:Nat->Bool}{held:Bool}{t e:ko}{len cap:Nat}{d:DataW H}{p:List MemPlace}(ht:P.underlying t=some (.slice e))(h:DataW.Trod enc P w base spare held t (.slice a len cap) d p):len<=cap/\cap<=j5:=by
 obtain⟨fuel,C⟩:=h;rcases open_slice ht C with⟨h0,_⟩|⟨O,E,I,m,n,D,Q,A,hb,hl,J,N,U,hi⟩
 .simp[Value.cells]at h0
  unfold j5;omega
 .simp[Value.cells]at A
  obtain⟨rfl,rfl,rfl⟩:=A;exact⟨hl,J⟩
theorem Tx{p:Nat->xG->Prop}:∀n:Nat,(∀i,i<n->∃e,p i e)->∃A:List xG,A.length=n/\∀i e,A[i]? =some e->p i e
 |0,_=>⟨[],rfl,λi e h=>by simp at h⟩
 |n+1,h=>by
  obtain⟨A,C,E⟩:=Tx n λi hi=>h i nK
  obtain⟨x,I⟩:=h n nK;refine⟨A++[x],by simp[C],λi e he=> ?_⟩;by_cases hi:i<n
  .rw[List.getElem?_append_left nK]at he
   exact E i e he
  .rw[List.getElem?_append_right nK,C]at he
   have:i - n=0:=by
    rcases Nat.eq_zero_or_pos (i - n)with h|h
    .exact h
    .rw[List.getElem?_eq_none nQ]at he;cases he
   rw[this]at he;simp at he;subst he;rw[show i=n by omega];exact I
theorem VE{H:Type}{enc:ko×jP->H}{P:mK}{w:jJ}{base:Nat}{spare:Nat->Bool}{held:Bool}{t e:ko}{E f1 f2:Field}{len cap:Nat}{d:DataW H}{p:List MemPlace}(ht:P.underlying t=some (.slice e))(he:P.underlying e=some (.struct #[E,f1,f2]))(I:oneCellFields P #[E,f1,f2]=true)(U:P.cellsOf e=3)(V:P.underlying E.type=some (.int .u64))(e1:P.underlying f1.type=some .string)(e2:P.underlying f2.type=some .string)(h:DataW.Trod enc P w base spare held t (.slice a len cap) d p):∃J,Rb w a len cap J:=by
 obtain⟨aj,O⟩:=VD ht h;obtain⟨hl,hi⟩:=LK ht he I U (show 0<3 by decide) h;obtain⟨J,hlen,C⟩:=Tx (p:=λi e=>(∃b off,a=some ⟨b,off,none⟩/\b<w.heap.size/\w.cell? ⟨b,off+i*3,none⟩=some (ng nI e.id)/\w.cell? ⟨b,off+i*3+1,none⟩=some (ny e.nm)/\w.cell? ⟨b,off+i*3+2,none⟩=some (ny e.tx))/\e.nm.size<=j5/\e.tx.size<=j5/\e.id<18446744073709551616) len λi Q=>by
  obtain⟨b,off,Y,hb,N⟩:=hi i Q;obtain⟨v0,ak,au,c0,t0⟩:=N 0 _ rfl;obtain⟨v1,av,n1,c1,Z⟩:=N 1 _ rfl;obtain⟨v2,y2,n2,c2,aa⟩:=N 2 _ rfl;obtain⟨A,rfl,w0⟩:=vC V t0;obtain⟨ae,rfl,w1⟩:=wF e1 Z;obtain⟨af,rfl,w2⟩:=wF e2 aa;have ax:0<=A/\A<18446744073709551616:=by
   simp only[Lit.wf,j3,decide_eq_true_eq]at w0;have ag:IntKind.u64.min=0:=rfl;have ah:IntKind.u64.max=18446744073709551615:=rfl;rw[ag,ah]at w0;omega
  exact⟨⟨A.toNat,ae,af⟩,⟨b,off,Y,hb,by rw[show((A.toNat:Nat):Int)=A by omega];simpa using c0,by simpa [kP]using c1,by simpa [kP]using c2⟩,w1,w2,by show A.toNat<_;omega⟩
 refine⟨J,⟨a,cap,by rw[hlen],nK,O,λi e h=>(C i e h).1⟩,λe ai=> ?_⟩;obtain⟨i,h⟩:=List.getElem?_of_mem ai;exact(C i e h).2
end
section
open Go.RowKit
def uh(es:List xG):Bool:=decide (40<es.length)||es.any λe=>decide (100<e.nm.size)||decide (500<e.tx.size)
theorem LM{A:List xG}(h:uh A=false):A.length<=40/\∀e,e∈A->e.nm.size<=100/\e.tx.size<=500:=by
 unfold uh at h;simp only[Bool.or_eq_false_iff,decide_eq_false_iff_not,List.any_eq_false]at h;refine⟨nK,λe he=> ?_⟩;have:=h.2 e he;simp only[Bool.or_eq_true,decide_eq_true_eq]at this;omega
theorem J3{A:List xG}{i:Nat}{e:xG}(he:A[i]? =some e)(h:100<e.nm.size\/500<e.tx.size):uh A=true:=by
 unfold uh;rw[Bool.or_eq_true,List.any_eq_true];exact .inr ⟨e,kT he,by simp only[Bool.or_eq_true,decide_eq_true_eq];exact h⟩
theorem OJ{A:List xG}(h:A.length<=40)(C:∀i e,i<A.length->A[i]? =some e->e.nm.size<=100/\e.tx.size<=500):uh A=false:=by
 unfold uh;simp only[Bool.or_eq_false_iff,decide_eq_false_iff_not,List.any_eq_false];refine⟨nK,λe he=> ?_⟩;obtain⟨i,hi⟩:=List.getElem?_of_mem he;have:=C i e (ll.1 hi).1 hi;simp only[Bool.or_eq_true,decide_eq_true_eq];omega
theorem FK{p:Prop}(h:p:=by
 go_wp2_with fail;go_returns;exact⟨by rw[HX.out];rfl,rfl⟩):p:=h
theorem Rc(A:List xG)(v:jP)(w:jJ)(O:IA w v A)(N:∀e,e∈A->e.nm.size<=j5/\e.tx.size<=j5):
  jV jI 28 #[v] w λe w'=>e=nE (nA (uh A))/\w'=w:=by
 obtain⟨oa,cap,rfl,E,I,_⟩:=id O;obtain⟨n,C⟩:=nT A.length;have au:n<=9223372036854775807:=by unfold j5 at I;omega
 obtain⟨R,Q⟩:=nT (uh A);have J:=jH Q;have Y:=jH O;have U:=jH C;have Z:=jH N;rw[Q];rw[C]at Y E⊢;clear O Q N;by_cases aa:40<n
 .have HX:jW (R=true):=jH (by rw[<-J.out];unfold uh;rw[C];simp[aa])
  clear C;go_in;exact FK
 clear C;go_in;go_wp2_with fail;go_loopw [3] (λiv ai=>∃i:Nat,iv=ng nH i/\i<=n/\jW (∀k e,k<i->A[k]? =some e->e.nm.size<=100/\e.tx.size<=500)/\ai=w) (λiv _=>n -(kW iv).toNat);case atStart=>exact⟨0,rfl,nK,jH (λk e h=>by omega),rfl⟩
 case round=>
  obtain⟨i,rfl,hi,ae,rfl⟩:=hrel;by_cases c:i<n
  .obtain⟨e,he⟩:∃aj,A[i]? =some aj:=⟨_,jX (by rw[U.out];exact c)⟩
   obtain⟨b,off,rfl,hlt,ay,az,aA⟩:=IA.at_ Y he;obtain⟨af,ag⟩:=Z.out e (kT he);have av:e.nm.size<=9223372036854775807:=by unfold j5 at af;omega
   have ax:e.tx.size<=9223372036854775807:=by unfold j5 at ag;omega
   clear af ag;by_cases c1:100<e.nm.size
   .have HX:jW (R=true):=jH (by rw[<-J.out];exact J3 he (.inl c1))
    clear he;exact FK
   .by_cases c2:500<e.tx.size
    .have HX:jW (R=true):=jH (by rw[<-J.out];exact J3 he (.inr c2))
     clear he;exact FK
    .have ah:jW (∀k e,k<i+1->A[k]? =some e->e.nm.size<=100/\e.tx.size<=500):=jH λk e2 hk V=>by
      by_cases ak:k=i;.subst ak;rw[he]at V;cases V;omega
      .exact ae k e2 nK V
     clear he;go_wp2_with fail;go_roundw;case rel=>exact⟨i+1,by go_num,nK,ah,trivial⟩
     case measure=>simp[kW];omega
  .obtain rfl:i=n:=nK
   have HX:jW (R=false):=jH (by rw[<-J.out];exact OJ (by rw[U.out];omega) (λk e hk he=>ae.out k e (by rw[<-U.out];exact hk) he));exact FK
def Er(c:oK)(A:List xG):Bool:= !uh A&&decide (Fa c A=0)
theorem ZV{p:Prop}(h:p:=by
 go_wp2_with fail;refine(CN2 _ H1).mono ?_;rintro e w3 ⟨rfl,hb3⟩;have HB3:=jH (H1.trans (hb3.mono nK));clear hb3;go_wp2_with fail;go_returns;exact⟨by rw[Sd.out];rfl,HB3.out⟩):p:=h
theorem VF(c:oK)(A:List xG)(v:jP)(w:jJ)(Z:IA w v A)(E:∀e,e∈A->e.nm.size<=j5/\e.tx.size<=j5):
  jV jI 9 #[c.v,v] w λe w'=>e=nE (nA (Er c A))/\jS w.heap.size w w':=by
 have aa:=jH (wy (w:=w) c (t:=tV));obtain⟨g,hg⟩:=nT w.heap.size;have J:jW (∀W,jS w.heap.size w W->jV jI 28 #[v] W λe w'=>e=nE (nA (uh A))/\w'=W):=jH λW h=>Rc A v W (Z.below h) E
 have I:jW (uh A=false->∀W,jS w.heap.size w W->jV jI 29 #[nC #[ng nH c.fmt,ng nJ c.mag,ng nH c.pO,ng nH c.qj,ng nH c.dep,ng nH c.oZ],v] W λe w'=>e=nE (ng nH (Fa c A))/\jS W.heap.size W w'):=jH λh W ag=>by
  obtain⟨aj,ah⟩:=LM h;exact a2j c A v W (Z.below ag) (λe he=>⟨(E e he).1,by have:=(ah e he).2;omega⟩) nK
 have Q:jW (∀W,w.alloc (nG #[ng nH c.fmt,ng nJ c.mag,ng nH c.pO,ng nH c.qj,ng nH c.dep,ng nH c.oZ] tV)=W->W.heap.size=g+1):=jH λW h=>by subst h;simp[hg]
 obtain⟨R,ae⟩:=nT (Er c A);have N:jW (R=(!uh A&&decide (Fa c A=0))):=jH ae.symm;obtain⟨oa,cap,rfl,_⟩:=Z;unfold oK.v oK.cs;rw[hg]at aa J I⊢;rw[ae];obtain⟨GE,U⟩:=nT (uh A);obtain⟨af,V⟩:=nT (Fa c A);rw[U]at J I N;rw[V]at I N;clear ae U V E;go_in;go_upto_region 1 with fail;obtain⟨Y,c0,c1,c2,c3,c4,c5⟩:=aa.out _ rfl;have ai:=Q.out _ rfl;generalize w.alloc _=w1 at*;have H1:=jH Y;clear aa Q Y;cases GE with
 |true=>
  have O:jW (R=false):=jH (by rw[N.out];rfl);go_wp2_with fail;refine(J _ H1).mono ?_;rintro e w2 ⟨rfl,rfl⟩;go_wp2_with fail;go_returns;exact⟨by rw[O.out];rfl,H1.out⟩
 |false=>
  have CN2:=jH (I rfl);clear I;have O:jW (R=decide (af=0)):=jH (by rw[N.out];rfl);go_wp2_with fail;refine(J _ H1).mono ?_;rintro e w2 ⟨rfl,rfl⟩;by_cases C:af=0
  .have Sd:jW (R=true):=jH (by rw[O.out,decide_eq_true C])
   subst C;exact ZV
  .have Sd:jW (R=false):=jH (by rw[O.out,decide_eq_false C])
   have ak:(af==0)=false:=by rw[beq_eq_false_iff_ne];exact C
   clear C;exact ZV
theorem a2k{c:oK}{A:List xG}(h:Fa c A=0):∃rows,vo c A=.ok rows:=by
 unfold Fa at h;cases hp:vo c A with
 |ok rows=>exact⟨rows,rfl⟩
 |error er=>
  rw[hp]at h;dsimp only at h;exfalso;have h0:er=0:=nK;subst h0;unfold vo at hp;split at hp;.cases hp
  .split at hp
   .cases hp
   .exact JZ A [] hp
def Re(c:oK)(rows:List Row)(w:jJ)(e:Ending)(w':jJ):Prop:=
 jS w.heap.size w w'/\∃G sb r bn bi L,e=nE (nz (some ⟨sb,0,none⟩))/\(L.map λx:oV=>x.r)=rows/\xI w' G r sb [] 0 0/\(w.heap.size<=G/\G<=sb/\G<=w'.heap.size/\bn≠bi/\r≠bn/\r≠bi)/\∀W,jS G w' W->qp r bn bi c L W
theorem Rf(c:oK)(A:List xG)(v:jP)(w:jJ)(rows:List Row)(hp:vo c A=.ok rows)(Y:IA w v A)(J:∀e,e∈A->e.nm.size<=j5/\e.tx.size<=j5/\e.id<18446744073709551616)(O:qo w):
  jV jI 10 #[c.v,v] w (Re c rows w):=by
 have Q:=jH (wy (w:=w) c (t:=tV));obtain⟨g,hg⟩:=nT w.heap.size;have U:jW (∀W,jS w.heap.size w W->jV jI 27 #[nC #[ng nH c.fmt,ng nJ c.mag,ng nH c.pO,ng nH c.qj,ng nH c.dep,ng nH c.oZ],v] W (Aa c A W)):=jH λW h=>SS c A v W (Y.below h) J (O.below h O.lt)
 have ah:=jH hp;obtain⟨V,C⟩:=nT (Re c rows w);have Z:=jH C;obtain⟨oa,cap,rfl,_⟩:=Y;unfold oK.v oK.cs;rw[hg]at Q U;rw[C];clear C hp O J;go_in;go_upto_region 1 with fail;obtain⟨E,c0,c1,c2,c3,c4,c5⟩:=Q.out _ rfl;generalize w.alloc _=w1 at*;have aa:=jH E;have ae:=jH (U w1 E);clear Q E U;go_wp2_with fail;refine ae.mono ?_;rintro e w2 ⟨N,af⟩;rw[ah.out]at af;obtain⟨G,sb,r,bn,bi,L,rfl,hL,ag,hl,I⟩:=af;have ai:jW (V (nE (nz (some ⟨sb,0,none⟩))) w2):=jH (by
  rw[<-Z.out];have aj:=aa.size;exact⟨(hg▸aa.out).trans (N.mono nK),G,sb,r,bn,bi,L,rfl,hL,ag,⟨nK,hl.2⟩,I⟩)
 clear N hL ag hl I;go_wp2_with fail;try go_returns
 exact ai
end
section
open Go.RowKit Go.Maps
end
section
open Go.RowKit
theorem VG{c:oK}{C:List xG}(h:Er c C=true):uh C=false/\oM c=true/\∃rows,vo c C=.ok rows:=by
 unfold Er at h;simp only[j3,Bool.not_eq_true',decide_eq_true_eq]at h;obtain⟨rows,A⟩:=a2k h.2;refine⟨h.1,?_,rows,A⟩;cases hc:oM c with
 |true=>rfl
 |false=>
  unfold vo at A;rw[if_pos hc]at A;cases A
theorem VH{c:oK}{A:List xG}{rows:List Row}(h:vo c A=.ok rows):rF c [] A=.ok rows:=by
 unfold vo at h;split at h;.cases h
 .split at h
  .cases h
  .exact h
abbrev Rh:ko:=49
def Dy(n1 n2:ByteArray)(x y:nL IL):Bool:=decide (n1=n2)&&x.same Gg y
theorem LP(a b:ByteArray):(a.toList==b.toList)=decide (a=b):=by
 rw[Lib.toList_data,Lib.toList_data,Bool.eq_iff_iff,beq_iff_eq,decide_eq_true_iff];constructor;.intro h;apply ByteArray.ext;apply Array.ext';exact h
 .rintro rfl;rfl
theorem ZW(n1 n2:ByteArray)(x y:nL IL)(A C:Option l5)(c1 c2:Nat)(w:jJ)(U:pM w (nk A x.sub.length c1) x.sub)(V:pM w (nk C y.sub.length c2) y.sub):
  jV jI 17 #[nC #[ny n1,ny (txt x.lab),nA x.lab.list,nk A x.sub.length c1],nC #[ny n2,ny (txt y.lab),nA y.lab.list,nk C y.sub.length c2]] w λe w'=>e=nE (nA (Dy n1 n2 x y))/\jS w.heap.size w w':=by
 obtain⟨g,hg⟩:=nT w.heap.size;have Y:jW (∀W,(w.alloc (nG #[ny n1,ny (txt x.lab),nA x.lab.list,nk A x.sub.length c1] Rh)).alloc (nG #[ny n2,ny (txt y.lab),nA y.lab.list,nk C y.sub.length c2] Rh)=W->nO W g #[ny n1,ny (txt x.lab),nA x.lab.list,nk A x.sub.length c1] Rh/\nO W (g+1) #[ny n2,ny (txt y.lab),nA y.lab.list,nk C y.sub.length c2] Rh/\jS g w W):=jH λW I=>by
  subst I;have ag:=(jT w.heap.size w).alloc (jL _) (nG #[ny n1,ny (txt x.lab),nA x.lab.list,nk A x.sub.length c1] Rh);have Z:=nO.new (w.alloc (nG #[ny n1,ny (txt x.lab),nA x.lab.list,nk A x.sub.length c1] Rh)) #[ny n2,ny (txt y.lab),nA y.lab.list,nk C y.sub.length c2] Rh;rw[show(w.alloc (nG #[ny n1,ny (txt x.lab),nA x.lab.list,nk A x.sub.length c1] Rh)).heap.size=g+1 by simp[hg]]at Z;exact⟨(hg▸nO.new w _ _:nO _ g _ _).alloc _,Z,hg▸ag.alloc nR _⟩
 have aa:=jH (λ(W:jJ) (h:jS g w W)=>Ul x y W _ _ (Shape.nX.below U (hg.symm▸h)) (Shape.nX.below V (hg.symm▸h)));have hb:=LP n1 n2;unfold Dy;rw[hg];generalize x.same Gg y=ai at*;obtain⟨ah,J⟩:=nT (decide (n1=n2));rw[J]at hb⊢;clear U V J;go_in;go_upto_region 1 with fail;generalize I:(w.alloc _).alloc _=w1;obtain⟨N,O,E⟩:=Y.out _ I;obtain⟨c0,c1,c2,c3⟩:=N.a4;obtain⟨aj,ak,au,av⟩:=O.a4;have ae:=jH (aa w1 E);have HB1:=jH E;clear I N O E Y aa;cases ah with
 |false=>
  exact FI
 |true=>
  go_wp2_with fail;refine ae.mono ?_;rintro e w2 ⟨rfl,Q⟩;have af:=jH (HB1.trans (Q.mono (by have:=HB1.size;omega)));clear Q;go_wp2_with fail;go_returns;exact⟨by rw[Bool.true_and];rfl,af.out⟩
theorem VI{r bn bi:Nat}{c:oK}{L:List oV}{w:jJ}(h:qp r bn bi c L w):((L.map λy=>y.r).map λr=>r.id).Nodup:=by
 obtain⟨A,_,_,hn,_⟩:=h.id;rw[List.map_map]at hn⊢;rw[List.nodup_iff_pairwise_ne,List.pairwise_map]at hn⊢;exact hn.imp λh e=>h (by show((_:Nat):Int)=((_:Nat):Int);exact congrArg _ e)
theorem ZX{c:oK}{A:List xG}{rows:List Row}(h:vo c A=.ok rows)(E:∀e,e∈A->e.id<18446744073709551616):∀r,r∈rows->r.id<18446744073709551616:=λr I=>by
 have J:rF c [] A=.ok rows:=VH h;rcases(LH A [] rows J r.id).1 ⟨r,I,rfl⟩with⟨_,C,_⟩|⟨e,he,C⟩
 .cases C
 .rw[<-C];exact E e he
def ZY(A se C nm:Bool):Bool:=if A then se else !se||C&&nm
theorem a4O{c:oK}{L:List Row}{n1 n2:ByteArray}{x y:nL IL}(C:(L.map λr=>r.id).Nodup)(hid:∀r,r∈L->r.id<18446744073709551616)(hc:oM c=true)(E:qZ x=true->(enc x).length<=100000)(I:qZ y=true->(enc y).length<=100000)(J:(uD c L n1 x).2=0)(N:(uD c L n2 y).2=0):ZY (Dy n1 n2 x y) (decide ((uD c L n1 x).1=(uD c L n2 y).1)) (c.fmt==1) (decide (n1=n2))=true:=by
 unfold ZY;cases hs:Dy n1 n2 x y with
 |true=>
  rw[if_pos rfl];unfold Dy at hs;simp only[j3,decide_eq_true_eq]at hs;obtain⟨rfl,h⟩:=hs;rw[same_eq x y h];exact decide_eq_true rfl
 |false=>
  rw[if_neg nN];by_cases he:(uD c L n1 x).1=(uD c L n2 y).1
  .obtain⟨hn,A⟩:=ZG C hid hc E I J N he
   rcases A with A|A
   .simp[A,hn]
   .subst A
    subst hn;unfold Dy at hs;rw[Gm]at hs;simp at hs
  .rw[decide_eq_false he];rfl
theorem ZZ{p:Prop}(h:p:=by
 go_wp2_with fail;refine(CR _ hbw).mono ?_;rintro e w3 ⟨rfl,hb⟩;have Sg:jW (jS (g+3) w1 w3):=jH (Sd.trans (hb.mono (by have:=Sd.size;have:=HZ1.out;omega)));clear hb;clear c0 c1 c2 c3 c4 c5 p0 p1 p2 p3 q0 q1 q2 q3 hbw;obtain⟨⟨c0,c1,c2,c3,c4,c5⟩,⟨p0,p1,p2,p3⟩,⟨q0,q1,q2,q3⟩,hbw⟩:=HC.out _ Sg.out;have HQ:=jH (HC _ Sg).2.2.2;go_wp2_with fail;go_returns;exact⟨rfl,HQ.out⟩):p:=h
theorem Cb{p:Prop}(h:p:=by
 go_wp2_with fail;go_returns;exact⟨rfl,HQ.out⟩):p:=h
theorem LQ(c:oK)(aF:Option l5)(C I:Nat)(ag:List xG)(ah:ByteArray×nL IL)(dA:jP)(mb:ByteArray×nL IL)(dB:jP)(w:jJ)(bE:c.wf)(he:Rb w aF C I ag)(eD:pM w dA ah.2.sub/\ah.2.lab.text.length<=j5/\ah.1.size<=j5)(hb:pM w dB mb.2.sub/\mb.2.lab.text.length<=j5/\mb.1.size<=j5)(aG:qo w/\xm w):
  jV jI 5 #[c.v,nk aF C I,nC #[ny ah.1,ny (txt ah.2.lab),nA ah.2.lab.list,dA],nC #[ny mb.1,ny (txt mb.2.lab),nA mb.2.lab.list,dB]] w λe w'=>e=nE (nA true)/\jS w.heap.size w w':=by
 obtain⟨bZ,V⟩:=he;obtain⟨n1,x⟩:=ah;obtain⟨n2,y⟩:=mb;dsimp only at*;obtain⟨aH,aI,aJ⟩:=eD;obtain⟨aK,aL,aM⟩:=hb;obtain⟨oa,Q,rfl,dC,cz⟩:=nV.slice aH;obtain⟨ob,cb,rfl,dD,cK⟩:=nV.slice aK;obtain⟨g,hg⟩:=nT w.heap.size;have dE:jW (∀W,((w.alloc (nG #[ng nH c.fmt,ng nJ c.mag,ng nH c.pO,ng nH c.qj,ng nH c.dep,ng nH c.oZ] tV)).alloc (nG #[ny n1,ny (txt x.lab),nA x.lab.list,nk oa x.sub.length Q] Rh)).alloc (nG #[ny n2,ny (txt y.lab),nA y.lab.list,nk ob y.sub.length cb] Rh)=W->nO W g #[ng nH c.fmt,ng nJ c.mag,ng nH c.pO,ng nH c.qj,ng nH c.dep,ng nH c.oZ] tV/\nO W (g+1) #[ny n1,ny (txt x.lab),nA x.lab.list,nk oa x.sub.length Q] Rh/\nO W (g+2) #[ny n2,ny (txt y.lab),nA y.lab.list,nk ob y.sub.length cb] Rh/\jS g w W/\W.heap.size=g+3):=jH λW ai=>by
  obtain⟨w1,aj⟩:=nT (w.alloc (nG #[ng nH c.fmt,ng nJ c.mag,ng nH c.pO,ng nH c.qj,ng nH c.dep,ng nH c.oZ] tV));obtain⟨w2,Y⟩:=nT (w1.alloc (nG #[ny n1,ny (txt x.lab),nA x.lab.list,nk oa x.sub.length Q] Rh));rw[aj,Y]at ai;have cZ:w1.heap.size=g+1:=by rw[<-aj];simp[hg]
  have df:w2.heap.size=g+2:=by rw[<-Y];simp[cZ]
  have b1:jS g w w1:=by rw[<-aj,<-hg];exact(jT _ _).alloc (jL _) _
  have dF:jS (g+1) w1 w2:=by rw[<-Y,<-cZ];exact(jT _ _).alloc (jL _) _
  have b3:jS (g+2) w2 W:=by rw[<-ai,<-df];exact(jT _ _).alloc (jL _) _
  have ak:=nO.new w #[ng nH c.fmt,ng nJ c.mag,ng nH c.pO,ng nH c.qj,ng nH c.dep,ng nH c.oZ] tV;have au:=nO.new w1 #[ny n1,ny (txt x.lab),nA x.lab.list,nk oa x.sub.length Q] Rh;have dG:=nO.new w2 #[ny n2,ny (txt y.lab),nA y.lab.list,nk ob y.sub.length cb] Rh;rw[aj,hg]at ak;rw[Y,cZ]at au;rw[ai,df]at dG;exact⟨Below.blk b3 (Below.blk dF ak nK) nK,Below.blk b3 au nK,dG,b1.trans ((dF.mono nK).trans (b3.mono nK)),by rw[<-ai];simp[df]⟩
 have bF:1<g:=hg▸aG.1.lt;have bG:0<g:=hg▸aG.2.lt;have A:jW (∀W,jS g w W->IA W (nk aF C I) ag/\pM W (nk oa x.sub.length Q) x.sub/\pM W (nk ob y.sub.length cb) y.sub/\qo W/\xm W):=jH λW h=>
  ⟨bZ.below (hg.symm▸h),Shape.nX.below aH (hg.symm▸h),Shape.nX.below aK (hg.symm▸h),aG.1.below h bF,aG.2.below h bG⟩
 have eX:C<=9223372036854775807:=by obtain⟨oa,cap,h0,aj,Y,_⟩:=bZ;cases h0;unfold j5 at Y;omega
 have dH:jW (∀W,jS g w W->jV jI 8 #[] W λe w'=>e=nE (nA true)/\jS W.heap.size W w'):=jH λW h=>Vv W (A W h).2.2.2.1 (A W h).2.2.2.2
 have CR:jW (∀W,jS g w W->jV jI 9 #[nC #[ng nH c.fmt,ng nJ c.mag,ng nH c.pO,ng nH c.qj,ng nH c.dep,ng nH c.oZ],nk aF C I] W λe w'=>e=nE (nA (Er c ag))/\jS W.heap.size W w'):=jH λW h=>VF c ag _ W (A W h).1 λe he=>⟨(V e he).1,(V e he).2.1⟩
 have ax:jW (∀W,jS g w W->jV jI 18 #[nC #[ny (txt x.lab),nA x.lab.list,nk oa x.sub.length Q]] W λe w'=>e=nE (nA (x9 x))/\jS W.heap.size W w'):=jH λW h=>Ii x W _ (A W h).2.1 aI
 have ay:jW (∀W,jS g w W->jV jI 18 #[nC #[ny (txt y.lab),nA y.lab.list,nk ob y.sub.length cb]] W λe w'=>e=nE (nA (x9 y))/\jS W.heap.size W w'):=jH λW h=>Ii y W _ (A W h).2.2.1 aL
 have dI:jW (∀rows,vo c ag=.ok rows->∀W,jS g w W->jV jI 10 #[nC #[ng nH c.fmt,ng nJ c.mag,ng nH c.pO,ng nH c.qj,ng nH c.dep,ng nH c.oZ],nk aF C I] W (Re c rows W)):=jH λrows eF W h=>Rf c ag _ W rows eF (A W h).1 V (A W h).2.2.2.1
 have dJ:jW (∀W,jS g w W->jV jI 17 #[nC #[ny n1,ny (txt x.lab),nA x.lab.list,nk oa x.sub.length Q],nC #[ny n2,ny (txt y.lab),nA y.lab.list,nk ob y.sub.length cb]] W λe w'=>e=nE (nA (Dy n1 n2 x y))/\jS W.heap.size W w'):=jH λW h=>ZW n1 n2 x y oa ob Q cb W (A W h).2.1 (A W h).2.2.1
 have bH:=jH bE;have dK:=jH V;have az:=jH (jU (jU aI aL) (jU aJ aM));have eG:n1.size<=9223372036854775807:=by unfold j5 at aJ;omega
 have eH:n2.size<=9223372036854775807:=by unfold j5 at aM;omega
 unfold oK.v oK.cs;rw[hg];clear bZ V aH aK aI aL aG bF bG bE dC cz dD cK aJ aM;go_in;go_upto_region 1 with fail;generalize ai:((w.alloc _).alloc _).alloc _=w1;obtain⟨bI,bJ,bK,bL,bM⟩:=dE.out _ ai
 have HC:jW (∀W,jS (g+3) w1 W->(W.cell? ⟨g,0,none⟩=some (ng nH c.fmt)/\W.cell? ⟨g,1,none⟩=some (ng nJ c.mag)/\W.cell? ⟨g,2,none⟩=some (ng nH c.pO)/\W.cell? ⟨g,3,none⟩=some (ng nH c.qj)/\W.cell? ⟨g,4,none⟩=some (ng nH c.dep)/\W.cell? ⟨g,5,none⟩=some (ng nH c.oZ))/\
   (W.cell? ⟨g+1,0,none⟩=some (ny n1)/\W.cell? ⟨g+1,1,none⟩=some (ny (txt x.lab))/\W.cell? ⟨g+1,2,none⟩=some (nA x.lab.list)/\W.cell? ⟨g+1,3,none⟩=some (nk oa x.sub.length Q))/\
   (W.cell? ⟨g+2,0,none⟩=some (ny n2)/\W.cell? ⟨g+2,1,none⟩=some (ny (txt y.lab))/\W.cell? ⟨g+2,2,none⟩=some (nA y.lab.list)/\W.cell? ⟨g+2,3,none⟩=some (nk ob y.sub.length cb))/\jS g w W):=jH λW h=>by
  have aC:=Below.blk h bI nK;have ak:=Below.blk h bJ nK;have au:=Below.blk h bK nK;exact⟨⟨aC.cell 0,aC.cell 1,aC.cell 2,aC.cell 3,aC.cell 4,aC.cell 5⟩,⟨ak.cell 0,ak.cell 1,ak.cell 2,ak.cell 3⟩,⟨au.cell 0,au.cell 1,au.cell 2,au.cell 3⟩,bL.trans (h.mono nK)⟩
 have HZ1:=jH bM;have aN:jW (jS (g+3) w1 w1):=jH (jT _ _);clear ai dE bI bJ bK bL bM;obtain⟨⟨c0,c1,c2,c3,c4,c5⟩,⟨p0,p1,p2,p3⟩,⟨q0,q1,q2,q3⟩,hbw⟩:=HC.out _ aN.out;go_wp2_with fail;refine(dH _ hbw).mono ?_;rintro e w2 ⟨rfl,hb⟩;have Sd:jW (jS (g+3) w1 w2):=jH (aN.trans (hb.mono (by have:=aN.size;have:=HZ1.out;omega)));clear hb;clear c0 c1 c2 c3 c4 c5 p0 p1 p2 p3 q0 q1 q2 q3 hbw;obtain⟨⟨c0,c1,c2,c3,c4,c5⟩,⟨p0,p1,p2,p3⟩,⟨q0,q1,q2,q3⟩,hbw⟩:=HC.out _ Sd.out;obtain⟨RT,aO⟩:=nT (Er c ag);have dL:=jH aO;rw[aO]at CR;clear aO;cases RT with
 |false=>
  go_wp2_with fail;refine(CR _ hbw).mono ?_;rintro e w3 ⟨rfl,hb⟩;have Sg:jW (jS (g+3) w1 w3):=jH (Sd.trans (hb.mono (by have:=Sd.size;have:=HZ1.out;omega)));clear hb;clear c0 c1 c2 c3 c4 c5 p0 p1 p2 p3 q0 q1 q2 q3 hbw;have HQ:=jH (HC _ Sg).2.2.2;exact Cb
 |true=>
 obtain⟨dM,Z,rows,aA⟩:=VG dL.out;have Z:=jH Z;have aB:=jH aA;clear aA dM;by_cases dN:100<n1.size
 .have ta:decide ((n1.size:Int)>100)=true:=nQ
  have dO:decide (100<(n1.size:Int))=true:=nQ;exact ZZ
 have ta:decide ((n1.size:Int)>100)=false:=nQ;have dO:decide (100<(n1.size:Int))=false:=nQ;by_cases dP:100<n2.size
 .have tb:decide ((n2.size:Int)>100)=true:=nQ
  have dQ:decide (100<(n2.size:Int))=true:=nQ;exact ZZ
 have tb:decide ((n2.size:Int)>100)=false:=nQ;have dQ:decide (100<(n2.size:Int))=false:=nQ;clear dN dP;obtain⟨eO,aP⟩:=nT (x9 x);have dR:=jH aP;rw[aP]at ax;clear aP;obtain⟨eP,aQ⟩:=nT (x9 y);have dS:=jH aQ;rw[aQ]at ay;clear aQ;go_wp2_with fail;refine(CR _ hbw).mono ?_;rintro e w3 ⟨rfl,hb⟩;have Sg:jW (jS (g+3) w1 w3):=jH (Sd.trans (hb.mono (by have:=Sd.size;have:=HZ1.out;omega)));clear hb;clear c0 c1 c2 c3 c4 c5 p0 p1 p2 p3 q0 q1 q2 q3 hbw;obtain⟨⟨c0,c1,c2,c3,c4,c5⟩,⟨p0,p1,p2,p3⟩,⟨q0,q1,q2,q3⟩,hbw⟩:=HC.out _ Sg.out;cases eO with
 |true=>
  go_wp2_with fail;refine(ax _ hbw).mono ?_;rintro e w4 ⟨rfl,hb⟩;have E:jW (jS (g+3) w1 w4):=jH (Sg.trans (hb.mono (by have:=Sg.size;have:=HZ1.out;omega)));clear hb;clear c0 c1 c2 c3 c4 c5 p0 p1 p2 p3 q0 q1 q2 q3 hbw;obtain⟨⟨c0,c1,c2,c3,c4,c5⟩,⟨p0,p1,p2,p3⟩,⟨q0,q1,q2,q3⟩,hbw⟩:=HC.out _ E.out;have HQ:=jH (HC _ E).2.2.2;exact Cb
 |false=>
 go_wp2_with fail;refine(ax _ hbw).mono ?_;rintro e w4 ⟨rfl,hb⟩;have E:jW (jS (g+3) w1 w4):=jH (Sg.trans (hb.mono (by have:=Sg.size;have:=HZ1.out;omega)));clear hb;clear c0 c1 c2 c3 c4 c5 p0 p1 p2 p3 q0 q1 q2 q3 hbw;obtain⟨⟨c0,c1,c2,c3,c4,c5⟩,⟨p0,p1,p2,p3⟩,⟨q0,q1,q2,q3⟩,hbw⟩:=HC.out _ E.out;cases eP with
 |true=>
  go_wp2_with fail;refine(ay _ hbw).mono ?_;rintro e w5 ⟨rfl,hb⟩;have J:jW (jS (g+3) w1 w5):=jH (E.trans (hb.mono (by have:=E.size;have:=HZ1.out;omega)));clear hb;clear c0 c1 c2 c3 c4 c5 p0 p1 p2 p3 q0 q1 q2 q3 hbw;obtain⟨⟨c0,c1,c2,c3,c4,c5⟩,⟨p0,p1,p2,p3⟩,⟨q0,q1,q2,q3⟩,hbw⟩:=HC.out _ J.out;have HQ:=jH (HC _ J).2.2.2;exact Cb
 |false=>
 go_wp2_with fail;refine(ay _ hbw).mono ?_;rintro e w5 ⟨rfl,hb⟩;have J:jW (jS (g+3) w1 w5):=jH (E.trans (hb.mono (by have:=E.size;have:=HZ1.out;omega)));clear hb;clear c0 c1 c2 c3 c4 c5 p0 p1 p2 p3 q0 q1 q2 q3 hbw;obtain⟨⟨c0,c1,c2,c3,c4,c5⟩,⟨p0,p1,p2,p3⟩,⟨q0,q1,q2,q3⟩,hbw⟩:=HC.out _ J.out;go_wp2_with fail;refine(dI _ aB _ hbw).mono ?_;rintro e aD ⟨bN,G,sb,r,bn,bi,L,rfl,hL,dU,hl,aR⟩;have aS:jW (jS (g+3) w1 aD):=jH (J.trans (bN.mono (by have:=J.size;have:=HZ1.out;omega)));have N:jW (g+3<=G/\G<=sb/\G<=aD.heap.size):=jH (by have:=J.size;have:=HZ1.out;omega);have av:jW (∀W,jS G aD W->qp r bn bi c L W/\qo W/\xm W):=jH λW h=>⟨aR W h,(A W (HC W (aS.trans (h.mono N.1))).2.2.2).2.2.2⟩
 have bB:=jH hL;have dV:jW (xI aD G r sb [] 0 0):=jH dU;have aT:jW (∀q,q∈rows->q.id<18446744073709551616):=jH (ZX aB λe he=>(dK e he).2.2);have dW:jW ((rows.map λq=>q.id).Nodup):=jH (bB.out▸VI (av aD (jT _ _)).1);have bO:=jH (JU dR).2.1;have bP:=jH (JU dS).2.1;have aU:jW (∀q,q∈L->q.r.id<18446744073709551616):=jH λq eQ=>aT.out _ (bB.out▸List.mem_map.2 ⟨q,eQ,rfl⟩)
 clear bN hL dU hl aR dH CR ax ay dI c0 c1 c2 c3 c4 c5 p0 p1 p2 p3 q0 q1 q2 q3 hbw;obtain⟨⟨c0,c1,c2,c3,c4,c5⟩,⟨p0,p1,p2,p3⟩,⟨q0,q1,q2,q3⟩,hbw⟩:=HC.out _ aS.out;have U:=Ij G sb r bn bi c L [] 0 0 n1 x oa Q aD Z bH dV ⟨N.2.1,N.2.2⟩ av aU az.2.1 (A _ hbw).2.1 az.1.1 λ_=>bO.out
 rw[bB.out]at U;obtain⟨dh,aV⟩:=nT ((uD c rows n1 x).1);obtain⟨aW,aX⟩:=nT ((uD c rows n1 x).2);obtain⟨dw,aY⟩:=nT ((uD c rows n2 y).1);obtain⟨bC,aZ⟩:=nT ((uD c rows n2 y).2);rw[aV,aX]at U;have U:=jH U;have bQ:jW (aW=0->bC=0->ZY (Dy n1 n2 x y) (decide (dh=dw)) (c.fmt==1) (decide (n1=n2))=true):=jH λaj Y=>by
  rw[<-aV,<-aY];exact a4O dW aT Z (λ_=>bO.out) (λ_=>bP.out) (aX.trans aj) (aZ.trans Y)
 have bR:=jH (jU aY aZ);clear aV aX aY aZ;go_wp2_with fail;refine U.mono ?_;rintro e dX ⟨rfl,bS,bg⟩;have bT:=jH bg;have bU:jW (jS (g+3) w1 dX):=jH (aS.trans (bg.mono N.1));have dY:=jH bS;clear bg bS U;clear c0 c1 c2 c3 c4 c5 p0 p1 p2 p3 q0 q1 q2 q3 hbw;obtain⟨⟨c0,c1,c2,c3,c4,c5⟩,⟨p0,p1,p2,p3⟩,⟨q0,q1,q2,q3⟩,hbw⟩:=HC.out _ bU.out;have aa:=Ij G sb r bn bi c L [] 0 0 n2 y ob cb dX Z bH dY ⟨N.2.1,by have:=N.2.2;have:=bT.size;omega⟩ (λW h=>av.out W (bT.trans h)) aU az.2.2 (A _ hbw).2.2.1 az.1.2 λ_=>bP.out
 rw[bB.out,bR.1,bR.2]at aa;have aa:=jH aa;go_wp2_with fail;refine aa.mono ?_;rintro e eT ⟨rfl,dZ,bV⟩;have ae:jW (jS (g+3) w1 eT):=jH (bU.trans (bV.mono N.1));clear bV dZ aa;clear c0 c1 c2 c3 c4 c5 p0 p1 p2 p3 q0 q1 q2 q3 hbw;obtain⟨⟨c0,c1,c2,c3,c4,c5⟩,⟨p0,p1,p2,p3⟩,⟨q0,q1,q2,q3⟩,hbw⟩:=HC.out _ ae.out;by_cases O:aW=0;rotate_left
 .have bW:((aW:Int) !=0)=true:=by rw[bne_iff_ne];exact O
  clear O;have HQ:=jH (HC _ ae).2.2.2;exact Cb
 by_cases af:bC=0;rotate_left
 .have ed:((bC:Int) !=0)=true:=by rw[bne_iff_ne];exact af
  have bW:((aW:Int) !=0)=false:=by simp[O]
  clear O af;have HQ:=jH (HC _ ae).2.2.2;exact Cb
 have ek:=jH (bQ O af);have bW:((aW:Int) !=0)=false:=by simp[O]
 have ed:((bC:Int) !=0)=false:=by simp[af]
 clear O af bQ;obtain⟨eu,bq⟩:=nT (Dy n1 n2 x y);obtain⟨bD,bu⟩:=nT (decide (dh=dw));obtain⟨dx,bz⟩:=nT ((c.fmt==1));obtain⟨dz,bA⟩:=nT (decide (n1=n2));have eY:(dh.toList==dw.toList)=bD:=by rw[LP,bu]
 have eZ:(n1.toList==n2.toList)=dz:=by rw[LP,bA]
 have fq:(c.fmt==1)=dx:=bz;have bX:jW (ZY eu bD dx dz=true):=jH (by rw[<-bq,<-bu,<-bz,<-bA];exact ek);rw[bq]at dJ;clear bq bu bz bA ek;go_wp2_with fail;refine(dJ _ hbw).mono ?_;rintro e eU ⟨rfl,hb⟩;have bY:jW (jS (g+3) w1 eU):=jH (ae.trans (hb.mono (by have:=ae.size;have:=HZ1.out;omega)));clear hb;clear c0 c1 c2 c3 c4 c5 p0 p1 p2 p3 q0 q1 q2 q3 hbw;obtain⟨⟨c0,c1,c2,c3,c4,c5⟩,⟨p0,p1,p2,p3⟩,⟨q0,q1,q2,q3⟩,hbw⟩:=HC.out _ bY.out;have HQ:=jH (HC _ bY).2.2.2;cases eu with
 |true=>
  obtain rfl:bD=true:=bX.out;exact Cb
 |false=>
 cases bD with
 |false=>
  exact Cb
 |true=>
 have eB:dx=true/\dz=true:=by have:=bX.out;unfold ZY at this;simpa using this
 obtain⟨rfl,rfl⟩:=eB;go_wp2_with fail;go_returns;exact⟨rfl,HQ.out⟩
end
section
open Go.RowKit Go.ChangeShapes Go.WideShapes Go.Deep
theorem OL{H:Type}{enc:ko×jP->H}{P:mK}{w:jJ}{base:Nat}{spare:Nat->Bool}{held:Bool}{t:ko}{A f1 f2:Field}{fuel:Nat}{cs:List jP}{x:DataW H×List MemPlace}(ht:P.underlying t=some (.struct #[A,f1,f2]))(C:oneCellFields P #[A,f1,f2]=true)(O:P.cellsOf t=3)(Q:P.underlying A.type=some .string)(e1:P.underlying f1.type=some .bool)(U:DataW.trod enc P w base spare held fuel t cs=some x):
  ∃a v n y,n<fuel/\cs=sZ.cells a v/\sZ.ok a/\DataW.trod enc P w base spare held n f2.type [v]=some y:=by
 obtain⟨ys,I,Z,ae,hlen,hyl,J⟩:=DataW.trod_struct ht U;have N:cs.length=3:=hlen.trans O;have key:∀(j:Nat)(f:Field),#[A,f1,f2][j]? =some f->∃(v:jP) (y:DataW H×List MemPlace),cs[j]? =some v/\DataW.trod enc P w base spare held I f.type [v]=some y:=by
  intro j f E;obtain⟨ho,hk⟩:=hone_of C j f E;have aa:j<3:=(ku.1 E).1;have h1:=J j f E;rw[ho,hk]at h1;have hv:cs[j]? =some (cs[j]' nK):=jX nK;have hone':(cs.drop j).take 1=[cs[j]' nK]:=by
   rw[List.drop_eq_getElem_cons nK];rfl
  exact Tw
 obtain⟨v0,af,c0,t0⟩:=key 0 _ rfl;obtain⟨v1,ag,c1,V⟩:=key 1 _ rfl;obtain⟨v2,y2,c2,Y⟩:=key 2 _ rfl;obtain⟨S,rfl,w0⟩:=wF Q t0;obtain⟨bo,Iw,_⟩:=DataW.trod_bool e1 V;obtain rfl:v1=nA bo:=by simpa using Iw
 refine⟨⟨S.data.toList,bo⟩,v2,I,y2,nK,?_,?_,Y⟩
 .match cs,N with
  |[a,b,c],_=>
   simp at c0 c1 c2;subst c0 c1 c2;rfl
 .show S.data.toList.length<=j5
  simpa using w0
theorem Iq{H:Type}{enc:ko×jP->H}:WH sZ jI 47 45 H enc where
 hst:=Tryz.underlying45
 hk:=nM
 pos:=nN
 hop:=λw base spare held fuel cs x h=>OL Tryz.underlying47 nM nM mR Tryz.underlying4 h
theorem OM{H:Type}{enc:ko×jP->H}{w:jJ}{base:Nat}{spare:Nat->Bool}{held:Bool}{cs:Array jP}{d:DataW H}{p:List MemPlace}(h:DataW.Trod enc jI w base spare held 49 (nC cs) d p):
  ∃(x:ByteArray×nL IL) (v:jP),cs=#[ny x.1,ny (txt x.2.lab),nA x.2.lab.list,v]/\x.1.size<=j5/\(pM w v x.2.sub/\x.2.lab.text.length<=j5/\x.1.size<=j5):=by
 obtain⟨fuel,U⟩:=h;obtain⟨ys,J,Z,aa,hlen,N,C⟩:=DataW.trod_struct Tryz.underlying49 U;have O:(Value.agg cs).cells.toList.length=4:=hlen.trans nM;have Q:cs.toList.length=4:=by simpa [Value.cells]using O
 have V:ys.length=2:=N;have h0:=C 0 _ rfl;have A:=C 1 _ rfl;rw[jX nK]at h0 A;have Y:((Value.agg cs).cells.toList.drop 0).take (Tryz.prog.cellsOf 9)=cs.toList.take 1:=by
  rw[show Tryz.prog.cellsOf 9=1 by kernel_rfl];simp[Value.cells]
 have e1:((Value.agg cs).cells.toList.drop 1).take (Tryz.prog.cellsOf 47)=(cs.toList.drop 1).take 3:=by
  rw[show Tryz.prog.cellsOf 47=3 by kernel_rfl];simp[Value.cells]
 have h0:DataW.trod enc jI w base spare held J 9 (cs.toList.take 1)=_:=(congrArg _ Y).symm.trans h0;have A:DataW.trod enc jI w base spare held J 47 ((cs.toList.drop 1).take 3)=_:=(congrArg _ e1).symm.trans A;obtain⟨v0,v1,v2,v3,hc⟩:∃v0 v1 v2 v3,cs.toList=[v0,v1,v2,v3]:=by
  generalize cs.toList=l at*
  match l,Q with
  |[a,b,c,e],_=>exact⟨a,b,c,e,rfl⟩
 rw[hc]at h0 A;obtain⟨S,rfl,w0⟩:=wF mR h0;obtain⟨a,v,n,y,hn,E,hok,hy2⟩:=Iq.hop _ _ _ _ _ _ _ A;obtain⟨s,hs⟩:=Iq.subs n v y hy2;refine⟨(S,.node a s),v,?_,w0,hs,hok,w0⟩;have I:[v1,v2,v3]=sZ.cells a v:=E;have:cs=⟨cs.toList⟩:=nR;rw[this,hc,I];rfl
end
end Go.Proofs.YtamfcjmhnndbdaaGreatDoor


