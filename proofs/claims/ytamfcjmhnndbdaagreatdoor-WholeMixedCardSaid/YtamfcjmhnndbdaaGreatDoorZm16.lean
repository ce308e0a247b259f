/- Part 16 of the proof. -/
import Derived.Test.YtamfcjmhnndbdaaGreatDoorZm00
import Derived.Test.YtamfcjmhnndbdaaGreatDoorZm09
import Derived.Test.YtamfcjmhnndbdaaGreatDoorZm06
import Derived.Test.YtamfcjmhnndbdaaGreatDoorZm07
import Derived.Test.YtamfcjmhnndbdaaGreatDoorZm11
import Derived.Test.YtamfcjmhnndbdaaGreatDoorZm12
import Derived.Test.YtamfcjmhnndbdaaGreatDoorZm13
import Derived.Test.YtamfcjmhnndbdaaGreatDoorZm14
import Derived.Test.YtamfcjmhnndbdaaGreatDoorZm15
import Derived.Lib.AppendStr
import Derived.Deep.AppendLies
open Go.Value renaming agg→nD,bool→nC,int→nk,pointer→nA,slice→ny,string→nz,tuple→nE,slice→kM
open Go.Obj renaming cells→nH
open Go.IntKind renaming i64→nI,u32→nK,u64→nJ
open Go.Ending renaming returned→nG
open Go.Lib renaming hid→jH,strCells→mD
open Go.Proofs.Tryz renaming prog→jI
open Go renaming World→jJ,Value→jP,Calls→jV,bodyPost_ret→jZ,maxLen→j3,TypeId→ko,undef→kI,results→kQ,Addr→lH,Oper→lY,Program→ma,wpQuiet_nil→mK
open Nat renaming le_refl→jK,le_trans→jY,lt_of_lt_of_le→kG,zero_le→kH,le_succ→kV,lt_of_le_of_lt→mr,le_of_lt→mX
open List renaming setIfInBounds_toArray→jL,getElem?_cons_succ→jM,getElem?_cons_zero→jN,getElem?_toArray→jO,set_cons_zero→jQ,set_cons_succ→jR,getElem?_eq_getElem→jW,length_append→j5,take_succ_cons→ky,mem_of_getElem?→kK,take_zero→kL,getElem?_eq_some_iff→lF,append_assoc→mG,map_cons→mQ
open Go.RowKit renaming Below→jS,Hid→jX,intOf→kT
open Go.RowKit.Below renaming refl→jT,heap_setCell→j6
open And renaming intro→jU
open UInt8 renaming ofNat→kg
open Go.World renaming setCell→kz
open Go.Act renaming put→kE
open Array renaming length_toList→kY
open Go.Code renaming region→ll
open Go.Instr renaming lookup→lW
open Go.Sem renaming run→l7
open Option.some renaming inj→l8
open Option renaming none→V,some→U
open Go.Addr renaming mk→Z
namespace Go.Proofs.YtamfcjmhnndbdaaGreatDoor
set_option linter.unusedVariables false
set_option linter.unusedSimpArgs false
set_option maxRecDepth 100000
set_option maxHeartbeats 8000000
variable {P:ma}{ops:Array lY}{o:lY}{a a0:Act}
section
open Go.RowKit Go.Maps
structure wV where
 id:Nat
 nm:ByteArray
 tx:ByteArray
def Io(w:jJ)(v:jP)(A:List wV):Prop:=
 ∃oa cap,v=ny oa A.length cap/\A.length<=cap/\cap<=j3/\∀i e,A[i]? =U e->∃b off,oa=U (Z b off V)/\b<w.heap.size/\w.cell? (Z b (off+i*3) V)=U (nk nJ e.id)/\w.cell? (Z b (off+i*3+1) V)=U (nz e.nm)/\w.cell? (Z b (off+i*3+2) V)=U (nz e.tx)
theorem Io.below{w w':jJ}{v:jP}{A:List wV}(h:Io w v A)(hb:jS w.heap.size w w'):Io w' v A:=by
 obtain⟨oa,cap,C,h1,h2,E⟩:=h;refine⟨oa,cap,C,h1,h2,λi e he=> ?_⟩;obtain⟨b,off,ho,hl,c0,c1,c2⟩:=E i e he;have q:∀o,w'.cell? (Z b o V)=w.cell? (Z b o V):=λo=>World.cell?_of_block (w:=w) (a:=(Z b o V)) (hb.block b hl)
 exact⟨b,off,ho,kG hl hb.size,by rw[q];exact c0,by rw[q];exact c1,by rw[q];exact c2⟩
def rG(c:oF):List Row->List wV->Except Nat (List Row)
 |rows,[]=> .ok rows
 |rows,e::A=>match uL c rows e.id e.nm e.tx with
  |(er,V)=> .error er
  |(_,U row)=>rG c (row::rows) A
def uZ(c:oF)(A:List wV):Except Nat (List Row):=if oJ c=false then .error 1 else if 32<A.length then .error 4 else rG c [] A
theorem NR(c:oF)(rows:List Row)(id:Nat)(nm tx:ByteArray):(uL c rows id nm tx).2=V/\(uL c rows id nm tx).1≠0\/(uL c rows id nm tx).1=0/\∃row,(uL c rows id nm tx).2=U row:=by
 unfold uL;split;.exact .inl ⟨rfl,nO⟩
 .split
  .exact .inl ⟨rfl,nO⟩
  .split
   .exact .inl ⟨rfl,nO⟩
   .split
    .exact .inl ⟨rfl,nO⟩
    .exact .inr ⟨rfl,_,rfl⟩
def AQ(c:oF)(A:List wV)(w:jJ)(e:Ending)(w':jJ):Prop:=
 jS w.heap.size w w'/\match uZ c A with
 | .error er=>e=nG (nE #[nA V,nk nI er])/\er≠0
 | .ok rows=>∃r bn bi L,e=nG (nE #[nA (U (Z r 0 V)),nk nI 0])/\qi r bn bi c L w'/\(L.map λx:oO=>x.r)=rows/\(bn≠bi/\r≠bn/\r≠bi)/\w.heap.size<=r/\w.heap.size<=bn/\w.heap.size<=bi
abbrev Qu:ko:=159
structure SA(w0:jJ)(g r bn bi:Nat)(c:oF)(L:List oO)(W:jJ):Prop where
 rg:qi r bn bi c L W
 pR:jS g w0 W
 lt:w0.heap.size=g/\g<bn/\g<bi/\g<r/\bn≠bi/\r≠bn/\r≠bi
theorem SA.below{w0:jJ}{g r bn bi:Nat}{c:oF}{L:List oO}{W A:jJ}(h:SA w0 g r bn bi c L W)(hb:jS W.heap.size W A):SA w0 g r bn bi c L A:=
 ⟨h.rg.below hb,h.pR.trans (hb.mono (by have:=h.lt;have:=h.pR.size;omega)),h.lt⟩
theorem SA.add{w0:jJ}{g r bn bi:Nat}{c:oF}{L C:List oO}{W A:jJ}(h:SA w0 g r bn bi c L W)(k:qJ (λd=>d=bn\/d=bi) W A)(E:qi r bn bi c C A):SA w0 g r bn bi c C A:=
 ⟨E,h.pR.trans (k.below (λd hd I=>by have:=h.lt;omega) (by have:=h.lt;have:=h.pR.size;omega)),h.lt⟩
theorem SA.kp{w0:jJ}{g r bn bi:Nat}{c:oF}{L:List oO}{W A:jJ}(h:SA w0 g r bn bi c L W)(k:qJ (λd=>d=bn\/d=bi) W A):jS g w0 A:=
 h.pR.trans (k.below (λd hd C=>by have:=h.lt;omega) (by have:=h.lt;have:=h.pR.size;omega))
def YK(c:oF)(bn bi:Nat)(pf gf:jP):Array jP:=#[nk nI c.fmt,nk nK c.mag,nk nI c.pF,nk nI c.qc,nk nI c.dep,nk nI c.oV,.map (U bn),.map (U bi),pf,gf]
def ptV(c:oF):jP:=.func (.func 83) #[nD #[nk nI c.dep,nk nI c.oV]] #[]
def gtV(c:oF):jP:=.func (.func 84) #[nD #[nk nI c.dep,nk nI c.oV]] #[]
structure YL(w0:jJ)(g k:Nat)(c:oF)(pf gf:jP)(W:jJ):Prop where
 cf:nP W g #[nk nI c.fmt,nk nK c.mag,nk nI c.pF,nk nI c.qc,nk nI c.dep,nk nI c.oV] tC
 cp:nP W k #[nk nI c.dep,nk nI c.oV] Qu
 rg:nP W (k+3) (YK c (k+1) (k+2) pf gf) RgT
 nm:qC NmK sH W (k+1) 0 []
 id:qC IdK sH W (k+2) 0 []
 pR:jS g w0 W
 lt:w0.heap.size=g/\g<k
theorem YL.of{w0:jJ}{g k:Nat}{c:oF}{W:jJ}(h1:jS g w0 W)(h2:nP W g #[nk nI c.fmt,nk nK c.mag,nk nI c.pF,nk nI c.qc,nk nI c.dep,nk nI c.oV] tC)(C:nP W k #[nk nI c.dep,nk nI c.oV] Qu)(A:W.heap.size=k+1)(hl:w0.heap.size=g/\g<k)(pf gf:jP):
  YL w0 g k c pf gf (((W.alloc (.map #[] 0)).alloc (.map #[] 0)).alloc (nH (YK c (k+1) (k+2) pf gf) RgT)):=by
 have a1:=(jT W.heap.size W).alloc (jK _) (.map #[] 0);have a2:=a1.alloc nS (.map #[] 0);have a3:=a2.alloc nT (nH (YK c (k+1) (k+2) pf gf) RgT);have E:=qC.made NmK sH W;have m2:=qC.made IdK sH (W.alloc (.map #[] 0));have I:=nP.new ((W.alloc (.map #[] 0)).alloc (.map #[] 0)) (YK c (k+1) (k+2) pf gf) RgT;rw[A]at E;rw[World.size_alloc,A]at m2;rw[World.size_alloc,World.size_alloc,A]at I;exact⟨Below.blk a3 h2 h2.lt,Below.blk a3 C C.lt,I,(E.below ((jT _ _).alloc (jK _) _)).below (((jT _ _).alloc (jK _) _)),m2.below ((jT _ _).alloc (jK _) _),h1.trans (a3.mono nL),hl⟩
theorem YL.put{w0:jJ}{g k:Nat}{c:oF}{pf gf Lb gf2:jP}{W:jJ}(h:YL w0 g k c pf gf W):YL w0 g k c Lb gf2 ((W.setCell (Z (k+3) 8 V) Lb).setCell (Z (k+3) 9 V) gf2):=by
 have l:=h.lt;have hh:∀d,d≠k+3->((W.setCell (Z (k+3) 8 V) Lb).setCell (Z (k+3) 9 V) gf2).heap[d]? =W.heap[d]? :=λd hd=>(j6 _ (Z (k+3) 9 V) _ d hd).trans (j6 _ (Z (k+3) 8 V) _ d hd)
 have q:∀{d:Nat}{cs:Array jP}{t:ko},nP W d cs t->d≠k+3->nP ((W.setCell (Z (k+3) 8 V) Lb).setCell (Z (k+3) 9 V) gf2) d cs t:=λhB hd=>by unfold nP;rw[hh _ hd];exact hB
 refine⟨q h.cf nL,q h.cp nL,(h.rg.set 8 Lb).set 9 gf2,h.nm.block (hh _ nL),h.id.block (hh _ nL),?_,l⟩;exact(h.pR.setCell (p:=(Z (k+3) 8 V)) (by show g<=k+3;omega) _).setCell (p:=(Z (k+3) 9 V)) (by show g<=k+3;omega) _
theorem YL.i{w0:jJ}{g k:Nat}{c:oF}{W:jJ}(h:YL w0 g k c (GI c) (Jp c) W):SA w0 g (k+3) (k+1) (k+2) c [] W:=
 ⟨⟨h.rg,h.nm,h.id,(λy A=>by cases A),(λy A=>by cases A)⟩,h.pR,by have:=h.lt;omega⟩
theorem Eh{c:oF}{A:List wV}{w w':jJ}{er:Nat}(h:uZ c A=.error er)(hb:jS w.heap.size w w')(hn:er≠0):AQ c A w (nG (nE #[nA V,nk nI er])) w':=⟨hb,by rw[h];exact⟨rfl,hn⟩⟩
theorem a4B{c:oF}{A:List wV}{w w':jJ}{g r bn bi:Nat}{L:List oO}(h:uZ c A=.ok (L.map λx=>x.r))(hI:SA w g r bn bi c L w'):AQ c A w (nG (nE #[nA (U (Z r 0 V)),nk nI 0])) w':=by
 have l:=hI.lt;exact⟨l.1.symm▸hI.pR,by rw[h];exact⟨r,bn,bi,L,rfl,hI.rg,rfl,nL,nL,nL,nL⟩⟩
theorem SB{p:Prop}(h:p:=by
 subst hW;exact⟨hg▸(jT w.heap.size w).alloc (jK _) _,hg▸nP.new w _ _,by simp[hg]⟩):p:=h
theorem a2P{p:Prop}(h:p:=by
 generalize hr0:kp+3=r at*;generalize hn0:kp+1=bn at*;generalize hi0:kp+2=bi at*;obtain⟨TOT,a4C⟩:=nV (rG c [] es);have a9j:=jH a4C;have HE2:jX (uZ c es=TOT):=jH (HE.trans a4C);clear a4C HE hr0 hn0 hi0;go_loopw [45] (λkv wi=>∃k:Nat,kv=nk nI (k:Int)/\k<=n/\jX (∃L:List oO,SA w g r bn bi c L wi/\L.length=k/\rG c (L.map λx=>x.r) (es.drop k)=TOT)) (λkv _=>n -(kT kv).toNat);case atStart=>exact⟨0,rfl,kH _,jH ⟨[],Sd.out,rfl,a9j.out⟩⟩
 case round=>
  obtain⟨k,rfl,hk,HJ⟩:=hrel;obtain⟨L,hI,hLk,hnl⟩:=HJ.out;clear HJ;have HI:=jH hI;have HLK:=jH hLk;have HNL:=jH hnl;clear hI hLk hnl;by_cases hkn:k<n
  .have tk:decide (k<n)=true:=nT
   have hn32:n<=32:=by have:=H32.out;omega
   obtain⟨e,he⟩:∃e,es[k]? =U e:=⟨_,jW (by rw[HN.out];exact hkn)⟩;obtain⟨b,off,rfl,hbl,q0,q1,q2⟩:=HC.2.2.1 k e he;have hq:∀o,wr.cell? (Z b o V)=w.cell? (Z b o V):=λo=>World.cell?_of_block (w:=w) (a:=(Z b o V)) (HI.pR.block b nL)
   have z0:=(hq _).trans q0;have z1:=(hq _).trans q1;have z2:=(hq _).trans q2;have HES:=jH (HC.2.2.2 e (kK he));have HDR:jX (es.drop k=e::es.drop (k+1)):=jH (by
    obtain⟨h1,h2⟩:=lF.1 he;rw[List.drop_eq_getElem_cons h1,h2])
   have hfit:k<n:=hkn;clear hq q0 q1 q2 he hbl;have HAL:jX (∀W,wr.alloc (nH #[nk nJ e.id,nz e.nm,nz e.tx] UU)=W->SA w g r bn bi c L W/\nP W wr.heap.size #[nk nJ e.id,nz e.nm,nz e.tx] UU):=jH λW hW=>by
    subst hW;exact⟨HI.below ((jT _ _).alloc (jK _) _),nP.new wr _ _⟩
   go_upto_region 12 with fail;obtain⟨hI6,hB6⟩:=HAL.out _ rfl;generalize wr.alloc _=w6 at*;have HI6:=jH hI6;obtain⟨v0,v1,v2⟩:=hB6.a3;have CA:=jH (a1P r bn bi c L e.id e.nm e.tx w6 hI6.rg ⟨hI6.lt.2.2.2.2.1,hI6.lt.2.2.2.2.2⟩ HES.1 HES.2.1 HES.2.2 (by have:=HLK.out;have:=H32.out;omega) (HTT w6 hI6.pR));obtain⟨⟨er,ro⟩,hAE⟩:∃R,uL c (L.map λx=>x.r) e.id e.nm e.tx=R:=⟨_,rfl⟩;have hcase:=NR c (L.map λx=>x.r) e.id e.nm e.tx;rw[hAE]at CA hcase;have HAE:=jH hAE;dsimp only at CA hcase;clear hI6 hB6 HAL z0 z1 z2 hAE;go_wp2_with fail;refine CA.mono ?_;rintro e7 w7 ⟨rfl,hok⟩;have IM:=jH hok;clear hok CA v0 v1 v2;rcases hcase with⟨rfl,hne⟩|⟨rfl,row,rfl⟩
   .have te:((er:Int) !=0)=true:=nT
    have HER:jX (uZ c es=.error er):=jH (by rw[HE2.out,<-HNL.out,HDR.out,rG,HAE.out]);have HNE:=jH hne;clear hne;go_wp2_with fail;try go_returns
    rw[<-HP.out];exact Eh HER (hg.symm▸HI6.kp IM.kp) HNE.out
   .have te:(((0:Nat):Int) !=0)=false:=nS
    go_wp2_with fail;go_roundw;case rel=>
     obtain⟨x,hx,hr⟩:=IM.rg row rfl;refine⟨k+1,nS,nL,jH ⟨x::L,HI6.add IM.kp hr,by simp[HLK.out],?_⟩⟩;have h9:=HNL.out;rw[HDR.out,rG,HAE.out]at h9;rw[mQ,hx];exact h9
    case measure=>simp[kT];omega
  .have tk:decide (k<n)=false:=nT
   have HEN:jX (uZ c es=.ok (L.map λx=>x.r)):=jH (by
    have h9:=HNL.out;rw[List.drop_eq_nil_of_le (by rw[HN.out];omega),rG]at h9;rw[HE2.out,<-h9])
   clear hkn;go_wp2_with fail;try go_returns
   rw[<-HP.out];exact a4B HEN HI.out):p:=h
theorem a1Q(c:oF)(es:List wV)(v:jP)(w:jJ)(aN:Io w v es)(au:∀e,e∈es->e.nm.size<=j3/\e.tx.size<=j3/\e.id<18446744073709551616)(aC:pW w):
  jV jI 52 #[c.v,v] w (AQ c es w):=by
 have aQ:=@run_makeMap jI;obtain⟨oa,cap,rfl,O,Q,J⟩:=aN;obtain⟨n,hn⟩:=nV es.length;obtain⟨g,hg⟩:=nV w.heap.size;have av:jX (∀W,w.alloc (nH #[nk nI c.fmt,nk nK c.mag,nk nI c.pF,nk nI c.qc,nk nI c.dep,nk nI c.oV] tC)=W->jS g w W/\nP W g #[nk nI c.fmt,nk nK c.mag,nk nI c.pF,nk nI c.qc,nk nI c.dep,nk nI c.oV] tC/\W.heap.size=g+1):=jH λW hW=>by
  exact SB
 have aD:=jH (λW=>BM c W);have HTT:=jH (λ(W:jJ) (hb:jS g w W)=>aC.below hb (hg▸aC.lt));have HC:=jH (jU O (jU Q (jU J au)));have ae:jX (uZ c es=if oJ c=false then .error 1 else if 32<n then .error 4 else rG c [] es):=jH (by unfold uZ;rw[hn]);obtain⟨aO,aF⟩:=nV (AQ c es w);have HP:=jH aF;have HN:=jH hn;rw[aF,hn];unfold oF.v oF.cs at aD⊢;generalize aR:oJ c=rc at*;clear O Q J au aC aF hn;go_in;go_upto_region 1 with fail;obtain⟨ax,af,ay⟩:=av.out _ rfl;generalize w.alloc _=w1 at*;have E:=jH (jU ax (jU af ay));obtain⟨c0,c1,c2,c3,c4,c5⟩:=af.a6;clear av ax af ay;go_wp2_with fail;refine(aD _).mono ?_;rintro e w2 ⟨rfl,Y⟩;have C:jX (jS g w w2/\nP w2 g #[nk nI c.fmt,nk nK c.mag,nk nI c.pF,nk nI c.qc,nk nI c.dep,nk nI c.oV] tC/\g<w2.heap.size):=jH ⟨E.1.trans (Y.mono (by have:=E.2.2;omega)),Below.blk Y E.2.1 E.2.1.lt,by have:=E.2.2;have:=Y.size;omega⟩;clear E Y aD c0 c1 c2 c3 c4 c5;cases rc with
 |false=>
  have HE:=jH (ae.trans (if_pos rfl));go_wp2_with fail;try go_returns
  rw[<-HP.out];exact Eh HE (hg.symm▸C.1) nO
 |true=>
  by_cases N:32<n
  .have t0:decide ((n:Int)>32)=true:=nT
   have HE:=jH (ae.trans ((if_neg nS).trans (if_pos N)));clear N;go_wp2_with fail;try go_returns
   rw[<-HP.out];exact Eh HE (hg.symm▸C.1) nO
  .have t0:decide ((n:Int)>32)=false:=nT
   have HE:=jH (ae.trans ((if_neg nS).trans (if_neg N)));have H32:=jH N;have az:=C.2.1;obtain⟨c0,c1,c2,c3,c4,c5⟩:=az.a6;clear N az;obtain⟨kp,ag⟩:=nV w2.heap.size;have aH:jX (∀W,w2.alloc (nH #[nk nI c.dep,nk nI c.oV] Qu)=W->jS g w W/\nP W g #[nk nI c.fmt,nk nK c.mag,nk nI c.pF,nk nI c.qc,nk nI c.dep,nk nI c.oV] tC/\nP W kp #[nk nI c.dep,nk nI c.oV] Qu/\W.heap.size=kp+1/\g<kp):=jH λW hW=>by
    subst hW;have al:=(jT w2.heap.size w2).alloc (jK _) (nH #[nk nI c.dep,nk nI c.oV] Qu);have:=C.2.2;exact⟨C.1.trans (al.mono nL),Below.blk al C.2.1 C.2.1.lt,ag▸nP.new w2 _ _,by simp[ag],nL⟩
   go_upto_region 6 with fail;have aI:=aH.out _ rfl;generalize w2.alloc _=w3 at*;clear c0 c1 c2 c3 c4 c5 aH;have A:=jH aI;clear aI;obtain⟨c0,c1,c2,c3,c4,c5⟩:=A.2.1.a6;obtain⟨ah,ai⟩:=A.2.2.1.a2;have aA:=A.2.2.2.1;obtain⟨z0,z1⟩:=((A.2.2.1.alloc (.map #[] 0)).alloc (.map #[] 0)).a2;have aJ:jX (∀W,((w3.alloc (.map #[] 0)).alloc (.map #[] 0)).alloc (nH #[nk nI c.fmt,nk nK c.mag,nk nI c.pF,nk nI c.qc,nk nI c.dep,nk nI c.oV,.map (U (kp+1)),.map (U (kp+2)),.func (.func 83) #[nD #[nk nI c.dep,nk nI c.oV]] #[],.func (.func 84) #[nD #[nk nI c.dep,nk nI c.oV]] #[]] RgT)=W->YL w g kp c (ptV c) (gtV c) W):=jH λW hW=>by
    subst hW;exact YL.of A.1 A.2.1 A.2.2.1 aA ⟨hg,A.2.2.2.2⟩ _ _
   go_upto_region 7 with fail;rw[show kp+1+1+1=kp+3 from rfl,show kp+1+1=kp+2 from rfl];have I:=aJ.out _ rfl;generalize ((w3.alloc _).alloc _).alloc _=w4 at*;have aa:=jH I;have aG:=I.cf.cell 0;have aj:=I.rg.cell 8;have ak:=I.rg.cell 9;have aK:=I.rg.free 8;have aL:=I.rg.free 9;have ah:=I.cp.cell 0;have ai:=I.cp.cell 1;simp only[YK,jO,jN,jM]at aG aj ak ah ai;clear aJ I z0 z1 c0 c1 c2 c3 c4 c5 aA A C ag;unfold ptV at aj;unfold gtV at ak;by_cases h1:c.fmt=1
   .have aP:(c.fmt==1)=true:=by simp[h1]
    have aM:=jH h1;clear h1;have Sd:jX (∀W,(w4.setCell (Z (kp+3) 8 V) (.func (.func 85) #[nD #[nk nI c.dep,nk nI c.oV]] #[])).setCell (Z (kp+3) 9 V) (.func (.func 86) #[nD #[nk nI c.dep,nk nI c.oV]] #[])=W->SA w g (kp+3) (kp+1) (kp+2) c [] W):=jH λW hW=>by
     subst hW;have hp:=aa.put (Lb:=.func (.func 85) #[nD #[nk nI c.dep,nk nI c.oV]] #[]) (gf2:=.func (.func 86) #[nD #[nk nI c.dep,nk nI c.oV]] #[]);refine YL.i ?_;unfold GI Jp;rw[if_pos aM.out,if_pos aM.out];exact hp
    go_upto_region 10 with fail;have aB:=Sd.out _ rfl;generalize (w4.setCell (Z (kp+3) 8 V) _).setCell (Z (kp+3) 9 V) _=w5 at*;have Sd:=jH aB;clear aB aG aj ak aK aL ah ai aa;exact a2P
   .have aP:(c.fmt==1)=false:=by simp[h1]
    have Sd:jX (SA w g (kp+3) (kp+1) (kp+2) c [] w4):=jH (YL.i (by unfold GI Jp;rw[if_neg h1,if_neg h1];exact aa));clear h1 aj ak aK aL ah ai aa;go_upto_region 10 with fail;clear aG;exact a2P
end
section
open Go.RowKit
theorem Aa{t e s:ko}(T:pX P t e s){rest:List lY}{Q:Exit->Act->jJ->Prop}(E:o.guard=V)(x y:Operand)(ho:o.op=.call {callee:=.builtin .append,args:=#[x,y],argTypes:=#[t,t]})(B:Nat)(v:jP)(l:List UInt8)(b:UInt8)(w:jJ)(cs:Array jP)(I:cs.toList=nU [b])(af:a.eval x=v)(C:ow w B e v l)(ag:a.eval y=ny (U (Z w.heap.size 0 V)) 1 1)(hlen:l.length+1<=140737488355328)(hB:B<=w.heap.size)(h:∀v' w',ow w' B e v' (l++[b])->w.grownBy w' v.ownBlock->(v'.ownBlock=v.ownBlock\/∃g,v'.ownBlock=U g/\w.heap.size<=g)->wpList P ops Q rest (a.put o.dst v') w'):
  wpList P ops Q (o::rest) a (w.alloc (nH cs e)):=by
 obtain⟨ah,hi,J,N,O⟩:=info_parts T.hi;have Y:=(jT w.heap.size w).alloc (jK _) (nH cs e);have aa:=nP.new w cs e
 refine wpList_append_lies _ E x y t ho B e ah (nk .u8 0) 1 1 T.ht hi J N O rfl nO v l.length (nU l) af (World.ownsRow.alloc C _)
  (Z w.heap.size 0 V) 1 1 (nU [b]) ag nS ?_ (rO _) nO yD nL nT _ rfl ?_
 .intro j u ai
  have e1:((Z w.heap.size 0 V):lH).add j=(Z w.heap.size j V):=FM;rw[e1,aa.cell,<-ai,<-I,Array.getElem?_toList]
 .intro g cap w' h1 h2 A aj
  refine h _ w' ?_ ⟨h2.os,h2.tape,h2.output,by have:=h2.size;simp at this;omega,λc hc ae=>(h2.block c nT ae).trans (Y.block c hc)⟩ ?_
  .show w'.ownsRow B e 1 _ (l++[b]).length (nU (l++[b]))
   rw[j5,o8];exact h1
  .rcases A with A|A
   .exact .inl A.symm
   .exact .inr ⟨g,rfl,by rw[A];simp⟩
theorem NS{t e s:ko}(T:pX P t e s){rest:List lY}{Q:Exit->Act->jJ->Prop}(C:o.guard=V)(x y:Operand)(ho:o.op=.call {callee:=.builtin .append,args:=#[x,y],argTypes:=#[t,s]})(B:Nat)(v:jP)(l:List UInt8)(S:ByteArray)(w:jJ)(N:a.eval x=v)(A:ow w B e v l)(O:a.eval y=nz S)(hlen:l.length+S.size<=140737488355328)(hB:B<=w.heap.size)(h:∀v' w',ow w' B e v' (l++S.data.toList)->w.grownBy w' v.ownBlock->wpList P ops Q rest (a.put o.dst v') w'):
  wpList P ops Q (o::rest) a w:=by
 obtain⟨Y,hi,E,I,J⟩:=info_parts T.hi;refine Lib.wpList_append_own_string _ C x y t s ho B e Y T.ht T.hs hi E I J v l.length (nU l) N A S O yD nL hB ?_;intro v' w' h1 h2 _;refine h v' w' ?_ h2;have e1:mD S=nU S.data.toList:=by simp[mD,nU]
 show w'.ownsRow B e 1 v' (l++S.data.toList).length (nU (l++S.data.toList));rw[j5,o8,<-e1];have e2:S.data.toList.length=S.size:=nS;rw[e2];exact h1
theorem Hm(b n B:Nat)(v:jP)(l:List UInt8)(w:jJ)(hb:b=128\/b=192)(hn:n<=1000000)(E:ow w B 5 v l)(hl:l.length<=1000000)(hB:B<=w.heap.size):
  jV jI 201 #[v,nk nI b,nk nI n] w λe w'=>∃v',e=nG v'/\ow w' B 5 v' (l++hdr b n)/\w.grownBy w' v.ownBlock:=by
 have av:b<=192:=nL;by_cases c:n<=55
 .have N:jX (hdr b n=[kg (b+n)]):=jH (by unfold hdr;rw[if_pos c])
  have ax:b+n<=255:=nL;go_in;go_wp2_with (at_builtin;go_loud (refine Aa Ch rfl _ _ rfl B v l (kg (b+n)) w _ (xW (n:=b+n) nL nL) rfl E rfl nL hB ?_);intro v' w' h1 h2 A;have I:=jH (jU h1 h2);clear h1 h2 A);go_returns;exact⟨_,rfl,by rw[N.out];exact I.1,I.2⟩
 .have c0:=jH (Jg n w nL)
  have aj:=DC 3 n (mr hn nO);have N:jX (hdr b n=kg (b+55+(BB n).length)::(BB n).reverse):=jH (by unfold hdr;rw[if_neg c]);obtain⟨S,O⟩:∃S:ByteArray,S=⟨(BB n).reverse.toArray⟩:=⟨_,rfl⟩;have Y:S.size=(BB n).length:=by rw[O,size_mk];simp
  rw[<-O]at c0;have aa:S.data.toList=(BB n).reverse:=by rw[O]
  rw[<-Y,<-aa]at N;have ay:S.size<=3:=nL;have ai:=jH E;clear O Y aa E aj;go_in;go_wp2_with fail;refine c0.mono ?_;rintro e w2 ⟨rfl,C⟩;have Q:=jH (ai.below C);have ae:B<=w2.heap.size:=jY hB C.size;have ak:=jH C;clear C
  go_wp2_with (first
   |(at_builtin;refine Aa Ch rfl _ _ rfl B v l (kg (b+55+S.size)) w2 _ (xW (n:=b+55+S.size) nL nL) rfl Q rfl nL ae ?_;intro v' w' h1 h2 A;have I:=jH (jU h1 (jU h2 A));have au:=jY ae h2.size;clear h1 h2 A)
   |(at_builtin;refine NS Ch rfl _ _ rfl B v' (l++[kg (b+55+S.size)]) S w' rfl I.1 rfl nT au ?_;intro v2 w3 h1 h2;have af:=jH (jU h1 h2);clear h1 h2))
  go_returns;refine⟨_,rfl,?_,?_⟩
  .rw[N.out]
   have:=af.1;rwa [mG]at this
  .obtain⟨h1,h2,A⟩:=I.out
   have J:=af.2;have h0:=ak.out;refine⟨J.os.trans (h2.os.trans h0.os),J.tape.trans (h2.tape.trans h0.tape),J.output.trans (h2.output.trans h0.output),jY h0.size (jY h2.size J.size),λc hc ag=> ?_⟩;have ah:c<w2.heap.size:=kG hc h0.size;rw[J.block c (kG ah h2.size) ?_,h2.block c ah ag,h0.block c hc];intro e;rcases A with A|⟨g,A,az⟩
   .exact ag (by rw[e,A])
   .rw[A]at e;cases e;omega
theorem IP{t e s ty:ko}(T:pX P t e s)(w:jJ)(B:Nat)(v:jP)(l:List UInt8)(S:ByteArray)(A:ow w B e v l)(hlen:l.length+S.size<=140737488355328):
  ∃v' w',(Builtin.append_ #[t,s] ty #[v,nz S]).run P w=.ok v' w'/\FrV w v v':=by
 obtain⟨Q,hi,N,C,O⟩:=info_parts T.hi;rcases A.2 with⟨rfl,h0⟩|⟨g,cap,aa,rfl,ag,hg,af,Y,hsz,htake⟩
 .by_cases Y:S.size=0
  .refine⟨ny V 0 0,w,?_,λb hb=>by cases hb⟩
   have ae:=Lib.run_firstCells_string (P:=P) w 1 S;rw[Y]at ae;simp[Builtin.append_,run_underlying T.ht,run_underlying T.hs,sizeOf,typeInfo,hi,C,Builtin.lenOf,Y,ae]
  .have E:=run_append_nil_string (P:=P) w t s ty e Q (nk .u8 0) T.ht T.hs hi N S nL nL (by rw[O];omega)
   exact⟨_,_,E,λb hb=> .inr (by cases hb;exact jK _)⟩
 .by_cases I:l.length+S.size<=cap
  .have E:=Lib.run_append_room_string (P:=P) w t s ty e Q T.ht T.hs hi C g l.length cap aa hg S I nL
   exact⟨_,_,E,λb hb=> .inl hb⟩
  .have J:∀j u,(nU l)[j]? =U u->w.cell? (((Z g 0 V):lH).add j)=U u:=World.ownsRow.cells A (g:=g) rfl
   have E:=Lib.run_append_grow_string (P:=P) w t s ty e Q (nk .u8 0) T.ht T.hs hi N (Z g 0 V) l.length cap (nU l) (by rw[C];simp) J S nL nL (by rw[O];exact growslice_fits nL nL);exact⟨_,_,E,λb hb=> .inr (by cases hb;exact jK _)⟩
theorem Lc{t e s:ko}(T:pX P t e s){rest:List lY}{Q:Exit->Act->jJ->Prop}(E:o.guard=V)(x y:Operand)(ho:o.op=.call {callee:=.builtin .append,args:=#[x,y],argTypes:=#[t,s]})(v:jP)(l:List UInt8)(S:ByteArray)(w:jJ)(Y:a.eval x=v)(A:ow w 0 e v l)(aa:a.eval y=nz S)(hlen:l.length+S.size<=140737488355328)(h:∀v' w',ow w' 0 e v' (l++S.data.toList)->w.grownBy w' v.ownBlock->FrV w v v'->wpList P ops Q rest (a.put o.dst v') w'):
  wpList P ops Q (o::rest) a w:=by
 obtain⟨ae,hi,I,J,N⟩:=info_parts T.hi;refine wpList_plain E λK af=> ?_
 obtain⟨v',w',O,h2,ag,_⟩:=Lib.run_append_own_string (P:=P) w 0 t s o.type e ae T.ht T.hs hi I J N v l.length (nU l) A S yD nL (kH _);obtain⟨v2,w2,C,ah⟩:=IP (ty:=o.type) T w 0 v l S A hlen;rw[O]at C;cases C;unfold Oper.wp execOp;simp only[ho,resolve,invoke,builtin,Sem.run_bind,Sem.run_pure,Result.andThen_ok,List.map_toArray,mQ,List.map_nil,Y,aa,O];refine af _ _ (h v' w' ?_ ag ah);have e1:mD S=nU S.data.toList:=by simp[mD,nU]
 show w'.ownsRow 0 e 1 v' (l++S.data.toList).length (nU (l++S.data.toList));rw[j5,o8,<-e1];have e2:S.data.toList.length=S.size:=nS;rw[e2];exact h2
def sS(c:oF)(rows:List Row)(mb:Nat)(buf:List UInt8)(nd fa:Int)(ch:ByteArray):List Ii×List UInt8×Int×Int:=
 if fa≠0 then([],buf,nd,fa)
 else if(((buf++ch.data.toList).length:Nat):Int)<nd then([],buf++ch.data.toList,nd,fa)
 else(λR:a00=>(R.told,(buf++ch.data.toList).drop R.at_,if R.err=2 then(G8 c ((⟨(buf++ch.data.toList).toArray⟩:ByteArray).extract R.at_ (⟨(buf++ch.data.toList).toArray⟩:ByteArray).size):Int)else nd,if R.err=2 then fa else(R.err:Int)))
  (uJ c rows ⟨(buf++ch.data.toList).toArray⟩ ((buf++ch.data.toList).length+1) 0 (U (mb,((MS.new 9223372036854775807).take ch.size).1)))
def yV(w:jJ)(F:Nat->Prop)(r sb:Nat)(buf:List UInt8)(nd fa:Int):Prop:=∃bv la tt se,nP w sb (Ee r bv nd fa la tt se) Jt/\ow w 0 wB bv buf/\F sb/\∀b,bv.ownBlock=U b->F b
structure a6C(c:oF)(rows:List Row)(F:Nat->Prop)(r sb mb:Nat)(buf:List UInt8)(nd fa:Int)(ch:ByteArray)(w:jJ)(lv:jP)(Lm:List xV)(w':jJ):Prop where
 own:ql w' (λd=>w.heap.size<=d) lv Lm
 told:Lm.map (λy=>y.m)=(sS c rows mb buf nd fa ch).1
 Sk:yV w' (λb=>F b\/w.heap.size<=b) r sb (sS c rows mb buf nd fa ch).2.1 (sS c rows mb buf nd fa ch).2.2.1 (sS c rows mb buf nd fa ch).2.2.2
 kp:qJ F w w'
structure zb(w0:jJ)(F:Nat->Prop)(sb r:Nat)(bv:jP)(buf:List UInt8)(nd fa la tt se:Int)(W:jJ):Prop where
 ss:nP W sb (Ee r bv nd fa la tt se) Jt
 ob:ow W 0 wB bv buf
 bw:qJ F w0 W
 lt:F sb/\sb<w0.heap.size
 fr:∀b,bv.ownBlock=U b->F b\/w0.heap.size<=b
section
variable {w0:jJ}{F:Nat->Prop}{sb r:Nat}{bv bv2:jP}{buf a6D:List UInt8}{nd fa la tt se:Int}{W W':jJ}
theorem zb.below(h:zb w0 F sb r bv buf nd fa la tt se W)(hb:jS W.heap.size W W'):zb w0 F sb r bv buf nd fa la tt se W':=
 ⟨Below.blk hb h.ss h.ss.lt,h.ob.kp (qJ.of (F:=λ_=>False) hb) (λ_ _ h=>h),h.bw.trans (qJ.of (F:=F) hb) (λ_ _ k=>k),h.lt,h.fr⟩
theorem zb.ne(h:zb w0 F sb r bv buf nd fa la tt se W):∀b,bv.ownBlock=U b->b≠sb:=λb hb=>Ha h.ob hb h.ss
theorem zb.kp(h:zb w0 F sb r bv buf nd fa la tt se W)(i:Nat)(v:jP):ow (W.setCell (Z sb i V) v) 0 wB bv buf:=
 h.ob.kp (qJ.set (F:=λd=>d=sb) (p:=(Z sb i V)) (qJ.refl _ W) (λ_=>rfl) v) λb hb e=>h.ne b hb e
theorem zb.bwp(h:zb w0 F sb r bv buf nd fa la tt se W)(i:Nat)(v:jP):qJ F w0 (W.setCell (Z sb i V) v):=h.bw.set (p:=(Z sb i V)) (λ_=>h.lt.1) v
theorem zb.qo(h:zb w0 F sb r bv buf nd fa la tt se W)(x:Int):zb w0 F sb r bv buf nd fa x tt se (W.setCell (Z sb 4 V) (nk nI x)):=⟨h.ss.set 4 _,h.kp 4 _,h.bwp 4 _,h.lt,h.fr⟩
theorem zb.a9o(h:zb w0 F sb r bv buf nd fa la tt se W)(x:Int):zb w0 F sb r bv buf nd fa la x se (W.setCell (Z sb 5 V) (nk nI x)):=⟨h.ss.set 5 _,h.kp 5 _,h.bwp 5 _,h.lt,h.fr⟩
theorem zb.grow(h:zb w0 F sb r bv buf nd fa la tt se W)(hg:W.grownBy W' bv.ownBlock)(ho:ow W' 0 wB bv2 a6D)(C:FrV W bv bv2):zb w0 F sb r bv2 a6D nd fa la tt se (W'.setCell (Z sb 1 V) bv2):=by
 have A:=pg h.ss hg h.ne;refine⟨A.set 1 _,ho.kp (qJ.set (F:=λd=>d=sb) (p:=(Z sb 1 V)) (qJ.refl _ W') (λ_=>rfl) bv2) (λb hb e=>Ha ho hb A e),(h.bw.trans (qJ.grown (F:=λd=>bv.ownBlock=U d) hg λ_ e=>e) (λc hc E=>(h.fr c E).resolve_right nL)).set (p:=(Z sb 1 V)) (λ_=>h.lt.1) bv2,h.lt,λb hb=> ?_⟩;rcases C b hb with e|e
 .exact h.fr b e
 .exact .inr (jY h.bw.size e)
theorem zb.upd(h:zb w0 F sb r bv buf nd fa la tt se W){b:Nat}(A:pE b W W')(ho:∀d,bv.ownBlock=U d->d≠b)(E:w0.heap.size<=b):zb w0 F sb r bv buf nd fa la tt se W':=by
 have k:qJ (λd=>d=b) W W':=qJ.mono (qJ.of2 (F:=λd=>d=b) (b:=b) (q:=b) ⟨A.os,A.tape,A.output,A.size,λk hk h1 _=>A.block k hk λe=>h1 (l8 e)⟩ (λ_=>rfl) (λ_=>rfl)) λ_ _ h=>h
 exact⟨k.blk h.ss (by show sb≠b;have:=h.lt.2;omega),h.ob.kp k ho,h.bw.trans k (λc hc C=>by have C:c=b:=C;omega),h.lt,h.fr⟩
end
theorem NT(c:oF)(rows:List Row)(s:ByteArray):∀(n p:Nat)(mt:Option (Nat×MS)),oM (uJ c rows s n p mt).mt=oM mt
 |0,p,mt=>rfl
 |n+1,p,mt=>by
  have h:=D5 c rows (s.extract p s.size) mt;rcases hs:rJ c rows (s.extract p s.size) mt with⟨R,m2⟩
  rw[hs]at h;cases R with
  |error er=>rw[z8 c rows s n p mt hs];exact h
  |ok y=>rw[ym c rows s n p mt hs];exact(NT c rows s n _ m2).trans h
theorem a4D{c:oF}{rows:List Row}{F:Nat->Prop}{r sb mb:Nat}{buf A:List UInt8}{nd:Int}{ch:ByteArray}{w w5 J:jJ}{C:MS}{O:Option lH}{Q:Nat}{la tt se:Int}{e:Ending}(h:yS 0 sb r mb c rows C O Q A nd 0 la tt se w5 e J)(ag:buf++ch.data.toList=A)(ah:((MS.new 9223372036854775807).take ch.size).1=C)(hI:zb w F sb r (ny O A.length Q) A nd 0 la tt se w5)(ai:IsM w5 mb C)(az:w.heap.size<=mb):
  ∃(oa:Option lH) (cap:Nat) (Lm:List xV) (aj:jP) (b6:List UInt8) (Y aa:Int) (I:MS),e=nG (ny oa Lm.length cap)/\zb w F sb r aj b6 Y aa la tt se J/\IsM J mb I/\ql J (λd=>w.heap.size<=d) (ny oa Lm.length cap) Lm/\sS c rows mb buf nd 0 ch=(Lm.map (λy=>y.m),b6,Y,aa):=by
 unfold sS;rw[if_neg nS,ag,ah];unfold yS at h;by_cases ae:(A.length:Int)<nd
 .rw[if_pos ae]at h⊢
  obtain⟨rfl,hb⟩:=h;exact⟨V,0,[],_,A,nd,0,C,rfl,hI.below hb,Below.blk hb ai ai.lt,ql.nil _ _,rfl⟩
 .rw[if_neg ae]at h⊢
  obtain⟨lv,rfl,hk⟩:=h;have hrow:=NT c rows ⟨A.toArray⟩ (A.length+1) 0 (U (mb,C));generalize uJ c rows ⟨A.toArray⟩ (A.length+1) 0 (U (mb,C))=R at*;obtain⟨Lm,⟨oa,cap,rfl⟩,af,N⟩:=hk.msgs;obtain⟨bo',bc',ak,au,aA,av⟩:=hk.Sk;obtain⟨told,at_,err,mt⟩:=R;obtain⟨I,rfl⟩:∃I,mt=U (mb,I):=by
   cases mt with
   |none=>cases hrow
   |some q=>obtain⟨aB,ax⟩:=q;cases hrow;exact⟨ax,rfl⟩
  have ay:=hI.bw.size;have hlt:=hI.lt;refine⟨oa,cap,Lm,_,_,_,_,I,rfl,⟨ak,au,hI.bw.trans hk.kp (λd hd E=> ?_),hlt,λb hb=> ?_⟩,hk.mt.1,ql.keep af (jK _) (λ_ _ _=>rfl) (λd _ hd=>by have hd:w5.heap.size<=d:=hd;omega),?_⟩
  .rcases E with E|E|E
   .exact E▸hlt.1
   .omega
   .exact(hI.fr d E).resolve_right nL
  .rcases av b hb with e|e
   .exact hI.fr b e
   .exact .inr (jY ay e)
  .rw[N]
noncomputable def Ld:List lY:=cO (cL (cL (cR (cL (cR (cR (cR (cB Tryz.f13))))))))
section
variable (w0:jJ)(F:Nat->Prop)(sb r:Nat)(bv:jP)(buf:List UInt8)(nd fa la tt se:Int)(Bs:jJ->Prop)
def Qv:Nat->jP
 |0=> nA (U (Z sb 0 V))
 |1=> nA (U (Z sb 0 V))
 |2=> nA (U (Z sb 3 V))
 |3=> nk nI fa
 |4=> ny V 0 0
 |5=> nk nI fa
 |_=>kI
structure a9p(D:Nat->Bool)(vs:Nat->jP)(w:jJ):Prop where
 oH:zb w0 F sb r bv buf nd fa la tt se w/\Bs w
 val:∀j,(true)=true->D j=true->vs j=Qv sb fa j
variable {w0 F sb r bv buf nd fa la tt se Bs}
theorem a4E{id:Nat}{Q:Exit->Act->jJ->Prop}{I:jJ}(ht0:a0.tmps.getD 0 kI=nA (U (Z sb 0 V)))(hsz:a0.tmps.size=58)(hI0:∀vs:Nat->jP,(λw=>zb w0 F sb r bv buf nd fa la tt se w/\Bs w) I.drew)(J:∀(vs:Nat->jP) (w:jJ),zb w0 F sb r bv buf nd fa la tt se w/\Bs w->Q .normal {a0 with tmps:=((((((a0.tmps.setIfInBounds 18 (nA (U (Z sb 0 V)))).setIfInBounds 19 (nA (U (Z sb 0 V)))).setIfInBounds 20 (nA (U (Z sb 3 V)))).setIfInBounds 21 (nk nI fa)).setIfInBounds 4 (ny V 0 0)).setIfInBounds 5 (nk nI fa))} w):
  (ll id Ld.toArray true).wp jI Q a0 I:=by
 refine og 6 58 (a9p w0 F sb r bv buf nd fa la tt se Bs) nN hsz nN (.inl rfl) nN ?_ ?_ ?_;.exact qB
 .refine rM λA O=> ?_
  clear hI0 J hsz;replace ht0:=jH ht0;dsimp+instances only[Ld,cO,cL,cR,cB,Tryz.f13];simp only[ky,kL,qW];refine⟨?_,?_,?_,?_,?_,?_,trivial⟩<;>(intro D vs a w K hI hd E hw2 C Y;subst O;dsimp+instances only[Ld,cO,cL,cR,cB,Tryz.f13]);have ah:=(C 0 nO).trans ht0.out;rotate_left;have ae:=fe C hI.val E 18 0;rotate_left;have af:=fe C hI.val E 19 1;rotate_left;have N:=fe C hI.val E 20 2;simp only[Qv]at N;have hB:=hI.oH.1.ss;have c0:=hB.cell 3;simp only[Ee,jO,jN,jM]at c0;clear hB;rotate_left;rotate_left;have ag:=fe C hI.val E 21 3;rotate_left
  all_goals
   try simp only[Qv]at*
   go_simp;exact Y _ _ _ rfl ⟨hI.oH,uK hI.val⟩
 .intro D vs w aa hI
  have E:=hI.oH;have q:=J vs w E;rw[oW hI.val aa];dsimp+instances only[Ld,cO,cL,cR,cB,Tryz.f13];exact qH
end
noncomputable def FC:List lY:=cO (cL (cR (cR (cR (cR (cR (cR (cR (cR (cR (cR (cB Tryz.f13))))))))))))
section
variable (w0:jJ)(F:Nat->Prop)(sb r:Nat)(bv:jP)(buf:List UInt8)(nd fa la tt se:Int)(Bs:jJ->Prop)(lv:jP)
def Le:Nat->jP
 |0=>lv
 |1=> nA (U (Z sb 0 V))
 |2=> nA (U (Z sb 0 V))
 |3=> nA (U (Z sb 3 V))
 |4=> nk nI fa
 |5=>lv
 |6=> nk nI fa
 |_=>kI
structure a6E(D:Nat->Bool)(vs:Nat->jP)(w:jJ):Prop where
 oH:zb w0 F sb r bv buf nd fa la tt se w/\Bs w
 val:∀j,(true)=true->D j=true->vs j=Le sb fa lv j
variable {w0 F sb r bv buf nd fa la tt se Bs lv}
theorem a1R{id:Nat}{Q:Exit->Act->jJ->Prop}{I:jJ}(EK:a0.tmps.getD 7 kI=lv)(ht0:a0.tmps.getD 0 kI=nA (U (Z sb 0 V)))(hsz:a0.tmps.size=58)(hI0:∀vs:Nat->jP,(λw=>zb w0 F sb r bv buf nd fa la tt se w/\Bs w) I.drew)(J:∀(vs:Nat->jP) (w:jJ),zb w0 F sb r bv buf nd fa la tt se w/\Bs w->Q .normal {a0 with tmps:=(((((((a0.tmps.setIfInBounds 53 (lv)).setIfInBounds 54 (nA (U (Z sb 0 V)))).setIfInBounds 55 (nA (U (Z sb 0 V)))).setIfInBounds 56 (nA (U (Z sb 3 V)))).setIfInBounds 57 (nk nI fa)).setIfInBounds 4 (lv)).setIfInBounds 5 (nk nI fa))} w):
  (ll id FC.toArray true).wp jI Q a0 I:=by
 refine og 7 58 (a6E w0 F sb r bv buf nd fa la tt se Bs lv) nN hsz nN (.inl rfl) nN ?_ ?_ ?_;.exact qB
 .refine rM λA O=> ?_
  clear hI0 J hsz;replace EK:=jH EK;replace ht0:=jH ht0;dsimp+instances only[FC,cO,cL,cR,cB,Tryz.f13];simp only[ky,kL,qW];refine⟨?_,?_,?_,?_,?_,?_,?_,trivial⟩<;>(intro D vs a w K hI hd E hw2 C Y;subst O;dsimp+instances only[FC,cO,cL,cR,cB,Tryz.f13]);have ai:=(C 7 nO).trans EK.out;rotate_left;have aj:=(C 0 nO).trans ht0.out;rotate_left;have ae:=fe C hI.val E 54 1;rotate_left;have af:=fe C hI.val E 55 2;rotate_left;have N:=fe C hI.val E 56 3;simp only[Le]at N;have hB:=hI.oH.1.ss;have c0:=hB.cell 3;simp only[Ee,jO,jN,jM]at c0;clear hB;rotate_left;have ag:=fe C hI.val E 53 0;rotate_left;have ah:=fe C hI.val E 57 4;rotate_left
  all_goals
   try simp only[Le]at*
   go_simp;exact Y _ _ _ rfl ⟨hI.oH,uK hI.val⟩
 .intro D vs w aa hI
  have E:=hI.oH;have q:=J vs w E;rw[oW hI.val aa];dsimp+instances only[FC,cO,cL,cR,cB,Tryz.f13];exact qH
end
theorem JA(F:Nat->Prop)(sb r bn bi:Nat)(c:oF)(L:List oO)(buf:List UInt8)(nd fa:Int)(ch:ByteArray)(w:jJ)(hc:oJ c=true)(aM:c.wf)(hs:yV w F r sb buf nd fa)(hlen:buf.length+ch.size<=100000)(av:∀W,qJ F w W->qi r bn bi c L W/\pW W/\uV W):
  jV jI 13 #[nA (U (Z sb 0 V)),nz ch] w λe w'=>∃mb lv Lm,e=nG (nE #[lv,nk nI (sS c (L.map λx=>x.r) mb buf nd fa ch).2.2.2])/\a6C c (L.map λx=>x.r) F r sb mb buf nd fa ch w lv Lm w':=by
 obtain⟨bv,la,tt,se,N,ax,aN,aO⟩:=hs;obtain⟨bo,bc,rfl⟩:=ow.form ax;obtain⟨g,hg⟩:=nV w.heap.size;have aK:=jH (show zb w F sb r (ny bo buf.length bc) buf nd fa la tt se w from⟨N,ax,qJ.refl F w,⟨aN,N.lt⟩,λb hb=> .inl (aO b hb)⟩);have ay:=jH av;have bF:=jH (jU hc aM);have bG:=jH hlen;have c4:=N.cell 4;have c3:=N.cell 3;have f4:=N.free 4;simp only[Ee,jO,jN,jM]at c3 c4;clear N ax aN aO hlen av hc aM;by_cases J:fa=0
 .have t0:(fa !=0)=false:=by simp[J]
  have bA:=jH J;have h1:=aK.qo 0;go_in;go_upto_region 6 with fail;generalize w.setCell (Z sb 4 V) (nk nI 0)=w1 at*;have ah:=jH h1;clear h1 c4 c3 f4 aK;have bH:=jH (OX 9223372036854775807 w1);go_wp2_with fail;refine bH.mono ?_;rintro e w2 ⟨rfl,E,ae,az⟩;obtain⟨mb,aA⟩:=nV w1.heap.size;rw[aA]at az ae E⊢;have bI:=jH (FR mb (MS.new 9223372036854775807) ch.size w2 (MS.Ok.new _ nO) az);have af:jX (zb w F sb r (ny bo buf.length bc) buf nd fa 0 tt se w2/\mb<w2.heap.size/\0<=mb/\sb<mb/\w.heap.size<=mb/\∀b,(kM bo buf.length bc).ownBlock=U b->b<mb):=jH (by
   have h1:=ah.out;have l:=h1.lt;have bX:=h1.bw.size;refine⟨h1.below (aA.symm▸E),ae,nL,nL,nL,λb hb=>aA▸(ow.blk h1.ob b hb).2⟩)
  clear E ae az ah bH;have bU:(ch.size:Int)<=9223372036854775807:=by have:=bG.out;omega
  go_wp2_with fail;refine bI.mono ?_;unfold a2z;rintro e w3 ⟨rfl,aP,ag⟩;obtain⟨aB,ai⟩:=nV (((MS.new 9223372036854775807).take ch.size).1);obtain⟨e4,aQ⟩:=nV (((MS.new 9223372036854775807).take ch.size).2);rw[ai]at ag;rw[aQ];have aR:=jH ai;have aS:jX aB.Ok:=jH (ai▸MS.Ok.take (MS.Ok.new _ nO) _);have C:jX (zb w F sb r (ny bo buf.length bc) buf nd fa 0 tt se w3/\IsM w3 mb aB):=jH (by
   obtain⟨a1,a2,a3,a4,a5,a6⟩:=af.out;exact⟨a1.upd aP (λd hd=>Nat.ne_of_lt (a6 d hd)) a5,ag⟩)
  clear ai aQ aP ag bI;have c1:=C.1.ss.cell 1;simp only[Ee,jO,jN,jM]at c1;have bV:=bG.out;have aC:=C.1.ob;have aT:ch.data.toList.length=ch.size:=kY;have f1:∀w',w3.grownBy w' (kM bo buf.length bc).ownBlock->∃cs,nP w' sb cs Jt:=λw' hg=>⟨_,pg C.1.ss hg C.1.ne⟩
  have bJ:=jH f1;clear f1;go_upto_region 9 with(at_builtin;go_loud (refine Lc Ch rfl _ _ rfl (ny bo buf.length bc) buf ch w3 rfl aC rfl nL ?_);intro v' w4 h1 h2 bP;obtain⟨aj,ak,rfl⟩:=ow.form h1;have Y:=jH (jU h1 (jU h2 bP));have f1:=(pg C.1.ss h2 C.1.ne).free 1;have bK:=(pg C.1.ss h2 C.1.ne).cell 1;simp only[Ee,jO,jN,jM]at bK;clear h1 h2)
  have I:buf.length+ch.size=(buf++ch.data.toList).length:=by rw[j5,aT]
  rw[I];have bB:=C.1.grow Y.2.1 Y.1 Y.2.2;have aU:IsM (w4.setCell (Z sb 1 V) (ny aj (buf++ch.data.toList).length ak)) mb aB:=(pg C.2 Y.2.1 λd hd=>Nat.ne_of_lt (af.2.2.2.2.2 d hd)).setOther (a:=(Z sb 1 V)) (by show mb≠sb;have:=af.2.2.2.1;omega) _;generalize w4.setCell (Z sb 1 V) (ny aj (buf++ch.data.toList).length ak)=w5 at*;obtain⟨bC,E⟩:=nV (buf++ch.data.toList);have bD:bC.length<=100000:=by rw[<-E,<-I];omega
  rw[E]at bB I⊢;have aV:=jH E;have A:=jH (jU bB aU);clear I aC aT bJ f1 bK c1 C Y E bB aU;have aW:∀d,(kM aj bC.length ak).ownBlock=U d->d≠sb/\d≠mb:=λd hd=>⟨A.1.ne d hd,λe=>by
   subst e;rcases A.1.ob.2 with⟨e,_⟩|⟨q,cap,bW,e,_,aD,_⟩
   .rw[e]at hd;cases hd
   .rw[e]at hd;cases hd
    have h2:w5.heap[q]? =U (nH aB.cs 119 (0,0)):=A.2;rw[h2]at aD;have:(119:ko)=wB:=by
     injection aD with e
     injection e
    exact absurd this nO⟩
  have bL:=jH (a1I 0 sb r mb bn bi c L aB aj ak bC nd fa 0 tt se w5 bF.1 bF.2 A.1.ss A.1.ob ⟨A.2,aS.out⟩ aW ⟨by have:=af.2.2.2.1;omega,kH _,kH _⟩ bD λW bQ=>ay.out W (A.1.bw.trans bQ λd hd J=>by
   rcases J with J|J|J
   .exact J▸A.1.lt.1
   .have:=af.2.2.2.2.1;omega
   .exact(A.1.fr d J).resolve_right nL))
  clear aW;go_wp2_with fail;refine bL.mono ?_;rintro e aF hcut;have bM:=bA.out;subst bM;obtain⟨oa,cap,Lm,aX,b6,aY,aZ,Q,rfl,aG,bg,aH,au⟩:=a4D hcut aV aR A.1 A.2 af.2.2.2.2.1;have bR:=jH (V6 mb Q aF bg);have aI:=jH (jU aG (jU aH au));obtain⟨n,hn⟩:=nV Lm.length;have bS:=jH hn;rw[hn];have aJ:=aG.qo Q.ta;have a4:=aG.ss.cell 4;have f4:=aG.ss.free 4;have a5:=aJ.ss.cell 5;have bT:=aJ.ss.free 5;simp only[Ee,jO,jN,jM]at a4 a5;clear hcut aG bg aH au bL A aV aR aS af ay aJ hn;go_wp2_with fail;refine bR.mono ?_;rintro e bY ⟨rfl,rfl⟩;go_upto_region 12 with fail;have bN:jX (∀tv,zb w F sb r aX b6 aY aZ Q.ta tv se ((aF.setCell (Z sb 4 V) (nk nI Q.ta)).setCell (Z sb 5 V) (nk nI tv))/\ql ((aF.setCell (Z sb 4 V) (nk nI Q.ta)).setCell (Z sb 5 V) (nk nI tv)) (λd=>w.heap.size<=d) (ny oa n cap) Lm):=jH λtv=>by
   have bO:=(aI.1.qo Q.ta).a9o tv;have hl:=bO.lt;refine⟨bO,ql.keep (bS.out▸aI.2.1) (by simp[kz]) (λd hd aD=> ?_) λ_ _ h=>h⟩;have aD:w.heap.size<=d:=aD;exact(j6 _ (Z sb 5 V) _ d (by show d≠sb;omega)).trans (j6 _ (Z sb 4 V) _ d (by show d≠sb;omega))
  generalize bq:(aF.setCell (Z sb 4 V) (nk nI Q.ta)).setCell (Z sb 5 V) _=aL at*;obtain⟨tv,bu⟩:∃tv,(aF.setCell (Z sb 4 V) (nk nI Q.ta)).setCell (Z sb 5 V) (nk nI tv)=aL:=⟨_,bq⟩;have bE:=bN.out tv;rw[bu]at bE;have bz:=jH bE;clear bE bN bq bu a4 f4 a5 bT;refine a1R (w0:=w) (F:=F) (sb:=sb) (r:=r) (bv:=aX) (buf:=b6) (nd:=aY) (fa:=aZ) (la:=Q.ta) (tt:=tv) (se:=se) (Bs:=λW=>ql W (λd=>w.heap.size<=d) (ny oa n cap) Lm) (lv:=ny oa n cap) (ht0:=by rfl) (EK:=by rfl) (hsz:=by rfl) (hI0:=λ_=>⟨bz.1.below (oC aL),ql.keep bz.2 (oC aL).size (λd hd _=>(oC aL).block d hd) λ_ _ h=>h⟩) ?_;intro vs bZ hF;have O:=jH hF;clear hF;simp only[jL,jQ,jR];go_wp2_with fail;try go_returns
  have Jh:=aI.2.2;refine⟨mb,ny oa n cap,Lm,by rw[Jh];rfl,⟨O.2,by rw[Jh],?_,O.1.bw⟩⟩;rw[Jh];exact⟨_,_,_,_,O.1.ss,O.1.ob,.inl O.1.lt.1,O.1.fr⟩
 .have t0:(fa !=0)=true:=by simp[J]
  have bA:=jH J;have h1:=aK.qo 0;go_in;go_upto_region 5 with fail;generalize w.setCell (Z sb 4 V) (nk nI 0)=w1 at*;have ah:=jH h1;clear h1 c4 c3 f4 aK;refine a4E (w0:=w) (F:=F) (sb:=sb) (r:=r) (bv:=ny bo buf.length bc) (buf:=buf) (nd:=nd) (fa:=fa) (la:=0) (tt:=tt) (se:=se) (Bs:=λ_=>True) (ht0:=by rfl) (hsz:=by rfl) (hI0:=λ_=>⟨ah.below (oC w1),trivial⟩) ?_;intro vs w2 hF;have aa:=jH hF.1;clear hF;simp only[jL,jQ,jR];go_wp2_with fail;try go_returns
  have hp:∀mb,sS c (L.map λx=>x.r) mb buf nd fa ch=([],buf,nd,fa):=λmb=>by unfold sS;rw[if_pos bA.out]
  refine⟨0,ny V 0 0,[],by rw[hp];rfl,⟨ql.nil _ _,by rw[hp];rfl,?_,aa.bw⟩⟩;rw[hp];exact⟨_,_,_,_,aa.ss,aa.ob,.inl aa.lt.1,aa.fr⟩
theorem yV.mono{w:jJ}{F F':Nat->Prop}{r sb:Nat}{buf:List UInt8}{nd fa:Int}(h:yV w F r sb buf nd fa)(hF:∀b,b<w.heap.size->F b->F' b):yV w F' r sb buf nd fa:=by
 obtain⟨bv,la,tt,se,h1,h2,A,C⟩:=h;exact⟨bv,la,tt,se,h1,h2,hF _ h1.lt A,λb hb=>hF b (ow.blk h2 b hb).2 (C b hb)⟩
def xC(w:jJ)(G r sb:Nat)(buf:List UInt8)(nd fa:Int):Prop:=∃bv la tt se,nP w sb (Ee r bv nd fa la tt se) Jt/\ow w G wB bv buf
theorem xC.f{w:jJ}{G r sb:Nat}{buf:List UInt8}{nd fa:Int}(h:xC w G r sb buf nd fa)(A:G<=sb):yV w (λb=>G<=b) r sb buf nd fa:=by
 obtain⟨bv,la,tt,se,h1,h2⟩:=h;exact⟨bv,la,tt,se,h1,h2.low (kH _),A,λb hb=>(ow.blk h2 b hb).1⟩
theorem yV.at_{w:jJ}{G r sb:Nat}{buf:List UInt8}{nd fa:Int}(h:yV w (λb=>G<=b) r sb buf nd fa):xC w G r sb buf nd fa:=by
 obtain⟨bv,la,tt,se,h1,h2,_,C⟩:=h;exact⟨bv,la,tt,se,h1,h2.1,h2.2.imp id λ⟨g,cap,A,e1,_,k⟩=>⟨g,cap,A,e1,C g (by rw[e1];rfl),k⟩⟩
structure NU(c:oF)(rows:List Row)(G r sb mb:Nat)(buf:List UInt8)(nd fa:Int)(ch:ByteArray)(w:jJ)(lv:jP)(Lm:List xV)(w':jJ):Prop where
 own:ql w' (λd=>w.heap.size<=d) lv Lm
 told:Lm.map (λy=>y.m)=(sS c rows mb buf nd fa ch).1
 Sk:xC w' G r sb (sS c rows mb buf nd fa ch).2.1 (sS c rows mb buf nd fa ch).2.2.1 (sS c rows mb buf nd fa ch).2.2.2
 pR:jS G w w'
theorem YM(G sb r bn bi:Nat)(c:oF)(L:List oO)(buf:List UInt8)(nd fa:Int)(ch:ByteArray)(w:jJ)(hc:oJ c=true)(E:c.wf)(hs:xC w G r sb buf nd fa)(hlt:G<=sb/\G<=w.heap.size)(hlen:buf.length+ch.size<=100000)(C:∀W,jS G w W->qi r bn bi c L W/\pW W/\uV W):
  jV jI 13 #[nA (U (Z sb 0 V)),nz ch] w λe w'=>∃mb lv Lm,e=nG (nE #[lv,nk nI (sS c (L.map λx=>x.r) mb buf nd fa ch).2.2.2])/\NU c (L.map λx=>x.r) G r sb mb buf nd fa ch w lv Lm w':=by
 have hb:∀W,qJ (λb=>G<=b) w W->jS G w W:=λW k=>k.below (λc hc A=>by have A:G<=c:=A;omega) hlt.2
 refine(JA _ sb r bn bi c L buf nd fa ch w hc E (hs.f hlt.1) hlen λW I=>C W (hb W I)).mono ?_;rintro e w' ⟨mb,lv,Lm,he,h1,h2,J,N⟩;exact⟨mb,lv,Lm,he,h1,h2,(J.mono λb _ A=>A.elim id λh=>jY hlt.2 h).at_,hb w' N⟩
end
section
open Go.RowKit Go.Maps
structure IQ(lo hi r bn bi:Nat)(c:oF)(L:List oO)(w:jJ):Prop where
 rg:qi r bn bi c L w
 lt:lo<=r/\r<hi/\lo<=bn/\bn<hi/\lo<=bi/\bi<hi
 su:∀x,x∈L->oh.nX w (λk=>r<k/\k<hi) (ny x.ou x.r.ty.sub.length x.cu) x.r.ty.sub
theorem IQ.kp{lo hi r bn bi:Nat}{c:oF}{L:List oO}{w w':jJ}{F:Nat->Prop}(h:IQ lo hi r bn bi c L w)(k:qJ F w w')(hF:∀d,lo<=d->d<hi->¬F d):IQ lo hi r bn bi c L w':=by
 have l:=h.lt;have g:=h.rg;have q:∀d,d<w.heap.size->lo<=d->d<hi->w'.heap[d]? =w.heap[d]? :=λd h1 h2 C=>k.block d h1 (hF d h2 C)
 refine⟨⟨k.blk g.rg (hF r l.1 l.2.1),g.nm.block (q _ g.nm.lt l.2.2.1 l.2.2.2.1),g.id.block (q _ g.id.lt l.2.2.2.2.1 l.2.2.2.2.2),λx A=>(h.su x A).keep k.size (λ_ _ h=>h.1) λd h1 h2=>q d h1 (jY l.1 (mX h2.1)) h2.2,g.may⟩,l,λx A=>(h.su x A).keep k.size (λ_ _ h=>h) λd h1 h2=>q d h1 (jY l.1 (mX h2.1)) h2.2⟩
theorem IQ.mono{lo A hi r bn bi:Nat}{c:oF}{L:List oO}{w:jJ}(h:IQ lo hi r bn bi c L w)(hl:A<=lo):IQ A hi r bn bi c L w:=
 ⟨h.rg,by have:=h.lt;omega,h.su⟩
def Ab(c:oF)(A:List wV)(w:jJ)(e:Ending)(w':jJ):Prop:=
 jS w.heap.size w w'/\match uZ c A with
 | .error er=>e=nG (nE #[nA V,nk nI er])/\er≠0
 | .ok rows=>∃G sb r bn bi L,e=nG (nE #[nA (U (Z sb 0 V)),nk nI 0])/\(L.map λx:oO=>x.r)=rows/\xC w' G r sb [] 0 0/\(w.heap.size<=G/\G<=sb/\G<=w'.heap.size/\bn≠bi/\r≠bn/\r≠bi/\IQ w.heap.size G r bn bi c L w')/\∀W,jS G w' W->qi r bn bi c L W
theorem YN{c:oF}{I:List wV}{w w2:jJ}{r bn bi sb:Nat}{L:List oO}(h:uZ c I=.ok (L.map λx=>x.r))(hb:jS w.heap.size w w2)(E:qi r bn bi c L w2)(A:(bn≠bi/\r≠bn/\r≠bi)/\w.heap.size<=r/\w.heap.size<=bn/\w.heap.size<=bi)(C:w2.heap.size=sb):
  Ab c I w (nG (nE #[nA (U (Z sb 0 V)),nk nI 0])) (w2.alloc (nH #[nA (U (Z r 0 V)),ny V 0 0,nk nI 0,nk nI 0,nk nI 0,nk nI 0,nk nI 0] Jt)):=by
 have a:=(jT w2.heap.size w2).alloc (jK _) (nH #[nA (U (Z r 0 V)),ny V 0 0,nk nI 0,nk nI 0,nk nI 0,nk nI 0,nk nI 0] Jt);have J:=hb.size;refine⟨hb.trans (a.mono J),?_⟩;rw[h];refine⟨sb,sb,r,bn,bi,L,rfl,rfl,⟨ny V 0 0,0,0,0,C▸nP.new w2 _ _,ow.nil _ _ _⟩,⟨nL,jK _,nT,A.1.1,A.1.2.1,A.1.2.2,E.below a,by have:=E.lt3;omega,λx N=> ?_⟩,λW O=> ?_⟩;.exact((E.sq x N).keep (jK _) (λk h1 h2=>(⟨h2,C▸h1⟩:r<k/\k<sb)) λ_ _ _=>rfl).below a
 exact E.below (a.trans (C.symm▸O))
theorem SC(c:oF)(C:List wV)(v:jP)(w:jJ)(ax:Io w v C)(O:∀e,e∈C->e.nm.size<=j3/\e.tx.size<=j3/\e.id<18446744073709551616)(aj:pW w):
  jV jI 27 #[c.v,v] w (Ab c C w):=by
 obtain⟨g,hg⟩:=nV w.heap.size;have Q:jX (∀W,w.alloc (nH #[nk nI c.fmt,nk nK c.mag,nk nI c.pF,nk nI c.qc,nk nI c.dep,nk nI c.oV] tC)=W->jS w.heap.size w W/\nP W g #[nk nI c.fmt,nk nK c.mag,nk nI c.pF,nk nI c.qc,nk nI c.dep,nk nI c.oV] tC/\W.heap.size=g+1):=jH λW N=>by
  subst N;exact⟨(jT w.heap.size w).alloc (jK _) _,hg▸nP.new w _ _,by simp[hg]⟩
 have ay:jX (∀W,jS w.heap.size w W->jV jI 52 #[nD #[nk nI c.fmt,nk nK c.mag,nk nI c.pF,nk nI c.qc,nk nI c.dep,nk nI c.oV],v] W (AQ c C W)):=jH λW N=>a1Q c C v W (ax.below N) O (aj.below N aj.lt)
 obtain⟨aG,ak⟩:=nV (Ab c C w);have az:=jH ak;obtain⟨oa,cap,rfl,_⟩:=ax;rw[ak];unfold oF.v oF.cs;clear O aj ak;go_in;go_upto_region 1 with fail;obtain⟨E,Y,aa⟩:=Q.out _ rfl;generalize w.alloc _=w1 at*;have I:=jH (jU E aa);obtain⟨c0,c1,c2,c3,c4,c5⟩:=Y.a6;have ae:=jH (ay w1 E);clear Q E Y aa ay;go_wp2_with fail;refine ae.mono ?_;unfold AQ;rintro e w2 ⟨af,au⟩;have ag:jS w.heap.size w w2:=I.1.trans (af.mono (by have:=I.2;omega));have ah:=jH ag;obtain⟨aH,J⟩:=nV (uZ c C);have ai:=jH J;rw[J]at au;clear af ag ae J;cases aH with
 |error er=>
  obtain⟨rfl,A⟩:=au;have aI:((er:Int) !=0)=true:=nT;have aA:=jH A;clear A;go_wp2_with fail;try go_returns
  rw[<-az.out];exact⟨ah.out,by rw[ai.out];exact⟨rfl,aA.out⟩⟩
 |ok rows=>
  obtain⟨r,bn,bi,L,rfl,aB,rfl,A,aC⟩:=au;have aD:=jH (jU aB (jU A (show w.heap.size<=r/\w.heap.size<=bn/\w.heap.size<=bi by have:=I.1.size;omega)));clear aB A aC;obtain⟨sb,aF⟩:=nV w2.heap.size;have av:=jH (YN ai ah aD.1 aD.2 aF);go_wp2_with fail;try go_returns
  rw[<-az.out];exact av
theorem Lf(G r sb:Nat)(buf:List UInt8)(nd fa:Int)(w:jJ)(h:xC w G r sb buf nd fa):
  jV jI 14 #[nA (U (Z sb 0 V))] w λe w'=>e=nG (nk nI (buf.length:Nat))/\w'=w:=by
 obtain⟨bv,la,tt,se,A,C⟩:=h;obtain⟨bo,bc,rfl⟩:=ow.form C;have c1:=A.cell 1;simp only[Ee,jO,jN,jM]at c1;clear A C;go_in;go_wp2_with fail;go_returns;exact⟨rfl,rfl⟩
theorem yV.kp{w w':jJ}{F F':Nat->Prop}{r sb:Nat}{buf:List UInt8}{nd fa:Int}(h:yV w F r sb buf nd fa)(k:qJ F' w w')(hF:∀b,b<w.heap.size->F b->¬F' b):yV w' F r sb buf nd fa:=by
 obtain⟨bv,la,tt,se,h1,h2,A,C⟩:=h;exact⟨bv,la,tt,se,k.blk h1 (hF _ h1.lt A),h2.kp k λb hb=>hF b (ow.blk h2 b hb).2 (C b hb),A,C⟩
theorem YO(F:Nat->Prop)(r sb:Nat)(buf:List UInt8)(nd fa:Int)(w:jJ)(h:yV w F r sb buf nd fa):
  jV jI 26 #[nA (U (Z sb 0 V))] w λe w'=>e=nG (nz ⟨buf.toArray⟩)/\w'=w:=by
 obtain⟨bv,la,tt,se,C,A,_⟩:=h;obtain⟨bo,bc,rfl⟩:=ow.form A;have c1:=C.cell 1;simp only[Ee,jO,jN,jM]at c1;have E:(convert TC MI (ny bo buf.length bc)).run jI w=.ok (nz ⟨buf.toArray⟩) w:=ow.string Ch A;generalize (⟨buf.toArray⟩:ByteArray)=s at*;clear C A;go_in;go_wp2_with fail;go_returns;exact⟨rfl,rfl⟩
end
section
open Go.RowKit
def wW(b:Nat)(mt:Option (Nat×MS)):Option (Nat×MS):=mt.map λp=>(b,p.2)
theorem U3(n:Int)(b:Nat)(mt:Option (Nat×MS)):Bb n (wW b mt)=Bb n mt:=by cases mt<;>rfl
theorem Qw(n:Int)(b:Nat)(mt:Option (Nat×MS)):ry n (wW b mt)=wW b (ry n mt):=by cases mt<;>rfl
theorem NV(s:ByteArray)(most:Int)(b:Nat)(mt:Option (Nat×MS)):qQ s most (wW b mt)=((qQ s most mt).1,wW b (qQ s most mt).2):=by
 unfold qQ;rcases uA s.data.toList with⟨n,k,e⟩
 dsimp only;rw[U3,Qw];split;.rfl
 .split
  .rfl
  .split<;>rfl
theorem U4(most A:Int)(s:ByteArray)(b:Nat)(mt:Option (Nat×MS)):sW most A s (wW b mt)=((sW most A s mt).1,wW b (sW most A s mt).2):=by
 unfold sW;rw[NV];split;.rfl
 .rcases qQ (pq most s).body A mt with⟨R,m⟩
  cases R<;>rfl
theorem U5(c:oF)(s:ByteArray)(b:Nat)(mt:Option (Nat×MS)):qw c s (wW b mt)=((qw c s mt).1,wW b (qw c s mt).2):=by
 unfold qw;split;.rfl
 .split
  .rfl
  .exact U4 _ _ _ _ _
theorem U6(c:oF)(rows:List Row)(s:ByteArray)(b:Nat)(mt:Option (Nat×MS)):rJ c rows s (wW b mt)=((rJ c rows s mt).1,wW b (rJ c rows s mt).2):=by
 unfold rJ;rw[U5];rcases qw c s mt with⟨R,m⟩
 cases R with
 |error er=>rfl
 |ok y=>
  dsimp only;cases IE c rows y.1<;>rfl
theorem NW(c:oF)(rows:List Row)(s:ByteArray)(b:Nat):∀(n p:Nat)(mt:Option (Nat×MS)),(uJ c rows s n p (wW b mt)).told=(uJ c rows s n p mt).told/\(uJ c rows s n p (wW b mt)).at_=(uJ c rows s n p mt).at_/\(uJ c rows s n p (wW b mt)).err=(uJ c rows s n p mt).err
 |0,p,mt=>⟨rfl,rfl,rfl⟩
 |n+1,p,mt=>by
  have h:=U6 c rows (s.extract p s.size) b mt;rcases hs:rJ c rows (s.extract p s.size) mt with⟨R,m⟩
  rw[hs]at h;cases R with
  |error er=>
   rw[z8 c rows s n p _ h,z8 c rows s n p _ hs];exact⟨rfl,rfl,rfl⟩
  |ok y=>
   rw[ym c rows s n p _ h,ym c rows s n p _ hs];obtain⟨h1,h2,A⟩:=NW c rows s b n (p+y.2) m;exact⟨congrArg (List.cons y.1) h1,h2,A⟩
theorem YP(c:oF)(rows:List Row)(a b:Nat)(buf:List UInt8)(nd fa:Int)(ch:ByteArray):sS c rows a buf nd fa ch=sS c rows b buf nd fa ch:=by
 unfold sS;obtain⟨h1,h2,A⟩:=NW c rows ⟨(buf++ch.data.toList).toArray⟩ a ((buf++ch.data.toList).length+1) 0 (U (b,((MS.new 9223372036854775807).take ch.size).1));have C:wW a (U (b,((MS.new 9223372036854775807).take ch.size).1))=U (a,((MS.new 9223372036854775807).take ch.size).1):=rfl;rw[C]at h1 h2 A;dsimp only;rw[h1,h2,A]
abbrev MgT:ko:=49
def SE(n1 n2:ByteArray)(x y:nM IL):Bool:=decide (n1=n2)&&x.same Je y
theorem a1S(a b:ByteArray):(a.toList==b.toList)=decide (a=b):=by
 rw[Lib.toList_data,Lib.toList_data,Bool.eq_iff_iff,beq_iff_eq,decide_eq_true_iff];constructor;.intro h;apply ByteArray.ext;apply Array.ext';exact h
 .rintro rfl;rfl
theorem FD{p:Prop}(h:p:=by
 go_wp2_with fail;go_returns;exact⟨rfl,HB1.out⟩):p:=h
theorem YQ(n1 n2:ByteArray)(x y:nM IL)(A C:Option lH)(c1 c2:Nat)(w:jJ)(Y:pJ w (ny A x.sub.length c1) x.sub)(aa:pJ w (ny C y.sub.length c2) y.sub):
  jV jI 17 #[nD #[nz n1,nz (txt x.lab),nC x.lab.list,ny A x.sub.length c1],nD #[nz n2,nz (txt y.lab),nC y.lab.list,ny C y.sub.length c2]] w λe w'=>e=nG (nC (SE n1 n2 x y))/\jS w.heap.size w w':=by
 obtain⟨g,hg⟩:=nV w.heap.size;have ae:jX (∀W,(w.alloc (nH #[nz n1,nz (txt x.lab),nC x.lab.list,ny A x.sub.length c1] MgT)).alloc (nH #[nz n2,nz (txt y.lab),nC y.lab.list,ny C y.sub.length c2] MgT)=W->nP W g #[nz n1,nz (txt x.lab),nC x.lab.list,ny A x.sub.length c1] MgT/\nP W (g+1) #[nz n2,nz (txt y.lab),nC y.lab.list,ny C y.sub.length c2] MgT/\jS g w W):=jH λW I=>by
  subst I;have a1:=(jT w.heap.size w).alloc (jK _) (nH #[nz n1,nz (txt x.lab),nC x.lab.list,ny A x.sub.length c1] MgT);have af:=nP.new (w.alloc (nH #[nz n1,nz (txt x.lab),nC x.lab.list,ny A x.sub.length c1] MgT)) #[nz n2,nz (txt y.lab),nC y.lab.list,ny C y.sub.length c2] MgT;rw[show(w.alloc (nH #[nz n1,nz (txt x.lab),nC x.lab.list,ny A x.sub.length c1] MgT)).heap.size=g+1 by simp[hg]]at af;exact⟨(hg▸nP.new w _ _:nP _ g _ _).alloc _,af,hg▸a1.alloc nS _⟩
 have ag:=jH (λ(W:jJ) (h:jS g w W)=>Uf x y W _ _ (Shape.nX.below Y (hg.symm▸h)) (Shape.nX.below aa (hg.symm▸h)));have hb:=a1S n1 n2;unfold SE;rw[hg];generalize x.same Je y=ak at*;obtain⟨aj,J⟩:=nV (decide (n1=n2));rw[J]at hb⊢;clear Y aa J;go_in;go_upto_region 1 with fail;generalize I:(w.alloc _).alloc _=w1;obtain⟨N,O,E⟩:=ae.out _ I;obtain⟨c0,c1,c2,c3⟩:=N.a4;obtain⟨au,av,d2,ax⟩:=O.a4;have ah:=jH (ag w1 E);have HB1:=jH E;clear I N O E ae ag;cases aj with
 |false=>
  exact FD
 |true=>
  go_wp2_with fail;refine ah.mono ?_;rintro e w2 ⟨rfl,Q⟩;have ai:=jH (HB1.trans (Q.mono (by have:=HB1.size;omega)));clear Q;go_wp2_with fail;go_returns;exact⟨by rw[Bool.true_and];rfl,ai.out⟩
def MsV(w:jJ)(v:jP)(L:List xV):Prop:=∃oa cap,v=ny oa L.length cap/\(∀(i:Nat)(y:xV),L[i]? =U y->∃b,oa=U (Z b 0 V)/\b<w.heap.size/\∀j,j<4->w.cell? (Z b (i*4+j) V)=(mcl y)[j]?)/\∀y,y∈L->pJ w y.u y.m.val.sub
theorem ql.v{w:jJ}{Q:Nat->Prop}{v:jP}{L:List xV}(h:ql w Q v L):MsV w v L:=by
 obtain⟨oa,cap,rfl⟩:=h.slice;refine⟨oa,cap,rfl,λi y A=> ?_,λy A=>(h.2.2 y A).keep (jK _) (λ_ _ _=>trivial) λ_ _ _=>rfl⟩;obtain⟨b,e,_,hlt,_,_,hc,_⟩:=pQ.at_ h.1 KY A;exact⟨b,e,hlt,hc⟩
theorem MsV.below{w w':jJ}{v:jP}{L:List xV}(h:MsV w v L)(hb:jS w.heap.size w w'):MsV w' v L:=by
 obtain⟨oa,cap,rfl,h1,h2⟩:=h;refine⟨oa,cap,rfl,λi y A=> ?_,λy A=>Shape.nX.below (h2 y A) hb⟩;obtain⟨b,e,hlt,hc⟩:=h1 i y A;exact⟨b,e,kG hlt hb.size,λj C=>(hb.cell (p:=(Z b (i*4+j) V)) hlt).trans (hc j C)⟩
theorem U7(I Y:List xV)(va aC:jP)(w:jJ)(aD:MsV w va I)(hb:MsV w aC Y)(he:I.map (λy:xV=>y.m)=Y.map λy:xV=>y.m)(hl:I.length<=100000):
  jV jI 25 #[va,aC] w λe w'=>e=nG (nC true)/\jS w.heap.size w w':=by
 have aa:Y.length=I.length:=by have:=congrArg List.length he;simpa using this.symm
 have aF:=jH (λ(W:jJ) (h:jS w.heap.size w W)=>aD.below h);have au:=jH (λ(W:jJ) (h:jS w.heap.size w W)=>hb.below h);obtain⟨oa,cap,rfl,_⟩:=aD;obtain⟨ob,aG,rfl,_⟩:=hb;rw[aa]at au⊢;obtain⟨M,av⟩:=nV I.length;have aL:jX (∀(k:Nat)(y:xV),I[k]? =U y->∃z:xV,Y[k]? =U z/\z.m=y.m):=jH λk y O=>by
  have h1:(I.map λy:xV=>y.m)[k]? =U y.m:=by rw[List.getElem?_map,O];rfl
  rw[he,List.getElem?_map]at h1;obtain⟨z,Q,e⟩:=Option.map_eq_some_iff.1 h1;exact⟨z,Q,e⟩
 have aM:=jH av;rw[av]at aF au hl⊢;clear av aa he;go_in;go_wp2_with fail;go_loopw [5] (λiv aN=>∃k:Nat,iv=nk nI k/\k<=M/\jX (jS w.heap.size w aN)) (λiv _=>M -(kT iv).toNat);case atStart=>exact⟨0,rfl,nL,jH (jT _ _)⟩
 case round=>
  obtain⟨k,rfl,hk,J⟩:=hrel;by_cases c:k<M
  .obtain⟨y,O⟩:∃y,I[k]? =U y:=⟨_,jW (by rw[aM.out];exact c)⟩
   obtain⟨z,Q,ae⟩:=aL.out k y O;obtain⟨aH,ax,e1,hc,hs⟩:=aF.out wr J.out;obtain⟨aI,ay,e2,af,ag⟩:=au.out wr J.out;obtain⟨rfl,rfl⟩:oa=aH/\cap=ax:=by injection e1 with a b c;exact⟨a,c⟩
   obtain⟨rfl,rfl⟩:ob=aI/\aG=ay:=by injection e2 with a b c;exact⟨a,c⟩
   clear e1 e2;obtain⟨b,rfl,hlt,C⟩:=hc k y O;obtain⟨N,rfl,E,A⟩:=af k z Q;have aJ:=hs y (kK O);have ah:=ag z (kK Q);obtain⟨⟨nm,x⟩,ov,cv⟩:=y;obtain⟨aP,ai,aj⟩:=z;dsimp only at ae;subst ae;have az:=C 0 nO;have f1:=C 1 nO;have f2:=C 2 nO;have f3:=C 3 nO;have aA:=A 0 nO;have aB:=A 1 nO;have g2:=A 2 nO;have g3:=A 3 nO;simp only[mcl,xV.u,jN,jM,Nat.add_zero]at az f1 f2 f3 aA aB g2 g3;have aQ:∀q:rP wr,q.at_.cell? (Z b (k*4) V)=U (nz nm):=λq=>(q.is.cell (p:=(Z b (k*4) V)) hlt).trans az
   have x1:∀q:rP wr,q.at_.cell? (Z b (k*4+1) V)=U (nz (txt x.lab)):=λq=>(q.is.cell (p:=(Z b (k*4+1) V)) hlt).trans f1
   have x2:∀q:rP wr,q.at_.cell? (Z b (k*4+2) V)=U (nC x.lab.list):=λq=>(q.is.cell (p:=(Z b (k*4+2) V)) hlt).trans f2
   have x3:∀q:rP wr,q.at_.cell? (Z b (k*4+3) V)=U (ny ov x.sub.length cv):=λq=>(q.is.cell (p:=(Z b (k*4+3) V)) hlt).trans f3
   have aR:∀q:rP wr,q.at_.cell? (Z N (k*4) V)=U (nz nm):=λq=>(q.is.cell (p:=(Z N (k*4) V)) E).trans aA
   have aS:∀q:rP wr,q.at_.cell? (Z N (k*4+1) V)=U (nz (txt x.lab)):=λq=>(q.is.cell (p:=(Z N (k*4+1) V)) E).trans aB
   have y2:∀q:rP wr,q.at_.cell? (Z N (k*4+2) V)=U (nC x.lab.list):=λq=>(q.is.cell (p:=(Z N (k*4+2) V)) E).trans g2
   have aT:∀q:rP wr,q.at_.cell? (Z N (k*4+3) V)=U (ny ai x.sub.length aj):=λq=>(q.is.cell (p:=(Z N (k*4+3) V)) E).trans g3
   have ak:SE nm nm x x=true:=by unfold SE;rw[Gh];simp
   have aO:=jH (λq:rP wr=>ak▸YQ nm nm x x ov ai cv aj q.at_ (Shape.nX.below aJ q.is) (Shape.nX.below ah q.is));have aK:jX (∀q:rP wr,jS w.heap.size w q.at_):=jH λq=>J.trans (q.is.mono J.size)
   clear hc hs af ag C A aJ ah az f1 f2 f3 aA aB g2 g3 ak O Q;go_upto_region 6 with fail;refine oz nN nN ?_;repeat(go_big_quiet_step (exact Calls.after (aO _)))
   refine mK ?_;intro q;go_wp2_with fail;exact⟨⟨k+1,by go_num,nL,jH (aK q)⟩,by simp[kT];omega⟩
  .obtain rfl:k=M:=nL
   go_wp2_with fail;go_returns;exact⟨rfl,J.out⟩
end
section
open Go.RowKit Go.Maps
def pV(T:ByteArray)(er:Int)(w:jJ)(e:Ending)(w':jJ):Prop:=e=nG (nE #[nz T,nk nI er])/\jS w.heap.size w w'
theorem YR{p:Prop}(h:p:=by
 subst hW;have a1:=(jT w.heap.size w).alloc (jK _) (nH #[nk nI dep,nk nI oV] Qu);have a2:=a1.alloc nS (nH #[nk nI k,nk nI z,ny ou n cu,nk nI tl] Ef);have a3:=a2.alloc nT (nH #[nz tx,nC li,ny oi ni ci] IT);have k1:=nP.new w #[nk nI dep,nk nI oV] Qu;have k2:=nP.new (w.alloc (nH #[nk nI dep,nk nI oV] Qu)) #[nk nI k,nk nI z,ny ou n cu,nk nI tl] Ef;have k3:=nP.new ((w.alloc (nH #[nk nI dep,nk nI oV] Qu)).alloc (nH #[nk nI k,nk nI z,ny ou n cu,nk nI tl] Ef)) #[nz tx,nC li,ny oi ni ci] IT;rw[show(w.alloc (nH #[nk nI dep,nk nI oV] Qu)).heap.size=g+1 by simp[hg]]at k2;rw[show((w.alloc (nH #[nk nI dep,nk nI oV] Qu)).alloc (nH #[nk nI k,nk nI z,ny ou n cu,nk nI tl] Ef)).heap.size=g+2 by simp[hg]]at k3;rw[hg]at k1;exact⟨(k1.alloc _).alloc _,k2.alloc _,k3,a3,by simp[hg]⟩):p:=h
theorem NY(k z tl:Int)(ou:Option lH)(n cu:Nat)(tx:ByteArray)(li:Bool)(oi:Option lH)(ni ci:Nat)(dep oV:Int)(T:ByteArray)(er:Int)(w:jJ)(Q:∀W,jS w.heap.size w W->jV jI 116 #[nD #[nk nI k,nk nI z,ny ou n cu,nk nI tl],nD #[nz tx,nC li,ny oi ni ci],nk nI dep,nk nI oV] W (pV T er W)):
  jV jI 83 #[nD #[nk nI dep,nk nI oV],nD #[nk nI k,nk nI z,ny ou n cu,nk nI tl],nD #[nz tx,nC li,ny oi ni ci]] w (pV T er w):=by
 obtain⟨g,hg⟩:=nV w.heap.size;have C:jX (∀W,((w.alloc (nH #[nk nI dep,nk nI oV] Qu)).alloc (nH #[nk nI k,nk nI z,ny ou n cu,nk nI tl] Ef)).alloc (nH #[nz tx,nC li,ny oi ni ci] IT)=W->nP W g #[nk nI dep,nk nI oV] Qu/\nP W (g+1) #[nk nI k,nk nI z,ny ou n cu,nk nI tl] Ef/\nP W (g+2) #[nz tx,nC li,ny oi ni ci] IT/\jS w.heap.size w W/\W.heap.size=g+3):=jH λW hW=>by
  exact YR
 have Y:=jH Q;obtain⟨af,O⟩:=nV (pV T er w);have ag:=jH O;rw[O];clear Q O;go_in;go_upto_region 1 with fail;obtain⟨E,I,hk2,A,J⟩:=C.out _ rfl;generalize ((w.alloc _).alloc _).alloc _=w1 at*;obtain⟨c0,c1⟩:=E.a2;obtain⟨t0,ah,ai,t3⟩:=I.a4;obtain⟨aj,ak,au⟩:=hk2.a3;have aa:=jH (jU A J);have N:=jH (Y _ A);clear C E I hk2 A J Y;go_wp2_with fail;refine N.mono ?_;rintro e w2 ⟨rfl,hb⟩;have ae:=jH hb;clear hb N c0 c1 t0 ah ai t3 aj ak au;go_wp2_with fail;try go_returns
 rw[<-ag.out];exact⟨rfl,aa.1.trans (ae.mono (by have:=aa.2;omega))⟩
theorem IU(k z tl:Int)(ou:Option lH)(n cu:Nat)(tx:ByteArray)(li:Bool)(oi:Option lH)(ni ci:Nat)(dep oV:Int)(T:ByteArray)(er:Int)(w:jJ)(Q:∀W,jS w.heap.size w W->jV jI 118 #[nD #[nk nI k,nk nI z,ny ou n cu,nk nI tl],nD #[nz tx,nC li,ny oi ni ci],nk nI oV] W (pV T er W)):
  jV jI 85 #[nD #[nk nI dep,nk nI oV],nD #[nk nI k,nk nI z,ny ou n cu,nk nI tl],nD #[nz tx,nC li,ny oi ni ci]] w (pV T er w):=by
 obtain⟨g,hg⟩:=nV w.heap.size;have C:jX (∀W,((w.alloc (nH #[nk nI dep,nk nI oV] Qu)).alloc (nH #[nk nI k,nk nI z,ny ou n cu,nk nI tl] Ef)).alloc (nH #[nz tx,nC li,ny oi ni ci] IT)=W->nP W g #[nk nI dep,nk nI oV] Qu/\nP W (g+1) #[nk nI k,nk nI z,ny ou n cu,nk nI tl] Ef/\nP W (g+2) #[nz tx,nC li,ny oi ni ci] IT/\jS w.heap.size w W/\W.heap.size=g+3):=jH λW hW=>by
  exact YR
 have Y:=jH Q;obtain⟨af,O⟩:=nV (pV T er w);have ag:=jH O;rw[O];clear Q O;go_in;go_upto_region 1 with fail;obtain⟨E,I,hk2,A,J⟩:=C.out _ rfl;generalize ((w.alloc _).alloc _).alloc _=w1 at*;obtain⟨c0,c1⟩:=E.a2;obtain⟨t0,ah,ai,t3⟩:=I.a4;obtain⟨aj,ak,au⟩:=hk2.a3;have aa:=jH (jU A J);have N:=jH (Y _ A);clear C E I hk2 A J Y;go_wp2_with fail;refine N.mono ?_;rintro e w2 ⟨rfl,hb⟩;have ae:=jH hb;clear hb N c0 c1 t0 ah ai t3 aj ak au;go_wp2_with fail;try go_returns
 rw[<-ag.out];exact⟨rfl,aa.1.trans (ae.mono (by have:=aa.2;omega))⟩
def zf3:Array jP:=#[nk nJ 0,nz ⟨#[]⟩,nz ⟨#[]⟩]
structure EnB(g r bn bi:Nat)(c:oF)(L:List oO)(ms:Array jP)(w0 W:jJ):Prop where
 rg:qi r bn bi c L W
 ms:nP W g ms zq
 rs:nP W (g+1) zf3 rq
 pR:jS g w0 W
 lt:w0.heap.size=g/\r<g/\bn<g/\bi<g
theorem EnB.below{g r bn bi:Nat}{c:oF}{L:List oO}{ms:Array jP}{w0 W A:jJ}(h:EnB g r bn bi c L ms w0 W)(hb:jS W.heap.size W A):EnB g r bn bi c L ms w0 A:=
 ⟨h.rg.below hb,Below.blk hb h.ms h.ms.lt,Below.blk hb h.rs h.rs.lt,h.pR.trans (hb.mono (by have:=h.ms.lt;omega)),h.lt⟩
structure EnL(g r bn bi:Nat)(c:oF)(L:List oO)(ms:Array jP)(w0:jJ)(k:Nat)(x:RC)(da ds:Bool)(W:jJ):Prop where
 b:EnB g r bn bi c L ms w0 W
 sz:W.heap.size=if da=true then k+1 else k
 bk:da=true->nP W k (if ds=true then x else C8).cs Fg
 lt:g+1<k
theorem EnL.made{g r bn bi:Nat}{c:oF}{L:List oO}{ms:Array jP}{w0:jJ}{k:Nat}{x:RC}{W:jJ}(h:EnL g r bn bi c L ms w0 k x false false W):EnL g r bn bi c L ms w0 k x true false (W.alloc (nH C8.cs Fg)):=by
 have A:W.heap.size=k:=by simpa using h.sz
 exact⟨h.b.below ((jT W.heap.size W).alloc (jK _) _),by simp[A],λ_=>A▸nP.new W C8.cs Fg,h.lt⟩
theorem EnL.put{g r bn bi:Nat}{c:oF}{L:List oO}{ms:Array jP}{w0:jJ}{k:Nat}{x:RC}{W:jJ}(h:EnL g r bn bi c L ms w0 k x true false W)(h0:qi r bn bi c L w0):EnL g r bn bi c L ms w0 k x true true (C9 W k x):=by
 have l:=h.b.lt;have A:=h.lt;have hb:=uW (x:=x) h.b.pR (show g<=k by omega);exact⟨⟨h0.below (l.1▸hb),wR h.b.ms nL,wR h.b.rs nL,hb,l⟩,by rw[Jq];exact h.sz,λ_=>yf (h.bk rfl),h.lt⟩
structure SF(g k:Nat)(ms:Array jP)(x:RC)(w0 W:jJ):Prop where
 pR:jS g w0 W
 ms:nP W g ms zq
 rs:nP W (g+1) zf3 rq
 rw_:nP W k x.cs Fg
theorem SF.up{g k:Nat}{ms:Array jP}{x:RC}{w0 W A:jJ}(h:SF g k ms x w0 W)(hb:jS W.heap.size W A):SF g k ms x w0 A:=
 ⟨h.pR.trans (hb.mono (by have:=h.ms.lt;omega)),Below.blk hb h.ms h.ms.lt,Below.blk hb h.rs h.rs.lt,Below.blk hb h.rw_ h.rw_.lt⟩
noncomputable def FE:List lY:=cO (cL (cR (cR (cB Tryz.f36))))
section
variable (g r bn bi:Nat)(c:oF)(L:List oO)(nm tx:ByteArray)(li:Bool)(oi:Option lH)(ni ci:Nat)(w0:jJ)(k:Nat)(b:Bool)(x:RC)
def AR:Nat->jP
 |0=> nA (U (Z r 0 V))
 |1=> nA (U (Z r 0 V))
 |2=> nA (U (Z r 6 V))
 |3=> .map (U bn)
 |4=> nA (U (Z g 0 V))
 |5=> nz nm
 |6=> nE #[nD #[nk nJ x.i,nz x.nm,nz x.tx,nk nI x.k,nk nI x.z,ny x.ou x.nu x.cu,nk nI x.tl],nC b]
 |7=> nE #[nD #[nk nJ x.i,nz x.nm,nz x.tx,nk nI x.k,nk nI x.z,ny x.ou x.nu x.cu,nk nI x.tl],nC b]
 |8=> nD #[nk nJ x.i,nz x.nm,nz x.tx,nk nI x.k,nk nI x.z,ny x.ou x.nu x.cu,nk nI x.tl]
 |9=> nC b
 |10=> nA (U (Z k 0 V))
 |12=> nC b
 |_=>kI
structure a6G(D:Nat->Bool)(vs:Nat->jP)(w:jJ):Prop where
 oH:EnL g r bn bi c L #[nz nm,nz tx,nC li,ny oi ni ci] w0 k x (D 10) (D 11) w
 val:∀j,(true)=true->D j=true->vs j=AR g r bn nm k b x j
variable {g r bn bi c L nm tx li oi ni ci w0 k b x}
theorem a1V{id:Nat}{Q:Exit->Act->jJ->Prop}{O:jJ}(ht0:a0.tmps.getD 0 kI=nA (U (Z r 0 V)))(ht3:a0.tmps.getD 3 kI=nA (U (Z g 0 V)))(hl:∀W,qi r bn bi c L W->(lW 130 (.map (U bn)) (nz nm) true).run jI W=.ok (nE #[nD #[nk nJ x.i,nz x.nm,nz x.tx,nk nI x.k,nk nI x.z,ny x.ou x.nu x.cu,nk nI x.tl],nC b]) W)(h0:qi r bn bi c L w0)(hsz:a0.tmps.size=59)(hI0:∀vs:Nat->jP,(λw=>EnL g r bn bi c L #[nz nm,nz tx,nC li,ny oi ni ci] w0 k x false false w) O.drew)(Y:∀(vs:Nat->jP) (w:jJ),EnL g r bn bi c L #[nz nm,nz tx,nC li,ny oi ni ci] w0 k x true true w->Q .normal {a0 with tmps:=((((((((((((a0.tmps.setIfInBounds 14 (nA (U (Z r 0 V)))).setIfInBounds 15 (nA (U (Z r 0 V)))).setIfInBounds 16 (nA (U (Z r 6 V)))).setIfInBounds 17 (.map (U bn))).setIfInBounds 18 (nA (U (Z g 0 V)))).setIfInBounds 19 (nz nm)).setIfInBounds 20 (nE #[nD #[nk nJ x.i,nz x.nm,nz x.tx,nk nI x.k,nk nI x.z,ny x.ou x.nu x.cu,nk nI x.tl],nC b])).setIfInBounds 13 (nE #[nD #[nk nJ x.i,nz x.nm,nz x.tx,nk nI x.k,nk nI x.z,ny x.ou x.nu x.cu,nk nI x.tl],nC b])).setIfInBounds 21 (nD #[nk nJ x.i,nz x.nm,nz x.tx,nk nI x.k,nk nI x.z,ny x.ou x.nu x.cu,nk nI x.tl])).setIfInBounds 22 (nC b)).setIfInBounds 6 (nA (U (Z k 0 V)))).setIfInBounds 7 (nC b))} w):
  (ll id FE.toArray true).wp jI Q a0 O:=by
 refine og 13 59 (a6G g r bn bi c L nm tx li oi ni ci w0 k b x) nN hsz nN (.inl rfl) nN ?_ ?_ ?_;.exact qB
 .refine rM λA aj=> ?_
  clear hI0 Y hsz;replace ht0:=jH ht0;replace ht3:=jH ht3;replace hl:=jH hl;replace h0:=jH h0;dsimp+instances only[FE,cO,cL,cR,cB,Tryz.f36];simp only[ky,kL,qW];refine⟨?_,?_,?_,?_,?_,?_,?_,?_,?_,?_,?_,?_,?_,trivial⟩<;>(intro D vs a w K hI hd E hw2 C J;subst aj;dsimp+instances only[FE,cO,cL,cR,cB,Tryz.f36]);have az:=(C 0 nO).trans ht0.out;rotate_left;have au:=fe C hI.val E 14 0;rotate_left;have av:=fe C hI.val E 15 1;rotate_left;have aa:=fe C hI.val E 16 2;simp only[AR]at aa;have c0:=hI.oH.b.rg.rg.c6;rotate_left;have e3:=(C 3 nO).trans ht3.out;rotate_left;have ae:=fe C hI.val E 18 4;simp only[AR]at ae;have c0:=hI.oH.b.ms.c0;rotate_left;have hl:=hl.out;have af:=fe C hI.val E 17 3;have ag:=fe C hI.val E 19 5;simp only[AR]at af ag;have q:=hl w hI.oH.b.rg;rotate_left;have ax:=fe C hI.val E 20 6;rotate_left;have ah:=fe C hI.val E 13 7;rotate_left;have ah:=fe C hI.val E 13 7;rotate_left
  .have I:=hI.oH
   have d11:=hw2 11 nO nN;rw[hd,d11]at I;have aA:w.heap.size=k:=by simpa using I.sz
   go_simp;refine J (nA (U (Z k 0 V))) _ _ rfl ⟨?_,uK hI.val⟩;rw[oo,nR D (show 11≠10 by decide),d11];exact I.made
  .have h0:=h0.out
   have ak:=fe C hI.val E 6 10;have ai:=fe C hI.val E 21 8;simp only[AR]at ak ai;have d10:=E 10 nO nN;have I:=hI.oH;rw[d10,hd]at I;have hB:=I.bk rfl;obtain⟨⟨z0,aB,aC,z3,z4,z5,aD⟩,aF,f1,f2,f3,f4,aG,aH⟩:=qh hB;go_simp;rw[Av];refine J kI _ _ rfl ⟨?_,uK hI.val⟩;rw[nR D (show 10≠11 by decide),d10,oo];exact I.put h0
  have ay:=fe C hI.val E 22 9;rotate_left
  all_goals
   try simp only[AR]at*
   go_simp;exact J _ _ _ rfl ⟨hI.oH,uK hI.val⟩
 .intro D vs w N hI
  have E:=hI.oH;rw[N 10 nO]at E;rw[N 11 nO]at E;have q:=Y vs w E;rw[oW hI.val N];dsimp+instances only[FE,cO,cL,cR,cB,Tryz.f36];exact qH
end
noncomputable def FH:List lY:=cO (cL (cR (cR (cR (cR (cB Tryz.f36))))))
section
variable (g r k:Nat)(c:oF)(x:RC)(nm tx:ByteArray)(li:Bool)(oi:Option lH)(ni ci:Nat)(w0:jJ)(fn:FuncId)(T:ByteArray)(er:Int)
def xD:Nat->jP
 |0=> nA (U (Z r 0 V))
 |1=> nA (U (Z r 0 V))
 |2=> nA (U (Z r 8 V))
 |3=> nA (U (Z r 8 V))
 |4=> .func (.func fn) #[nD #[nk nI c.dep,nk nI c.oV]] #[]
 |5=> nA (U (Z k 3 V))
 |6=> nD #[nk nI x.k,nk nI x.z,ny x.ou x.nu x.cu,nk nI x.tl]
 |7=> nA (U (Z g 1 V))
 |8=> nD #[nz tx,nC li,ny oi ni ci]
 |9=> nE #[nz T,nk nI er]
 |10=> nE #[nz T,nk nI er]
 |11=> nz T
 |12=> nk nI er
 |13=> nz T
 |14=> nk nI er
 |_=>kI
structure YS(D:Nat->Bool)(vs:Nat->jP)(w:jJ):Prop where
 oH:SF g k #[nz nm,nz tx,nC li,ny oi ni ci] x w0 w
 val:∀j,(true)=true->D j=true->vs j=xD g r k c x tx li oi ni ci fn T er j
variable {g r k c x nm tx li oi ni ci w0 fn T er}
theorem YT{D:Nat->Bool}{vs:Nat->jP}{w w':jJ}(h:YS g r k c x nm tx li oi ni ci w0 fn T er D vs w){i:Nat}(hi:True)(A:SF g k #[nz nm,nz tx,nC li,ny oi ni ci] x w0 w->SF g k #[nz nm,nz tx,nC li,ny oi ni ci] x w0 w'):YS g r k c x nm tx li oi ni ci w0 fn T er (zm D i) (zn vs i (xD g r k c x tx li oi ni ci fn T er i)) w':=by
 refine⟨?_,uK h.val⟩;exact A h.oH
theorem a1W{id:Nat}{Q:Exit->Act->jJ->Prop}{I:jJ}(ht0:a0.tmps.getD 0 kI=nA (U (Z r 0 V)))(Im:∀W,SF g k #[nz nm,nz tx,nC li,ny oi ni ci] x w0 W->W.cell? (Z r 8 V)=U (.func (.func fn) #[nD #[nk nI c.dep,nk nI c.oV]] #[]))(Ay:a0.tmps.getD 6 kI=nA (U (Z k 0 V)))(ht3:a0.tmps.getD 3 kI=nA (U (Z g 0 V)))(hput:∀W,SF g k #[nz nm,nz tx,nC li,ny oi ni ci] x w0 W->jV jI fn #[nD #[nk nI c.dep,nk nI c.oV],nD #[nk nI x.k,nk nI x.z,ny x.ou x.nu x.cu,nk nI x.tl],nD #[nz tx,nC li,ny oi ni ci]] W (pV T er W))(hcf:∀a b d W,l7 jI (callFunc fn #[a,b,d]) W=.ok (.enter fn #[a,b,d]) W)(hsz:a0.tmps.size=59)(hI0:∀vs:Nat->jP,(λw=>SF g k #[nz nm,nz tx,nC li,ny oi ni ci] x w0 w) I.drew)(J:∀(vs:Nat->jP) (w:jJ),SF g k #[nz nm,nz tx,nC li,ny oi ni ci] x w0 w->Q .normal {a0 with tmps:=(((((((((((((((a0.tmps.setIfInBounds 27 (nA (U (Z r 0 V)))).setIfInBounds 28 (nA (U (Z r 0 V)))).setIfInBounds 29 (nA (U (Z r 8 V)))).setIfInBounds 30 (nA (U (Z r 8 V)))).setIfInBounds 31 (.func (.func fn) #[nD #[nk nI c.dep,nk nI c.oV]] #[])).setIfInBounds 32 (nA (U (Z k 3 V)))).setIfInBounds 33 (nD #[nk nI x.k,nk nI x.z,ny x.ou x.nu x.cu,nk nI x.tl])).setIfInBounds 34 (nA (U (Z g 1 V)))).setIfInBounds 35 (nD #[nz tx,nC li,ny oi ni ci])).setIfInBounds 36 (nE #[nz T,nk nI er])).setIfInBounds 26 (nE #[nz T,nk nI er])).setIfInBounds 37 (nz T)).setIfInBounds 38 (nk nI er)).setIfInBounds 8 (nz T)).setIfInBounds 9 (nk nI er))} w):
  (ll id FH.toArray true).wp jI Q a0 I:=by
 refine og 15 59 (YS g r k c x nm tx li oi ni ci w0 fn T er) nN hsz nN (.inl rfl) nN ?_ ?_ ?_;.exact qB
 .refine rM λA ai=> ?_
  clear hI0 J hsz;replace ht0:=jH ht0;replace Im:=jH Im;replace Ay:=jH Ay;replace ht3:=jH ht3;replace hput:=jH hput;replace hcf:=jH hcf;dsimp+instances only[FH,cO,cL,cR,cB,Tryz.f36];simp only[ky,kL,qW];refine⟨?_,?_,?_,?_,?_,?_,?_,?_,?_,?_,?_,?_,?_,?_,?_,trivial⟩<;>(intro D vs a w K hI hd E hw2 C N;subst ai;dsimp+instances only[FH,cO,cL,cR,cB,Tryz.f36]);have aB:=(C 0 nO).trans ht0.out;rotate_left;have au:=fe C hI.val E 27 0;rotate_left;have av:=fe C hI.val E 28 1;rotate_left;have ax:=fe C hI.val E 29 2;rotate_left;have Im:=Im.out;have O:=fe C hI.val E 30 3;simp only[xD]at O;have c0:=Im w hI.oH;rotate_left;have aC:=(C 6 nO).trans Ay.out;rotate_left;have Y:=fe C hI.val E 32 5;simp only[xD]at Y;obtain⟨⟨c0,c1,c2,c3,c4,c5,c6⟩,_⟩:=qh hI.oH.rw_;rotate_left;have e3:=(C 3 nO).trans ht3.out;rotate_left;have aa:=fe C hI.val E 34 7;simp only[xD]at aa;have hB:=hI.oH.ms;have c1:=hB.c1;have c2:=hB.c2;have c3:=hB.c3;clear hB;rotate_left
  .have hput:=hput.out
   have hcf:=hcf.out;have ae:=fe C hI.val E 31 4;have af:=fe C hI.val E 33 6;have ag:=fe C hI.val E 35 8;simp only[xD]at ae af ag;have aj:=hput w hI.oH;clear hput;rw[if_pos (by rfl)];go_simp;refine aj.mono ?_;rintro e aD ⟨rfl,hb⟩;exact N (xD g r k c x tx li oi ni ci fn T er 9) _ _ rfl (YT hI (i:=9) nO λh=>h.up hb)
  have ay:=fe C hI.val E 36 9;rotate_left;have ah:=fe C hI.val E 26 10;rotate_left;have ah:=fe C hI.val E 26 10;rotate_left;have az:=fe C hI.val E 37 11;rotate_left;have aA:=fe C hI.val E 38 12;rotate_left
  all_goals
   try simp only[xD]at*
   go_simp;exact N _ _ _ rfl ⟨hI.oH,uK hI.val⟩
 .intro D vs w ak hI
  have E:=hI.oH;have q:=J vs w E;rw[oW hI.val ak];dsimp+instances only[FH,cO,cL,cR,cB,Tryz.f36];exact qH
end
def Ac(c:oF)(o:Option Row)(T:ByteArray)(er:Nat):vP×Nat:=match o with
 |none=>(⟨0,⟨#[]⟩,⟨#[]⟩⟩,11)
 |some x=>if er≠0 then(⟨0,⟨#[]⟩,⟨#[]⟩⟩,er)else if c.fmt=1 then(⟨0,x.name,T⟩,0)else(⟨x.id,⟨#[]⟩,T⟩,0)
def Br(c:oF):FuncId:=if c.fmt=1 then 85 else 83
theorem YU(c:oF):∀a b d W,l7 jI (callFunc (Br c) #[a,b,d]) W=.ok (.enter (Br c) #[a,b,d]) W:=by
 unfold Br;split<;>exact λ_ _ _ _=>rfl
theorem YV(c:oF):GI c=.func (.func (Br c)) #[nD #[nk nI c.dep,nk nI c.oV]] #[]:=by
 unfold GI Br;split<;>rfl
theorem Qx(r bn bi:Nat)(c:oF)(L:List oO)(nm tx:ByteArray)(li:Bool)(oi:Option lH)(ni ci:Nat)(T:ByteArray)(er:Nat)(w:jJ)(h:qi r bn bi c L w)(hn:nm.size<=j3)(hput:∀x,(L.find? λx=>decide (x.r.name=nm))=U x->∀W,jS w.heap.size w W->jV jI (Br c) #[nD #[nk nI c.dep,nk nI c.oV],nD #[nk nI x.r.ty.lab.kind,nk nI x.r.ty.lab.size,ny x.ou x.r.ty.sub.length x.cu,nk nI x.r.ty.lab.tail],nD #[nz tx,nC li,ny oi ni ci]] W (pV T er W)):
  jV jI 36 #[nA (U (Z r 0 V)),nD #[nz nm,nz tx,nC li,ny oi ni ci]] w λe w'=>e=nG (nE #[nD #[nk nJ (Ac c ((L.find? λx=>decide (x.r.name=nm)).map λx=>x.r) T er).1.id,nz (Ac c ((L.find? λx=>decide (x.r.name=nm)).map λx=>x.r) T er).1.name,nz (Ac c ((L.find? λx=>decide (x.r.name=nm)).map λx=>x.r) T er).1.body],nk nI (Ac c ((L.find? λx=>decide (x.r.name=nm)).map λx=>x.r) T er).2])/\jS w.heap.size w w':=by
 obtain⟨g,hg⟩:=nV w.heap.size;have aQ:=h.lt3;have az:jX (∀W,(w.alloc (nH #[nz nm,nz tx,nC li,ny oi ni ci] zq)).alloc (nH #[nk nJ 0,nz ⟨#[]⟩,nz ⟨#[]⟩] rq)=W->EnB g r bn bi c L #[nz nm,nz tx,nC li,ny oi ni ci] w W/\W.heap.size=g+2):=jH λW Q=>by
  subst Q;have a1:=(jT w.heap.size w).alloc (jK _) (nH #[nz nm,nz tx,nC li,ny oi ni ci] zq);have a2:=a1.alloc nS (nH #[nk nJ 0,nz ⟨#[]⟩,nz ⟨#[]⟩] rq);have aG:=nP.new (w.alloc (nH #[nz nm,nz tx,nC li,ny oi ni ci] zq)) #[nk nJ 0,nz ⟨#[]⟩,nz ⟨#[]⟩] rq;rw[show(w.alloc (nH #[nz nm,nz tx,nC li,ny oi ni ci] zq)).heap.size=g+1 by simp[hg]]at aG;exact⟨⟨h.below a2,(hg▸nP.new w _ _:nP _ g _ _).alloc _,aG,hg▸a2,hg,nL⟩,by simp[hg]⟩
 have ak:jX (∀W,qi r bn bi c L W->_):=jH λW Q=>Q.look nm hn
 have aB:=jH h;obtain⟨x1,ag,Y⟩:=yg L λx=>decide (x.r.name=nm)
 rw[ag]at ak;unfold RC.cs at ak;obtain⟨o,ho⟩:=nV ((L.find? λx=>decide (x.r.name=nm)));rw[ho]at ak hput Y⊢;have aC:=jH hput;have aR:=jH Y;have aH:=jH (YU c);have aI:=jH (YV c);obtain⟨E,aD⟩:=nV (Ac c (o.map λx=>x.r) T er);have av:=jH aD;rw[aD];obtain⟨⟨Il,ah,ai⟩,aj⟩:=E;rw[hg];dsimp only;clear h hn hput ho ag Y aD aQ;go_in;go_upto_region 3 with fail;obtain⟨hI,aJ⟩:=az.out _ rfl;generalize (w.alloc _).alloc _=w1 at*;have au:=jH (jU hI aJ);clear az hI aJ;refine a1V (g:=g) (r:=r) (bn:=bn) (bi:=bi) (c:=c) (L:=L) (nm:=nm) (tx:=tx) (li:=li) (oi:=oi) (ni:=ni) (ci:=ci) (w0:=w) (k:=g+2) (b:=o.isSome) (x:=x1) (ht0:=by rfl) (ht3:=by rfl) (hl:=ak.out) (h0:=aB.out) (hsz:=by rfl) (hI0:=λ_=>⟨au.1.below (oC w1),by simpa using au.2,(λh=>by cases h),nL⟩) ?_;intro vs aa hF;have I:=jH (jU hF.b (jU (hF.bk rfl:nP aa (g+2) x1.cs Fg) (show aa.heap.size=g+3 by simpa using hF.sz)));clear hF au ak;simp only[jL,jQ,jR];obtain⟨aK,f1,f2⟩:=I.1.rs.f3;have z0:=I.1.rs.cell 0;have ax:=I.1.rs.cell 1;have ay:=I.1.rs.cell 2;simp only[zf3,jO,jN,jM]at z0 ax ay;cases o with
 |none=>
  have J:jX (Il=0/\ah=⟨#[]⟩/\ai=⟨#[]⟩/\aj=11):=jH (by have:=av.out;simp only[Ac,Option.map]at this;injection this with a b;injection a with a1 a2 a3;exact⟨a1.symm,a2.symm,a3.symm,b.symm⟩);go_wp2_with fail;have N:nP (((aa.setCell (Z (g+1) 0 V) (nk nJ 0)).setCell (Z (g+1) 1 V) (nz ⟨#[]⟩)).setCell (Z (g+1) 2 V) (nz ⟨#[]⟩)) (g+1) #[nk nJ 0,nz ⟨#[]⟩,nz ⟨#[]⟩] rq:=((I.1.rs.set 0 _).set 1 _).set 2 _;obtain⟨ae,af,d2⟩:=N.a3;have A:jS g w (((aa.setCell (Z (g+1) 0 V) (nk nJ 0)).setCell (Z (g+1) 1 V) (nz ⟨#[]⟩)).setCell (Z (g+1) 2 V) (nz ⟨#[]⟩)):=((I.1.pR.setCell (p:=(Z (g+1) 0 V)) (kV g) _).setCell (p:=(Z (g+1) 1 V)) (kV g) _).setCell (p:=(Z (g+1) 2 V)) (kV g) _;generalize ((aa.setCell (Z (g+1) 0 V) _).setCell (Z (g+1) 1 V) _).setCell (Z (g+1) 2 V) _=aF at*;refine jZ (v:=nE #[nD #[nk nJ 0,nz ⟨#[]⟩,nz ⟨#[]⟩],nk nI 11]) (by simp[kQ,Tryz.results36,go_sem,ae,af,d2]) rfl ⟨?_,A⟩;obtain⟨rfl,rfl,rfl,rfl⟩:=J.out;rfl
 |some x=>
  have ag:x1=x.rc:=aR.out;subst ag;have Im:∀W,SF g (g+2) #[nz nm,nz tx,nC li,ny oi ni ci] x.rc w W->W.cell? (Z r 8 V)=U (.func (.func (Br c)) #[nD #[nk nI c.dep,nk nI c.oV]] #[]):=λW Q=>by
   have hB:=(aB.below (hg.symm▸Q.pR)).rg.cell 8;rw[<-aI.out];exact hB
  have aL:=jH Im;clear Im;go_upto_region 6 with fail;have aM:SF g (g+2) #[nz nm,nz tx,nC li,ny oi ni ci] x.rc w aa.drew:=SF.up ⟨I.1.pR,I.1.ms,I.1.rs,I.2.1⟩ (oC aa);have aA:=jH (λ(W:jJ) (Q:SF g (g+2) #[nz nm,nz tx,nC li,ny oi ni ci] x.rc w W)=>aC.out x rfl W (hg.symm▸Q.pR));refine a1W (g:=g) (r:=r) (k:=g+2) (c:=c) (x:=x.rc) (nm:=nm) (tx:=tx) (li:=li) (oi:=oi) (ni:=ni) (ci:=ci) (w0:=w) (fn:=Br c) (T:=T) (er:=er) (ht0:=by rfl) (Ay:=by rfl) (ht3:=by rfl) (Im:=aL.out) (hput:=aA.out) (hcf:=aH.out) (hsz:=by rfl) (hI0:=λ_=>aM) ?_;intro aY O aN;have C:=jH aN;clear aN aM I aA aK f1 f2 z0 ax ay;simp only[jL,jQ,jR];obtain⟨aK,f1,f2⟩:=C.rs.f3;have z0:=C.rs.cell 0;have ax:=C.rs.cell 1;have ay:=C.rs.cell 2;have c0:=(aB.below (hg.symm▸C.pR)).rg.cell 0;obtain⟨⟨aO,aP,y2,aS,aT,aU,aV⟩,_⟩:=qh C.rw_;simp only[zf3,jO,jN,jM]at z0 ax ay c0;unfold oO.rc at aO aP y2;dsimp only at aO aP y2;clear aS aT aU aV;by_cases he:er=0
  .have aW:((er:Int) !=0)=false:=by simp[he]
   by_cases h1:c.fmt=1
   .have aX:(c.fmt==1)=true:=by simp[h1]
    have J:jX (Il=0/\ah=x.r.name/\ai=T/\aj=0):=jH (by have:=av.out;simp only[Ac,Option.map]at this;rw[if_neg (by simp[he]),if_pos h1]at this;injection this with a b;injection a with a1 a2 a3;exact⟨a1.symm,a2.symm,a3.symm,b.symm⟩);clear h1;go_wp2_with fail;have N:nP (((O.setCell (Z (g+1) 0 V) (nk nJ 0)).setCell (Z (g+1) 1 V) (nz x.r.name)).setCell (Z (g+1) 2 V) (nz T)) (g+1) #[nk nJ 0,nz x.r.name,nz T] rq:=((C.rs.set 0 _).set 1 _).set 2 _;obtain⟨ae,af,d2⟩:=N.a3;have A:jS g w (((O.setCell (Z (g+1) 0 V) (nk nJ 0)).setCell (Z (g+1) 1 V) (nz x.r.name)).setCell (Z (g+1) 2 V) (nz T)):=((C.pR.setCell (p:=(Z (g+1) 0 V)) (kV g) _).setCell (p:=(Z (g+1) 1 V)) (kV g) _).setCell (p:=(Z (g+1) 2 V)) (kV g) _;generalize ((O.setCell (Z (g+1) 0 V) _).setCell (Z (g+1) 1 V) _).setCell (Z (g+1) 2 V) _=aF at*;refine jZ (v:=nE #[nD #[nk nJ 0,nz x.r.name,nz T],nk nI 0]) (by simp[kQ,Tryz.results36,go_sem,ae,af,d2]) rfl ⟨?_,A⟩;obtain⟨rfl,rfl,rfl,rfl⟩:=J.out;rfl
   .have aX:(c.fmt==1)=false:=by simp[h1]
    have J:jX (Il=x.r.id/\ah=⟨#[]⟩/\ai=T/\aj=0):=jH (by have:=av.out;simp only[Ac,Option.map]at this;rw[if_neg (by simp[he]),if_neg h1]at this;injection this with a b;injection a with a1 a2 a3;exact⟨a1.symm,a2.symm,a3.symm,b.symm⟩);clear h1;go_wp2_with fail;have N:nP (((O.setCell (Z (g+1) 0 V) (nk nJ x.r.id)).setCell (Z (g+1) 1 V) (nz ⟨#[]⟩)).setCell (Z (g+1) 2 V) (nz T)) (g+1) #[nk nJ x.r.id,nz ⟨#[]⟩,nz T] rq:=((C.rs.set 0 _).set 1 _).set 2 _;obtain⟨ae,af,d2⟩:=N.a3;have A:jS g w (((O.setCell (Z (g+1) 0 V) (nk nJ x.r.id)).setCell (Z (g+1) 1 V) (nz ⟨#[]⟩)).setCell (Z (g+1) 2 V) (nz T)):=((C.pR.setCell (p:=(Z (g+1) 0 V)) (kV g) _).setCell (p:=(Z (g+1) 1 V)) (kV g) _).setCell (p:=(Z (g+1) 2 V)) (kV g) _;generalize ((O.setCell (Z (g+1) 0 V) _).setCell (Z (g+1) 1 V) _).setCell (Z (g+1) 2 V) _=aF at*;refine jZ (v:=nE #[nD #[nk nJ x.r.id,nz ⟨#[]⟩,nz T],nk nI 0]) (by simp[kQ,Tryz.results36,go_sem,ae,af,d2]) rfl ⟨?_,A⟩;obtain⟨rfl,rfl,rfl,rfl⟩:=J.out;rfl
  .have aW:((er:Int) !=0)=true:=nT
   have J:jX (Il=0/\ah=⟨#[]⟩/\ai=⟨#[]⟩/\aj=er):=jH (by have:=av.out;simp only[Ac,Option.map]at this;rw[if_pos he]at this;injection this with a b;injection a with a1 a2 a3;exact⟨a1.symm,a2.symm,a3.symm,b.symm⟩);go_wp2_with fail;have N:nP (((O.setCell (Z (g+1) 0 V) (nk nJ 0)).setCell (Z (g+1) 1 V) (nz ⟨#[]⟩)).setCell (Z (g+1) 2 V) (nz ⟨#[]⟩)) (g+1) #[nk nJ 0,nz ⟨#[]⟩,nz ⟨#[]⟩] rq:=((C.rs.set 0 _).set 1 _).set 2 _;obtain⟨ae,af,d2⟩:=N.a3;have A:jS g w (((O.setCell (Z (g+1) 0 V) (nk nJ 0)).setCell (Z (g+1) 1 V) (nz ⟨#[]⟩)).setCell (Z (g+1) 2 V) (nz ⟨#[]⟩)):=((C.pR.setCell (p:=(Z (g+1) 0 V)) (kV g) _).setCell (p:=(Z (g+1) 1 V)) (kV g) _).setCell (p:=(Z (g+1) 2 V)) (kV g) _;generalize ((O.setCell (Z (g+1) 0 V) _).setCell (Z (g+1) 1 V) _).setCell (Z (g+1) 2 V) _=aF at*;refine jZ (v:=nE #[nD #[nk nJ 0,nz ⟨#[]⟩,nz ⟨#[]⟩],nk nI er]) (by simp[kQ,Tryz.results36,go_sem,ae,af,d2]) rfl ⟨?_,A⟩;obtain⟨rfl,rfl,rfl,rfl⟩:=J.out;rfl
end
end Go.Proofs.YtamfcjmhnndbdaaGreatDoor


