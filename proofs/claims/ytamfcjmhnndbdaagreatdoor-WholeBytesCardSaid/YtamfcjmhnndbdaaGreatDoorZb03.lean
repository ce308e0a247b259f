/- Part 3 of the proof. -/
import Derived.Test.YtamfcjmhnndbdaaGreatDoorZb02
import Derived.Deep.Fields
open Go.Value renaming agg→mI,bool→mH,int→V,pointer→mG,slice→G,string→H,tuple→mJ
open Go.Obj renaming cells→mM
open Go.IntKind renaming i64→X,u32→mQ,u64→mP
open Go.Ending renaming returned→mK,returned→jS
open Go.Lib renaming hid→Y
open Go.Proofs.Tryz renaming prog→iN
open Go renaming World→K,Value→iQ,Calls→iW,maxLen→jd,TypeId→jl,results→jv,Addr→j4,Ending→kV
open Go.RowKit renaming Below→iR,Hid→R,intOf→jF
open And renaming intro→iU
open List renaming replicate→jC,length→lQ
open Go.World renaming setCell→jr,cell?→lV
open UInt8 renaming ofNat→jH
open Go.Instr renaming index→jX
open Go.Sem renaming run→lJ
open Go.Lit renaming int→lN
open Option renaming none→U,some→O
open Bool renaming true→u,false→M
open Go.Addr renaming mk→Z
open Decidable renaming decide→As
namespace Go.Proofs.YtamfcjmhnndbdaaGreatDoor
set_option linter.unusedVariables false
set_option linter.defProp false
set_option linter.unusedSimpArgs false
set_option maxRecDepth 100000
set_option maxHeartbeats 8000000
variable{A:List AC}{B b bc bd be bo bv c cap g k m most n:Nat}{Q Q':Nat->Prop}{W w w':K}{oa:Option j4}{q:Nat×List AC}{r:Option Nat}{α:Type}
variable {most:Int}{e:kV}{p:Prop}{v:iQ}{l:List AC}{fe:FuncId}
section
open Go.RowKit
def Af:Array iQ:=#[.nilFunc,.nilFunc,.nilFunc,.nilFunc,.func (.func 97) #[] #[],.func (.func 98) #[] #[],.func (.func 100) #[] #[],.func (.func 102) #[] #[],.func (.func 96) #[] #[],.func (.func 103) #[] #[],.func (.func 105) #[] #[],.func (.func 107) #[] #[],.func (.func 96) #[] #[],.func (.func 108) #[] #[],.func (.func 110) #[] #[],.func (.func 107) #[] #[]]
def Di(w:K):iW iN 68 #[] w λe w'=>e=mK (mI Af)/\iR w.heap.size w w':=by
 have A:=Y (mY.new w Af 142);have J:=Y ((iT w.heap.size w).alloc (iP _) (mM Af 142));unfold Af at*;go_in;go_wp2_with fail;have⟨N,aa,ae,af,d4,d5,d6,d7,d8,d9⟩:=A.a10;have d10:=A.cell 10;have d11:=A.cell 11;have C:=A.cell 12;have d13:=A.cell 13;have d14:=A.cell 14;have E:=A.cell 15;simp only[ji,jb,jc]at d10 d11 C d13 d14 E;refine iY (v:=mI #[.nilFunc,.nilFunc,.nilFunc,.nilFunc,.func (.func 97) #[] #[],.func (.func 98) #[] #[],.func (.func 100) #[] #[],.func (.func 102) #[] #[],.func (.func 96) #[] #[],.func (.func 103) #[] #[],.func (.func 105) #[] #[],.func (.func 107) #[] #[],.func (.func 96) #[] #[],.func (.func 108) #[] #[],.func (.func 110) #[] #[],.func (.func 107) #[] #[]]) (by simp[jv,Tryz.results68,go_sem,N,aa,ae,af,d4,d5,d6,d7,d8,d9,d10,d11,C,d13,d14,E]) rfl ⟨rfl,J.out⟩
def wo(f:PF):Except Nat (tJ×Nat):=if f.e≠0 then .error f.e else .ok (⟨f.id,⟨#[]⟩,f.body⟩,f.n)
def Ir{s:An}(h:(nT most s).e≠0):nT most s=PF.bad (nT most s).e:=by
 unfold nT at*;split
 .rename_i h0
  rw[Ax h0]at h;split;.rfl
  .rename_i A
   rw[At A]at h;dsimp only at*;split
   .rename_i C
    rw[Ax C]at h;exact absurd rfl h
   .rfl
 .rfl
structure FmI(g:Nat)(w:K)(mt JX:Option (Nat×MS))(W:K):Prop where
 res:mY W (g+1) #[V mP 0,H ⟨#[]⟩,H ⟨#[]⟩] pR
 mm:o9 W JX
 gr:w.grownBy W (nY mt)
def Cj{mt JX:Option (Nat×MS)}{a b c:iQ}(h:FmI g w mt JX W)(hlt:∀x,nY JX=O x->x<g)(hg:w.heap.size=g):w.grownBy (q8 W (g+1) a b c) (nY mt)/\o9 (q8 W (g+1) a b c) JX:=
 have q:∀i,∀x,nY JX=O x->x≠((Z (g+1) i U):j4).block:=λi x A e=>by have:=hlt x A;simp at e;omega
 have p:∀i,w.heap.size<=((Z (g+1) i U):j4).block:=λi=>by rw[hg];exact jO _
 ⟨sH (p:=(Z (g+1) 2 U)) (sH (p:=(Z (g+1) 1 U)) (sH (p:=(Z (g+1) 0 U)) h.gr (p 0) _) (p 1) _) (p 2) _,yu (yu (yu h.mm (q 0) _) (q 1) _) (q 2) _⟩
def BH{aE:Except Nat (tJ×Nat)}{mt:Option (Nat×MS)}(A:o9 w mt)(h:uZ aE w e w'):Ad (aE,mt) mt w e w':=
 ⟨oP h.1,A.grown h.1,h.2⟩
def FP(most un:Int)(s:An)(mt:Option (Nat×MS)):nY (qA most un s mt).2=nY mt:=by
 have:=Dh (nT most s).body un mt;unfold qA;split;.rfl
 .split
  .rename_i h;rw[h]at this;exact this
  .rename_i h;rw[h]at this;exact this
def Za(c:nU)(s:An)(mt:Option (Nat×MS))(w:K)(hs:s.size<=jd)(hc:nV c=u)(ay:c.wf)(ah:o9 w mt):
  iW iN 100 #[c.v,KI mt,H s] w (Ad (qp s c.mag c.oL,mt) mt w):=by
 have⟨⟨aM,aN⟩,⟨aO,az⟩,⟨aP,aQ⟩,_,_⟩:=ql hc;have aF:∃aE,(qp s c.mag c.oL,mt)=aE:=⟨_,rfl⟩;have hrow:nY (qp s c.mag c.oL,mt).2=nY mt:=rfl;have A:R (∀x,nY ((qp s c.mag c.oL,mt)).2=O x->x<w.heap.size):=Y λx ai=>Ae ah x (hrow▸ai)
 have ae:R (nY ((qp s c.mag c.oL,mt)).2=nY mt):=Y hrow;have C:∀W,o9 W mt->iW iN 101 #[V mQ c.mag,V X c.oL,H s] W (Ad (qp s c.mag c.oL,mt) mt W):=λ(W:K) (aY:o9 W mt)=>(WI c.mag c.oL s W ay.2.1 az hs).mono λe w' h=>BH aY h
 obtain⟨aE,aR⟩:=aF;rw[aR]at C A ae|-;have C:=Y C;obtain⟨f,m,fr,un,ag,it⟩:=c;unfold nU.v nU.cs;dsimp only at*;have aG:=Y (vS (w:=w) ⟨f,m,fr,un,ag,it⟩ (t:=rG));obtain⟨g,hg⟩:=o7 w;have aA:=Y ah;dsimp only at aG;rw[hg]at aG A;clear aR hc ah ay hs aM aN aO az aP aQ hrow
 have aB:R (∀aH W,w.alloc (mM #[V X f,V mQ m,V X fr,V X un,V X ag,V X it] rG)=aH->aH.alloc (mM #[V mP 0,H ⟨#[]⟩,H ⟨#[]⟩] pR)=W->FmI g w mt mt W/\
   W.cell? (Z g 1 U)=O (V mQ m)/\W.cell? (Z g 2 U)=O (V X fr)/\W.cell? (Z g 3 U)=O (V X un)):=Y λaH W aZ bg=>by
  subst aZ bg;have aS:=mY.new w #[V X f,V mQ m,V X fr,V X un,V X ag,V X it] rG;have aU:=(iT w.heap.size w).alloc (iP _) (mM #[V X f,V mQ m,V X fr,V X un,V X ag,V X it] rG);have aj:=aU.alloc ny (mM #[V mP 0,H ⟨#[]⟩,H ⟨#[]⟩] pR);have bq:(w.alloc (mM #[V X f,V mQ m,V X fr,V X un,V X ag,V X it] rG)).heap.size=g+1:=by simp[hg]
  have aD:=mY.new (w.alloc (mM #[V X f,V mQ m,V X fr,V X un,V X ag,V X it] rG)) #[V mP 0,H ⟨#[]⟩,H ⟨#[]⟩] pR;rw[bq]at aD;have af:=aS.alloc (mM #[V mP 0,H ⟨#[]⟩,H ⟨#[]⟩] pR);rw[hg]at af;exact⟨⟨aD,aA.grown aj,oP aj⟩,af.cell 1,af.cell 2,af.cell 3⟩
 go_in;go_upto_region 1 with fail;have⟨hI,aV,aW,aX⟩:=aB.out _ _ rfl rfl;generalize (w.alloc _).alloc _=w2 at*;have ak:=Y hI;clear hI aB aG aA;go_wp2_with fail;refine(C _ ak.mm).mono ?_;obtain⟨bu,m2⟩:=aE;dsimp only at A ae;cases bu with
 |error er=>
  rintro e w3 ⟨E,J,rfl⟩;dsimp only at J;have N:R (FmI g w mt m2 w3):=Y ⟨oV ak.res E (λx ai e=>by have:=A.out x (ae.out▸ai);omega),J,pJ ak.gr E⟩;clear E J aV aW aX;have⟨r0,r1,r2,z0,bz,bA⟩:=N.res.b3;have aI:=Y (oU (a:=V mP 0) (b:=H ⟨#[]⟩) (c:=H ⟨#[]⟩) N.res);have aa:=Y (Cj (a:=V mP 0) (b:=H ⟨#[]⟩) (c:=H ⟨#[]⟩) N A hg);go_wp2_with fail;rw[nO];have⟨aJ,aK,aL⟩:=aI.a3;refine iY (v:=mJ #[mI #[V mP 0,H ⟨#[]⟩,H ⟨#[]⟩],V X 0,V X (er:Nat)]) (by simp[jv,Tryz.results100,go_sem,aJ,aK,aL]) rfl ⟨aa.1,aa.2,rfl⟩
 |ok y=>
  obtain⟨⟨au,av,ax⟩,fn⟩:=y;rintro e w3 ⟨E,J,rfl⟩;dsimp only at J|-;have N:R (FmI g w mt m2 w3):=Y ⟨oV ak.res E (λx ai e=>by have:=A.out x (ae.out▸ai);omega),J,pJ ak.gr E⟩;clear E J aV aW aX;have⟨r0,r1,r2,z0,bz,bA⟩:=N.res.b3;have aI:=Y (oU (a:=V mP au) (b:=H av) (c:=H ax) N.res);have aa:=Y (Cj (a:=V mP au) (b:=H av) (c:=H ax) N A hg);go_wp2_with fail;rw[nO];have⟨aJ,aK,aL⟩:=aI.a3;refine iY (v:=mJ #[mI #[V mP au,H av,H ax],V X (fn:Nat),V X 0]) (by simp[jv,Tryz.results100,go_sem,aJ,aK,aL]) rfl ⟨aa.1,aa.2,rfl⟩
def Zb{s:An}(h:e=mK (nT most s).v):match wo (nT most s)with
 | .error er=>e=mK (mJ #[mI #[V mP 0,H ⟨#[]⟩,H ⟨#[]⟩],V X 0,V X (er:Nat)])
 | .ok y=>e=mK (mJ #[mI #[V mP y.1.id,H y.1.name,H y.1.body],V X (y.2:Nat),V X 0]):=by
 by_cases h0:(nT most s).e=0
 .have:wo (nT most s)=.ok (⟨(nT most s).id,⟨#[]⟩,(nT most s).body⟩,(nT most s).n):=At (by simpa using h0)
  rw[this];dsimp only;rw[h];unfold PF.v yo;rw[h0];rfl
 .have C:wo (nT most s)=.error (nT most s).e:=Ax h0
  rw[C];dsimp only;rw[h];have A:=Ir h0;generalize nT most s=q at*;obtain⟨i,b,n,E⟩:=q;unfold PF.bad at A;cases A;rfl
def WK(c:nU)(s:An)(mt:Option (Nat×MS))(w:K)(hs:s.size<=jd)(hc:nV c=u)(aK:c.wf)(ah:o9 w mt):
  iW iN 105 #[c.v,KI mt,H s] w (Ad (wo (nT c.oL s),mt) mt w):=by
 have⟨⟨aL,aM⟩,⟨aN,aO⟩,⟨aP,aQ⟩,_,_⟩:=ql hc;have aB:∃aE,(wo (nT c.oL s),mt)=aE:=⟨_,rfl⟩;have hrow:nY (wo (nT c.oL s),mt).2=nY mt:=rfl;have A:R (∀x,nY ((wo (nT c.oL s),mt)).2=O x->x<w.heap.size):=Y λx ai=>Ae ah x (hrow▸ai)
 have ae:R (nY ((wo (nT c.oL s),mt)).2=nY mt):=Y hrow;have C:∀W,o9 W mt->iW iN 106 #[V X c.oL,H s] W (Ad (wo (nT c.oL s),mt) mt W):=λ(W:K) (aY:o9 W mt)=>(Ic c.oL s W I hs).mono λe w' h=>BH (aE:=wo (nT c.oL s)) aY ⟨h.2,Zb h.1⟩
 obtain⟨aE,aR⟩:=aB;rw[aR]at C A ae|-;have C:=Y C;obtain⟨f,m,fr,un,ag,it⟩:=c;unfold nU.v nU.cs;dsimp only at*;have aD:=Y (vS (w:=w) ⟨f,m,fr,un,ag,it⟩ (t:=rG));obtain⟨g,hg⟩:=o7 w;have ay:=Y ah;dsimp only at aD;rw[hg]at aD A;clear aR hc ah aK hs aL aM aN aO aP aQ hrow
 have az:R (∀aF W,w.alloc (mM #[V X f,V mQ m,V X fr,V X un,V X ag,V X it] rG)=aF->aF.alloc (mM #[V mP 0,H ⟨#[]⟩,H ⟨#[]⟩] pR)=W->FmI g w mt mt W/\
   W.cell? (Z g 1 U)=O (V mQ m)/\W.cell? (Z g 2 U)=O (V X fr)/\W.cell? (Z g 3 U)=O (V X un)):=Y λaF W aZ bg=>by
  subst aZ bg;have aS:=mY.new w #[V X f,V mQ m,V X fr,V X un,V X ag,V X it] rG;have aU:=(iT w.heap.size w).alloc (iP _) (mM #[V X f,V mQ m,V X fr,V X un,V X ag,V X it] rG);have aj:=aU.alloc ny (mM #[V mP 0,H ⟨#[]⟩,H ⟨#[]⟩] pR);have bq:(w.alloc (mM #[V X f,V mQ m,V X fr,V X un,V X ag,V X it] rG)).heap.size=g+1:=by simp[hg]
  have aA:=mY.new (w.alloc (mM #[V X f,V mQ m,V X fr,V X un,V X ag,V X it] rG)) #[V mP 0,H ⟨#[]⟩,H ⟨#[]⟩] pR;rw[bq]at aA;have af:=aS.alloc (mM #[V mP 0,H ⟨#[]⟩,H ⟨#[]⟩] pR);rw[hg]at af;exact⟨⟨aA,ay.grown aj,oP aj⟩,af.cell 1,af.cell 2,af.cell 3⟩
 go_in;go_upto_region 1 with fail;have⟨hI,aV,aW,aX⟩:=az.out _ _ rfl rfl;generalize (w.alloc _).alloc _=w2 at*;have ak:=Y hI;clear hI az aD ay;go_wp2_with fail;refine(C _ ak.mm).mono ?_;obtain⟨bu,m2⟩:=aE;dsimp only at A ae;cases bu with
 |error er=>
  rintro e w3 ⟨E,J,rfl⟩;dsimp only at J;have N:R (FmI g w mt m2 w3):=Y ⟨oV ak.res E (λx ai e=>by have:=A.out x (ae.out▸ai);omega),J,pJ ak.gr E⟩;clear E J aV aW aX;have⟨r0,r1,r2,z0,bz,bA⟩:=N.res.b3;have aG:=Y (oU (a:=V mP 0) (b:=H ⟨#[]⟩) (c:=H ⟨#[]⟩) N.res);have aa:=Y (Cj (a:=V mP 0) (b:=H ⟨#[]⟩) (c:=H ⟨#[]⟩) N A hg);go_wp2_with fail;rw[nO];have⟨aH,aI,aJ⟩:=aG.a3;refine iY (v:=mJ #[mI #[V mP 0,H ⟨#[]⟩,H ⟨#[]⟩],V X 0,V X (er:Nat)]) (by simp[jv,Tryz.results105,go_sem,aH,aI,aJ]) rfl ⟨aa.1,aa.2,rfl⟩
 |ok y=>
  obtain⟨⟨au,av,ax⟩,fn⟩:=y;rintro e w3 ⟨E,J,rfl⟩;dsimp only at J|-;have N:R (FmI g w mt m2 w3):=Y ⟨oV ak.res E (λx ai e=>by have:=A.out x (ae.out▸ai);omega),J,pJ ak.gr E⟩;clear E J aV aW aX;have⟨r0,r1,r2,z0,bz,bA⟩:=N.res.b3;have aG:=Y (oU (a:=V mP au) (b:=H av) (c:=H ax) N.res);have aa:=Y (Cj (a:=V mP au) (b:=H av) (c:=H ax) N A hg);go_wp2_with fail;rw[nO];have⟨aH,aI,aJ⟩:=aG.a3;refine iY (v:=mJ #[mI #[V mP au,H av,H ax],V X (fn:Nat),V X 0]) (by simp[jv,Tryz.results105,go_sem,aH,aI,aJ]) rfl ⟨aa.1,aa.2,rfl⟩
def Iu(c:nU)(s:An)(mt:Option (Nat×MS))(w:K)(hs:s.size<=jd)(hc:nV c=u)(aL:c.wf)(ah:o9 w mt):
  iW iN 110 #[c.v,KI mt,H s] w (Ad (qA c.oL c.pq s mt) mt w):=by
 have⟨⟨aM,aN⟩,⟨aO,aP⟩,⟨aQ,ay⟩,_,_⟩:=ql hc;have aD:∃aE,(qA c.oL c.pq s mt)=aE:=⟨_,rfl⟩;have hrow:nY (qA c.oL c.pq s mt).2=nY mt:=FP _ _ _ _;have A:R (∀x,nY ((qA c.oL c.pq s mt)).2=O x->x<w.heap.size):=Y λx ai=>Ae ah x (hrow▸ai)
 have ae:R (nY ((qA c.oL c.pq s mt)).2=nY mt):=Y hrow;have C:∀W,o9 W mt->iW iN 111 #[V X c.oL,V X c.pq,KI mt,H s] W (Ad (qA c.oL c.pq s mt) mt W):=λ(W:K) (aY:o9 W mt)=>OW c.oL c.pq s mt W hs I ay aY
 obtain⟨aE,aR⟩:=aD;rw[aR]at C A ae|-;have C:=Y C;obtain⟨f,m,fr,un,ag,it⟩:=c;unfold nU.v nU.cs;dsimp only at*;have aF:=Y (vS (w:=w) ⟨f,m,fr,un,ag,it⟩ (t:=rG));obtain⟨g,hg⟩:=o7 w;have az:=Y ah;dsimp only at aF;rw[hg]at aF A;clear aR hc ah aL hs aM aN aO aP aQ ay hrow
 have aA:R (∀aG W,w.alloc (mM #[V X f,V mQ m,V X fr,V X un,V X ag,V X it] rG)=aG->aG.alloc (mM #[V mP 0,H ⟨#[]⟩,H ⟨#[]⟩] pR)=W->FmI g w mt mt W/\
   W.cell? (Z g 1 U)=O (V mQ m)/\W.cell? (Z g 2 U)=O (V X fr)/\W.cell? (Z g 3 U)=O (V X un)):=Y λaG W aZ bg=>by
  subst aZ bg;have aS:=mY.new w #[V X f,V mQ m,V X fr,V X un,V X ag,V X it] rG;have aU:=(iT w.heap.size w).alloc (iP _) (mM #[V X f,V mQ m,V X fr,V X un,V X ag,V X it] rG);have aj:=aU.alloc ny (mM #[V mP 0,H ⟨#[]⟩,H ⟨#[]⟩] pR);have bq:(w.alloc (mM #[V X f,V mQ m,V X fr,V X un,V X ag,V X it] rG)).heap.size=g+1:=by simp[hg]
  have aB:=mY.new (w.alloc (mM #[V X f,V mQ m,V X fr,V X un,V X ag,V X it] rG)) #[V mP 0,H ⟨#[]⟩,H ⟨#[]⟩] pR;rw[bq]at aB;have af:=aS.alloc (mM #[V mP 0,H ⟨#[]⟩,H ⟨#[]⟩] pR);rw[hg]at af;exact⟨⟨aB,az.grown aj,oP aj⟩,af.cell 1,af.cell 2,af.cell 3⟩
 go_in;go_upto_region 1 with fail;have⟨hI,aV,aW,aX⟩:=aA.out _ _ rfl rfl;generalize (w.alloc _).alloc _=w2 at*;have ak:=Y hI;clear hI aA aF az;go_wp2_with fail;refine(C _ ak.mm).mono ?_;obtain⟨bu,m2⟩:=aE;dsimp only at A ae;cases bu with
 |error er=>
  rintro e w3 ⟨E,J,rfl⟩;dsimp only at J;have N:R (FmI g w mt m2 w3):=Y ⟨oV ak.res E (λx ai e=>by have:=A.out x (ae.out▸ai);omega),J,pJ ak.gr E⟩;clear E J aV aW aX;have⟨r0,r1,r2,z0,bz,bA⟩:=N.res.b3;have aH:=Y (oU (a:=V mP 0) (b:=H ⟨#[]⟩) (c:=H ⟨#[]⟩) N.res);have aa:=Y (Cj (a:=V mP 0) (b:=H ⟨#[]⟩) (c:=H ⟨#[]⟩) N A hg);go_wp2_with fail;rw[nO];have⟨aI,aJ,aK⟩:=aH.a3;refine iY (v:=mJ #[mI #[V mP 0,H ⟨#[]⟩,H ⟨#[]⟩],V X 0,V X (er:Nat)]) (by simp[jv,Tryz.results110,go_sem,aI,aJ,aK]) rfl ⟨aa.1,aa.2,rfl⟩
 |ok y=>
  obtain⟨⟨au,av,ax⟩,fn⟩:=y;rintro e w3 ⟨E,J,rfl⟩;dsimp only at J|-;have N:R (FmI g w mt m2 w3):=Y ⟨oV ak.res E (λx ai e=>by have:=A.out x (ae.out▸ai);omega),J,pJ ak.gr E⟩;clear E J aV aW aX;have⟨r0,r1,r2,z0,bz,bA⟩:=N.res.b3;have aH:=Y (oU (a:=V mP au) (b:=H av) (c:=H ax) N.res);have aa:=Y (Cj (a:=V mP au) (b:=H av) (c:=H ax) N A hg);go_wp2_with fail;rw[nO];have⟨aI,aJ,aK⟩:=aH.a3;refine iY (v:=mJ #[mI #[V mP au,H av,H ax],V X (fn:Nat),V X 0]) (by simp[jv,Tryz.results110,go_sem,aI,aJ,aK]) rfl ⟨aa.1,aa.2,rfl⟩
def oG(c:nU)(s:An)(mt:Option (Nat×MS)):Except Nat (tJ×Nat)×Option (Nat×MS):=
 if c.fmt=1 then(qp s c.mag c.oL,mt)else if c.fmt=2 then(wo (nT c.oL s),mt)else qA c.oL c.pq s mt
def Ag(c:nU)(s:An)(mt:Option (Nat×MS)):nY (oG c s mt).2=nY mt:=by
 unfold oG;split;.rfl
 .split
  .rfl
  .exact FP _ _ _ _
def a4T(k:Nat):iQ:=if k=1 then .func (.func 100) #[] #[]else if k=2 then .func (.func 105) #[] #[]else .func (.func 110) #[] #[]
structure KW(g:Nat)(c:nU)(w:K)(mt:Option (Nat×MS))(W:K):Prop where
 cf:mY W g #[V X c.fmt,V mQ c.mag,V X c.oL,V X c.pq,V X c.dep,V X c.oo] rG
 res:mY W (g+1) #[V mP 0,H ⟨#[]⟩,H ⟨#[]⟩] pR
 gr:w.grownBy W (nY mt)
section
variable {g:Nat}{c:nU}{w W W':K}{mt:Option (Nat×MS)}
def KW.s(h:KW g c w mt W):KW g c w mt W/\W.cell? (Z g 0 U)=O (V X c.fmt)/\W.cell? (Z g 1 U)=O (V mQ c.mag)/\W.cell? (Z g 2 U)=O (V X c.oL)/\
 W.cell? (Z g 3 U)=O (V X c.pq)/\W.cell? (Z g 4 U)=O (V X c.dep)/\W.cell? (Z g 5 U)=O (V X c.oo):=⟨h,h.cf.cell 0,h.cf.cell 1,h.cf.cell 2,h.cf.cell 3,h.cf.cell 4,h.cf.cell 5⟩
def KW.below(h:KW g c w mt W)(hb:iR W.heap.size W W'):KW g c w mt W':=⟨a7 hb h.cf h.cf.lt,a7 hb h.res h.res.lt,pJ h.gr (oP hb)⟩
def KW.drew(h:KW g c w mt W):KW g c w mt W.drew:=⟨h.cf,h.res,⟨h.gr.os,h.gr.tape,h.gr.output,h.gr.size,h.gr.block⟩⟩
def KW.grow(h:KW g c w mt W)(hg:W.grownBy W' (nY mt))(hlt:∀x,nY mt=O x->x<g):KW g c w mt W':=
 ⟨oV h.cf hg (λx A e=>by have:=hlt x A;omega),oV h.res hg (λx A e=>by have:=hlt x A;omega),pJ h.gr hg⟩
def KW.put(h:KW g c w mt W)(hk:g+1<k)(A:w.heap.size<=g)(a b d:iQ):KW g c w mt (q8 W k a b d):=
 have o:∀{W:K}{n:Nat}{cs:Array iQ}{t:jl}(i:Nat)(v:iQ),mY W n cs t->n≠k->mY (W.setCell (Z k i U) v) n cs t:=λi v h hn=>h.setOther (a:=(Z k i U)) hn v
 ⟨o 2 _ (o 1 _ (o 0 _ h.cf I) I) I,o 2 _ (o 1 _ (o 0 _ h.res I) I) I, sH (p:=(Z k 2 U)) (sH (p:=(Z k 1 U)) (sH (p:=(Z k 0 U)) h.gr nk _) nk _) nk _⟩
def a2P(h:o9 W mt):o9 W.drew mt:=by cases mt<;>exact h
end
def KX{a b d:iQ}{t:jl}(h:mY W c #[a,b,d] t):W.cell? (Z c 0 U)=O a/\W.cell? (Z c 1 U)=O b/\W.cell? (Z c 2 U)=O d/\
  W.frozen? (Z c 0 U)=M/\W.frozen? (Z c 1 U)=M/\W.frozen? (Z c 2 U)=M:=⟨h.cell 0,h.cell 1,h.cell 2,h.free 0,h.free 1,h.free 2⟩
structure WnF(g:Nat)(c:nU)(w:K)(mt m2:Option (Nat×MS))(a b d:iQ)(k:Nat)(W:K):Prop where
 wn:KW g c w mt W
 fr:mY W k #[a,b,d] pR
 mm:o9 W m2
def a2Q{c:nU}{mt m2:Option (Nat×MS)}{a b d a0 b0 A:iQ}(h:KW g c w mt W)(C:mY W k #[a0,b0,A] pR)(hk:g+1<k)(E:w.heap.size<=g)(hlt:∀x,nY m2=O x->x<g)(J:o9 W m2):
  WnF g c w mt m2 a b d k (q8 W k a b d):=
 have q:∀i,∀x,nY m2=O x->x≠((Z k i U):j4).block:=λi x N e=>by have:=hlt x N;simp at e;omega
 ⟨h.put hk E a b d,oU C,yu (yu (yu J (q 0) _) (q 1) _) (q 2) _⟩
def Bd(c:nU)(s:An)(mt:Option (Nat×MS)):∀er,(oG c s mt).1=.error er->1<=er:=by
 intro er h;unfold oG at h;split at h
 .dsimp only at h
  unfold qp at h;have hn:=FO (qK s c.mag c.oL) 9 0;split at h;.cases h
  .rename_i h0;cases h;omega
 .split at h
  .dsimp only at h
   unfold wo at h;split at h;.rename_i h0;cases h;omega
   .cases h
  .unfold qA at h
   split at h;.rename_i h0;cases h;omega
   .split at h
    .rename_i e m2 A
     have C:=Ip _ _ _ e (by rw[A]);cases h;unfold Df;split<;>omega
    .cases h
def Zc(c:nU)(k:Nat)(hk:c.fmt=k)(s:An)(mt:Option (Nat×MS))(w:K)(hs:s.size<=jd)(hc:nV c=u)(A:c.wf)(C:o9 w mt):
  ∃f,a4T k=.func (.func f) #[] #[]/\iW iN f #[c.v,KI mt,H s] w (Ad (oG c s mt) mt w):=by
 have E:=(ql hc).1;obtain rfl|rfl|rfl:k=1\/k=2\/k=3:=I
 .have:oG c s mt=(qp s c.mag c.oL,mt):=Ax hk
  rw[this];exact⟨_,rfl,Za c s mt w hs hc A C⟩
 .have:oG c s mt=(wo (nT c.oL s),mt):=by unfold oG;rw[At I,Ax I]
  rw[this];exact⟨_,rfl,WK c s mt w hs hc A C⟩
 .have:oG c s mt=qA c.oL c.pq s mt:=by unfold oG;rw[At I,At I]
  rw[this];exact⟨_,rfl,Iu c s mt w hs hc A C⟩
def a2R(W:K):lJ iN (jX 142 (mI Af) (V X 1)) W=.ok (mI #[.func (.func 97) #[] #[],.func (.func 98) #[] #[],.func (.func 100) #[] #[],.func (.func 102) #[] #[]]) W:=rfl
def a2S(W:K):lJ iN (jX 142 (mI Af) (V X 2)) W=.ok (mI #[.func (.func 96) #[] #[],.func (.func 103) #[] #[],.func (.func 105) #[] #[],.func (.func 107) #[] #[]]) W:=rfl
def Ur(W:K):lJ iN (jX 142 (mI Af) (V X 3)) W=.ok (mI #[.func (.func 96) #[] #[],.func (.func 108) #[] #[],.func (.func 110) #[] #[],.func (.func 107) #[] #[]]) W:=rfl
def Rn(a b c d:iQ)(W:K):lJ iN (Instr.field 141 (mI #[a,b,c,d]) 2) W=.ok c W:=rfl
end
section
open Go.RowKit Go.ChangeShapes Go.WideShapes Go.Deep
inductive mW(α:Type) where
 |node (a:α) (sub:List (mW α))
section
variable {α:Type}
mutual
def mW.count:mW α->Nat
 | .node _ s=>1+mW.nH s
def mW.nH:List (mW α)->Nat
 |[]=>0
 |x::A=>mW.count x+mW.nH A
end
mutual
def mW.deep:mW α->Nat
 | .node _ s=>mW.oH s+1
def mW.oH:List (mW α)->Nat
 |[]=>0
 |x::A=>max (mW.deep x) (mW.oH A)
end
mutual
def mW.all(p:α->List (mW α)->Bool):mW α->Bool
 | .node a s=>p a s&&mW.oI p s
def mW.oI(p:α->List (mW α)->Bool):List (mW α)->Bool
 |[]=>u
 |x::A=>mW.all p x&&mW.oI p A
end
def mW.lab:mW α->α| .node a _=>a
def mW.sub:mW α->List (mW α)| .node _ s=>s
@[simp] theorem mW.oW (a:α) (s:List (mW α)):(mW.node a s).lab=a:=rfl
@[simp] theorem mW.qm (a:α) (s:List (mW α)):(mW.node a s).sub=s:=rfl
def mW.eta(x:mW α): .node x.lab x.sub=x:=by cases x;rfl
mutual
def mW.a8n{P:mW α->Prop}(h:∀a s,(∀x,x∈s->P x)->P (.node a s)):∀x,P x
 | .node a s=>h a s (mW.a8o h s)
def mW.a8o{P:mW α->Prop}(h:∀a s,(∀x,x∈s->P x)->P (.node a s)):∀(s:List (mW α))(x:mW α),x∈s->P x
 |[],_,A=>by cases A
 |y::E,x,A=>by
  rcases l5.1 A with C|C
  .exact C▸mW.a8n h y
  .exact mW.a8o h E x C
end
def mW.ind{P:mW α->Prop}(h:∀a s,(∀x,x∈s->P x)->P (.node a s))(x:mW α):P x:=mW.a8n h x
def mW.wX(x:mW α):0<x.count:=by cases x;simp only[mW.count];omega
def mW.Dj(x:mW α):0<x.deep:=by cases x;simp only[mW.deep];omega
def mW.sI(s t:List (mW α)):mW.nH (s++t)=mW.nH s+mW.nH t:=by
 induction s with
 |nil=>simp[mW.nH]
 |cons x C A=>simp[mW.nH,A,j3]
def mW.xG{s:List (mW α)}{x:mW α}(h:x∈s):x.count<=mW.nH s:=by
 induction s with
 |nil=>cases h
 |cons y E C=>
  simp only[mW.nH];rcases l5.1 h with A|A
  .subst A;omega
  .have:=C A;omega
def mW.xW{s:List (mW α)}{i:Nat}{x:mW α}(h:s[i]? =O x):mW.nH (s.take (i+1))=mW.nH (s.take i)+x.count:=by
 rw[du,h];simp[mW.sI,mW.nH]
def mW.xH(s:List (mW α))(i:Nat):mW.nH (s.take i)<=mW.nH s:=by
 conv=>rhs;rw[<-kS i s,mW.sI]
 omega
def mW.qc(s:List (mW α)):s.length<=mW.nH s:=by
 induction s with
 |nil=>simp
 |cons x A C=>simp only[mW.nH,jD];have:=mW.wX x;omega
def mW.wN(s t:List (mW α)):mW.oH (s++t)=max (mW.oH s) (mW.oH t):=by
 induction s with
 |nil=>simp[mW.oH]
 |cons x C A=>simp[mW.oH,A,Nat.max_assoc]
def mW.xI{s:List (mW α)}{i:Nat}{x:mW α}(h:s[i]? =O x):mW.oH (s.take (i+1))=max (mW.oH (s.take i)) x.deep:=by
 rw[du,h];simp[mW.wN,mW.oH]
def mW.Ah(p:α->List (mW α)->Bool)(s t:List (mW α)):mW.oI p (s++t)=(mW.oI p s&&mW.oI p t):=by
 induction s with
 |nil=>simp[mW.oI]
 |cons x C A=>simp[mW.oI,A,Bool.and_assoc]
def mW.vJ{p:α->List (mW α)->Bool}{s:List (mW α)}{i:Nat}{x:mW α}(h:s[i]? =O x):mW.oI p (s.take (i+1))=(mW.oI p (s.take i)&&x.all p):=by
 rw[du,h];simp[mW.Ah,mW.oI]
def mW.uB{p:α->List (mW α)->Bool}{s:List (mW α)}{i:Nat}{x:mW α}(h:s[i]? =O x)(A:x.all p=M):mW.oI p s=M:=by
 induction s generalizing i with
 |nil=>simp at h
 |cons y E C=>
  cases i with
  |zero=>simp at h;subst h;simp[mW.oI,A]
  |succ i=>simp at h;simp[mW.oI,C h]
structure Shape(α:Type) where
 k:Nat
 cells:α->iQ->List iQ
 ok:α->Prop
 hk:∀a v,(cells a v).length=k
def SliceOf(w:K)(Q:Nat->Prop)(v:iQ)(n:Nat)(aE:Nat->Nat->Prop):Prop:=
 ∃oa cap,v=G oa n cap/\n<=cap/\cap<=jd/\(0<n->∃b off,oa=O (Z b off U)/\b<w.heap.size/\Q b/\aE b off)
mutual
def Shape.ug(S:Shape α)(w:K)(Q:Nat->Prop):mW α->Nat->Nat->Prop
 | .node a s,b,off=>S.ok a/\∃v,(∀j,j<S.k->w.cell? (Z b (off+j) U)=(S.cells a v)[j]?)/\SliceOf w Q v s.length (Shape.qR S w Q s)
def Shape.qR(S:Shape α)(w:K)(Q:Nat->Prop):List (mW α)->Nat->Nat->Prop
 |[],_,_=>True
 |x::A,b,off=>Shape.ug S w Q x b off/\Shape.qR S w Q A b (off+S.k)
end
def Shape.nA(S:Shape α)(w:K)(Q:Nat->Prop)(v:iQ)(s:List (mW α)):Prop:=SliceOf w Q v s.length (Shape.qR S w Q s)
def SliceOf.mono{aE A:Nat->Nat->Prop}(h:SliceOf w Q v n aE)(hs:w.heap.size<=w'.heap.size)(E:∀b,b<w.heap.size->Q b->Q' b)(J:∀b o,Q b->b<w.heap.size->aE b o->A b o):SliceOf w' Q' v n A:=by
 obtain⟨oa,cap,N,aa,ae,af⟩:=h;refine⟨oa,cap,N,aa,ae,λhn=> ?_⟩;have⟨b,off,e,hb,C,ag⟩:=af hn;exact⟨b,off,e,I,E b hb C,J b off C hb ag⟩
mutual
def Shape.ug.keep{S:Shape α}{w w':K}{Q Q':Nat->Prop}(hs:w.heap.size<=w'.heap.size)(C:∀b,b<w.heap.size->Q b->Q' b)(hk:∀b,b<w.heap.size->Q b->w'.heap[b]? =w.heap[b]?):
  ∀(x:mW α)(b off:Nat),b<w.heap.size->Q b->S.ug w Q x b off->S.ug w' Q' x b off
 | .node a s,b,off,hb,J,h=>by
  simp only[Shape.ug]at h|-;obtain⟨ho,v,hc,A⟩:=h;refine⟨ho,v,λj N=> ?_,A.mono hs C λb' aa ae E af=>Shape.qR.keep hs C hk s b' aa E ae af⟩;rw[World.cell?_of_block (w:=w) (a:=(Z b (off+j) U)) (hk b hb J)];exact hc j N
def Shape.qR.keep{S:Shape α}{w w':K}{Q Q':Nat->Prop}(hs:w.heap.size<=w'.heap.size)(A:∀b,b<w.heap.size->Q b->Q' b)(hk:∀b,b<w.heap.size->Q b->w'.heap[b]? =w.heap[b]?):
  ∀(s:List (mW α))(b off:Nat),b<w.heap.size->Q b->S.qR w Q s b off->S.qR w' Q' s b off
 |[],_,_,_,_,_=>by simp only[Shape.qR]
 |x::E,b,off,hb,C,h=>by
  simp only[Shape.qR]at h|-;exact⟨Shape.ug.keep hs A hk x b off hb C h.1,Shape.qR.keep hs A hk E b _ hb C h.2⟩
end
def Shape.nA.keep{S:Shape α}{s:List (mW α)}(h:S.nA w Q v s)(hs:w.heap.size<=w'.heap.size)(A:∀b,b<w.heap.size->Q b->Q' b)(hk:∀b,b<w.heap.size->Q b->w'.heap[b]? =w.heap[b]?):S.nA w' Q' v s:=
 SliceOf.mono h hs A λb o q hb C=>Shape.qR.keep hs A hk s b o hb q C
def Shape.nA.below{S:Shape α}{s:List (mW α)}(h:S.nA w Q v s)(hb:iR w.heap.size w w'):S.nA w' Q v s:=
 h.keep hb.size (λ_ _ h=>h) λb hl _=>hb.block b hl
def Shape.qR.get{S:Shape α}{w:K}{Q:Nat->Prop}:∀{s:List (mW α)}{b off:Nat},S.qR w Q s b off->∀{i:Nat}{x:mW α},s[i]? =O x->S.ug w Q x b (off+i*S.k)
 |[],_,_,_,_,_,A=>by simp at A
 |y::C,b,off,h,i,x,A=>by
  simp only[Shape.qR]at h;cases i with
  |zero=>simp at A;subst A;simpa using h.1
  |succ i=>
   have:=Shape.qR.get h.2 (i:=i) (x:=x) (by simpa using A);rwa [show off+S.k+i*S.k=off+(i+1)*S.k by rw[lq];omega]at this
def Shape.nA.get{S:Shape α}{s:List (mW α)}(h:S.nA w Q v s):
  ∃oa cap,v=G oa s.length cap/\s.length<=cap/\cap<=jd/\∀i x,s[i]? =O x->∃b off ar,oa=O (Z b off U)/\b<w.heap.size/\Q b/\S.ok x.lab/\
   (∀j,j<S.k->w.cell? (Z b (off+(i*S.k+j)) U)=(S.cells x.lab ar)[j]?)/\S.nA w Q ar x.sub:=by
 obtain⟨oa,cap,C,E,J,N⟩:=h;refine⟨oa,cap,C,E,J,λi x A=> ?_⟩;have⟨hi,_⟩:=jU.1 A;have⟨b,off,e,hb,aa,ae⟩:=N I;have:=ae.get A;cases x with
 |node a ah=>
  simp only[Shape.ug]at this;obtain⟨ho,ar,hc,af⟩:=this;exact⟨b,off,ar,e,hb,aa,ho,λj ag=>by rw[<-j3];exact hc j ag,af⟩
end
end
section
structure IL where
 text:List AC
 list:Bool
 deriving DecidableEq
def Ai:Shape IL:=⟨3,λa v=>[H ⟨a.text.toArray⟩,mH a.list,v],λa=>a.text.length<=jd,λ_ _=>rfl⟩
def qN(a:IL)(n:Nat):Bool:=if a.list then a.text.isEmpty else As (n=0)
def oh(a:IL)(s:List (mW IL)):Bool:=qN a s.length
def ve(x:mW IL):Bool:=x.all oh&&As (x.deep<=16)&&As (x.count<=1024)
def hdr(by' n:Nat):List AC:=if n<=55 then [jH (by'+n)]else jH (by'+55+(zH n).length)::(zH n).reverse
def single(t:List AC):Bool:=match t with
 |[b]=>As (b.toNat<128)
 |_=>M
mutual
def enc:mW IL->List AC
 | .node a s=>if a.list then hdr 192 (OY s).length++OY s else if single a.text then a.text else hdr 128 a.text.length++a.text
def OY:List (mW IL)->List AC
 |[]=>[]
 |x::A=>enc x++OY A
end
def hd2(l:List AC)(list:Bool)(size n:Nat):Except Nat (Bool×Nat×Nat):=
 if l.length - size<n then .error 2 else if list=M/\n=1/\(l.getD size 0).toNat<128 then .error 3 else .ok (list,size,n)
def hd(l:List AC):Except Nat (Bool×Nat×Nat):=match l with
 |[]=> .error 2
 |b::r=>
  if b.toNat<128 then .ok (M,0,1)
  else if b.toNat -(if 192<=b.toNat then 192 else 128)<=55 then hd2 l (As (192<=b.toNat)) 1 (b.toNat -(if 192<=b.toNat then 192 else 128))
  else if l.length<1+(b.toNat -(if 192<=b.toNat then 192 else 128) - 55)then .error 2
  else if(r.head? =O 0\/qY (r.take (b.toNat -(if 192<=b.toNat then 192 else 128) - 55))<56)then .error 3
  else hd2 l (As (192<=b.toNat)) (1+(b.toNat -(if 192<=b.toNat then 192 else 128) - 55)) (qY (r.take (b.toNat -(if 192<=b.toNat then 192 else 128) - 55)))
def OZ(Iw:List AC->Nat->Except Nat (mW IL×Nat×Nat)):Nat->List AC->Nat->List (mW IL)->Except Nat (List (mW IL)×Nat)
 |0,_,_,_=> .error 0
 |f+1,l,m,sub=>if l=[]then .ok (sub,m)else match Iw l m with
  | .error e=> .error (if e=2 then 3 else e)
  | .ok y=>OZ Iw f (l.drop y.2.1) y.2.2 (sub++[y.1])
def uq:Nat->List AC->Nat->Except Nat (mW IL×Nat×Nat)
 |0,l,_=>if l=[]then .error 2 else .error 6
 |k+1,l,m=>if l=[]then .error 2 else if m=0 then .error 4 else match hd l with
  | .error e=> .error e
  | .ok q=>if q.1 then(match OZ (uq k) (q.2.2+1) ((l.drop q.2.1).take q.2.2) (m - 1) []with
    | .error e=> .error e
    | .ok y=> .ok (.node ⟨[],u⟩ y.1,q.2.1+q.2.2,y.2))
   else .ok (.node ⟨(l.drop q.2.1).take q.2.2,M⟩ [],q.2.1+q.2.2,m - 1)
def Us{list:Bool}{size:Nat}{q:Bool×Nat×Nat}(h:hd2 l list size n=.ok q):
  q=(list,size,n)/\n<=l.length - size/\(list=M->n=1->¬(l.getD size 0).toNat<128):=by
 unfold hd2 at h;split at h;.cases h
 split at h;.cases h
 .rename_i C A
  cases h;exact⟨rfl,I,λa b c=>A ⟨a,b,c⟩⟩
def FQ{size:Nat}(hn:size+n<=l.length)(h:n=1->¬(l.getD size 0).toNat<128):single ((l.drop size).take n)=M:=by
 cases e:(l.drop size).take n with
 |nil=>rfl
 |cons b t=>
  cases t with
  |cons c t=>rfl
  |nil=>
   have A:n=1:=by
    have:=congrArg lQ e;simp at this;omega
   have C:l[size]? =O b:=by
    have:=congrArg (λl=>l[0]?) e;simpa [A,lM]using this
   have:=h A;simp[List.getD,C]at this;simp[single];omega
def Iy{q:Bool×Nat×Nat}(h:hd l=.ok q):
  q.2.1+q.2.2<=l.length/\0<q.2.1+q.2.2/\q.2.2<=l.length/\
  ((q.1=M/\q.2.1=0/\q.2.2=1/\single ((l.drop q.2.1).take q.2.2)=u)\/
   (l.take q.2.1=hdr (if q.1 then 192 else 128) q.2.2/\(q.1=M->single ((l.drop q.2.1).take q.2.2)=M)/\0<q.2.1)):=by
 cases l with
 |nil=>simp[hd]at h
 |cons b r=>
  simp only[hd]at h;have ai:=b.toNat_lt;split at h
  .rename_i c
   cases h;exact⟨ny,ny,ny,.inl ⟨rfl,rfl,rfl,by simp[single];omega⟩⟩
  rename_i c;have C:(if 192<=b.toNat then(192:Nat)else 128)=(if As (192<=b.toNat)then 192 else 128):=ny;have ah:(if 192<=b.toNat then(192:Nat)else 128)<=b.toNat:=by split<;>omega
  generalize As (192<=b.toNat)=list at*;generalize hB:(if 192<=b.toNat then(192:Nat)else 128)=by' at*;split at h
  .rename_i c1
   obtain⟨rfl,E,J⟩:=Us h;simp only[jD]at E|-;refine⟨I,I,I,.inr ⟨?_,λe=>FQ nk (λN=>J e N),I⟩⟩;unfold hdr;rw[Ax c1,<-C];have e:jH (by'+(b.toNat - by'))=b:=by rw[show by'+(b.toNat - by')=b.toNat by omega];simp
   rw[e];simp
  rename_i c1;split at h;.cases h
  rename_i c2;split at h;.cases h
  rename_i c3;obtain⟨rfl,E,J⟩:=Us h;simp only[jD]at E c2|-;refine⟨I,I,I,.inr ⟨?_,λe=>FQ nk (λN=>J e N),I⟩⟩;have hk:(r.take (b.toNat - by' - 55)).length=b.toNat - by' - 55:=nk;cases A:r.take (b.toNat - by' - 55)with
  |nil=>rw[A]at hk;simp at hk;omega
  |cons c0 t=>
   have aa:r.head? =O c0:=by
    cases r with
    |nil=>simp at A
    |cons c1 t1=>rw[show b.toNat - by' - 55=(b.toNat - by' - 56)+1 by omega,jm]at A;simp at A|-;exact A.1
   have ae:c0.toNat≠0:=by
    intro e;apply c3;left;rw[aa];congr 1;exact kH.1 e
   have af:zH (qY (c0::t))=(c0::t).reverse:=by
    unfold qY;rw[List.reverse_cons,Oi _ _ ae]
   rw[A]at hk c3;unfold hdr;have ag:¬qY (c0::t)<=55:=λh=>c3 (.inr I)
   rw[At ag,af,lU,lC,hk,<-C];have e:jH (by'+55+(b.toNat - by' - 55))=b:=by rw[show by'+55+(b.toNat - by' - 55)=b.toNat by omega];simp
   rw[e,show 1+(b.toNat - by' - 55)=(b.toNat - by' - 55)+1 by omega,jm,A]
def Zd(h:∀l m y,uq k l m=.ok y->0<y.2.1/\y.2.1<=l.length/\y.2.2+y.1.count=m/\y.1.deep<=k/\y.1.all oh=u/\l.take y.2.1=enc y.1):
  ∀(f:Nat)(l:List AC)(m:Nat)(sub:List (mW IL))(y:List (mW IL)×Nat),OZ (uq k) f l m sub=.ok y->
   ∃s,y.1=sub++s/\l=OY s/\y.2+mW.nH s=m/\mW.oH s<=k/\mW.oI oh s=u:=by
 intro f;induction f with
 |zero=>intro l m sub y hy;simp[OZ]at hy
 |succ f A=>
  intro l m sub y hy;simp only[OZ]at hy;split at hy
  .rename_i e
   cases hy;exact⟨[],ny,by simp[e,OY],by simp[mW.nH],by simp[mW.oH],by simp[mW.oI]⟩
  .split at hy
   .cases hy
   .rename_i x C
    have⟨N,aa,ae,af,E,J⟩:=h _ _ _ C;have⟨s,e1,e2,e3,e4,e5⟩:=A _ _ _ _ hy;refine⟨x.1::s,by rw[e1];simp,?_,?_,?_,?_⟩;.simp only[OY];rw[<-J,<-e2,kS]
    .simp only[mW.nH];omega
    .simp only[mW.oH];omega
    .simp only[mW.oI,E,e5];rfl
def Aj:∀(k:Nat)(l:List AC)(m:Nat)(y:mW IL×Nat×Nat),uq k l m=.ok y->
  0<y.2.1/\y.2.1<=l.length/\y.2.2+y.1.count=m/\y.1.deep<=k/\y.1.all oh=u/\l.take y.2.1=enc y.1:=by
 intro k;induction k with
 |zero=>intro l m y h;simp only[uq]at h;split at h<;>cases h
 |succ k N=>
  intro l m y h;simp only[uq]at h;split at h;.cases h
  split at h;.cases h
  rename_i hl ah;split at h;.cases h
  rename_i q aa;have⟨a1,a2,a3,a4⟩:=Iy aa;split at h
  .rename_i A
   split at h;.cases h
   rename_i z ae;have⟨s,e1,e2,e3,e4,e5⟩:=Zd N _ _ _ _ _ ae;cases h;simp only[cW]at e1;refine⟨a2,a1,?_,?_,?_,?_⟩;.simp only[mW.count,e1];omega
   .simp only[mW.deep,e1];omega
   .simp only[mW.all,e1,e5,oh,qN];rfl
   .rcases a4 with⟨C,_⟩|⟨C,_,_⟩
    .rw[A]at C;cases C
    .simp only[enc,cH,e1,<-e2]
     rw[A,Ax rfl]at C;rw[show((l.drop q.2.1).take q.2.2).length=q.2.2 by simp;omega,<-C,List.take_add]
  .rename_i A
   have E:q.1=M:=by simpa using A
   cases h;refine⟨a2,a1,?_,?_,?_,?_⟩;.simp only[mW.count,mW.nH];omega
   .simp only[mW.deep,mW.oH];omega
   .simp[mW.all,oh,qN,mW.oI]
   .rcases a4 with⟨C,J,af,ag⟩|⟨C,J,af⟩
    .simp only[enc,kM,cU,ag,cH]
     simp[J]
    .simp only[enc,kM,cU,J E]
     rw[E]at C;simp only[kM,cU]at C;rw[show((l.drop q.2.1).take q.2.2).length=q.2.2 by simp;omega,<-C,List.take_add]
end
variable{a:IL}{x:mW IL}
section
open Go.RowKit
abbrev IT:jl:=47
def anyI:Nat->Prop:=λ_=>True
abbrev nC(w:K)(Q:Nat->Prop)(v:iQ)(s:List (mW IL)):Prop:=Ai.nA w Q v s
abbrev rf(w:K)(v:iQ)(s:List (mW IL)):Prop:=Ai.nA w anyI v s
def txt(a:IL):An:=⟨a.text.toArray⟩
def O0(a:IL):(txt a).data.toList=a.text:=rfl
def yG(a:IL):(txt a).size=a.text.length:=lh
def nC.slice{w:K}{Q:Nat->Prop}{s:List (mW IL)}(h:nC w Q v s):∃oa cap,v=G oa s.length cap/\s.length<=cap/\cap<=jd:=by
 obtain⟨oa,cap,A,C,E,_⟩:=h;exact⟨oa,cap,A,C,E⟩
def b7:=@nC.slice
def nC.any{s:List (mW IL)}(h:nC w Q v s):rf w v s:=
 Shape.nA.keep h (iP _) (λ_ _ _=>trivial) λ_ _ _=>rfl
def nC.at_{s:List (mW IL)}(h:nC w Q (G oa n cap) s){i:Nat}(A:s[i]? =O x):
  ∃b off ar,oa=O (Z b off U)/\b<w.heap.size/\Q b/\w.cell? (Z b (off+i*3) U)=O (H (txt x.lab))/\w.cell? (Z b (off+i*3+1) U)=O (mH x.lab.list)/\
   w.cell? (Z b (off+i*3+2) U)=O ar/\nC w Q ar x.sub/\x.lab.text.length<=jd:=by
 have⟨aa,C,E,ae,af,J⟩:=Shape.nA.get h;cases E;have⟨b,off,ar,e,hb,N,ho,hc,hs⟩:=J i x A;exact⟨b,off,ar,e,hb,N,by simpa [Ai,txt,j3]using hc 0 mX,by simpa [Ai,j3]using hc 1 mX,by simpa [Ai,j3]using hc 2 mX,hs,ho⟩
def vg{t:jl}{T:An}{l:Bool}{s:List (mW IL)}(h:nC w Q v s):
  ∀W,w.alloc (mM #[H T,mH l,v] t)=W->iR w.heap.size w W/\nC W Q v s/\W.heap.size=w.heap.size+1/\
   W.cell? (Z w.heap.size 0 U)=O (H T)/\W.cell? (Z w.heap.size 1 U)=O (mH l)/\W.cell? (Z w.heap.size 2 U)=O v/\mY W w.heap.size #[H T,mH l,v] t:=by
 rintro W rfl;have A:=(iT w.heap.size w).alloc (iP _) (mM #[H T,mH l,v] t);have hB:=mY.new w #[H T,mH l,v] t;exact⟨A,Shape.nA.below h A,ny,hB.cell 0,hB.cell 1,hB.cell 2,hB⟩
def a4U(a b:Int):(As (a<=b)=u/\R (a<=b))\/(As (a<=b)=M/\R (b<a)):=by
 by_cases h:a<=b;.exact .inl ⟨by simp[h],h⟩
 .exact .inr ⟨by simp[h],by unfold R;omega⟩
def str_eq{a b:An}(h:a=b):(a.toList==b.toList)=u:=by subst h;simp
def Ro{a b:An}(h:a≠b):(a.toList==b.toList)=M:=by rw[Lib.toList_data,Lib.toList_data,bj];exact λe=>h (Go.WideShapes.bytes_inj e)
def Ze(h:p:=by
 intro x;induction x using mW.ind with
 |h a s ih=>
  simp only[mW.deep,mW.count];have:∀t:List (mW α),(∀x,x∈t->x.deep<=x.count)->mW.oH t<=mW.nH t:=by
   intro t;induction t with
   |nil=>intro _;simp[mW.oH]
   |cons y ys ih2=>
    intro h;have h1:=h y (List.mem_cons_self ..);have h2:=ih2 λz hz=>h z (List.mem_cons_of_mem _ hz)
    simp only[mW.oH,mW.nH];omega
  have:=this s ih;omega):p:=h
def Ut.Iz(s:List (mW α)):mW.oH s<=mW.nH s/\∀x:mW α,x∈s->x.deep<=x.count:=by
 have key:∀x:mW α,x.deep<=x.count:=by
  exact Ze
 refine⟨?_,λx _=>key x⟩;induction s with
 |nil=>simp[mW.oH]
 |cons y ys ih=>
  have:=key y;simp only[mW.oH,mW.nH];omega
def Ut.ui(s:List (mW α))(i:Nat):mW.oH (s.take i)<=mW.oH s:=by
 conv=>rhs;rw[<-kS i s,mW.wN]
 exact Nat.le_max_left _ _
def wO(T:An):(T.toList==([]:List AC))=As (T.size=0):=by
 rw[Lib.toList_data];by_cases h:T.size=0
 .rw[a8 h]
  have:T.data.toList=[]:=j5.1 (by simpa using h);rw[this];rfl
 .rw[bh h,bj]
  intro e;apply h;have:=congrArg lQ e;simpa using this
def O1(a:IL):As ((txt a).size=0)=a.text.isEmpty:=by
 rw[yG];cases a.text<;>simp
def Zf(h:p:=by
 have CY:=Y (IH y (jq hy) wr ar hu);have hct:=mW.xW hy;have hle:=mW.xH s (k+1);rw[HC.out]at hle;have HCT:=Y hct;rw[hct]at hle;generalize mW.nH (s.take k)=ck at*;go_wp2_with fail;refine pG (CY I) λw2 hb2=> ?_
 go_wp2;go_roundw;case rel=>exact⟨k+1,by go_num,I,by rw[HCT.out];go_num,Y (hbe.trans (hb2.mono (by have:=hbe.size;omega)))⟩
 case measure=>simp[jF];omega):p:=h
def Mr(h:p:=by
 have HF:=Y (H1.1.trans (hbe.mono I));go_wp2;go_returns;exact⟨rfl,HF.out⟩):p:=h
def Rp(x:mW IL):∀(w:K)(v:iQ),rf w v x.sub->x.count<=100000->
  iW iN 51 #[mI #[H (txt x.lab),mH x.lab.list,v]] w λe w'=>e=mK (V X (x.count:Nat))/\iR w.heap.size w w':=by
 induction x using mW.ind with
 |h a s ah=>
  intro w v E hc;simp only[mW.qm,mW.oW,mW.count]at E hc|-;obtain⟨oa,cap,rfl,ai,au⟩:=b7 E;obtain⟨g,hg⟩:=o7 w;have J:=Y (vg (T:=txt a) (l:=a.list) (t:=IT) E);have A:=mW.qc s;have⟨aw,aa⟩:=nE s.length;have N:=Y aa;have IH:=Y ah;have⟨C,ae⟩:=nE (mW.nH s);have HC:=Y ae;rw[hg]at J|-;rw[aa]at J A|-;rw[ae]at hc A|-;go_in;go_upto_region 1 with fail;generalize w.alloc (mM #[H (txt a),mH a.list,G oa aw cap] IT)=w1 at*;have⟨af,ht1,hsz,c0,c1,c2,_⟩:=J.out _ rfl;have H1:=Y (iU af ht1);go_wp2;go_loopw [3,4] (λaj iv ak=>∃k:Nat,iv=V X k/\k<=aw/\aj=V X ((1+mW.nH (s.take k):Nat):Int)/\R (iR (g+1) w1 ak)) (λ_ iv _=>aw -(jF iv).toNat);case atStart=>exact⟨0,rfl,I,by simp[mW.nH],Y (iT _ _)⟩
  case round=>
   obtain⟨k,rfl,hk,rfl,hbe⟩:=hrel;have av:=(hbe.cell (p:=(Z g 2 U)) (jV g)).trans c2;by_cases c:k<aw
   .have⟨ax,y,hy⟩:∃h:k<s.length,∃y,s[k]? =O y:=⟨by rw[N.out];exact c,_,ja (by rw[N.out];exact c)⟩
    obtain⟨b,off,ar,rfl,hlt,_,az,aA,aB,hu,ay⟩:=nC.at_ (Shape.nA.below H1.2 (hsz▸hbe.out)) hy;exact Zf
   .obtain rfl:k=aw:=I
    have ag:s.take k=s:=by rw[<-N.out,ky]
    rw[ag,HC.out];exact Mr
def Zg(h:p:=by
 rw[HD.out,hct]at hl1;have HCT:=Y hct;generalize mW.oH (s.take k)=ck at*;generalize y.deep=yd at*;have hbk:R (∀w2,iR wr.heap.size wr w2->iR (g+1) w1 w2):=Y λw2 hb2=>hbe.trans (hb2.mono (by have:=hbe.size;omega))
 by_cases cd:ck<yd
 .have d1:As ((ck:Int)<yd)=u:=nk
  go_wp2_with fail;refine pG (CY) λw2 hb2=> ?_
  go_wp2;go_roundw;case rel=>exact⟨k+1,by go_num,I,by rw[HCT.out,Nat.max_eq_right I],Y (hbk _ hb2)⟩
  case measure=>simp[jF];omega
 .have d1:As ((ck:Int)<yd)=M:=nk
  go_wp2_with fail;refine pG (CY) λw2 hb2=> ?_
  go_wp2;go_roundw;case rel=>exact⟨k+1,by go_num,I,by rw[HCT.out,Nat.max_eq_left I],Y (hbk _ hb2)⟩
  case measure=>simp[jF];omega):p:=h
def WL(x:mW IL):∀(w:K)(v:iQ),rf w v x.sub->x.count<=100000->
  iW iN 50 #[mI #[H (txt x.lab),mH x.lab.list,v]] w λe w'=>e=mK (V X (x.deep:Nat))/\iR w.heap.size w w':=by
 induction x using mW.ind with
 |h a s ak=>
  intro w v J hc;simp only[mW.qm,mW.oW,mW.count,mW.deep]at J hc|-;obtain⟨oa,cap,rfl,au,aB⟩:=b7 J;obtain⟨g,hg⟩:=o7 w;have N:=Y (vg (T:=txt a) (l:=a.list) (t:=IT) J);have A:=mW.qc s;have⟨aw,ae⟩:=nE s.length;have aa:=Y ae;have av:=Y ak;have⟨C,af⟩:=nE (mW.nH s);have ax:=Y af;have⟨D,ag⟩:=nE (mW.oH s);have HD:=Y ag;have E:=(Ut.Iz s).1;rw[hg]at N|-;rw[ae]at N A|-;rw[af]at hc A E;rw[ag]at E|-;go_in;go_upto_region 1 with fail;generalize w.alloc (mM #[H (txt a),mH a.list,G oa aw cap] IT)=w1 at*;have⟨ah,ht1,hsz,c0,c1,c2,_⟩:=N.out _ rfl;have H1:=Y (iU ah ht1);go_wp2;go_loopw [3,4,5] (λay iv aH az=>∃k:Nat,iv=V X k/\k<=aw/\ay=V X (mW.oH (s.take k):Nat)/\R (iR (g+1) w1 az)) (λ_ iv _ _=>aw -(jF iv).toNat);case atStart=>exact⟨0,rfl,I,by simp[mW.oH],Y (iT _ _)⟩
  case round=>
   obtain⟨k,rfl,hk,rfl,hbe⟩:=hrel;have aD:=(hbe.cell (p:=(Z g 2 U)) (jV g)).trans c2;by_cases c:k<aw
   .have⟨aF,y,hy⟩:∃h:k<s.length,∃y,s[k]? =O y:=⟨by rw[aa.out];exact c,_,ja (by rw[aa.out];exact c)⟩
    obtain⟨b,off,ar,rfl,hlt,_,aI,aJ,aK,aA,aG⟩:=nC.at_ (Shape.nA.below H1.2 (hsz▸hbe.out)) hy;have ai:=mW.xG (jq hy);rw[ax.out]at ai;have CY:=Y (av y (jq hy) wr ar aA I);have hct:=mW.xI hy;have hl1:=Ut.ui s (k+1);exact Zg
   .obtain rfl:k=aw:=I
    have aj:s.take k=s:=by rw[<-aa.out,ky]
    rw[aj,HD.out];exact Mr
def O3(a:IL)(s:List (mW IL)):(mW.node a s).all oh=(qN a s.length&&mW.oI oh s):=rfl
def GK(h:p:=by
 go_wp2;go_returns;exact⟨by rw[HE.out];rfl,HF.out⟩):p:=h
def Uu(h:p:=by
 go_wp2_with fail;refine pG (CY) λw5 hb5=> ?_
 have HB5:=Y (HF.trans (hb5.mono I));go_wp2;go_returns;exact⟨by rw[HE.out];rfl,HB5.out⟩):p:=h
def Rq(h:p:=by
 go_wp2_with fail;refine pG (CY) λw5 hb5=> ?_
 have HB5:=Y (hbe.trans (hb5.mono hgr));go_wp2;go_roundw;case rel=>exact⟨k+1,by go_num,I,HT,HB5⟩
 case measure=>simp[jF];omega):p:=h
def Rs(x:mW IL):∀(w:K)(v:iQ),rf w v x.sub->
  iW iN 82 #[mI #[H (txt x.lab),mH x.lab.list,v]] w λe w'=>e=mK (mH (x.all oh))/\iR w.heap.size w w':=by
 induction x using mW.ind with
 |h a s aG=>
  intro w v aa;simp only[mW.qm,mW.oW]at aa|-;have E:=Y (O3 a s);obtain⟨oa,cap,rfl,aH,ak⟩:=b7 aa;obtain⟨g,hg⟩:=o7 w;have ae:=Y (vg (T:=txt a) (l:=a.list) (t:=IT) aa);have au:s.length<=9223372036854775807:=by unfold jd at ak;omega
  have⟨aw,av⟩:=nE s.length;have af:=Y av;have aI:=Y aG;have⟨aE,ax⟩:=nE (mW.oI oh s);have ag:=Y ax;have N:R (qN a aw=if a.list then As ((txt a).size=0)else As (aw=0)):=Y (by rw[O1];rfl);have ay:=Y (wO (txt a));rw[hg]at ae|-;rw[av]at ae au E|-;rw[ax]at E;generalize (mW.node a s).all oh=ah at*;generalize qN a aw=aq at*;go_in;go_upto_region 1 with fail;generalize w.alloc (mM #[H (txt a),mH a.list,G oa aw cap] IT)=w1 at*;have⟨az,ht1,hsz,c0,c1,c2,_⟩:=ae.out _ rfl;have J:=Y (iU az ht1);generalize txt a=T at*;generalize a.list=L at*;cases L with
  |true=>
   by_cases A:T.size=0
   .have C:R (ah=aE):=Y (by rw[E.out,N.out];simp[A])
    have aJ:(T.toList==([]:List AC))=u:=by rw[ay.out];simp[A]
    go_wp2;go_loopw [3] (λiv ai=>∃k:Nat,iv=V X k/\k<=aw/\R (mW.oI oh (s.take k)=u)/\R (iR (g+1) w1 ai)) (λiv _=>aw -(jF iv).toNat);case atStart=>exact⟨0,rfl,I,by simp[R,mW.oI],Y (iT _ _)⟩
    case round=>
     obtain⟨k,rfl,hk,aj,hbe⟩:=hrel;have aA:=(hbe.cell (p:=(Z g 2 U)) (jV g)).trans c2;have HF:=Y (J.1.trans (hbe.mono I));have hgr:g+1<=wr.heap.size:=by have:=hbe.size;omega
     by_cases c:k<aw
     .have⟨y,hy⟩:∃y,s[k]? =O y:=⟨_,ja (by rw[af.out];exact c)⟩
      obtain⟨b,off,ar,rfl,hlt,_,aO,aP,aQ,aK,aN⟩:=nC.at_ (Shape.nA.below J.2 (hsz▸hbe.out)) hy;have HT:R (mW.oI oh (s.take (k+1))=y.all oh):=Y (by rw[mW.vJ hy,aj.out];rfl);have aB:R (y.all oh=M->aE=M):=Y λh=>by rw[<-ag.out];exact mW.uB hy h
      have CY:=Y (aI y (jq hy) wr ar aK);generalize y.all oh=q at*;cases q with
      |true=>
       exact Rq
      |false=>
       have HE:R (ah=M):=Y (by rw[C.out,aB.out rfl]);exact Uu
     .obtain rfl:k=aw:=I
      have HE:R (ah=u):=by
       unfold R;have aL:s.take k=s:=by rw[<-af.out,ky]
       have aD:=aj.out;rw[aL]at aD;rw[C.out,<-ag.out,aD]
      exact GK
   .have C:R (ah=M):=Y (by rw[E.out,N.out];simp[A])
    have aJ:(T.toList==([]:List AC))=M:=by rw[ay.out];simp[A]
    go_wp2;go_returns;exact⟨by rw[C.out];rfl,J.1⟩
  |false=>
   by_cases A:aw=0
   .have C:R (ah=aE):=Y (by rw[E.out,N.out];simp[A])
    have aF:R (aE=u):=Y (by
     have:s=[]:=j5.1 (af.trans A);rw[<-ag.out,this];rfl)
    have aM:As (0<aw)=M:=by simp[A]
    subst A;go_wp2;go_loopw [3] (λiv ai=>∃k:Nat,iv=V X k/\k<=0/\R (mW.oI oh (s.take k)=u)/\R (iR (g+1) w1 ai)) (λiv _=>0 -(jF iv).toNat);case atStart=>exact⟨0,rfl,I,by simp[R,mW.oI],Y (iT _ _)⟩
    case round=>
     obtain⟨k,rfl,hk,aj,hbe⟩:=hrel;have aA:=(hbe.cell (p:=(Z g 2 U)) (jV g)).trans c2;have HF:=Y (J.1.trans (hbe.mono I));have hgr:g+1<=wr.heap.size:=by have:=hbe.size;omega
     obtain rfl:k=0:=I;have HE:R (ah=u):=Y (by rw[C.out,aF.out]);exact GK
   .have C:R (ah=M):=Y (by rw[E.out,N.out];simp[A])
    have aM:As (0<aw)=u:=nk;go_wp2;go_returns;exact⟨by rw[C.out];rfl,J.1⟩
def a2T(x:mW IL):ve x=(x.all oh&&As (x.deep<=16)&&As (x.count<=1024)):=rfl
def Zh(x:mW IL)(w:K)(v:iQ)(au:rf w v x.sub)(hc:x.count<=100000):
  iW iN 48 #[mI #[H (txt x.lab),mH x.lab.list,v]] w λe w'=>e=mK (mH (ve x))/\iR w.heap.size w w':=by
 have av:=Y (vg (T:=txt x.lab) (l:=x.lab.list) (t:=IT) au);obtain⟨oa,cap,rfl,aH,aP⟩:=b7 au;obtain⟨g,hg⟩:=o7 w;have ax:=Y (λ(W:K) (h:rf W (G oa x.sub.length cap) x.sub)=>Rs x W _ h);have ay:=Y (λ(W:K) (h:rf W (G oa x.sub.length cap) x.sub)=>WL x W _ h hc);have aI:=Y (λ(W:K) (h:rf W (G oa x.sub.length cap) x.sub)=>Rp x W _ h hc);have ag:=Y (a2T x);rw[hg]at av|-;generalize ve x=aE at*;generalize x.count=ah at*;generalize x.deep=dn at*;generalize x.all oh=aJ at*;generalize x.sub.length=aw at*;have ae:=a4U (ah:Int) 1024;have d8:=a4U (dn:Int) 16;go_in;go_upto_region 1 with fail;generalize w.alloc (mM #[H (txt x.lab),mH x.lab.list,G oa aw cap] IT)=w1 at*;have⟨az,ht1,hsz,c0,c1,c2,_⟩:=av.out _ rfl;have ai:=Y ht1;have aK:=Y az;have aA:=Y hsz;have aa:∀w2,iR w1.heap.size w1 w2->R (iR g w w2/\rf w2 (G oa aw cap) x.sub):=λw2 h=>⟨aK.trans (h.mono (by have:=aA.out;omega)),Shape.nA.below ai h⟩
 have aa:=Y aa;have hlt:g<w1.heap.size:=by have:=aA.out;omega
 cases aJ with
 |false=>
  go_wp2_with fail;refine pG (ax _ ai) λw2 A=> ?_
  have f2:=aa.out _ A;go_wp2;go_returns;exact⟨by rw[ag.out];rfl,f2.1⟩
 |true=>
  go_wp2_with fail;refine pG (ax _ ai) λw2 A=> ?_
  have f2:=aa.out _ A;have E:=Y A;have aB:=(A.cell (p:=(Z g 0 U)) hlt).trans c0;have aD:=(A.cell (p:=(Z g 1 U)) hlt).trans c1;have aF:=(A.cell (p:=(Z g 2 U)) hlt).trans c2;have J:g<w2.heap.size:=by have:=A.size;omega
  rcases d8 with⟨d8,aj⟩|⟨d8,aj⟩
  .go_wp2_with fail
   refine pG (ay _ f2.2) λw3 C=> ?_
   have N:=Y (E.trans (C.mono E.size));have f3:=aa.out _ N.out;have aL:=(C.cell (p:=(Z g 0 U)) J).trans aB;have aM:=(C.cell (p:=(Z g 1 U)) J).trans aD;have aN:=(C.cell (p:=(Z g 2 U)) J).trans aF;rcases ae with⟨ae,af⟩|⟨ae,af⟩
   all_goals
    go_wp2_with fail;refine pG (aI _ f3.2) λw4 aG=> ?_
    have ak:=Y (f3.1.trans (aG.mono (by have:=f3.1.size;omega)));go_wp2;go_returns;refine⟨?_,ak.out⟩;have aQ:=af.out;have aO:=aj.out;rw[ag.out];first|(rw[a8 (by omega:ah<=1024),a8 (by omega:dn<=16)];rfl)|(rw[bh (by omega:¬ah<=1024),a8 (by omega:dn<=16)];rfl)
  .go_wp2_with fail
   refine pG (ay _ f2.2) λw3 C=> ?_
   have N:=Y (E.trans (C.mono E.size));have f3:=aa.out _ N.out;go_wp2;go_returns;refine⟨?_,f3.1⟩;have aO:=aj.out;rw[ag.out,bh (by omega:¬dn<=16)];rfl
def O4(a:IL)(oa:Option j4)(n cap:Nat)(w:K)(hn:n<=9223372036854775807):
  iW iN 200 #[mI #[H (txt a),mH a.list,G oa n cap]] w λe w'=>e=mK (mH (qN a n))/\iR w.heap.size w w':=by
 obtain⟨g,hg⟩:=o7 w;have E:R (∀W,w.alloc (mM #[H (txt a),mH a.list,G oa n cap] IT)=W->iR g w W/\mY W g #[H (txt a),mH a.list,G oa n cap] IT):=Y λW h=>by
  subst h;exact⟨hg▸(iT _ w).alloc (iP _) _,hg▸mY.new w _ _⟩
 have C:R (qN a n=if a.list then As ((txt a).size=0)else As (n=0)):=Y (by rw[O1];rfl);have J:=Y (wO (txt a));rw[hg];generalize qN a n=aq at*;generalize txt a=T at*;generalize a.list=L at*;go_in;go_upto_region 1 with fail;generalize w.alloc (mM #[H T,mH L,G oa n cap] IT)=w1 at*;have⟨hb,hB⟩:=E.out _ rfl;have⟨c0,c1,c2⟩:=hB.a3;have HB:=Y hb;cases L with
 |true=>
  have⟨q,A⟩:=nE ((T.toList==([]:List AC)));have HE:R (aq=q):=Y (by rw[C.out,<-A,J.out];rfl);exact EO
 |false=>
  have⟨q,A⟩:=nE (((n:Int)==0));have HE:R (aq=q):=Y (by
   rw[C.out,<-A];by_cases h:n=0;.simp[h]
   .simp[h])
  exact EO
def NB(w:K)(b n:Nat):Prop:=mY w b #[V X (n:Int)] 3
abbrev Dk(b q:Nat)(w:K)(v:iQ)(s:List (mW IL)):Prop:=Ai.nA w (λc=>c≠b/\c≠q) v s
def Dk.upd{q:Nat}{s:List (mW IL)}(h:Dk b q w v s)(A:oC b q w w'):Dk b q w' v s:=
 Shape.nA.keep h A.size (λ_ _ h=>h) λc hc C=>A.block c hc C.1 C.2
def oC.of{q:Nat}(h:iR w.heap.size w w'):oC b q w w':=⟨h.os,h.tape,h.output,h.size,λi hi _ _=>h.block i hi⟩
def Kg(T:An)(l:Bool)(o:Option j4)(n c:Nat)(w:K):iW iN 205 #[mI #[H T,mH l,G o n c]] w λe w'=>e=mK (mH u)/\iR w.heap.size w w':=by
 have A:=Y ((iT _ w).alloc (iP _) (mM #[H T,mH l,G o n c] IT));go_in;go_wp2;go_returns;exact⟨rfl,A.out⟩
def Ak(fe:FuncId)(x:mW IL):Prop:=fe=200\/(fe=205/\x.all oh=u)
def Ak.cf(h:Ak fe x):∀a W,lJ iN (callFunc fe #[a]) W=.ok (.enter fe #[a]) W:=by
 rcases h with rfl|⟨rfl,_⟩
 .exact λ_ _=>rfl
 .exact λ_ _=>rfl
def Ak.sub{s:List (mW IL)}(h:Ak fe (.node a s)){y:mW IL}(hy:s[k]? =O y):Ak fe y:=by
 rcases h with h|⟨h,A⟩
 .exact .inl h
 .refine .inr ⟨h,?_⟩
  cases C:y.all oh with
  |true=>rfl
  |false=>
   simp only[mW.all,je]at A;rw[mW.uB hy C]at A;cases A.2
def a2U{s:List (mW IL)}(h:Ak fe (.node a s))(oa:Option j4)(cap:Nat)(w:K)(hn:s.length<=9223372036854775807):
  iW iN fe #[mI #[H (txt a),mH a.list,G oa s.length cap]] w λe w'=>e=mK (mH (qN a s.length))/\iR w.heap.size w w':=by
 rcases h with rfl|⟨rfl,A⟩
 .exact O4 a oa s.length cap w hn
 .simp only[mW.all,je,oh]at A
  rw[A.1];exact Kg _ _ _ _ _ w
structure Al(fe:FuncId)(w:K)(bc be bd bv:Nat):Prop where
 each:mY w be #[.func (.func fe) #[] #[]] 56
 visit:mY w bv #[.func (.func 238) #[] #[mG (O (Z bc 0 U)),mG (O (Z be 0 U)),mG (O (Z bd 0 U)),mG (O (Z bv 0 U))]] 273
 e1:be≠bc
 e2:be≠bd
 v1:bv≠bc
 v2:bv≠bd
 cd:bc≠bd
def Al.upd(h:Al fe w bc be bd bv)(A:oC bc bd w w'):Al fe w' bc be bd bv:=⟨A.blk h.each h.e1 h.e2,A.blk h.visit h.v1 h.v2,h.e1,h.e2,h.v1,h.v2,h.cd⟩
def Al.below(h:Al fe w bc be bd bv)(hb:iR w.heap.size w w'):Al fe w' bc be bd bv:=h.upd (oC.of hb)
def NB.below(h:NB w b n)(hb:iR w.heap.size w w'):NB w' b n:=a7 hb h (mY.lt h)
def Kh(x:mW IL)(d n:Nat):Bool:=As (d+x.deep<=17)&&As (n+x.count<=1024)&&x.all oh
def WM(x:mW IL):Kh x 1 0=ve x:=by
 unfold Kh ve;rw[show As (1+x.deep<=17)=As (x.deep<=16)by rw[bx];omega,show As (0+x.count<=1024)=As (x.count<=1024)by rw[bx];omega];cases x.all oh<;>cases As (x.deep<=16)<;>cases As (x.count<=1024)<;>rfl
abbrev Rt(g:Nat):iQ:=.func (.func 238) #[] #[mG (O (Z (g+2) 0 U)),mG (O (Z (g+1) 0 U)),mG (O (Z (g+3) 0 U)),mG (O (Z (g+4) 0 U))]
structure a8p(fe:FuncId)(g:Nat)(w w1 w2 w3 w4 w5:K)(a:IL)(v:iQ):Prop where
 e1:w.alloc (mM #[H (txt a),mH a.list,v] IT)=w1
 e2:w1.alloc (mM #[.func (.func fe) #[] #[]] 56)=w2
 e3:w2.alloc (mM #[V X 0] 3)=w3
 e4:w3.alloc (mM #[V X 0] 3)=w4
 e5:w4.alloc (mM #[.nilFunc] 273)=w5
structure Uv(fe:FuncId)(g:Nat)(w W:K)(a:IL)(v:iQ)(s:List (mW IL)):Prop where
 pV:iR g w W
 item:mY W g #[H (txt a),mH a.list,v] IT
 off:Dk (g+2) (g+3) W v s
 c:NB W (g+2) 0
 d:NB W (g+3) 0
 vis:Al fe W (g+2) (g+1) (g+3) (g+4)
 size:W.heap.size=g+5
def Zi{w1 w2 w3 w4 w5:K}{s:List (mW IL)}(hg:w.heap.size=g)(ai:rf w v s)(aj:a8p fe g w w1 w2 w3 w4 w5 a v)(h:w5.setCell (Z (g+4) 0 U) (Rt g)=W):
  Uv fe g w W a v s/\w1.heap.size=g+1/\w2.heap.size=g+2/\w3.heap.size=g+3/\w4.heap.size=g+4/\w5.cell? (Z (g+4) 0 U)=O .nilFunc/\w5.frozen? (Z (g+4) 0 U)=M:=by
 obtain⟨e1,e2,e3,e4,e5⟩:=aj;have N:w1.heap.size=g+1:=by rw[<-e1];simp;omega
 have aa:w2.heap.size=g+2:=by rw[<-e2];simp;omega
 have ae:w3.heap.size=g+3:=by rw[<-e3];simp;omega
 have af:w4.heap.size=g+4:=by rw[<-e4];simp;omega
 have ak:w5.heap.size=g+5:=by rw[<-e5];simp;omega
 have b1:iR g w w1:=by rw[<-e1,<-hg];exact(iT _ w).alloc (iP _) _
 have au:iR (g+1) w1 w2:=by rw[<-e2,<-N];exact(iT _ w1).alloc (iP _) _
 have b3:iR (g+2) w2 w3:=by rw[<-e3,<-aa];exact(iT _ w2).alloc (iP _) _
 have b4:iR (g+3) w3 w4:=by rw[<-e4,<-ae];exact(iT _ w3).alloc (iP _) _
 have av:iR (g+4) w4 w5:=by rw[<-e5,<-af];exact(iT _ w4).alloc (iP _) _
 have ax:mY w1 g #[H (txt a),mH a.list,v] IT:=by have:=mY.new w #[H (txt a),mH a.list,v] IT;rw[e1,hg]at this;exact this
 have ay:mY w2 (g+1) #[.func (.func fe) #[] #[]] 56:=by have:=mY.new w1 #[.func (.func fe) #[] #[]] 56;rw[e2,N]at this;exact this
 have az:mY w3 (g+2) #[V X 0] 3:=by have:=mY.new w2 #[V X 0] 3;rw[e3,aa]at this;exact this
 have aA:mY w4 (g+3) #[V X 0] 3:=by have:=mY.new w3 #[V X 0] 3;rw[e4,ae]at this;exact this
 have ag:mY w5 (g+4) #[.nilFunc] 273:=by have:=mY.new w4 #[.nilFunc] 273;rw[e5,af]at this;exact this
 have ah:iR (g+4) w4 W:=by
  rw[<-h];exact oO.below ((b9 (g+4) w5).set 0 _) av (iP _) I
 have C:=b4.trans (ah.mono I);have E:=b3.trans (C.mono I);have J:=au.trans (E.mono I);have A:=b1.trans (J.mono I);refine⟨?_,N,aa,ae,af,ag.cell 0,ag.free 0⟩;refine⟨A,a7 J ax I,?_,a7 C az I,a7 ah aA I,⟨a7 E ay I,?_,I,I,I,I,I⟩,by rw[<-h];simp[jr,ak]⟩;.exact Shape.nA.keep ai A.size (λc hc _=>by omega) λc hc _=>A.block c I
 .rw[<-h]
  exact ag.set 0 (Rt g)
def Dl(x:mW IL)(d n A bc bd:Nat)(w:K)(e:kV)(w':K):Prop:=
 e=mK (mH (Kh x d n))/\oC bc bd w w'/\(∃C,C<=1024/\NB w' bc C)/\(∃A,A<=16/\NB w' bd A)/\(Kh x d n=u->NB w' bc (n+x.count)/\NB w' bd (max A (d+x.deep - 1)))
def Uw(h:p:=by
 go_wp2_with fail;exact HP _ _ ⟨by rw[HE.out];rfl,HU1.out,⟨n,hn,HX1.2.1⟩,⟨dd,hdd,HX1.2.2.1⟩,λh=>by rw[HE.out]at h;cases h⟩):p:=h
def O5(fe:FuncId)(x:mW IL):Ak fe x->∀(w:K)(v:iQ)(d n dd bc be bd bv:Nat),Dk bc bd w v x.sub->NB w bc n->NB w bd dd->Al fe w bc be bd bv->d<=17->n<=1024->dd<=16->
  iW iN 238 #[mI #[H (txt x.lab),mH x.lab.list,v],V X d,mG (O (Z bc 0 U)),mG (O (Z be 0 U)),mG (O (Z bd 0 U)),mG (O (Z bv 0 U))] w (Dl x d n dd bc bd w):=by
 induction x using mW.ind with
 |h a s dw=>
  intro aD w v d n dd bc be bd bv aS bT bU dx hd hn hdd;have dz:=Y aD;have hcf:=aD.cf;simp only[mW.qm,mW.oW]at aS|-;obtain⟨oa,cap,rfl,bV,aY⟩:=b7 aS;obtain⟨g,hg⟩:=o7 w;have aZ:s.length<=9223372036854775807:=by unfold jd at aY;omega
  have HP:R (∀e w',(e=mK (mH (Kh (.node a s) d n))/\oC bc bd w w'/\(∃dA,dA<=1024/\NB w' bc dA)/\(∃dd,dd<=16/\NB w' bd dd)/\(Kh (.node a s) d n=u->NB w' bc (n+(1+mW.nH s))/\NB w' bd (max dd (d+(mW.oH s+1) - 1))))->Dl (.node a s) d n dd bc bd w e w'):=Y λ_ _ h=>h
  generalize dB:Dl (.node a s) d n dd bc bd w=dU at HP|-;have J:R (Kh (.node a s) d n=(As (d+(mW.oH s+1)<=17)&&As (n+(1+mW.nH s)<=1024)&&(qN a s.length&&mW.oI oh s))):=Y rfl;have fq:bc<g:=hg▸mY.lt bT;have fu:bd<g:=hg▸mY.lt bU
  have bW:R (∀W,w.alloc (mM #[H (txt a),mH a.list,G oa s.length cap] IT)=W->oC bc bd w W/\Dk bc bd W (G oa s.length cap) s/\NB W bc n/\NB W bd dd/\Al fe W bc be bd bv/\W.heap.size=g+1/\
    mY W g #[H (txt a),mH a.list,G oa s.length cap] IT):=Y λW h=>by
   subst h;have E:=(iT w.heap.size w).alloc (iP _) (mM #[H (txt a),mH a.list,G oa s.length cap] IT);exact⟨oC.of E,aS.upd (oC.of E),bT.below E,bU.below E,dx.below E,nk,hg▸mY.new w _ _⟩
  generalize Kh (.node a s) d n=aE at*;have⟨aw,bX⟩:=nE s.length;have aU:=Y bX;have dV:=Y dw;have⟨C,ag⟩:=nE (mW.nH s);have dD:=Y ag;have⟨D,ah⟩:=nE (mW.oH s);have dE:=Y ah;rw[bX]at bW aZ J|-;rw[ag,ah]at J;rw[ag,ah]at HP;clear aS bV aY dw bX bT bU ag ah dB dx;go_in;go_upto_region 1 with fail;generalize w.alloc (mM #[H (txt a),mH a.list,G oa aw cap] IT)=w1 at*;have⟨bg,bq,aF,bu,aG,hsz,hB⟩:=bW.out _ rfl;have⟨dW,g1,g2⟩:=hB.a3;have l0:w1.cell? (Z bc 0 U)=O (V X n):=aF.cell 0;have dX:w1.cell? (Z be 0 U)=O (.func (.func fe) #[] #[]):=aG.each.cell 0;have HU1:=Y bg;have HX1:=Y (iU bq (iU aF (iU bu (iU aG hB))));have aV:=Y (a2U aD oa cap w1 (aU.out▸aZ));rw[aU.out]at aV;clear bW bg bq aF bu aG hB;by_cases cd:16<d
  .have dY:As (16<(d:Int))=u:=nk
   have HE:R (aE=M):=Y (by rw[J.out,bh I];rfl);clear cd;exact Uw
  have dY:As (16<(d:Int))=M:=nk;have dZ:d<=16:=I;clear cd;by_cases bY:n=1024
  .have ed:((n:Int)==1024)=u:=by simp[bY]
   have HE:R (aE=M):=Y (by rw[J.out,bh (by omega:¬n+(1+C)<=1024),cI];rfl);clear bY;exact Uw
  have ed:((n:Int)==1024)=M:=qJ;have fw:n<=1023:=I;clear bY;generalize qN a aw=q at*;cases q with
  |false=>
   have HE:R (aE=M):=Y (by rw[J.out];simp);go_wp2_with fail;refine pG aV λw2 A=> ?_
   have ai:=Y (HU1.trans (oC.of A));have dF:=Y (HX1.2.1.below A);have dG:=Y (HX1.2.2.1.below A);clear A;go_wp2_with fail;exact HP _ _ ⟨by rw[HE.out];rfl,ai.out,⟨n,hn,dF.out⟩,⟨dd,hdd,dG.out⟩,λh=>by rw[HE.out]at h;cases h⟩
  |true=>
   have dH:R (aE=(As (d+(D+1)<=17)&&As (n+(1+C)<=1024)&&mW.oI oh s)):=Y (by rw[J.out];simp);clear J;have⟨dm,aH⟩:=nE (max dd d);have ek:(if dd<d then(d:Int)else(dd:Int))=(dm:Int):=by split<;>omega
   have aI:max (dd:Int) (d:Int)=(dm:Int):=I;have aI:dm<=16:=I;have bz:=Y aH;clear aH;go_wp2_with fail;refine pG aV λw2 A=> ?_
   have aj:=HX1.2.1.below A;have hd2:=HX1.2.2.1.below A;have a0:w2.cell? (Z bc 0 U)=O (V X n):=aj.cell 0;have a1:w2.frozen? (Z bc 0 U)=M:=aj.free 0;have b0:w2.cell? (Z bd 0 U)=O (V X dd):=hd2.cell 0;have b1:w2.frozen? (Z bd 0 U)=M:=hd2.free 0;have bA:bc≠bd:=HX1.2.2.2.1.cd;have dI:g≠bc:=I;have dJ:g≠bd:=I;have ai:=Y (HU1.trans (oC.of A));have eu:=Y (iU aj (iU hd2 (iU (HX1.1.upd (oC.of A)) (iU (HX1.2.2.2.1.below A) (a7 A HX1.2.2.2.2 I)))));clear A aj hd2 aV dW g1 g2 dX l0;have bB:R (∀W,(w2.setCell (Z bc 0 U) (V X ((n:Int)+1))).setCell (Z bd 0 U) (V X dm)=W->oC bc bd w2 W/\NB W bc (n+1)/\NB W bd dm/\mY W g #[H (txt a),mH a.list,G oa aw cap] IT/\Dk bc bd W (G oa aw cap) s/\Al fe W bc be bd bv):=Y λW h=>by
    subst h;have⟨eB,eD,eF,eG,eH⟩:=eu.out;have N:oC bc bd w2 ((w2.setCell (Z bc 0 U) (V X ((n:Int)+1))).setCell (Z bd 0 U) (V X dm)):=((eI bc bd w2).BU 0 _).QS 0 _;refine⟨N,?_,?_,N.blk eH dI dJ,eF.upd N,eG.upd N⟩
    .have:=(eK eB 0 (V X ((n:Int)+1))).setOther (a:=(Z bd 0 U)) bA (V X dm)
     exact this
    .have:=(cx eD (a:=(Z bc 0 U)) (mf bA) (V X ((n:Int)+1))).set 0 (V X dm)
     exact this
   go_upto_region 5 with fail;generalize (w2.setCell (Z bc 0 U) (V X ((n:Int)+1))).setCell (Z bd 0 U) (V X dm)=w3 at*;have⟨bC,bD,bE,bF,bG,bH⟩:=bB.out _ rfl;have fA:w3.cell? (Z g 2 U)=O (G oa aw cap):=bF.cell 2;have aA:=Y (iU bC (iU bD (iU bE (iU bG bH))));clear bB bC bD bE bF bG bH a0 a1 b0 b1;go_wp2
   go_loopw [10,31] (λ_ iv bZ=>∃k:Nat,iv=V X k/\k<=aw/\R (oC bc bd w3 bZ)/\R (NB bZ bc (n+1+mW.nH (s.take k))/\n+1+mW.nH (s.take k)<=1024)/\R (∃e,e<=16/\NB bZ bd e/\e=max dm (d+mW.oH (s.take k)))/\
    R (d+1+mW.oH (s.take k)<=17/\mW.oI oh (s.take k)=u)) (λ_ iv _=>aw -(jF iv).toNat)
   case atStart=>exact⟨0,rfl,I,Y (eI _ _ _),Y (by simpa [mW.nH]using⟨aA.2.1,I⟩),Y ⟨dm,aI,aA.2.2.1,by have:=bz.out;simp[mW.oH];omega⟩,Y ⟨by simp[mW.oH];omega,by simp[mW.oI]⟩⟩
   case round=>
    obtain⟨k,rfl,hk,aW,ak,au,aX⟩:=hrel;have eO:R (oC bc bd w wr):=Y (ai.trans (aA.1.trans aW));by_cases c:k<aw
    .have⟨y,hy⟩:∃y,s[k]? =O y:=⟨_,ja (by rw[aU.out];exact c)⟩
     have bI:=aA.2.2.2.1.upd aW.out;obtain⟨b,off,ar,rfl,hlt,cz,fB,fC,eP,N,dK⟩:=nC.at_ bI hy;have bJ:=aA.2.2.2.2.upd aW.out;obtain⟨ou,cu,rfl,_,_⟩:=b7 N;have⟨aa,bK⟩:=nE y.sub.length;rw[bK]at N eP;have⟨e,he,bL,aJ⟩:=au.out;have dL:=Y aJ;clear aJ;have⟨af,aK⟩:=nE (n+1+mW.nH (s.take k));have av:=ak.out;rw[aK]at av
     have dM:R (∀W,wr.alloc (mM #[H (txt y.lab),mH y.lab.list,G ou aa cu] IT)=W->oC bc bd w3 W/\Dk bc bd W (G ou aa cu) y.sub/\NB W bc af/\NB W bd e/\Al fe W bc be bd bv/\
       mY W wr.heap.size #[H (txt y.lab),mH y.lab.list,G ou aa cu] IT):=Y λW h=>by
      subst h;have E:=(iT wr.heap.size wr).alloc (iP _) (mM #[H (txt y.lab),mH y.lab.list,G ou aa cu] IT);exact⟨aW.trans (oC.of E),Dk.upd N (oC.of E),av.1.below E,bL.below E,bJ.below E,mY.new wr _ _⟩
     have dN:=Y av.2;have bM:=Y aK;clear N dK bK bL bI bJ av aK cz;go_upto_region 8 with fail;generalize wr.alloc (mM #[H (txt y.lab),mH y.lab.list,G ou aa cu] IT)=w4 at*;have⟨aL,bN,bO,bP,aM,ax⟩:=dM.out _ rfl;have b0:w4.cell? (Z wr.heap.size 0 U)=O (H (txt y.lab)):=ax.cell 0;have b1:w4.cell? (Z wr.heap.size 1 U)=O (mH y.lab.list):=ax.cell 1;have fD:w4.cell? (Z wr.heap.size 2 U)=O (G ou aa cu):=ax.cell 2;have v0:w4.cell? (Z bv 0 U)=O (.func (.func 238) #[] #[mG (O (Z bc 0 U)),mG (O (Z be 0 U)),mG (O (Z bd 0 U)),mG (O (Z bv 0 U))]):=aM.visit.cell 0
     have dO:R (iW iN 238 #[mI #[H (txt y.lab),mH y.lab.list,G ou aa cu],V X ((d:Int)+1),mG (O (Z bc 0 U)),mG (O (Z be 0 U)),mG (O (Z bd 0 U)),mG (O (Z bv 0 U))] w4
       (Dl y (d+1) af e bc bd w4)):=Y (dV y (jq hy) (dz.sub hy) w4 (G ou aa cu) (d+1) af e bc be bd bv bN bO bP aM I dN he)
     have dP:=Y (ai.trans (aA.1.trans aL));have cK:=Y aL;have aN:R (Kh y (d+1) af=(As (d+1+y.deep<=17)&&As (af+y.count<=1024)&&y.all oh)):=Y rfl;clear dM aL bN bO bP aM ax;have⟨r,cZ⟩:=nE (Kh y (d+1) af);rw[cZ]at aN;have bQ:=Y cZ;clear cZ;cases r with
     |true=>
      go_wp2_with fail;refine(dO).mono ?_;rintro e2 w5 ⟨rfl,ae,ay,az,hok⟩;rw[bQ.out]at hok|-;have aO:=Y (cK.trans ae);have aP:=Y (hok rfl).1;have aQ:=Y (hok rfl).2;clear ae ay az hok;go_wp2_with fail;have aR:=aN.out;have df:=mW.xW hy;have dh:=mW.xI hy;have eQ:=mW.vJ (p:=oh) hy;have eT:=bM.out;have aB:=aX.out;simp only[Bool.true_eq,je,bb]at aR;go_roundw;case rel=>
       refine⟨k+1,by go_num,I,Y aO.out,Y ⟨?_,by rw[df];omega⟩,Y ⟨_,?_,aQ.out,?_⟩,Y ⟨by rw[dh];omega,by rw[eQ,aB.2,aR.2];rfl⟩⟩
       .rw[df,show n+1+(mW.nH (s.take k)+y.count)=af+y.count by omega]
        exact aP
       .omega
       .have:=dL.out
        rw[dh];omega
      case measure=>simp[jF];omega
     |false=>
      go_wp2_with fail;refine(dO).mono ?_;rintro e2 w5 ⟨rfl,ae,ay,az,hok⟩;rw[bQ.out];have aO:=Y (dP.trans ae);have aP:=Y ay;have aQ:=Y az;clear ae ay az hok;go_wp2_with fail;have bR:aE=M:=by
       have aR:=aN.out;have df:=mW.xW hy;have dh:=mW.xI hy;have eT:=bM.out;have eU:=mW.xH s (k+1);have eX:=Ut.ui s (k+1);rw[dD.out]at eU;rw[dE.out]at eX;have eY:¬(d+(D+1)<=17/\n+(1+C)<=1024/\mW.oI oh s=u):=by
        rintro⟨g1,g2,g3⟩;have e3:y.all oh=u:=by
         cases dQ:y.all oh with
         |true=>rfl
         |false=>rw[mW.uB hy dQ]at g3;cases g3
        rw[a8 I,a8 I,e3]at aR;cases aR
       rw[dH.out];cases aB:(As (d+(D+1)<=17)&&As (n+(1+C)<=1024)&&mW.oI oh s)with
       |false=>rfl
       |true=>
        exfalso;simp only[je,bb]at aB;exact eY ⟨aB.1.1,aB.1.2,aB.2⟩
      exact HP _ _ ⟨by rw[bR];rfl,aO.out,aP.out,aQ.out,λh=>by rw[bR]at h;cases h⟩
    .obtain rfl:k=aw:=I
     have dR:s.take k=s:=by rw[<-aU.out,ky]
     rw[dR]at ak aX au;rw[dD.out]at ak;rw[dE.out]at aX au;go_wp2_with fail;have eZ:=aX.out;have hc:=ak.out;have dS:aE=u:=by rw[dH.out,a8 I,a8 I,eZ.2];rfl
     have⟨e,he,bS,aJ⟩:=au.out;have aH:=bz.out;refine HP _ _ ⟨by rw[dS];rfl,eO.out,⟨_,hc.2,hc.1⟩,⟨e,he,bS⟩,λ_=>⟨by rw[show n+(1+C)=n+1+C by omega];exact hc.1,?_⟩⟩;rw[show max dd (d+(D+1) - 1)=e by omega];exact bS
def Ux(x:mW IL):Int:=if ve x=u then(x.count:Int)else 0
def Uy(x:mW IL):Int:=if ve x=u then(x.deep:Int)else 0
def Ru(fe:FuncId)(x:mW IL)(w:K)(v:iQ)(az:rf w v x.sub)(aN:Ak fe x):
  iW iN 199 #[mI #[H (txt x.lab),mH x.lab.list,v],.func (.func fe) #[] #[]] w λe w'=>e=mK (mJ #[V X (Ux x),V X (Uy x),mH (ve x)])/\iR w.heap.size w w':=by
 obtain⟨g,hg⟩:=o7 w;obtain⟨oa,cap,rfl,aA,aI⟩:=b7 az;have⟨w1,e1⟩:=nE (w.alloc (mM #[H (txt x.lab),mH x.lab.list,G oa x.sub.length cap] IT));have⟨w2,e2⟩:=nE (w1.alloc (mM #[.func (.func fe) #[] #[]] 56));have⟨w3,e3⟩:=nE (w2.alloc (mM #[V X 0] 3));have⟨w4,e4⟩:=nE (w3.alloc (mM #[V X 0] 3));have⟨w5,e5⟩:=nE (w4.alloc (mM #[.nilFunc] 273));have aB:=Zi (W:=w5.setCell (Z (g+4) 0 U) (Rt g)) hg az ⟨e1,e2,e3,e4,e5⟩ rfl;obtain⟨hI,aO,aP,aQ,aR,aS,aD⟩:=aB;have⟨aE,N⟩:=nE (ve x);have aU:=Y N;have⟨sn,aa⟩:=nE (Ux x);have⟨aV,ae⟩:=nE (Uy x);have aj:R (sn=(if aE=u then(x.count:Int)else 0)/\aV=(if aE=u then(x.deep:Int)else 0)):=Y ⟨by rw[<-aa,<-N];rfl,by rw[<-ae,<-N];rfl⟩;rw[aa,ae];have J:=Y hI;have aJ:=Y (λ(h:Uv fe g w (w5.setCell (Z (g+4) 0 U) (Rt g)) x.lab (G oa x.sub.length cap) x.sub)=>O5 fe x aN (w5.setCell (Z (g+4) 0 U) (Rt g)) (G oa x.sub.length cap) 1 0 0 (g+2) (g+1) (g+3) (g+4) h.off h.c h.d h.vis mX mX mX);rw[hg,N];clear az aA aI N hI aa ae;generalize x.sub.length=aw at*;go_in;go_upto_region 3 with fail;generalize w5.setCell (Z (g+4) 0 U) (Rt g)=af at*;have v0:af.cell? (Z (g+4) 0 U)=O (Rt g):=J.vis.visit.cell 0;have bu:af.cell? (Z g 0 U)=O (H (txt x.lab)):=J.item.cell 0;have i1:af.cell? (Z g 1 U)=O (mH x.lab.list):=J.item.cell 1;have i2:af.cell? (Z g 2 U)=O (G oa aw cap):=J.item.cell 2;have aK:=Y (aJ J);clear aJ e1 e2 e3 e4 e5 aS aD aO aP aQ aR;go_wp2_with fail;refine(aK).mono ?_;rintro e A ⟨rfl,ak,⟨ag,bg,C⟩,⟨d7,bq,E⟩,hok⟩;rw[WM,aU.out]at hok|-;have aL:R (aE=u->ag=x.count/\d7=x.deep):=Y λh=>by
  have⟨ah,aW⟩:=hok h;have aD:=(Eq.symm (C.cell 0)).trans (ah.cell 0);have aX:=(Eq.symm (E.cell 0)).trans (aW.cell 0);simp only[ji,jb,lS,Value.int.injEq,true_and]at aD aX;omega
 clear hok;have a0:A.cell? (Z (g+2) 0 U)=O (V X ag):=C.cell 0;have a1:A.frozen? (Z (g+2) 0 U)=M:=C.free 0;have b0:A.cell? (Z (g+3) 0 U)=O (V X d7):=E.cell 0;have b1:A.frozen? (Z (g+3) 0 U)=M:=E.free 0;have au:g+2≠g+3:=I;have av:R (∀ar v:iQ,iR g w ((A.setCell (Z (g+2) 0 U) ar).setCell (Z (g+3) 0 U) v)):=Y λar v=>by
  have ai:oC (g+2) (g+3) af ((A.setCell (Z (g+2) 0 U) ar).setCell (Z (g+3) 0 U) v):=(ak.BU 0 ar).QS 0 v;have h0:=J.pV;refine⟨ai.os.trans h0.os,ai.tape.trans h0.tape,ai.output.trans h0.output,jk h0.size ai.size,λc hc=> ?_⟩;exact(ai.block c (by have:=J.size;omega) I I).trans (h0.block c hc)
 have ax:R (∀ar v:iQ,((A.setCell (Z (g+2) 0 U) ar).setCell (Z (g+3) 0 U) v).cell? (Z (g+2) 0 U)=O ar/\((A.setCell (Z (g+2) 0 U) ar).setCell (Z (g+3) 0 U) v).cell? (Z (g+3) 0 U)=O v):=Y λar v=>
  ⟨((eK C 0 ar).setOther (a:=(Z (g+3) 0 U)) au v).cell 0,((cx E (a:=(Z (g+2) 0 U)) (mf au) ar).set 0 v).cell 0⟩
 clear ak C E;cases aE with
 |false=>
  go_wp2_with fail;have⟨aF,ah⟩:=ax.out (V X 0) (V X 0);refine iY (v:=mJ #[V X 0,V X 0,mH M]) (by simp[jv,Tryz.results199,go_sem,aF,ah]) rfl ?_;have⟨aG,aH⟩:=aj.out;subst aG aH;exact⟨rfl,av _ _⟩
 |true=>
  go_wp2_with fail;go_big_region;have⟨aF,ah⟩:=ax.out (V X ag) (V X d7);have ay:=(av (V X ag) (V X d7)).drew;have aM:=Y ay;clear ay;go_wp2_with fail;refine iY (v:=mJ #[V X ag,V X d7,mH u]) (by simp[jv,Tryz.results199,go_sem,aF,ah]) rfl ?_;have⟨aG,aH⟩:=aj.out;have⟨aY,aZ⟩:=aL.out (by first|trivial|rfl);subst aG aH aY aZ;exact⟨rfl,aM.out⟩
def IA(x:mW IL)(w:K)(v:iQ)(A:rf w v x.sub):
  iW iN 199 #[mI #[H (txt x.lab),mH x.lab.list,v],.func (.func 200) #[] #[]] w λe w'=>e=mK (mJ #[V X (Ux x),V X (Uy x),mH (ve x)])/\iR w.heap.size w w':=Ru _ x w v A (.inl rfl)
def Dm(x:mW IL)(deep most:Int):Int:=if ve x=u then if deep<(x.deep:Int)then 6 else if most<(x.count:Int)then 4 else 0 else 1
def Rv(h:p:=by
 go_wp2_with fail;refine pG CS1 λw2 hb2=> ?_
 have HB2:=Y (HB.trans (hb2.mono (by have:=HS.out;omega)));go_wp2;go_returns;exact⟨by rw[HE2.out];rfl,HB2.out⟩):p:=h
def WN(x:mW IL)(deep most:Int)(w:K)(v:iQ)(ae:rf w v x.sub):
  iW iN 159 #[mI #[H (txt x.lab),mH x.lab.list,v],V X deep,V X most] w λe w'=>e=mK (V X (Dm x deep most))/\iR w.heap.size w w':=by
 have af:=Y (vg (T:=txt x.lab) (l:=x.lab.list) (t:=IT) ae);obtain⟨oa,cap,rfl,ak,ax⟩:=b7 ae;obtain⟨g,hg⟩:=o7 w;have C:=Y (λ(W:K) (h:rf W (G oa x.sub.length cap) x.sub)=>IA x W _ h);have⟨E,ag⟩:=nE (Dm x deep most);have aa:R (E=if ve x=u then if deep<(x.deep:Int)then 6 else if most<(x.count:Int)then 4 else 0 else 1):=Y (by rw[<-ag];rfl);rw[hg]at af|-;rw[ag];unfold Ux Uy at C;generalize ve x=aE at*;generalize x.sub.length=aw at*;have⟨J,CB⟩:∃J:Int,(x.deep:Int)=J:=⟨_,rfl⟩;have⟨nx,ah⟩:∃nx:Int,(x.count:Int)=nx:=⟨_,rfl⟩;rw[CB,ah]at C aa;go_in;go_upto_region 1 with fail;generalize w.alloc (mM #[H (txt x.lab),mH x.lab.list,G oa aw cap] IT)=w1 at*;have⟨ai,ht1,hsz,c0,c1,c2,_⟩:=af.out _ rfl;have aj:=Y ht1;have HB:=Y ai;have HS:=Y hsz;cases aE with
 |false=>
  have CS1:=Y (C _ aj);have A:R (E=1):=Y (by rw[aa.out];rfl);go_wp2_with fail;refine pG CS1 λw2 hb2=> ?_
  have HB2:=Y (HB.trans (hb2.mono (by have:=HS.out;omega)));go_wp2;go_returns;exact⟨by rw[A.out];rfl,HB2.out⟩
 |true=>
  have CS1:=Y (C _ aj);simp only[cH]at CS1;have A:R (E=if deep<J then 6 else if most<nx then 4 else 0):=Y (by rw[aa.out];rfl);by_cases cd:deep<J
  .have HE2:R (E=6):=Y (by rw[A.out,Ax cd])
   have au:=a8 cd;exact Rv
  have au:=bh cd;by_cases N:most<nx
  .have HE2:R (E=4):=Y (by rw[A.out,At cd,Ax N])
   have av:=a8 N;exact Rv
  .have HE2:R (E=0):=Y (by rw[A.out,At cd,At N])
   have av:=bh N;exact Rv
def a4V(h:p:=by
 rcases hrel with⟨rfl,HQ⟩|⟨rfl,HQ⟩|⟨rfl,HQ⟩|⟨rfl,HQ⟩
 .have c0:=(HP _ _ HQ).cell 0
  have CC:=Y (H1 _ HQ);go_wp2_with fail;refine pG CC λw2 hp=> ?_
  have HP2:=Y hp;by_cases c:k1=0
  .have HC:=Y c
   subst c;go_wp2;go_roundw;case rel=>exact .inr (.inl ⟨by go_num,Y ⟨HP2.out,by first|trivial|rfl⟩⟩)
   case measure=>simp[jF]
  .have n0:(k1 !=0)=u:=by simp[c]
   have HC:=Y c;go_wp2;go_returns;have he:=HE.out;have hn:=HN.out;rw[Ax HC.out]at he hn;subst he hn;exact⟨rfl,HP2.out⟩
 .have c0:=(HP _ _ HQ.1).cell 1
  have CC:=Y (H2 HQ.2 _ HQ.1);go_wp2_with fail;refine pG CC λw2 hp=> ?_
  have HP2:=Y hp;have HK1:=Y HQ.2;by_cases c:k2=0
  .have HC:=Y c
   subst c;go_wp2;go_roundw;case rel=>exact .inr (.inr (.inl ⟨by go_num,Y ⟨HP2.out,HK1.out,by first|trivial|rfl⟩⟩))
   case measure=>simp[jF]
  .have n0:(k2 !=0)=u:=by simp[c]
   have HC:=Y c;go_wp2;go_returns;have he:=HE.out;have hn:=HN.out;rw[At (λh=>h HK1.out),Ax HC.out]at he hn;subst he hn;exact⟨rfl,HP2.out⟩
 .have c0:=(HP _ _ HQ.1).cell 2
  have CC:=Y (H3 HQ.2.1 HQ.2.2 _ HQ.1);go_wp2_with fail;refine pG CC λw2 hp=> ?_
  have HP2:=Y hp;have HK1:=Y HQ.2;by_cases c:k3=0
  .have HC:=Y c
   subst c;go_wp2;go_roundw;case rel=>exact .inr (.inr (.inr ⟨by go_num,Y ⟨HP2.out,HK1.1,HK1.2,by first|trivial|rfl⟩⟩))
   case measure=>simp[jF]
  .have n0:(k3 !=0)=u:=by simp[c]
   have HC:=Y c;go_wp2;go_returns;have he:=HE.out;have hn:=HN.out;rw[At (λh=>h HK1.1),At (λh=>h HK1.2)]at he hn;subst he hn;exact⟨rfl,HP2.out⟩
 .go_wp2
  go_returns;have he:=HE.out;have hn:=HN.out;rw[At (λh=>h HQ.2.1),At (λh=>h HQ.2.2.1)]at he hn;subst hn;rw[HQ.2.2.2]at he;subst he;exact⟨rfl,HQ.1⟩):p:=h
def O6(w:K)(J cb N:Array iQ)(b:Nat)(T:jl)(k1 k2 k3:Int)(P:Nat->K->Prop)(ae:∀k W,P k W->mY W b #[.func (.func 156) #[] J,.func (.func 158) #[] cb,.func (.func 160) #[] N] T)(h0:P 0 w)(af:∀W,P 0 W->iW iN 156 J W λe A=>e=mK (V X k1)/\P 1 A)(ag:k1=0->∀W,P 1 W->iW iN 158 cb W λe A=>e=mK (V X k2)/\P 2 A)(ah:k1=0->k2=0->∀W,P 2 W->iW iN 160 N W λe A=>e=mK (V X k3)/\P 3 A):
  iW iN 155 #[G (O (Z b 0 U)) 3 3] w λe A=>e=mK (V X (if k1≠0 then k1 else if k2≠0 then k2 else k3))/\P (if k1≠0 then 1 else if k2≠0 then 2 else 3) A:=by
 have HP:=Y ae;have H1:=Y af;have ai:=Y h0;have⟨E,aa⟩:=nE ((if k1≠0 then k1 else if k2≠0 then k2 else k3));have⟨n,hn⟩:=nE ((if k1≠0 then 1 else if k2≠0 then 2 else 3));have HE:=Y aa;have HN:=Y hn;have H2:=Y ag;have H3:=Y ah;rw[aa,hn];go_in;go_wp2;go_loopw [8] (λkv C=>(kv=V X 0/\R (P 0 C))\/(kv=V X 1/\R (P 1 C/\k1=0))\/(kv=V X 2/\R (P 2 C/\k1=0/\k2=0))\/(kv=V X 3/\R (P 3 C/\k1=0/\k2=0/\k3=0))) (λkv _=>3 -(jF kv).toNat);case atStart=>exact .inl ⟨rfl,ai⟩
 case round=>
  exact a4V
def O7(w:K)(J cb N:Array iQ)(b:Nat)(T:jl)(k1 k2 k3:Int)(P:Nat->K->Prop)(ae:∀k W,P k W->mY W b #[.func (.func 162) #[] J,.func (.func 164) #[] cb,.func (.func 166) #[] N] T)(h0:P 0 w)(af:∀W,P 0 W->iW iN 162 J W λe A=>e=mK (V X k1)/\P 1 A)(ag:k1=0->∀W,P 1 W->iW iN 164 cb W λe A=>e=mK (V X k2)/\P 2 A)(ah:k1=0->k2=0->∀W,P 2 W->iW iN 166 N W λe A=>e=mK (V X k3)/\P 3 A):
  iW iN 155 #[G (O (Z b 0 U)) 3 3] w λe A=>e=mK (V X (if k1≠0 then k1 else if k2≠0 then k2 else k3))/\P (if k1≠0 then 1 else if k2≠0 then 2 else 3) A:=by
 have HP:=Y ae;have H1:=Y af;have ai:=Y h0;have⟨E,aa⟩:=nE ((if k1≠0 then k1 else if k2≠0 then k2 else k3));have⟨n,hn⟩:=nE ((if k1≠0 then 1 else if k2≠0 then 2 else 3));have HE:=Y aa;have HN:=Y hn;have H2:=Y ag;have H3:=Y ah;rw[aa,hn];go_in;go_wp2;go_loopw [8] (λkv C=>(kv=V X 0/\R (P 0 C))\/(kv=V X 1/\R (P 1 C/\k1=0))\/(kv=V X 2/\R (P 2 C/\k1=0/\k2=0))\/(kv=V X 3/\R (P 3 C/\k1=0/\k2=0/\k3=0))) (λkv _=>3 -(jF kv).toNat);case atStart=>exact .inl ⟨rfl,ai⟩
 case round=>
  exact a4V
def WO(x:mW IL)(w:K)(v:iQ)(A:rf w v x.sub):
  iW iN 199 #[mI #[H (txt x.lab),mH x.lab.list,v],.func (.func 200) #[] #[]] w λe w'=>(∃a b:Int,e=mK (mJ #[V X a,V X b,mH (ve x)]))/\iR w.heap.size w w':=(IA x w v A).mono λ_ _ h=>⟨⟨_,_,h.1⟩,h.2⟩
def O8(x:mW IL)(w:K)(v:iQ)(A:rf w v x.sub):
  iW iN 195 #[mI #[H (txt x.lab),mH x.lab.list,v]] w λe w'=>e=mK (mH (ve x))/\iR w.heap.size w w':=by
 have C:=Y (vg (T:=txt x.lab) (l:=x.lab.list) (t:=IT) A);obtain⟨oa,cap,rfl,aa,ai⟩:=b7 A;obtain⟨g,hg⟩:=o7 w;have ae:=Y (λ(W:K) (h:rf W (G oa x.sub.length cap) x.sub)=>WO x W _ h);rw[hg]at C|-;generalize ve x=aE at*;generalize x.sub.length=aw at*;go_in;go_upto_region 1 with fail;generalize w.alloc (mM #[H (txt x.lab),mH x.lab.list,G oa aw cap] IT)=w1 at*;have⟨E,ht1,hsz,c0,c1,c2,_⟩:=C.out _ rfl;have af:=Y ht1;have ag:=Y E;have ah:=Y hsz;go_wp2_with fail;refine(ae _ af).mono ?_;rintro e w2 ⟨⟨a,b,rfl⟩,J⟩;have N:=Y (ag.trans (J.mono (by have:=ah.out;omega)));go_wp2;go_returns;exact⟨rfl,N.out⟩
end
section
structure TL where
 kind:Int
 size:Int
 tail:Int
 deriving DecidableEq
def TL.wf(a:TL):Prop:=(lN X a.kind).wf=u/\(lN X a.size).wf=u/\(lN X a.tail).wf=u
def nK:Shape TL:=⟨4,λa v=>[V X a.kind,V X a.size,v,V X a.tail],TL.wf,λ_ _=>rfl⟩
def qd(a:TL)(n:Nat):Bool:=
 As ((a.kind=1/\(a.size=1\/a.size=2\/a.size=4\/a.size=8)/\n=0/\a.tail=0)\/(a.kind=2/\1<=a.size/\a.size<=65536/\n=0/\a.tail=0)\/
  (a.kind=3/\0<=a.size/\a.size<=65536/\n=0/\a.tail=0)\/(a.kind=4/\0<=a.size/\a.size<=1024/\n=1/\a.tail=0)\/(a.kind=5/\a.size=0/\n<=16/\0<=a.tail/\a.tail<=n))
def nW(a:TL)(s:List (mW TL)):Bool:=qd a s.length
def pg(x:mW TL):Bool:=As (x.count<=64)&&As (x.deep<=8)&&x.all nW
def vC(b:AC):Bool:=As (48<=b.toNat)&&As (b.toNat<=57)
def pM:List AC->List AC
 |[]=>[]
 |b::r=>if vC b then b::pM r else []
def past:List AC->List AC
 |[]=>[]
 |b::r=>if vC b then past r else b::r
def zh(ds:List AC):Nat:=ds.foldl (λn b=>10*n+(b.toNat - 48)) 0
def Am(ds:List AC):Bool:=match ds with
 |[]=>M
 |[_]=>u
 |b::_=>As (b.toNat≠48)
def num(most:Nat)(l:List AC):Option (Nat×List AC):=if Am (pM l)&&As (zh (pM l)<=most)then O (zh (pM l),past l)else U
def Ao(ds:List AC):Nat:=ds.foldl (λn b=>if n<1000000 then 10*n+(b.toNat - 48)else n) 0
def yw(l:List AC):Option (Nat×List AC):=if Am (pM l)then O (Ao (pM l),past l)else U
def mark(l:List AC)(tail:Nat):Option (List AC×Nat):=match l with
 |63::r=>O (r,tail+1)
 |l=>if 0<tail then U else O (l,tail)
def xJ(Iw:List AC->Nat->Option (mW TL×List AC×Nat)):Nat->List AC->Nat->List (mW TL)->Nat->Option (mW TL×List AC×Nat)
 |0,_,_,_,_=>U
 |f+1,l,n,sub,tail=>(mark l tail).bind λq=>(Iw q.1 n).bind λy=>match y.2.1 with
  |125::r=>O (.node ⟨5,0,q.2⟩ (sub++[y.1]),r,y.2.2)
  |44::r=>xJ Iw f r y.2.2 (sub++[y.1]) q.2
  |_=>U
def rd:Nat->List AC->Nat->Option (mW TL×List AC×Nat)
 |0,_,_=>U
 |d+1,l,n=>if n=0 then U else match l with
  |[]=>U
  |b::r=>
   if b=117 then(num 64 r).bind λq=>if q.1 % 8=0 then O (.node ⟨1,(q.1/8:Nat),0⟩ [],q.2,n - 1)else U
   else if b=98 then(num 65536 r).bind λq=>O (.node ⟨2,q.1,0⟩ [],q.2,n - 1)
   else if b=115 then(num 65536 r).bind λq=>O (.node ⟨3,q.1,0⟩ [],q.2,n - 1)
   else if b=91 then(rd d r (n - 1)).bind λy=>match y.2.1 with
    |58::r2=>(num 1024 r2).bind λq=>match q.2 with
     |93::r4=>O (.node ⟨4,q.1,0⟩ [y.1],r4,y.2.2)
     |_=>U
    |_=>U
   else if b=123 then match r with
    |125::r1=>O (.node ⟨5,0,0⟩ [],r1,n - 1)
    |_=>xJ (rd d) (n+1) r (n - 1) [] 0
   else U
def o5(pf:List AC->Option (mW TL×List AC)):Nat->List AC->List (mW TL)->Nat->Option (mW TL×List AC)
 |0,_,_,_=>U
 |f+1,l,sub,tail=>match l with
  |[]=>U
  |b::r=>if b=125 then O (.node ⟨5,0,tail⟩ sub,r)else
   (if sub.isEmpty then O l else if b=44 then O r else U).bind λl1=>(mark l1 tail).bind λq=>(pf q.1).bind λy=>o5 pf f y.2 (sub++[y.1]) q.2
def ps:Nat->List AC->Option (mW TL×List AC)
 |0,_=>U
 |d+1,l=>match l with
  |[]=>U
  |b::r=>
   if b=117 then(yw r).bind λq=>if q.1 % 8=0 then O (.node ⟨1,(q.1/8:Nat),0⟩ [],q.2)else U
   else if b=98 then(yw r).bind λq=>O (.node ⟨2,q.1,0⟩ [],q.2)
   else if b=115 then(yw r).bind λq=>O (.node ⟨3,q.1,0⟩ [],q.2)
   else if b=91 then(ps d r).bind λy=>match y.2 with
    |58::r2=>(yw r2).bind λq=>match q.2 with
     |93::r4=>O (.node ⟨4,q.1,0⟩ [y.1],r4)
     |_=>U
    |_=>U
   else if b=123 then o5 (ps d) (r.length+1) r [] 0
   else U
def O9(ds:List AC)(a:Nat):a<=ds.foldl (λn b=>10*n+(b.toNat - 48)) a:=by
 induction ds generalizing a with
 |nil=>simp
 |cons b r A=>simp only[eC];exact jk I (A _)
def Rw(ds:List AC)(a:Nat)(h:1000000<=a):ds.foldl (λn b=>if n<1000000 then 10*n+(b.toNat - 48)else n) a=a:=by
 induction ds generalizing a with
 |nil=>rfl
 |cons b r A=>simp only[eC];rw[At I];exact A a h
def Pb(ds:List AC)(a:Nat)(h:ds.foldl (λn b=>10*n+(b.toNat - 48)) a<1000000):
  ds.foldl (λn b=>if n<1000000 then 10*n+(b.toNat - 48)else n) a=ds.foldl (λn b=>10*n+(b.toNat - 48)) a:=by
 induction ds generalizing a with
 |nil=>rfl
 |cons b r A=>
  simp only[eC]at h|-;have C:=O9 r (10*a+(b.toNat - 48));rw[Ax I];exact A _ h
def WQ(ds:List AC)(a:Nat)(h:1000000<=ds.foldl (λn b=>10*n+(b.toNat - 48)) a):
  1000000<=ds.foldl (λn b=>if n<1000000 then 10*n+(b.toNat - 48)else n) a:=by
 induction ds generalizing a with
 |nil=>exact h
 |cons b r A=>
  simp only[eC]at h|-;by_cases c:a<1000000;.rw[Ax c];exact A _ h
  .rw[At c,Rw _ _ I];omega
def IB{most:Nat}(A:most<1000000)(h:num most l=O q):yw l=O q/\q.1<=most:=by
 unfold num at h;split at h
 .rename_i c
  simp only[je,bb]at c;have e:=Pb (pM l) 0 (show zh (pM l)<1000000 by omega);cases h;unfold yw;rw[Ax c.1];exact⟨by rw[show Ao (pM l)=zh (pM l)from e],c.2⟩
 .cases h
def IC{most:Nat}(J:most<1000000)(h:yw l=O q)(A:q.1<=most):num most l=O q:=by
 unfold yw at h;split at h
 .rename_i c
  cases h;have E:zh (pM l)<1000000:=by
   rcases jL (zh (pM l)) 1000000 with C|C
   .exact C
   .have:=WQ (pM l) 0 C
    simp only[Ao]at A;omega
  have e:Ao (pM l)=zh (pM l):=Pb (pM l) 0 E;simp only[e]at A|-;unfold num;rw[Ax (by simp[c,A])]
 .cases h
def Ap{tail:Nat}{q:List AC×Nat}(h:mark l tail=O q):q.1.length<=l.length:=by
 unfold mark at h;split at h;.cases h;simp
 .split at h
  .cases h
  .cases h;exact iP _
def Rx{Iw:List AC->Nat->Option (mW TL×List AC×Nat)}{pf:List AC->Option (mW TL×List AC)}{d:Nat}(hl:∀l y,pf l=O y->y.2.length<l.length)(h:∀l n y,Iw l n=O y->pf l=O (y.1,y.2.1)/\y.2.2+y.1.count=n/\y.1.deep<=d):
  ∀(f g:Nat)(l:List AC)(n:Nat)(sub:List (mW TL))(tail:Nat)(y:mW TL×List AC×Nat),xJ Iw f l n sub tail=O y->(if sub.isEmpty then l else 44::l).length<g->mW.oH sub<=d->
   (sub=[]->l≠[]/\l.head?≠O 125)->
   o5 pf g (if sub.isEmpty then l else 44::l) sub tail=O (y.1,y.2.1)/\y.2.2+y.1.count=n+1+mW.nH sub/\y.1.deep<=d+1:=by
 intro f;induction f with
 |zero=>intro g l n sub tail y hy;simp[xJ]at hy
 |succ f aa=>
  intro g l n sub tail y hy hg hd h0;cases g with
  |zero=>omega
  |succ g=>
   simp only[xJ,jA]at hy;obtain⟨q,J,x,ae,hy⟩:=hy;have⟨hp,hc,CB⟩:=h _ _ _ ae;have hlen:=hl _ _ hp;have af:=Ap J;simp only at hlen;have A:o5 pf (g+1) (if sub.isEmpty then l else 44::l) sub tail=o5 pf g x.2.1 (sub++[x.1]) q.2:=by
    cases hs:sub.isEmpty with
    |true=>
     have:=h0 (List.isEmpty_iff.1 hs);cases l with
     |nil=>simp at this
     |cons b r=>
      have hb:b≠125:=by simpa using this.2
      simp only[cH,o5,At hb,hs,jG,J,hp]
    |false=>simp[o5,hs,J,hp]
   have ag:l.length<=g:=by split at hg<;>simp_all<;>omega
   rw[A];have C:mW.nH (sub++[x.1])=mW.nH sub+x.1.count:=by simp[mW.sI,mW.nH]
   have N:mW.oH (sub++[x.1])<=d:=by rw[mW.wN];simp[mW.oH];omega
   split at hy
   .rename_i r e
    cases hy;rw[e]at hlen|-;simp only[jD]at hlen;cases g with
    |zero=>omega
    |succ g=>
     refine⟨by simp[o5],?_,?_⟩;.simp only[mW.count,C];omega
     .simp only[mW.deep];omega
   .rename_i r e
    rw[e]at hlen|-;simp only[jD]at hlen;have E:(sub++[x.1]).isEmpty=M:=ny;have:=aa g r x.2.2 (sub++[x.1]) q.2 y hy (by rw[E];simp;omega) N (λe=>by simp at e);rw[E]at this;simp only[kM,cU]at this;refine⟨this.1,?_,this.2.2⟩;rw[this.2.1,C];omega
   .cases hy
def Pf(l:List AC):(past l).length<=l.length:=by
 induction l with
 |nil=>simp[past]
 |cons b r A=>simp only[past];split<;>simp_all;omega
def sW(h:yw l=O q):q.2.length<=l.length:=by
 unfold yw at h;split at h;.cases h;exact Pf l
 .cases h
def Ms{pf:List AC->Option (mW TL×List AC)}(hl:∀l y,pf l=O y->y.2.length<l.length):
  ∀(g:Nat)(l:List AC)(sub:List (mW TL))(tail:Nat)(y:mW TL×List AC),o5 pf g l sub tail=O y->y.2.length<l.length:=by
 intro g;induction g with
 |zero=>intro l sub tail y h;simp[o5]at h
 |succ g C=>
  intro l sub tail y h;cases l with
  |nil=>simp[o5]at h
  |cons b r=>
   simp only[o5]at h;split at h;.cases h;simp
   .simp only[jA]at h
    obtain⟨l1,A,q,E,x,J,N⟩:=h;have a1:=C _ _ _ _ N;have a2:=hl _ _ J;have a3:=Ap E;have a4:l1.length<=(b::r).length:=by
     split at A;.cases A;exact iP _
     .split at A
      .cases A;simp
      .cases A
    omega
def EP:∀(d:Nat)(l:List AC)(y:mW TL×List AC),ps d l=O y->y.2.length<l.length:=by
 intro d;induction d with
 |zero=>intro l y h;simp[ps]at h
 |succ d J=>
  intro l y h;cases l with
  |nil=>simp[ps]at h
  |cons b r=>
   simp only[ps]at h;split at h
   .simp only[jA]at h
    obtain⟨q,C,A⟩:=h;have:=sW C;split at A;.cases A;simp;omega
    .cases A
   split at h
   .simp only[jA]at h
    obtain⟨q,C,A⟩:=h;have:=sW C;cases A;simp;omega
   split at h
   .simp only[jA]at h
    obtain⟨q,C,A⟩:=h;have:=sW C;cases A;simp;omega
   split at h
   .simp only[jA]at h
    obtain⟨x,C,A⟩:=h;have a1:=J _ _ C;split at A
    .rename_i r2 e
     simp only[jA]at A;obtain⟨q,N,E⟩:=A;have a2:=sW N;rw[e]at a1;split at E
     .rename_i r4 e4
      cases E;rw[e4]at a2;simp only[jD]at a1 a2|-;omega
     .cases E
    .cases A
   split at h
   .have:=Ms J _ _ _ _ _ h
    simp only[jD];omega
   .cases h
def Uz(h:p:=by
 rename_i e;rw[Ax e];simp only[jA]at h;obtain⟨q,h1,h2⟩:=h;have⟨h3,_⟩:=IB mX h1;cases h2;rw[h3];refine⟨rfl,?_,?_⟩<;>simp[mW.count,mW.nH,mW.deep,mW.oH];omega):p:=h
def Zj:∀(d:Nat)(l:List AC)(n:Nat)(y:mW TL×List AC×Nat),rd d l n=O y->ps d l=O (y.1,y.2.1)/\y.2.2+y.1.count=n/\y.1.deep<=d:=by
 intro d;induction d with
 |zero=>intro l n y h;simp[rd]at h
 |succ d A=>
  intro l n y h;simp only[rd]at h;split at h;.cases h
  rename_i hn;cases l with
  |nil=>simp at h
  |cons b r=>
   simp only at h;simp only[ps];split at h
   .rename_i e
    rw[Ax e];simp only[jA]at h;obtain⟨q,h1,h2⟩:=h;have⟨h3,_⟩:=IB mX h1;rw[h3];split at h2
    .rename_i c
     cases h2;simp only[jG,Ax c];refine⟨by first|trivial|rfl,?_,?_⟩<;>simp[mW.count,mW.nH,mW.deep,mW.oH];omega
    .cases h2
   rename_i e1;rw[At e1];split at h;.exact Uz
   rename_i e2;rw[At e2];split at h;.exact Uz
   rename_i e3;rw[At e3];split at h
   .rename_i e
    rw[Ax e];simp only[jA]at h;obtain⟨x,h1,h2⟩:=h;have⟨N,af,ag⟩:=A _ _ _ h1;rw[N];simp only[jG];split at h2
    .rename_i r2 e2
     simp only[jA]at h2;obtain⟨q,h3,C⟩:=h2;have⟨aa,_⟩:=IB mX h3;simp only[aa,jG];split at C
     .rename_i r4 e4
      cases C;refine⟨by first|trivial|rfl,?_,?_⟩;.simp[mW.count,mW.nH];omega
      .simp[mW.deep,mW.oH];omega
     .cases C
    .cases h2
   rename_i e4;rw[At e4];split at h
   .rename_i e
    rw[Ax e];split at h
    .rename_i r1
     cases h;refine⟨by simp[o5],?_,?_⟩<;>simp[mW.count,mW.nH,mW.deep,mW.oH];omega
    .rename_i J
     have ae:r≠[]:=by
      rintro rfl;simp only[xJ,mark,Nat.lt_irrefl,cU,jG,jA]at h;obtain⟨x,h1,_⟩:=h;have:=EP _ _ _ (A _ _ _ h1).1;simp at this
     have:=Rx (EP d) (λl n y=>A l n y) (n+1) (r.length+1) r (n - 1) [] 0 y h ny (by simp[mW.oH]) (λ_=>⟨ae,λE=>by
      cases r with
      |nil=>simp at E
      |cons c t=>simp at E;exact J t (by rw[E])⟩)
     simp only[List.isEmpty_nil,cH]at this;refine⟨this.1,?_,this.2.2⟩;have:=this.2.1;simp only[mW.nH]at this;omega
   .cases h
def WR{pf:List AC->Option (mW TL×List AC)}:∀(g:Nat)(l:List AC)(sub:List (mW TL))(tail:Nat)(y:mW TL×List AC),o5 pf g l sub tail=O y->
  ∃s t,y.1=.node ⟨5,0,t⟩ (sub++s):=by
 intro g;induction g with
 |zero=>intro l sub tail y h;simp[o5]at h
 |succ g A=>
  intro l sub tail y h;cases l with
  |nil=>simp[o5]at h
  |cons b r=>
   simp only[o5]at h;split at h;.cases h;exact⟨[],tail,ny⟩
   .simp only[jA]at h
    obtain⟨l1,E,q,J,x,N,C⟩:=h;have⟨s,t,e⟩:=A _ _ _ _ C;exact⟨x.1::s,t,by rw[e];simp⟩
def Ry{Iw:List AC->Nat->Option (mW TL×List AC×Nat)}{pf:List AC->Option (mW TL×List AC)}(h:∀l n y,pf l=O y->y.1.all nW=u->y.1.count<=n->Iw l n=O (y.1,y.2,n - y.1.count)):
  ∀(g f:Nat)(l:List AC)(n:Nat)(sub:List (mW TL))(tail:Nat)(y:mW TL×List AC),o5 pf g (if sub.isEmpty then l else 44::l) sub tail=O y->
   y.1.all nW=u->y.1.count<=n+1+mW.nH sub->n<f->(sub=[]->l.head?≠O 125)->xJ Iw f l n sub tail=O (y.1,y.2,n+1+mW.nH sub - y.1.count):=by
 intro g;induction g with
 |zero=>intro f l n sub tail y hy;simp[o5]at hy
 |succ g ag=>
  intro f l n sub tail y hy E hc av h0;cases f with
  |zero=>omega
  |succ f=>
   have⟨q,ah,x,ai,A⟩:∃q,mark l tail=O q/\∃x,pf q.1=O x/\o5 pf g x.2 (sub++[x.1]) q.2=O y:=by
    cases hs:sub.isEmpty with
    |true=>
     have aj:=h0 (List.isEmpty_iff.1 hs);rw[hs]at hy;simp only[cH]at hy;cases l with
     |nil=>simp[o5]at hy
     |cons b r=>
      have hb:b≠125:=by simpa using aj
      simp only[o5,At hb,hs,cH,jG,jA]at hy;exact hy
    |false=>
     rw[hs]at hy;simp only[kM,cU,o5,hs,cH,jA,At (show(44:AC)≠125 by decide)]at hy;obtain⟨l1,e1,hy⟩:=hy;cases e1;exact hy
   have⟨s,t,J⟩:=WR _ _ _ _ _ A;have C:mW.nH (sub++[x.1])=mW.nH sub+x.1.count:=by simp[mW.sI,mW.nH]
   have ae:x.1.all nW=u:=by
    rw[J]at E;simp only[mW.all,je,mW.Ah,mW.oI]at E;exact E.2.1.2.1
   have ak:y.1.count=1+(mW.nH sub+x.1.count+mW.nH s):=by rw[J];simp only[mW.count,mW.sI,C]
   have au:=mW.wX x.1;have af:=h _ n _ ai ae I;simp only[xJ,ah,jG,af];cases g with
   |zero=>simp[o5]at A
   |succ g=>
    cases N:x.2 with
    |nil=>rw[N]at A;simp[o5]at A
    |cons b r=>
     rw[N]at A;by_cases c:b=125
     .subst c
      simp only[o5,cH]at A;cases A;simp only[mW.count,C];have e:n - x.1.count=n+1+mW.nH sub -(1+(mW.nH sub+x.1.count)):=I;rw[e]
     .have aa:(sub++[x.1]).isEmpty=M:=ny
      have hb:b=44:=by
       simp only[o5,At c,aa,kM,cU,jA]at A;obtain⟨l1,e1,_⟩:=A;split at e1;.assumption
       .cases e1
      subst hb;have:=ag f r (n - x.1.count) (sub++[x.1]) q.2 y (by rw[aa];exact A) E (by rw[C];omega) I (λe=>by simp at e);simp only[this,C];have e:n - x.1.count+1+(mW.nH sub+x.1.count) - y.1.count=n+1+mW.nH sub - y.1.count:=I;rw[e]
def Ck{k:Int}{t:Int}{s:List (mW TL)}(h:(mW.node ⟨k,m,t⟩ s).all nW=u):m<=65536/\(k=1->m<=8)/\(k=4->m<=1024):=by
 simp only[mW.all,nW,qd,je,bb]at h;omega
def UA(h:p:=by
 rename_i e;rw[Ax e];simp only[jA]at h;obtain⟨q,h1,h2⟩:=h;cases h2;rw[IC (most:=65536) mX h1 (Ck hr).1];simp[mW.count,mW.nH]):p:=h
def a8q:∀(d:Nat)(l:List AC)(n:Nat)(y:mW TL×List AC),ps d l=O y->y.1.all nW=u->y.1.count<=n->rd d l n=O (y.1,y.2,n - y.1.count):=by
 intro d;induction d with
 |zero=>intro l n y h;simp[ps]at h
 |succ d J=>
  intro l n y h hr hc;have ae:=mW.wX y.1;simp only[rd];rw[At I];cases l with
  |nil=>simp[ps]at h
  |cons b r=>
   simp only;simp only[ps]at h;split at h
   .rename_i e
    rw[Ax e];simp only[jA]at h;obtain⟨q,h1,h2⟩:=h;split at h2
    .rename_i c
     cases h2;have:=(Ck hr).2.1 rfl;rw[IC (most:=64) mX h1 I];simp only[jG,Ax c];simp[mW.count,mW.nH]
    .cases h2
   rename_i e1;rw[At e1];split at h;.exact UA
   rename_i e2;rw[At e2];split at h;.exact UA
   rename_i e3;rw[At e3];split at h
   .rename_i e
    rw[Ax e];simp only[jA]at h;obtain⟨x,h1,h2⟩:=h;split at h2
    .rename_i r2 e2
     simp only[jA]at h2;obtain⟨q,C,E⟩:=h2;split at E
     .rename_i r4 e4
      cases E;have N:x.1.all nW=u:=by
       simp only[mW.all,mW.oI,je]at hr;exact hr.2.1
      simp only[mW.count,mW.nH]at hc;rw[J _ (n - 1) _ h1 N I];simp only[jG,e2,IC (most:=1024) mX C ((Ck hr).2.2 rfl),e4];simp only[mW.count,mW.nH];have e:n - 1 - x.1.count=n -(1+(x.1.count+0)):=I;rw[e]
     .cases E
    .cases h2
   rename_i e4;rw[At e4];split at h
   .rename_i e
    rw[Ax e];cases r with
    |nil=>simp[o5]at h
    |cons c r=>
     by_cases A:c=125
     .subst A
      simp only[o5,cH]at h;cases h;simp[mW.count,mW.nH]
     .have:=Ry (Iw:=rd d) (pf:=ps d) (λl n y h1 h2 C=>J l n y h1 h2 C) ((c::r).length+1) (n+1) (c::r) (n - 1) [] 0 y h hr (by simp only[mW.nH];omega) I (λ_=>by simpa using A)
      have e5:n - 1+1+mW.nH ([]:List (mW TL)) - y.1.count=n - y.1.count:=by simp only[mW.nH];omega
      rw[e5]at this;split
      .rename_i r1 aa
       simp at aa;exact absurd aa.1 A
      .exact this
   .cases h
def wP(l:List AC):Option (mW TL):=match rd 8 l 64 with
 |some (x,[],_)=>if pg x then O x else U
 |_=>U
def ER(l:List AC):Option (mW TL):=match ps 8 l with
 |some (x,[])=>if pg x then O x else U
 |_=>U
def ES(l:List AC):wP l=ER l:=by
 unfold wP ER;cases h:rd 8 l 64 with
 |some y=>
  obtain⟨x,r,n⟩:=y;rw[(Zj _ _ _ _ h).1];cases r<;>rfl
 |none=>
  cases C:ps 8 l with
  |none=>rfl
  |some y=>
   obtain⟨x,r⟩:=y;cases r with
   |cons _ _=>rfl
   |nil=>
    simp only;cases A:pg x with
    |false=>rfl
    |true=>
     simp only[pg,je,bb]at A;rw[a8q _ _ 64 _ C A.2 A.1.1]at h;cases h
end
variable{t:mW TL}
section
open Go.RowKit
def a94:Nat->Prop:=λ_=>True
abbrev nZ(w:K)(v:iQ)(s:List (mW TL)):Prop:=nK.nA w a94 v s
def nZ.slice{w:K}{s:List (mW TL)}(h:nZ w v s):∃oa cap,v=G oa s.length cap/\s.length<=cap/\cap<=jd:=by
 obtain⟨oa,cap,A,C,E,_⟩:=h;exact⟨oa,cap,A,C,E⟩
def ez:=@nZ.slice
def nZ.at_{s:List (mW TL)}(h:nZ w (G oa n cap) s){i:Nat}{x:mW TL}(A:s[i]? =O x):
  ∃b off ar,oa=O (Z b off U)/\b<w.heap.size/\w.cell? (Z b (off+i*4) U)=O (V X x.lab.kind)/\w.cell? (Z b (off+i*4+1) U)=O (V X x.lab.size)/\
   w.cell? (Z b (off+i*4+2) U)=O ar/\w.cell? (Z b (off+i*4+3) U)=O (V X x.lab.tail)/\nZ w ar x.sub/\TL.wf x.lab:=by
 have⟨N,C,E,aa,ae,J⟩:=h.get;cases E;have⟨b,off,ar,e,hb,_,ho,hc,hs⟩:=J i x A;exact⟨b,off,ar,e,hb,by simpa [nK,j3]using hc 0 mX,by simpa [nK,j3]using hc 1 mX,by simpa [nK,j3]using hc 2 mX,by simpa [nK,j3]using hc 3 mX,hs,ho⟩
def vk{t:jl}{k z l:Int}{s:List (mW TL)}(h:nZ w v s):
  ∀W,w.alloc (mM #[V X k,V X z,v,V X l] t)=W->iR w.heap.size w W/\nZ W v s/\W.heap.size=w.heap.size+1/\
   W.cell? (Z w.heap.size 0 U)=O (V X k)/\W.cell? (Z w.heap.size 1 U)=O (V X z)/\W.cell? (Z w.heap.size 2 U)=O v/\W.cell? (Z w.heap.size 3 U)=O (V X l):=by
 rintro W rfl;have A:=(iT w.heap.size w).alloc (iP _) (mM #[V X k,V X z,v,V X l] t);have hB:=mY.new w #[V X k,V X z,v,V X l] t;exact⟨A,h.below A,ny,hB.cell 0,hB.cell 1,hB.cell 2,hB.cell 3⟩
def WS(x:mW TL):∀(w:K)(v:iQ),nZ w v x.sub->x.count<=1000->
  iW iN 79 #[mI #[V X x.lab.kind,V X x.lab.size,v,V X x.lab.tail]] w λe w'=>e=mK (V X (x.count:Nat))/\iR w.heap.size w w':=by
 induction x using mW.ind with
 |h a s ah=>
  intro w v E hc;simp only[mW.qm,mW.oW,mW.count]at E hc|-;obtain⟨oa,cap,rfl,ai,au⟩:=ez E;obtain⟨g,hg⟩:=o7 w;have J:=Y (vk (k:=a.kind) (z:=a.size) (l:=a.tail) (t:=63) E);have A:=mW.qc s;have⟨aw,aa⟩:=nE s.length;have N:=Y aa;have IH:=Y ah;have⟨C,ae⟩:=nE (mW.nH s);have HC:=Y ae;rw[hg]at J|-;rw[aa]at J A|-;rw[ae]at hc A|-;go_in;go_upto_region 1 with fail;generalize w.alloc (mM #[V X a.kind,V X a.size,G oa aw cap,V X a.tail] 63)=w1 at*;have⟨af,ht1,hsz,c0,c1,c2,c3⟩:=J.out _ rfl;have H1:=Y (iU af ht1);go_wp2;go_loopw [3,4] (λaj iv ak=>∃k:Nat,iv=V X k/\k<=aw/\aj=V X ((1+mW.nH (s.take k):Nat):Int)/\R (iR (g+1) w1 ak)) (λ_ iv _=>aw -(jF iv).toNat);case atStart=>exact⟨0,rfl,I,by simp[mW.nH],Y (iT _ _)⟩
  case round=>
   obtain⟨k,rfl,hk,rfl,hbe⟩:=hrel;have av:=(hbe.cell (p:=(Z g 2 U)) (jV g)).trans c2;by_cases c:k<aw
   .have⟨ax,y,hy⟩:∃h:k<s.length,∃y,s[k]? =O y:=⟨by rw[N.out];exact c,_,ja (by rw[N.out];exact c)⟩
    obtain⟨b,off,ar,rfl,hlt,az,aA,aB,aD,hu,ay⟩:=nZ.at_ (Shape.nA.below H1.2 (hsz▸hbe.out)) hy;exact Zf
   .obtain rfl:k=aw:=I
    have ag:s.take k=s:=by rw[<-N.out,ky]
    rw[ag,HC.out];exact Mr
def mW.xX:∀ x:mW α,x.deep<=x.count:=by
 exact Ze
def mW.Iz(s:List (mW α)):mW.oH s<=mW.nH s:=by
 have:=mW.xX (mW.node (α:=Unit) () []);induction s with
 |nil=>simp[mW.oH]
 |cons y A C=>
  have:=mW.xX y;simp only[mW.oH,mW.nH];omega
def mW.ui(s:List (mW α))(i:Nat):mW.oH (s.take i)<=mW.oH s:=by
 conv=>rhs;rw[<-kS i s,mW.wN]
 exact Nat.le_max_left _ _
def Zk(x:mW TL):∀(w:K)(v:iQ),nZ w v x.sub->x.count<=1000->
  iW iN 80 #[mI #[V X x.lab.kind,V X x.lab.size,v,V X x.lab.tail]] w λe w'=>e=mK (V X (x.deep:Nat))/\iR w.heap.size w w':=by
 induction x using mW.ind with
 |h a s ak=>
  intro w v J hc;simp only[mW.qm,mW.oW,mW.count,mW.deep]at J hc|-;obtain⟨oa,cap,rfl,au,aB⟩:=ez J;obtain⟨g,hg⟩:=o7 w;have N:=Y (vk (k:=a.kind) (z:=a.size) (l:=a.tail) (t:=63) J);have A:=mW.qc s;have⟨aw,ae⟩:=nE s.length;have aa:=Y ae;have av:=Y ak;have⟨C,af⟩:=nE (mW.nH s);have ax:=Y af;have⟨D,ag⟩:=nE (mW.oH s);have HD:=Y ag;have E:=mW.Iz s;rw[hg]at N|-;rw[ae]at N A|-;rw[af]at hc A E;rw[ag]at E|-;go_in;go_upto_region 1 with fail;generalize w.alloc (mM #[V X a.kind,V X a.size,G oa aw cap,V X a.tail] 63)=w1 at*;have⟨ah,ht1,hsz,c0,c1,c2,c3⟩:=N.out _ rfl;have H1:=Y (iU ah ht1);go_wp2;go_loopw [3,4,5] (λay iv aH az=>∃k:Nat,iv=V X k/\k<=aw/\ay=V X (mW.oH (s.take k):Nat)/\R (iR (g+1) w1 az)) (λ_ iv _ _=>aw -(jF iv).toNat);case atStart=>exact⟨0,rfl,I,by simp[mW.oH],Y (iT _ _)⟩
  case round=>
   obtain⟨k,rfl,hk,rfl,hbe⟩:=hrel;have aD:=(hbe.cell (p:=(Z g 2 U)) (jV g)).trans c2;by_cases c:k<aw
   .have⟨aF,y,hy⟩:∃h:k<s.length,∃y,s[k]? =O y:=⟨by rw[aa.out];exact c,_,ja (by rw[aa.out];exact c)⟩
    obtain⟨b,off,ar,rfl,hlt,aI,aJ,aK,aL,aA,aG⟩:=nZ.at_ (Shape.nA.below H1.2 (hsz▸hbe.out)) hy;have ai:=mW.xG (jq hy);rw[ax.out]at ai;have CY:=Y (av y (jq hy) wr ar aA I);have hct:=mW.xI hy;have hl1:=mW.ui s (k+1);exact Zg
   .obtain rfl:k=aw:=I
    have aj:s.take k=s:=by rw[<-aa.out,ky]
    rw[aj,HD.out];exact Mr
def Gu(z c:Int):((z==c)=u/\R (z=c))\/((z==c)=M/\R (z≠c)):=by
 by_cases h:z=c;.exact .inl ⟨by simp[h],h⟩
 .exact .inr ⟨by simp[h],h⟩
def BA(a b:Int):(As (a<=b)=u/\R (a<=b))\/(As (a<=b)=M/\R (b<a)):=by
 by_cases h:a<=b;.exact .inl ⟨by simp[h],h⟩
 .exact .inr ⟨by simp[h],by unfold R;omega⟩
def Zl(k:Int):k=1\/k=2\/k=3\/k=4\/k=5\/((k==1)=M/\(k==2)=M/\(k==3)=M/\(k==4)=M/\(k==5)=M/\R (k≠1/\k≠2/\k≠3/\k≠4/\k≠5)):=by
 by_cases A:k=1;.exact .inl A
 by_cases C:k=2;.exact .inr (.inl C)
 by_cases E:k=3;.exact .inr (.inr (.inl E))
 by_cases J:k=4;.exact .inr (.inr (.inr (.inl J)))
 by_cases N:k=5;.exact .inr (.inr (.inr (.inr (.inl N))))
 .exact .inr (.inr (.inr (.inr (.inr ⟨by simp[A],by simp[C],by simp[E],by simp[J],by simp[N],A,C,E,J,N⟩))))
def a5Y(z:Int):z=1\/z=2\/z=4\/z=8\/((z==1)=M/\(z==2)=M/\(z==4)=M/\(z==8)=M/\R (z≠1/\z≠2/\z≠4/\z≠8)):=by
 by_cases A:z=1;.exact .inl A
 by_cases C:z=2;.exact .inr (.inl C)
 by_cases E:z=4;.exact .inr (.inr (.inl E))
 by_cases J:z=8;.exact .inr (.inr (.inr (.inl J)))
 .exact .inr (.inr (.inr (.inr ⟨by simp[A],by simp[C],by simp[E],by simp[J],A,C,E,J⟩)))
def WT(x:mW TL):∀(w:K)(v:iQ),nZ w v x.sub->x.count<=1000->
  iW iN 81 #[mI #[V X x.lab.kind,V X x.lab.size,v,V X x.lab.tail]] w λe w'=>e=mK (mH (x.all nW))/\iR w.heap.size w w':=by
 induction x using mW.ind with
 |h a s aR=>
  intro w v av hc;obtain⟨kind,size,tail⟩:=a;simp only[mW.qm,mW.oW,mW.count]at av hc|-;obtain⟨oa,cap,rfl,aI,aS⟩:=ez av;obtain⟨g,hg⟩:=o7 w;have ax:=Y (vk (k:=kind) (z:=size) (l:=tail) (t:=63) av);have aB:=mW.qc s;have aU:R ((mW.node ⟨kind,size,tail⟩ s).all nW=(qd ⟨kind,size,tail⟩ s.length&&mW.oI nW s)):=Y rfl;have⟨aw,aJ⟩:=nE s.length;have aK:=Y aJ;have bC:=Y aR;have⟨C,aL⟩:=nE (mW.nH s);have bD:=Y aL;have⟨A,aM⟩:=nE (mW.oI nW s);have aV:=Y aM;rw[aU.out];clear aU;rw[hg]at ax|-;rw[aJ]at ax aB|-;rw[aL]at hc aB;rw[aM];clear av aI aS aR aJ aL aM;go_in;go_upto_region 1 with fail;generalize w.alloc (mM #[V X kind,V X size,G oa aw cap,V X tail] 63)=w1 at*;have⟨aD,ht1,hsz,c0,c1,c2,c3⟩:=ax.out _ rfl;have aW:=Y (iU aD ht1);clear ax aD ht1;go_upto_block 0 with fail;go_cut [3] (λsv bE=>sv=mH (qd ⟨kind,size,tail⟩ aw)/\bE=w1);case first=>
   have E:=Gu (aw:Int) 0;have e1:=Gu (aw:Int) 1;have t0:=Gu tail 0;have ah:=BA (aw:Int) 16;have aN:=BA 0 tail;have tl:=BA tail (aw:Int);rcases Zl kind with rfl|rfl|rfl|rfl|rfl|⟨bM,bN,bO,bP,bQ,bF⟩
   .rcases a5Y size with rfl|rfl|rfl|rfl|⟨bR,bS,z3,z4,bG⟩<;>rcases E with⟨E,J⟩|⟨E,J⟩<;>rcases t0 with⟨t0,N⟩|⟨t0,N⟩
    all_goals (go_wp2_with fail;go_meet;refine⟨congrArg Value.bool ?_,rfl⟩;have ay:=J.out;have az:=N.out;(try (have aA:=bG.out));unfold qd;symm;first|(apply a8;dsimp only;omega)|(apply bh;dsimp only;omega))
   .rcases BA 1 size with⟨ai,aa⟩|⟨ai,aa⟩<;>rcases BA size 65536 with⟨aj,ae⟩|⟨aj,ae⟩<;>rcases E with⟨E,J⟩|⟨E,J⟩<;>rcases t0 with⟨t0,N⟩|⟨t0,N⟩
    all_goals (go_wp2_with fail;go_meet;refine⟨congrArg Value.bool ?_,rfl⟩;have ay:=J.out;have az:=N.out;have aA:=aa.out;have aO:=ae.out;unfold qd;symm;first|(apply a8;dsimp only;omega)|(apply bh;dsimp only;omega))
   .rcases BA 0 size with⟨ai,aa⟩|⟨ai,aa⟩<;>rcases BA size 65536 with⟨aj,ae⟩|⟨aj,ae⟩<;>rcases E with⟨E,J⟩|⟨E,J⟩<;>rcases t0 with⟨t0,N⟩|⟨t0,N⟩
    all_goals (go_wp2_with fail;go_meet;refine⟨congrArg Value.bool ?_,rfl⟩;have ay:=J.out;have az:=N.out;have aA:=aa.out;have aO:=ae.out;unfold qd;symm;first|(apply a8;dsimp only;omega)|(apply bh;dsimp only;omega))
   .rcases BA 0 size with⟨ai,aa⟩|⟨ai,aa⟩<;>rcases BA size 1024 with⟨aj,ae⟩|⟨aj,ae⟩<;>rcases e1 with⟨E,J⟩|⟨E,J⟩<;>rcases t0 with⟨t0,N⟩|⟨t0,N⟩
    all_goals (go_wp2_with fail;go_meet;refine⟨congrArg Value.bool ?_,rfl⟩;have ay:=J.out;have az:=N.out;have aA:=aa.out;have aO:=ae.out;unfold qd;symm;first|(apply a8;dsimp only;omega)|(apply bh;dsimp only;omega))
   .rcases Gu size 0 with⟨z0,aX⟩|⟨z0,aX⟩<;>rcases ah with⟨ah,aF⟩|⟨ah,aF⟩<;>rcases aN with⟨aN,aY⟩|⟨aN,aY⟩<;>rcases tl with⟨tl,aG⟩|⟨tl,aG⟩
    all_goals (go_wp2_with fail;go_meet;refine⟨congrArg Value.bool ?_,rfl⟩;have ay:=aX.out;have az:=aF.out;have aA:=aY.out;have aO:=aG.out;unfold qd;symm;first|(apply a8;dsimp only;omega)|(apply bh;dsimp only;omega))
   .go_wp2_with fail
    go_meet;exact⟨congrArg Value.bool (by have:=bF.out;simp[qd];omega),rfl⟩
  case rest=>
   obtain⟨rfl,rfl⟩:=hcut;clear c0 c1 c3;have⟨aE,aP⟩:∃aE,qd ⟨kind,size,tail⟩ aw=aE:=⟨_,rfl⟩;have aH:=Y aP;rw[aP];clear aP;go_wp2;go_loopw [3,5] (λbv iv bH=>∃(k:Nat) (b:Bool),iv=V X k/\k<=aw/\bv=mH b/\R (b=(aE&&mW.oI nW (s.take k)))/\R (iR (g+1) wc bH)) (λ_ iv _=>aw -(jF iv).toNat);case atStart=>exact⟨0,aE,rfl,I,rfl,by simp[R,mW.oI],Y (iT _ _)⟩
   case round=>
    obtain⟨k,b,rfl,hk,rfl,aZ,af⟩:=hrel;have bK:wr.cell? (Z g 2 U)=O (G oa aw cap):=(af.cell (p:=(Z g 2 U)) (jV g)).trans c2;have bg:R (iR g w wr):=Y (aW.1.trans (af.mono I));have ak:R (k=aw\/b=M->b=(aE&&A)):=Y λh=>by
     have ag:=aZ.out;rcases h with h|h
     .have bq:s.take k=s:=by rw[h,<-aK.out,ky]
      rw[bq,aV.out]at ag;exact ag
     .have bI:mW.oI nW s=(mW.oI nW (s.take k)&&mW.oI nW (s.drop k)):=by
       rw[<-mW.Ah,kS]
      rw[<-aV.out,bI,h];rw[h]at ag;revert ag;cases aE<;>cases mW.oI nW (s.take k)<;>simp
    by_cases c:k<aw
    .cases b with
     |true=>
      have⟨bL,y,hy⟩:∃h:k<s.length,∃y,s[k]? =O y:=⟨by rw[aK.out];exact c,_,ja (by rw[aK.out];exact c)⟩;obtain⟨bT,off,ar,rfl,hlt,bU,bV,bW,bX,bu,bz⟩:=nZ.at_ (Shape.nA.below aW.2 (hsz▸af.out)) hy;have bA:=mW.xG (jq hy);rw[bD.out]at bA;have bJ:=Y (bC y (jq hy) wr ar bu I);have bB:R (y.all nW=(aE&&mW.oI nW (s.take (k+1)))):=by
       have ag:=aZ.out;unfold R;rw[mW.vJ hy,<-Bool.and_assoc,<-ag];rfl
      have hbk:R (∀w2,iR wr.heap.size wr w2->iR (g+1) wc w2):=Y λw2 au=>af.trans (au.mono (by have:=af.size;omega))
      clear bu bz;go_wp2_with fail;refine pG (bJ) λw2 au=> ?_
      go_wp2;go_roundw;case rel=>exact⟨k+1,_,by go_num,I,rfl,bB,Y (hbk _ au)⟩
      case measure=>simp[jF];omega
     |false=>
      have aQ:=Y (ak (.inr rfl));go_wp2;go_returns;rw[aH.out,<-aQ.out];exact⟨rfl,bg.out⟩
    .obtain rfl:k=aw:=I
     have aQ:=Y (ak (.inl rfl));go_wp2;go_returns;rw[aH.out,<-aQ.out];exact⟨rfl,bg.out⟩
def a2V(x:mW TL):pg x=(As (x.count<=64)&&As (x.deep<=8)&&x.all nW):=rfl
def GL(x:mW TL)(w:K)(v:iQ)(au:nZ w v x.sub)(hc:x.count<=1000):
  iW iN 47 #[mI #[V X x.lab.kind,V X x.lab.size,v,V X x.lab.tail]] w λe w'=>e=mK (mH (pg x))/\iR w.heap.size w w':=by
 have av:=Y (vk (k:=x.lab.kind) (z:=x.lab.size) (l:=x.lab.tail) (t:=63) au);obtain⟨oa,cap,rfl,aH,aR⟩:=ez au;obtain⟨g,hg⟩:=o7 w;have ax:=Y (λ(W:K) (h:nZ W (G oa x.sub.length cap) x.sub)=>WS x W _ h hc);have aI:=Y (λ(W:K) (h:nZ W (G oa x.sub.length cap) x.sub)=>Zk x W _ h hc);have aJ:=Y (λ(W:K) (h:nZ W (G oa x.sub.length cap) x.sub)=>WT x W _ h hc);have ag:=Y (a2V x);rw[hg]at av|-;generalize pg x=aE at*;generalize x.count=ah at*;generalize x.deep=dn at*;generalize x.all nW=aS at*;generalize x.sub.length=aw at*;have ae:=BA (ah:Int) 64;have d8:=BA (dn:Int) 8;go_in;go_upto_region 1 with fail;generalize w.alloc (mM #[V X x.lab.kind,V X x.lab.size,G oa aw cap,V X x.lab.tail] 63)=w1 at*;have⟨ay,ht1,hsz,c0,c1,c2,c3⟩:=av.out _ rfl;have ai:=Y ht1;have aK:=Y ay;have az:=Y hsz;have aa:∀w2,iR w1.heap.size w1 w2->R (iR g w w2/\nZ w2 (G oa aw cap) x.sub):=λw2 h=>⟨aK.trans (h.mono (by have:=az.out;omega)),Shape.nA.below ai h⟩
 have aa:=Y aa;have hlt:g<w1.heap.size:=by have:=az.out;omega
 rcases ae with⟨ae,af⟩|⟨ae,af⟩
 .rcases d8 with⟨d8,aj⟩|⟨d8,aj⟩
  all_goals
   go_wp2_with fail;refine pG (ax _ ai) λw2 A=> ?_
   have f2:=aa.out _ A;have E:=Y A;have aA:=(A.cell (p:=(Z g 0 U)) hlt).trans c0;have aB:=(A.cell (p:=(Z g 1 U)) hlt).trans c1;have aD:=(A.cell (p:=(Z g 2 U)) hlt).trans c2;have aF:=(A.cell (p:=(Z g 3 U)) hlt).trans c3;have J:g<w2.heap.size:=by have:=A.size;omega
   go_wp2_with fail;refine pG (aI _ f2.2) λw3 C=> ?_
  .have N:=Y (E.trans (C.mono E.size))
   have f3:=aa.out _ N.out;have aL:=(C.cell (p:=(Z g 0 U)) J).trans aA;have aM:=(C.cell (p:=(Z g 1 U)) J).trans aB;have aN:=(C.cell (p:=(Z g 2 U)) J).trans aD;have aO:=(C.cell (p:=(Z g 3 U)) J).trans aF;go_wp2_with fail;refine pG (aJ _ f3.2) λw4 aG=> ?_
   have ak:=Y (f3.1.trans (aG.mono (by have:=f3.1.size;omega)));go_wp2;go_returns;refine⟨?_,ak.out⟩;have aP:=af.out;have aQ:=aj.out;rw[ag.out,a8 (by omega:ah<=64),a8 (by omega:dn<=8)];rfl
  .have N:=Y (E.trans (C.mono E.size))
   have f3:=aa.out _ N.out;go_wp2;go_returns;refine⟨?_,f3.1⟩;have aQ:=aj.out;rw[ag.out,bh (by omega:¬dn<=8),cI];rfl
 .go_wp2_with fail
  refine pG (ax _ ai) λw2 A=> ?_
  have f2:=aa.out _ A;go_wp2;go_returns;refine⟨?_,f2.1⟩;have aP:=af.out;rw[ag.out,bh (by omega:¬ah<=64)];rfl
def a8r(z c:Int):((z !=c)=M/\R (z=c))\/((z !=c)=u/\R (z≠c)):=by
 by_cases h:z=c;.exact .inl ⟨by simp[h],h⟩
 .exact .inr ⟨by simp[h],h⟩
def UB:Nat->Nat:=λi=>[1,2,4,8].getD i 0
def qB(w:K):Prop:=∀i,i<4->w.cell? (Z 1 i U)=O (V X (UB i:Nat))
def qB.lt(h:qB w):1<w.heap.size:=by
 rcases jL 1 w.heap.size with A|A
 .exact A
 .have:=h 0 mX
  simp[lV,mi A]at this
def qB.below(h:qB w)(hb:iR B w w')(hB:1<B):qB w':=λi hi=>(hb.cell (p:=(Z _ i U)) hB).trans (h i hi)
def qB.upd(h:qB w)(hb:oO b w w')(hB:1≠b):qB w':=λi hi=>by
 rw[World.cell?_of_block (w:=w) (hb.block _ h.lt (by simpa using hB))];exact h i hi
def a2W(W:K):lJ iN (jX 312 (mI #[V X 1,V X 2,V X 4,V X 8]) (V X 0)) W=.ok (V X 1) W:=rfl
def a2X(W:K):lJ iN (jX 312 (mI #[V X 1,V X 2,V X 4,V X 8]) (V X 1)) W=.ok (V X 2) W:=rfl
def a2Y(W:K):lJ iN (jX 312 (mI #[V X 1,V X 2,V X 4,V X 8]) (V X 2)) W=.ok (V X 4) W:=rfl
def a2Z(W:K):lJ iN (jX 312 (mI #[V X 1,V X 2,V X 4,V X 8]) (V X 3)) W=.ok (V X 8) W:=rfl
def Mt(h:p:=by
 go_wp2;go_returns;refine⟨?_,rfl⟩;rw[a8 (by have:=Z0.out;omega)];rfl):p:=h
def Rz(z:Int)(w:K)(C:qB w):
  iW iN 267 #[V X z] w λe w'=>e=mK (mH (As (z=1\/z=2\/z=4\/z=8)))/\w=w':=by
 have t0:=C 0 mX;have t1:=C 1 mX;have J:=C 2 mX;have t3:=C 3 mX;simp only[UB]at t0 t1 J t3;go_in;go_wp2;go_loopw [4,6] (λ_ iv N=>∃k:Nat,iv=V X k/\k<=4/\R (∀i,i<k->z≠(UB i:Nat))/\N=w) (λ_ iv _=>4 -(jF iv).toNat);case atStart=>exact⟨0,rfl,I,Y (λi hi=>by omega),rfl⟩
 case round=>
  obtain⟨k,rfl,hk,A,rfl⟩:=hrel;have E:k=0\/k=1\/k=2\/k=3\/k=4:=I;rcases E with rfl|rfl|rfl|rfl|rfl
  case inr.inr.inr.inr=>
   go_wp2;go_returns;refine⟨?_,rfl⟩;have q:=A.out;have aa:=q 0 mX;have ae:=q 1 mX;have af:=q 2 mX;have ag:=q 3 mX;simp[UB]at aa ae af ag;rw[bh I];rfl
  .have hix:=a2W wr
   rcases Gu z 1 with⟨z0,Z0⟩|⟨z0,Z0⟩
   .exact Mt
   .go_wp2
    go_roundw;case rel=>exact⟨1,rfl,I,Y (λi hi=>by
     rcases jL i 0 with h|h
     .exact A i h
     .obtain rfl:i=0:=I
      exact Z0),by first|trivial|rfl⟩
    case measure=>simp[jF]
  .have hix:=a2X wr
   rcases Gu z 2 with⟨z0,Z0⟩|⟨z0,Z0⟩
   .exact Mt
   .go_wp2
    go_roundw;case rel=>exact⟨2,rfl,I,Y (λi hi=>by
     rcases jL i 1 with h|h
     .exact A i h
     .obtain rfl:i=1:=I
      exact Z0),by first|trivial|rfl⟩
    case measure=>simp[jF]
  .have hix:=a2Y wr
   rcases Gu z 4 with⟨z0,Z0⟩|⟨z0,Z0⟩
   .exact Mt
   .go_wp2
    go_roundw;case rel=>exact⟨3,rfl,I,Y (λi hi=>by
     rcases jL i 2 with h|h
     .exact A i h
     .obtain rfl:i=2:=I
      exact Z0),by first|trivial|rfl⟩
    case measure=>simp[jF]
  .have hix:=a2Z wr
   rcases Gu z 8 with⟨z0,Z0⟩|⟨z0,Z0⟩
   .exact Mt
   .go_wp2
    go_roundw;case rel=>exact⟨4,rfl,I,Y (λi hi=>by
     rcases jL i 3 with h|h
     .exact A i h
     .obtain rfl:i=3:=I
      exact Z0),by first|trivial|rfl⟩
    case measure=>simp[jF]
def RA(lo hi z:Int)(g:Nat)(w:K)(c1:w.cell? (Z g 1 U)=O (V X z)):
  iW iN 266 #[V X lo,V X hi,mG (O (Z g 0 U))] w λe w'=>e=mK (mH (As (lo<=z/\z<=hi)))/\w=w':=by
 have a1:=BA lo z;have a2:=BA z hi;rcases a1 with⟨a1,A⟩|⟨a1,A⟩<;>rcases a2 with⟨a2,C⟩|⟨a2,C⟩
 all_goals
  go_in;go_wp2;go_returns;refine⟨?_,rfl⟩;have E:=A.out;have J:=C.out
  first
   |(rw[a8 (show lo<=z/\z<=hi by omega)];rfl)
   |(rw[bh (show¬(lo<=z/\z<=hi)by omega)];rfl)
def UC(h:p:=by
 unfold qd;symm;first|(apply a8;dsimp only;omega)|(apply bh;dsimp only;omega)):p:=h
def RB(h:p:=by
 rintro e w2 ⟨rfl,rfl⟩;go_wp2;go_returns;refine⟨congrArg (λb=>jS (mH b)) ?_,H1.out⟩;have q1:=HPT.out (by trivial);unfold qd;dsimp only;rw[ei];simp only[je,cM,bb,false_and,true_and,false_or,or_false];omega):p:=h
def RD(h:p:=by
 go_wp2;go_returns;refine⟨congrArg (λb=>jS (mH b)) ?_,H1.out⟩;have q1:=HPF.out (by trivial);unfold qd;symm;first|(apply a8;dsimp only;omega)|(apply bh;dsimp only;omega)):p:=h
def WU(a:TL)(oa:Option j4)(aw cap:Nat)(w:K)(au:qB w):
  iW iN 240 #[mI #[V X a.kind,V X a.size,G oa aw cap,V X a.tail]] w λe w'=>e=mK (mH (qd a aw))/\iR w.heap.size w w':=by
 obtain⟨kind,size,tail⟩:=a;obtain⟨g,hg⟩:=o7 w;have az:R (∀W,w.alloc (mM #[V X kind,V X size,G oa aw cap,V X tail] 63)=W->iR g w W/\qB W/\mY W g #[V X kind,V X size,G oa aw cap,V X tail] 63):=Y λW h=>by
  subst h;have ae:=(iT w.heap.size w).alloc (iP _) (mM #[V X kind,V X size,G oa aw cap,V X tail] 63);exact⟨hg▸ae,au.below ae au.lt,hg▸mY.new w _ _⟩
 rw[hg];simp only;go_in;go_upto_region 1 with fail;generalize w.alloc (mM #[V X kind,V X size,G oa aw cap,V X tail] 63)=w1 at*;have⟨av,ht1,hB⟩:=az.out _ rfl;have c0:=hB.cell 0;have c1:=hB.cell 1;have c2:=hB.cell 2;have c3:=hB.cell 3;have H1:=Y av;have aG:=Y ht1;have aA:=Y (Rz size w1 ht1);have ah:=Gu (aw:Int) 0;have e1:=Gu (aw:Int) 1;have t0:=Gu tail 0;have E:=BA (aw:Int) 16;have ai:=BA 0 tail;have tl:=BA tail (aw:Int);have J:=Y (λlo hi=>RA lo hi size g w1 c1);go_upto_region 2 with fail;go_cut [4] (λaB aD=>aB=mH (As ((aw:Int)=0/\tail=0))/\aD=w1);case first=>
  rcases ah with⟨ah,ax⟩|⟨ah,ax⟩<;>rcases t0 with⟨t0,C⟩|⟨t0,C⟩
  all_goals
   go_wp2_with fail;go_meet;refine⟨congrArg Value.bool ?_,rfl⟩;have q1:=ax.out;have aj:=C.out
   first
    |(rw[a8 (show(aw:Int)=0/\tail=0 by omega)])
    |(rw[bh (show¬((aw:Int)=0/\tail=0)by omega)])
 case rest=>
 obtain⟨rfl,rfl⟩:=hcut;have⟨p,hp⟩:=nE (As ((aw:Int)=0/\tail=0));have HPT:R (p=u->(aw:Int)=0/\tail=0):=Y λh=>by rw[h]at hp;exact b2 hp
 have HPF:R (p=M->¬((aw:Int)=0/\tail=0)):=Y λh=>by rw[h]at hp;exact of_decide_eq_false hp
 rw[hp];rcases Zl kind with rfl|rfl|rfl|rfl|rfl|⟨aH,aI,aJ,aK,aL,aF⟩
 .cases p
  .exact RD
  .go_wp2_with fail
   refine(aA).mono ?_;exact RB
 .have A:=Y (J 1 65536)
  cases p;.exact RD
  .go_wp2_with fail
   refine(A).mono ?_;exact RB
 .have A:=Y (J 0 65536)
  cases p;.exact RD
  .go_wp2_with fail
   refine(A).mono ?_;exact RB
 .have A:=Y (J 0 1024)
  rcases e1 with⟨e1,ak⟩|⟨e1,ak⟩<;>rcases t0 with⟨t0,C⟩|⟨t0,C⟩
  .go_wp2_with fail
   refine(A).mono ?_;rintro e w2 ⟨rfl,rfl⟩;go_wp2;go_returns;refine⟨congrArg (λb=>jS (mH b)) ?_,H1.out⟩;have q1:=ak.out;have aj:=C.out;unfold qd;dsimp only;rw[ei];simp only[je,cM,bb,false_and,true_and,false_or,or_false];omega
  all_goals
   go_wp2;go_returns;refine⟨congrArg (λb=>jS (mH b)) ?_,H1.out⟩;have q1:=ak.out;have aj:=C.out;unfold qd;symm;first|(apply a8;dsimp only;omega)|(apply bh;dsimp only;omega)
 .rcases Gu size 0 with⟨z0,N⟩|⟨z0,N⟩
  .have aa:R (iW iN 266 #[V X 0,V X 0,mG (O (Z g 0 U))] wc λe w'=>e=mK (mH u)/\wc=w'):=Y (by
    have h:=J.out 0 0;rwa [a8 (show 0<=size/\size<=0 by have:=N.out;omega)]at h)
   rcases E with⟨E,af⟩|⟨E,af⟩<;>rcases ai with⟨ai,ay⟩|⟨ai,ay⟩<;>rcases tl with⟨tl,ag⟩|⟨tl,ag⟩
   all_goals
    go_wp2_with fail;refine(aa).mono ?_;rintro e w2 ⟨rfl,rfl⟩;go_wp2;go_returns;refine⟨congrArg (λb=>jS (mH b)) ?_,H1.out⟩;have q1:=N.out;have aj:=af.out;have aM:=ay.out;have aN:=ag.out;unfold qd;symm;first|(apply a8;dsimp only;omega)|(apply bh;dsimp only;omega)
  .have aa:R (iW iN 266 #[V X 0,V X 0,mG (O (Z g 0 U))] wc λe w'=>e=mK (mH M)/\wc=w'):=Y (by
    have h:=J.out 0 0;rwa [bh (show¬(0<=size/\size<=0)by have:=N.out;omega)]at h)
   go_wp2_with fail;refine vE (aa) ?_;go_wp2;go_returns;refine⟨congrArg (λb=>jS (mH b)) ?_,H1.out⟩;have q1:=N.out;exact UC
 .go_wp2
  go_returns;refine⟨congrArg (λb=>jS (mH b)) ?_,H1.out⟩;have q1:=aF.out;exact UC
abbrev zQ(b:Nat)(w:K)(v:iQ)(s:List (mW TL)):Prop:=nK.nA w (λc=>c≠b) v s
def zQ.upd{s:List (mW TL)}(h:zQ b w v s)(A:oO b w w'):zQ b w' v s:=
 Shape.nA.keep h A.size (λ_ _ h=>h) λc hc C=>A.block c hc (by simpa using λe=>C (by rw[e]))
def zQ.of{s:List (mW TL)}(h:nZ w v s)(hb:iR w.heap.size w w')(A:w.heap.size<=b):zQ b w' v s:=
 Shape.nA.keep h hb.size (λc hc _=>by omega) λc hc _=>hb.block c hc
def zQ.any{s:List (mW TL)}(h:zQ b w v s):nZ w v s:=
 Shape.nA.keep h (iP _) (λ_ _ _=>trivial) λ_ _ _=>rfl
def zQ.at_{s:List (mW TL)}(h:zQ bo w (G oa n cap) s){i:Nat}{x:mW TL}(A:s[i]? =O x):
  ∃b off ar,oa=O (Z b off U)/\b<w.heap.size/\b≠bo/\w.cell? (Z b (off+i*4) U)=O (V X x.lab.kind)/\w.cell? (Z b (off+i*4+1) U)=O (V X x.lab.size)/\
   w.cell? (Z b (off+i*4+2) U)=O ar/\w.cell? (Z b (off+i*4+3) U)=O (V X x.lab.tail)/\zQ bo w ar x.sub/\TL.wf x.lab:=by
 have⟨aa,C,E,ae,af,J⟩:=Shape.nA.get h;cases E;have⟨b,off,ar,e,hb,N,ho,hc,hs⟩:=J i x A;exact⟨b,off,ar,e,hb,N,by simpa [nK,j3]using hc 0 mX,by simpa [nK,j3]using hc 1 mX,by simpa [nK,j3]using hc 2 mX,by simpa [nK,j3]using hc 3 mX,hs,ho⟩
def Aq(w:K)(b l:Nat):Prop:=mY w b #[V X (l:Int)] 3
def Aq.upd{l:Nat}(h:Aq w b l)(C:oO c w w')(A:b≠c):Aq w' b l:=C.blk h A
def Dn(x:mW TL)(d l:Nat):Bool:=As (d+x.deep<=9)&&As (x.count<=l)&&x.all nW
def Mv(x:mW TL)(d l b:Nat)(w:K)(e:kV)(w':K):Prop:=
 e=mK (mH (Dn x d l))/\oO b w w'/\(∃A,A<=64/\Aq w' b A)/\(Dn x d l=u->Aq w' b (l - x.count))
def Zm(x:mW TL):∀(w:K)(v:iQ)(d l bl:Nat),zQ bl w v x.sub->Aq w bl l->qB w->1≠bl->1<=d->d<=9->l<=64->
  iW iN 203 #[mI #[V X x.lab.kind,V X x.lab.size,v,V X x.lab.tail],V X d,mG (O (Z bl 0 U))] w (Mv x d l bl w):=by
 induction x using mW.ind with
 |h a s df=>
  intro w v d l bl bB hI bE az dL dM hl;simp only[mW.qm,mW.oW]at bB|-;obtain⟨oa,cap,rfl,dh,bF⟩:=ez bB.any;obtain⟨g,hg⟩:=o7 w;have dw:bl<g:=hg▸hI.lt;have bG:s.length<=9223372036854775807:=by unfold jd at bF;omega
  have A:R (Dn (.node a s) d l=(As (d+(mW.oH s+1)<=9)&&As (1+mW.nH s<=l)&&(qd a s.length&&mW.oI nW s))):=Y rfl;have aj:R (∀e w',e=mK (mH (Dn (.node a s) d l))/\oO bl w w'/\(∃af,af<=64/\Aq w' bl af)/\(Dn (.node a s) d l=u->Aq w' bl (l -(1+mW.nH s)))->Mv (.node a s) d l bl w e w'):=Y λe w' h=>h
  have bH:R (∀W,w.alloc (mM #[V X a.kind,V X a.size,G oa s.length cap,V X a.tail] 63)=W->oO bl w W/\zQ bl W (G oa s.length cap) s/\Aq W bl l/\qB W/\W.heap.size=g+1/\
    mY W g #[V X a.kind,V X a.size,G oa s.length cap,V X a.tail] 63):=Y λW h=>by
   subst h;have N:=(iT w.heap.size w).alloc (iP _) (mM #[V X a.kind,V X a.size,G oa s.length cap,V X a.tail] 63);exact⟨oO.of N,bB.upd (oO.of N),a7 N hI hI.lt,bE.below N bE.lt,nk,hg▸mY.new w _ _⟩
  generalize Dn (.node a s) d l=aE at*;have⟨aw,bI⟩:=nE s.length;have bJ:=Y bI;have dx:=Y df;have⟨C,bK⟩:=nE (mW.nH s);have bC:=Y bK;have⟨D,bL⟩:=nE (mW.oH s);have bM:=Y bL;rw[bI]at bH bG A|-;rw[bK]at A aj;rw[bL]at A;generalize dN:Mv (.node a s) d l bl w=dz at aj|-;go_in;go_upto_region 1 with fail;generalize w.alloc (mM #[V X a.kind,V X a.size,G oa aw cap,V X a.tail] 63)=w1 at*;have⟨bN,ht1,aO,aP,hsz,hB⟩:=bH.out _ rfl;have⟨c0,c1,c2,c3⟩:=hB.a4;have l0:=aO.cell 0;have bO:=Y hB;have E:=Y (iU bN (iU ht1 (iU aO aP)));have bD:=Y (WU a oa aw cap w1 aP);by_cases cd:8<d
  .have dA:As (8<(d:Int))=u:=nk
   go_wp2_with fail;refine aj _ _ ⟨?_,E.1,⟨l,hl,E.2.2.1⟩,λh=> ?_⟩;.rw[A.out,bh I];rfl
   .rw[A.out,bh I]at h;simp at h
  have dA:As (8<(d:Int))=M:=nk;by_cases cl:l=0
  .have dB:((l:Int)==0)=u:=by simp[cl]
   have bP:=Y cl;go_wp2_with fail;refine aj _ _ ⟨?_,E.1,⟨l,hl,E.2.2.1⟩,λh=> ?_⟩;.rw[A.out,bh (by have:=bP.out;omega:¬1+C<=l),cI];rfl
   .rw[A.out,bh (by have:=bP.out;omega:¬1+C<=l),cI]at h;simp at h
  have dB:((l:Int)==0)=M:=nk;have dO:1<=l:=I;have dP:d<=8:=I;generalize qd a aw=aq at*;cases aq with
  |false=>
   go_wp2_with fail;refine pG (bD) λw2 J=> ?_
   have bQ:=Y (E.1.trans (oO.of J));have bR:=Y (E.2.2.1.upd (oO.of J) (c:=g) I);clear J;go_wp2_with fail;refine aj _ _ ⟨?_,bQ.out,⟨l,hl,bR.out⟩,λh=> ?_⟩;.rw[A.out];simp
   .rw[A.out]at h;simp at h
  |true=>
   go_wp2_with fail;refine pG (bD) λw2 J=> ?_
   have aQ:oO bl w1 w2:=oO.of J;have l2:w2.cell? (Z bl 0 U)=O (V X l):=(E.2.2.1.upd (oO.of J) (c:=g) I).cell 0;have dD:w2.frozen? (Z bl 0 U)=M:=ec (E.2.2.1.upd (oO.of J) (c:=g) I) 0;have aR:R (∀W,w2.setCell (Z bl 0 U) (V X ((l:Int) - 1))=W->oO bl w1 W/\Aq W bl (l - 1)/\mY W g #[V X a.kind,V X a.size,G oa aw cap,V X a.tail] 63):=Y λW h=>by
    subst h;have ak:Aq w2 bl l:=E.2.2.1.upd (oO.of J) (c:=g) I;have aa:=eK ak 0 (V X ((l:Int) - 1));refine⟨aQ.set 0 _,?_,?_⟩
    .unfold Aq
     rw[show((l - 1:Nat):Int)=(l:Int) - 1 by omega];exact aa
    .exact cx ((oO.of (b:=bl) J).blk bO I) nk _
   clear J aQ;have au:=Y E.2;have aA:=Y E.1;clear E bD;go_upto_region 4 with fail;generalize w2.setCell (Z bl 0 U) (V X ((l:Int) - 1))=w3 at*;have⟨aS,aU,aB⟩:=aR.out _ rfl;have g2:w3.cell? (Z g 2 U)=O (G oa aw cap):=aB.cell 2;have bS:=Y (iU aS (iU aU aB));clear aR aS aU aB l2 dD;go_wp2
   go_loopw [8,30] (λ_ iv bT=>∃k:Nat,iv=V X k/\k<=aw/\R (oO bl w1 bT)/\R (Aq bT bl (l - 1 - mW.nH (s.take k)))/\
    R (mW.nH (s.take k)<=l - 1/\d+1+mW.oH (s.take k)<=9/\mW.oI nW (s.take k)=u)) (λ_ iv _=>aw -(jF iv).toNat)
   case atStart=>exact⟨0,rfl,I,Y bS.1,Y (by simpa [mW.nH]using bS.2.1),Y ⟨by simp[mW.nH],by simp[mW.oH];omega,by simp[mW.oI]⟩⟩
   case round=>
    obtain⟨k,rfl,hk,aD,av,aJ⟩:=hrel;have dE:R (oO bl w wr):=Y (aA.trans aD);by_cases c:k<aw
    .have⟨y,hy⟩:∃y,s[k]? =O y:=⟨_,ja (by rw[bJ.out];exact c)⟩
     obtain⟨b,off,ar,rfl,hlt,dF,dQ,dR,dG,dS,aK,bU⟩:=zQ.at_ (zQ.upd au.1 aD) hy;obtain⟨ou,cu,rfl,_,_⟩:=ez (zQ.any aK);have⟨ag,aV⟩:=nE y.sub.length;rw[aV]at aK dG;clear aV;have aW:=mW.xW hy;have aX:=mW.xI hy;have aY:=mW.vJ (p:=nW) hy;have aF:=mW.xH s (k+1);have aG:=mW.ui s (k+1);rw[bC.out]at aF;rw[bM.out]at aG;have bV:R (y.all nW=M->mW.oI nW s=M):=Y λh=>mW.uB hy h
     have bW:=Y (iU aW (iU aX (iU aY (iU aF aG))));have⟨ae,aH⟩:=nE (l - 1 - mW.nH (s.take k));have aZ:=Y aH;have aL:ae<=64:=I;rw[aH]at av
     have bX:R (∀W,wr.alloc (mM #[V X y.lab.kind,V X y.lab.size,G ou ag cu,V X y.lab.tail] 63)=W->oO bl w1 W/\zQ bl W (G ou ag cu) y.sub/\Aq W bl ae/\qB W/\
       mY W wr.heap.size #[V X y.lab.kind,V X y.lab.size,G ou ag cu,V X y.lab.tail] 63):=Y λW h=>by
      subst h;have N:=(iT wr.heap.size wr).alloc (iP _) (mM #[V X y.lab.kind,V X y.lab.size,G ou ag cu,V X y.lab.tail] 63);exact⟨aD.trans (oO.of N),zQ.upd aK (oO.of N),a7 N av av.lt,(qB.upd au.2.2 aD az).below N (qB.upd au.2.2 aD az).lt,mY.new wr _ _⟩
     clear aK bU aW aX aY aF aG aH;go_upto_region 7 with fail;generalize wr.alloc (mM #[V X y.lab.kind,V X y.lab.size,G ou ag cu,V X y.lab.tail] 63)=w4 at*;have⟨bg,GM,bq,bu,ah⟩:=bX.out _ rfl;have b0:w4.cell? (Z wr.heap.size 0 U)=O (V X y.lab.kind):=ah.cell 0;have b1:w4.cell? (Z wr.heap.size 1 U)=O (V X y.lab.size):=ah.cell 1;have dU:w4.cell? (Z wr.heap.size 2 U)=O (G ou ag cu):=ah.cell 2;have b3:w4.cell? (Z wr.heap.size 3 U)=O (V X y.lab.tail):=ah.cell 3
     have bY:R (iW iN 203 #[mI #[V X y.lab.kind,V X y.lab.size,G ou ag cu,V X y.lab.tail],V X ((d:Int)+1),mG (O (Z bl 0 U))] w4
       λe w'=>e=mK (mH (Dn y (d+1) ae))/\oO bl w1 w'/\(∃af,af<=64/\Aq w' bl af)/\(Dn y (d+1) ae=u->Aq w' bl (ae - y.count))):=
      Y ((dx y (jq hy) w4 (G ou ag cu) (d+1) ae bl GM bq bu az I I aL).mono λe w' h=>⟨h.1,bg.trans h.2.1,h.2.2⟩)
     have bz:R (Dn y (d+1) ae=(As (d+1+y.deep<=9)&&As (y.count<=ae)&&y.all nW)):=Y rfl;clear bX bg GM bq bu ah;generalize Dn y (d+1) ae=r at*;cases r with
     |true=>
      go_wp2_with fail;refine(bY).mono ?_;rintro e w5 ⟨rfl,ai,⟨af,bA,ax⟩,ay⟩;have aI:=Y ai;have bZ:=Y (ay (by trivial));clear ai ax ay;go_wp2_with fail;have ak:=bz.out;have aa:=bW.out;have dH:=aZ.out;have dI:=aJ.out;simp only[Bool.true_eq,je,bb]at ak;go_roundw;case rel=>
       refine⟨k+1,by go_num,I,Y aI.out,Y ?_,Y ⟨by rw[aa.1];omega,by rw[aa.2.1];omega,by rw[aa.2.2.1,dI.2.2,ak.2];rfl⟩⟩;rw[aa.1,show l - 1 -(mW.nH (s.take k)+y.count)=ae - y.count by omega];exact bZ
      case measure=>simp[jF];omega
     |false=>
      go_wp2_with fail;refine(bY).mono ?_;rintro e w5 ⟨rfl,ai,⟨af,bA,ax⟩,ay⟩;have aI:=Y (aA.trans ai);have cz:=Y ax;clear ai ax ay;go_wp2_with fail;have aM:aE=M:=by
       have ak:=bz.out;have aa:=bW.out;have dH:=aZ.out;rw[A.out];have dJ:¬(d+(D+1)<=9/\1+C<=l/\mW.oI nW s=u):=by
        rintro⟨g1,g2,g3⟩;have e1:d+1+y.deep<=9:=by have:=aa.2.1;have:=aa.2.2.2.2;omega
        have e2:y.count<=ae:=by have:=aa.1;have:=aa.2.2.2.1;omega
        have e3:y.all nW=u:=by
         cases cK:y.all nW with
         |true=>rfl
         |false=>rw[bV.out cK]at g3;cases g3
        rw[a8 e1,a8 e2,e3]at ak;cases ak
       cases aN:(As (d+(D+1)<=9)&&As (1+C<=l)&&(u&&mW.oI nW s))with
       |false=>rfl
       |true=>
        exfalso;simp only[lX,je,bb]at aN;exact dJ ⟨aN.1.1,aN.1.2,aN.2⟩
      exact aj _ _ ⟨by rw[aM];rfl,aI.out,⟨af,bA,cz.out⟩,λh=>by rw[aM]at h;cases h⟩
    .obtain rfl:k=aw:=I
     have cZ:s.take k=s:=by rw[<-bJ.out,ky]
     rw[cZ]at av aJ;rw[bC.out,bM.out]at aJ;rw[bC.out]at av;go_wp2_with fail;have dK:=aJ.out;have aM:aE=u:=by
      rw[A.out,a8 I,a8 I,dK.2.2];rfl
     refine aj _ _ ⟨by rw[aM];rfl,dE.out,⟨l - 1 - C,I,av.out⟩,λ_=> ?_⟩;rw[show l -(1+C)=l - 1 - C by omega];exact av
def WV(x:mW TL):Dn x 1 64=pg x:=by
 unfold Dn pg;rw[show As (1+x.deep<=9)=As (x.deep<=8)by rw[bx];omega,Bool.and_comm (As (x.deep<=8))]
def Dp(x:mW TL)(w:K)(v:iQ)(ai:nZ w v x.sub)(J:qB w):
  iW iN 163 #[mI #[V X x.lab.kind,V X x.lab.size,v,V X x.lab.tail]] w λe w'=>e=mK (mH (pg x))/\iR w.heap.size w w':=by
 rw[<-WV];have N:=J.lt;have E:=Y (vk (k:=x.lab.kind) (z:=x.lab.size) (l:=x.lab.tail) (t:=63) ai);obtain⟨g,hg⟩:=o7 w;rw[hg]at E N|-
 have aj:R (∀W A,w.alloc (mM #[V X x.lab.kind,V X x.lab.size,v,V X x.lab.tail] 63)=W->W.alloc (mM #[V X 64] 3)=A->
   iW iN 203 #[mI #[V X x.lab.kind,V X x.lab.size,v,V X x.lab.tail],V X 1,mG (O (Z (g+1) 0 U))] A λe w'=>e=mK (mH (Dn x 1 64))/\iR g w w'):=Y λW A h aa=>by
  have⟨a1,a2,a3,_⟩:=E.out W h;have b1:=(iT W.heap.size W).alloc (iP _) (mM #[V X 64] 3);rw[aa]at b1;have hI:Aq A (g+1) 64:=by
   subst aa;have:=mY.new W #[V X 64] 3;rw[a3]at this;exact this
  have ae:qB A:=(J.below (hg▸a1:iR w.heap.size w W) J.lt).below b1 I;refine(Zm x A v 1 64 (g+1) (zQ.of a2 b1 I) hI ae I mX mX mX).mono λe w' h=>⟨h.1,?_⟩
  have ak:=a1.trans (b1.mono I);exact h.2.1.below ak I (by have:=b1.size;omega)
 generalize Dn x 1 64=aE at*;go_in;go_upto_region 1 with fail;have au:=Y (E _ rfl).2.2.1;have af:=Y (λA=>aj.out _ A rfl);have⟨c0,c1,c2,c3⟩:=(E _ rfl).2.2.2;generalize w.alloc (mM #[V X x.lab.kind,V X x.lab.size,v,V X x.lab.tail] 63)=w1 at*;have hs:=au.out;have hB:R (∀A,w1.alloc (mM #[V X 64] 3)=A->iR (g+1) w1 A):=Y λA h=>by
  subst h;have:=(iT w1.heap.size w1).alloc (iP _) (mM #[V X 64] 3);rwa [hs]at this
 go_upto_region 2 with fail;generalize w1.alloc (mM #[V X 64] 3)=w2 at*;have C:=hB.out _ rfl;have av:=Y (af _ rfl);have ax:=(C.cell (p:=(Z g 0 U)) (jV g)).trans c0;have ay:=(C.cell (p:=(Z g 1 U)) (jV g)).trans c1;have az:=(C.cell (p:=(Z g 2 U)) (jV g)).trans c2;have aA:=(C.cell (p:=(Z g 3 U)) (jV g)).trans c3;go_wp2_with fail;refine pG (av) λw3 ag=> ?_
 have ah:=Y ag;go_wp2;go_returns;exact⟨rfl,ah.out⟩
def Dq(l A:List AC)(i:Nat):Prop:=A.length=l.length/\∀m,m<l.length->A[m]? =if m<i\/l.length - i<=m then l[l.length - 1 - m]? else l[m]?
def Dq.start(l:List AC):Dq l l 0:=⟨rfl,λm h=>by rw[At I]⟩
def Dq.done{i:Nat}(h:Dq l A i)(hi:l.length<=i+i+1):A=l.reverse:=by
 apply List.ext_getElem?;intro m;by_cases C:m<l.length
 .rw[h.2 m C,List.getElem?_reverse C]
  split;.rfl
  .rw[show l.length - 1 - m=m by omega]
 .rw[dl (by rw[h.1];omega),dl nk]
def Dq.step{i j:Nat}(h:Dq l A i)(ae:j+i+1=l.length)(aa:i<j)(a b:AC)(J:A[i]? =O a)(hb:A[j]? =O b):Dq l ((A.set i b).set j a) (i+1):=by
 refine⟨by simp[h.1],λm N=> ?_⟩;have C:=h.2 i I;have E:=h.2 j I;rw[At I]at C E;by_cases c:m=j
 .subst c
  rw[List.getElem?_set_self (by simp[h.1];omega),Ax I,<-J,C];congr 1;omega
 .rw[List.getElem?_set_ne I]
  by_cases d:m=i
  .subst d
   rw[List.getElem?_set_self (by rw[h.1];omega),Ax I,<-hb,E];congr 1;omega
  .rw[List.getElem?_set_ne I,h.2 m N]
   by_cases e:m<i\/l.length - i<=m;.rw[Ax e,Ax I]
   .rw[At e,At I]
def IE(l:List AC)(i:Nat)(b:AC):(nI l).set i (V .u8 (b.toNat:Int))=nI (l.set i b):=by simp[nI]
def II(l:List AC)(i:Nat)(b:AC)(h:l[i]? =O b):(nI l)[i]? =O (V .u8 (b.toNat:Int)):=by simp[nI,h]
def IJ{ar v:K}(h:ar.grownBy v r)(k:v.grownBy w r):ar.grownBy w r:=
 ⟨k.os.trans h.os,k.tape.trans h.tape,k.output.trans h.output,jk h.size k.size,λi hi A=>(k.block i (jy hi h.size) A).trans (h.block i hi A)⟩
def RG{ar v:K}(h:ar.grownBy v r):ar.grownBy v.drew r:=⟨h.os,h.tape,h.output,h.size,h.block⟩
def IK(B g:Nat)(l:List AC)(k:Nat)(w:K)(hk:k<=140737488355328)(hl:l.length=k)(ho:nS w B 5 (G (O (Z g 0 U)) k k) l):
  iW iN 265 #[G (O (Z g 0 U)) k k] w λe w'=>e=mK (mJ #[])/\nS w' B 5 (G (O (Z g 0 U)) k k) l.reverse/\w.grownBy w' (O g):=by
 have aB:=Dq.start l;have N:=Y hl;go_in;go_wp2;go_loopw [2,3] (λiv aD wr=>∃(i:Nat) (ah:Int) (C:List AC),iv=V X i/\aD=V X ah/\ah=(k:Int) - 1 - i/\i<=k/\Dq l C i/\nS wr B 5 (G (O (Z g 0 U)) k k) C/\w.grownBy wr (O g)) (λiv _ _=>k -(jF iv).toNat);case atStart=>exact⟨0,_,l,rfl,rfl,I,I,aB,ho,World.grownBy.refl _ _⟩
 case round=>
  obtain⟨i,ah,C,rfl,rfl,ai,hi,J,A,hg⟩:=hrel;by_cases c:(i:Int)<ah
  .obtain⟨j,rfl⟩:∃j:Nat,ah=j:=⟨ah.toNat,I⟩
   have aj:i<j:=I;have aH:j<k:=I;have E:=J.1.trans N.out;have⟨a,ae⟩:∃a,C[i]? =O a:=⟨_,ja I⟩;have⟨b,hb⟩:∃b,C[j]? =O b:=⟨_,ja I⟩;have ak:=Y (J.step (by have:=N.out;omega) aj a b ae hb);unfold nS at A;rw[E]at A;have au:wr.cell? (Z g i U)=O (V .u8 (a.toNat:Int)):=by rw[A.cellAt i I,II _ _ _ ae]
   have av:wr.cell? (Z g j U)=O (V .u8 (b.toNat:Int)):=by rw[A.cellAt j I,II _ _ _ hb]
   have ax:=A.frozenAt i;have ay:=A.frozenAt j;have af:=Y E;have az:=Y ai;clear ai J E ae hb;go_wp2_with fail;go_region;have ag:=A.stored i (V .u8 (b.toNat:Int));have aa:=ag.1.stored j (V .u8 (a.toNat:Int));rw[IE,IE]at aa;have aA:nS ((wr.setCell (Z g i U) (V .u8 (b.toNat:Int))).setCell (Z g j U) (V .u8 (a.toNat:Int))).drew B 5 (G (O (Z g 0 U)) k k) ((C.set i b).set j a):=by
    have:=World.ownsRow.drew aa.1;unfold nS;rw[dp,dp,af.out];exact this
   have g3:w.grownBy ((wr.setCell (Z g i U) (V .u8 (b.toNat:Int))).setCell (Z g j U) (V .u8 (a.toNat:Int))).drew (O g):=RG (IJ (IJ hg ag.2) aa.2);have aF:=Y aA;have aG:=Y g3;clear ag aa aA g3 au av ax ay A hg;generalize ((wr.setCell (Z g i U) (V .u8 (b.toNat:Int))).setCell (Z g j U) (V .u8 (a.toNat:Int))).drew=W at*;go_wp2;go_roundw;case rel=>exact⟨i+1,(j:Int) - 1,_,by go_num,rfl,by have:=az.out;omega,I,ak.out,aF.out,aG.out⟩
   case measure=>simp[jF];omega
  .have E:C.length=k:=J.1.trans N.out
   have hd:=J.done (by have:=N.out;omega);subst hd;go_wp2_with fail;go_end0;exact⟨rfl,A,hg⟩
def Dr{a b:An}(h:a.data.toList=b.data.toList):a=b:=by
 apply cS;exact Array.toList_inj.1 h
def bmk(a:An):a=⟨a.data.toList.toArray⟩:=Dr rfl
def UD{x:An}(h:x.data.toList=l):jS (H x)=mK (H ⟨l.toArray⟩):=by
 rw[bmk x,h]
def a6a{t:List AC}(h:t=l++zH m)(c:0<m):t=(l++[jH (m % 256)])++zH (m/256):=by
 rw[h,vQ m c,cC];rfl
def KY(n:Nat)(w:K)(hn:n<18446744073709551616):
  iW iN 150 #[V mP n] w λe w'=>e=mK (H ⟨(zH n).reverse.toArray⟩)/\iR w.heap.size w w':=by
 have aa:=Ca 8 n (jy hn mX);have⟨t,ht⟩:∃t,t=zH n:=⟨_,rfl⟩;rw[<-ht]at aa|-;have ae:=ht;have⟨B,hB⟩:∃B,B=w.heap.size:=⟨_,rfl⟩;have ah:B<=w.heap.size:=I;rw[<-hB];go_in;go_wp2;go_loopw [0,3] (λC v wr=>∃(m:Nat) (x:An) (l:List AC),C=V mP m/\v=H x/\R (x.data.toList=l.reverse)/\R (t=l++zH m)/\iR B w wr/\m<18446744073709551616) (λC _ _=>(jF C).toNat);case atStart=>exact⟨n,_,[],rfl,rfl,rfl,ae,iT _ _,hn⟩
 case round=>
  obtain⟨m,x,l,rfl,rfl,E,ht,A,ak⟩:=hrel;have J:B<=wr.heap.size:=by have:=A.size;omega
  by_cases c:0<m
  .have N:=Y (a6a ht c)
   have ai:x.size<=8:=by
    have af:=congrArg lQ E.out;have ag:=congrArg lQ ht.out;simp at af ag;omega
   have aj:=λW=>Hu NV W [jH (m % 256)] #[V .u8 ((m:Int) % 256)] 1 rfl (EB I I) mX
   go_wp2;go_roundw;case rel=>exact⟨m/256,_,l++[jH (m % 256)],by go_num,rfl,by unfold R;simp[E.out],N,A.alloc J _,I⟩
   case measure=>simp[jF];omega
  .obtain rfl:m=0:=I
   go_wp2;go_returns;exact⟨UD (by rw[E.out,ht.out,sD,List.append_nil]),A⟩
def a6b(s:An)(k:Nat)(h:k<s.size):(s.extract k (k+1)).data.toList=[s[k]]:=by
 rw[lI,show k+1 - k=1 by omega,lH (by simpa using h)];rfl
def sZ(s:An)(w:K)(hs:s.size<=jd):
  iW iN 72 #[H s] w λe w'=>e=mK (H ⟨s.data.toList.reverse.toArray⟩)/\w=w':=by
 unfold jd at hs;go_in;go_wp2;go_loop [3,4] (λv i=>∃(k:Nat) (x:An),k<=s.size/\i=V X k/\v=H x/\R (x.data.toList=(s.data.toList.take k).reverse)) (λ_ i=>s.size -(jF i).toNat);case atStart=>exact⟨0,_,I,rfl,rfl,rfl⟩
 case round=>
  obtain⟨k,x,hk,rfl,rfl,A⟩:=hrel;by_cases c:k<s.size
  .have J:x.size<=k:=by
    have E:=congrArg lQ A.out;simp at E;omega
   have C:R ((s.extract k (k+1)++x).data.toList=(s.data.toList.take (k+1)).reverse):=by
    unfold R;rw[LW s k c,eb,<-A.out,ByteArray.data_append,ma,a6b s k c];rfl
   go_wp2;go_round;case rel=>exact⟨k+1,_,I,by go_num,rfl,C⟩
   case measure=>simp[jF];omega
  .obtain rfl:k=s.size:=I
   go_wp2;go_returns;exact⟨UD (by rw[A.out,kK ny]),rfl⟩
def uC(s:An)(w:K)(J:s.size<=8):
  iW iN 71 #[H s] w λe w'=>e=mK (V mP (qY s.data.toList))/\w=w':=by
 go_in;go_wp2;go_loop [3,4] (λv i=>∃(k n:Nat),k<=s.size/\i=V X k/\v=V mP n/\R (n=qY (s.data.toList.take k))) (λ_ i=>s.size -(jF i).toNat);case atStart=>exact⟨0,0,I,rfl,rfl,rfl⟩
 case round=>
  obtain⟨k,n,hk,rfl,rfl,hv⟩:=hrel;by_cases c:k<s.size
  .have hb:s[k].toNat<=255:=by have:=s[k].toNat_lt;omega
   have A:R (256*n+s[k].toNat=qY (s.data.toList.take (k+1))):=by unfold R;rw[LW s k c,KG,hv.out]
   have hlt:256*n+s[k].toNat<18446744073709551616:=by
    rw[A.out];have C:=GI (s.data.toList.take (k+1));have E:(s.data.toList.take (k+1)).length<=8:=by rw[jQ];omega
    exact jy C (xq _ E)
   go_wp2;go_round;case rel=>exact⟨k+1,_,I,by go_num,by go_num,A⟩
   case measure=>simp[jF];omega
  .exact LX
def a3a(l:List AC)(j:Nat):(l++jC j 0).reverse=jC j 0++l.reverse:=ny
def UE(n k:Nat)(w:K)(hn:n<18446744073709551616)(ag:k<=8)(h:n<256^k):
  iW iN 112 #[V mP n,V X k] w λe w'=>e=mK (mJ #[H ⟨(xQ k n).reverse.toArray⟩,mH u])/\iR w.heap.size w w':=by
 have c1:=Y (KY n w hn);have hl:=(T9 k n).2 h;have hp:=Y (GH k n h);have⟨L,hL⟩:∃L:An,L=⟨(zH n).reverse.toArray⟩:=⟨_,rfl⟩;have C:L.data.toList=(zH n).reverse:=by rw[hL]
 rw[<-hL]at c1;have J:L.size=(zH n).length:=by have:=congrArg lQ C;simpa using this
 rw[<-J]at hl hp;have af:=Y C;clear hL C J h;have⟨B,hB⟩:∃B,B=w.heap.size:=⟨_,rfl⟩;rw[<-hB]at c1|-;go_in;go_wp2_with fail;refine pG c1 λw1 N=> ?_
 clear hB;go_wp2;go_loop [6] (λv=>∃(j:Nat) (x:An),v=H x/\x.size=L.size+j/\L.size+j<=k/\R (x.data.toList=jC j 0++L.data.toList)) (λv=>match v with| H x=>k - x.size|_=>0);case atStart=>exact⟨0,L,rfl,rfl,hl,rfl⟩
 case round=>
  obtain⟨j,x,rfl,A,ah,aa⟩:=hrel;by_cases c:x.size<k
  .have ae:R (((⟨#[0]⟩:An)++x).data.toList=jC (j+1) 0++L.data.toList):=by
    unfold R;rw[ByteArray.data_append,ma,aa.out,cJ];rfl
   have hsz:((⟨#[0]⟩:An)++x).size=L.size+(j+1):=by rw[cg,A];show 1+_=_;omega
   have E:=Y A;go_wp2;go_round;case rel=>exact⟨j+1,_,rfl,hsz,by have:=E.out;omega,ae⟩
   case measure=>have:=E.out;simp only[];rw[hsz];omega
  .have E:=Y A
   clear A;go_wp2;go_returns;refine⟨?_,N⟩;have e:x=⟨(xQ k n).reverse.toArray⟩:=Dr (by
    have:=E.out;rw[aa.out,hp.out,a3a,af.out,show k - L.size=j by omega])
   rw[e];rfl
def Below.row{w0:K}(hb:iR B w0 w)(hg:w.grownBy w' (O g))(h:B<=g)(A:B<=w.heap.size):iR B w0 w':=
 hb.grown hg A λk hk=>by simp at hk;omega
def RH(B g:Nat)(l:List AC)(k:Nat)(w:K)(hk:k<=140737488355328)(hl:l.length=k)(ho:nS w B 5 (G (O (Z g 0 U)) k k) l):
  iW iN 239 #[G (O (Z g 0 U)) k k] w λe w'=>e=mK (H ⟨l.reverse.toArray⟩)/\w.grownBy w' (O g):=by
 have c1:=Y (IK B g l k w hk hl ho);go_in;go_wp2_with fail;refine vF c1 λw' A hg=> ?_
 have C:=A.string NV;go_wp2;go_returns;exact⟨rfl,hg⟩
def Pg:∀ k n:Nat,n<256^k->n<18446744073709551616->(zH n).length=(Lib.bitLen n+7)/8
 |0,n,hk,h=>by simp at hk;subst hk;rw[sD];rfl
 |k+1,n,hk,h=>by
  by_cases c:n=0;.subst c;rw[sD];rfl
  .by_cases c2:n<256
   .rw[vQ n I,show n/256=0 by omega,sD]
    have A:=Lib.bitLen_le n 8 I c2;have C:1<=Lib.bitLen n:=by rw[Lib.bitLen_half n I I];omega
    simp;omega
   .rw[vQ n I,jD,Pg k (n/256) (by rw[kD]at hk;omega) I,Lib.bitLen_shift 8 n I h]
    have:n/2^8=n/256:=rfl;rw[this];omega
def WW(n:Nat)(w:K)(hn:n<18446744073709551616):
  iW iN 202 #[V mP n] w λe w'=>e=mK (H ⟨(zH n).reverse.toArray⟩)/\iR w.heap.size w w':=by
 have hlen:=Pg 8 n (jy hn mX) hn;have N:=Ca 8 n (jy hn mX);have hb:=Lib.bitLen_le n 64 I hn;have c0:=λw=>Tryz.bits_Len64 n w I I
 rw[cF]at c0;have c2:=λw=>QX n ((Lib.bitLen n+7)/8) w hn I
 have c4:=λB g w ho=>RH B g (xQ ((Lib.bitLen n+7)/8) n) ((Lib.bitLen n+7)/8) w I (uA _ n) ho
 rw[a5v n,hlen];generalize Lib.bitLen n=m at*;have A:=Y c0;have C:=Y c2;have E:=Y c4;have J:R ((((m:Nat):Int)+7)/8=(((m+7)/8:Nat):Int)):=by unfold R;omega
 go_in;go_wp2_with fail;refine vE (A _) ?_;go_wp2_with fail;rw[J.out];refine vF (C _) λw1 ho hb=> ?_
 go_wp2_with fail;refine pG (E _ _ _ ho) λw2 hg=> ?_
 go_wp2;go_returns;exact⟨rfl,Below.row hb hg (iP _) hb.size⟩
def a3b(n b:Nat)(hn:n<72057594037927936)(hb:b<256):
  bits BinOp.or IntKind.u64 (IntKind.u64.wrap ((n:Int)*256)) (b:Int)=((256*n+b:Nat):Int):=by
 rw[show((n:Int)*256)=((n*256:Nat):Int)from by simp,IntWalk.u64_in _ ⟨I,I⟩,u64_or_nat (n*256) b I I];congr 1;have:=l9 (show b<2^8 by omega) n;rw[db n 256,show(256:Nat)=2^8 from rfl,<-this]
def RI(s:An)(w:K)(h1:1<=s.size)(C:s.size<=8):
  iW iN 268 #[H s] w λe w'=>e=mK (mJ #[V mP (qY s.data.toList),V X 0])/\w=w':=by
 have c1:=Y (FH s.size w h1 C);go_in;go_wp2_with fail;refine vE c1 ?_;go_wp2;go_loop [5,15] (λA i=>∃k n:Nat,k<=s.size/\i=V X k/\A=V mP n/\R (n=qY (s.data.toList.take k))) (λ_ i=>s.size -(jF i).toNat);case atStart=>exact⟨0,0,I,rfl,rfl,rfl⟩
 case round=>
  obtain⟨k,n,hk,rfl,rfl,hv⟩:=hrel;by_cases c:k<s.size
  .have hb:s[k].toNat<=255:=by have:=s[k].toNat_lt;omega
   have hn:n<72057594037927936:=by
    have h1:=GI (s.data.toList.take k);have h2:(s.data.toList.take k).length<=7:=by rw[jQ];omega
    rw[hv.out];exact H6
   have hor:=Y (a3b n s[k].toNat hn I);have hnx:R (256*n+s[k].toNat=qY (s.data.toList.take (k+1))):=by unfold R;rw[LW s k c,KG,hv.out]
   clear hn;exact Ua
  .exact LX
def qw(l:List AC):Nat×Nat:=match l with
 |[]=>(0,0)
 |b::r=>if 8<r.length+1 then(0,5)else if b.toNat=0 then(0,3)else(qY (b::r),0)
def n2(t:Nat×Nat):iQ:=mJ #[V mP t.1,V X t.2]
def UF(h:p:=by
 have h':0<s.data.toList.length:=by simpa using h
 have:=lH h';rw[ll]at this;exact this):p:=h
def r9(s:An)(h:0<s.size):s.data.toList=s[0]::s.data.toList.drop 1:=by
 exact UF
def rW(s:An)(h:0<s.size):s.toList.isEmpty=M:=by
 rw[Lib.toList_data,r9 s h];rfl
def yx(h:p:=by
 go_wp2;go_returns;exact⟨by rw[e.out];rfl,rfl⟩):p:=h
def zi(s:An)(w:K)(hs:s.size<=jd):
  iW iN 243 #[H s] w λe w'=>e=mK (n2 (qw s.data.toList))/\w=w':=by
 unfold jd at hs;by_cases h0:s.size=0
 .have e:s=⟨#[]⟩:=Dr (j5.1 (by simpa using h0))
  subst e;go_in;exact qF
 .have hp:0<s.size:=I
  have E:=rW s hp;have hl:(s.data.toList.drop 1).length+1=s.size:=by rw[jP];simp;omega
  by_cases J:8<s.size
  .have e:R (qw s.data.toList=(0,5)):=by unfold R;rw[r9 s hp,qw,Ax I]
   go_in;exact yx
  .by_cases A:s[0].toNat=0
   .have e:R (qw s.data.toList=(0,3)):=by unfold R;rw[r9 s hp,qw,At I,Ax A]
    have C:((s[0].toNat:Int)==0)=u:=EA;go_in;exact yx
   .have e:R (qw s.data.toList=(qY s.data.toList,0)):=by unfold R;rw[r9 s hp,qw,At I,At A]
    have C:((s[0].toNat:Int)==0)=M:=qJ;have c1:=Y (RI s w I I);generalize qY s.data.toList=v at*;go_in;go_wp2_with fail;refine vE c1 ?_;exact yx
abbrev zK:jl:=63
def okL(l:List AC):Bool:=(qw l).2==0
def xY(a:TL)(x:IL):Bool:= !x.list&&okL x.text&&As ((x.text.length:Int)<=a.size)
def zL(a:TL)(x:IL):Bool:= !x.list&&As ((x.text.length:Int)=a.size)
def zM(a:TL)(x:IL):Bool:= !x.list&&As ((x.text.length:Int)<=a.size)
def BI(a:TL)(x:IL)(m:Nat):Bool:=x.list&&As ((m:Int)<=a.size)
def zN(a:TL)(n:Nat)(x:IL)(m:Nat):Bool:=x.list&&As (m<=n)&&As ((n:Int) - a.tail<=(m:Int))
def zk(k z tl:Int)(tv:iQ)(tx:An)(li:Bool)(iv:iQ):∀W,(w.alloc (mM #[V X k,V X z,tv,V X tl] zK)).alloc (mM #[H tx,mH li,iv] IT)=W->
  iR w.heap.size w W/\(W.cell? (Z w.heap.size 0 U)=O (V X k)/\W.cell? (Z w.heap.size 1 U)=O (V X z)/\W.cell? (Z w.heap.size 2 U)=O tv/\W.cell? (Z w.heap.size 3 U)=O (V X tl))/\
   (W.cell? (Z (w.heap.size+1) 0 U)=O (H tx)/\W.cell? (Z (w.heap.size+1) 1 U)=O (mH li)/\W.cell? (Z (w.heap.size+1) 2 U)=O iv)/\W.heap.size=w.heap.size+2:=by
 rintro W rfl;have A:=(mY.new w #[V X k,V X z,tv,V X tl] zK).alloc (mM #[H tx,mH li,iv] IT);have C:=mY.new (w.alloc (mM #[V X k,V X z,tv,V X tl] zK)) #[H tx,mH li,iv] IT;have E:(w.alloc (mM #[V X k,V X z,tv,V X tl] zK)).heap.size=w.heap.size+1:=ny;rw[E]at C;exact⟨((iT _ w).alloc (iP _) _).alloc ny _,⟨A.cell 0,A.cell 1,A.cell 2,A.cell 3⟩,⟨C.cell 0,C.cell 1,C.cell 2⟩,ny⟩
def Zn(x:IL)(iv:iQ)(w:K)(J:x.text.length<=jd):
  iW iN 206 #[mI #[H (txt x),mH x.list,iv]] w λe w'=>(∃n:Nat,e=mK (mJ #[V mP n,V X (if x.list then 12 else((qw x.text).2:Nat):Int)]))/\iR w.heap.size w w':=by
 have hb:=mY.new w #[H (txt x),mH x.list,iv] IT;have C:=(iT w.heap.size w).alloc (iP _) (mM #[H (txt x),mH x.list,iv] IT);obtain⟨g,hg⟩:=o7 w;rw[hg]at hb C|-;have A:=λW=>zi (txt x) W (by rw[yG];exact J)
 rw[O0]at A;unfold n2 at A;have A:=Y A;have E:=Y C;obtain⟨tx,li⟩:=x;dsimp only at*;generalize txt ⟨tx,li⟩=aa at*;generalize qw tx=ao at*;obtain⟨N,ge⟩:=ao;dsimp only at A;have⟨c0,c1⟩:=hb.a2;clear hb C J;cases li with
 |true=>
  go_in;go_upto_region 1 with fail;generalize w.alloc _=w1 at*;go_wp2;go_returns;exact⟨⟨0,rfl⟩,E.out⟩
 |false=>
  go_in;go_upto_region 1 with fail;generalize w.alloc _=w1 at*;go_wp2_with fail;refine vE (A _) ?_;go_wp2;go_returns;exact⟨⟨N,rfl⟩,E.out⟩
def yH(h:p:=by
 clear HR;go_in;go_upto_region 1 with fail;generalize (w.alloc _).alloc _=w1 at*;have⟨hb1,⟨t0,t1,t2,t3⟩,⟨i0,i1,i2⟩,hsz⟩:=HW.out _ rfl;have HB:=Y hb1;clear HW hb1;go_wp2;go_returns;exact⟨by rw[HE.out];rfl,HB.out⟩):p:=h
def Zo(a:TL)(x:IL)(tv iv:iQ)(w:K)(E:x.text.length<=jd):
  iW iN 229 #[mI #[V X a.kind,V X a.size,tv,V X a.tail],mI #[H (txt x),mH x.list,iv]] w λe w'=>e=mK (mH (zL a x))/\iR w.heap.size w w':=by
 have HW:=Y (zk (w:=w) a.kind a.size a.tail tv (txt x) x.list iv);have J:=yG x;obtain⟨g,hg⟩:=o7 w;have N:x.text.length<=9223372036854775807:=by unfold jd at E;omega
 have⟨aE,A⟩:=nE (zL a x);have HR:=Y A;rw[A];rw[hg]at HW|-;obtain⟨tx,li⟩:=x;obtain⟨k,z,tl⟩:=a;dsimp only at*;generalize txt ⟨tx,li⟩=aa at*;have⟨L,hL⟩:=nE tx.length;have C:=Y hL;rw[hL]at J N;clear A E hL;cases li with
 |true=>
  have HE:R (aE=M):=Y (by rw[<-HR.out];unfold zL;dsimp only;simp only[C.out];simp;first|done|omega);exact yH
 |false=>
  by_cases c:(L:Int)=z
  .skip
   have HE:R (aE=u):=Y (by rw[<-HR.out];unfold zL;dsimp only;simp only[C.out];simp;first|done|omega);have e1:((L:Int)==z)=u:=nk;exact yH
  .skip
   have HE:R (aE=M):=Y (by rw[<-HR.out];unfold zL;dsimp only;simp only[C.out];simp;first|done|omega);have e1:((L:Int)==z)=M:=nk;exact yH
def Zp(a:TL)(x:IL)(tv iv:iQ)(w:K)(E:x.text.length<=jd):
  iW iN 232 #[mI #[V X a.kind,V X a.size,tv,V X a.tail],mI #[H (txt x),mH x.list,iv]] w λe w'=>e=mK (mH (zM a x))/\iR w.heap.size w w':=by
 have HW:=Y (zk (w:=w) a.kind a.size a.tail tv (txt x) x.list iv);have J:=yG x;obtain⟨g,hg⟩:=o7 w;have N:x.text.length<=9223372036854775807:=by unfold jd at E;omega
 have⟨aE,A⟩:=nE (zM a x);have HR:=Y A;rw[A];rw[hg]at HW|-;obtain⟨tx,li⟩:=x;obtain⟨k,z,tl⟩:=a;dsimp only at*;generalize txt ⟨tx,li⟩=aa at*;have⟨L,hL⟩:=nE tx.length;have C:=Y hL;rw[hL]at J N;clear A E hL;cases li with
 |true=>
  have HE:R (aE=M):=Y (by rw[<-HR.out];unfold zM;dsimp only;simp only[C.out];simp;first|done|omega);exact yH
 |false=>
  by_cases c:(L:Int)<=z
  .skip
   have HE:R (aE=u):=Y (by rw[<-HR.out];unfold zM;dsimp only;simp only[C.out];simp;first|done|omega);exact yH
  .skip
   have HE:R (aE=M):=Y (by rw[<-HR.out];unfold zM;dsimp only;simp only[C.out];simp;first|done|omega);exact yH
def Zq(a:TL)(x:IL)(ot oi:Option j4)(n m ct ci:Nat)(w:K)(hn:n<=100000)(J:m<=100000)(htl:0<=a.tail/\a.tail<=100000):
  iW iN 233 #[mI #[V X a.kind,V X a.size,G ot n ct,V X a.tail],mI #[H (txt x),mH x.list,G oi m ci]] w λe w'=>e=mK (mH (BI a x m))/\iR w.heap.size w w':=by
 have HW:=Y (zk (w:=w) a.kind a.size a.tail (G ot n ct) (txt x) x.list (G oi m ci));obtain⟨g,hg⟩:=o7 w;have⟨aE,A⟩:=nE (BI a x m);have HR:=Y A;rw[A];rw[hg]at HW|-;obtain⟨tx,li⟩:=x;obtain⟨k,z,tl⟩:=a;dsimp only at*;generalize txt ⟨tx,li⟩=N at*;clear A;obtain⟨C,E⟩:=htl;cases li with
 |false=>
  have HE:R (aE=M):=Y (by rw[<-HR.out];unfold BI;dsimp only;simp;first|done|omega);exact yH
 |true=>
  by_cases c:(m:Int)<=z
  .have e1:As ((m:Int)<=z)=u:=nk
   have HE:R (aE=u):=Y (by rw[<-HR.out];unfold BI;dsimp only;simp;first|done|omega);exact yH
  .have e1:As ((m:Int)<=z)=M:=nk
   have HE:R (aE=M):=Y (by rw[<-HR.out];unfold BI;dsimp only;simp;first|done|omega);exact yH
def Zr(a:TL)(x:IL)(ot oi:Option j4)(n m ct ci:Nat)(w:K)(hn:n<=100000)(J:m<=100000)(htl:0<=a.tail/\a.tail<=100000):
  iW iN 236 #[mI #[V X a.kind,V X a.size,G ot n ct,V X a.tail],mI #[H (txt x),mH x.list,G oi m ci]] w λe w'=>e=mK (mH (zN a n x m))/\iR w.heap.size w w':=by
 have HW:=Y (zk (w:=w) a.kind a.size a.tail (G ot n ct) (txt x) x.list (G oi m ci));obtain⟨g,hg⟩:=o7 w;have⟨aE,A⟩:=nE (zN a n x m);have HR:=Y A;rw[A];rw[hg]at HW|-;obtain⟨tx,li⟩:=x;obtain⟨k,z,tl⟩:=a;dsimp only at*;generalize txt ⟨tx,li⟩=N at*;clear A;obtain⟨C,E⟩:=htl;cases li with
 |false=>
  have HE:R (aE=M):=Y (by rw[<-HR.out];unfold zN;dsimp only;simp;first|done|omega);exact yH
 |true=>
  by_cases c:m<=n
  .have e1:As (m<=n)=u:=nk
   by_cases c2:(n:Int) - tl<=(m:Int)
   .have e2:As ((n:Int) - tl<=(m:Int))=u:=nk
    have HE:R (aE=u):=Y (by rw[<-HR.out];unfold zN;dsimp only;simp;first|done|omega);exact yH
   .have e2:As ((n:Int) - tl<=(m:Int))=M:=nk
    have HE:R (aE=M):=Y (by rw[<-HR.out];unfold zN;dsimp only;simp;first|done|omega);exact yH
  .have e1:As (m<=n)=M:=nk
   have HE:R (aE=M):=Y (by rw[<-HR.out];unfold zN;dsimp only;simp;first|done|omega);exact yH
def Mw(h:p:=by
 clear HR;go_in;go_upto_region 1 with fail;generalize (w.alloc _).alloc _=w1 at*;have⟨hb1,⟨t0,t1,t2,t3⟩,⟨i0,i1,i2⟩,hsz⟩:=HW.out _ rfl;have HB:=Y hb1;clear HW hb1;go_wp2_with fail;refine(CO _).mono ?_;rintro e w2 ⟨⟨nn,rfl⟩,hb2⟩;have HB2:=Y (HB.trans (hb2.mono I));have x1:=(hb2.cell (p:=(Z (g+1) 0 U)) (by show g+1<_;omega)).trans i0;have x2:=(hb2.cell (p:=(Z g 1 U)) (by show g<_;omega)).trans t1;clear hb2 i0 i1 i2 t0 t1 t2 t3;go_wp2;go_returns;exact⟨by rw[HE.out];rfl,HB2.out⟩):p:=h
def Zt(a:TL)(x:IL)(tv iv:iQ)(w:K)(E:x.text.length<=jd):
  iW iN 228 #[mI #[V X a.kind,V X a.size,tv,V X a.tail],mI #[H (txt x),mH x.list,iv]] w λe w'=>e=mK (mH (xY a x))/\iR w.heap.size w w':=by
 have HW:=Y (zk (w:=w) a.kind a.size a.tail tv (txt x) x.list iv);have aa:=yG x;obtain⟨g,hg⟩:=o7 w;have ae:x.text.length<=9223372036854775807:=by unfold jd at E;omega
 have CO:=λ(W:K)=>Zn x iv W E
 have⟨aE,J⟩:=nE (xY a x);have HR:=Y J;rw[J];rw[hg]at HW|-;obtain⟨tx,li⟩:=x;obtain⟨k,z,tl⟩:=a;dsimp only at*;generalize txt ⟨tx,li⟩=N at*;have⟨L,hL⟩:=nE tx.length;have C:=Y hL;rw[hL]at aa ae;clear J E hL;have CO:∀W,iW iN 206 #[mI #[H N,mH li,iv]] W λe w'=>(∃n:Nat,e=mK (mJ #[V mP n,V X (if li then 12 else((qw tx).2:Nat):Int)]))/\iR W.heap.size W w':=CO
 have CO:=Y CO;cases li with
 |true=>
  have CO:R (∀W,iW iN 206 #[mI #[H N,mH u,iv]] W λe w'=>(∃n:Nat,e=mK (mJ #[V mP n,V X 12]))/\iR W.heap.size W w'):=CO;have HE:R (aE=M):=Y (by rw[<-HR.out];unfold xY;dsimp only;first|rfl|(rw[A.out,C.out];simp;first|done|omega));exact Mw
 |false=>
  have CO:R (∀W,iW iN 206 #[mI #[H N,mH M,iv]] W λe w'=>(∃n:Nat,e=mK (mJ #[V mP n,V X ((qw tx).2:Nat)]))/\iR W.heap.size W w'):=CO;have A:R (okL tx=((qw tx).2==0)):=Y rfl;generalize (qw tx).2=GE at*;by_cases c0:GE=0
  .subst c0
   by_cases c:(L:Int)<=z
   .have e1:As ((L:Int)<=z)=u:=nk
    have HE:R (aE=u):=Y (by rw[<-HR.out];unfold xY;dsimp only;first|rfl|(rw[A.out,C.out];simp;first|done|omega));exact Mw
   .have e1:As ((L:Int)<=z)=M:=nk
    have HE:R (aE=M):=Y (by rw[<-HR.out];unfold xY;dsimp only;first|rfl|(rw[A.out,C.out];simp;first|done|omega));exact Mw
  .have af:((GE:Int)==0)=M:=nk
   have HE:R (aE=M):=Y (by rw[<-HR.out];unfold xY;dsimp only;first|rfl|(rw[A.out,C.out];simp;first|done|omega));exact Mw
end
section
open Go.RowKit Go.Maps
def uN:Kc (iQ×iQ) where
 ev p:=mI #[p.1,p.2]
 aE v:=match v with
  | mI cs=>match cs.toList with
   |[a,b]=>O (.held (a,b),[])
   |_=>U
  |_=>U
 lay x:=rfl
 inv v z h:=by
  cases v with
  |agg cs=>
   dsimp only at h;split at h
   .rename_i a b he
    cases h;refine⟨(a,b),?_,rfl⟩;congr 1;apply Array.ext';rw[he]
   .cases h
  |_=>cases h
def KiK:Gt iN 3 Int:=intKeys l6
abbrev KmT:jl:=235
def RJ(f:FuncId):iQ:=.func (.func f) #[] #[]
def kf1:iQ×iQ:=(RJ 228,RJ 226)
def kf2:iQ×iQ:=(RJ 229,RJ 230)
def kf3:iQ×iQ:=(RJ 232,RJ 226)
def kf4:iQ×iQ:=(RJ 233,RJ 234)
def kf5:iQ×iQ:=(RJ 236,RJ 237)
def RL:List (Int×(iQ×iQ)):=[(5,kf5),(4,kf4),(3,kf3),(2,kf2),(1,kf1)]
def WX(w:K):(zeroValue 239).run iN w=.ok (uN.ev (.nilFunc,.nilFunc)) w:=rfl
def xZ(w:K)(b:Nat):Prop:=q9 KiK uN w b 5 RL
def xZ.look(h:xZ w b)(k:Int)(hk:(lN X k).wf=u)(p:iQ×iQ)(hp:yt RL k=O p):
  (Instr.lookup KmT (.map (O b)) (V X k) M).run iN w=.ok (mI #[p.1,p.2]) w:=by
 have A:=q9.look (x:=k) h Tryz.underlying235 WX hk;rw[hp]at A;exact A
def xZ.below(h:xZ w b)(hb:iR w.heap.size w w'):xZ w' b:=q9.below h hb
def Ph(w:K):iW iN 196 #[] w λe w'=>e=mK (.map (O w.heap.size))/\xZ w' w.heap.size/\iR w.heap.size w w':=by
 have aJ:=@run_makeMap iN;obtain⟨g,hg⟩:=o7 w;have N:=q9.made KiK uN w;have aa:=(iT w.heap.size w).alloc (iP _) (.map #[] 0);have ae:(w.alloc (.map #[] 0)).heap.size=g+1:=by simp[hg]
 rw[hg]at N aa;have N:=Y N;have af:=Y aa;rw[hg];go_in;go_upto_region 2 with fail
 go_wp2_with (first
  |(refine qb (E:=KiK) (F:=uN) (x:=(1:Int)) (y:=kf1) rfl _ _ _ rfl Tryz.underlying235 N rfl rfl (show(lN .i64 1).wf=u by decide) rfl xh ?_;intro w2 A C;have av:=Y A;have ag:=Y C;clear A C)
  |(refine qb (E:=KiK) (F:=uN) (x:=(2:Int)) (y:=kf2) rfl _ _ _ rfl Tryz.underlying235 av rfl rfl (show(lN .i64 2).wf=u by decide) rfl xh ?_;intro w2 A C;have ax:=Y A;have ah:=Y C;clear A C)
  |(refine qb (E:=KiK) (F:=uN) (x:=(3:Int)) (y:=kf3) rfl _ _ _ rfl Tryz.underlying235 ax rfl rfl (show(lN .i64 3).wf=u by decide) rfl xh ?_;intro w2 A C;have ay:=Y A;have ai:=Y C;clear A C)
  |(refine qb (E:=KiK) (F:=uN) (x:=(4:Int)) (y:=kf4) rfl _ _ _ rfl Tryz.underlying235 ay rfl rfl (show(lN .i64 4).wf=u by decide) rfl xh ?_;intro w2 A C;have az:=Y A;have aj:=Y C;clear A C)
  |(refine qb (E:=KiK) (F:=uN) (x:=(5:Int)) (y:=kf5) rfl _ _ _ rfl Tryz.underlying235 az rfl rfl (show(lN .i64 5).wf=u by decide) rfl xh ?_;intro w2 A C;have aA:=Y A;have ak:=Y C;clear A C))
 go_returns;have J:∀{a b:K},oO g a b->g<=a.heap.size->iR g w a->g<=b.heap.size/\iR g w b:=λau hs hb=>⟨jk hs au.size,au.below hb (iP _) hs⟩
 have⟨aB,b1⟩:=J ag (by rw[ae];exact jO _) af.out;have⟨aD,aF⟩:=J ah aB b1;have⟨aG,b3⟩:=J ai aD aF;have⟨aH,b4⟩:=J aj aG b3;have⟨aK,aI⟩:=J ak aH b4;exact⟨rfl,aA.out,aI⟩
def rq(t:mW TL)(i:Nat):Option (mW TL):=if t.lab.kind=4 then t.sub[0]? else t.sub[i]?
def Zu(h:p:=by
 have HQ:=Y ((((hB2.set 0 (V X yk)).set 1 (V X yz)).set 2 (G ou un uc)).set 3 (V X yl));have RN:=Y ((((hbe.setCell (p:=(Z (g+1) 0 U)) (jO _) (V X yk)).setCell (p:=(Z (g+1) 1 U)) (jO _) (V X yz)).setCell (p:=(Z (g+1) 2 U)) (jO _) (G ou un uc)).setCell (p:=(Z (g+1) 3 U)) (jO _) (V X yl));go_wp2_with fail;have d0:=HQ.cell 0;have d1:=HQ.cell 1;have d2:=HQ.cell 2;have d3:=HQ.cell 3;simp only[iX,jg,jf,ji,jb,jc]at d0 d1 d2 d3;refine iY (v:=mI #[V X yk,V X yz,G ou un uc,V X yl]) (by simp[jv,Tryz.results198,go_sem,d0,d1,d2,d3]) rfl ⟨rfl,RN.out⟩):p:=h
def Mx(t:mW TL)(i:Nat)(w:K)(tv:iQ)(aM:nZ w tv t.sub)(y:mW TL)(ou:Option j4)(un uc:Nat)(aj:∃b off,(∃n cap,tv=G (O (Z b off U)) n cap/\(if t.lab.kind=4 then 0 else i)<n/\n<=100000)/\b<w.heap.size/\w.cell? (Z b (off+(if t.lab.kind=4 then 0 else i)*4) U)=O (V X y.lab.kind)/\
   w.cell? (Z b (off+(if t.lab.kind=4 then 0 else i)*4+1) U)=O (V X y.lab.size)/\w.cell? (Z b (off+(if t.lab.kind=4 then 0 else i)*4+2) U)=O (G ou un uc)/\w.cell? (Z b (off+(if t.lab.kind=4 then 0 else i)*4+3) U)=O (V X y.lab.tail)):
  iW iN 198 #[mI #[V X t.lab.kind,V X t.lab.size,tv,V X t.lab.tail],V X i] w λe w'=>e=mK (mI #[V X y.lab.kind,V X y.lab.size,G ou un uc,V X y.lab.tail])/\iR w.heap.size w w':=by
 obtain⟨b,off,⟨n,cap,rfl,hin,aK⟩,hb,c0,c1,c2,c3⟩:=aj;have⟨A,E⟩:=nE ((if t.lab.kind=4 then 0 else i));rw[E]at hin c0 c1 c2 c3;have J:(t.lab.kind=4/\A=0)\/(t.lab.kind≠4/\A=i):=by
  by_cases hk:t.lab.kind=4;.exact .inl ⟨hk,by rw[<-E,Ax hk]⟩
  .exact .inr ⟨hk,by rw[<-E,At hk]⟩
 have⟨k,aa⟩:=nE t.lab.kind;have⟨z,ak⟩:=nE t.lab.size;have⟨tl,au⟩:=nE t.lab.tail;have⟨yk,ae⟩:=nE y.lab.kind;have⟨yz,af⟩:=nE y.lab.size;have⟨yl,ag⟩:=nE y.lab.tail;rw[aa,ak,au,ae,af,ag];rw[aa]at J;rw[ae]at c0;rw[af]at c1;rw[ag]at c3;obtain⟨g,hg⟩:=o7 w;have av:=mY.new w #[V X k,V X z,G (O (Z b off U)) n cap,V X tl] zK;have ax:=(iT w.heap.size w).alloc (iP _) (mM #[V X k,V X z,G (O (Z b off U)) n cap,V X tl] zK);have N:=ax.alloc ny (mM #[V X 0,V X 0,G U 0 0,V X 0] zK);have az:(w.alloc (mM #[V X k,V X z,G (O (Z b off U)) n cap,V X tl] zK)).heap.size=g+1:=by simp[hg]
 have ah:=mY.new (w.alloc (mM #[V X k,V X z,G (O (Z b off U)) n cap,V X tl] zK)) #[V X 0,V X 0,G U 0 0,V X 0] zK;rw[az]at ah;have ai:=av.alloc (mM #[V X 0,V X 0,G U 0 0,V X 0] zK);rw[hg]at ai N hb|-
 have ay:R (∀W,(w.alloc (mM #[V X k,V X z,G (O (Z b off U)) n cap,V X tl] zK)).alloc (mM #[V X 0,V X 0,G U 0 0,V X 0] zK)=W->
   mY W g #[V X k,V X z,G (O (Z b off U)) n cap,V X tl] zK/\mY W (g+1) #[V X 0,V X 0,G U 0 0,V X 0] zK/\iR g w W):=Y λW h=>by subst h;exact⟨ai,ah,N⟩
 rcases J with⟨rfl,rfl⟩|⟨hk,rfl⟩
 .rw[Nat.zero_mul,mh]at c0 c1 c2 c3
  go_in;go_upto_region 1 with fail;have⟨C,hB2,hbe⟩:=ay.out _ rfl;generalize (w.alloc _).alloc _=w1 at*;have aA:=C.c0;have aB:=C.c2;have⟨r0,r1,r2,r3,z0,aD,aF,z3⟩:=hB2.b4;have aG:=(hbe.cell (p:=(Z b off U)) hb).trans c0;have aH:=(hbe.cell (p:=(Z b (off+1) U)) hb).trans c1;have aI:=(hbe.cell (p:=(Z b (off+2) U)) hb).trans c2;have aJ:=(hbe.cell (p:=(Z b (off+3) U)) hb).trans c3;exact Zu
 .have aL:(k==4)=M:=by simp[hk]
  go_in;go_upto_region 1 with fail;have⟨C,hB2,hbe⟩:=ay.out _ rfl;generalize (w.alloc _).alloc _=w1 at*;have aA:=C.c0;have aB:=C.c2;have⟨r0,r1,r2,r3,z0,aD,aF,z3⟩:=hB2.b4;have aG:=(hbe.cell (p:=(Z b (off+A*4) U)) hb).trans c0;have aH:=(hbe.cell (p:=(Z b (off+A*4+1) U)) hb).trans c1;have aI:=(hbe.cell (p:=(Z b (off+A*4+2) U)) hb).trans c2;have aJ:=(hbe.cell (p:=(Z b (off+A*4+3) U)) hb).trans c3;exact Zu
def qM(t:mW TL)(x:IL)(m:Nat):Bool:=
 if t.lab.kind=1 then xY t.lab x else if t.lab.kind=2 then zL t.lab x else if t.lab.kind=3 then zM t.lab x else if t.lab.kind=4 then BI t.lab x m else if t.lab.kind=5 then zN t.lab t.sub.length x m else M
mutual
def rH:mW IL->mW TL->Bool
 | .node a s,t=>qM t a s.length&&sF s t 0
def sF:List (mW IL)->mW TL->Nat->Bool
 |[],_,_=>u
 |x::A,t,i=>(match rq t i with|some y=>rH x y|none=>M)&&sF A t (i+1)
end
def IM(x:mW IL)(t:mW TL):∀(s:List (mW IL))(i:Nat),sF (s++[x]) t i=(sF s t i&&(match rq t (i+s.length)with|some y=>rH x y|none=>M))
 |[],i=>by simp[sF]
 |y::A,i=>by
  simp only[cP,sF];rw[IM x t A (i+1),Bool.and_assoc,jD,show i+1+A.length=i+(A.length+1)by omega]
def Cm{s:List (mW IL)}{y:mW TL}(h:s[k]? =O x)(hy:rq t k=O y):sF (s.take (k+1)) t 0=(sF (s.take k) t 0&&rH x y):=by
 have hlt:=(jU.1 h).1;have hl:(s.take k).length=k:=by rw[jQ];omega
 have e:s.take (k+1)=s.take k++[x]:=by rw[du,h];rfl
 rw[e,IM,hl,mg,hy]
def x8{t:mW TL}{x:mW IL}{y:mW TL}:∀{s:List (mW IL)}{k i:Nat},s[k]? =O x->rq t (i+k)=O y->rH x y=M->sF s t i=M
 |[],k,i,h,_,_=>by simp at h
 |z::zs,0,i,h,hy,A=>by
  simp at h;subst h;simp only[sF];rw[mh]at hy;rw[hy];dsimp only;rw[A];rfl
 |z::zs,k+1,i,h,hy,A=>by
  simp only[sF];rw[x8 (k:=k) (i:=i+1) (by simpa using h) (by rw[<-hy];congr 1;omega) A,cI]
def Pj(E:nW t.lab t.sub=u)(h:qM t a m=u)(J:a.list=u\/m=0)(hk:k<m):∃y,rq t k=O y/\y∈t.sub:=by
 have A:∀i,i<t.sub.length->∃y,t.sub[i]? =O y/\y∈t.sub:=λi hi=>⟨_,ja hi,ey hi⟩
 unfold nW qd at E;simp only[bb]at E;have hl:=J.resolve_right I;unfold qM at h;unfold rq;split at h;.simp[xY,hl]at h
 .split at h
  .simp[zL,hl]at h
  .split at h
   .simp[zM,hl]at h
   .split at h
    .rename_i C
     rw[Ax C];exact A 0 I
    .rename_i C
     rw[At C];split at h
     .simp only[zN,je,bb]at h
      exact A k I
     .cases h
structure FtE(bo bf bm:Nat)(w:K):Prop where
 o:mY w bo #[.map (O bm)] KmT
 m:xZ w bm
 f:mY w bf #[.func (.func 197) #[] #[mG (O (Z bo 0 U)),mG (O (Z bf 0 U))]] 108
def FtE.below{bf bm:Nat}(h:FtE bo bf bm w)(hb:iR w.heap.size w w'):FtE bo bf bm w':=⟨a7 hb h.o h.o.lt,h.m.below hb,a7 hb h.f h.f.lt⟩
def a3c(t:mW TL)(x:IL)(ot oi:Option j4)(m ct ci:Nat)(E:nW t.lab t.sub=u)(C:x.text.length<=jd)(J:m<=100000):
  (t.lab.kind=1/\∀W,iW iN 228 #[mI #[V X t.lab.kind,V X t.lab.size,G ot t.sub.length ct,V X t.lab.tail],mI #[H (txt x),mH x.list,G oi m ci]] W λe w'=>e=mK (mH (qM t x m))/\iR W.heap.size W w')\/
  (t.lab.kind=2/\∀W,iW iN 229 #[mI #[V X t.lab.kind,V X t.lab.size,G ot t.sub.length ct,V X t.lab.tail],mI #[H (txt x),mH x.list,G oi m ci]] W λe w'=>e=mK (mH (qM t x m))/\iR W.heap.size W w')\/
  (t.lab.kind=3/\∀W,iW iN 232 #[mI #[V X t.lab.kind,V X t.lab.size,G ot t.sub.length ct,V X t.lab.tail],mI #[H (txt x),mH x.list,G oi m ci]] W λe w'=>e=mK (mH (qM t x m))/\iR W.heap.size W w')\/
  (t.lab.kind=4/\∀W,iW iN 233 #[mI #[V X t.lab.kind,V X t.lab.size,G ot t.sub.length ct,V X t.lab.tail],mI #[H (txt x),mH x.list,G oi m ci]] W λe w'=>e=mK (mH (qM t x m))/\iR W.heap.size W w')\/
  (t.lab.kind=5/\∀W,iW iN 236 #[mI #[V X t.lab.kind,V X t.lab.size,G ot t.sub.length ct,V X t.lab.tail],mI #[H (txt x),mH x.list,G oi m ci]] W λe w'=>e=mK (mH (qM t x m))/\iR W.heap.size W w'):=by
 unfold nW qd at E;simp only[bb]at E;have hk:t.lab.kind=1\/t.lab.kind=2\/t.lab.kind=3\/t.lab.kind=4\/t.lab.kind=5:=I;have A:∀k,t.lab.kind=k->qM t x m=if k=1 then xY t.lab x else if k=2 then zL t.lab x else if k=3 then zM t.lab x else if k=4 then BI t.lab x m else if k=5 then zN t.lab t.sub.length x m else M:=λk h=>by unfold qM;rw[h]
 rcases hk with h|h|h|h|h
 .exact .inl ⟨h,λW=>by rw[A _ h];exact Zt t.lab x _ _ W C⟩
 .exact .inr (.inl ⟨h,λW=>by rw[A _ h];exact Zo t.lab x _ _ W C⟩)
 .exact .inr (.inr (.inl ⟨h,λW=>by rw[A _ h];exact Zp t.lab x _ _ W C⟩))
 .exact .inr (.inr (.inr (.inl ⟨h,λW=>by rw[A _ h];exact Zq t.lab x _ _ t.sub.length m _ _ W I J I⟩)))
 .exact .inr (.inr (.inr (.inr (⟨h,λW=>by rw[A _ h];exact Zr t.lab x _ _ t.sub.length m _ _ W I J I⟩))))
def a3d(a b:iQ)(W:K):lJ iN (Instr.field 239 (mI #[a,b]) 0) W=.ok a W:=rfl
def wu{α:Type}{p:α->List (mW α)->Bool}:∀{s:List (mW α)},mW.oI p s=u->∀{y:mW α},y∈s->y.all p=u
 |[],_,_,hy=>by cases hy
 |z::zs,h,y,hy=>by
  simp only[mW.oI,je]at h;rcases l5.1 hy with rfl|hy
  .exact h.1
  .exact wu h.2 hy
def IP(h:p:=by
 have CF:=Y hcall;go_wp2_with fail;refine pG (CF _) λw2 hb2=> ?_
 have WY:R (iR (g+2) w1 w2):=Y (hsz▸hb2);go_wp2_with fail;go_meet;exact⟨rfl,WY⟩):p:=h
def Pk(x:mW IL):∀(t:mW TL)(w:K)(tv iv:iQ)(bo bf bm:Nat),nZ w tv t.sub->rf w iv x.sub->t.all nW=u->x.all oh=u->x.count<=100000->x.lab.text.length<=jd->FtE bo bf bm w->
  iW iN 197 #[mI #[V X t.lab.kind,V X t.lab.size,tv,V X t.lab.tail],mI #[H (txt x.lab),mH x.lab.list,iv],mG (O (Z bo 0 U)),mG (O (Z bf 0 U))] w
   λe w'=>e=mK (mH (rH x t))/\iR w.heap.size w w':=by
 induction x using mW.ind with
 |h a s dP=>
  intro t w tv iv bo bf bm aK aL aj au aM bS dQ;simp only[mW.oW,mW.qm]at*;obtain⟨ot,ct,rfl,_,_⟩:=aK.slice;obtain⟨oi,ci,rfl,_,_⟩:=b7 aL;have⟨m,bF⟩:=nE s.length;have bT:m<=100000:=by
   have A:=mW.qc s;simp only[mW.count]at aM;omega
  have ah:nW t.lab t.sub=u:=by
   obtain⟨ta,ts⟩:=t;simp only[mW.all,je]at aj;exact aj.1
  have aB:t.sub.length<=16:=by
   have A:=ah;unfold nW qd at A;simp only[bb]at A;omega
  have bG:∀y,y∈t.sub->y.all nW=u:=λy hy=>by
   obtain⟨ta,ts⟩:=t;simp only[mW.all,je]at aj;exact wu aj.2 hy
  simp only[mW.all,je]at au;have bH:∀y,y∈s->y.all oh=u:=λy hy=>wu au.2 hy
  have bU:a.list=u\/m=0:=by
   have A:=au.1;unfold oh qN at A;split at A;.rename_i hl;exact .inl hl
   .simp only[bb]at A;exact .inr I
  have hcall:=a3c t a ot oi m ct ci ah bS bT;have aN:=Y aK;have bV:=Y aL;have bI:R (∀(k:Nat)(y:mW IL),s[k]? =O y->y.count<=100000):=Y λk y hy=>by
   have:=mW.xG (jq hy);simp only[mW.count]at aM;omega
  have dR:=Y dP;have aO:R (∀k,qM t a m=u->k<m->∃y,rq t k=O y/\y∈t.sub):=Y λk h hk=>Pj ah h bU hk
  have bJ:=Y bG;have bK:=Y bH;obtain⟨g,hg⟩:=o7 w;have aD:=Y (zk (w:=w) t.lab.kind t.lab.size t.lab.tail (G ot t.sub.length ct) (txt a) a.list (G oi m ci));have bW:=Y bF;have⟨aE,bX⟩:=nE (rH (.node a s) t);rw[bX];have bL:R (aE=(qM t a m&&sF s t 0)):=Y (by rw[<-bX,<-bF];rfl);have bY:=Y dQ;have aF:=Y hcall;have J:R (∀W,xZ W bm->∀k p,(lN X k).wf=u->yt RL k=O p->(Instr.lookup KmT (.map (O bm)) (V X k) M).run iN W=.ok (mI #[p.1,p.2]) W):=Y λW h k p A dS=>h.look k A p dS
  have MB:=a3d;rw[bF];rw[hg]at aD|-;have⟨bZ,cz⟩:=nE (qM t a m);rw[cz]at aF bL aO;have⟨tn,aP⟩:=nE t.sub.length;have cK:=Y aP;rw[aP]at aN aD aF aB|-;have⟨aG,aQ⟩:=nE t.lab.kind;have⟨aH,aR⟩:=nE t.lab.size;have⟨kt,aS⟩:=nE t.lab.tail;have cZ:=Y aQ;have df:=Y aR;have dh:=Y aS;rw[aQ,aR,aS]at aD aF|-;go_in;go_upto_region 1 with fail;have⟨aU,⟨t0,t1,dU,t3⟩,⟨eF,i1,i2⟩,hsz⟩:=aD.out _ rfl;generalize (w.alloc _).alloc _=w1 at*;have dw:=Y aU;have aa:=Y (bY.below (hg.symm▸aU));have o0:=aa.o.c0;have dx:R (w1.cell? (Z g 0 U)=O (V X aG)/\w1.cell? (Z g 1 U)=O (V X aH)/\w1.cell? (Z g 2 U)=O (G ot tn ct)/\w1.cell? (Z g 3 U)=O (V X kt)/\w1.cell? (Z (g+1) 2 U)=O (G oi m ci)):=Y ⟨t0,t1,dU,t3,i2⟩;go_cut [17] (λbv dV=>bv=mH (!bZ)/\R (iR (g+2) w1 dV));case first=>
   rcases aF.out with⟨rfl,hcall⟩|⟨rfl,hcall⟩|⟨rfl,hcall⟩|⟨rfl,hcall⟩|⟨rfl,hcall⟩
   .have C:=J.out w1 aa.m 1 kf1 mX rfl
    simp only[kf1,RJ]at C;exact IP
   .have C:=J.out w1 aa.m 2 kf2 mX rfl
    simp only[kf2,RJ]at C;exact IP
   .have C:=J.out w1 aa.m 3 kf3 mX rfl
    simp only[kf3,RJ]at C;exact IP
   .have C:=J.out w1 aa.m 4 kf4 mX rfl
    simp only[kf4,RJ]at C;exact IP
   .have C:=J.out w1 aa.m 5 kf5 mX rfl
    simp only[kf5,RJ]at C;exact IP
  case rest=>
  obtain⟨rfl,WY⟩:=hcut;have aV:=Y (dw.trans (WY.mono I));have eD:=(WY.cell (p:=(Z (g+1) 2 U)) (by show g+1<g+2;omega)).trans i2;cases bZ with
  |false=>
   have av:R (aE=M):=Y (by rw[bL.out];rfl);go_wp2;go_returns;exact⟨by rw[av.out];rfl,aV.out⟩
  |true=>
   have aW:R (aE=sF s t 0):=Y (by rw[bL.out];rfl);have bM:=jk (kP hsz.symm) WY.size;go_wp2;go_loopw [21] (λkv dW=>∃k:Nat,kv=V X (k:Int)/\k<=m/\R (iR (g+2) wc dW)/\R (sF (s.take k) t 0=u)) (λkv _=>m -(jF kv).toNat);case atStart=>exact⟨0,rfl,I,Y (iT _ _),Y rfl⟩
   case round=>
    obtain⟨k,rfl,hk,ak,dz⟩:=hrel;have ax:=Y (aV.trans (ak.mono I));by_cases c:k<m
    .have⟨y,hy⟩:∃y,s[k]? =O y:=⟨_,ja (by rw[bW.out];exact c)⟩
     have⟨z,ai,dA⟩:=aO.out k trivial c;have ay:iR w.heap.size w wr:=hg.symm▸ax.out;obtain⟨b,off,ar,rfl,hlt,_,dX,dY,dZ,dB,bN⟩:=nC.at_ (Shape.nA.below bV ay) hy;obtain⟨ou,cu,rfl,_,_⟩:=b7 dB;have aX:=Shape.nA.below aN ay;have aY:t.sub[if t.lab.kind=4 then 0 else k]? =O z:=by
      unfold rq at ai;by_cases dD:t.lab.kind=4;.rw[Ax dD]at ai|-;exact ai
      .rw[At dD]at ai|-;exact ai
     have⟨bt,af,eG,dE,ag,z0,ed,ek,z3,aZ,eu⟩:=nZ.at_ aX aY;obtain⟨aI,zc,rfl,_,_⟩:=aZ.slice;subst dE;have⟨bO,bg⟩:=nE z.sub.length;have⟨aJ,bq⟩:=nE y.sub.length;have bP:(if t.lab.kind=4 then 0 else k)<tn:=by rw[<-cK.out];exact(jU.1 aY).1
     have dF:R (∀W,iR wr.heap.size wr W->iW iN 198 #[mI #[V X aG,V X aH,G (O (Z bt af U)) tn ct,V X kt],V X (k:Nat)] W λe w'=>e=mK (mI #[V X z.lab.kind,V X z.lab.size,G aI bO zc,V X z.lab.tail])/\iR W.heap.size W w'):=Y λW N=>by
      have h:=Mx t k W (G (O (Z bt af U)) tn ct) (Shape.nA.below aX N) z aI bO zc ⟨bt,af,⟨tn,ct,rfl,bP,I⟩,jy ag N.size,(N.cell (p:=(Z bt _ U)) ag).trans z0,(N.cell (p:=(Z bt _ U)) ag).trans ed,(N.cell (p:=(Z bt _ U)) ag).trans (bg▸ek),(N.cell (p:=(Z bt _ U)) ag).trans z3⟩;rw[cZ.out,df.out,dh.out]at h;exact h
     have az:=bY.below ay;have dG:R (∀W,iR wr.heap.size wr W->iW iN 197 #[mI #[V X z.lab.kind,V X z.lab.size,G aI bO zc,V X z.lab.tail],mI #[H (txt y.lab),mH y.lab.list,G ou aJ cu],mG (O (Z bo 0 U)),mG (O (Z bf 0 U))] W λe w'=>e=mK (mH (rH y z))/\iR W.heap.size W w'):=Y λW N=>by
      have h:=dR.out y (jq hy) z W (G aI z.sub.length zc) (G ou y.sub.length cu) bo bf bm (Shape.nA.below aZ N) (Shape.nA.below dB N) (bJ z dA) (bK y (jq hy)) (bI k y hy) bN (az.below N);rw[bg,bq]at h;exact h
     rw[bq]at dZ;have dH:R (sF (s.take (k+1)) t 0=rH y z):=Y (by rw[Cm hy ai,dz.out];rfl);have dI:R (rH y z=M->aE=M):=Y λh=>by rw[aW.out];exact x8 hy (by rw[mg];exact ai) h
     have bu:R (wr.cell? (Z bf 0 U)=O (.func (.func 197) #[] #[mG (O (Z bo 0 U)),mG (O (Z bf 0 U))])/\bf<wr.heap.size):=Y ⟨az.f.cell 0,az.f.lt⟩;have dJ:R (g+2<=wr.heap.size/\wr.cell? (Z g 0 U)=O (V X aG)/\wr.cell? (Z g 1 U)=O (V X aH)/\wr.cell? (Z g 2 U)=O (G (O (Z bt af U)) tn ct)/\wr.cell? (Z g 3 U)=O (V X kt)):=Y (by
      have q:∀i,wr.cell? (Z g i U)=w1.cell? (Z g i U):=λi=>(ak.cell (p:=(Z g i U)) (by show g<g+2;omega)).trans (WY.cell (p:=(Z g i U)) (by show g<g+2;omega))
      have⟨a0,a1,a2,a3,_⟩:=dx.out;exact⟨jk bM ak.size,(q 0).trans a0,(q 1).trans a1,(q 2).trans a2,(q 3).trans a3⟩)
     generalize rH y z=eB at*;have⟨bQ,bz⟩:=nE y.lab.list;have⟨bR,bA⟩:=nE (txt y.lab);have⟨eH,bB⟩:=nE z.lab.kind;have⟨zs,bC⟩:=nE z.lab.size;have⟨eO,bD⟩:=nE z.lab.tail;rw[bz,bA,bB,bC,bD]at dG;rw[bB,bC,bD]at dF;rw[bz]at dY;rw[bA]at dX;have dK:R (∀W,wr.alloc (mM #[H bR,mH bQ,G ou aJ cu] IT)=W->iR wr.heap.size wr W/\mY W wr.heap.size #[H bR,mH bQ,G ou aJ cu] IT):=Y λW h=>by subst h;exact⟨(iT _ _).alloc (iP _) _,mY.new _ _ _⟩
     go_upto_region 6 with fail;have⟨E,ae⟩:=dK.out _ rfl;generalize wr.alloc _=w5 at*;have⟨dL,a0,a1,a2,a3⟩:=dJ.out;have aA:∀(x:qX w5) b i,b<wr.heap.size->x.at_.cell? (Z b i U)=wr.cell? (Z b i U):=λx b i h=>(x.is.cell (p:=(Z b i U)) (jy h E.size)).trans (E.cell (p:=(Z b i U)) h)
     have f0:∀x:qX w5,x.at_.cell? (Z bf 0 U)=O (.func (.func 197) #[] #[mG (O (Z bo 0 U)),mG (O (Z bf 0 U))]):=λx=>(aA x bf 0 bu.2).trans bu.1
     have b0:∀x:qX w5,x.at_.cell? (Z g 0 U)=O (V X aG):=λx=>(aA x g 0 I).trans a0
     have b1:∀x:qX w5,x.at_.cell? (Z g 1 U)=O (V X aH):=λx=>(aA x g 1 I).trans a1
     have eP:∀x:qX w5,x.at_.cell? (Z g 2 U)=O (G (O (Z bt af U)) tn ct):=λx=>(aA x g 2 I).trans a2
     have b3:∀x:qX w5,x.at_.cell? (Z g 3 U)=O (V X kt):=λx=>(aA x g 3 I).trans a3
     have eQ:∀x:qX w5,x.at_.cell? (Z wr.heap.size 0 U)=O (H bR):=λx=>(x.is.cell (p:=(Z wr.heap.size 0 U)) ae.lt).trans (ae.cell 0)
     have e1:∀x:qX w5,x.at_.cell? (Z wr.heap.size 1 U)=O (mH bQ):=λx=>(x.is.cell (p:=(Z wr.heap.size 1 U)) ae.lt).trans (ae.cell 1)
     have e2:∀x:qX w5,x.at_.cell? (Z wr.heap.size 2 U)=O (G ou aJ cu):=λx=>(x.is.cell (p:=(Z wr.heap.size 2 U)) ae.lt).trans (ae.cell 2)
     have dM:=Y (λx:qX w5=>dF.out x.at_ (E.trans (x.is.mono E.size)));have dN:=Y (λx:qX w5=>dG.out x.at_ (E.trans (x.is.mono E.size)));have bE:R (∀x:qX w5,iR (g+2) wc x.at_/\iR g w x.at_):=Y λx=>
      have A:=E.trans (x.is.mono E.size)
      ⟨ak.trans (A.mono dL),ax.trans (A.mono I)⟩
     refine nG mZ mZ ?_;repeat(go_big_quiet_step (first|(go_at_call 198;exact bp (dM _))|(go_at_call 197;exact bp (dN _))))
     refine jT ?_;intro x;cases eB with
     |true=>
      go_wp2_with fail;exact⟨⟨k+1,by go_num,I,Y (bE x).1,dH⟩,by simp[jF];omega⟩
     |false=>
      have av:=Y (dI rfl);go_wp2;go_returns;exact⟨by rw[av.out];rfl,(bE x).2⟩
    .obtain rfl:k=m:=I
     have dO:R (aE=u):=Y (by
      have A:=dz.out;rw[kK (kP bW.out)]at A;rw[aW.out,A])
     go_wp2;go_returns;exact⟨by rw[dO.out];rfl,ax.out⟩
def rJ(t:mW TL)(x:mW IL):Int:=if pg t=u/\ve x=u then if rH x t=u then 0 else 12 else 1
def Pm(h:pg t=u):t.all nW=u:=by
 unfold pg at h;simp only[je]at h;exact h.2
def Cn(h:ve x=u):x.all oh=u/\x.count<=100000:=by
 unfold ve at h;simp only[je,bb]at h;exact⟨h.1.1,I⟩
def IQ(t:mW TL)(x:mW IL)(w:K)(tv iv:iQ)(N:nZ w tv t.sub)(aa:rf w iv x.sub)(aP:x.lab.text.length<=jd)(aQ:qB w):
  iW iN 157 #[mI #[V X t.lab.kind,V X t.lab.size,tv,V X t.lab.tail],mI #[H (txt x.lab),mH x.lab.list,iv]] w λe w'=>e=mK (V X (rJ t x))/\iR w.heap.size w w':=by
 obtain⟨ot,ct,rfl,_,_⟩:=N.slice;obtain⟨oi,ci,rfl,_,_⟩:=b7 aa;have⟨aE,aR⟩:=nE (rJ t x);rw[aR];obtain⟨g,hg⟩:=o7 w;have aS:R (∀W,iR w.heap.size w W->qB W):=Y λW h=>aQ.below h aQ.lt
 have aJ:=Y (λW (h:iR w.heap.size w W)=>Dp t W (G ot t.sub.length ct) (Shape.nA.below N h) (aS W h));have aK:=Y (λW (h:iR w.heap.size w W)=>O8 x W (G oi x.sub.length ci) (Shape.nA.below aa h))
 have ae:R (pg t=u->ve x=u->∀W bo bf bm,iR w.heap.size w W->FtE bo bf bm W->iW iN 197 #[mI #[V X t.lab.kind,V X t.lab.size,G ot t.sub.length ct,V X t.lab.tail],mI #[H (txt x.lab),mH x.lab.list,G oi x.sub.length ci],mG (O (Z bo 0 U)),mG (O (Z bf 0 U))] W
   λe w'=>e=mK (mH (rH x t))/\iR W.heap.size W w'):=Y λbA aU W bo bf bm hb bB=>
  Pk x t W _ _ bo bf bm (Shape.nA.below N hb) (Shape.nA.below aa hb) (Pm bA) (Cn aU).1 (Cn aU).2 aP bB
 have af:=Y (zk (w:=w) t.lab.kind t.lab.size t.lab.tail (G ot t.sub.length ct) (txt x.lab) x.lab.list (G oi x.sub.length ci));have⟨tn,aV⟩:=nE t.sub.length;have⟨bC,aW⟩:=nE x.sub.length;rw[aV]at af aJ ae|-;rw[aW]at af aK ae|-;have⟨bD,aX⟩:=nE t.lab.kind;have⟨ts,aY⟩:=nE t.lab.size;have⟨tt,aZ⟩:=nE t.lab.tail;have⟨bE,bg⟩:=nE (txt x.lab);have⟨bF,aL⟩:=nE x.lab.list;simp only[aX,aY,aZ,bg,aL]at af aJ aK ae|-;have A:R (aE=if pg t=u/\ve x=u then if rH x t=u then 0 else 12 else 1):=Y aR.symm;generalize pg t=bG at*;generalize ve x=bH at*;generalize rH x t=bq at*;rw[hg]at af|-;go_in;go_upto_region 1 with fail;have⟨bu,⟨t0,t1,au,t3⟩,⟨av,i1,i2⟩,hsz⟩:=af.out _ rfl;generalize (w.alloc _).alloc _=w1 at*;have ax:=Y bu
 have aM:R (∀W,iR (g+2) w1 W->(W.cell? (Z g 0 U)=O (V X bD)/\W.cell? (Z g 1 U)=O (V X ts)/\W.cell? (Z g 2 U)=O (G ot tn ct)/\W.cell? (Z g 3 U)=O (V X tt))/\
   (W.cell? (Z (g+1) 0 U)=O (H bE)/\W.cell? (Z (g+1) 1 U)=O (mH bF)/\W.cell? (Z (g+1) 2 U)=O (G oi bC ci))):=Y λW h=>
  have q:∀b i,b<g+2->W.cell? (Z b i U)=w1.cell? (Z b i U):=λb i hb=>h.cell (p:=(Z b i U)) hb
  ⟨⟨(q g 0 I).trans t0,(q g 1 I).trans t1,(q g 2 I).trans au,(q g 3 I).trans t3⟩,(q (g+1) 0 I).trans av,(q (g+1) 1 I).trans i1,(q (g+1) 2 I).trans i2⟩
 go_wp2_with fail;refine pG (aJ _ (hg.symm▸ax.out)) λw2 ay=> ?_
 have C:R (iR (g+2) w1 w2):=Y (hsz▸ay);have ag:=Y (ax.trans (ay.mono I));have⟨⟨t0,t1,au,t3⟩,av,i1,i2⟩:=aM.out _ C.out;cases bG with
 |false=>
  have J:R (aE=1):=Y (by rw[A.out];simp);go_wp2;go_returns;exact⟨by rw[J.out];rfl,ag.out⟩
 |true=>
  go_wp2_with fail;refine pG (aK _ (hg.symm▸ag.out)) λw3 ah=> ?_
  have az:=Y (C.trans (ah.mono (by have:=C.size;omega)));have aA:=Y (ag.trans (ah.mono (by have:=C.size;omega)));clear ah t0 t1 au t3 av i1 i2;cases bH with
  |false=>
   have J:R (aE=1):=Y (by rw[A.out];simp);go_wp2;go_returns;exact⟨by rw[J.out];rfl,aA.out⟩
  |true=>
   have J:R (aE=if bq=u then 0 else 12):=Y (by rw[A.out];simp);have aN:=Y (Ph w3);obtain⟨bm,Yv⟩:=o7 w3;rw[Yv]at aN;have bO:g+2<=bm:=by rw[<-Yv];have:=az.size;omega
   clear A;go_wp2_with fail;refine vF aN λw4 aB E=> ?_
   have aD:R (∀b4 aO ai,w4.heap.size=b4->w4.alloc (mM #[.map (O bm)] KmT)=aO->aO.alloc (mM #[.func (.func 197) #[] #[mG (O (Z b4 0 U)),mG (O (Z (b4+1) 0 U))]] 108)=ai->FtE b4 (b4+1) bm ai/\iR (g+2) w1 ai/\iR g w ai):=Y λb4 aO ai bI bJ bK=>by
    subst bI bJ bK;have a1:=(iT w4.heap.size w4).alloc (iP _) (mM #[.map (O bm)] KmT);have a2:=a1.alloc ny (mM #[.func (.func 197) #[] #[mG (O (Z w4.heap.size 0 U)),mG (O (Z (w4.heap.size+1) 0 U))]] 108);have n1:=(mY.new w4 #[.map (O bm)] KmT).alloc (mM #[.func (.func 197) #[] #[mG (O (Z w4.heap.size 0 U)),mG (O (Z (w4.heap.size+1) 0 U))]] 108);have n2:=mY.new (w4.alloc (mM #[.map (O bm)] KmT)) #[.func (.func 197) #[] #[mG (O (Z w4.heap.size 0 U)),mG (O (Z (w4.heap.size+1) 0 U))]] 108;have bL:(w4.alloc (mM #[.map (O bm)] KmT)).heap.size=w4.heap.size+1:=ny;rw[bL]at n2;have bP:bm<=w4.heap.size:=by rw[<-Yv];exact E.size
    exact⟨⟨n1,aB.below a2,n2⟩,(az.trans (E.mono I)).trans (a2.mono I),(aA.trans (E.mono I)).trans (a2.mono I)⟩
   clear aB E aN;go_upto_region 6 with fail;have⟨aj,aF,ak⟩:=aD.out w4.heap.size _ _ rfl rfl rfl;generalize (w4.alloc _).alloc _=bM at*;clear aD;have bQ:=aj.f.c0;have⟨⟨t0,t1,au,t3⟩,av,i1,i2⟩:=aM.out _ aF;have bz:=Y (ae trivial trivial bM _ _ _ (hg.symm▸ak) aj);have aG:=Y ak;clear aM ae aj aF ak;go_wp2_with fail;refine pG bz λbN aH=> ?_
   have aI:R (iR g w bN):=Y (aG.trans (aH.mono (by have:=aG.size;omega)));clear aH bz;cases bq with
   |false=>
    go_wp2;go_returns;exact⟨by rw[J.out];rfl,aI.out⟩
   |true=>
    go_wp2;go_returns;exact⟨by rw[J.out];rfl,aI.out⟩
end
end Go.Proofs.YtamfcjmhnndbdaaGreatDoor


