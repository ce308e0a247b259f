/- Part 4 of the proof. -/
import Derived.Test.YtamfcjmhnndbdaaGreatDoorZb03
open Go.Value renaming agg→mI,bool→mH,int→V,pointer→mG,slice→G,string→H,tuple→mJ,ownBlock→jK,slice→jM,int→lL
open Go.Obj renaming cells→mM
open Go.IntKind renaming i64→X,u32→mQ,u64→mP
open Go.Ending renaming returned→mK,returned→jS
open Go.Lib renaming hid→Y
open Go.Proofs.Tryz renaming prog→iN
open Go renaming World→K,Value→iQ,Calls→iW,maxLen→jd,TypeId→jl,results→jv,undef→jw,Addr→j4,Program→j6,Oper→kC,Ending→kV,Act→lY,wpList→mq
open Go.RowKit renaming Below→iR,Hid→R,intOf→jF
open And renaming intro→iU
open List renaming replicate→jC,range→kG
open Go.World renaming setCell→jr,cell?→lV
open Array renaming replicate→ku
open UInt8 renaming ofNat→jH
open Go.Instr renaming index→jX
open Go.Code renaming region→jZ
open Go.Region renaming ready→kI,Mode→kW,binds→lD,wanted→lG
open Go.Sem renaming run→lJ
open Go.Lit renaming int→lN
open Go.Act renaming put→l7
open Option renaming none→U,some→O
open Bool renaming true→u,false→M
open Go.Addr renaming mk→Z
open Decidable renaming decide→As
namespace Go.Proofs.YtamfcjmhnndbdaaGreatDoor
set_option linter.unusedVariables false
set_option linter.defProp false
set_option linter.unusedSimpArgs false
set_option maxRecDepth 100000
set_option maxHeartbeats 8000000
variable{A:Array Bool}{B aq b bi bn cap cb ct cu fb fuel g j k lb m n nu rb tb:Nat}{D S:Nat->Bool}{P:j6}{Q:Exit->lY->K->Prop}{W w w' w0 w1 ws:K}{a a0:lY}{ab vs:Nat->iQ}{c:nU}{d tv:iQ}{l:List kC}{most tl z:Int}{o oi:kC}{oa ot ou:Option j4}{p:Prop}{r:RS}{y:tJ×Nat}
variable {t:jl}
section
open Go.RowKit
def itC(x:Option (mW IL))(v:iQ):Array iQ:=match x with
 |none=>#[H ⟨#[]⟩,mH M,G U 0 0]
 |some y=>#[H (txt y.lab),mH y.lab.list,v]
def BB(aE:Except Nat (mW IL))(w:K)(e:kV)(w':K):Prop:=match aE with
 | .error er=>e=mK (mJ #[mI #[H ⟨#[]⟩,mH M,G U 0 0],V X (er:Nat)])/\iR w.heap.size w w'
 | .ok x=>∃v,e=mK (mJ #[mI #[H (txt x.lab),mH x.lab.list,v],V X 0])/\nC w' (λc=>w.heap.size<=c) v x.sub/\iR w.heap.size w w'
abbrev FnG:jl:=121
structure IU(g:Nat)(w:K)(t:TL)(tv:iQ)(s:An)(deep most:Int)(x:Option (mW IL))(W:K):Prop where
 t:mY W g #[V X t.kind,V X t.size,tv,V X t.tail] 63
 s:mY W (g+1) #[H s] 9
 d:mY W (g+2) #[V X deep] 3
 m:mY W (g+3) #[V X most] 3
 r:mY W (g+4) #[H ⟨#[]⟩,mH M,G U 0 0] IT
 o:∃v,mY W (g+5) (itC x v) IT/\(∀y,x=O y->nC W (λc=>g+7<=c) v y.sub)
 f:mY W (g+6) #[.func (.func 162) #[] #[mG (O (Z g 0 U))],
  .func (.func 164) #[] #[mG (O (Z (g+1) 0 U)),mG (O (Z (g+2) 0 U)),mG (O (Z (g+3) 0 U)),mG (O (Z (g+5) 0 U))],
  .func (.func 166) #[] #[mG (O (Z g 0 U)),mG (O (Z (g+5) 0 U))]] FnG
 b:iR g w W
section
variable {g:Nat}{w W W':K}{t:TL}{tv:iQ}{s:An}{deep most:Int}{x:Option (mW IL)}
def IU.below(h:IU g w t tv s deep most x W)(hb:iR W.heap.size W W'):IU g w t tv s deep most x W':=
 ⟨a7 hb h.t h.t.lt,a7 hb h.s h.s.lt,a7 hb h.d h.d.lt,a7 hb h.m h.m.lt,a7 hb h.r h.r.lt, (let ⟨v,h1,h2⟩:=h.o;⟨v,a7 hb h1 h1.lt,λy hy=>Shape.nA.below (h2 y hy) hb⟩),a7 hb h.f h.f.lt,h.b.trans (hb.mono (by have:=h.t.lt;omega))⟩
end
def UG(h:p:=by
 go_wp2_with fail;refine pG CF λw2 hb=> ?_
 have H2:=Y (an.below hb);go_wp2;go_returns;exact⟨rfl,H2.out⟩):p:=h
def a6e(t:mW TL)(w:K)(tv:iQ)(A:nZ w tv t.sub)(C:qB w)(s:An)(deep most:Int)(x:Option (mW IL))(W:K)(h:IU w.heap.size w t.lab tv s deep most x W):
  iW iN 162 #[mG (O (Z w.heap.size 0 U))] W λe w'=>e=mK (V X (if pg t=u then 0 else 1))/\IU w.heap.size w t.lab tv s deep most x w':=by
 have CF:=Y (Dp t W tv (Shape.nA.below A h.b) (C.below h.b C.lt));have an:=Y h;have⟨t0,t1,E,t3⟩:=h.t.a4;generalize pg t=aE at*;generalize w.heap.size=g at*;go_in;cases aE with
 |false=>
  exact UG
 |true=>
  exact UG
def got(aE:Except Nat (mW IL)):Option (mW IL):=match aE with
 | .error _=>U
 | .ok x=>O x
def Gv(aE:Except Nat (mW IL)):Int:=match aE with
 | .error er=>(er:Nat)
 | .ok _=>0
def UH{t:TL}{s:An}{deep:Int}{A:Option (mW IL)}(h:IU g w t tv s deep most A W)(x:Option (mW IL))(v:iQ)(J:∀y,x=O y->nC W (λc=>g+7<=c) v y.sub)(a b c:iQ)(he:itC x v=#[a,b,c]):
  IU g w t tv s deep most x (((W.setCell (Z (g+5) 0 U) a).setCell (Z (g+5) 1 U) b).setCell (Z (g+5) 2 U) c):=by
 have⟨v0,E,N⟩:=h.o;have o:∀{n:Nat}{cs:Array iQ}{t:jl},mY W n cs t->n≠g+5->mY (((W.setCell (Z (g+5) 0 U) a).setCell (Z (g+5) 1 U) b).setCell (Z (g+5) 2 U) c) n cs t:=λh hn=>
  ((h.setOther (a:=(Z (g+5) 0 U)) hn _).setOther (a:=(Z (g+5) 1 U)) hn _).setOther (a:=(Z (g+5) 2 U)) hn _
 have hk:∃a0 b0 c0,itC A v0=#[a0,b0,c0]:=by cases A<;>exact⟨_,_,_,rfl⟩
 obtain⟨a0,b0,c0,hk⟩:=hk;rw[hk]at E
 refine⟨o h.t I,o h.s I,o h.d I,o h.m I,o h.r I,⟨v,?_,λy hy=> ?_⟩,o h.f I,
  ((h.b.setCell (p:=(Z (g+5) 0 U)) ny _).setCell (p:=(Z (g+5) 1 U)) ny _).setCell (p:=(Z (g+5) 2 U)) ny _⟩
 .rw[he];exact((E.set 0 a).set 1 b).set 2 c
 .exact Shape.nA.keep (J y hy) (by simp[jr]) (λC _ hc=>hc) λC _ hc=>by
   simp[jr,kg,show g+5≠C by omega,show¬g+5=C by omega]
def a6f(t:mW TL)(w:K)(tv:iQ)(s:An)(deep most:Int)(aE:Except Nat (mW IL))(aa:∀W,iW iN 165 #[H s,V X deep,V X most] W (BB aE W))(W:K)(h:IU w.heap.size w t.lab tv s deep most U W):
  iW iN 164 #[mG (O (Z (w.heap.size+1) 0 U)),mG (O (Z (w.heap.size+2) 0 U)),mG (O (Z (w.heap.size+3) 0 U)),mG (O (Z (w.heap.size+5) 0 U))] W
   λe w'=>e=mK (V X (Gv aE))/\IU w.heap.size w t.lab tv s deep most (got aE) w':=by
 have A:=Y (aa W);have an:=Y h;have aj:=h.s.c0;have ak:=h.d.c0;have au:=h.m.c0;generalize w.heap.size=g at*;cases aE with
 |error er=>
  unfold BB at A;dsimp only at A;unfold Gv got;dsimp only;go_in;go_wp2_with fail;refine pG A λw2 hb=> ?_
  have C:=Y (an.below hb);have⟨v0,hB,_⟩:=C.o;have⟨ae,af,ag⟩:=hB.f3;have p0:=hB.cell 0;have E:=hB.cell 1;have J:=hB.cell 2;simp only[itC,ji,jb,jc]at p0 E J;go_wp2;go_returns;exact⟨rfl,UH C U (G U 0 0) (λy hy=>by cases hy) _ _ _ rfl⟩
 |ok x=>
  unfold BB at A;dsimp only at A;unfold Gv got;dsimp only;go_in;go_wp2_with fail;refine A.mono ?_;rintro e w2 ⟨v,rfl,N,hb⟩;obtain⟨ov,cv,rfl,_,_⟩:=b7 N;have C:=Y (an.below hb);have ah:=Y (Shape.nA.keep N (iP _) (λc _ hc=>by have:=an.f.lt;have ai:W.heap.size<=c:=hc;show g+7<=c;omega) λc _ _=>rfl);have⟨v0,hB,_⟩:=C.o;have⟨ae,af,ag⟩:=hB.f3;have p0:=hB.cell 0;have E:=hB.cell 1;have J:=hB.cell 2;simp only[itC,ji,jb,jc]at p0 E J;go_wp2;go_returns;exact⟨rfl,UH C (O x) _ (λy hy=>by cases hy;exact ah) _ _ _ rfl⟩
def a6g(t:mW TL)(x:mW IL)(w:K)(tv:iQ)(A:nZ w tv t.sub)(C:x.lab.text.length<=jd)(J:qB w)(s:An)(deep most:Int)(W:K)(h:IU w.heap.size w t.lab tv s deep most (O x) W):
  iW iN 166 #[mG (O (Z w.heap.size 0 U)),mG (O (Z (w.heap.size+5) 0 U))] W λe w'=>e=mK (V X (rJ t x))/\IU w.heap.size w t.lab tv s deep most (O x) w':=by
 have⟨v,hB,aa⟩:=h.o;have N:=aa x rfl;have ae:=Y (IQ t x W tv v (Shape.nA.below A h.b) (Shape.nA.keep N (iP _) (λc _ _=>trivial) λc _ _=>rfl) C (J.below h.b J.lt));have an:=Y h;have t0:=h.t.cell 0;have t1:=h.t.cell 1;have af:=h.t.cell 2;have t3:=h.t.cell 3;have ag:=hB.cell 0;have i1:=hB.cell 1;have i2:=hB.cell 2;simp only[itC,ji,jb,jc]at t0 t1 af t3 ag i1 i2;generalize rJ t x=E at*;generalize w.heap.size=g at*;go_in;go_wp2_with fail;refine pG ae λw2 hb=> ?_
 have ah:=Y (an.below hb);go_wp2;go_returns;exact⟨rfl,ah.out⟩
def a6h{w2 w3 w4 w5 A:K}{t:mW TL}{s:An}{deep:Int}(e1:w.alloc (mM #[V X t.lab.kind,V X t.lab.size,tv,V X t.lab.tail] 63)=w1)(e2:w1.alloc (mM #[H s] 9)=w2)(e3:w2.alloc (mM #[V X deep] 3)=w3)(e4:w3.alloc (mM #[V X most] 3)=w4)(e5:w4.alloc (mM #[H ⟨#[]⟩,mH M,G U 0 0] IT)=w5)(C:w5.alloc (mM #[H ⟨#[]⟩,mH M,G U 0 0] IT)=A)(ag:A.alloc (mM #[.func (.func 162) #[] #[mG (O (Z w.heap.size 0 U))],
  .func (.func 164) #[] #[mG (O (Z (w.heap.size+1) 0 U)),mG (O (Z (w.heap.size+2) 0 U)),mG (O (Z (w.heap.size+3) 0 U)),mG (O (Z (w.heap.size+5) 0 U))],
  .func (.func 166) #[] #[mG (O (Z w.heap.size 0 U)),mG (O (Z (w.heap.size+5) 0 U))]] FnG)=W):IU w.heap.size w t.lab tv s deep most U W/\A.heap.size=w.heap.size+6:=by
 have ah:w1.heap.size=w.heap.size+1:=by rw[<-e1];simp
 have ai:w2.heap.size=w.heap.size+2:=by rw[<-e2];simp[ah]
 have z3:w3.heap.size=w.heap.size+3:=by rw[<-e3];simp[ai]
 have z4:w4.heap.size=w.heap.size+4:=by rw[<-e4];simp[z3]
 have z5:w5.heap.size=w.heap.size+5:=by rw[<-e5];simp[z4]
 have aj:A.heap.size=w.heap.size+6:=by rw[<-C];simp[z5]
 have b1:iR w.heap.size w w1:=by rw[<-e1];exact(iT _ _).alloc (iP _) _
 have av:iR w1.heap.size w1 w2:=by rw[<-e2];exact(iT _ _).alloc (iP _) _
 have b3:iR w2.heap.size w2 w3:=by rw[<-e3];exact(iT _ _).alloc (iP _) _
 have b4:iR w3.heap.size w3 w4:=by rw[<-e4];exact(iT _ _).alloc (iP _) _
 have ax:iR w4.heap.size w4 w5:=by rw[<-e5];exact(iT _ _).alloc (iP _) _
 have b6:iR w5.heap.size w5 A:=by rw[<-C];exact(iT _ _).alloc (iP _) _
 have ak:iR A.heap.size A W:=by rw[<-ag];exact(iT _ _).alloc (iP _) _
 have E:=mY.new w #[V X t.lab.kind,V X t.lab.size,tv,V X t.lab.tail] 63;have J:=mY.new w1 #[H s] 9;have N:=mY.new w2 #[V X deep] 3;have aa:=mY.new w3 #[V X most] 3;have ae:=mY.new w4 #[H ⟨#[]⟩,mH M,G U 0 0] IT;have af:=mY.new w5 #[H ⟨#[]⟩,mH M,G U 0 0] IT
 have au:=mY.new A #[.func (.func 162) #[] #[mG (O (Z w.heap.size 0 U))],
  .func (.func 164) #[] #[mG (O (Z (w.heap.size+1) 0 U)),mG (O (Z (w.heap.size+2) 0 U)),mG (O (Z (w.heap.size+3) 0 U)),mG (O (Z (w.heap.size+5) 0 U))],
  .func (.func 166) #[] #[mG (O (Z w.heap.size 0 U)),mG (O (Z (w.heap.size+5) 0 U))]] FnG
 rw[e1]at E;rw[e2,ah]at J;rw[e3,ai]at N;rw[e4,z3]at aa;rw[e5,z4]at ae;rw[C,z5]at af;rw[ag,aj]at au;have c6:=b6.trans (ak.mono I);have c5:=ax.trans (c6.mono I);have c4:=b4.trans (c5.mono I);have c3:=b3.trans (c4.mono I);have c2:=av.trans (c3.mono I);exact⟨⟨a7 c2 E E.lt,a7 c3 J J.lt,a7 c4 N N.lt,a7 c5 aa aa.lt,a7 c6 ae ae.lt,⟨G U 0 0,a7 ak af af.lt,λy hy=>by cases hy⟩,au,b1.trans (c2.mono I)⟩,aj⟩
def o8(w:K)(g:Nat)(a b c:iQ):K:=((w.setCell (Z g 0 U) a).setCell (Z g 1 U) b).setCell (Z g 2 U) c
def pO(w:K)(g:Nat)(a b c:iQ):((w.setCell (Z g 0 U) a).setCell (Z g 1 U) b).setCell (Z g 2 U) c=o8 w g a b c:=rfl
def UI{t:TL}{s:An}{deep:Int}{x:Option (mW IL)}(h:IU g w t tv s deep most x W)(a b c:iQ):
  mY (o8 W (g+4) a b c) (g+4) #[a,b,c] IT/\iR g w (o8 W (g+4) a b c)/\∀v (y:mW IL),nC W (λc=>g+7<=c) v y.sub->nC (o8 W (g+4) a b c) (λc=>g<=c) v y.sub:=by
 refine⟨((h.r.set 0 a).set 1 b).set 2 c,((h.b.setCell (p:=(Z (g+4) 0 U)) ny _).setCell (p:=(Z (g+4) 1 U)) ny _).setCell (p:=(Z (g+4) 2 U)) ny _,λv y hy=> ?_⟩;exact Shape.nA.keep hy (by simp[o8,jr]) (λA _ hc=>by have C:g+7<=A:=hc;show g<=A;omega) λA _ hc=>by
   have C:=hc;simp[o8,jr,kg,show g+4≠A by omega,show¬g+4=A by omega]
def vD(t:mW TL)(aE:Except Nat (mW IL)):Except Nat (mW IL):=if pg t=u then match aE with
 | .error er=> .error er
 | .ok x=>if rJ t x=0 then .ok x else .error (rJ t x).toNat
 else .error 1
def a3e(t:mW TL)(aE:Except Nat (mW IL)):Int:=match aE with
 | .error _=>0
 | .ok x=>rJ t x
def Dt(t:mW TL)(x:mW IL):0<=rJ t x:=by
 unfold rJ;split;.split<;>omega
 .omega
def Pn(t:mW TL)(aE:Except Nat (mW IL))(N:∀er,aE=.error er->1<=er)(E:Int)(A:E=(if(if pg t=u then(0:Int)else 1)≠0 then(if pg t=u then 0 else 1)else if Gv aE≠0 then Gv aE else a3e t aE)):
  (∃er:Nat,E=er/\E≠0/\vD t aE=.error er)\/(∃x,E=0/\aE=.ok x/\vD t aE=.ok x/\(if(if pg t=u then(0:Int)else 1)≠0 then 1 else if Gv aE≠0 then 2 else 3)=3):=by
 unfold vD;by_cases J:pg t=u
 .simp only[J,cH]at A|-
  rw[At mX]at A;cases aE with
  |error er=>
   have ae:=N er rfl;have C:Gv (.error er:Except Nat (mW IL))=(er:Int):=rfl;rw[C,Ax I]at A;exact .inl ⟨er,A,I,rfl⟩
  |ok x=>
   have C:Gv (.ok x:Except Nat (mW IL))=0:=rfl;have aa:a3e t (.ok x)=rJ t x:=rfl;have af:=Dt t x;rw[C,aa,At mX]at A;by_cases h0:rJ t x=0
   .refine .inr ⟨x,I,rfl,?_,?_⟩
    .simp only[h0,cH]
    .rw[C];rfl
   .refine .inl ⟨(rJ t x).toNat,I,I,?_⟩
    simp only[h0,cU]
 .simp only[J]at A|-
  exact .inl ⟨1,by rw[A];rfl,by rw[A];simp,rfl⟩
def Zv(t:mW TL)(aE:Except Nat (mW IL))(ax:∀er,aE=.error er->1<=er)(w:K)(tv:iQ)(N:nZ w tv t.sub)(ay:∀x,aE=.ok x->x.lab.text.length<=jd)(az:qB w)(s:An)(deep most:Int)(aK:∀W,iW iN 165 #[H s,V X deep,V X most] W (BB aE W)):
  iW iN 117 #[mI #[V X t.lab.kind,V X t.lab.size,tv,V X t.lab.tail],H s,V X deep,V X most] w (BB (vD t aE) w):=by
 have aL:R (∀J W,((((((w.alloc (mM #[V X t.lab.kind,V X t.lab.size,tv,V X t.lab.tail] 63)).alloc (mM #[H s] 9)).alloc (mM #[V X deep] 3)).alloc (mM #[V X most] 3)).alloc (mM #[H ⟨#[]⟩,mH M,G U 0 0] IT)).alloc (mM #[H ⟨#[]⟩,mH M,G U 0 0] IT))=J->J.alloc (mM #[.func (.func 162) #[] #[mG (O (Z w.heap.size 0 U))],
  .func (.func 164) #[] #[mG (O (Z (w.heap.size+1) 0 U)),mG (O (Z (w.heap.size+2) 0 U)),mG (O (Z (w.heap.size+3) 0 U)),mG (O (Z (w.heap.size+5) 0 U))],
  .func (.func 166) #[] #[mG (O (Z w.heap.size 0 U)),mG (O (Z (w.heap.size+5) 0 U))]] FnG)=W->J.heap.size=w.heap.size+6/\iW iN 155 #[G (O (Z J.heap.size 0 U)) 3 3] W λe ah=>∃E:Int,e=mK (V X E)/\
   ((∃er:Nat,E=er/\E≠0/\vD t aE=.error er/\∃q,IU w.heap.size w t.lab tv s deep most q ah)\/(∃x,E=0/\vD t aE=.ok x/\IU w.heap.size w t.lab tv s deep most (O x) ah))):=Y λJ W aM aN=>by
  have⟨hI,aa⟩:=a6h (t:=t) (tv:=tv) (s:=s) (deep:=deep) (most:=most) rfl rfl rfl rfl rfl aM aN;refine⟨aa,?_⟩;rw[aa];have⟨C,aA,aB,aD,aF⟩:∃C:Nat->Option (mW IL),C 0=U/\C 1=U/\C 2=got aE/\C 3=got aE:=⟨λk=>if k<2 then U else got aE,Ax mX,Ax mX,At mX,At mX⟩;have aO:∀W,IU w.heap.size w t.lab tv s deep most (C 0) W->iW iN 162 #[mG (O (Z w.heap.size 0 U))] W λe w'=>e=mK (V X (if pg t=u then 0 else 1))/\IU w.heap.size w t.lab tv s deep most (C 1) w':=λW h=>by
   rw[aA]at h;rw[aB];exact a6e t w tv N az s deep most _ W h
  have aP:∀W,IU w.heap.size w t.lab tv s deep most (C 1) W->iW iN 164 #[mG (O (Z (w.heap.size+1) 0 U)),mG (O (Z (w.heap.size+2) 0 U)),mG (O (Z (w.heap.size+3) 0 U)),mG (O (Z (w.heap.size+5) 0 U))] W λe w'=>e=mK (V X (Gv aE))/\IU w.heap.size w t.lab tv s deep most (C 2) w':=λW h=>by
   rw[aB]at h;rw[aD];exact a6f t w tv s deep most aE aK W h
  have aQ:Gv aE=0->∀W,IU w.heap.size w t.lab tv s deep most (C 2) W->iW iN 166 #[mG (O (Z w.heap.size 0 U)),mG (O (Z (w.heap.size+5) 0 U))] W λe w'=>e=mK (V X (a3e t aE))/\IU w.heap.size w t.lab tv s deep most (C 3) w':=λhg W h=>by
   rw[aD]at h;rw[aF];cases aE with
   |error er=>have ae:=ax er rfl;have af:Gv (.error er:Except Nat (mW IL))=(er:Int):=rfl;omega
   |ok x=>exact a6g t x w tv N (ay x rfl) az s deep most W h
  rw[<-aA]at hI;refine pG (O7 W _ _ _ (w.heap.size+6) FnG (if pg t=u then 0 else 1) (Gv aE) (a3e t aE) (λk W=>IU w.heap.size w t.lab tv s deep most (C k) W) (λk W h=>IU.f h) hI aO (λ_=>aP) (λ_ h=>aQ h)) λah A=> ?_
  refine⟨_,rfl,?_⟩;rcases Pn t aE ax _ rfl with⟨er,ae,af,ai⟩|⟨x,ae,af,ai,aR⟩
  .exact .inl ⟨er,ae,af,ai,_,A⟩
  .rw[aR,aF,af]at A
   exact .inr ⟨x,ae,ai,A⟩
 obtain⟨ot,ct,rfl,_,_⟩:=N.slice;generalize vD t aE=bq at*;go_in;go_upto_region 2 with fail;generalize aG:World.alloc (World.alloc _ _) _=J;have⟨aa,hcall⟩:=aL.out J _ aG rfl;rw[aa]at hcall;have aS:=Y hcall;rw[show w.heap.size+1+1+1+1+1=w.heap.size+5 from rfl,show w.heap.size+1+1+1+1=w.heap.size+4 from rfl,show w.heap.size+1+1+1=w.heap.size+3 from rfl,show w.heap.size+1+1=w.heap.size+2 from rfl];go_wp2_with fail;refine aS.mono ?_;rintro e bu ⟨E,rfl,⟨er,rfl,he,rfl,q,A⟩|⟨x,rfl,rfl,A⟩⟩
 .have bz:((er:Int) !=0)=u:=by simpa using he
  have an:=Y A;have z0:=A.r.free 0;have aU:=A.r.free 1;have aV:=A.r.free 2;have aH:=A.r.c0;have aI:=A.r.c1;have aJ:=A.r.c2;go_wp2_with fail;rw[pO];have⟨hB,hb,_⟩:=UI an (H ⟨#[]⟩) (mH M) (G U 0 0);have⟨aj,ak,au⟩:=hB.a3;refine iY (v:=mJ #[mI #[H ⟨#[]⟩,mH M,G U 0 0],V X (er:Nat)]) (by simp[jv,Tryz.results117,go_sem,aj,ak,au]) rfl ⟨rfl,hb⟩
 .have an:=Y A
  have⟨v,av,aW⟩:=A.o;have ag:=aW x rfl;obtain⟨ov,cv,rfl,_,_⟩:=b7 ag;have aX:=Y ag;have⟨z0,aU,aV⟩:=A.r.f3;have aH:=A.r.cell 0;have aI:=A.r.cell 1;have aJ:=A.r.cell 2;have aY:=av.cell 0;have aZ:=av.cell 1;have bg:=av.cell 2;simp only[itC,ji,jb,jc]at aH aI aJ aY aZ bg;go_wp2_with fail;rw[pO];have⟨hB,hb,hk⟩:=UI an (H (txt x.lab)) (mH x.lab.list) (G ov x.sub.length cv);have⟨aj,ak,au⟩:=hB.a3;refine iY (v:=mJ #[mI #[H (txt x.lab),mH x.lab.list,G ov x.sub.length cv],V X 0]) (by simp[jv,Tryz.results117,go_sem,aj,ak,au]) rfl ⟨_,rfl,hk _ _ aX.out,hb⟩
end
section
def ru(n:Nat):Nat:=if n<253 then n else if n<65536 then 253 else if n<4294967296 then 254 else 255
def om(b:Nat):Nat:=if b<253 then 0 else if b=253 then 2 else if b=254 then 4 else 8
def uS(n:Nat):List AC:=jH (ru n)::xQ (om (ru n)) n
def qh:List AC->Nat×Nat×Nat
 |[]=>(0,0,2)
 |b::r=>if b.toNat<253 then(b.toNat,1,0)else
  if r.length<om b.toNat then(0,0,2)else
  if ru (oM (r.take (om b.toNat)))≠b.toNat then(0,0,3)else(oM (r.take (om b.toNat)),1+om b.toNat,0)
def Zw(n:Nat):ru n<256:=by unfold ru;(repeat' split)<;>omega
def Co(b:Nat):om b<=8:=by unfold om;(repeat' split)<;>omega
def Po(n:Nat)(h:n<253):ru n=n:=by unfold ru;rw[Ax h]
def RO(n:Nat)(h:n<253):om n=0:=by unfold om;rw[Ax h]
def MC(n:Nat)(h:n<253):uS n=[jH n]:=by unfold uS;rw[Po n h,RO n h];rfl
def a6i(n:Nat)(h:253<=n)(A:n<65536):uS n=253::xQ 2 n:=by
 have:ru n=253:=by unfold ru;rw[At I,Ax A]
 unfold uS;rw[this];rfl
def a6j(n:Nat)(h:65536<=n)(A:n<4294967296):uS n=254::xQ 4 n:=by
 have:ru n=254:=by unfold ru;rw[At I,At I,Ax A]
 unfold uS;rw[this];rfl
def a6k(n:Nat)(h:4294967296<=n):uS n=255::xQ 8 n:=by
 have:ru n=255:=by unfold ru;rw[At I,At I,At I]
 unfold uS;rw[this];rfl
def Zx{l:List AC}{N:Nat}(h:qh l=(N,aq,0)):aq<=l.length/\N<18446744073709551616/\uS N=l.take aq/\aq<=9:=by
 cases l with
 |nil=>simp[qh]at h
 |cons b r=>
  rw[qh]at h;have hb:=b.toNat_lt;split at h
  .rename_i c
   simp only[cT,and_true]at h;obtain⟨rfl,rfl⟩:=h;refine⟨ny,I,?_,I⟩;rw[MC _ c];simp
  .split at h
   .simp at h
   .split at h
    .simp at h
    .rename_i c1 c2 c3
     simp only[cT,and_true]at h;obtain⟨rfl,rfl⟩:=h;have hl:(r.take (om b.toNat)).length=om b.toNat:=by rw[jQ];omega
     have A:=qD (r.take (om b.toNat));have C:=Co b.toNat;rw[hl]at A;have E:ru (oM (r.take (om b.toNat)))=b.toNat:=by simpa using c3
     refine⟨nk,jy A (jk (kR mX C) mX),?_,I⟩;have e:=CW (r.take (om b.toNat));rw[hl]at e;unfold uS;rw[E,e,u8e (b:=b) rfl,Nat.add_comm 1,jm]
def RP(l:List AC):qh (l.take 9)=qh l:=by
 cases l with
 |nil=>rfl
 |cons b r=>
  have C:=Co b.toNat;rw[jm,qh,qh,List.take_take,lZ C,jQ];by_cases A:r.length<om b.toNat;.rw[Ax (show min 8 r.length<_ by omega),Ax A]
  .rw[At (show¬min 8 r.length<_ by omega),At A]
def RQ(b:AC)(r:List AC)(hb:253<=b.toNat)(A:om b.toNat<=r.length):
  uS (oM (r.take (om b.toNat)))=b::r.take (om b.toNat)<->ru (oM (r.take (om b.toNat)))=b.toNat:=by
 have hl:(r.take (om b.toNat)).length=om b.toNat:=by rw[jQ];omega
 have e:=CW (r.take (om b.toNat));rw[hl]at e;constructor
 .intro h
  unfold uS at h;have:=congrArg UInt8.toNat (List.cons.inj h).1;rwa [u8n _ (Zw _)]at this
 .intro h
  unfold uS;rw[h,e,u8e (b:=b) rfl]
end
section
open Go.RowKit
def n3(t:Nat×Nat×Nat):iQ:=mJ #[V mP t.1,V X t.2.1,V X t.2.2]
structure BC(w:K):Prop where
 a:w.cell? (Z 0 0 U)=O (V X 2)
 b:w.cell? (Z 0 1 U)=O (V X 4)
 c:w.cell? (Z 0 2 U)=O (V X 8)
def BC.at_(h:BC w)(b:Nat)(A:253<=b)(C:b<256):w.cell? (Z 0 (b - 253) U)=O (V X (om b)):=by
 rcases(show b=253\/b=254\/b=255 by omega)with rfl|rfl|rfl
 .exact h.a
 .exact h.b
 .exact h.c
def BC.below(h:BC w)(hb:iR B w w')(hB:0<B):BC w':=
 ⟨(hb.cell (p:=(Z _ 0 U)) hB).trans h.a,(hb.cell (p:=(Z _ 1 U)) hB).trans h.b,(hb.cell (p:=(Z _ 2 U)) hB).trans h.c⟩
def BC.lt(h:BC w):0<w.heap.size:=by
 rcases jL 0 w.heap.size with A|A
 .exact A
 .have:=h.a
  simp[lV,mi A]at this
def RU(n:Nat)(w:K)(hn:n<18446744073709551616):
  iW iN 245 #[V mP n] w λe w'=>e=mK (V .u8 (ru n))/\w=w':=by
 by_cases A:n<253
 .have e:=Y (Po n A)
  go_in;go_wp2;go_returns;exact⟨by rw[e.out];exact congrArg jS (congrArg (lL .u8) I),rfl⟩
 .have g1:As ((n:Int)<253)=M:=nk
  by_cases C:n<65536
  .have e:R (ru n=253):=by unfold R ru;rw[At A,Ax C]
   have g2:As ((n:Int)<65536)=u:=nk;go_in;exact yx
  .have g2:As ((n:Int)<65536)=M:=nk
   by_cases E:n<4294967296
   .have e:R (ru n=254):=by unfold R ru;rw[At A,At C,Ax E]
    have g3:As ((n:Int)<4294967296)=u:=nk;go_in;exact yx
   .have g3:As ((n:Int)<4294967296)=M:=nk
    have e:R (ru n=255):=by unfold R ru;rw[At A,At C,At E]
    go_in;exact yx
def toList_cons(s:An)(h:0<s.size):s.data.toList=s[0]::s.data.toList.drop 1:=by
 exact UF
def Cq(s:An)(k:Nat):(s.extract 1 (1+k)).data.toList=(s.data.toList.drop 1).take k:=by
 rw[lI,show 1+k - 1=k by omega]
def xK(s:An)(h:0<s.size):s.toList.isEmpty=M:=by
 rw[Lib.toList_data,toList_cons s h];rfl
def Pp(s:An)(h:0<s.size)(A:s[0].toNat<253):qh s.data.toList=(s[0].toNat,1,0):=by
 rw[toList_cons s h,qh,Ax A]
def Du(s:An)(h:0<s.size)(A:253<=s[0].toNat)(C:s.size<1+om s[0].toNat):qh s.data.toList=(0,0,2):=by
 rw[toList_cons s h,qh,At I,Ax (by rw[jP];simp;omega)]
def Dv(s:An)(h:0<s.size)(C:253<=s[0].toNat)(E:1+om s[0].toNat<=s.size)(A:ru (oM (s.extract 1 (1+om s[0].toNat)).data.toList)≠s[0].toNat):qh s.data.toList=(0,0,3):=by
 rw[Cq]at A;rw[toList_cons s h,qh,At I,At (by rw[jP];simp;omega),Ax A]
def Dw(s:An)(h:0<s.size)(C:253<=s[0].toNat)(E:1+om s[0].toNat<=s.size)(A:ru (oM (s.extract 1 (1+om s[0].toNat)).data.toList)=s[0].toNat):qh s.data.toList=(oM (s.extract 1 (1+om s[0].toNat)).data.toList,1+om s[0].toNat,0):=by
 rw[Cq]at A|-;rw[toList_cons s h];show qh (s[0]::s.data.toList.drop 1)=_;rw[qh,At I,At (by rw[jP];simp;omega),At (λh=>h A)];rfl
def WZ(s:An)(w:K)(hs:s.size<=jd)(N:BC w):
  iW iN 246 #[H s] w λe w'=>e=mK (n3 (qh s.data.toList))/\w=w':=by
 unfold jd at hs;by_cases h0:s.size=0
 .have e:s=⟨#[]⟩:=Dr (j5.1 (by simpa using h0))
  subst e;go_in;exact qF
 .have hp:0<s.size:=I
  have ag:=xK s hp;have hb:s[0].toNat<=255:=by have:=s[0].toNat_lt;omega
  by_cases aa:s[0].toNat<253
  .have e:=Y (Pp s hp aa)
   go_in;exact yx
  .have g1:253<=s[0].toNat:=I
   have ah:=BC.at_ N s[0].toNat g1 I;have hk:=Co s[0].toNat;have ai:1<=om s[0].toNat:=by unfold om;rw[At I];(repeat' split)<;>omega
   have e1:=Y (Du s hp g1);have e2:=Y (Dv s hp g1);have e3:=Y (Dw s hp g1);generalize om s[0].toNat=k at*;have aj:(s[0].toNat:Int) - 253<3:=I;have hd2:As ((s[0].toNat:Int)<253)=M:=nk;by_cases ae:s.size<1+k
   .have e:=Y (e1 ae)
    go_in;exact yx
   .have g2:1+k<=s.size:=I
    have af:(s.extract 1 (1+k)).size=k:=by rw[iV];omega
    have c1:=λw=>uh (s.extract 1 (1+k)) w I I
    have hn:oM (s.extract 1 (1+k)).data.toList<18446744073709551616:=by
     have h:=qD (s.extract 1 (1+k)).data.toList;have hl:(s.extract 1 (1+k)).data.toList.length=k:=by rw[<-kJ];exact af
     rw[hl]at h;exact jy h (xq k hk)
    have c2:=λw=>RU _ w hn
    generalize oM (s.extract 1 (1+k)).data.toList=n at*;have A:=Y c1;have C:=Y c2;generalize ru n=hd at*;by_cases E:hd=s[0].toNat
    .have e:=Y (e3 g2 E)
     have J:((hd:Int) !=(s[0].toNat:Int))=M:=by rw[bne_eq_false_iff_eq];omega
     go_in;go_wp2_with fail;refine(A _).mono ?_;rintro e w' ⟨rfl,rfl⟩;go_wp2_with fail;refine(C _).mono ?_;rintro e w' ⟨rfl,rfl⟩;exact yx
    .have e:=Y (e2 g2 E)
     have J:((hd:Int) !=(s[0].toNat:Int))=u:=yE;go_in;go_wp2_with fail;refine(A _).mono ?_;rintro e w' ⟨rfl,rfl⟩;go_wp2_with fail;refine vE (C _) ?_;exact yx
def Cr(n k:Nat)(w:K)(hn:n<18446744073709551616)(A:k<=8)(h:n<256^k):
  iW iN 271 #[V mP n,V X k] w λe w'=>e=mK (H ⟨(xQ k n).toArray⟩)/\iR w.heap.size w w':=by
 have c1:=Y (UE n k w hn A h);have c2:=Y (λw=>sZ ⟨(xQ k n).reverse.toArray⟩ w (by rw[size_mk];simp[jd];omega));rw[lW,lU]at c2;generalize xQ k n=l at*;generalize (⟨l.toArray⟩:An)=x at*;generalize (⟨l.reverse.toArray⟩:An)=y at*;go_in;go_wp2_with fail;refine pG c1 λw1 hb=> ?_
 go_wp2_with fail;refine vE (c2 _) ?_;go_wp2;go_returns;exact⟨rfl,hb⟩
def a3f{c:AC}{l t:List AC}(h:t=c::l):jS (H ((⟨#[c]⟩:An)++⟨l.toArray⟩))=mK (H ⟨t.toArray⟩):=
 congrArg (λb:An=>jS (Value.string b)) (Dr (by rw[h];simp))
def RV(h:p:=by
 have⟨L,hL⟩:∃L:An,L=⟨l.toArray⟩:=⟨_,rfl⟩;have hs:L.size<=8:=by rw[hL,size_mk];omega
 rw[<-hL]at c1;have HL:=Y hL;go_in;go_wp2_with fail;refine pG c1 λw1 hb=> ?_
 go_wp2;go_returns;exact⟨by rw[<-a3f e.out,<-HL.out];rfl,hb⟩):p:=h
def wQ(n:Nat)(w:K)(hn:n<18446744073709551616):
  iW iN 252 #[V mP n] w λe w'=>e=mK (H ⟨(uS n).toArray⟩)/\iR w.heap.size w w':=by
 by_cases E:n<253
 .have e:=Y (MC n E)
  have J:=λw=>Hu NV w [jH n] #[V .u8 n] 1 rfl (EB rfl I) mX
  go_in;go_wp2;go_returns;exact⟨by rw[e.out];rfl,(iT _ _).alloc (iP _) _⟩
 .have g1:As ((n:Int)<253)=M:=nk
  by_cases A:n<65536
  .have e:=Y (a6i n I A)
   have g2:As ((n:Int)<65536)=u:=nk;have c1:=Y (Cr n 2 w hn I (by simpa using A));have hl:=uA 2 n;generalize xQ 2 n=l at*;exact RV
  .have g2:As ((n:Int)<65536)=M:=nk
   by_cases C:n<4294967296
   .have e:=Y (a6j n I C)
    have g3:As ((n:Int)<4294967296)=u:=nk;have c1:=Y (Cr n 4 w hn I (by simpa using C));have hl:=uA 4 n;generalize xQ 4 n=l at*;exact RV
   .have e:=Y (a6k n I)
    have g3:As ((n:Int)<4294967296)=M:=nk;have c1:=Y (Cr n 8 w hn I (by simpa using hn));have hl:=uA 8 n;generalize xQ 8 n=l at*;exact RV
def IV(l:List AC):qY l.reverse=oM l:=by unfold qY;rw[lU]
def a3g(s:An)(m:Nat):(s.extract 0 m).data.toList=s.data.toList.take m:=by rw[lI];simp
def IW(s:An)(h:0<s.size)(A:253<=s[0].toNat)(C:1+om s[0].toNat<=s.size):
  (uS (oM (s.extract 1 (1+om s[0].toNat)).data.toList)=s.data.toList.take (1+om s[0].toNat)<->ru (oM (s.extract 1 (1+om s[0].toNat)).data.toList)=s[0].toNat):=by
 rw[Cq,<-RQ s[0] (s.data.toList.drop 1) A (by rw[jP];simp;omega),toList_cons s h,Nat.add_comm 1,jm];rfl
def Xa(s:An)(h:0<s.size)(A:s[0].toNat<253):uS s[0].toNat=s.data.toList.take 1:=by
 rw[MC _ A,toList_cons s h,u8e (b:=s[0]) rfl];rfl
def Cs(l:List AC){s:An}(b:Bool)(h:(l==s.data.toList.take m)=b):((⟨l.toArray⟩:An).toList==(s.extract 0 m).toList)=b:=by
 rw[Lib.toList_data,Lib.toList_data,a3g,lW,h]
def zl(h:p:=by
 go_returns;exact⟨by rw[e.out];rfl,x.is⟩):p:=h
def Ar(s:An)(w:K)(hs:s.size<=jd)(h:s.size=0\/∃hp:0<s.size,s[0].toNat<253):
  iW iN 217 #[H s] w λe w'=>e=mK (n3 (qh s.data.toList))/\iR w.heap.size w w':=by
 unfold jd at hs;rcases h with h0|⟨hp,A⟩
 .have e:s=⟨#[]⟩:=Dr (j5.1 (by simpa using h0))
  subst e;go_in;go_wp2;go_returns;exact⟨rfl,iT _ _⟩
 .have e:=Y (Pp s hp A)
  have E:=xK s hp;have hb:s[0].toNat<=255:=I;have J:((s[0].toNat:Int)==253)=M:=qJ;have N:((s[0].toNat:Int)==254)=M:=qJ;have aa:((s[0].toNat:Int)==255)=M:=qJ;have ht:=Y (Cs (uS s[0].toNat) (m:=1) (s:=s) u (by rw[Xa s hp A];simp));have c1:=Y (λw=>wQ s[0].toNat w I);generalize (⟨(uS s[0].toNat).toArray⟩:An)=P at*;go_in;go_wp2_with fail;refine nG mZ mZ ?_;repeat(go_big_quiet_step ((go_at_call 252;exact bp (c1 _))))
  refine jT ?_;intro x;go_wp2_with fail
  .have C:(!(P.toList==(s.extract 0 1).toList))=u:=by assumption
   rw[ht.out]at C;cases C
  .exact zl
def ME(h:p:=by
 have e:=Y (e1 I);go_in;go_wp2;go_returns;exact⟨by rw[e.out];rfl,iT _ _⟩):p:=h
def IX(s:An)(w:K)(hs:s.size<=jd)(hp:0<s.size)(J:s[0].toNat=253):
  iW iN 217 #[H s] w λe w'=>e=mK (n3 (qh s.data.toList))/\iR w.heap.size w w':=by
 unfold jd at hs;have g1:253<=s[0].toNat:=I;have N:om s[0].toNat=2:=by rw[J];rfl
 have aa:=xK s hp;have e1:=Y (Du s hp g1);have e2:=Y (Dv s hp g1);have e3:=Y (Dw s hp g1);have C:=Y (IW s hp g1);rw[N]at e1 e2 e3 C;have ae:((s[0].toNat:Int)==253)=u:=EA;by_cases g2:s.size<3;.exact ME
 .have g3:3<=s.size:=I
  have A:(s.extract 1 3).size=2:=by rw[iV];omega
  have hl:(s.extract 1 3).data.toList.length=2:=by rw[<-kJ];exact A
  have hn:oM (s.extract 1 3).data.toList<18446744073709551616:=by
   have h:=qD (s.extract 1 3).data.toList;rw[hl]at h;exact jy h (xq 2 I)
  have c1:=Y (λw=>sZ (s.extract 1 3) w (by rw[A];decide));have c2:=Y (λw=>uC ⟨(s.extract 1 3).data.toList.reverse.toArray⟩ w (by rw[size_mk,lC,hl];omega));have c3:=Y (λw=>wQ (oM (s.extract 1 3).data.toList) w hn);rw[lW,IV]at c2;have C:=C.out I;have e2:=e2.out I;have e3:=e3.out I;rw[show 1+2=3 from rfl]at e2 e3 C;generalize oM (s.extract 1 3).data.toList=n at*;generalize (⟨(s.extract 1 3).data.toList.reverse.toArray⟩:An)=T at*;by_cases E:ru n=s[0].toNat
  .have e:=Y (e3 E)
   have ht:=Y (Cs (uS n) (m:=3) (s:=s) u (by rw[C.2 E];simp));generalize (⟨(uS n).toArray⟩:An)=P at*;go_in;go_wp2_with fail;refine(c1 _).mono ?_;rintro e w' ⟨rfl,rfl⟩;go_wp2_with fail;refine(c2 _).mono ?_;rintro e w' ⟨rfl,rfl⟩;go_wp2_with fail;refine nG mZ mZ ?_;repeat(go_big_quiet_step ((go_at_call 252;exact bp (c3 _))))
   refine jT ?_;intro x;go_wp2_with fail
   .have A:(!(P.toList==(s.extract 0 3).toList))=u:=by assumption
    rw[ht.out]at A;cases A
   .exact zl
  .have e:=Y (e2 E)
   have ht:=Y (Cs (uS n) (m:=3) (s:=s) M (by rw[bj];exact λh=>E (C.1 h)));generalize (⟨(uS n).toArray⟩:An)=P at*;go_in;go_wp2_with fail;refine(c1 _).mono ?_;rintro e w' ⟨rfl,rfl⟩;go_wp2_with fail;refine vE (c2 _) ?_;go_wp2_with fail;refine nG mZ mZ ?_;repeat(go_big_quiet_step ((go_at_call 252;exact bp (c3 _))))
   refine jT ?_;intro x;go_wp2_with fail;.exact zl
   .have A:(!(P.toList==(s.extract 0 3).toList))=M:=by assumption
    rw[ht.out]at A;cases A
def IY(s:An)(w:K)(hs:s.size<=jd)(hp:0<s.size)(J:s[0].toNat=254):
  iW iN 217 #[H s] w λe w'=>e=mK (n3 (qh s.data.toList))/\iR w.heap.size w w':=by
 unfold jd at hs;have g1:253<=s[0].toNat:=I;have N:om s[0].toNat=4:=by rw[J];rfl
 have aa:=xK s hp;have e1:=Y (Du s hp g1);have e2:=Y (Dv s hp g1);have e3:=Y (Dw s hp g1);have C:=Y (IW s hp g1);rw[N]at e1 e2 e3 C;have ae:((s[0].toNat:Int)==253)=M:=qJ;have af:((s[0].toNat:Int)==254)=u:=EA;by_cases g2:s.size<5;.exact ME
 .have g3:5<=s.size:=I
  have A:(s.extract 1 5).size=4:=by rw[iV];omega
  have hl:(s.extract 1 5).data.toList.length=4:=by rw[<-kJ];exact A
  have hn:oM (s.extract 1 5).data.toList<18446744073709551616:=by
   have h:=qD (s.extract 1 5).data.toList;rw[hl]at h;exact jy h (xq 4 I)
  have c1:=Y (λw=>sZ (s.extract 1 5) w (by rw[A];decide));have c2:=Y (λw=>uC ⟨(s.extract 1 5).data.toList.reverse.toArray⟩ w (by rw[size_mk,lC,hl];omega));have c3:=Y (λw=>wQ (oM (s.extract 1 5).data.toList) w hn);rw[lW,IV]at c2;have C:=C.out I;have e2:=e2.out I;have e3:=e3.out I;rw[show 1+4=5 from rfl]at e2 e3 C;generalize oM (s.extract 1 5).data.toList=n at*;generalize (⟨(s.extract 1 5).data.toList.reverse.toArray⟩:An)=T at*;by_cases E:ru n=s[0].toNat
  .have e:=Y (e3 E)
   have ht:=Y (Cs (uS n) (m:=5) (s:=s) u (by rw[C.2 E];simp));generalize (⟨(uS n).toArray⟩:An)=P at*;go_in;go_wp2_with fail;refine(c1 _).mono ?_;rintro e w' ⟨rfl,rfl⟩;go_wp2_with fail;refine(c2 _).mono ?_;rintro e w' ⟨rfl,rfl⟩;go_wp2_with fail;refine nG mZ mZ ?_;repeat(go_big_quiet_step ((go_at_call 252;exact bp (c3 _))))
   refine jT ?_;intro x;go_wp2_with fail
   .have A:(!(P.toList==(s.extract 0 5).toList))=u:=by assumption
    rw[ht.out]at A;cases A
   .exact zl
  .have e:=Y (e2 E)
   have ht:=Y (Cs (uS n) (m:=5) (s:=s) M (by rw[bj];exact λh=>E (C.1 h)));generalize (⟨(uS n).toArray⟩:An)=P at*;go_in;go_wp2_with fail;refine(c1 _).mono ?_;rintro e w' ⟨rfl,rfl⟩;go_wp2_with fail;refine vE (c2 _) ?_;go_wp2_with fail;refine nG mZ mZ ?_;repeat(go_big_quiet_step ((go_at_call 252;exact bp (c3 _))))
   refine jT ?_;intro x;go_wp2_with fail;.exact zl
   .have A:(!(P.toList==(s.extract 0 5).toList))=M:=by assumption
    rw[ht.out]at A;cases A
def IZ(s:An)(w:K)(hs:s.size<=jd)(hp:0<s.size)(J:s[0].toNat=255):
  iW iN 217 #[H s] w λe w'=>e=mK (n3 (qh s.data.toList))/\iR w.heap.size w w':=by
 unfold jd at hs;have g1:253<=s[0].toNat:=I;have N:om s[0].toNat=8:=by rw[J];rfl
 have aa:=xK s hp;have e1:=Y (Du s hp g1);have e2:=Y (Dv s hp g1);have e3:=Y (Dw s hp g1);have C:=Y (IW s hp g1);rw[N]at e1 e2 e3 C;have ae:((s[0].toNat:Int)==253)=M:=qJ;have af:((s[0].toNat:Int)==254)=M:=qJ;have ag:((s[0].toNat:Int)==255)=u:=EA;by_cases g2:s.size<9;.exact ME
 .have g3:9<=s.size:=I
  have A:(s.extract 1 9).size=8:=by rw[iV];omega
  have hl:(s.extract 1 9).data.toList.length=8:=by rw[<-kJ];exact A
  have hn:oM (s.extract 1 9).data.toList<18446744073709551616:=by
   have h:=qD (s.extract 1 9).data.toList;rw[hl]at h;exact jy h (xq 8 I)
  have c1:=Y (λw=>sZ (s.extract 1 9) w (by rw[A];decide));have c2:=Y (λw=>uC ⟨(s.extract 1 9).data.toList.reverse.toArray⟩ w (by rw[size_mk,lC,hl];omega));have c3:=Y (λw=>wQ (oM (s.extract 1 9).data.toList) w hn);rw[lW,IV]at c2;have C:=C.out I;have e2:=e2.out I;have e3:=e3.out I;rw[show 1+8=9 from rfl]at e2 e3 C;generalize oM (s.extract 1 9).data.toList=n at*;generalize (⟨(s.extract 1 9).data.toList.reverse.toArray⟩:An)=T at*;by_cases E:ru n=s[0].toNat
  .have e:=Y (e3 E)
   have ht:=Y (Cs (uS n) (m:=9) (s:=s) u (by rw[C.2 E];simp));generalize (⟨(uS n).toArray⟩:An)=P at*;go_in;go_wp2_with fail;refine(c1 _).mono ?_;rintro e w' ⟨rfl,rfl⟩;go_wp2_with fail;refine(c2 _).mono ?_;rintro e w' ⟨rfl,rfl⟩;go_wp2_with fail;refine nG mZ mZ ?_;repeat(go_big_quiet_step ((go_at_call 252;exact bp (c3 _))))
   refine jT ?_;intro x;go_wp2_with fail
   .have A:(!(P.toList==(s.extract 0 9).toList))=u:=by assumption
    rw[ht.out]at A;cases A
   .exact zl
  .have e:=Y (e2 E)
   have ht:=Y (Cs (uS n) (m:=9) (s:=s) M (by rw[bj];exact λh=>E (C.1 h)));generalize (⟨(uS n).toArray⟩:An)=P at*;go_in;go_wp2_with fail;refine(c1 _).mono ?_;rintro e w' ⟨rfl,rfl⟩;go_wp2_with fail;refine vE (c2 _) ?_;go_wp2_with fail;refine nG mZ mZ ?_;repeat(go_big_quiet_step ((go_at_call 252;exact bp (c3 _))))
   refine jT ?_;intro x;go_wp2_with fail;.exact zl
   .have A:(!(P.toList==(s.extract 0 9).toList))=M:=by assumption
    rw[ht.out]at A;cases A
def Ki(s:An)(w:K)(hs:s.size<=jd):
  iW iN 217 #[H s] w λe w'=>e=mK (n3 (qh s.data.toList))/\iR w.heap.size w w':=by
 by_cases h0:s.size=0;.exact Ar s w hs (.inl h0)
 .have hp:0<s.size:=I
  have:=s[0].toNat_lt;rcases(show s[0].toNat<253\/s[0].toNat=253\/s[0].toNat=254\/s[0].toNat=255 by omega)with h|h|h|h
  .exact Ar s w hs (.inr ⟨hp,h⟩)
  .exact IX s w hs hp h
  .exact IY s w hs hp h
  .exact IZ s w hs hp h
def QO(w:K)(b:Nat)(r:RS):Prop:=mY w b r.cs 185
def Zy(b:Nat)(w:K)(r:RS)(v:iQ):kV->K->Prop:=λe w'=>e=mK v/\oO b w w'/\QO w' b r
def Zz(t:An)(w:K):
  iW iN 124 #[H t] w λe w'=>e=mK (mG (O (Z w.heap.size 0 U)))/\iR w.heap.size w w'/\w.heap.size<w'.heap.size/\QO w' w.heap.size (RS.of t):=by
 go_in;go_wp2;go_returns;exact⟨rfl,(iT _ _).alloc (iP _) _,ny,mY.new _ _ _⟩
def I1(b:Nat)(r:RS)(w:K)(A:r.Ok)(hb:QO w b r):
  iW iN 177 #[mG (O (Z b 0 U))] w λe w'=>e=mK (V X ((r.t.size:Int) - r.p))/\∃k,w'=w.drewN k:=by
 obtain⟨t,p,f⟩:=r;obtain⟨C,E⟩:=A;simp only at C E;have c0:=b5 hb 0;have c1:=b5 hb 1;simp[RS.cs]at c0 c1;go_in;go_wp2;go_quiet (fail);go_wp2;go_returns;exact⟨rfl,_,rfl⟩
def RX(b:Nat)(r:RS)(x:Int)(w:K)(hb:QO w b r):
  iW iN 174 #[mG (O (Z b 0 U)),V X x] w (Zy b w (r.fail x) (mJ #[])):=by
 obtain⟨t,p,f⟩:=r;have c2:=b5 hb 2;have f2:=ec hb 2;simp[RS.cs]at c2;by_cases A:f=0
 .subst A
  have e:RS.fail ⟨t,p,0⟩ x=⟨t,p,x⟩:=Ax rfl;rw[e];go_in;go_wp2;go_returns;exact⟨rfl,(b9 b w).set 2 _,eK hb 2 _⟩
 .have e:RS.fail ⟨t,p,f⟩ x=⟨t,p,f⟩:=At A
  rw[e];have C:((f:Int)==0)=M:=by rw[bj];exact A
  clear e A;go_in;go_wp2;go_returns;exact⟨rfl,b9 b w,hb⟩
def Ct(b:Nat)(r:RS)(n:Int)(w:K)(E:r.Ok)(hb:QO w b r):
  iW iN 175 #[mG (O (Z b 0 U)),V X n] w (Zy b w (r.take n).1 (H (r.take n).2)):=by
 have cl:=Y (I1 b r w E hb);obtain⟨t,p,f⟩:=r;obtain⟨J,N⟩:=E;simp only at J N cl;have c0:=b5 hb 0;have c1:=b5 hb 1;have c2:=b5 hb 2;have f1:=ec hb 1;have f2:=ec hb 2;simp[RS.cs]at c0 c1 c2;by_cases A:f=0
 .subst A
  by_cases hn:n<0
  .have e:RS.take ⟨t,p,0⟩ n=(⟨t,p,1⟩,tX):=by unfold RS.take;rw[Ax rfl,Ax hn]
   rw[e];go_in;go_wp2;go_returns;exact⟨rfl,(b9 b w).set 2 _,eK hb 2 _⟩
  .have aa:As (n<0)=M:=by simpa using hn
   by_cases C:(t.size:Int) - p<n
   .have e:RS.take ⟨t,p,0⟩ n=(⟨t,p,2⟩,tX):=by unfold RS.take;rw[Ax rfl,At hn,Ax C]
    rw[e];go_in;go_wp2_with fail;refine cl.mono ?_;rintro e w1 ⟨rfl,k,rfl⟩;go_wp2;go_returns;exact⟨rfl,((b9 b w).drewN k).set 2 _,(mY.drewN hb k).set 2 _⟩
   .obtain⟨m,rfl⟩:∃m:Nat,n=m:=⟨n.toNat,I⟩
    have ae:p+m<=t.size:=I;have af:As ((t.size:Int) - p<m)=M:=by simpa using C
    have e:RS.take ⟨t,p,0⟩ m=(⟨t,p+m,0⟩,t.extract p (p+m)):=by unfold RS.take;rw[Ax rfl,At hn,At C];rfl
    rw[e];go_in;go_wp2_with fail;refine cl.mono ?_;rintro e w1 ⟨rfl,k,rfl⟩;go_wp2_with fail;go_quiet (fail);go_wp2;go_returns;exact⟨rfl,((b9 b w).drewN _).set 1 _,(mY.drewN hb _).set 1 _⟩
 .have e:RS.take ⟨t,p,f⟩ n=(⟨t,p,f⟩,tX):=by unfold RS.take;rw[At A]
  rw[e];have ag:((f:Int) !=0)=u:=by rw[ce];exact A
  go_in;go_wp2;go_returns;exact⟨rfl,b9 b w,hb⟩
def Dx(t:Nat×Nat×Nat)(most:Nat):Nat:=if t.2.2=0/\most<t.1 then 5 else t.2.2
def RS.comp(r:RS)(most:Nat):RS×Nat:=
 if r.f=0 then
  (λt:Nat×Nat×Nat=>if Dx t most=0 then((⟨r.t,r.p+t.2.1,0⟩:RS),t.1)else(⟨r.t,r.p,Dx t most⟩,0)) (qh (r.t.data.toList.drop r.p))
 else(r,0)
def zm{t:An}{p:Nat}(h:qh (t.data.toList.drop p)=(n,k,0))(hp:p<=t.size):p+k<=t.size:=by
 have A:=(Zx h).1;rw[jP]at A;have:t.data.toList.length=t.size:=ny;omega
def RS.Ok.comp(h:r.Ok)(most:Nat):(r.comp most).1.Ok:=by
 obtain⟨A,C⟩:=h;unfold RS.comp;split
 .generalize ht:qh (r.t.data.toList.drop r.p)=t
  obtain⟨n,k,e⟩:=t;simp only[];split
  .rename_i J he
   have E:e=0:=by unfold Dx at he;simp only at he;split at he<;>omega
   subst E;exact⟨zm ht A,C⟩
  .exact⟨A,C⟩
 .exact⟨A,C⟩
def MF(r:RS)(most:Nat):(r.comp most).1.t=r.t:=by
 unfold RS.comp;split
 .generalize qh (r.t.data.toList.drop r.p)=t
  simp only[];split<;>rfl
 .rfl
def UJ(h:p:=by
 have key:∀i,w'.cell? (Z 0 i U)=w.cell? (Z 0 i U):=λi=>by simp only[lV,hb]
 exact⟨(key 0).trans h.a,(key 1).trans h.b,(key 2).trans h.c⟩):p:=h
def BC.upd(h:BC w)(ar:oO b w w')(A:0≠b):BC w':=by
 have hb:=ar.block 0 h.lt (by simpa using A);exact UJ
def RY(h:p:=by
 go_in;go_wp2_with fail;refine cf.mono ?_;rintro e w' ⟨rfl,rfl⟩;simp only[];go_wp2_with fail;refine vF ca λw2 u2 hb2=> ?_
 have hT2:=Y (HT.upd u2 hG);go_wp2_with fail;refine(CN _ hT2).mono ?_;rintro e w' ⟨rfl,rfl⟩;go_wp2_with fail;refine vF (CX _ hb2) λw3 u3 hb3=> ?_
 go_wp2;go_returns;exact⟨rfl,u2.trans u3,hb3⟩):p:=h
def Xb(b:Nat)(r:RS)(most:Nat)(w:K)(ah:r.Ok)(hb:wL w b r)(az:most<18446744073709551616)(E:BC w)(hG:0≠b):
  iW iN 210 #[mG (O (Z b 0 U)),V mP most] w (zW b w (r.comp most).1 (V mP (r.comp most).2)):=by
 obtain⟨t,p,f⟩:=r;obtain⟨N,ae⟩:=ah;simp only at N ae;have cf:=Y (pU b ⟨t,p,f⟩ w hb);have HT:=Y E;by_cases aa:f=0
 .subst aa
  have ca:=Y (LQ b ⟨t,p,0⟩ 9 w ⟨N,ae⟩ hb);have ai:RS.ahead ⟨t,p,0⟩ 9=t.extract p (p+min 9 (t.size - p)):=by unfold RS.ahead;rw[Ax rfl,Ax mX];rfl
  have af:=λw E=>WZ (t.extract p (p+min 9 (t.size - p))) w (by unfold jd;rw[iV];omega) E
  have en:qh (t.extract p (p+min 9 (t.size - p))).data.toList=qh (t.data.toList.drop p):=by
   rw[lI,<-RP (t.data.toList.drop p)];congr 1;rw[show p+min 9 (t.size - p) - p=min 9 (t.size - p)by omega];by_cases ag:9<=t.size - p;.rw[lZ ag]
   .have hl:(t.data.toList.drop p).length<=t.size - p:=by rw[jP];simp
    rw[Nat.min_eq_right I,kK hl,kK I]
  rw[en]at af;rw[ai]at ca;generalize t.extract p (p+min 9 (t.size - p))=x at*;have A:∀T,qh (t.data.toList.drop p)=T->RS.comp ⟨t,p,0⟩ most=if Dx T most=0 then((⟨t,p+T.2.1,0⟩:RS),T.1)else(⟨t,p,Dx T most⟩,0):=by
   intro T E;unfold RS.comp;rw[Ax rfl,E]
  have hsz:=λn k (h:qh (t.data.toList.drop p)=(n,k,0))=>zm h N
  generalize qh (t.data.toList.drop p)=T at*;have A:=A T rfl;obtain⟨n,k,e⟩:=T;have CN:R (∀w,BC w->iW iN 246 #[H x] w λaj w'=>aj=mK (mJ #[V mP n,V X k,V X e])/\w=w'):=af;clear af;by_cases he:e=0
  .subst he
   have au:=hsz n k rfl;clear hsz;by_cases J:most<n
   .have e5:Dx (n,k,0) most=5:=Ax ⟨rfl,J⟩
    rw[e5,At mX]at A;rw[A];have C:=λw h=>uI b ⟨t,p,0⟩ 5 w h
    rw[show RS.fail ⟨t,p,0⟩ 5=⟨t,p,5⟩from rfl]at C;have CX:=Y C;clear C A e5;exact RY
   .have e5:Dx (n,k,0) most=0:=At (λh=>J h.2)
    rw[e5,Ax rfl]at A;rw[A];have ak:As (most<n)=M:=nk;have C:=λw h=>pX b ⟨t,p,0⟩ k w ⟨N,ae⟩ h
    rw[show RS.take ⟨t,p,0⟩ k=(⟨t,p+k,0⟩,t.extract p (p+k))from by unfold RS.take;rw[Ax rfl,At I,At (by simp only[];omega)];rfl]at C;have CX:=Y C;clear C A e5 J;exact RY
  .have e5:Dx (n,k,e) most=e:=At (λh=>he h.1)
   rw[e5,At he]at A;rw[A];have av:((e:Int)==0)=M:=qJ;have ax:((e:Int) !=0)=u:=yE;have C:=λw h=>uI b ⟨t,p,0⟩ e w h
   rw[show RS.fail ⟨t,p,0⟩ e=⟨t,p,e⟩from rfl]at C;have CX:=Y C;clear C A e5 he;exact RY
 .have e:RS.comp ⟨t,p,f⟩ most=(⟨t,p,f⟩,0):=by unfold RS.comp;rw[At aa]
  rw[e];have ay:((f:Int) !=0)=u:=by rw[ce];exact aa
  clear e aa;go_in;go_wp2_with fail;refine vE cf ?_;simp only[];go_wp2;go_returns;exact⟨rfl,b9 b w,hb⟩
def ZA(h:p:=by
 go_in;go_wp2_with fail;refine nG mZ mZ ?_;repeat(go_big_quiet_step ((go_at_call 217;exact bp (CN _))))
 refine jT ?_;intro x;have hbx:=a7 x.is hb hlt;have y1:=hbx.free 1;have y2:=hbx.free 2;have x2:=hbx.cell 2;simp[RS.cs]at x2;go_wp2;go_returns;exact⟨rfl,(oO.of x.is).set 2 _,hbx.set 2 _⟩):p:=h
def BJ(b:Nat)(r:RS)(most:Nat)(w:K)(aa:r.Ok)(hb:QO w b r)(av:most<18446744073709551616):
  iW iN 176 #[mG (O (Z b 0 U)),V mP most] w (Zy b w (r.comp most).1 (V mP (r.comp most).2)):=by
 obtain⟨t,p,f⟩:=r;obtain⟨N,ae⟩:=aa;simp only at N ae;have c0:=b5 hb 0;have c1:=b5 hb 1;have c2:=b5 hb 2;simp[RS.cs]at c0 c1 c2;have hlt:=mY.lt hb;have z0:∀x:qX w,x.at_.cell? (Z b 0 U)=O (H t):=λx=>(x.is.cell (p:=(Z b 0 U)) hlt).trans c0
 have ax:∀x:qX w,x.at_.cell? (Z b 1 U)=O (V X p):=λx=>(x.is.cell (p:=(Z b 1 U)) hlt).trans c1
 by_cases E:f=0
 .subst E
  have J:=λw=>Ki (t.extract p t.size) w (by unfold jd;rw[iV];omega)
  have en:(t.extract p t.size).data.toList=t.data.toList.drop p:=by
   rw[lI,kK (by rw[jP];simp)]
  rw[en]at J;have A:∀T,qh (t.data.toList.drop p)=T->RS.comp ⟨t,p,0⟩ most=if Dx T most=0 then((⟨t,p+T.2.1,0⟩:RS),T.1)else(⟨t,p,Dx T most⟩,0):=by
   intro T af;unfold RS.comp;rw[Ax rfl,af]
  have hsz:=λn k (h:qh (t.data.toList.drop p)=(n,k,0))=>zm h N
  generalize qh (t.data.toList.drop p)=T at*;have A:=A T rfl;obtain⟨n,k,e⟩:=T;have CN:R (∀w,iW iN 217 #[H (t.extract p t.size)] w λag w'=>ag=mK (mJ #[V mP n,V X k,V X e])/\iR w.heap.size w w'):=J;clear J;by_cases he:e=0
  .subst he
   have ai:=hsz n k rfl;clear hsz;by_cases C:most<n
   .have e5:Dx (n,k,0) most=5:=Ax ⟨rfl,C⟩
    rw[e5,At mX]at A;rw[A];clear A e5;exact ZA
   .have e5:Dx (n,k,0) most=0:=At (λh=>C h.2)
    rw[e5,Ax rfl]at A;rw[A];have ah:As (most<n)=M:=nk;clear A e5 C;go_in;go_wp2_with fail;refine nG mZ mZ ?_;repeat(go_big_quiet_step ((go_at_call 217;exact bp (CN _))))
    refine jT ?_;intro x;have hbx:=a7 x.is hb hlt;have y1:=hbx.free 1;have y2:=hbx.free 2;have x2:=hbx.cell 2;simp[RS.cs]at x2;go_wp2;go_returns;exact⟨rfl,(oO.of x.is).set 1 _,hbx.set 1 _⟩
  .have e5:Dx (n,k,e) most=e:=At (λh=>he h.1)
   rw[e5,At he]at A;rw[A];have aj:((e:Int)==0)=M:=qJ;have ak:((e:Int) !=0)=u:=yE;clear A e5 he;exact ZA
 .have e:RS.comp ⟨t,p,f⟩ most=(⟨t,p,f⟩,0):=by unfold RS.comp;rw[At E]
  rw[e];have au:((f:Int) !=0)=u:=by rw[ce];exact E
  clear e E;go_in;go_wp2;go_returns;exact⟨rfl,b9 b w,hb⟩
def wy(b:An):mW IL:=.node ⟨b.data.toList,M⟩ []
def Dy(b:An):Nat:=if 1<=b.size/\b.size<=8 then oM b.data.toList else 0
def Dz(n:Nat):mW IL:=.node ⟨(zH n).reverse,M⟩ []
def tZ(s:List (mW IL)):mW IL:=.node ⟨[],u⟩ s
abbrev ZB:=mW IL×RS×Nat
def oN(f:mW TL->RS->Nat->ZB):List (mW TL×Bool)->RS->Nat->List (mW IL)×RS×Nat
 |[],r,l=>([],r,l)
 |t::ts,r,l=>if(t.2=u\/r.p<r.t.size)/\r.f=0 then
   ((f t.1 r l).1::(oN f ts (f t.1 r l).2.1 (f t.1 r l).2.2).1,(oN f ts (f t.1 r l).2.1 (f t.1 r l).2.2).2)else([],r,l)
def ry(s:List (mW TL))(tail:Int):List (mW TL×Bool):=s.mapIdx λi t=>(t,As ((i:Int)<s.length - tail))
def nQ:Nat->mW TL->RS->Nat->ZB
 |0,_,r,l=>(wy ⟨#[]⟩,r.fail 4,l)
 |d+1,.node a s,r,l=>
  if l=0 then(wy ⟨#[]⟩,r.fail 4,0)
  else if a.kind=1 then(Dz (Dy (r.take a.size).2),(r.take a.size).1,l - 1)
  else if a.kind=2 then(wy (r.take a.size).2,(r.take a.size).1,l - 1)
  else if a.kind=3 then(wy ((r.comp a.size.toNat).1.take (r.comp a.size.toNat).2).2,((r.comp a.size.toNat).1.take (r.comp a.size.toNat).2).1,l - 1)
  else if a.kind=4 then match s with
   |t::_=>(tZ (oN (nQ d) (jC (r.comp a.size.toNat).2 (t,u)) (r.comp a.size.toNat).1 (l - 1)).1,(oN (nQ d) (jC (r.comp a.size.toNat).2 (t,u)) (r.comp a.size.toNat).1 (l - 1)).2)
   |[]=>(wy ⟨#[]⟩,r.fail 4,l)
  else(tZ (oN (nQ d) (ry s a.tail) r (l - 1)).1,(oN (nQ d) (ry s a.tail) r (l - 1)).2)
structure RZ(r r':RS):Prop where
 t:r'.t=r.t
 f:r'.f=0->r.f=0
 ok:r.Ok->r'.Ok
def RZ.refl(r:RS):RZ r r:=⟨rfl,id,id⟩
def RZ.trans{a b c:RS}(h:RZ a b)(k:RZ b c):RZ a c:=⟨k.t.trans h.t,λA=>h.f (k.f A),λho=>k.ok (h.ok ho)⟩
def DC(r:RS)(x:Int):RZ r (r.fail x):=by
 refine⟨?_,?_,λh=>h.fail x⟩;.unfold RS.fail;split<;>rfl
 .intro h;unfold RS.fail at h;split at h<;>assumption
def xL(r:RS)(n:Int):RZ r (r.take n).1:=by
 refine⟨?_,?_,λh=>h.take n⟩;.unfold RS.take;(repeat' split)<;>rfl
 .intro h
  unfold RS.take at h;split at h<;>assumption
def Pq(r:RS)(n:Nat):RZ r (r.comp n).1:=by
 refine⟨MF r n,?_,λh=>h.comp n⟩;intro h;unfold RS.comp at h;split at h<;>assumption
def ET{n:Int}(C:r.Ok)(h:(r.take n).1.f=0):0<=n/\((r.take n).2.size:Int)=n:=by
 obtain⟨E,J⟩:=C;unfold RS.take at h|-;split at h
 .rename_i A
  rw[Ax A];split at h;.simp at h
  .rename_i hn
   rw[At hn];split at h;.simp at h
   .rename_i hs
    rw[At hs];refine⟨I,?_⟩;simp only[iV];omega
 .rename_i A
  exact absurd h A
def yI(h:(r.comp n).1.f=0):(r.comp n).2<=n:=by
 unfold RS.comp at h|-;split at h
 .rename_i A
  rw[Ax A];generalize qh (r.t.data.toList.drop r.p)=t at*;dsimp only at h|-;split at h
  .rename_i h0
   rw[Ax h0];unfold Dx at h0;dsimp only;split at h0;.cases h0
   .rename_i C
    omega
  .rename_i h0
   rw[At h0];exact jB _
 .rename_i A
  exact absurd h A
def DD{f:mW TL->RS->Nat->ZB}(A:∀t r l,RZ r (f t r l).2.1):∀(ts:List (mW TL×Bool))(r:RS)(l:Nat),RZ r (oN f ts r l).2.1
 |[],r,l=> .refl r
 |t::ts,r,l=>by
  unfold oN;split;.exact(A _ _ _).trans (DD A ts _ _)
  .exact .refl r
def vo:∀(d:Nat)(t:mW TL)(r:RS)(l:Nat),RZ r (nQ d t r l).2.1
 |0,_,r,l=>DC _ _
 |d+1,.node a s,r,l=>by
  unfold nQ;split;.exact DC _ _
  .split
   .exact xL _ _
   .split
    .exact xL _ _
    .split
     .exact(Pq _ _).trans (xL _ _)
     .split
      .cases s with
       |nil=>exact DC _ _
       |cons t ts=>exact(Pq _ _).trans (DD (vo d) _ _ _)
      .exact DD (vo d) _ _ _
structure RdG(t:mW TL)(l:Nat)(y:ZB):Prop where
 count:y.1.count+y.2.2=l
 deep:y.1.deep<=t.deep
 right:y.1.all oh=u
 fits:rH y.1 t=u
def MH{f:mW TL->RS->Nat->ZB}(hk:∀t r l,RZ r (f t r l).2.1):∀(ts:List (mW TL×Bool))(r:RS)(l:Nat),r.Ok->(∀t,t∈ts->∀r l,r.Ok->(f t.1 r l).2.1.f=0->RdG t.1 l (f t.1 r l))->(oN f ts r l).2.1.f=0->
  mW.nH (oN f ts r l).1+(oN f ts r l).2.2=l/\mW.oI oh (oN f ts r l).1=u/\(∀(i:Nat)(x:mW IL),(oN f ts r l).1[i]? =O x->∃t:mW TL×Bool,ts[i]? =O t/\rH x t.1=u/\x.deep<=t.1.deep)/\
   (oN f ts r l).1.length<=ts.length/\(∀t:mW TL×Bool,ts[(oN f ts r l).1.length]? =O t->t.2=M)
 |[],r,l,_,_,_=>⟨by simp[oN,mW.nH],rfl,λi x h=>by simp[oN]at h,iP _,λt h=>by simp at h⟩
 |t::ts,r,l,ho,hg,h=>by
  unfold oN at h|-;split at h
  .rename_i hc
   rw[Ax hc];have J:=(DD hk ts _ _).f h;have g1:=hg t ny r l ho J;have⟨af,N,aa,ag,ae⟩:=MH hk ts _ _ ((hk t.1 r l).ok ho) (λt ht=>hg t (by simp[ht])) h;refine⟨?_,?_,?_,?_,?_⟩
   .simp only[mW.nH]
    have:=g1.count;omega
   .simp only[mW.oI,g1.right,N,Bool.and_self]
   .intro i x C
    cases i with
    |zero=>
     simp at C;subst C;exact⟨t,rfl,g1.fits,g1.deep⟩
    |succ i=>
     simp at C;have⟨E,e1,e2⟩:=aa i x C;exact⟨E,by simpa using e1,e2⟩
   .simp only[jD];omega
   .intro E A
    simp only[jD,jc]at A;exact ae E A
  .rename_i hc
   rw[At hc];refine⟨by simp[mW.nH],rfl,λi x h=>by simp at h,jB _,?_⟩;intro E A;simp at A;subst A;cases ht:t.2 with
   |false=>rfl
   |true=>exact absurd ⟨.inl ht,h⟩ hc
def I4{t:mW TL}:∀(s:List (mW IL))(i:Nat),(∀k x,s[k]? =O x->∃y,rq t (i+k)=O y/\rH x y=u)->sF s t i=u
 |[],_,_=>rfl
 |x::E,i,h=>by
  have⟨y,A,C⟩:=h 0 x rfl;simp only[sF];rw[mh]at A;rw[A];dsimp only;rw[C,lX];exact I4 E (i+1) λk x J=>by
   have⟨y,A,C⟩:=h (k+1) x (by simpa using J);exact⟨y,by rw[<-A];congr 1;omega,C⟩
def I5{α:Type}{D:Nat}:∀(s:List (mW α)),(∀x,x∈s->x.deep<=D)->mW.oH s<=D
 |[],_=>jB _
 |x::A,h=>by
  simp only[mW.oH];have C:=h x ny;have E:=I5 A λy hy=>h y (by simp[hy])
  omega
def yJ{α:Type}:∀{s:List (mW α)}{x:mW α},x∈s->x.deep<=mW.oH s
 |[],_,h=>by cases h
 |y::A,x,h=>by
  simp only[mW.oH];rcases l5.1 h with rfl|h
  .omega
  .have:=yJ h;omega
def R3(n:Nat)(hn:n<18446744073709551616):qw (zH n).reverse=(n,0):=by
 by_cases c:n=0;.subst c;rw[sD];rfl
 .have⟨l,b,E,J⟩:=YJ n I
  have A:=Ca 8 n (jy hn mX);have C:=Oh n;rw[E]at A C|-;rw[eb,List.reverse_singleton,List.singleton_append,qw,At (by simp at A|-;omega),At J];unfold qY;rw[List.reverse_cons,lU,C]
def MI(b:An):Dy b<18446744073709551616:=by
 unfold Dy;split
 .rename_i h
  have A:=qD b.data.toList;have C:b.data.toList.length=b.size:=ny;rw[C]at A;have E:(256:Nat)^b.size<=256^8:=kR mX h.2;omega
 .decide
def I6(a:IL)(t:mW TL)(h:a.list=M):(mW.node a []).count=1/\(mW.node a []).deep<=t.deep/\(mW.node a []).all oh=u:=by
 refine⟨by simp[mW.count,mW.nH],?_,?_⟩
 .have:=mW.Dj t
  simp only[mW.deep,mW.oH];omega
 .simp[mW.all,mW.oI,oh,qN,h]
def EU(a:IL)(t:mW TL)(h:qM t a 0=u):rH (.node a []) t=u:=by
 simp only[rH,sF,dq,h,Bool.and_self]
def UK(h:p:=by
 unfold ry at hk';rw[List.getElem?_mapIdx]at hk';obtain⟨t0,ht0,rfl⟩:=Option.map_eq_some_iff.1 hk';exact⟨ht0,rfl⟩):p:=h
def DF:∀(d:Nat)(t:mW TL)(r:RS)(l:Nat),t.all nW=u->t.deep<=d->r.Ok->(nQ d t r l).2.1.f=0->RdG t l (nQ d t r l)
 |0,t,r,l,_,hd,_,_=>absurd (mW.Dj t) I
 |d+1,.node a s,r,l,ay,hd,ho,h=>by
  have J:∀{r:RS},(r.fail 4).f≠0:=by
   intro r h;unfold RS.fail at h;split at h;.simp at h
   .rename_i h0;exact h0 h
  simp only[mW.all,je]at ay;obtain⟨aj,N⟩:=ay;have hk:∀k,a.kind=k->∀x m,qM (.node a s) x m=if k=1 then xY a x else if k=2 then zL a x else if k=3 then zM a x else if k=4 then BI a x m else if k=5 then zN a s.length x m else M:=λk h x m=>by unfold qM;rw[mW.oW,h];rfl
  unfold nW qd at aj;simp only[bb]at aj;have ak:mW.oH s<=d:=by simp only[mW.deep]at hd;omega
  unfold nQ at h|-;by_cases hl:l=0;.rw[Ax hl]at h;exact absurd h J
  .rw[At hl]at h|-
   by_cases aa:a.kind=1
   .rw[Ax aa]at h|-
    dsimp only at h|-;have au:=ET ho h;have⟨az,ae,af⟩:=I6 ⟨(zH (Dy (r.take a.size).2)).reverse,M⟩ (.node a s) rfl;refine⟨?_,ae,af,EU _ _ ?_⟩
    .show(Dz _).count+(l - 1)=l
     unfold Dz;omega
    .rw[hk 1 aa,Ax rfl]
     unfold xY okL;dsimp only;rw[R3 _ (MI _)];have hsz:(zH (Dy (r.take a.size).2)).length<=(r.take a.size).2.size:=by
      refine Ca _ _ ?_;unfold Dy;split
      .have aa:=qD (r.take a.size).2.data.toList
       have C:(r.take a.size).2.data.toList.length=(r.take a.size).2.size:=ny;rwa [C]at aa
      .exact Nat.pos_of_ne_zero ny
     simp only[lC,Bool.not_false,lX,je,bb];exact⟨rfl,I⟩
   .rw[At aa]at h|-
    by_cases C:a.kind=2
    .rw[Ax C]at h|-
     dsimp only at h|-;have au:=ET ho h;have⟨az,ae,af⟩:=I6 ⟨(r.take a.size).2.data.toList,M⟩ (.node a s) rfl;refine⟨?_,ae,af,EU _ _ ?_⟩
     .show(wy _).count+(l - 1)=l
      unfold wy;omega
     .rw[hk 2 C,At mX,Ax rfl]
      unfold zL;dsimp only;have C:(r.take a.size).2.data.toList.length=(r.take a.size).2.size:=ny;rw[C];simp only[Bool.not_false,lX,bb];exact au.2
    .rw[At C]at h|-
     by_cases av:a.kind=3
     .rw[Ax av]at h|-
      dsimp only at h|-;have hc:=yI ((xL _ _).f h);have au:=ET (ho.comp _) h;generalize (r.comp a.size.toNat).1.take (r.comp a.size.toNat).2=y at*;have⟨az,ae,af⟩:=I6 ⟨y.2.data.toList,M⟩ (.node a s) rfl;refine⟨?_,ae,af,EU _ _ ?_⟩
      .show(wy _).count+(l - 1)=l
       unfold wy;omega
      .rw[hk 3 av,At mX,At mX,Ax rfl]
       unfold zM;dsimp only;have C:y.2.data.toList.length=y.2.size:=ny;rw[C];simp only[Bool.not_false,lX,bb];omega
     .rw[At av]at h|-
      by_cases ag:a.kind=4
      .rw[Ax ag]at h|-
       cases s with
       |nil=>exact absurd h J
       |cons t ts=>
        dsimp only at h|-;have hn:ts=[]:=by
         have:(t::ts).length=1:=I;simpa using this
        subst hn;simp only[mW.oI,ea]at N;have aA:t.deep<=d:=by simp only[mW.oH]at ak;omega
        have aB:=(DD (vo d) _ _ _).f h;have hc:=yI aB;have⟨g1,g2,g3,g4,aD⟩:=MH (vo d) _ _ _ (ho.comp _) (λA ah r l ho ax=>by
         obtain⟨_,rfl⟩:=List.mem_replicate.1 ah;exact DF d t r l N aA ho ax) h
        generalize oN (nQ d) (jC (r.comp a.size.toNat).2 (t,u)) (r.comp a.size.toNat).1 (l - 1)=z at*;rw[List.length_replicate]at g4;refine⟨?_,?_,?_,?_⟩
        .show(tZ z.1).count+z.2.2=l
         simp only[tZ,mW.count];omega
        .show(tZ z.1).deep<=_
         simp only[tZ,mW.deep,mW.oH];have:=I5 (D:=t.deep) z.1 λx E=>by
          have⟨i,hi⟩:=cw E;have⟨A,e1,_,e3⟩:=g3 i x hi;obtain⟨_,rfl⟩:=List.mem_replicate.1 (jq e1);exact e3
         omega
        .show(tZ z.1).all oh=u
         simp only[tZ,mW.all,g2,ea];simp[oh,qN]
        .show rH (tZ z.1) _=u
         simp only[tZ,rH,je];refine⟨?_,I4 _ _ λk x E=> ?_⟩
         .rw[hk 4 ag,At mX,At mX,At mX,Ax rfl]
          unfold BI;simp only[lX,bb];omega
         .have⟨A,e1,e2,_⟩:=g3 k x E
          obtain⟨_,rfl⟩:=List.mem_replicate.1 (jq e1);refine⟨t,?_,e2⟩;unfold rq;rw[mW.oW,Ax ag];rfl
      .rw[At ag]at h|-
       have aI:a.kind=5:=I;have⟨g1,g2,g3,g4,aD⟩:=MH (vo d) _ _ _ ho (λA ah r l ho ax=>by
        have⟨i,hi⟩:=cw ah;unfold ry at hi;rw[List.getElem?_mapIdx]at hi;obtain⟨t0,ht0,rfl⟩:=Option.map_eq_some_iff.1 hi;have aF:=jq ht0;exact DF d t0 r l (wu N aF) (jk (yJ aF) ak) ho ax) h
       have ai:∀{k:Nat}{A:mW TL×Bool},(ry s a.tail)[k]? =O A->s[k]? =O A.1/\A.2=As ((k:Int)<s.length - a.tail):=by
        intro k A hk';exact UK
       have hlen:(ry s a.tail).length=s.length:=by simp[ry]
       generalize oN (nQ d) (ry s a.tail) r (l - 1)=z at*;rw[hlen]at g4;refine⟨?_,?_,?_,?_⟩
       .show(tZ z.1).count+z.2.2=l
        simp only[tZ,mW.count];omega
       .show(tZ z.1).deep<=_
        simp only[tZ,mW.deep];have:=I5 (D:=mW.oH s) z.1 λx E=>by
         have⟨i,hi⟩:=cw E;have⟨A,e1,_,e3⟩:=g3 i x hi;exact jk e3 (yJ (jq (ai e1).1))
        omega
       .show(tZ z.1).all oh=u
        simp only[tZ,mW.all,g2,ea];simp[oh,qN]
       .show rH (tZ z.1) _=u
        simp only[tZ,rH,je];refine⟨?_,I4 _ _ λk x E=> ?_⟩
        .rw[hk 5 aI,At mX,At mX,At mX,At mX,Ax rfl]
         unfold zN;simp only[lX,je,bb];refine⟨g4,?_⟩;rcases jL z.1.length s.length with hlt|aK
         .have aG:=ja (show z.1.length<(ry s a.tail).length by omega)
          have aJ:=aD _ aG;have aH:=(ai aG).2;rw[aJ]at aH;have aL:=of_decide_eq_false aH.symm;omega
         .omega
        .have⟨A,e1,e2,_⟩:=g3 k x E
         refine⟨A.1,?_,e2⟩;unfold rq;rw[mW.oW,At ag,mg];exact(ai e1).1
def Kj(t:mW TL)(s:An)(items:Int):Except Nat (mW IL×Nat):=
 if(nQ 8 t (RS.of s) (min items 1024).toNat).2.1.f≠0 then .error (nQ 8 t (RS.of s) (min items 1024).toNat).2.1.f.toNat
 else .ok ((nQ 8 t (RS.of s) (min items 1024).toNat).1,(nQ 8 t (RS.of s) (min items 1024).toNat).2.1.p)
def Gw(t:mW TL)(s:An)(items:Int):Except Nat (mW IL):=match Kj t s items with
 | .error er=> .error er
 | .ok y=>if y.2<s.size then .error 3 else .ok y.1
end
section
def vK(l:List AC)(aE:Except Nat (mW IL×Nat×Nat)):Except Nat (mW IL):=match aE with
 | .error er=> .error er
 | .ok y=>if y.2.1<l.length then .error 3 else .ok y.1
end
section
open Go.RowKit
structure Row where
 id:Nat
 name:An
 text:An
 ty:mW TL
structure JY where
 name:An
 val:mW IL
def zn(c:nU)(t:mW TL)(s:An):Except Nat (mW IL):=
 if c.fmt=1 then Gw t s c.oo else vD t (vK s.data.toList (uq (min c.dep 16).toNat s.data.toList (min c.oo 1024).toNat))
def ZC(c:nU)(rows:List Row)(f:tJ):Option Row:=
 if c.fmt=1 then if f.id=0 then rows.find? λr=>As (r.name=f.name)else U else if f.name.size=0 then rows.find? λr=>As (r.id=f.id)else U
def tN(c:nU)(rows:List Row)(f:tJ):Except Nat JY:=match ZC c rows f with
 |none=> .error 11
 |some r=>match zn c r.ty f.body with
  | .error er=> .error (if er=2 then 3 else er)
  | .ok x=> .ok ⟨r.name,x⟩
def tu(c:nU)(rows:List Row)(s:An)(mt:Option (Nat×MS)):Except Nat (JY×Nat)×Option (Nat×MS):=match oG c s mt with
 |(.error er,m2)=>(.error er,m2)
 |(.ok y,m2)=>match tN c rows y.1 with
  | .error er=>(.error er,m2)
  | .ok m=>(.ok (m,y.2),m2)
structure a3h where
 told:List JY
 at_:Nat
 err:Nat
 mt:Option (Nat×MS)
def uD(c:nU)(rows:List Row)(s:An):Nat->Nat->Option (Nat×MS)->a3h
 |0,p,mt=>⟨[],p,2,mt⟩
 |n+1,p,mt=>match tu c rows (s.extract p s.size) mt with
  |(.error er,m2)=>⟨[],p,er,m2⟩
  |(.ok y,m2)=>⟨y.1::(uD c rows s n (p+y.2) m2).told,(uD c rows s n (p+y.2) m2).at_,(uD c rows s n (p+y.2) m2).err,(uD c rows s n (p+y.2) m2).mt⟩
def EW(c:nU)(rows:List Row)(s:An)(mt:Option (Nat×MS)):nY (tu c rows s mt).2=nY mt:=by
 have h:=Ag c s mt;unfold tu;split;.rename_i e1;rw[e1]at h;exact h
 .rename_i e1
  rw[e1]at h;split<;>exact h
def a3i{rows:List Row}{f:tJ}{r:Row}(h:ZC c rows f=O r):r∈rows:=by
 unfold ZC at h;split at h
 .split at h
  .exact lT h
  .cases h
 .split at h
  .exact lT h
  .cases h
def I7{f:Nat->Int}:∀ n k:Nat,sV f n k=0->∀j,j<n->f (k+j)=0
 |0,k,_,j,A=>by omega
 |n+1,k,h,j,A=>by
  unfold sV at h;split at h
  .rename_i h0
   cases j with
   |zero=>exact h0
   |succ j=>rw[show k+(j+1)=k+1+j by omega];exact I7 n (k+1) h j I
  .rename_i h0;exact absurd h h0
def ZE{s:An}{m:Int}(h:qp s m most=.ok y):0<y.2/\y.2<=s.size/\y.1.body.size<=s.size/\y.1.id=0:=by
 unfold qp at h;split at h
 .rename_i h0
  cases h;have A:=I7 9 0 h0 7 mX;have A:=A;have C:=qZ mX A;simp only[bb]at C;refine⟨I,C,?_,rfl⟩;simp only[iV];omega
 .cases h
def Pt{l:List AC}{N:Nat}(h:nD l 0 0=(N,aq,0)):0<aq:=by
 cases aq with
 |zero=>
  have⟨_,_,C,_⟩:=rD h;have A:=QV N;rw[C]at A;simp at A
 |succ aq=>omega
def Pv{s:An}(h:(nT most s).e=0):0<(nT most s).n/\(nT most s).n<=s.size/\(nT most s).body.size<=s.size:=by
 unfold nT at*;split
 .rename_i h0
  rw[Ax h0]at h;generalize E:og most s.data.toList=q at*;obtain⟨n,k,e⟩:=q;dsimp only at*;subst h0;have J:=vW E;have N:=Pt J.1;split
  .rename_i A
   rw[Ax A]at h;cases h
  .rename_i A
   rw[At A]at h;split
   .rename_i C
    refine⟨by dsimp only;omega,by dsimp only;omega,?_⟩;dsimp only;simp only[iV];omega
   .rename_i C
    rw[At C]at h;cases h
 .rename_i h0
  rw[At h0]at h;exact absurd h h0
def UL{size:Nat}:∀(f:Nat)(r:RS)(l:List AC),r.Ok->l.length<=size->(uU size f r l).2.length<=size
 |0,r,l,_,hl=>hl
 |f+1,r,l,ho,hl=>by
  unfold uU;split
  .rename_i h
   have⟨_,_,A,C⟩:=xS ho hl h.1 h.2;exact UL f _ _ A C
  .exact hl
def ZF{s:An}{size:Nat}{l:List AC}(hs:s.size<=jd)(h:uV s size=.ok l):l.length<=size:=by
 unfold uV at h;dsimp only at h;have A:=UL (size:=size) (s.size+1) (RS.of s) [] (RS.Ok.of (by unfold jd at hs;omega)) (jB _);generalize uU size (s.size+1) (RS.of s) []=y at*;generalize (if y.2.length<size then y.1.fail 2 else y.1)=r at h;split at h;.cases h
 .cases h;exact A
def R4{s:An}{un:Int}{mt m2:Option (Nat×MS)}{l:List AC}(hs:s.size<=jd)(h:sK s un mt=(.ok l,m2)):(l.length:Int)<=un:=by
 unfold sK at h;generalize qG s.data.toList=q at*;obtain⟨n,k,e⟩:=q;dsimp only at h;split at h;.cases h
 .split at h
  .cases h
  .rename_i A
   split at h;.cases h
   .simp only[cT]at h
    have:=ZF (by simp only[iV];omega) h.1;omega
def yK(hc:nV c=u){s:An}(hs:s.size<=100000){mt:Option (Nat×MS)}(h:(oG c s mt).1=.ok y):0<y.2/\y.2<=s.size/\y.1.body.size<=100000:=by
 have⟨_,_,⟨E,J⟩,_,_⟩:=ql hc;unfold oG at h;split at h
 .have:=ZE h
  exact⟨this.1,this.2.1,I⟩
 .split at h
  .dsimp only at h
   unfold wo at h;split at h;.cases h
   .rename_i h0
    cases h;have:=Pv (by simpa using h0);exact⟨this.1,this.2.1,by dsimp only;omega⟩
  .unfold qA at h
   split at h;.cases h
   .rename_i h0
    have A:=Pv (by simpa using h0);split at h;.cases h
    .rename_i l m2 C
     cases h;have N:=R4 yF C;exact⟨A.1,A.2.1,by show((⟨l.toArray⟩:An)).size<=100000;have:((⟨l.toArray⟩:An)).size=l.length:=lh;omega⟩
def sN(D:Nat->Bool)(vs:Nat->iQ):List kC->Nat->lY->lY
 |[],_,a=>a
 |o::l,k,a=>sN D vs l (k+1) (if D k then a.put o.dst (vs k)else a)
def zO(vs:Nat->iQ):List kC->Nat->lY->lY
 |[],_,a=>a
 |o::l,k,a=>zO vs l (k+1) (a.put o.dst (vs k))
def KZ{D:Nat->Bool}{vs:Nat->iQ}:∀(l:List kC)(k:Nat)(a:lY),(∀j,k<=j->j<k+l.length->D j=u)->sN D vs l k a=zO vs l k a
 |[],_,_,_=>rfl
 |o::l,k,a,h=>by
  rw[sN,zO,Ax (h k (iP _) ny)];exact KZ l (k+1) _ λj A C=>h j I nk
def I8{D:Nat->Bool}{vs:Nat->iQ}:∀(l:List kC)(k:Nat)(a:lY),(∀j,k<=j->j<k+l.length->D j=M)->sN D vs l k a=a
 |[],_,_,_=>rfl
 |o::l,k,a,h=>by
  rw[sN,h k (iP _) ny];exact I8 l (k+1) _ λj A C=>h j I nk
def FR{D D':Nat->Bool}{vs vs':Nat->iQ}:∀(l:List kC)(k:Nat)(a:lY),(∀j,k<=j->D j=D' j/\vs j=vs' j)->sN D vs l k a=sN D' vs' l k a
 |[],_,_,_=>rfl
 |o::l,k,a,h=>by
  rw[sN,sN,(h k (iP _)).1,(h k (iP _)).2];exact FR l (k+1) _ λj A=>h j I
def uO:List kC->Bool
 |[]=>u
 |o::l=>(match o.dst with|some d=>l.all λp=>p.dst !=O d|none=>u)&&uO l
def Cu{D:Nat->Bool}{vs:Nat->iQ}{x:Option Tmp}{v:iQ}:∀(l:List kC)(k:Nat)(a:lY),(∀d,x=O d->∀p∈l,p.dst≠O d)->sN D vs l k (a.put x v)=(sN D vs l k a).put x v
 |[],_,_,_=>rfl
 |o::l,k,a,h=>by
  rw[sN,sN];split;.rw[<-Cu l (k+1) _ (λd hd p hp=>h d hd p (by simp[hp])),Act.put_comm a v (vs k) (λd hd=>h d hd o ny)]
  .exact Cu l (k+1) _ λd hd p hp=>h d hd p (by simp[hp])
def Au(h:uO (o::l)=u):(∀d,o.dst=O d->∀p∈l,p.dst≠O d)/\uO l=u:=by
 simp only[uO,je]at h;refine⟨λd hd p hp=> ?_,h.2⟩;have A:=h.1;rw[hd]at A;simpa using kz.1 A p hp
def zR(D:Nat->Bool)(i:Nat):Nat->Bool:=λj=>if j=i then u else D j
def zS(vs:Nat->iQ)(i:Nat)(v:iQ):Nat->iQ:=λj=>if j=i then v else vs j
def K3{D:Nat->Bool}{vs:Nat->iQ}{i:Nat}{o:kC}{v:iQ}(A:D i=M):∀(l:List kC)(k:Nat)(a:lY),uO l=u->k<=i->l[i - k]? =O o->(sN D vs l k a).put o.dst v=sN (zR D i) (zS vs i v) l k a
 |[],k,a,_,_,ho=>by simp at ho
 |p::l,k,a,hd,hk,ho=>by
  have⟨J,N⟩:=Au hd;by_cases C:i=k
  .subst C
   simp at ho;subst ho;rw[sN,sN,A];simp only[kM,cU];rw[show zR D i i=u from Ax rfl,show zS vs i v i=v from Ax rfl];simp only[cH];rw[Cu l (i+1) a J,FR (D':=zR D i) (vs':=zS vs i v) l (i+1) a λj aa=>⟨(At I).symm,(At I).symm⟩]
  .have E:l[i -(k+1)]? =O o:=by
    rw[show i - k=(i -(k+1))+1 by omega]at ho;simpa using ho
   rw[sN,sN,show zR D i k=D k from At I,show zS vs i v k=vs k from At I];exact K3 A l (k+1) _ N I E
def slotL(vs:Nat->iQ):List kC->Nat->Tmp->iQ->iQ
 |[],_,_,v=>v
 |o::l,k,t,v=>if o.dst=O t then vs k else slotL vs l (k+1) t v
def K4{D:Nat->Bool}{vs:Nat->iQ}{t:Tmp}:∀(l:List kC)(k:Nat)(a:lY),(∀p∈l,p.dst≠O t)->(sN D vs l k a).tmps.getD t jw=a.tmps.getD t jw
 |[],_,_,_=>rfl
 |o::l,k,a,h=>by
  rw[sN,K4 l (k+1) _ λp hp=>h p (by simp[hp])];split
  .have:=Act.eval_put (a:=a) (dst:=o.dst) (v:=vs k) (x:=.tmp t) λd hd e=>by cases e;exact h o ny hd
   exact this
  .rfl
def Pw{D:Nat->Bool}{vs:Nat->iQ}{t:Tmp}:∀(l:List kC)(k:Nat)(a:lY),uO l=u->t<a.tmps.size->(∀j o,l[j]? =O o->o.dst=O t->D (k+j)=u)->
  (sN D vs l k a).tmps.getD t jw=slotL vs l k t (a.tmps.getD t jw)
 |[],_,_,_,_,_=>rfl
 |o::l,k,a,hd,ht,h=>by
  have⟨J,N⟩:=Au hd;rw[sN,slotL];by_cases A:o.dst=O t
  .rw[Ax A,K4 l (k+1) _ λp hp=>J t A p hp,show D k=u from h 0 o rfl A]
   simp only[cH];rw[A];simp[l7,ht]
  .have hput:(if D k then a.put o.dst (vs k)else a).tmps.size=a.tmps.size:=by
    split;.unfold l7;split<;>simp
    .rfl
   have hget:(if D k then a.put o.dst (vs k)else a).tmps.getD t jw=a.tmps.getD t jw:=by
    cases D k;.rfl
    .exact Act.eval_put (a:=a) (dst:=o.dst) (v:=vs k) (x:=.tmp t) λd C e=>by cases e;exact A C
   rw[At A,Pw l (k+1) _ N (by rw[hput];exact ht) λj p hp E=>by have:=h (j+1) p (by simpa using hp) E;rwa [show k+(j+1)=k+1+j by omega]at this,hget]
def R5(ops:Array kC)(o:kC)(j:Nat):Bool:=match (ops[j]?).bind (·.dst)with|some d=>(o.looksAt ops).contains d|none=>M
section
variable {P:j6}{ops:Array kC}
def Oper.a6l{aq C:lY->K->Prop}{Q':Exit->lY->K->Prop}(h:∀a w,aq a w->C a w)(E:∀e a w,Q e a w->Q' e a w)(hL:LetsOut Q->LetsOut Q')(A:o.wp P a w aq Q):o.wp P a w C Q':=by
 unfold Oper.wp at*;generalize (execOp a.eval o).run P w=r at*;cases r with
 |ok n w'=>
  cases n<;>simp only[Oper.upon]at A|-;case value ar=>exact h _ _ A
  case skip=>exact h _ _ A
  case enter f args=>
   refine A.mono λe J he=> ?_
   cases e<;>simp only at he|-;.exact h _ _ he
   .exact E _ _ _ he
   .exact hL he
  case defer d=>exact h _ _ A
  case row r args=>exact A.mono λv J he=>h _ _ he
 |halt x w'=>
  cases x<;>simp only[Oper.upon]at A|-;case panic v=>exact E _ _ _ A
end
def cB(f:Func):Code:=match f.body with
 |some c=>c
 |none=> .skip
def cL:Code->Code
 | .seq a _=>a
 | .cond _ a _=>a
 | .block _ a=>a
 | .loop a=>a
 | .rangeFunc _ _ a _=>a
 | .scope a=>a
 |a=>a
def cR:Code->Code
 | .seq _ a=>a
 | .cond _ _ a=>a
 | .rangeFunc _ _ _ a=>a
 |a=>a
def cO:Code->List kC
 | .region _ o _=>o.toList
 |_=>[]
def a4Y(ops:Array kC)(n sz:Nat):Bool:=
 Region.noSelect ops&&uO (ops.toList.take n)&&As (n<=ops.size)&&(kG n).all λi=>match ops[i]? with
  |none=>M
  |some o=>(o.after.all λe=> !lD .any e||As (e.on<i))&&((o.looksAt ops).all λt=>As (t<sz))&&(kG n).all λj=> !R5 ops o j||Region.waitsFor .any ops i j
section
variable {P:j6}{ops:Array kC}
def DI(P:j6)(ops:Array kC)(n:Nat)(a0:lY)(am:(Nat->Bool)->(Nat->iQ)->K->Prop)(i:Nat)(o:kC):Prop:=
 ∀(D:Nat->Bool)(vs:Nat->iQ)(a:lY)(w:K)(aq:lY->K->Prop),am D vs w->D i=M->(∀j,j<n->Region.waitsFor .any ops i j=u->D j=u)->(∀j,j<n->Region.waitsFor .any ops j i=u->D j=M)->
  (∀t∈o.looksAt ops,a.tmps.getD t jw=slotL vs (ops.toList.take n) 0 t (a0.tmps.getD t jw))->
  (∀v A w',A=a.put o.dst v->am (zR D i) (zS vs i v) w'->aq A w')->
  if lG o (yielded ops a.tmps)=u then o.wp P a w aq (λ_ _ _=>False)else aq (a.put o.dst jw) w
def nJ{id:Nat}(n sz:Nat)(am:(Nat->Bool)->(Nat->iQ)->K->Prop)(aG:P.follows .mixedOrders=u)(hsz:a0.tmps.size=sz)(hB:a4Y l.toArray n sz=u)(ak:n=l.length\/(Region.sinkB .any l.toArray n&&Region.chainB .any l.toArray n&&As (n<l.length))=u)(bG:Region.seqB .any l.toArray (l.length - n) n (ku n u++ku (l.length - n) M)=u)(hI:∀vs,am (λ_=>M) vs {w with drawn:=w.drawn+1})(aW:∀i o,i<n->l[i]? =O o->DI P l.toArray n a0 am i o)(bH:∀(D:Nat->Bool) (vs:Nat->iQ) (w':K),(∀j,j<n->D j=u)->am D vs w'->mq P l.toArray Q (l.drop n) (zO vs (l.take n) 0 a0) w'):
  (jZ id l.toArray u).wp P Q a0 w:=by
 simp only[a4Y,je,bb]at hB;obtain⟨⟨⟨bI,aQ⟩,aX⟩,au⟩:=hB;have bJ:n<=l.length:=by simpa using aX
 have ai:uO (l.take n)=u:=by simpa using aQ
 refine wp_region_any aG ?_
 have key:∀(f:Nat)(A:Array Bool)(a:lY)(w:K)(vs:Nat->iQ),HeadInv .any l.toArray n A->((kG n).filter λj=> !A.getD j M).length=f->
   a=sN (λj=>A.getD j M) vs (l.take n) 0 a0->am (λj=>A.getD j M) vs w->wpAny P .any l.toArray Q (f+(l.length - n)) A a w:=by
  intro f;induction f with
  |zero=>
   intro A a w vs inv aH aI av;have hdone:∀j,j<n->A.getD j M=u:=λj C=>by
    have h0:=cV aH;rw[List.filter_eq_nil_iff]at h0;have:=h0 j (lu.2 C);simpa using this
   have aJ:A=ku n u++ku (l.length - n) M:=by
    have aY:=inv.size;simp at aY;apply Array.ext;.simp;omega
    .intro j aa ae
     by_cases C:j<n
     .have:=hdone j C
      rw[Array.getElem_append_left (by simpa using C)];simpa [aa]using this
     .have:=inv.tail j I nk
      rw[Array.getElem_append_right nk];simpa [aa]using this
   have aK:a=zO vs (l.take n) 0 a0:=by
    rw[aI];exact KZ _ _ _ λj _ C=>hdone j (by simp at C;omega)
   rw[mg];have:=wpAny_of_seq (P:=P) (md:=.any) (ops:=l.toArray) (Q':=Q) (l.drop n) n A a w (λj=>by simp[dj]) (by rw[jP,aJ];exact bG) (by
    rw[aK];exact bH _ vs w hdone av)
   rwa [jP]at this
  |succ f bK=>
   intro A a w vs inv aH aI av;have aN:∃j,j<n/\A.getD j M=M:=by
    have h0:(kG n).filter (λj=> !A.getD j M)≠[]:=by intro h;rw[h]at aH;simp at aH
    have⟨j,C⟩:=List.exists_mem_of_ne_nil _ h0;rw[List.mem_filter,lu]at C;exact⟨j,C.1,by simpa using C.2⟩
   have hin:∀j,j<n->j<A.size:=λj C=>by rw[inv.size];simp;omega
   rw[show f+1+(l.length - n)=(f+(l.length - n))+1 by omega];have ax:kI .any l.toArray A≠[]:=by
    have:∃j,(j<n/\A.getD j M=M)/\∀k,k<j->¬(k<n/\A.getD k M=M):=by
     obtain⟨j,C⟩:=aN;induction j using Nat.strongRecOn with
     |_ j aZ=>
      rcases Classical.em (∃k,k<j/\(k<n/\A.getD k M=M))with⟨k,hk,hk2⟩|h
      .exact aZ k hk hk2
      .exact⟨j,C,λk hk hk2=>h ⟨k,hk,hk2⟩⟩
    obtain⟨j,⟨J,ay⟩,aR⟩:=this;have bg:j<l.length:=I;have af:l.toArray[j]? =O l[j]:=by simp[bg]
    have aa:=kz.1 au j (lu.2 J);rw[af]at aa;simp only[je]at aa;intro h0;have aG:j∈kI .any l.toArray A:=by
     rw[mem_ready];refine⟨getD_in (hin j J) ay,l[j],af,λe he hb=> ?_⟩;have ae:=Array.all_eq_true_iff_forall_mem.1 aa.1.1 e he;rw[hb]at ae;simp at ae;cases hl:A.getD e.on M with
     |true=>rfl
     |false=>exact absurd ⟨I,hl⟩ (aR e.on ae)
    rw[h0]at aG;cases aG
   refine⟨λh0=>absurd h0 ax,λi hi=> ?_⟩;have bq:=mem_ready.1 hi;obtain⟨aj,oi,ah,aL⟩:=bq;have bO:i<l.length:=by have:=(jE.1 ah).1;simpa using this
   have E:i<n:=by
    rcases jL i n with h|h
    .exact h
    .rcases ak with ak|ak
     .omega
     .simp only[je,bb]at ak
      obtain⟨⟨hs,hc⟩,hn⟩:=ak;obtain⟨j,J,ay⟩:=aN;exact absurd hi (tail_waits hs hc (by simpa using hn) inv _ j rfl J (getD_in (hin j J) ay) i h)
   have az:l[i]? =O oi:=by simpa using ah
   have aa:=kz.1 au i (lu.2 E);rw[ah]at aa;simp only[je]at aa;obtain⟨⟨_,aA⟩,aB⟩:=aa;have aO:∀j,Region.waitsFor .any l.toArray i j=u->A.getD j M=u:=λj ag=>by
    have⟨bL,bu,e,he,hb,aD⟩:=Region.waitsFor_spec ag;have:bL=oi:=kU (bu.symm.trans ah);subst this;rw[<-aD];exact aL e he hb
   have hdone:∀j,j<n->R5 l.toArray oi j=u->A.getD j M=u:=λj C bz=>by
    have ae:=kz.1 aB j (lu.2 C);rw[bz]at ae;simp only[Bool.not_true,Bool.false_or]at ae;exact aO j ae
   have aM:∀t∈oi.looksAt l.toArray,a.tmps.getD t jw=slotL vs (l.toArray.toList.take n) 0 t (a0.tmps.getD t jw):=λt ht=>by
    have ae:=kz.1 aA t ht;rw[aI];exact Pw (l.take n) 0 a0 ai (by rw[hsz];simpa using ae) λj o C aS=>by
     rw[mg];have J:j<n:=by have:=(jU.1 C).1;simp at this;omega
     have af:l.toArray[j]? =O o:=by rw[lM,Ax J]at C;simpa using C
     refine hdone j J ?_;unfold R5;rw[af];show(match o.dst with|some d=>(oi.looksAt l.toArray).contains d|none=>M)=u;rw[aS];simpa using ht
   have aF:∀j,(A.setIfInBounds i u).getD j M=if j=i then u else A.getD j M:=λj=>by
    by_cases h:j=i;.subst h;simp[hin j E]
    .rw[At h,getD_set_ne M (mf h)]
   have aP:(λj=>(A.setIfInBounds i u).getD j M)=zR (λj=>A.getD j M) i:=funext λj=>by rw[aF];rfl
   have N:=aW i oi E az (λj=>A.getD j M) vs a w (wpAny P .any l.toArray Q (f+(l.length - n)) (A.setIfInBounds i u)) av (getD_both aj) (λj _ ag=>aO j ag) (λj C ag=>by
    cases hl:A.getD j M with
    |false=>rfl
    |true=>
     have⟨bA,af,e,he,hb,aD⟩:=Region.waitsFor_spec ag;have:=inv.closed j bA af hl e he hb;rw[aD,getD_both aj]at this;cases this) aM (λv bM w' bB bC=>by
    refine bK (A.setIfInBounds i u) bM w' (zS vs i v) (inv.set hi E) ?_ ?_ ?_
    .have bD:((kG n).filter λj=> !A.getD j M).length=((kG n).filter λj=> !(A.setIfInBounds i u).getD j M).length+1:=by
      have aU:(λj=> !(A.setIfInBounds i u).getD j M)=λj=> !(if j=i then u else A.getD j M):=funext λj=>by rw[aF]
      rw[aU];have bE:∀m,i<m->((kG m).filter λj=> !A.getD j M).length=((kG m).filter λj=> !(if j=i then u else A.getD j M)).length+1:=by
       intro m;induction m with
       |zero=>intro h;omega
       |succ m bF=>
        intro bP;rw[List.range_succ,List.filter_append,List.filter_append,jo,jo];by_cases h:i=m
        .subst h
         have e1:(kG i).filter (λj=> !A.getD j M)=(kG i).filter (λj=> !(if j=i then u else A.getD j M)):=by
          refine List.filter_congr λj C=> ?_
          have:=lu.1 C;rw[At I]
         rw[e1];have:A.getD i M=M:=getD_both aj;simp only[List.filter_cons,List.filter_nil,this,cH];simp
        .rw[bF I]
         simp only[List.filter_cons,List.filter_nil,At (mf h)];omega
      exact bE n E
     omega
    .rw[bB,aI]
     have bN:=K3 (D:=λj=>A.getD j M) (vs:=vs) (i:=i) (o:=oi) (v:=v) (getD_both aj) (l.take n) 0 a0 ai (jB _) (by rw[Nat.sub_zero,lM,Ax E];exact az);rw[bN,aP]
    .rw[aP];exact bC)
   unfold wpOp;rw[ah];show if lG oi (yielded l.toArray a.tmps)=u then _ else _
   split
   .rename_i ag
    rw[Ax ag]at N;exact .inl (Oper.a6l (λ_ _ h=>h) (λ_ _ _ h=>h.elim) (λh=>by obtain⟨_,_,h⟩:=h;exact h.elim) N)
   .rename_i ag
    rw[At ag]at N;exact N
 have aV:HeadInv .any l.toArray n (ku l.toArray.size M):=
  ⟨ny,λj bA _ hl=>(by rw[getD_replicate_false]at hl;cases hl),λt _ ht=>getD_in (by simpa using ht) (getD_replicate_false _ _)⟩
 have:=key n (ku l.toArray.size M) a0 {w with drawn:=w.drawn+1} (λ_=>jw) aV (by
  rw[List.filter_eq_self.2 (λj _=>by rw[getD_replicate_false];rfl),List.length_range]) (by
  rw[I8 _ _ _ λj _ _=>getD_replicate_false _ _]) (by
  rw[show(λj=>(ku l.toArray.size M).getD j M)=λ_=>M from funext λj=>getD_replicate_false _ _];exact hI _)
 rw[show n+(l.length - n)=l.length by omega]at this;simpa using this
def uP{x:Array iQ}{b:Bool}(h:x.getD k jw=mH b):x[k]? =O (mH b):=by
 rw[jJ]at h;cases A:x[k]? with
 |none=>rw[A]at h;cases h
 |some v=>rw[A]at h;exact congrArg O h
def nL(D:Nat->Bool)(i:Nat):zR D i i=u:=Ax rfl
def nz(D:Nat->Bool){i:Nat}(h:j≠i):zR D i j=D j:=At h
def o6(vs:Nat->iQ)(i:Nat)(v:iQ):zS vs i v i=v:=Ax rfl
def nM(vs:Nat->iQ){i:Nat}(v:iQ)(h:j≠i):zS vs i v j=vs j:=At h
end
def qU(P:j6)(A:Array kC)(n:Nat)(a0:lY)(am:(Nat->Bool)->(Nat->iQ)->K->Prop):Nat->List kC->Prop
 |_,[]=>True
 |k,o::l=>DI P A n a0 am k o/\qU P A n a0 am (k+1) l
def UM{P:j6}{A:Array kC}{n:Nat}{a0:lY}{am:(Nat->Bool)->(Nat->iQ)->K->Prop}:∀{l:List kC}{k i:Nat}{o:kC},qU P A n a0 am k l->l[i]? =O o->DI P A n a0 am (k+i) o
 |[],_,_,_,_,h=>by simp at h
 |_::_,k,0,_,h,e=>by simp at e;subst e;exact h.1
 |_::l,k,i+1,o,h,e=>by
  have:=UM (l:=l) (k:=k+1) (i:=i) (o:=o) h.2 (by simpa using e);rwa [show k+1+i=k+(i+1)by omega]at this
def rR{am:(Nat->Bool)->(Nat->iQ)->K->Prop}(h:∀A,A=l.toArray->qU P A n a0 am 0 (l.take n)):∀i o,i<n->l[i]? =O o->DI P l.toArray n a0 am i o:=λi o hi ho=>by
 have:=UM (h _ rfl) (i:=i) (o:=o) (by rw[cj hi];exact ho);rwa [mg]at this
def fe{i:Nat}(A:∀t∈o.looksAt l.toArray,a.tmps.getD t jw=slotL vs (l.toArray.toList.take n) 0 t (a0.tmps.getD t jw))(hI:∀j,S j=u->D j=u->vs j=ab j)(C:∀j,j<n->Region.waitsFor .any l.toArray i j=u->D j=u)(t j:Nat)(E:t∈o.looksAt l.toArray:=by decide)(J:S j=u:=by rfl)(N:j<n:=by decide)(aa:Region.waitsFor .any l.toArray i j=u:=by kernel_rfl)(ae:slotL vs (l.toArray.toList.take n) 0 t (a0.tmps.getD t jw)=vs j:=by rfl):a.tmps.getD t jw=ab j:=(A t E).trans (ae.trans (hI j J (C j N aa)))
def Px{vs ab:Nat->iQ}:∀(l:List kC)(k:Nat)(a:lY),(∀j,j<k+l.length->vs j=ab j)->zO vs l k a=zO ab l k a
 |[],_,_,_=>rfl
 |o::l,k,a,h=>by
  rw[zO,zO,h k ny,Px l (k+1) _ λj A=>h j nk]
def oD(hI:∀j,S j=u->D j=u->vs j=ab j)(A:∀j,j<n->D j=u):zO vs (l.take n) 0 a=zO (λj=>if S j=u then ab j else vs j) (l.take n) 0 a:=
 Px _ _ _ λj C=>by
  rw[mg,jQ]at C;by_cases h:S j=u;.rw[Ax h];exact hI j h (A j I)
  .rw[At h]
def uj{i:Nat}(h:∀j,S j=u->D j=u->vs j=ab j):∀j,S j=u->zR D i j=u->zS vs i (ab i) j=ab j:=by
 intro j hs A;by_cases e:j=i;.subst e;exact o6 _ _ _
 .rw[nM _ _ e];rw[nz _ e]at A;exact h j hs A
def I9{i:Nat}{v:iQ}(hi:S i=M)(h:∀j,S j=u->D j=u->vs j=ab j):∀j,S j=u->zR D i j=u->zS vs i v j=ab j:=by
 intro j hs A;have e:j≠i:=by rintro rfl;rw[hs]at hi;cases hi
 rw[nM _ _ e];rw[nz _ e]at A;exact h j hs A
structure Xc where
 id:Nat
 name:An
 body:An
 n:Nat
 e:Nat
def Xc.v(y:Xc):iQ:=mJ #[mI #[V mP y.id,H y.name,H y.body],V X y.n,V X y.e]
def nxv(aE:Except Nat (tJ×Nat)):Xc:=match aE with
 | .error er=>⟨0,⟨#[]⟩,⟨#[]⟩,0,er⟩
 | .ok y=>⟨y.1.id,y.1.name,y.1.body,y.2,0⟩
def K5{aE:Except Nat (tJ×Nat)×Option (Nat×MS)}{mt:Option (Nat×MS)}{e:kV}:Ad aE mt w e w'<->w.grownBy w' (nY mt)/\o9 w' aE.2/\e=mK (nxv aE.1).v:=by
 unfold Ad;obtain⟨A,m2⟩:=aE;cases A with
 |error er=>exact Iff.rfl
 |ok y=>exact Iff.rfl
structure Py(g:Nat)(c:nU)(w0:K)(mt m2:Option (Nat×MS))(y:Xc)(d8 d13 d14:Bool)(v:iQ)(w:K):Prop where
 wn:KW g c w0 mt w
 mm:o9 w (if d8=u then m2 else mt)
 blk:d13=u->∃b,v=mG (O (Z b 0 U))/\g+1<b/\mY w b (if d14=u then#[V mP y.id,H y.name,H y.body]else#[V mP 0,H ⟨#[]⟩,H ⟨#[]⟩]) pR
section
variable {g:Nat}{c:nU}{w0 w w':K}{mt m2:Option (Nat×MS)}{y:Xc}{d8 d13 d14:Bool}{v:iQ}
def Py.below(h:Py g c w0 mt m2 y d8 d13 d14 v w)(hb:iR w.heap.size w w'):Py g c w0 mt m2 y d8 d13 d14 v w':=
 ⟨h.wn.below hb,h.mm.grown hb,λhd=>by obtain⟨b,C,E,A⟩:=h.blk hd;exact⟨b,C,E,a7 hb A A.lt⟩⟩
def Py.call(h:Py g c w0 mt m2 y M d13 d14 v w)(hg:w.grownBy w' (nY mt))(A:o9 w' m2)(hlt:∀x,nY mt=O x->x<g):Py g c w0 mt m2 y u d13 d14 v w':=
 ⟨h.wn.grow hg hlt,A,λhd=>by obtain⟨b,C,E,J⟩:=h.blk hd;exact⟨b,C,E,oV J hg λx N=>by have:=hlt x N;omega⟩⟩
def Py.made(h:Py g c w0 mt m2 y d8 M M v w):Py g c w0 mt m2 y d8 u M (mG (O (Z w.heap.size 0 U))) (w.alloc (mM #[V mP 0,H ⟨#[]⟩,H ⟨#[]⟩] pR)):=by
 have hb:=(iT w.heap.size w).alloc (iP _) (mM #[V mP 0,H ⟨#[]⟩,H ⟨#[]⟩] pR);exact⟨h.wn.below hb,h.mm.grown hb,λ_=>⟨w.heap.size,rfl,h.wn.res.lt,mY.new w _ _⟩⟩
def Py.put(h:Py g c w0 mt m2 y u u M (mG (O (Z b 0 U))) w)(E:w0.heap.size<=g)(hlt:∀x,nY m2=O x->x<g)(A:g+1<b)(hB:mY w b #[V mP 0,H ⟨#[]⟩,H ⟨#[]⟩] pR):Py g c w0 mt m2 y u u u (mG (O (Z b 0 U))) (q8 w b (V mP y.id) (H y.name) (H y.body)):=
 have C:=a2Q (a:=V mP y.id) (b:=H y.name) (d:=H y.body) h.wn hB A E hlt h.mm
 ⟨C.wn,C.mm,λ_=>⟨b,rfl,A,C.fr⟩⟩
end
noncomputable def Ja:List kC:=cO (cL (cR (cR (cB Tryz.f63))))
section
variable (g:Nat)(c:nU)(fn:FuncId)(row:iQ)(w0:K)(mt m2:Option (Nat×MS))(s:An)(y:Xc)
def uE:Nat->iQ
 |0=> mI Af
 |1=> mG (O (Z g 0 U))
 |2=> V X c.fmt
 |3=>row
 |4=> .func (.func fn) #[] #[]
 |5=> mI #[V X c.fmt,V mQ c.mag,V X c.oL,V X c.pq,V X c.dep,V X c.oo]
 |6=>KI mt
 |7=> H s
 |8=>y.v
 |9=>y.v
 |10=> mI #[V mP y.id,H y.name,H y.body]
 |11=> V X y.n
 |12=> V X y.e
 |15=> V X y.n
 |16=> V X y.e
 |_=>jw
structure a6m(D:Nat->Bool)(vs:Nat->iQ)(w:K):Prop where
 nP:Py g c w0 mt m2 y (D 8) (D 13) (D 14) (vs 13) w
 val:∀j,(j !=13)=u->D j=u->vs j=uE g c fn row mt s y j
variable {g c fn row w0 mt m2 s y}
def a3j(h:a6m g c fn row w0 mt m2 s y D vs w){i:Nat}(hi:i≠8/\i≠13/\i≠14)(A:Py g c w0 mt m2 y (D 8) (D 13) (D 14) (vs 13) w->Py g c w0 mt m2 y (D 8) (D 13) (D 14) (vs 13) w'):a6m g c fn row w0 mt m2 s y (zR D i) (zS vs i (uE g c fn row mt s y i)) w':=by
 refine⟨?_,uj h.val⟩;rw[nz D (show 8≠i by omega)];rw[nz D (show 13≠i by omega)];rw[nz D (show 14≠i by omega)];rw[nM vs (uE g c fn row mt s y i) (show 13≠i by omega)];exact A h.nP
def qf(h:p:=by
 simp only[jm,jI,zO,l7];exact q):p:=h
def qg(h:p:=by
 exact λvs=>⟨hI0 vs,λj _ h=>by cases h⟩):p:=h
def a6n{id:Nat}(ht3:a0.tmps.getD 3 jw=mG (O (Z g 0 U)))(hrow:∀W,(jX 142 (mI Af) (V X c.fmt)).run iN W=.ok row W)(MB:∀W,(Instr.field 141 row 2).run iN W=.ok (.func (.func fn) #[] #[]) W)(ht1:a0.tmps.getD 1 jw=KI mt)(ht2:a0.tmps.getD 2 jw=H s)(hlt:∀x,nY mt=O x->x<g)(hcf:∀a b d W,lJ iN (callFunc fn #[a,b,d]) W=.ok (.enter fn #[a,b,d]) W)(hcall:∀W,o9 W mt->iW iN fn #[mI #[V X c.fmt,V mQ c.mag,V X c.oL,V X c.pq,V X c.dep,V X c.oo],KI mt,H s] W λe ai=>W.grownBy ai (nY mt)/\o9 ai m2/\e=mK y.v)(hm2:nY m2=nY mt)(hw0:w0.heap.size<=g)(hsz:a0.tmps.size=35)(hI0:∀vs:Nat->iQ,(λw=>Py g c w0 mt m2 y M M M (vs 13) w) ws.drew)(aH:∀(vs:Nat->iQ) (w:K),Py g c w0 mt m2 y u u u (vs 13) w->Q .normal {a0 with tmps:=vG a0.tmps [(17,mI Af),(18,mG (O (Z g 0 U))),(19,V X c.fmt),(20,row),(21,.func (.func fn) #[] #[]),(22,mI #[V X c.fmt,V mQ c.mag,V X c.oL,V X c.pq,V X c.dep,V X c.oo]),(23,KI mt),(24,H s),(25,y.v),(16,y.v),(26,mI #[V mP y.id,H y.name,H y.body]),(27,V X y.n),(28,V X y.e),(9,vs 13),(10,V X y.n),(11,V X y.e)]} w):
  (jZ id Ja.toArray u).wp iN Q a0 ws:=by
 refine nJ 17 35 (a6m g c fn row w0 mt m2 s y) mZ hsz mZ (.inl rfl) mZ ?_ ?_ ?_;.exact qg
 .refine rR λA aI=> ?_
  replace ht3:=Y ht3;replace hrow:=Y hrow;replace MB:=Y MB;replace ht1:=Y ht1;replace ht2:=Y ht2;replace hlt:=Y hlt;replace hcf:=Y hcf;replace hcall:=Y hcall;replace hm2:=Y hm2;replace hw0:=Y hw0;dsimp+instances only[Ja,cO,cL,cR,cB,Tryz.f63];simp only[jm,jI,qU];refine⟨?_,?_,?_,?_,?_,?_,?_,?_,?_,?_,?_,?_,?_,?_,?_,?_,?_,trivial⟩<;>(intro D vs a w aq hI hd E ag C aa;subst aI;dsimp+instances only[Ja,cO,cL,cR,cB,Tryz.f63])
  .rw[Ax (by rfl)]
   have aJ:=Di w;go_simp;refine pG aJ λaK hb=> ?_
   exact aa (uE g c fn row mt s y 0) _ _ rfl (a3j hI (i:=0) mX λh=>h.below hb)
  have e3:=(C 3 mX).trans ht3.out;rotate_left;have aj:=fe C hI.val E 18 1;simp only[uE]at aj;have c0:=hI.nP.wn.cf.cell 0;rotate_left;have hrow:=hrow.out;have ah:=fe C hI.val E 17 0;have ak:=fe C hI.val E 19 2;simp only[uE]at ah ak;have au:=hrow w;unfold Af at au ah;rotate_left;have MB:=MB.out;have av:=fe C hI.val E 20 3;simp only[uE]at av;have au:=MB w;rotate_left;have e3:=(C 3 mX).trans ht3.out;have⟨c0,c1,c2,c3,c4,c5⟩:=hI.nP.wn.cf.a6;rotate_left;have e1:=(C 1 mX).trans ht1.out;rotate_left;have e2:=(C 2 mX).trans ht2.out;rotate_left
  .have hlt:=hlt.out
   have hcf:=hcf.out;have hcall:=hcall.out;have ax:=fe C hI.val E 21 4;have ay:=fe C hI.val E 22 5;have az:=fe C hI.val E 23 6;have aA:=fe C hI.val E 24 7;simp only[uE]at ax ay az aA;have N:=hI.nP;rw[hd]at N;have aL:=hcall w N.mm;rw[Ax (by rfl)];go_simp;refine aL.mono ?_;rintro e aK ⟨hg,hm2,rfl⟩;refine aa (uE g c fn row mt s y 8) _ _ rfl ⟨?_,uj hI.val⟩;rw[nL,nz D (show 13≠8 by decide),nz D (show 14≠8 by decide),nM vs _ (show 13≠8 by decide)];exact N.call hg hm2 hlt
  have aN:=fe C hI.val E 25 8;rotate_left;have J:=fe C hI.val E 16 9;simp only[uE]at J;unfold Xc.v at J;rotate_left;have J:=fe C hI.val E 16 9;simp only[uE]at J;unfold Xc.v at J;rotate_left;have J:=fe C hI.val E 16 9;simp only[uE]at J;unfold Xc.v at J;rotate_left
  .have N:=hI.nP
   rw[hd,ag 14 mX mZ]at N;go_simp;refine aa (mG (O (Z w.heap.size 0 U))) _ _ rfl ⟨?_,I9 rfl hI.val⟩;rw[nL,nz D (show 8≠13 by decide),nz D (show 14≠13 by decide),o6];rw[ag 14 mX mZ];exact N.made
  .have hlt:=hlt.out
   have hm2:=hm2.out;have hw0:=hw0.out;have d13:=E 13 mX mZ;have aB:a.tmps.getD 9 jw=vs 13:=C 9 mX;have aD:=fe C hI.val E 26 10;simp only[uE]at aD;have aF:=E 8 mX mZ;have N:=hI.nP;rw[hd,aF,d13]at N;have⟨b,ae,aG,hB⟩:=N.blk rfl;have aB:=aB.trans ae;have⟨z0,aQ,aR,f0,f1,f2⟩:=KX hB;go_simp;refine aa jw _ _ rfl ⟨?_,uj hI.val⟩;rw[nL,nz D (show 8≠14 by decide),nz D (show 13≠14 by decide),nM vs _ (show 13≠14 by decide)];rw[aF,d13,ae];rw[ae]at N;exact N.put hw0 (λx aM=>hlt x (hm2▸aM)) aG hB
  have aO:=fe C hI.val E 27 11;rotate_left;have aP:=fe C hI.val E 28 12;rotate_left
  all_goals
   try simp only[uE]at*
   go_simp;exact aa _ _ _ rfl ⟨hI.nP,uj hI.val⟩
 .intro D vs w af hI
  have E:=hI.nP;rw[af 8 mX]at E;rw[af 13 mX]at E;rw[af 14 mX]at E;have q:=aH vs w E;rw[oD hI.val af];dsimp+instances only[Ja,cO,cL,cR,cB,Tryz.f63];exact qf
end
def a3k{id:Nat}{fn:FuncId}{row:iQ}{mt m2:Option (Nat×MS)}{s:An}{y:Xc}(N:a0.tmps.getD 1 jw=KI mt)(aa:a0.tmps.getD 2 jw=H s)(ae:a0.tmps.getD 3 jw=mG (O (Z g 0 U)))(hsz:a0.tmps.size=35)(hrow:∀W,(jX 142 (mI Af) (V X c.fmt)).run iN W=.ok row W)(MB:∀W,(Instr.field 141 row 2).run iN W=.ok (.func (.func fn) #[] #[]) W)(hI0:KW g c w0 mt w)(A:o9 w mt)(hm2:nY m2=nY mt)(hw0:w0.heap.size<=g)(hlt:∀x,nY mt=O x->x<g)(hcf:∀a b d W,lJ iN (callFunc fn #[a,b,d]) W=.ok (.enter fn #[a,b,d]) W)(hcall:∀W,o9 W mt->iW iN fn #[mI #[V X c.fmt,V mQ c.mag,V X c.oL,V X c.pq,V X c.dep,V X c.oo],KI mt,H s] W λe C=>W.grownBy C (nY mt)/\o9 C m2/\e=mK y.v)(af:∀(vs:Nat->iQ) (b:Nat) W,WnF g c w0 mt m2 (V mP y.id) (H y.name) (H y.body) b W->g+1<b->Q .normal {a0 with tmps:=vG a0.tmps [(17,vs 0),(18,vs 1),(19,vs 2),(20,vs 3),(21,vs 4),(22,vs 5),(23,vs 6),(24,vs 7),(25,vs 8),(16,vs 9),(26,vs 10),(27,vs 11),(28,vs 12),(9,mG (O (Z b 0 U))),(10,V X y.n),(11,V X y.e)]} W):
  (jZ id Ja.toArray u).wp iN Q a0 w:=by
 refine a6n (ht3:=ae) (hrow:=hrow) (MB:=MB) (ht1:=N) (ht2:=aa) (hlt:=hlt) (hcf:=hcf) (hcall:=hcall) (hm2:=hm2) (hw0:=hw0) (hsz:=hsz) (hI0:=λ_=>⟨hI0.drew,(a2P A:o9 w.drew mt),nofun⟩) ?_;intro vs W hI;have⟨b,E,J,hB⟩:=hI.blk rfl;have q:=af (uE g c fn row mt s y) b W ⟨hI.wn,hB,hI.mm⟩ J;rw[<-E]at q;exact q
def a3l(c:nU)(s:An)(mt:Option (Nat×MS))(hs:s.size<=jd)(hc:nV c=u)(E:c.wf):∃(fn:FuncId) (row:iQ),(∀W,(jX 142 (mI Af) (V X c.fmt)).run iN W=.ok row W)/\
  (∀W,(Instr.field 141 row 2).run iN W=.ok (.func (.func fn) #[] #[]) W)/\(∀a b d W,lJ iN (callFunc fn #[a,b,d]) W=.ok (.enter fn #[a,b,d]) W)/\
  ∀W,o9 W mt->iW iN fn #[mI #[V X c.fmt,V mQ c.mag,V X c.oL,V X c.pq,V X c.dep,V X c.oo],KI mt,H s] W λe A=>W.grownBy A (nY mt)/\o9 A (oG c s mt).2/\e=mK (nxv (oG c s mt).1).v:=by
 have aa:=(ql hc).1;have key:∀k:Nat,c.fmt=k->∀f,a4T k=.func (.func f) #[] #[]->∀W,o9 W mt->iW iN f #[mI #[V X c.fmt,V mQ c.mag,V X c.oL,V X c.pq,V X c.dep,V X c.oo],KI mt,H s] W λe A=>W.grownBy A (nY mt)/\o9 A (oG c s mt).2/\e=mK (nxv (oG c s mt).1).v:=by
  intro k hk f J W N;have⟨ae,C,hcall⟩:=Zc c k hk s mt W hs hc E N;rw[J]at C;cases C;exact hcall.mono λe A h=>K5.1 h
 have hk:c.fmt=1\/c.fmt=2\/c.fmt=3:=I;rcases hk with hk|hk|hk
 .have hix:=a2R
  rw[<-hk]at hix;exact⟨100,_,hix,λW=>Rn _ _ _ _ W,λ_ _ _ _=>rfl,key 1 hk _ rfl⟩
 .have hix:=a2S
  rw[<-hk]at hix;exact⟨105,_,hix,λW=>Rn _ _ _ _ W,λ_ _ _ _=>rfl,key 2 hk _ rfl⟩
 .have hix:=Ur
  rw[<-hk]at hix;exact⟨110,_,hix,λW=>Rn _ _ _ _ W,λ_ _ _ _=>rfl,key 3 hk _ rfl⟩
def Xd(c:nU)(s:An)(mt:Option (Nat×MS))(w:K)(hs:s.size<=jd)(hc:nV c=u)(aF:c.wf)(af:o9 w mt):
  iW iN 63 #[c.v,KI mt,H s] w λe w'=>w.grownBy w' (nY mt)/\o9 w' (oG c s mt).2/\e=mK (nxv (oG c s mt).1).v:=by
 have⟨fn,row,hrow,MB,hcf,hcall⟩:=a3l c s mt hs hc aF;have C:=Ag c s mt;have N:=Y (Ae af);have aG:=Bd c s mt;have ag:=Y (Ci c);rw[hc]at ag;obtain⟨g,hg⟩:=o7 w;have aH:R (∀W,(w.alloc (mM #[V X c.fmt,V mQ c.mag,V X c.oL,V X c.pq,V X c.dep,V X c.oo] rG)).alloc (mM #[V mP 0,H ⟨#[]⟩,H ⟨#[]⟩] pR)=W->KW g c w mt W/\o9 W mt):=Y λW h=>by
  subst h;have aI:=(iT w.heap.size w).alloc (iP _) (mM #[V X c.fmt,V mQ c.mag,V X c.oL,V X c.pq,V X c.dep,V X c.oo] rG);have aa:=aI.alloc ny (mM #[V mP 0,H ⟨#[]⟩,H ⟨#[]⟩] pR);have aP:(w.alloc (mM #[V X c.fmt,V mQ c.mag,V X c.oL,V X c.pq,V X c.dep,V X c.oo] rG)).heap.size=g+1:=by simp[hg]
  have aJ:=mY.new w #[V X c.fmt,V mQ c.mag,V X c.oL,V X c.pq,V X c.dep,V X c.oo] rG;have A:=mY.new (w.alloc (mM #[V X c.fmt,V mQ c.mag,V X c.oL,V X c.pq,V X c.dep,V X c.oo] rG)) #[V mP 0,H ⟨#[]⟩,H ⟨#[]⟩] pR;rw[aP]at A;exact⟨⟨hg▸aJ.alloc _,A,oP aa⟩,af.grown aa⟩
 rw[hg]at N;generalize (oG c s mt).2=m2 at*;have⟨y,hy⟩:=nE (nxv (oG c s mt).1);have aQ:R ((y.e=0/\True)\/(y.e≠0/\y.id=0/\y.name=⟨#[]⟩/\y.body=⟨#[]⟩/\y.n=0)):=Y (by
  rw[<-hy];cases aR:(oG c s mt).1 with
  |error er=>
   have:=aG er aR;exact .inr ⟨by show er≠0;omega,rfl,rfl,rfl,rfl⟩
  |ok z=>exact .inl ⟨rfl,trivial⟩)
 rw[hy]at hcall|-;have ah:=Y (λ(id:Nat) (Q:Exit->lY->K->Prop) (a0:lY) (W:K) (ai:a0.tmps.getD 1 jw=KI mt) (aj:a0.tmps.getD 2 jw=H s) (ak:a0.tmps.getD 3 jw=mG (O (Z g 0 U))) (hsz:a0.tmps.size=35) hI0 hM0 hQ=>
  a3k (id:=id) (Q:=Q) (a0:=a0) (w:=W) (w0:=w) (c:=c) (y:=y) ai aj ak hsz hrow MB hI0 hM0 C (kP hg) N hcf hcall hQ)
 have aK:=Y C;obtain⟨f,m,fr,un,bD,it⟩:=c;unfold nU.v nU.cs at*;dsimp only at*;go_in;go_upto_region 1 with fail;have⟨hI,aL⟩:=aH.out _ rfl;generalize (w.alloc _).alloc _=w1 at*;have aS:=Y hI;have aU:=Y aL;have⟨_,aV,aW,aX,aY,aZ,bg⟩:=hI.s;dsimp only at aV aW aX aY aZ bg;go_wp2_with fail;refine pG (ag _) λw2 A=> ?_
 have aM:=Y (aS.below A);have au:=Y (aU.grown A);go_upto_region 3 with fail;refine ah _ _ _ _ rfl rfl rfl rfl aM au ?_;intro vs b W hF bB;have J:=Y hF;generalize vs 0=v0;generalize vs 1=v1;generalize vs 2=v2;generalize vs 3=v3;generalize vs 4=v4;generalize vs 5=v5;generalize vs 6=v6;generalize vs 7=v7;generalize vs 8=v8;generalize vs 9=v9;generalize vs 10=v10;generalize vs 11=v11;generalize vs 12=bC;obtain⟨av,ax,ay,bq,aN⟩:=y;dsimp only at*;have⟨r0,r1,r2,z0,bE,bF⟩:=J.wn.res.b3;have⟨bG,bH,bI⟩:=J.fr.a3;have aO:=Y (λ(a b c:iQ)=>oU (a:=a) (b:=b) (c:=c) J.wn.res);have ae:=Y (λ(a b c:iQ)=>Cj (a:=a) (b:=b) (c:=c) ⟨J.wn.res,J.mm,J.wn.gr⟩ (λx bu=>N.out x (aK.out▸bu)) hg);simp only[vG,iX,jg,jf];rcases aQ.out with⟨E,_⟩|⟨E,ai,aj,ak,bz⟩
 .subst E
  go_wp2_with fail;rw[nO];have⟨e1,e2⟩:=ae.out (V mP av) (H ax) (H ay);have az:=aO.out (V mP av) (H ax) (H ay);have⟨aA,aB,aD⟩:=az.a3;refine iY (v:=mJ #[mI #[V mP av,H ax,H ay],V X (bq:Nat),V X 0]) (by simp[jv,Tryz.results63,go_sem,aA,aB,aD]) rfl ⟨e1,e2,rfl⟩
 .subst ai aj ak bz
  have bA:((aN:Int) !=0)=u:=nk;have E:=E;go_wp2_with fail;rw[nO];have⟨e1,e2⟩:=ae.out (V mP 0) (H ⟨#[]⟩) (H ⟨#[]⟩);have az:=aO.out (V mP 0) (H ⟨#[]⟩) (H ⟨#[]⟩);have⟨aA,aB,aD⟩:=az.a3;refine iY (v:=mJ #[mI #[V mP 0,H ⟨#[]⟩,H ⟨#[]⟩],V X 0,V X (aN:Nat)]) (by simp[jv,Tryz.results63,go_sem,aA,aB,aD]) rfl ⟨e1,e2,rfl⟩
def p0(a:TL)(_:List (mW TL)):Bool:=As (a.tail=0)
def a6o(x:mW TL):x.all p0=(As (x.lab.tail=0)&&mW.oI p0 x.sub):=by
 cases x with
 |node a s=>rfl
def a3m(a:TL)(s:List (mW TL)):(mW.node a s).all p0=(As (a.tail=0)&&mW.oI p0 s):=rfl
def Xe(x:mW TL):∀(w:K)(v:iQ),nZ w v x.sub->
  iW iN 172 #[mI #[V X x.lab.kind,V X x.lab.size,v,V X x.lab.tail]] w λe w'=>e=mK (mH (mW.oI p0 x.sub))/\iR w.heap.size w w':=by
 induction x using mW.ind with
 |h a s aO=>
  intro w v aj;simp only[mW.qm,mW.oW]at aj|-;obtain⟨oa,cap,rfl,aP,ay⟩:=ez aj;obtain⟨g,hg⟩:=o7 w;have ak:=Y (vk (k:=a.kind) (z:=a.size) (l:=a.tail) (t:=63) aj);have az:s.length<=9223372036854775807:=by unfold jd at ay;omega
  have⟨aw,aA⟩:=nE s.length;have aB:=Y aA;have aQ:=Y aO;have⟨aE,aD⟩:=nE (mW.oI p0 s);have aF:=Y aD;rw[hg]at ak|-;rw[aA]at ak az|-;rw[aD];go_in;go_upto_region 1 with fail;generalize w.alloc (mM #[V X a.kind,V X a.size,G oa aw cap,V X a.tail] 63)=w1 at*;have⟨aG,ht1,hsz,c0,c1,c2,c3⟩:=ak.out _ rfl;have af:=Y (iU aG ht1);go_wp2;go_loopw [4,8] (λ_ iv aR=>∃k:Nat,iv=V X k/\k<=aw/\R (mW.oI p0 (s.take k)=u)/\R (iR (g+1) w1 aR)) (λ_ iv _=>aw -(jF iv).toNat);case atStart=>exact⟨0,rfl,I,by simp[R,mW.oI],Y (iT _ _)⟩
  case round=>
   obtain⟨k,rfl,hk,aH,C⟩:=hrel;have HF:=Y (af.1.trans (C.mono I));have aI:g+1<=wr.heap.size:=by have:=C.size;omega
   by_cases c:k<aw
   .have⟨y,hy⟩:∃y,s[k]? =O y:=⟨_,ja (by rw[aB.out];exact c)⟩
    obtain⟨b,off,ar,rfl,hlt,bq,bu,aS,bz,au,aZ⟩:=nZ.at_ (Shape.nA.below af.2 (hsz▸C.out)) hy;obtain⟨ou,cu,rfl,_,_⟩:=ez au;have⟨E,aJ⟩:=nE y.sub.length;rw[aJ]at au aS;have aU:R (mW.oI p0 (s.take (k+1))=y.all p0):=Y (by rw[mW.vJ hy,aH.out];rfl);have ag:R (y.all p0=M->aE=M):=Y λh=>by rw[<-aF.out];exact mW.uB hy h
    have av:=Y (a6o y);have aV:=Y au;have aW:=Y (aQ y (jq hy))
    have aX:R (∀W,wr.alloc (mM #[V X y.lab.kind,V X y.lab.size,G ou E cu,V X y.lab.tail] 63)=W->iR wr.heap.size wr W/\nZ W (G ou E cu) y.sub/\W.heap.size=wr.heap.size+1/\
      mY W wr.heap.size #[V X y.lab.kind,V X y.lab.size,G ou E cu,V X y.lab.tail] 63):=Y λW h=>by
     subst h;have ah:=(iT wr.heap.size wr).alloc (iP _) (mM #[V X y.lab.kind,V X y.lab.size,G ou E cu,V X y.lab.tail] 63);exact⟨ah,Shape.nA.below aV ah,ny,mY.new wr _ _⟩
    go_upto_region 4 with fail;generalize wr.alloc (mM #[V X y.lab.kind,V X y.lab.size,G ou E cu,V X y.lab.tail] 63)=w4 at*;have⟨aK,GM,bg,aL⟩:=aX.out _ rfl;have⟨b0,b1,bA,b3⟩:=aL.a4;have ai:=Y (aW w4 (G ou E cu) GM);have J:=Y (C.trans (aK.mono aI));have N:g+1<=w4.heap.size:=I;generalize mW.oI p0 y.sub=q at*;rcases a8r y.lab.tail 0 with⟨t0,ax⟩|⟨t0,ax⟩
    .cases q with
     |true=>
      have aM:R (mW.oI p0 (s.take (k+1))=u):=Y (by rw[aU.out,av.out,a8 ax.out];rfl);go_wp2_with fail;refine pG (ai) λw5 aa=> ?_
      have A:=Y (J.trans (aa.mono N));go_wp2;go_roundw;case rel=>exact⟨k+1,by go_num,I,aM,A⟩
      case measure=>simp[jF];omega
     |false=>
      have ae:=Y (ag (by rw[av.out,cI]));go_wp2_with fail;refine pG (ai) λw5 aa=> ?_
      have A:=Y (af.1.trans ((J.trans (aa.mono N)).mono (jO g)));go_wp2;go_returns;exact⟨by rw[ae.out];rfl,A.out⟩
    .have ae:=Y (ag (by rw[av.out,bh ax.out];rfl))
     have A:=Y (af.1.trans (J.mono (jO g)));go_wp2;go_returns;exact⟨by rw[ae.out];rfl,A.out⟩
   .obtain rfl:k=aw:=I
    have HE:R (aE=u):=by
     unfold R;have aY:s.take k=s:=by rw[<-aB.out,ky]
     have aN:=aH.out;rw[aY]at aN;rw[<-aF.out,aN]
    exact GK
def Xf(x:mW TL):∀(w:K)(v:iQ),nZ w v x.sub->
  iW iN 88 #[mI #[V X x.lab.kind,V X x.lab.size,v,V X x.lab.tail]] w λe w'=>e=mK (mH (!x.all p0))/\iR w.heap.size w w':=by
 induction x using mW.ind with
 |h a s az=>
  intro w v A;simp only[mW.qm,mW.oW]at A|-;have C:=Y (a3m a s);obtain⟨oa,cap,rfl,aA,aa⟩:=ez A;obtain⟨g,hg⟩:=o7 w;have E:=Y (vk (k:=a.kind) (z:=a.size) (l:=a.tail) (t:=63) A);have ae:s.length<=9223372036854775807:=by unfold jd at aa;omega
  have⟨aw,af⟩:=nE s.length;have ag:=Y af;have aB:=Y az;have⟨aE,ah⟩:=nE (mW.oI p0 s);have ai:=Y ah;rw[hg]at E|-;rw[af]at E ae|-;rw[ah]at C;generalize (mW.node a s).all p0=ay at*;have t0:=a8r a.tail 0;go_in;go_upto_region 1 with fail;generalize w.alloc (mM #[V X a.kind,V X a.size,G oa aw cap,V X a.tail] 63)=w1 at*;have⟨aj,ht1,hsz,c0,c1,c2,c3⟩:=E.out _ rfl;have J:=Y (iU aj ht1);rcases t0 with⟨t0,N⟩|⟨t0,N⟩
  case inr=>
   have HE:R ((!ay)=u):=Y (by rw[C.out,bh N.out];rfl);go_wp2;go_returns;exact⟨by rw[HE.out];rfl,J.1⟩
  have ak:R (ay=aE):=Y (by rw[C.out,a8 N.out];rfl);go_wp2;go_loopw [3] (λiv aD=>∃k:Nat,iv=V X k/\k<=aw/\R (mW.oI p0 (s.take k)=u)/\R (iR (g+1) w1 aD)) (λiv _=>aw -(jF iv).toNat);case atStart=>exact⟨0,rfl,I,by simp[R,mW.oI],Y (iT _ _)⟩
  case round=>
   obtain⟨k,rfl,hk,au,hbe⟩:=hrel;have aH:=(hbe.cell (p:=(Z g 2 U)) (jV g)).trans c2;have HF:=Y (J.1.trans (hbe.mono I));have hgr:g+1<=wr.heap.size:=by have:=hbe.size;omega
   by_cases c:k<aw
   .have⟨y,hy⟩:∃y,s[k]? =O y:=⟨_,ja (by rw[ag.out];exact c)⟩
    obtain⟨b,off,ar,rfl,hlt,aJ,aK,aL,aM,aF,aI⟩:=nZ.at_ (Shape.nA.below J.2 (hsz▸hbe.out)) hy;have HT:R (mW.oI p0 (s.take (k+1))=y.all p0):=Y (by rw[mW.vJ hy,au.out];rfl);have av:R (y.all p0=M->aE=M):=Y λh=>by rw[<-ai.out];exact mW.uB hy h
    have CY:=Y (aB y (jq hy) wr ar aF);generalize y.all p0=q at*;cases q with
    |true=>
     exact Rq
    |false=>
     have HE:R ((!ay)=u):=Y (by rw[ak.out,av.out rfl];rfl);exact Uu
   .obtain rfl:k=aw:=I
    have HE:R ((!ay)=M):=by
     unfold R;have aG:s.take k=s:=by rw[<-ag.out,ky]
     have ax:=au.out;rw[aG]at ax;rw[ak.out,<-ai.out,ax];rfl
    exact GK
def Pz(x:mW TL)(w:K)(v:iQ)(N:nZ w v x.sub)(hc:x.count<=1000):
  iW iN 54 #[mI #[V X x.lab.kind,V X x.lab.size,v,V X x.lab.tail]] w λe w'=>e=mK (mH (mW.oI p0 x.sub&&pg x))/\iR w.heap.size w w':=by
 obtain⟨oa,cap,rfl,aA,aa⟩:=ez N;obtain⟨g,hg⟩:=o7 w;have A:=Y (vk (k:=x.lab.kind) (z:=x.lab.size) (l:=x.lab.tail) (t:=63) N);have ae:x.sub.length<=9223372036854775807:=by unfold jd at aa;omega
 have af:=Y (λ(W:K) (h:nZ W (G oa x.sub.length cap) x.sub)=>GL x W _ h hc);have⟨aw,ag⟩:=nE x.sub.length;have ah:=Y ag;have⟨aE,ai⟩:=nE (mW.oI p0 x.sub);have aj:=Y ai;rw[hg]at A|-;rw[ag]at A ae af|-;rw[ai];generalize pg x=mt at*;go_in;go_upto_region 1 with fail;generalize w.alloc (mM #[V X x.lab.kind,V X x.lab.size,G oa aw cap,V X x.lab.tail] 63)=w1 at*;have⟨ak,ht1,hsz,c0,c1,c2,c3⟩:=A.out _ rfl;have C:=Y (iU ak ht1);have E:=Y (iU c0 (iU c1 (iU c2 c3)));go_wp2;go_loopw [3] (λiv aB=>∃k:Nat,iv=V X k/\k<=aw/\R (mW.oI p0 (x.sub.take k)=u)/\R (iR (g+1) w1 aB)) (λiv _=>aw -(jF iv).toNat);case atStart=>exact⟨0,rfl,I,by simp[R,mW.oI],Y (iT _ _)⟩
 case round=>
  obtain⟨k,rfl,hk,au,hbe⟩:=hrel;have aG:=(hbe.cell (p:=(Z g 2 U)) (jV g)).trans c2;have av:=Y (C.1.trans (hbe.mono I));have hgr:g+1<=wr.heap.size:=by have:=hbe.size;omega
  by_cases c:k<aw
  .have⟨y,hy⟩:∃y,x.sub[k]? =O y:=⟨_,ja (by rw[ah.out];exact c)⟩
   obtain⟨b,off,ar,rfl,hlt,aI,aJ,aK,aL,aD,aH⟩:=nZ.at_ (Shape.nA.below C.2 (hsz▸hbe.out)) hy;have HT:R (mW.oI p0 (x.sub.take (k+1))=y.all p0):=Y (by rw[mW.vJ hy,au.out];rfl);have ax:R (y.all p0=M->aE=M):=Y λh=>by rw[<-aj.out];exact mW.uB hy h
   have CY:=Y (Xf y wr ar aD);generalize y.all p0=q at*;cases q with
   |true=>
    exact Rq
   |false=>
    have J:=Y (ax rfl);go_wp2_with fail;refine pG (CY) λw5 hb5=> ?_
    have HB5:=Y (av.trans (hb5.mono I));go_wp2;go_returns;exact⟨by rw[J.out,Bool.false_and];rfl,HB5.out⟩
  .obtain rfl:k=aw:=I
   have J:R (aE=u):=by
    unfold R;have aF:x.sub.take k=x.sub:=by rw[<-ah.out,ky]
    have ay:=au.out;rw[aF]at ay;rw[<-aj.out,ay]
   have aM:=(hbe.cell (p:=(Z g 0 U)) (jV g)).trans E.1;have aN:=(hbe.cell (p:=(Z g 1 U)) (jV g)).trans E.2.1;have aO:=(hbe.cell (p:=(Z g 3 U)) (jV g)).trans E.2.2.2;have az:=Y (af wr (Shape.nA.below C.2 (hsz▸hbe.out)));go_wp2_with fail;refine pG (az) λw5 hb5=> ?_
   have HB5:=Y (av.trans (hb5.mono I));go_wp2;go_returns;exact⟨by rw[J.out,lX];rfl,HB5.out⟩
def K6(x:mW TL)(w:K)(v:iQ)(au:nZ w v x.sub)(af:qB w):
  iW iN 122 #[mI #[V X x.lab.kind,V X x.lab.size,v,V X x.lab.tail]] w λe w'=>e=mK (mH (mW.oI p0 x.sub&&pg x))/\iR w.heap.size w w':=by
 have E:=af.lt;have ag:=Y (vk (k:=x.lab.kind) (z:=x.lab.size) (l:=x.lab.tail) (t:=63) au);obtain⟨g,hg⟩:=o7 w;rw[hg]at ag E|-;have av:=Y (λ(W:K) (h:iR g w W)=>af.below h E);have aa:=Y (λ(W:K) (h:nZ W v x.sub) (ax:qB W)=>Dp x W v h ax);have ay:=Y (λ(W:K) (h:nZ W v x.sub)=>Xe x W v h);generalize pg x=mt at*;generalize mW.oI p0 x.sub=aE at*;go_in;go_upto_region 1 with fail;generalize w.alloc (mM #[V X x.lab.kind,V X x.lab.size,v,V X x.lab.tail] 63)=w1 at*;have⟨J,ht1,hsz,c0,c1,c2,c3⟩:=ag.out _ rfl;have N:=Y (aa w1 ht1 (av w1 J));have ae:=Y (iU J ht1);have hlt:g<w1.heap.size:=I;cases mt with
 |false=>
  go_wp2_with fail;refine pG (N) λw2 A=> ?_
  have C:=Y (ae.1.trans (A.mono I));go_wp2;go_returns;exact⟨by rw[cI];rfl,C.out⟩
 |true=>
  go_wp2_with fail;refine pG (N) λw2 A=> ?_
  have C:=Y (ae.1.trans (A.mono I));have az:=(A.cell (p:=(Z g 0 U)) hlt).trans c0;have aA:=(A.cell (p:=(Z g 1 U)) hlt).trans c1;have aB:=(A.cell (p:=(Z g 2 U)) hlt).trans c2;have aD:=(A.cell (p:=(Z g 3 U)) hlt).trans c3;have ah:=Y (ay w2 (Shape.nA.below ae.2 A));have ai:g<=w2.heap.size:=by have:=A.size;omega
  go_wp2_with fail;refine pG (ah) λw3 aj=> ?_
  have ak:=Y (C.trans (aj.mono ai));go_wp2;go_returns;exact⟨by rw[ea];rfl,ak.out⟩
end
section
open Go.RowKit Go.Maps
noncomputable def strKeys{P:j6}{k:jl}(hk:P.underlying k=O .string):Gt P k An where
 kv:=H
 kl s:=.string s.data.toList
 ok s:=s.size<=jd
 aq:=string_keyed hk
 lay x hx:=Go.WideMaps.keyOf_string_mk hk hx
 inv v l h:=by obtain⟨s,A,C,_⟩:=Go.WideMaps.string_of_keyOf hk h;exact⟨s,A,C⟩
 inj x y h:=Go.WideShapes.bytes_inj (by simpa using h)
 key x:=trivial
def tC:Kc (Array iQ) where
 ev a:=mI a
 aE v:=match v with| mI a=>O (.held a,[])|_=>U
 lay x:=rfl
 inv v z h:=by
  cases v<;>simp at h;exact⟨_,rfl,h.symm⟩
noncomputable def NmK:Gt iN 9 An:=strKeys l8
noncomputable def IdK:Gt iN 50 Int:=intKeys Tryz.underlying50
abbrev RgT:jl:=137
abbrev GN:jl:=128
structure RC where
 i:Nat
 nm:An
 tx:An
 k:Int
 z:Int
 ou:Option j4
 nu:Nat
 cu:Nat
 tl:Int
def RC.cs(x:RC):Array iQ:=#[V mP x.i,H x.nm,H x.tx,V X x.k,V X x.z,G x.ou x.nu x.cu,V X x.tl]
def DJ:RC:=⟨0,⟨#[]⟩,⟨#[]⟩,0,0,U,0,0,0⟩
structure oJ where
 r:Row
 ou:Option j4
 cu:Nat
def oJ.rc(x:oJ):RC:=⟨x.r.id,x.r.name,x.r.text,x.r.ty.lab.kind,x.r.ty.lab.size,x.ou,x.r.ty.sub.length,x.cu,x.r.ty.lab.tail⟩
def Jb(c:nU):iQ:=if c.fmt=1 then .func (.func 85) #[mI #[V X c.dep,V X c.oo]] #[]else .func (.func 83) #[mI #[V X c.dep,V X c.oo]] #[]
def K7(c:nU):iQ:=if c.fmt=1 then .func (.func 86) #[mI #[V X c.dep,V X c.oo]] #[]else .func (.func 84) #[mI #[V X c.dep,V X c.oo]] #[]
structure pY(r bn bi:Nat)(c:nU)(L:List oJ)(w:K):Prop where
 rg:mY w r #[V X c.fmt,V mQ c.mag,V X c.oL,V X c.pq,V X c.dep,V X c.oo,.map (O bn),.map (O bi),Jb c,K7 c] RgT
 nm:q9 NmK tC w bn L.length (L.map λx=>(x.r.name,x.rc.cs))
 id:q9 IdK tC w bi L.length (L.map λx=>((x.r.id:Int),x.rc.cs))
 sq:∀x,x∈L->nK.nA w (λk=>r<k) (G x.ou x.r.ty.sub.length x.cu) x.r.ty.sub
 may:∀x,x∈L->pg x.r.ty=u/\(c.fmt=1->(mW.oI p0 x.r.ty.sub&&pg x.r.ty)=u)/\x.r.name.size<=12
def pY.sub{r:Nat}{L:List oJ}(h:pY r bn bi c L w)(x:oJ)(A:x∈L):nZ w (G x.ou x.r.ty.sub.length x.cu) x.r.ty.sub:=(h.sq x A).keep (iP _) (λ_ _ _=>trivial) λ_ _ _=>rfl
def pY.below{r:Nat}{L:List oJ}(h:pY r bn bi c L w)(hb:iR w.heap.size w w'):pY r bn bi c L w':=
 ⟨a7 hb h.rg h.rg.lt,h.nm.below hb,h.id.below hb,λx A=>Shape.nA.below (h.sq x A) hb,h.may⟩
def BK{κ:Type}[DecidableEq κ](f:oJ->κ)(k:κ):∀L:List oJ,yt (L.map λx=>(f x,x.rc.cs)) k=(L.find? λx=>As (f x=k)).map λx=>x.rc.cs
 |[]=>rfl
 |x::L=>by
  have A:=BK f k L;unfold yt at*;rw[lg,List.find?_cons,List.find?_cons];dsimp only;rw[show(f x==k)=As (f x=k)from rfl];cases As (f x=k)with
  |true=>rfl
  |false=>exact A
def row_zero(w:K):(zeroValue GN).run iN w=.ok (tC.ev DJ.cs) w:=rfl
def fnd(L:List oJ)(p:oJ->Bool):RC:=match L.find? p with|some x=>x.rc|none=>DJ
def PD{κ:Type}[DecidableEq κ](f:oJ->κ)(k:κ)(L:List oJ):(yt (L.map λx=>(f x,x.rc.cs)) k).getD DJ.cs=(fnd L λx=>As (f x=k)).cs/\(yt (L.map λx=>(f x,x.rc.cs)) k).isSome=(L.find? λx=>As (f x=k)).isSome:=by
 rw[BK];unfold fnd;cases L.find? λx=>As (f x=k)with
 |none=>exact⟨rfl,rfl⟩
 |some x=>exact⟨rfl,rfl⟩
def pY.look{r:Nat}{L:List oJ}(h:pY r bn bi c L w)(s:An)(hs:s.size<=jd):
  (Instr.lookup 130 (.map (O bn)) (H s) u).run iN w=.ok (mJ #[mI (fnd L λx=>As (x.r.name=s)).cs,mH (L.find? λx=>As (x.r.name=s)).isSome]) w:=by
 have A:=q9.look_ok (x:=s) h.nm Tryz.underlying130 row_zero hs;have⟨e1,e2⟩:=PD (λx:oJ=>x.r.name) s L;rw[e1,e2]at A;exact A
def UN(hn:n<18446744073709551616):(lN mP (n:Int)).wf=u:=by
 have:(0:Int)<=n/\(n:Int)<=18446744073709551615:=I;simpa [Lit.wf,IntKind.min,IntKind.max,IntKind.signed,IntKind.bits]using this
def pY.a4Z{r:Nat}{L:List oJ}(h:pY r bn bi c L w)(n:Nat)(hn:n<18446744073709551616):
  (Instr.lookup 131 (.map (O bi)) (V mP n) u).run iN w=.ok (mJ #[mI (fnd L λx=>As ((x.r.id:Int)=(n:Int))).cs,mH (L.find? λx=>As ((x.r.id:Int)=(n:Int))).isSome]) w:=by
 have A:=q9.look_ok (x:=(n:Int)) h.id Tryz.underlying131 row_zero (UN hn);have⟨e1,e2⟩:=PD (λx:oJ=>(x.r.id:Int)) (n:Int) L;rw[e1,e2]at A;exact A
def R6(c:nU)(L:List oJ)(f:tJ):Option oJ:=
 if c.fmt=1 then if f.id=0 then L.find? λx=>As (x.r.name=f.name)else U else if f.name.size=0 then L.find? λx=>As ((x.r.id:Int)=(f.id:Int))else U
def rcO:Option oJ->RC
 |some x=>x.rc
 |none=>DJ
def a3n(c:nU)(L:List oJ)(f:tJ):ZC c (L.map λx=>x.r) f=(R6 c L f).map λx=>x.r:=by
 unfold ZC R6;split
 .split
  .rw[List.find?_map];rfl
  .rfl
 .split
  .rw[List.find?_map]
   have:((λr:Row=>As (r.id=f.id))∘λx:oJ=>x.r)=λx:oJ=>As ((x.r.id:Int)=(f.id:Int)):=funext λx=>decide_eq_decide.2 (by show x.r.id=f.id<->(x.r.id:Int)=(f.id:Int);omega)
   rw[this]
  .rfl
def a3o(L:List oJ)(p:oJ->Bool):fnd L p=rcO (L.find? p):=by
 unfold fnd;cases L.find? p<;>rfl
def DK(w:K)(k:Nat)(x:RC):K:=((((((w.setCell (Z k 0 U) (V mP x.i)).setCell (Z k 1 U) (H x.nm)).setCell (Z k 2 U) (H x.tx)).setCell (Z k 3 U) (V X x.k)).setCell (Z k 4 U) (V X x.z)).setCell (Z k 5 U) (G x.ou x.nu x.cu)).setCell (Z k 6 U) (V X x.tl)
def Be(w:K)(k:Nat)(x:RC):((((((w.setCell (Z k 0 U) (V mP x.i)).setCell (Z k 1 U) (H x.nm)).setCell (Z k 2 U) (H x.tx)).setCell (Z k 3 U) (V X x.k)).setCell (Z k 4 U) (V X x.z)).setCell (Z k 5 U) (G x.ou x.nu x.cu)).setCell (Z k 6 U) (V X x.tl)=DK w k x:=rfl
def yL{x y:RC}(h:mY w k y.cs t):mY (DK w k x) k x.cs t:=by
 have q:=((((((h.set 0 (V mP x.i)).set 1 (H x.nm)).set 2 (H x.tx)).set 3 (V X x.k)).set 4 (V X x.z)).set 5 (G x.ou x.nu x.cu)).set 6 (V X x.tl);simp only[RC.cs,iX,jg,jf]at q;exact q
def Xg{c:Nat}{x:RC}(h:c≠k):(DK w k x).heap[c]? =w.heap[c]? :=by
 unfold DK;simp[jr,kg,mf h]
def K8(w:K)(k:Nat)(x:RC):(DK w k x).heap.size=w.heap.size:=by simp[DK,jr]
def vL{x:RC}(h:iR B w0 w)(hk:B<=k):iR B w0 (DK w k x):=
 ((((((h.setCell (p:=(Z k 0 U)) hk _).setCell (p:=(Z k 1 U)) hk _).setCell (p:=(Z k 2 U)) hk _).setCell (p:=(Z k 3 U)) hk _).setCell (p:=(Z k 4 U)) hk _).setCell (p:=(Z k 5 U)) hk _).setCell (p:=(Z k 6 U)) hk _
def xM{c:Nat}{x:RC}{cs:Array iQ}(h:mY w c cs t)(A:c≠k):mY (DK w k x) c cs t:=by
 unfold mY at*;rw[Xg A];exact h
def pW{x:RC}(h:mY W k x.cs t):(W.cell? (Z k 0 U)=O (V mP x.i)/\W.cell? (Z k 1 U)=O (H x.nm)/\W.cell? (Z k 2 U)=O (H x.tx)/\W.cell? (Z k 3 U)=O (V X x.k)/\W.cell? (Z k 4 U)=O (V X x.z)/\W.cell? (Z k 5 U)=O (G x.ou x.nu x.cu)/\W.cell? (Z k 6 U)=O (V X x.tl))/\
  W.frozen? (Z k 0 U)=M/\W.frozen? (Z k 1 U)=M/\W.frozen? (Z k 2 U)=M/\W.frozen? (Z k 3 U)=M/\W.frozen? (Z k 4 U)=M/\W.frozen? (Z k 5 U)=M/\W.frozen? (Z k 6 U)=M:=
 ⟨⟨h.cell 0,h.cell 1,h.cell 2,h.cell 3,h.cell 4,h.cell 5,h.cell 6⟩,h.free 0,h.free 1,h.free 2,h.free 3,h.free 4,h.free 5,h.free 6⟩
structure Xh(g r bn bi:Nat)(c:nU)(L:List oJ)(f:tJ)(w0:K)(x:RC)(W:K):Prop where
 rg:pY r bn bi c L W
 fr:mY W g #[V mP f.id,H f.name,H f.body] pR
 rs:mY W (g+1) DJ.cs GN
 fo:mY W (g+2) x.cs GN
 pV:iR g w0 W
 lt:r<g/\bn<g/\bi<g/\w0.heap.size=g
def nN(w:K):iR w.heap.size w w.drew:=⟨rfl,rfl,rfl,iP _,λ_ _=>rfl⟩
def Xh.drew{r:Nat}{L:List oJ}{f:tJ}{x:RC}(h:Xh g r bn bi c L f w0 x W):Xh g r bn bi c L f w0 x W.drew:=
 ⟨h.rg.below (nN _),h.fr,h.rs,h.fo,h.pV.trans ((nN _).mono (by have:=h.fr.lt;omega)),h.lt⟩
def Xh.put{r:Nat}{L:List oJ}{f:tJ}{x y:RC}(h:Xh g r bn bi c L f w0 x W)(h0:pY r bn bi c L w0):Xh g r bn bi c L f w0 y (DK W (g+2) y):=by
 have hb:=vL (x:=y) h.pV (show g<=g+2 by omega);exact⟨h0.below (h.lt.2.2.2▸hb),xM h.fr I,xM h.rs I,yL h.fo,hb,h.lt⟩
noncomputable def GQ:List kC:=cO (cL (cR (cL (cL (cR (cR (cR (cB Tryz.f91))))))))
section
variable (g r bn bi:Nat)(c:nU)(L:List oJ)(f:tJ)(w0:K)(b:Bool)(x:RC)
def Bf:Nat->iQ
 |0=> mG (O (Z r 0 U))
 |1=> mG (O (Z r 0 U))
 |2=> mG (O (Z r 6 U))
 |3=> .map (O bn)
 |4=> mG (O (Z g 1 U))
 |5=> H f.name
 |6=> mJ #[mI #[V mP x.i,H x.nm,H x.tx,V X x.k,V X x.z,G x.ou x.nu x.cu,V X x.tl],mH b]
 |7=> mJ #[mI #[V mP x.i,H x.nm,H x.tx,V X x.k,V X x.z,G x.ou x.nu x.cu,V X x.tl],mH b]
 |8=> mI #[V mP x.i,H x.nm,H x.tx,V X x.k,V X x.z,G x.ou x.nu x.cu,V X x.tl]
 |9=> mH b
 |11=> mH b
 |_=>jw
structure a8v(D:Nat->Bool)(vs:Nat->iQ)(w:K):Prop where
 nP:Xh g r bn bi c L f w0 (if(D 10)=u then x else DJ) w
 val:∀j,(u)=u->D j=u->vs j=Bf g r bn f b x j
variable {g r bn bi c L f w0 b x}
def UO(h:p:=by
 have hW:=hI.nP;rw[hd]at hW;have⟨⟨z0,z1,z2,z3,z4,z5,z6⟩,f0,f1,f2,f3,f4,f5,f6⟩:=pW hW.fo;go_simp;rw[Be];refine hK jw _ _ rfl ⟨?_,uj hI.val⟩;rw[nL];exact hW.put h0):p:=h
def a3p{id:Nat}(ht0:a0.tmps.getD 0 jw=mG (O (Z r 0 U)))(ht3:a0.tmps.getD 3 jw=mG (O (Z g 0 U)))(hl:∀W,pY r bn bi c L W->(Instr.lookup 130 (.map (O bn)) (H f.name) u).run iN W=.ok (mJ #[mI #[V mP x.i,H x.nm,H x.tx,V X x.k,V X x.z,G x.ou x.nu x.cu,V X x.tl],mH b]) W)(y8:a0.tmps.getD 6 jw=mG (O (Z (g+2) 0 U)))(h0:pY r bn bi c L w0)(hsz:a0.tmps.size=54)(hI0:∀vs:Nat->iQ,(λw=>Xh g r bn bi c L f w0 (if M=u then x else DJ) w) ws.drew)(J:∀(vs:Nat->iQ) (w:K),Xh g r bn bi c L f w0 (if u=u then x else DJ) w->Q .normal {a0 with tmps:=vG a0.tmps [(21,mG (O (Z r 0 U))),(22,mG (O (Z r 0 U))),(23,mG (O (Z r 6 U))),(24,.map (O bn)),(25,mG (O (Z g 1 U))),(26,H f.name),(27,mJ #[mI #[V mP x.i,H x.nm,H x.tx,V X x.k,V X x.z,G x.ou x.nu x.cu,V X x.tl],mH b]),(20,mJ #[mI #[V mP x.i,H x.nm,H x.tx,V X x.k,V X x.z,G x.ou x.nu x.cu,V X x.tl],mH b]),(28,mI #[V mP x.i,H x.nm,H x.tx,V X x.k,V X x.z,G x.ou x.nu x.cu,V X x.tl]),(29,mH b),(7,mH b)]} w):
  (jZ id GQ.toArray u).wp iN Q a0 ws:=by
 refine nJ 12 54 (a8v g r bn bi c L f w0 b x) mZ hsz mZ (.inl rfl) mZ ?_ ?_ ?_;.exact qg
 .refine rR λA aj=> ?_
  clear hI0 J hsz;replace ht0:=Y ht0;replace ht3:=Y ht3;replace hl:=Y hl;replace y8:=Y y8;replace h0:=Y h0;dsimp+instances only[GQ,cO,cL,cR,cB,Tryz.f91];simp only[jm,jI,qU];refine⟨?_,?_,?_,?_,?_,?_,?_,?_,?_,?_,?_,?_,trivial⟩<;>(intro D vs a w aq hI hd E ak C hK;subst aj;dsimp+instances only[GQ,cO,cL,cR,cB,Tryz.f91]);have az:=(C 0 mX).trans ht0.out;rotate_left;have au:=fe C hI.val E 21 0;rotate_left;have av:=fe C hI.val E 22 1;rotate_left;have N:=fe C hI.val E 23 2;simp only[Bf]at N;have c0:=hI.nP.rg.rg.c6;rotate_left;have e3:=(C 3 mX).trans ht3.out;rotate_left;have aa:=fe C hI.val E 25 4;simp only[Bf]at aa;have c0:=hI.nP.fr.c1;rotate_left;have hl:=hl.out;have ae:=fe C hI.val E 24 3;have af:=fe C hI.val E 26 5;simp only[Bf]at ae af;have q:=hl w hI.nP.rg;rotate_left;have ax:=fe C hI.val E 27 6;rotate_left;have ag:=fe C hI.val E 20 7;rotate_left;have ag:=fe C hI.val E 20 7;rotate_left
  .have h0:=h0.out
   have aA:=(C 6 mX).trans y8.out;have ah:=fe C hI.val E 28 8;simp only[Bf]at ah;exact UO
  have ay:=fe C hI.val E 29 9;rotate_left
  all_goals
   try simp only[Bf]at*
   go_simp;exact hK _ _ _ rfl ⟨hI.nP,uj hI.val⟩
 .intro D vs w ai hI
  have E:=hI.nP;rw[ai 10 mX]at E;have q:=J vs w E;rw[oD hI.val ai];dsimp+instances only[GQ,cO,cL,cR,cB,Tryz.f91];exact qf
end
noncomputable def GR:List kC:=cO (cL (cR (cR (cR (cL (cL (cR (cR (cR (cB Tryz.f91))))))))))
section
variable (g r bn bi:Nat)(c:nU)(L:List oJ)(f:tJ)(w0:K)(b:Bool)(x:RC)
def Bg:Nat->iQ
 |0=> mG (O (Z r 0 U))
 |1=> mG (O (Z r 0 U))
 |2=> mG (O (Z r 7 U))
 |3=> .map (O bi)
 |4=> mG (O (Z g 0 U))
 |5=> V mP f.id
 |6=> mJ #[mI #[V mP x.i,H x.nm,H x.tx,V X x.k,V X x.z,G x.ou x.nu x.cu,V X x.tl],mH b]
 |7=> mJ #[mI #[V mP x.i,H x.nm,H x.tx,V X x.k,V X x.z,G x.ou x.nu x.cu,V X x.tl],mH b]
 |8=> mI #[V mP x.i,H x.nm,H x.tx,V X x.k,V X x.z,G x.ou x.nu x.cu,V X x.tl]
 |9=> mH b
 |11=> mH b
 |_=>jw
structure a8w(D:Nat->Bool)(vs:Nat->iQ)(w:K):Prop where
 nP:Xh g r bn bi c L f w0 (if(D 10)=u then x else DJ) w
 val:∀j,(u)=u->D j=u->vs j=Bg g r bi f b x j
variable {g r bn bi c L f w0 b x}
def a3q{id:Nat}(ht0:a0.tmps.getD 0 jw=mG (O (Z r 0 U)))(ht3:a0.tmps.getD 3 jw=mG (O (Z g 0 U)))(hl:∀W,pY r bn bi c L W->(Instr.lookup 131 (.map (O bi)) (V mP f.id) u).run iN W=.ok (mJ #[mI #[V mP x.i,H x.nm,H x.tx,V X x.k,V X x.z,G x.ou x.nu x.cu,V X x.tl],mH b]) W)(y8:a0.tmps.getD 6 jw=mG (O (Z (g+2) 0 U)))(h0:pY r bn bi c L w0)(hsz:a0.tmps.size=54)(hI0:∀vs:Nat->iQ,(λw=>Xh g r bn bi c L f w0 (if M=u then x else DJ) w) ws.drew)(J:∀(vs:Nat->iQ) (w:K),Xh g r bn bi c L f w0 (if u=u then x else DJ) w->Q .normal {a0 with tmps:=vG a0.tmps [(43,mG (O (Z r 0 U))),(44,mG (O (Z r 0 U))),(45,mG (O (Z r 7 U))),(46,.map (O bi)),(47,mG (O (Z g 0 U))),(48,V mP f.id),(49,mJ #[mI #[V mP x.i,H x.nm,H x.tx,V X x.k,V X x.z,G x.ou x.nu x.cu,V X x.tl],mH b]),(42,mJ #[mI #[V mP x.i,H x.nm,H x.tx,V X x.k,V X x.z,G x.ou x.nu x.cu,V X x.tl],mH b]),(50,mI #[V mP x.i,H x.nm,H x.tx,V X x.k,V X x.z,G x.ou x.nu x.cu,V X x.tl]),(51,mH b),(7,mH b)]} w):
  (jZ id GR.toArray u).wp iN Q a0 ws:=by
 refine nJ 12 54 (a8w g r bn bi c L f w0 b x) mZ hsz mZ (.inl rfl) mZ ?_ ?_ ?_;.exact qg
 .refine rR λA aj=> ?_
  clear hI0 J hsz;replace ht0:=Y ht0;replace ht3:=Y ht3;replace hl:=Y hl;replace y8:=Y y8;replace h0:=Y h0;dsimp+instances only[GR,cO,cL,cR,cB,Tryz.f91];simp only[jm,jI,qU];refine⟨?_,?_,?_,?_,?_,?_,?_,?_,?_,?_,?_,?_,trivial⟩<;>(intro D vs a w aq hI hd E ak C hK;subst aj;dsimp+instances only[GR,cO,cL,cR,cB,Tryz.f91]);have az:=(C 0 mX).trans ht0.out;rotate_left;have au:=fe C hI.val E 43 0;rotate_left;have av:=fe C hI.val E 44 1;rotate_left;have N:=fe C hI.val E 45 2;simp only[Bg]at N;have c0:=hI.nP.rg.rg.c7;rotate_left;have e3:=(C 3 mX).trans ht3.out;rotate_left;have aa:=fe C hI.val E 47 4;simp only[Bg]at aa;have c0:=hI.nP.fr.c0;rotate_left;have hl:=hl.out;have ae:=fe C hI.val E 46 3;have af:=fe C hI.val E 48 5;simp only[Bg]at ae af;have q:=hl w hI.nP.rg;rotate_left;have ax:=fe C hI.val E 49 6;rotate_left;have ag:=fe C hI.val E 42 7;rotate_left;have ag:=fe C hI.val E 42 7;rotate_left
  .have h0:=h0.out
   have aA:=(C 6 mX).trans y8.out;have ah:=fe C hI.val E 50 8;simp only[Bg]at ah;exact UO
  have ay:=fe C hI.val E 51 9;rotate_left
  all_goals
   try simp only[Bg]at*
   go_simp;exact hK _ _ _ rfl ⟨hI.nP,uj hI.val⟩
 .intro D vs w ai hI
  have E:=hI.nP;rw[ai 10 mX]at E;have q:=J vs w E;rw[oD hI.val ai];dsimp+instances only[GR,cO,cL,cR,cB,Tryz.f91];exact qf
end
def yM(L:List oJ)(p:oJ->Bool):∃x:RC,fnd L p=x/\x=rcO (L.find? p):=⟨_,rfl,a3o L p⟩
def ZG(h:p:=by
 have hF:=HI.out;clear h2 HR HL6 HX6 HI;have HF:=Y hF;clear hF;have⟨⟨z0,z1,z2,z3,z4,z5,z6⟩,_⟩:=pW HF.fo;have⟨⟨y0,y1,y2,y3,y4,y5,y6⟩,q0,q1,q2,q3,q4,q5,q6⟩:=pW HF.rs;unfold DJ at y0 y1 y2 y3 y4 y5 y6;dsimp only at y0 y1 y2 y3 y4 y5 y6;go_wp2_with fail;rw[Be _ _ DJ];have⟨⟨d0,d1,d2,d3,d4,d5,d6⟩,_⟩:=pW (yL (x:=DJ) HF.rs);have hbel:=vL (x:=DJ) HF.pV (jO g);generalize DK _ _ DJ=W9 at*;refine iY (v:=mJ #[mI DJ.cs,mH M]) (by simp[jv,Tryz.results91,go_sem,d0,d1,d2,d3,d4,d5,d6,RC.cs]) rfl ⟨?_,hbel⟩;rw[HE.out];rfl):p:=h
def a6r(r bn bi:Nat)(c:nU)(L:List oJ)(f:tJ)(w:K)(h:pY r bn bi c L w)(hn:f.name.size<=jd)(hid:f.id<18446744073709551616)(hlt:r<w.heap.size/\bn<w.heap.size/\bi<w.heap.size):
  iW iN 91 #[mG (O (Z r 0 U)),mI #[V mP f.id,H f.name,H f.body]] w λe w'=>e=mK (mJ #[mI (rcO (R6 c L f)).cs,mH (R6 c L f).isSome])/\iR w.heap.size w w':=by
 obtain⟨g,hg⟩:=o7 w;have ah:R (∀W,((w.alloc (mM #[V mP f.id,H f.name,H f.body] pR)).alloc (mM #[V mP 0,H ⟨#[]⟩,H ⟨#[]⟩,V X 0,V X 0,G U 0 0,V X 0] GN)).alloc (mM #[V mP 0,H ⟨#[]⟩,H ⟨#[]⟩,V X 0,V X 0,G U 0 0,V X 0] GN)=W->Xh g r bn bi c L f w DJ W):=Y λW E=>by
  subst E;have a1:=(iT w.heap.size w).alloc (iP _) (mM #[V mP f.id,H f.name,H f.body] pR);have a2:=a1.alloc ny (mM #[V mP 0,H ⟨#[]⟩,H ⟨#[]⟩,V X 0,V X 0,G U 0 0,V X 0] GN);have a3:=a2.alloc nk (mM #[V mP 0,H ⟨#[]⟩,H ⟨#[]⟩,V X 0,V X 0,G U 0 0,V X 0] GN);have ay:=mY.new w #[V mP f.id,H f.name,H f.body] pR;have az:=mY.new (w.alloc (mM #[V mP f.id,H f.name,H f.body] pR)) #[V mP 0,H ⟨#[]⟩,H ⟨#[]⟩,V X 0,V X 0,G U 0 0,V X 0] GN;have aA:=mY.new ((w.alloc (mM #[V mP f.id,H f.name,H f.body] pR)).alloc (mM #[V mP 0,H ⟨#[]⟩,H ⟨#[]⟩,V X 0,V X 0,G U 0 0,V X 0] GN)) #[V mP 0,H ⟨#[]⟩,H ⟨#[]⟩,V X 0,V X 0,G U 0 0,V X 0] GN;rw[show(w.alloc (mM #[V mP f.id,H f.name,H f.body] pR)).heap.size=g+1 by simp[hg]]at az;rw[show((w.alloc (mM #[V mP f.id,H f.name,H f.body] pR)).alloc (mM #[V mP 0,H ⟨#[]⟩,H ⟨#[]⟩,V X 0,V X 0,G U 0 0,V X 0] GN)).heap.size=g+2 by simp[hg]]at aA;rw[hg]at ay;exact⟨h.below a3,(ay.alloc _).alloc _,az.alloc _,aA,hg▸a3,⟨I,I,I,hg⟩⟩
 have C:R (∀W,pY r bn bi c L W->_):=Y λW E=>E.look f.name hn
 have HL6:R (∀W,pY r bn bi c L W->_):=Y λW E=>E.a4Z f.id hid
 have aB:=Y h;have aD:∀b1 av,As (c.fmt=1)=b1->As (f.id=0)=av->As (f.name.size=0)=As (f.name.size=0)->R6 c L f=if b1 then if av then L.find? λx=>As (x.r.name=f.name)else U else if As (f.name.size=0)then L.find? λx=>As ((x.r.id:Int)=(f.id:Int))else U:=by
  intro b1 av A h2 _;subst A h2;unfold R6;simp only[bb]
 have HR:=Y aD;have⟨J,ai,N⟩:=yM L λx=>As (x.r.name=f.name)
 have⟨aa,aj,ae⟩:=yM L λx=>As ((x.r.id:Int)=(f.id:Int))
 rw[ai]at C;rw[aj]at HL6;unfold RC.cs at C HL6;have ak:=Y N;have HX6:=Y ae;generalize aF:(L.find? λx=>As (x.r.name=f.name))=o4 at*;generalize aG:(L.find? λx=>As ((x.r.id:Int)=(f.id:Int)))=aH at*;have⟨ag,au⟩:=nE (R6 c L f);rw[au]at HR|-;rw[hg];clear h hn hlt ai aj N ae aF aG aD au hid;go_in;go_upto_region 2 with fail;have hI:=ah.out _ rfl;generalize ((w.alloc _).alloc _).alloc _=w1 at*;have HI:=Y hI;have c0:=hI.rg.rg.c0;have⟨f0,f1⟩:=hI.fr.a2;clear hI ah;by_cases A:c.fmt=1
 .have t1:(c.fmt==1)=u:=by simp[A]
  have aI:(c.fmt !=1)=M:=by simp[A]
  have af:=Y A;clear A;by_cases h2:f.id=0
  .have ax:((f.id:Int)==0)=u:=by simp[h2]
   have HE:R (ag=o4):=Y (by rw[HR.out u u (by simp[af.out]) (by simp[h2]) rfl];rfl);clear h2 HR HL6 HX6;go_upto_region 4 with fail;refine a3p (ht0:=by rfl) (ht3:=by rfl) (y8:=by rfl) (hl:=C.out) (h0:=aB.out) (hsz:=by rfl) (hI0:=λ_=>HI.drew) ?_;intro vs W hF;clear HI;simp only[vG,iX,jg,jf];have HF:=Y hF;clear hF;have⟨⟨z0,z1,z2,z3,z4,z5,z6⟩,_⟩:=pW HF.fo;have⟨⟨y0,y1,y2,y3,y4,y5,y6⟩,q0,q1,q2,q3,q4,q5,q6⟩:=pW HF.rs;unfold DJ at y0 y1 y2 y3 y4 y5 y6;dsimp only at y0 y1 y2 y3 y4 y5 y6;go_wp2_with fail;rw[Be _ _ J];have⟨⟨d0,d1,d2,d3,d4,d5,d6⟩,_⟩:=pW (yL (x:=J) HF.rs);have hbel:=vL (x:=J) HF.pV (jO g);generalize DK _ _ J=W9 at*;refine iY (v:=mJ #[mI J.cs,mH o4.isSome]) (by simp[jv,Tryz.results91,go_sem,d0,d1,d2,d3,d4,d5,d6,RC.cs]) rfl ⟨?_,hbel⟩;rw[HE.out,ak.out]
  .have ax:((f.id:Int)==0)=M:=nk
   have HE:R (ag=U):=Y (by rw[HR.out u M (by simp[af.out]) (by simp[h2]) rfl];rfl);exact ZG
 .have t1:(c.fmt==1)=M:=by simp[A]
  have aI:(c.fmt !=1)=u:=by simp[A]
  have af:=Y A;clear A;by_cases h2:f.name.size=0
  .have ax:(f.name.toList==([]:List AC))=u:=by rw[wO];simp[h2]
   have HE:R (ag=aH):=Y (by rw[HR.out M _ (by simp[af.out]) rfl rfl,a8 h2];rfl);clear h2 HR C ak;go_upto_region 6 with fail;refine a3q (ht0:=by rfl) (ht3:=by rfl) (y8:=by rfl) (hl:=HL6.out) (h0:=aB.out) (hsz:=by rfl) (hI0:=λ_=>HI.drew) ?_;intro vs W hF;clear HI;simp only[vG,iX,jg,jf];have HF:=Y hF;clear hF;have⟨⟨z0,z1,z2,z3,z4,z5,z6⟩,_⟩:=pW HF.fo;have⟨⟨y0,y1,y2,y3,y4,y5,y6⟩,q0,q1,q2,q3,q4,q5,q6⟩:=pW HF.rs;unfold DJ at y0 y1 y2 y3 y4 y5 y6;dsimp only at y0 y1 y2 y3 y4 y5 y6;go_wp2_with fail;rw[Be _ _ aa];have⟨⟨d0,d1,d2,d3,d4,d5,d6⟩,_⟩:=pW (yL (x:=aa) HF.rs);have hbel:=vL (x:=aa) HF.pV (jO g);generalize DK _ _ aa=W9 at*;refine iY (v:=mJ #[mI aa.cs,mH aH.isSome]) (by simp[jv,Tryz.results91,go_sem,d0,d1,d2,d3,d4,d5,d6,RC.cs]) rfl ⟨?_,hbel⟩;rw[HE.out,HX6.out]
  .have ax:(f.name.toList==([]:List AC))=M:=by rw[wO];simp[h2]
   have HE:R (ag=U):=Y (by rw[HR.out M _ (by simp[af.out]) rfl rfl,bh h2];rfl);exact ZG
end
section
open Go.RowKit
def zq{a b c:iQ}(hB:∃a0 b0 c0,mY W g #[a0,b0,c0] IT)(hb:iR g w W):mY (o8 W g a b c) g #[a,b,c] IT/\iR g w (o8 W g a b c):=by
 obtain⟨a0,b0,c0,h⟩:=hB;exact⟨((h.set 0 a).set 1 b).set 2 c,((hb.setCell (p:=(Z g 0 U)) ny _).setCell (p:=(Z g 1 U)) ny _).setCell (p:=(Z g 2 U)) ny _⟩
def EX(s:An)(w:K):
  iW iN 227 #[H s] w λe w'=>e=mK (mI #[H s,mH M,G U 0 0])/\iR w.heap.size w w':=by
 obtain⟨g,hg⟩:=o7 w;have C:=mY.new w #[H ⟨#[]⟩,mH M,G U 0 0] IT;have E:=(iT w.heap.size w).alloc (iP _) (mM #[H ⟨#[]⟩,mH M,G U 0 0] IT);rw[hg]at C E|-;have N:=Y C;have aa:=Y E;go_in;go_upto_region 1 with fail;have A:=N.out;have J:=aa.out;generalize w.alloc _=w1 at*;have⟨aj,ak,au,z0,av,ax⟩:=A.b3;have ae:=Y J;have af:=Y A;go_wp2_with fail;rw[pO];have⟨hB,hb⟩:=zq (a:=H s) (b:=mH M) (c:=G U 0 0) ⟨_,_,_,af.out⟩ ae.out;have⟨ag,ah,ai⟩:=hB.a3;refine iY (v:=mI #[H s,mH M,G U 0 0]) (by simp[jv,Tryz.results227,go_sem,ag,ah,ai]) rfl ⟨rfl,hb⟩
def MJ(n:Nat)(w:K)(s:An)(hL:∀W,iW iN 202 #[V mP n] W λe w'=>e=mK (H s)/\iR W.heap.size W w'):
  iW iN 248 #[V mP n] w λe w'=>e=mK (mI #[H s,mH M,G U 0 0])/\iR w.heap.size w w':=by
 obtain⟨g,hg⟩:=o7 w;have aa:=mY.new w #[H ⟨#[]⟩,mH M,G U 0 0] IT;have ae:=(iT w.heap.size w).alloc (iP _) (mM #[H ⟨#[]⟩,mH M,G U 0 0] IT);rw[hg]at aa ae|-;have aj:=Y aa;have ak:=Y ae;have au:=Y hL;have av:=Y (EX s);go_in;go_upto_region 1 with fail;have af:=aj.out;have ag:=ak.out;generalize w.alloc _=w1 at*;have ax:=Y ag;have N:=Y af;go_wp2_with fail;refine pG (au _) λw2 C=> ?_
 have A:=Y (a7 C N N.lt);have ah:=Y (ax.trans (C.mono (by have:=N.lt;omega)));go_wp2_with fail;refine pG (av _) λw3 E=> ?_
 have J:=Y (a7 E A A.lt);have ai:=Y (ah.trans (E.mono (by have:=A.lt;omega)));have⟨aB,aD,aF,z0,aG,aH⟩:=J.b3;go_wp2_with fail;rw[pO];have⟨hB,hb⟩:=zq (a:=H s) (b:=mH M) (c:=G U 0 0) ⟨_,_,_,J.out⟩ ai.out;have⟨ay,az,aA⟩:=hB.a3;refine iY (v:=mI #[H s,mH M,G U 0 0]) (by simp[jv,Tryz.results248,go_sem,ay,az,aA]) rfl ⟨rfl,hb⟩
abbrev Gx:jl:=258
def BL(cb:Nat):iQ:=.func (.func 145) #[mG (O (Z cb 0 U))] #[]
def DL(cb:Nat):iQ:=.func (.func 191) #[mG (O (Z cb 0 U))] #[]
def Ez(cb:Nat):iQ:=.func (.func 146) #[mG (O (Z cb 0 U))] #[]
def CE(cb:Nat):iQ:=.func (.func 189) #[mG (O (Z cb 0 U))] #[]
def BM(fb:Nat):iQ:=.func (.func 209) #[] #[mG (O (Z fb 0 U))]
def FT(cb lb fb:Nat):Array iQ:=#[BL cb,DL cb,Ez cb,CE cb,BM fb,mG (O (Z lb 0 U))]
structure BN(cb lb fb:Nat)(r:RS)(l:Nat)(w:K):Prop where
 rd:wL w cb r
 ok:(r.Ok/\r.t.size<=100000)/\l<=1024
 lf:mY w lb #[V X (l:Nat)] 3
 fr:mY w fb #[mG (O (Z cb 0 U))] 193
 tab:BC w
 ne:cb≠lb/\fb≠cb/\fb≠lb/\0≠cb/\0≠lb
section
variable {cb lb fb l:Nat}{r:RS}{w w':K}
def xN{q:Nat}(h:BC w)(ar:oC b q w w')(A:0≠b)(C:0≠q):BC w':=by
 have hb:=ar.block 0 h.lt A C;exact UJ
def x9{q:Nat}(h:oO b w w'):oC b q w w':=⟨h.os,h.tape,h.output,h.size,λk hk hb _=>h.block k hk (by simpa using hb)⟩
def BN.below(h:BN cb lb fb r l w)(hb:iR w.heap.size w w'):BN cb lb fb r l w':=
 ⟨a7 hb h.rd (mY.lt h.rd),h.ok,a7 hb h.lf h.lf.lt,a7 hb h.fr h.fr.lt,xN h.tab (oC.of (b:=cb) (q:=lb) hb) h.ne.2.2.2.1 h.ne.2.2.2.2,h.ne⟩
def BN.turn{r':RS}(h:BN cb lb fb r l w)(A:oO cb w w')(C:wL w' cb r')(ho:r'.Ok/\r'.t.size<=100000):BN cb lb fb r' l w':=
 have ar:=x9 (q:=lb) A
 ⟨C,⟨ho,h.ok.2⟩,A.blk h.lf (mf h.ne.1),A.blk h.fr h.ne.2.1,xN h.tab ar h.ne.2.2.2.1 h.ne.2.2.2.2,h.ne⟩
def BN.BU(h:BN cb lb fb r l w)(m:Nat)(A:m<=1024):BN cb lb fb r m (w.setCell (Z lb 0 U) (V X (m:Nat))):=
 ⟨cx (a:=(Z lb 0 U)) h.rd h.ne.1 _,⟨h.ok.1,A⟩,h.lf.set 0 _,cx (a:=(Z lb 0 U)) h.fr h.ne.2.2.1 _,xN h.tab ((eI cb lb w).QS 0 _) h.ne.2.2.2.1 h.ne.2.2.2.2,h.ne⟩
end
def ZH(h:p:=by
 unfold RS.comp at hf|-;split at hf
 .rename_i h0
  rw[Ax h0];dsimp only at hf|-;split at hf;.rename_i h1;exact absurd rfl hf
  .rename_i h1;rw[At h1];exact jB _
 .rename_i h0
  rw[At h0];exact jB _):p:=h
def Jc(cb lb fb l:Nat)(r:RS)(most:Nat)(w:K)(h:BN cb lb fb r l w)(aa:most<=65536):
  iW iN 209 #[V X most,mG (O (Z fb 0 U))] w λe w'=>e=mK (V X (r.comp most).2)/\BN cb lb fb (r.comp most).1 l w'/\oO cb w w':=by
 have c0:=h.fr.c0;have E:=Y (Xb cb r most w h.ok.1.1 h.rd I h.tab h.ne.2.2.2.1);have N:(r.comp most).2<=65536:=by
  by_cases hf:(r.comp most).1.f=0;.have:=yI hf;omega
  .exact ZH
 have J:=Y (λw' (A:oO cb w w') C=>h.turn A C ⟨h.ok.1.1.comp most,by rw[MF];exact h.ok.1.2⟩);generalize r.comp most=y at*;obtain⟨r2,n⟩:=y;dsimp only at*;go_in;go_wp2_with fail;refine vF E λw2 A C=> ?_
 go_wp2;go_returns;exact⟨rfl,J w2 A C,A⟩
abbrev sG:jl:=63
def DN{Q:Nat->Prop}{s:List (mW TL)}(h:nK.nA w Q (G oa n cap) s){i:Nat}{x:mW TL}(A:s[i]? =O x):
  ∃b off ou cu,oa=O (Z b off U)/\b<w.heap.size/\Q b/\w.cell? (Z b (off+i*4) U)=O (V X x.lab.kind)/\w.cell? (Z b (off+i*4+1) U)=O (V X x.lab.size)/\
   w.cell? (Z b (off+i*4+2) U)=O (G ou x.sub.length cu)/\w.cell? (Z b (off+i*4+3) U)=O (V X x.lab.tail)/\nK.nA w Q (G ou x.sub.length cu) x.sub:=by
 have⟨aa,C,E,ae,af,J⟩:=Shape.nA.get h;cases E;have⟨b,off,ar,e,hb,N,ho,hc,hs⟩:=J i x A;obtain⟨ou,cu,rfl,_⟩:=hs;exact⟨b,off,ou,cu,e,hb,N,by simpa [nK,j3]using hc 0 mX,by simpa [nK,j3]using hc 1 mX,by simpa [nK,j3]using hc 2 mX,by simpa [nK,j3]using hc 3 mX,⟨ou,cu,rfl,‹_›⟩⟩
def EY(Q:Nat->Prop)(y:mW TL)(b:Bool)(w:K)(e:kV)(w':K):Prop:=
 ∃ou cu,e=mK (mJ #[mI #[V X y.lab.kind,V X y.lab.size,G ou y.sub.length cu,V X y.lab.tail],mH b])/\nK.nA w' Q (G ou y.sub.length cu) y.sub/\iR w.heap.size w w'
def zt(w:K)(k:Nat)(a b c d:iQ):K:=(((w.setCell (Z k 0 U) a).setCell (Z k 1 U) b).setCell (Z k 2 U) c).setCell (Z k 3 U) d
def uu(w:K)(k:Nat)(a b c d:iQ):(((w.setCell (Z k 0 U) a).setCell (Z k 1 U) b).setCell (Z k 2 U) c).setCell (Z k 3 U) d=zt w k a b c d:=rfl
def uF{a b c:iQ}(h:iR B w0 w)(hk:B<=k):iR B w0 (zt w k a b c d):=
 (((h.setCell (p:=(Z k 0 U)) hk _).setCell (p:=(Z k 1 U)) hk _).setCell (p:=(Z k 2 U)) hk _).setCell (p:=(Z k 3 U)) hk _
def rT{a b c a0 b0 c0 A:iQ}(h:mY w k #[a0,b0,c0,A] t):mY (zt w k a b c d) k #[a,b,c,d] t:=(((h.set 0 a).set 1 b).set 2 c).set 3 d
def nR{a b c:iQ}(h:mY W k #[a,b,c,d] t):(W.cell? (Z k 0 U)=O a/\W.cell? (Z k 1 U)=O b/\W.cell? (Z k 2 U)=O c/\W.cell? (Z k 3 U)=O d)/\
  W.frozen? (Z k 0 U)=M/\W.frozen? (Z k 1 U)=M/\W.frozen? (Z k 2 U)=M/\W.frozen? (Z k 3 U)=M:=⟨⟨h.cell 0,h.cell 1,h.cell 2,h.cell 3⟩,h.free 0,h.free 1,h.free 2,h.free 3⟩
def ZI(hg:w.heap.size=g):∀W,w.alloc (mM #[V X 0,V X 0,G U 0 0,V X 0] sG)=W->iR g w W/\mY W g #[V X 0,V X 0,G U 0 0,V X 0] sG:=by
 rintro W rfl;subst hg;exact⟨(iT _ _).alloc (iP _) _,mY.new w _ _⟩
def a3r(tb i:Nat)(a:TL)(y:mW TL)(ot:Option j4)(n ct:Nat)(s:List (mW TL))(Q:Nat->Prop)(w:K)(ht:mY w tb #[V X a.kind,V X a.size,G ot n ct,V X a.tail] sG)(hs:nK.nA w Q (G ot n ct) s)(hy:s[0]? =O y):
  iW iN 250 #[V X i,mG (O (Z tb 0 U))] w (EY Q y u w):=by
 have⟨aB,ai,aj,aD,aF,_⟩:=Shape.nA.get hs;have hlen:0<s.length:=(jU.1 hy).1;cases aj;obtain⟨b,off,ou,cu,rfl,hb,ak,c0,c1,c2,c3,C⟩:=DN hs hy;rw[Nat.zero_mul,mh]at c0 c1 c2 c3;obtain⟨g,hg⟩:=o7 w;have af:=Y (ZI hg);have A:b<g:=hg▸hb;have ag:tb<g:=hg▸ht.lt;have ae:=Y (λW (h:iR g w W)=>(Shape.nA.below C (hg.symm▸h):nK.nA W Q (G ou y.sub.length cu) y.sub));have ah:R (∀W,iR g w W->(W.cell? (Z tb 2 U)=O (G (O (Z b off U)) s.length ct))/\W.cell? (Z b off U)=O (V X y.lab.kind)/\W.cell? (Z b (off+1) U)=O (V X y.lab.size)/\W.cell? (Z b (off+2) U)=O (G ou y.sub.length cu)/\W.cell? (Z b (off+3) U)=O (V X y.lab.tail)):=Y λW h=>
  ⟨(h.cell (p:=(Z tb 2 U)) ag).trans (ht.cell 2),(h.cell (p:=(Z b off U)) A).trans c0,(h.cell (p:=(Z b (off+1) U)) A).trans c1,(h.cell (p:=(Z b (off+2) U)) A).trans c2,(h.cell (p:=(Z b (off+3) U)) A).trans c3⟩
 unfold EY;rw[hg];clear ht hs C c0 c1 c2 c3 hb ak;generalize s.length=N at*;generalize y.sub.length=aw at*;go_in;go_upto_region 1 with fail;have⟨E,J⟩:=af.out _ rfl;generalize w.alloc _=w1 at*;have⟨aG,e1,e2,e3,e4⟩:=ah.out _ E;have⟨⟨aH,aI,aJ,aK⟩,aL,aM,aN,aO⟩:=nR J;have au:=Y E;have av:=Y J;clear af E J ah;go_wp2_with fail;rw[uu];have⟨⟨ax,ay,az,aA⟩,_⟩:=nR (rT (a:=V X y.lab.kind) (b:=V X y.lab.size) (c:=G ou aw cu) (d:=V X y.lab.tail) av);have aa:=uF (a:=V X y.lab.kind) (b:=V X y.lab.size) (c:=G ou aw cu) (d:=V X y.lab.tail) au (iP g);refine iY (v:=mJ #[mI #[V X y.lab.kind,V X y.lab.size,G ou aw cu,V X y.lab.tail],mH u]) (by simp[jv,Tryz.results250,go_sem,ax,ay,az,aA]) rfl ⟨ou,cu,rfl,ae _ aa,aa⟩
structure NY(g tb rb cb lb fb:Nat)(r:RS)(a:TL)(ot:Option j4)(n ct:Nat)(w0:K)(k z:Int)(ou:Option j4)(nu cu:Nat)(tl:Int)(W:K):Prop where
 tb:mY W tb #[V X a.kind,V X a.size,G ot n ct,V X a.tail] sG
 rb:mY W rb (FT cb lb fb) Gx
 rd:wL W cb r
 rs:mY W g #[V X k,V X z,G ou nu cu,V X tl] sG
 pV:iR g w0 W
def NY.drewN{a:TL}{k:Int}(h:NY g tb rb cb lb fb r a ot n ct w0 k z ou nu cu tl W)(m:Nat):NY g tb rb cb lb fb r a ot n ct w0 k z ou nu cu tl (W.drewN m):=
 ⟨h.tb,h.rb,h.rd,h.rs,⟨h.pV.os,h.pV.tape,h.pV.output,h.pV.size,h.pV.block⟩⟩
def NY.drew{a:TL}{k:Int}(h:NY g tb rb cb lb fb r a ot n ct w0 k z ou nu cu tl W):NY g tb rb cb lb fb r a ot n ct w0 k z ou nu cu tl W.drew:=
 ⟨h.tb,h.rb,h.rd,h.rs,⟨h.pV.os,h.pV.tape,h.pV.output,h.pV.size,h.pV.block⟩⟩
def NY.put{a:TL}{k N aa:Int}{A:Option j4}{C E:Nat}{J:Int}(h:NY g tb rb cb lb fb r a ot n ct w0 k z ou nu cu tl W)(ae:tb<g)(af:rb<g)(ag:cb<g):
  NY g tb rb cb lb fb r a ot n ct w0 N aa A C E J (zt W g (V X N) (V X aa) (G A C E) (V X J)):=
 have o:∀{c:Nat}{cs:Array iQ}{t:jl},mY W c cs t->c≠g->mY (zt W g (V X N) (V X aa) (G A C E) (V X J)) c cs t:=λh hn=>
  (((h.setOther (a:=(Z g 0 U)) hn _).setOther (a:=(Z g 1 U)) hn _).setOther (a:=(Z g 2 U)) hn _).setOther (a:=(Z g 3 U)) hn _
 ⟨o h.tb I,o h.rb I,o h.rd I,rT h.rs,uF h.pV (iP g)⟩
noncomputable def GU:List kC:=cO (cL (cR (cB Tryz.f251)))
section
variable (g tb rb cb lb fb:Nat)(r:RS)(ta:TL)(bo off n ct:Nat)(w0:K)(ix:Nat)(k z:Int)(ou:Option j4)(nu cu:Nat)(tl:Int)
def uw:Nat->iQ
 |0=> mG (O (Z tb 2 U))
 |1=> G (O (Z bo off U)) n ct
 |2=> V X ix
 |3=> mG (O (Z bo (off+ix*4) U))
 |4=> mI #[V X k,V X z,G ou nu cu,V X tl]
 |5=> V X ix
 |6=> mG (O (Z tb 2 U))
 |7=> G (O (Z bo off U)) n ct
 |8=> V X n
 |9=> mG (O (Z tb 3 U))
 |10=> V X ta.tail
 |11=> V X ((n:Int) - ta.tail)
 |12=> mH u
 |13=> mH u
 |18=> mH u
 |20=> mH u
 |_=>jw
structure a8y(D:Nat->Bool)(vs:Nat->iQ)(w:K):Prop where
 nP:NY g tb rb cb lb fb r ta (O (Z bo off U)) n ct w0 (if(D 19)=u then k else 0) (if(D 19)=u then z else 0) (if(D 19)=u then ou else U) (if(D 19)=u then nu else 0) (if(D 19)=u then cu else 0) (if(D 19)=u then tl else 0) w
 val:∀j,(u)=u->D j=u->vs j=uw tb ta bo off n ct ix k z ou nu cu tl j
variable {g tb rb cb lb fb r ta bo off n ct w0 ix k z ou nu cu tl}
def UQ(h:p:=by
 have hW:=hI.nP;rw[hd]at hW;have⟨⟨y0,y1,y2,y3⟩,q0,q1,q2,q3⟩:=nR hW.rs;go_simp;rw[uu];refine hK jw _ _ rfl ⟨?_,uj hI.val⟩;rw[nL];exact hW.put hlt.1 hlt.2.1 hlt.2.2):p:=h
def a3s{id:Nat}(ht1:a0.tmps.getD 1 jw=mG (O (Z tb 0 U)))(ht0:a0.tmps.getD 0 jw=V X ix)(hin:ix<n)(hn:n<=100000)(hel:∀W,iR g w0 W->W.cell? (Z bo (off+ix*4) U)=O (V X k)/\W.cell? (Z bo (off+ix*4+1) U)=O (V X z)/\W.cell? (Z bo (off+ix*4+2) U)=O (G ou nu cu)/\W.cell? (Z bo (off+ix*4+3) U)=O (V X tl))(htl:0<=ta.tail/\ta.tail<=100000)(hb:As ((ix:Int)<(n:Int) - ta.tail)=u)(ht2:a0.tmps.getD 2 jw=mG (O (Z rb 0 U)))(GM:a0.tmps.getD 4 jw=mG (O (Z g 0 U)))(hlt:tb<g/\rb<g/\cb<g)(hsz:a0.tmps.size=25)(hI0:∀vs:Nat->iQ,(λw=>NY g tb rb cb lb fb r ta (O (Z bo off U)) n ct w0 (if M=u then k else 0) (if M=u then z else 0) (if M=u then ou else U) (if M=u then nu else 0) (if M=u then cu else 0) (if M=u then tl else 0) w) ws.drew)(aa:∀(vs:Nat->iQ) (w:K),NY g tb rb cb lb fb r ta (O (Z bo off U)) n ct w0 (if u=u then k else 0) (if u=u then z else 0) (if u=u then ou else U) (if u=u then nu else 0) (if u=u then cu else 0) (if u=u then tl else 0) w->Q .normal {a0 with tmps:=vG a0.tmps [(6,mG (O (Z tb 2 U))),(7,G (O (Z bo off U)) n ct),(8,V X ix),(9,mG (O (Z bo (off+ix*4) U))),(10,mI #[V X k,V X z,G ou nu cu,V X tl]),(11,V X ix),(12,mG (O (Z tb 2 U))),(13,G (O (Z bo off U)) n ct),(14,V X n),(15,mG (O (Z tb 3 U))),(16,V X ta.tail),(17,V X ((n:Int) - ta.tail)),(18,mH u),(19,mH u),(20,jw),(21,jw),(22,jw),(23,jw),(24,mH u),(5,mH u)]} w):
  (jZ id GU.toArray u).wp iN Q a0 ws:=by
 refine nJ 21 25 (a8y g tb rb cb lb fb r ta bo off n ct w0 ix k z ou nu cu tl) mZ hsz mZ (.inl rfl) mZ ?_ ?_ ?_;.exact qg
 .refine rR λA ak=> ?_
  clear hI0 aa hsz;replace ht1:=Y ht1;replace ht0:=Y ht0;replace hin:=Y hin;replace hn:=Y hn;replace hel:=Y hel;replace htl:=Y htl;replace hb:=Y hb;replace ht2:=Y ht2;replace GM:=Y GM;replace hlt:=Y hlt;dsimp+instances only[GU,cO,cL,cR,cB,Tryz.f251];simp only[jm,jI,qU];refine⟨?_,?_,?_,?_,?_,?_,?_,?_,?_,?_,?_,?_,?_,?_,?_,?_,?_,?_,?_,?_,?_,trivial⟩<;>(intro D vs a w aq hI hd E ay C hK;subst ak;dsimp+instances only[GU,cO,cL,cR,cB,Tryz.f251]);have e1:=(C 1 mX).trans ht1.out;rotate_left;have au:=fe C hI.val E 6 0;simp only[uw]at au;have c0:=hI.nP.tb.c2;rotate_left;have av:=(C 0 mX).trans ht0.out;rotate_left;have hin:=hin.out;have hn:=hn.out;have aI:=fe C hI.val E 7 1;have aJ:=fe C hI.val E 8 2;rotate_left;have hel:=hel.out;have ax:=fe C hI.val E 9 3;simp only[uw]at ax;have⟨c0,c1,c2,c3⟩:=hel w hI.nP.pV;rotate_left;have av:=(C 0 mX).trans ht0.out;rotate_left;have e1:=(C 1 mX).trans ht1.out;rotate_left;have ae:=fe C hI.val E 12 6;simp only[uw]at ae;have c0:=hI.nP.tb.c2;rotate_left;have az:=fe C hI.val E 13 7;rotate_left;have e1:=(C 1 mX).trans ht1.out;rotate_left;have af:=fe C hI.val E 15 9;simp only[uw]at af;have c0:=hI.nP.tb.c3;rotate_left;have htl:=htl.out;have hn:=hn.out;have ag:=fe C hI.val E 14 8;have ah:=fe C hI.val E 16 10;simp only[uw]at ag ah;have aA:IntKind.i64.wrap ((n:Int) - ta.tail)=(n:Int) - ta.tail:=IntWalk.i64_in _ I;rotate_left;have hb:=hb.out;have aB:=fe C hI.val E 11 5;have aD:=fe C hI.val E 17 11;rotate_left;have aF:=fe C hI.val E 18 12;rotate_left;have J:=fe C hI.val E 19 13;simp only[uw]at J;have N:=uP J;rotate_left;have J:=fe C hI.val E 19 13;simp only[uw]at J;have N:=uP J;rotate_left;have J:=fe C hI.val E 19 13;simp only[uw]at J;have N:=uP J;rotate_left;have J:=fe C hI.val E 19 13;simp only[uw]at J;have N:=uP J;rotate_left;have J:=fe C hI.val E 19 13;have aG:=fe C hI.val E 23 17;rotate_left
  .have hlt:=hlt.out
   have e4:=(C 4 mX).trans GM.out;have ai:=fe C hI.val E 10 4;simp only[uw]at ai;exact UQ
  have aH:=fe C hI.val E 24 18;rotate_left
  all_goals
   try simp only[uw]at*
   go_simp;exact hK _ _ _ rfl ⟨hI.nP,uj hI.val⟩
 .intro D vs w aj hI
  have E:=hI.nP;rw[aj 19 mX]at E;have q:=aa vs w E;rw[oD hI.val aj];dsimp+instances only[GU,cO,cL,cR,cB,Tryz.f251];exact qf
end
noncomputable def GV:List kC:=cO (cL (cR (cB Tryz.f251)))
section
variable (g tb rb cb lb fb:Nat)(r:RS)(ta:TL)(bo off n ct:Nat)(w0:K)(ix:Nat)(k z:Int)(ou:Option j4)(nu cu:Nat)(tl:Int)
def sO:Nat->iQ
 |0=> mG (O (Z tb 2 U))
 |1=> G (O (Z bo off U)) n ct
 |2=> V X ix
 |3=> mG (O (Z bo (off+ix*4) U))
 |4=> mI #[V X k,V X z,G ou nu cu,V X tl]
 |5=> V X ix
 |6=> mG (O (Z tb 2 U))
 |7=> G (O (Z bo off U)) n ct
 |8=> V X n
 |9=> mG (O (Z tb 3 U))
 |10=> V X ta.tail
 |11=> V X ((n:Int) - ta.tail)
 |12=> mH M
 |13=> mH M
 |14=> mG (O (Z rb 3 U))
 |15=>CE cb
 |16=> V X ((r.t.size:Int) - r.p)
 |17=> mH (As (r.p<r.t.size))
 |18=> mH (As (r.p<r.t.size))
 |20=> mH (As (r.p<r.t.size))
 |_=>jw
structure ZJ(D:Nat->Bool)(vs:Nat->iQ)(w:K):Prop where
 nP:NY g tb rb cb lb fb r ta (O (Z bo off U)) n ct w0 (if(D 19)=u then k else 0) (if(D 19)=u then z else 0) (if(D 19)=u then ou else U) (if(D 19)=u then nu else 0) (if(D 19)=u then cu else 0) (if(D 19)=u then tl else 0) w
 val:∀j,(u)=u->D j=u->vs j=sO tb rb cb r ta bo off n ct ix k z ou nu cu tl j
variable {g tb rb cb lb fb r ta bo off n ct w0 ix k z ou nu cu tl}
def ZK(h:ZJ g tb rb cb lb fb r ta bo off n ct w0 ix k z ou nu cu tl D vs w){i:Nat}(hi:i≠19)(A:NY g tb rb cb lb fb r ta (O (Z bo off U)) n ct w0 (if(D 19)=u then k else 0) (if(D 19)=u then z else 0) (if(D 19)=u then ou else U) (if(D 19)=u then nu else 0) (if(D 19)=u then cu else 0) (if(D 19)=u then tl else 0) w->NY g tb rb cb lb fb r ta (O (Z bo off U)) n ct w0 (if(D 19)=u then k else 0) (if(D 19)=u then z else 0) (if(D 19)=u then ou else U) (if(D 19)=u then nu else 0) (if(D 19)=u then cu else 0) (if(D 19)=u then tl else 0) w'):ZJ g tb rb cb lb fb r ta bo off n ct w0 ix k z ou nu cu tl (zR D i) (zS vs i (sO tb rb cb r ta bo off n ct ix k z ou nu cu tl i)) w':=by
 refine⟨?_,uj h.val⟩;rw[nz D (show 19≠i by omega)];exact A h.nP
def a3t{id:Nat}(ht1:a0.tmps.getD 1 jw=mG (O (Z tb 0 U)))(ht0:a0.tmps.getD 0 jw=V X ix)(hin:ix<n)(hn:n<=100000)(hel:∀W,iR g w0 W->W.cell? (Z bo (off+ix*4) U)=O (V X k)/\W.cell? (Z bo (off+ix*4+1) U)=O (V X z)/\W.cell? (Z bo (off+ix*4+2) U)=O (G ou nu cu)/\W.cell? (Z bo (off+ix*4+3) U)=O (V X tl))(htl:0<=ta.tail/\ta.tail<=100000)(hb:As ((ix:Int)<(n:Int) - ta.tail)=M)(ht2:a0.tmps.getD 2 jw=mG (O (Z rb 0 U)))(hok:r.Ok)(GM:a0.tmps.getD 4 jw=mG (O (Z g 0 U)))(hlt:tb<g/\rb<g/\cb<g)(hsz:a0.tmps.size=25)(hI0:∀vs:Nat->iQ,(λw=>NY g tb rb cb lb fb r ta (O (Z bo off U)) n ct w0 (if M=u then k else 0) (if M=u then z else 0) (if M=u then ou else U) (if M=u then nu else 0) (if M=u then cu else 0) (if M=u then tl else 0) w) ws.drew)(ae:∀(vs:Nat->iQ) (w:K),NY g tb rb cb lb fb r ta (O (Z bo off U)) n ct w0 (if u=u then k else 0) (if u=u then z else 0) (if u=u then ou else U) (if u=u then nu else 0) (if u=u then cu else 0) (if u=u then tl else 0) w->Q .normal {a0 with tmps:=vG a0.tmps [(6,mG (O (Z tb 2 U))),(7,G (O (Z bo off U)) n ct),(8,V X ix),(9,mG (O (Z bo (off+ix*4) U))),(10,mI #[V X k,V X z,G ou nu cu,V X tl]),(11,V X ix),(12,mG (O (Z tb 2 U))),(13,G (O (Z bo off U)) n ct),(14,V X n),(15,mG (O (Z tb 3 U))),(16,V X ta.tail),(17,V X ((n:Int) - ta.tail)),(18,mH M),(19,mH M),(20,mG (O (Z rb 3 U))),(21,CE cb),(22,V X ((r.t.size:Int) - r.p)),(23,mH (As (r.p<r.t.size))),(24,mH (As (r.p<r.t.size))),(5,mH (As (r.p<r.t.size)))]} w):
  (jZ id GV.toArray u).wp iN Q a0 ws:=by
 refine nJ 21 25 (ZJ g tb rb cb lb fb r ta bo off n ct w0 ix k z ou nu cu tl) mZ hsz mZ (.inl rfl) mZ ?_ ?_ ?_;.exact qg
 .refine rR λA ax=> ?_
  clear hI0 ae hsz;replace ht1:=Y ht1;replace ht0:=Y ht0;replace hin:=Y hin;replace hn:=Y hn;replace hel:=Y hel;replace htl:=Y htl;replace hb:=Y hb;replace ht2:=Y ht2;replace hok:=Y hok;replace GM:=Y GM;replace hlt:=Y hlt;dsimp+instances only[GV,cO,cL,cR,cB,Tryz.f251];simp only[jm,jI,qU];refine⟨?_,?_,?_,?_,?_,?_,?_,?_,?_,?_,?_,?_,?_,?_,?_,?_,?_,?_,?_,?_,?_,trivial⟩<;>(intro D vs a w aq hI hd E aD C hK;subst ax;dsimp+instances only[GV,cO,cL,cR,cB,Tryz.f251]);have e1:=(C 1 mX).trans ht1.out;rotate_left;have ay:=fe C hI.val E 6 0;simp only[sO]at ay;have c0:=hI.nP.tb.c2;rotate_left;have az:=(C 0 mX).trans ht0.out;rotate_left;have hin:=hin.out;have hn:=hn.out;have aM:=fe C hI.val E 7 1;have aN:=fe C hI.val E 8 2;rotate_left;have hel:=hel.out;have aA:=fe C hI.val E 9 3;simp only[sO]at aA;have⟨c0,c1,c2,c3⟩:=hel w hI.nP.pV;rotate_left;have az:=(C 0 mX).trans ht0.out;rotate_left;have e1:=(C 1 mX).trans ht1.out;rotate_left;have af:=fe C hI.val E 12 6;simp only[sO]at af;have c0:=hI.nP.tb.c2;rotate_left;have aF:=fe C hI.val E 13 7;rotate_left;have e1:=(C 1 mX).trans ht1.out;rotate_left;have ag:=fe C hI.val E 15 9;simp only[sO]at ag;have c0:=hI.nP.tb.c3;rotate_left;have htl:=htl.out;have hn:=hn.out;have ah:=fe C hI.val E 14 8;have ai:=fe C hI.val E 16 10;simp only[sO]at ah ai;have aG:IntKind.i64.wrap ((n:Int) - ta.tail)=(n:Int) - ta.tail:=IntWalk.i64_in _ I;rotate_left;have hb:=hb.out;have aH:=fe C hI.val E 11 5;have aI:=fe C hI.val E 17 11;rotate_left;have aJ:=fe C hI.val E 18 12;rotate_left;have e2:=(C 2 mX).trans ht2.out;have J:=fe C hI.val E 19 13;simp only[sO]at J;have N:=uP J;rotate_left;have aj:=fe C hI.val E 20 14;have J:=fe C hI.val E 19 13;simp only[sO]at aj J;have N:=uP J;have c0:=hI.nP.rb.cell 3;simp only[FT,ji,jb,jc]at c0;rotate_left
  .have hok:=hok.out
   have aa:=fe C hI.val E 21 15;have J:=fe C hI.val E 19 13;simp only[sO]at aa J;have N:=uP J;have aB:=FD cb r w hok hI.nP.rd;unfold CE at aa;go_simp;refine aB.mono ?_;rintro e aO ⟨rfl,m,rfl⟩;exact hK (sO tb rb cb r ta bo off n ct ix k z ou nu cu tl 16) _ _ rfl (ZK hI (i:=16) mX λh=>h.drewN m)
  have ak:=fe C hI.val E 22 16;have J:=fe C hI.val E 19 13;simp only[sO]at ak J;have N:=uP J;rotate_left;have J:=fe C hI.val E 19 13;have aK:=fe C hI.val E 23 17;rotate_left
  .have hlt:=hlt.out
   have e4:=(C 4 mX).trans GM.out;have au:=fe C hI.val E 10 4;simp only[sO]at au;exact UQ
  have aL:=fe C hI.val E 24 18;rotate_left
  all_goals
   try simp only[sO]at*
   go_simp;exact hK _ _ _ rfl ⟨hI.nP,uj hI.val⟩
 .intro D vs w av hI
  have E:=hI.nP;rw[av 19 mX]at E;have q:=ae vs w E;rw[oD hI.val av];dsimp+instances only[GV,cO,cL,cR,cB,Tryz.f251];exact qf
end
def a3u(tb rb cb lb fb ix:Nat)(r:RS)(ta:TL)(y:mW TL)(ot:Option j4)(n ct:Nat)(s:List (mW TL))(Q:Nat->Prop)(w:K)(ht:mY w tb #[V X ta.kind,V X ta.size,G ot n ct,V X ta.tail] sG)(ae:mY w rb (FT cb lb fb) Gx)(C:wL w cb r)(hok:r.Ok)(hs:nK.nA w Q (G ot n ct) s)(hy:s[ix]? =O y)(hn:s.length<=100000)(htl:0<=ta.tail/\ta.tail<=100000):
  iW iN 251 #[V X ix,mG (O (Z tb 0 U)),mG (O (Z rb 0 U))] w (EY Q y (As ((ix:Int)<s.length - ta.tail)||As (r.p<r.t.size)) w):=by
 have⟨aF,aA,aB,aG,aH,_⟩:=Shape.nA.get hs;have hlen:ix<s.length:=(jU.1 hy).1;cases aB;obtain⟨b,off,ou,cu,rfl,hb,aD,c0,c1,c2,c3,J⟩:=DN hs hy;obtain⟨g,hg⟩:=o7 w;have ay:=Y (ZI hg);have A:b<g:=hg▸hb;have hlt:tb<g/\rb<g/\cb<g:=⟨hg▸ht.lt,hg▸ae.lt,hg▸mY.lt C⟩;have aa:=Y (λW (h:iR g w W)=>(Shape.nA.below J (hg.symm▸h):nK.nA W Q (G ou y.sub.length cu) y.sub));have af:R (∀W,iR g w W->W.cell? (Z b (off+ix*4) U)=O (V X y.lab.kind)/\W.cell? (Z b (off+ix*4+1) U)=O (V X y.lab.size)/\W.cell? (Z b (off+ix*4+2) U)=O (G ou y.sub.length cu)/\W.cell? (Z b (off+ix*4+3) U)=O (V X y.lab.tail)):=Y λW h=>
  ⟨(h.cell (p:=(Z b (off+ix*4) U)) A).trans c0,(h.cell (p:=(Z b (off+ix*4+1) U)) A).trans c1,(h.cell (p:=(Z b (off+ix*4+2) U)) A).trans c2,(h.cell (p:=(Z b (off+ix*4+3) U)) A).trans c3⟩
 have az:R (∀W,iR g w W->mY W g #[V X 0,V X 0,G U 0 0,V X 0] sG->NY g tb rb cb lb fb r ta (O (Z b off U)) s.length ct w 0 0 U 0 0 0 W):=Y λW h hk=>
  have aj:iR w.heap.size w W:=hg.symm▸h
  ⟨a7 aj ht ht.lt,a7 aj ae ae.lt,a7 aj C (mY.lt C),hk,h⟩
 unfold EY;rw[hg];clear ht ae C hs J c0 c1 c2 c3 hb aD A;generalize y.sub.length=aw at*;generalize s.length=N at*;have⟨b0,hb0⟩:=nE (As ((ix:Int)<(N:Int) - ta.tail));rw[hb0];have ag:=Y hb0;clear hb0;go_in;go_upto_region 1 with fail;have⟨ah,ai⟩:=ay.out _ rfl;generalize w.alloc _=w1 at*;have E:=Y (az _ ah ai);clear ay ah ai az;cases b0 with
 |true=>
  refine a3s (g:=g) (tb:=tb) (rb:=rb) (cb:=cb) (lb:=lb) (fb:=fb) (r:=r) (ta:=ta) (bo:=b) (off:=off) (n:=N) (ct:=ct) (w0:=w) (ix:=ix) (k:=y.lab.kind) (z:=y.lab.size) (ou:=ou) (nu:=aw) (cu:=cu) (tl:=y.lab.tail) (ht0:=by rfl) (ht1:=by rfl) (ht2:=by rfl) (GM:=by rfl) (hsz:=by rfl) (hI0:=λ_=>E.drew) (hin:=hlen) (hn:=hn) (hel:=af.out) (htl:=htl) (hb:=ag.out) (hlt:=hlt) ?_;intro vs W hI;simp only[cH]at hI;clear E;simp only[vG,iX,jg,jf];have⟨⟨ak,au,av,ax⟩,_⟩:=nR hI.rs;go_wp2_with fail;refine iY (v:=mJ #[mI #[V X y.lab.kind,V X y.lab.size,G ou aw cu,V X y.lab.tail],mH u]) (by simp[jv,Tryz.results251,go_sem,ak,au,av,ax]) rfl ?_;exact⟨ou,cu,rfl,aa _ hI.pV,hI.pV⟩
 |false=>
  refine a3t (g:=g) (tb:=tb) (rb:=rb) (cb:=cb) (lb:=lb) (fb:=fb) (r:=r) (ta:=ta) (bo:=b) (off:=off) (n:=N) (ct:=ct) (w0:=w) (ix:=ix) (k:=y.lab.kind) (z:=y.lab.size) (ou:=ou) (nu:=aw) (cu:=cu) (tl:=y.lab.tail) (ht0:=by rfl) (ht1:=by rfl) (ht2:=by rfl) (GM:=by rfl) (hsz:=by rfl) (hI0:=λ_=>E.drew) (hin:=hlen) (hn:=hn) (hel:=af.out) (htl:=htl) (hb:=ag.out) (hlt:=hlt) (hok:=hok) ?_;intro vs W hI;simp only[cH]at hI;clear E;simp only[vG,iX,jg,jf];have⟨⟨ak,au,av,ax⟩,_⟩:=nR hI.rs;go_wp2_with fail;refine iY (v:=mJ #[mI #[V X y.lab.kind,V X y.lab.size,G ou aw cu,V X y.lab.tail],mH (As (r.p<r.t.size))]) (by simp[jv,Tryz.results251,go_sem,ak,au,av,ax]) rfl ?_;exact⟨ou,cu,rfl,aa _ hI.pV,hI.pV⟩
section
variable {β:Type}{f:β->List iQ}{k:Nat}
def pz(f:β->List iQ)(k:Nat)(w:K)(B:Nat)(t:jl)(v:iQ)(L:List β):Prop:=w.ownsRow B t k v L.length (L.flatMap f)
def PE(hk:∀y,(f y).length=k)(L:List β):(L.flatMap f).length=L.length*k:=by
 induction L with
 |nil=>simp
 |cons y L A=>rw[cD,jo,A,hk,jD,lq];omega
def a3v(hk:∀y,(f y).length=k){L:List β}{i:Nat}{y:β}(hy:L[i]? =O y)(C:j<k):(L.flatMap f)[i*k+j]? =(f y)[j]? :=by
 induction L generalizing i with
 |nil=>simp at hy
 |cons z L A=>
  rw[cD];cases i with
  |zero=>
   simp at hy;subst hy;rw[kr (by rw[hk];omega)];simp
  |succ i=>
   simp at hy;rw[kX (by rw[hk,lq];omega),hk,show(i+1)*k+j - k=i*k+j by rw[lq];omega];exact A hy
def ZL(hk:∀y,(f y).length=k){L:List β}{i:Nat}{y z:β}(hy:L[i]? =O y){x:iQ}(E:j<k)(A:f z=(f y).set j x):(L.set i z).flatMap f=(L.flatMap f).set (i*k+j) x:=by
 induction L generalizing i with
 |nil=>simp at hy
 |cons a L C=>
  cases i with
  |zero=>
   simp at hy;subst hy;rw[jg,cD,cD,A,List.set_append_left _ _ (by rw[hk];omega)];simp
  |succ i=>
   simp at hy;rw[jf,cD,cD,C hy,List.set_append_right _ _ (by rw[hk,lq];omega),hk,show(i+1)*k+j - k=i*k+j by rw[lq];omega]
def Xi(hk:∀y,(f y).length=k)(L:List β)(n:Nat):(L.take n).flatMap f=(L.flatMap f).take (n*k):=by
 induction L generalizing n with
 |nil=>simp
 |cons y L A=>
  cases n with
  |zero=>simp
  |succ n=>
   rw[jm,cD,cD,A,List.take_append,hk,kK (l:=f y) (by rw[hk,lq];omega),show(n+1)*k - k=n*k by rw[lq];omega]
def pz.nil(w:K)(B:Nat)(t:jl):pz f k w B t (G U 0 0) []:=World.ownsRow_nil w B t k
def pz.form{v:iQ}{L:List β}(h:pz f k w B t v L):(v=G U 0 0/\L=[])\/∃g cap A,v=G (O (Z g 0 U)) L.length cap/\B<=g/\mY w g A t/\L.length<=cap/\cap<=jd/\A.size=cap*k/\A.toList.take (L.length*k)=L.flatMap f:=by
 rcases h.2 with⟨rfl,h0⟩|⟨g,cap,A,rfl,hb,hg,C,E,hsz,htake⟩
 .exact .inl ⟨rfl,j5.1 h0⟩
 .exact .inr ⟨g,cap,A,rfl,hb,hg,C,E,hsz,htake⟩
def pz.of{L:List β}{A:Array iQ}(hb:B<=g)(hg:mY w g A t)(C:L.length<=cap)(E:cap<=jd)(hsz:A.size=cap*k)(hk:∀y,(f y).length=k)(htake:A.toList.take (L.length*k)=L.flatMap f):pz f k w B t (G (O (Z g 0 U)) L.length cap) L:=
 ⟨PE hk L,.inr ⟨g,cap,A,rfl,hb,hg,C,E,hsz,htake⟩⟩
def pz.block{v:iQ}{L:List β}(h:pz f k w B t v L):∀b,v.ownBlock=O b->B<=b/\b<w.heap.size/\∃cs,mY w b cs t:=by
 rcases h.form with⟨rfl,_⟩|⟨g,cap,A,rfl,hb,hg,_⟩
 .intro b h;cases h
 .intro b h;cases h;exact⟨hb,hg.lt,A,hg⟩
def pz.slice{v:iQ}{L:List β}(h:pz f k w B t v L):∃oa cap,v=G oa L.length cap:=by
 rcases h.form with⟨rfl,rfl⟩|⟨g,cap,A,rfl,_⟩
 .exact⟨U,0,rfl⟩
 .exact⟨_,cap,rfl⟩
def pz.keep{v:iQ}{L:List β}(h:pz f k w B t v L)(hk:∀b,v.ownBlock=O b->w'.heap[b]? =w.heap[b]?):pz f k w' B t v L:=by
 refine⟨h.1,?_⟩;rcases h.2 with E|⟨g,cap,A,C,hg,J,r⟩
 .exact .inl E
 .refine .inr ⟨g,cap,A,C,hg,?_,r⟩
  rw[hk g (by rw[C];rfl)];exact J
def pz.below{v:iQ}{L:List β}(h:pz f k w B t v L)(hb:iR w.heap.size w w'):pz f k w' B t v L:=
 h.keep λb A=>hb.block b (h.block b A).2.1
def pz.at_{L:List β}(h:pz f k w B t (G oa n cap) L)(hk:∀y,(f y).length=k){i:Nat}{y:β}(hy:L[i]? =O y):
  ∃g,oa=O (Z g 0 U)/\B<=g/\g<w.heap.size/\n=L.length/\n<=cap/\(∀j,j<k->w.cell? (Z g (i*k+j) U)=(f y)[j]?)/\∀j,w.frozen? (Z g j U)=M:=by
 have⟨hi,_⟩:=jU.1 hy;rcases h.form with⟨aa,rfl⟩|⟨g,C,N,E,hb,hg,A,ae,hsz,htake⟩
 .simp at hi
 .cases E
  refine⟨g,rfl,hb,hg.lt,rfl,A,λj J=> ?_,λj=>hg.free j⟩;rw[hg.cell,<-a3v hk hy J,<-htake,cj];.simp
  .have:(i+1)*k<=L.length*k:=cm _ I
   rw[lq]at this;omega
def pz.set{L:List β}(h:pz f k w B t (G (O (Z g 0 U)) n cap) L)(hk:∀y,(f y).length=k){i:Nat}{y z:β}(hy:L[i]? =O y){x:iQ}(C:j<k)(E:f z=(f y).set j x):
  pz f k (w.setCell (Z g (i*k+j) U) x) B t (G (O (Z g 0 U)) n cap) (L.set i z):=by
 rcases h.form with⟨J,_⟩|⟨ag,N,af,aa,hb,hg,A,ae,hsz,htake⟩
 .cases J
 .cases aa
  have:=pz.of (f:=f) (k:=k) (L:=L.set i z) hb (hg.set (i*k+j) x) (by simpa using A) ae (by simpa using hsz) hk (by
   rw[ZL hk hy C E,<-htake,Array.toList_setIfInBounds,List.take_set,dp])
  rw[dp]at this;exact this
def pz.cut{L:List β}(h:pz f k w B t (G (O (Z g 0 U)) n cap) L)(hk:∀y,(f y).length=k)(C:m<=L.length):
  pz f k w B t (G (O (Z g 0 U)) m cap) (L.take m):=by
 rcases h.form with⟨E,_⟩|⟨af,J,ae,N,hb,hg,aa,A,hsz,htake⟩
 .cases E
 .cases N
  have hl:(L.take m).length=m:=by rw[jQ];omega
  have:=pz.of (f:=f) (k:=k) (L:=L.take m) hb hg I A hsz hk (by
   rw[Xi hk,<-htake,List.take_take,hl,lZ (cm _ C)])
  rw[hl]at this;exact this
def ZM{cs:Array iQ}(h:mY w b cs t){l:List iQ}(hl:cs.toList=l):∀j ar,l[j]? =O ar->w.cell? (((Z b 0 U):j4).add j)=O ar:=by
 subst hl;exact World.news_of_block h
end
structure yN(P:j6)(st t:jl)(k:Nat):Prop where
 ht:P.underlying st=O (.slice t)
 hi:∃z bytes i,P.info? t=O i/\i.zero=O z/\i.size=k/\i.bytes=bytes/\bytes<=1000/\z.cells.size=k
 pos:0<k
def DR{C:Type}{f:C->List iQ}{st ty:jl}(T:yN P st t k)(hk:∀y,(f y).length=k){c:Nat}{v:iQ}{L:List C}{x:C}{cs:Array iQ}{ae:jl}(E:pz f k w B t v L)(hb:mY w b cs ae)(hcs:cs.toList=f x)(af:∀ar∈f x,ar.oneCell'=u)(hlen:L.length<=1000000)(hB:B<=w.heap.size):
  ∃g cap w',(Builtin.append_ #[st,st] ty #[v,G (O (Z b 0 U)) 1 c]).run P w=.ok (G (O (Z g 0 U)) (L.length+1) cap) w'/\
   pz f k w' B t (G (O (Z g 0 U)) (L.length+1) cap) (L++[x])/\w.grownBy w' v.ownBlock/\(v.ownBlock=O g\/g=w.heap.size)/\g<w'.heap.size/\B<=g:=by
 have⟨z,bytes,i,hi,ag,hsz,J,N,aa⟩:=T.hi
 have⟨g,cap,w',ah,ai,aj,ak,au⟩:=run_append_lies w st ty B t i z k bytes T.ht hi ag hsz J aa T.pos v L.length (L.flatMap f) E (Z b 0 U) 1 c (f x) (by rw[hk];omega) (ZM hb hcs) af mX yF
  (jk (Nat.mul_le_mul_left _ N) I) hB _ rfl
 have A:pz f k w' B t (G (O (Z g 0 U)) (L.length+1) cap) (L++[x]):=by
  unfold pz;rw[jo,List.flatMap_append];simpa using ai
 exact⟨g,cap,w',ah,A,aj,ak,au,(A.block g rfl).1⟩
structure pI(α:Type) where
 lab:α
 ar:iQ
 sub:List (mW α)
def pI.tree{α:Type}(y:pI α):mW α:=.node y.lab y.sub
section
variable {α:Type}
def Shape.row(S:Shape α)(L:List (pI α)):List iQ:=L.flatMap λy=>S.cells y.lab y.ar
def Shape.R8(S:Shape α)(L aw:List (pI α)):S.row (L++aw)=S.row L++S.row aw:=by simp[Shape.row]
def Shape.Jd(S:Shape α)(L:List (pI α)):(S.row L).length=L.length*S.k:=by
 induction L with
 |nil=>simp[Shape.row]
 |cons y L A=>
  show(S.cells y.lab y.ar++S.row L).length=_;rw[jo,A,S.hk,jD,lq];omega
def Shape.a6s(S:Shape α){L:List (pI α)}{i:Nat}{y:pI α}(hy:L[i]? =O y)(C:j<S.k):(S.row L)[i*S.k+j]? =(S.cells y.lab y.ar)[j]? :=by
 induction L generalizing i with
 |nil=>simp at hy
 |cons z L A=>
  show(S.cells z.lab z.ar++S.row L)[i*S.k+j]? =_;cases i with
  |zero=>
   simp at hy;subst hy;rw[kr (by rw[S.hk];omega)];simp
  |succ i=>
   simp at hy;rw[kX (by rw[S.hk,lq];omega),S.hk,show(i+1)*S.k+j - S.k=i*S.k+j by rw[lq];omega];exact A hy
def wG(S:Shape α)(t:jl)(w:K)(B:Nat)(v:iQ)(L:List (pI α)):Prop:=
 w.ownsRow B t S.k v L.length (S.row L)/\∀y,y∈L->S.ok y.lab/\S.nA w (λc=>B<=c/\v.ownBlock≠O c) y.ar y.sub
def wG.nil(S:Shape α)(t:jl)(w:K)(B:Nat):wG S t w B (G U 0 0) []:=⟨World.ownsRow_nil w B t S.k,λy h=>by cases h⟩
def wG.block{S:Shape α}{v:iQ}{L:List (pI α)}(h:wG S t w B v L):∀b,v.ownBlock=O b->B<=b/\b<w.heap.size:=by
 rcases h.1.2 with⟨rfl,h0⟩|⟨g,cap,A,rfl,hb,hg,_⟩
 .intro b h;cases h
 .intro b h;cases h;exact⟨hb,(jE.1 hg).1⟩
def wG.slice{S:Shape α}{v:iQ}{L:List (pI α)}(h:wG S t w B v L):∃oa cap,v=G oa L.length cap:=by
 rcases h.1.2 with⟨rfl,h0⟩|⟨g,cap,A,rfl,_⟩
 .exact⟨U,0,by rw[h0]⟩
 .exact⟨_,cap,rfl⟩
def wG.keep{S:Shape α}{v:iQ}{L:List (pI α)}(h:wG S t w B v L)(hs:w.heap.size<=w'.heap.size)(hk:∀c,B<=c->c<w.heap.size->w'.heap[c]? =w.heap[c]?):wG S t w' B v L:=by
 refine⟨⟨h.1.1,?_⟩,λy hy=>⟨(h.2 y hy).1,(h.2 y hy).2.keep hs (λ_ _ h=>h) λc hc E=>hk c E.1 hc⟩⟩;rcases h.1.2 with J|⟨g,cap,A,N,hg,C,r⟩
 .exact .inl J
 .refine .inr ⟨g,cap,A,N,hg,?_,r⟩
  rw[hk g hg (jE.1 C).1];exact C
def wG.below{S:Shape α}{v:iQ}{L:List (pI α)}(h:wG S t w B v L)(hb:iR w.heap.size w w'):wG S t w' B v L:=
 h.keep hb.size λc _ hc=>hb.block c hc
def wG.upd{S:Shape α}{v:iQ}{L:List (pI α)}(h:wG S t w B v L)(A:oO b w w')(hb:b<B):wG S t w' B v L:=
 h.keep A.size λc hB hc=>A.block c hc (by simpa using by omega)
def wG.subs{S:Shape α}{v:iQ}{L:List (pI α)}(h:wG S t w B v L):S.nA w (λc=>B<=c) v (L.map pI.tree):=by
 obtain⟨J,N⟩:=h;rcases J.2 with⟨rfl,h0⟩|⟨g,cap,ah,rfl,hb,hg,C,ae,hsz,htake⟩
 .have:L=[]:=j5.1 h0
  subst this;exact⟨U,0,rfl,iP _,jB _,λh=>absurd h ny⟩
 .refine⟨O (Z g 0 U),cap,by rw[cX],by rw[cX];exact C,ae,λ_=>⟨g,0,rfl,(jE.1 hg).1,hb,?_⟩⟩
  have cell:∀i y,L[i]? =O y->∀j,j<S.k->w.cell? (Z g (i*S.k+j) U)=(S.cells y.lab y.ar)[j]? :=by
   intro i y hy j E;have⟨hi,_⟩:=jU.1 hy;have hlt:i*S.k+j<(S.row L).length:=by
    rw[S.Jd];have:(i+1)*S.k<=L.length*S.k:=cm _ I;rw[lq]at this;omega
   have:=World.ownsRow.cells J (g:=g) rfl (i*S.k+j) _ (ja hlt);have e1:((Z g 0 U):j4).add (i*S.k+j)=(Z g (i*S.k+j) U):=J3;rw[e1]at this;rw[this,<-ja hlt,S.a6s hy E]
  have row:∀(aw:List (pI α))(i:Nat),(∀k y,aw[k]? =O y->L[i+k]? =O y)->S.qR w (λc=>B<=c) (aw.map pI.tree) g (i*S.k):=by
   intro aw;induction aw with
   |nil=>intro i _;simp only[cE,Shape.qR]
   |cons y aw af=>
    intro i aa;simp only[lg,Shape.qR];have hy:=aa 0 y rfl;refine⟨?_,?_⟩
    .simp only[pI.tree,Shape.ug]
     have A:=jq hy;exact⟨(N y A).1,y.ar,λj E=>cell i y hy j E,(N y A).2.keep (iP _) (λc _ h=>h.1) λ_ _ _=>rfl⟩
    .have:=af (i+1) λk z ag=>by
      have:=aa (k+1) z ag;rwa [show i+1+k=i+(k+1)by omega]
     rwa [show(i+1)*S.k=i*S.k+S.k by rw[lq,Nat.one_mul]]at this
  have:=row L 0 λk y h=>by simpa using h
  simpa using this
def yc{S:Shape α}{st:jl}{N:TypeInfo}{z:iQ}{bytes:Nat}(ht:P.underlying st=O (.slice t))(hi:P.info? t=O N)(A:N.zero=O z)(ae:N.size=S.k)(ax:N.bytes=bytes)(ay:z.cells.size=S.k)(ai:0<S.k)(aj:∀a o n c,∀ar∈S.cells a (.slice o n c),ar.oneCell'=u){ops:Array kC}{rest:List kC}(az:o.guard=U)(x y:Operand)(ho:o.op=.call {callee:=.builtin .append,args:=#[x,y],argTypes:=#[st,st]})(B:Nat)(v:iQ)(L:List (pI α))(e:pI α)(w:K)(cs:Array iQ)(hcs:cs.toList=S.cells e.lab e.ar)(aF:a.eval x=v)(C:wG S t w B v L)(hy:a.eval y=.slice (O (Z w.heap.size 0 U)) 1 1)(hlen:L.length<=100000)(aa:bytes<=1000)(hB:B<=w.heap.size)(hok:S.ok e.lab)(ak:S.nA w (λc=>B<=c/\v.ownBlock≠O c) e.ar e.sub)(h:∀g cap w',wG S t w' B (.slice (O (Z g 0 U)) (L.length+1) cap) (L++[e])->iR B w w'->w.heap.size<w'.heap.size->w.grownBy w' v.ownBlock->mq P ops Q rest (a.put o.dst (.slice (O (Z g 0 U)) (L.length+1) cap)) w'):
  mq P ops Q (o::rest) a (w.alloc (mM cs t)):=by
 have aA:=(iT w.heap.size w).alloc (iP _) (mM cs t);obtain⟨aG,aH,ah,_⟩:=ak
 refine wpList_append_lies _ az x y st ho B t N z S.k bytes ht hi A ae ax ay ai v L.length (S.row L) aF (World.ownsRow.alloc C.1 _)
  (Z w.heap.size 0 U) 1 1 (S.row [e]) hy (by rw[S.Jd];rfl) ?_ ?_ mX yF ?_ nk _ rfl ?_
 .intro j ar au
  have e1:((Z w.heap.size 0 U):j4).add j=(Z w.heap.size j U):=J3;rw[e1,World.cell?_alloc_mark w cs t (0,0) j,<-au];have:S.row [e]=cs.toList:=by simp[Shape.row,hcs]
  rw[this];simp
 .intro ar aB
  have:S.row [e]=S.cells e.lab e.ar:=by simp[Shape.row]
  rw[this,ah]at aB;exact aj _ _ _ _ ar aB
 .calc (L.length+1)*bytes<=100001*1000:=et I aa
   _<=_:=mX
 .intro g cap w' aI E af aJ
  have hsz:(w.alloc (mM cs t)).heap.size=w.heap.size+1:=ny;have hb:iR B w w':=by
   refine((iT B w).alloc hB _).grown E I λj au=> ?_
   exact(C.block j au).1
  have J:w.grownBy w' v.ownBlock:=
   ⟨E.os,E.tape,E.output,by have:=E.size;omega,λc hc aD=>(E.block c I aD).trans (aA.block c hc)⟩
  refine h g cap w' ⟨by rw[jo,S.R8];exact aI,λz A=> ?_⟩ hb (by have:=E.size;omega) J;have key:∀z:pI α,S.ok z.lab->S.nA w (λc=>B<=c/\v.ownBlock≠O c) z.ar z.sub->S.ok z.lab/\S.nA w' (λc=>B<=c/\(jM (O (Z g 0 U)) (L.length+1) cap).ownBlock≠O c) z.ar z.sub:=by
   intro z ho hs;refine⟨ho,hs.keep (by have:=E.size;omega) (λc hc ag=>⟨ag.1,?_⟩) λc hc ag=> ?_⟩
   .rcases af with af|af
    .rw[<-show v.ownBlock=(jM (O (Z g 0 U)) (L.length+1) cap).ownBlock from af];exact ag.2
    .intro av;simp[jK]at av;omega
   .exact J.block c hc (λav=>ag.2 av.symm)
  rcases List.mem_append.1 A with A|A
  .exact key z (C.2 z A).1 (C.2 z A).2
  .simp at A
   subst A;exact key z hok ⟨aG,aH,ah,‹_›⟩
end
def NZ(y:pI IL):List iQ:=[H (txt y.lab),mH y.lab.list,y.ar]
def zu(y:pI IL):(NZ y).length=3:=rfl
def tO(w:K)(Q:Nat->Prop)(v:iQ)(L:List (pI IL)):Prop:=
 pz NZ 3 w 0 IT v L/\(∀b,v.ownBlock=O b->Q b)/\∀y,y∈L->y.lab.text.length<=jd/\nC w (λc=>Q c/\v.ownBlock≠O c) y.ar y.sub
def tO.nil(w:K)(Q:Nat->Prop):tO w Q (G U 0 0) []:=⟨pz.nil w 0 IT,λb h=>by simp[jK]at h,λy h=>by cases h⟩
def tO.slice{Q:Nat->Prop}{v:iQ}{L:List (pI IL)}(h:tO w Q v L):∃oa cap,v=G oa L.length cap:=h.1.slice
def tO.keep{Q Q':Nat->Prop}{v:iQ}{L:List (pI IL)}(h:tO w Q v L)(hs:w.heap.size<=w'.heap.size)(hk:∀c,c<w.heap.size->Q c->w'.heap[c]? =w.heap[c]?)(C:∀c,c<w.heap.size->Q c->Q' c):tO w' Q' v L:=by
 refine⟨h.1.keep λb hb=>hk b (h.1.block b hb).2.1 (h.2.1 b hb),λb hb=>C b (h.1.block b hb).2.1 (h.2.1 b hb),λy hy=>⟨(h.2.2 y hy).1,?_⟩⟩;exact Shape.nA.keep (h.2.2 y hy).2 hs (λc hc A=>⟨C c hc A.1,A.2⟩) λc hc A=>hk c hc A.1
def tO.subs{Q:Nat->Prop}{v:iQ}{L:List (pI IL)}(h:tO w Q v L):nC w Q v (L.map pI.tree):=by
 obtain⟨J,af,N⟩:=h;rcases J.form with⟨rfl,rfl⟩|⟨g,cap,aj,rfl,hb,hg,C,ag,hsz,htake⟩
 .exact⟨U,0,rfl,iP _,jB _,λh=>absurd h ny⟩
 .refine⟨O (Z g 0 U),cap,by rw[cX],by rw[cX];exact C,ag,λ_=>⟨g,0,rfl,hg.lt,af g rfl,?_⟩⟩
  have cell:∀i y,L[i]? =O y->∀j,j<3->w.cell? (Z g (i*3+j) U)=(NZ y)[j]? :=by
   intro i y hy j E;have⟨ak,aa,_,_,_,_,hc,_⟩:=J.at_ zu hy;cases aa;exact hc j E
  have row:∀(aw:List (pI IL))(i:Nat),(∀k y,aw[k]? =O y->L[i+k]? =O y)->Ai.qR w Q (aw.map pI.tree) g (i*3):=by
   intro aw;induction aw with
   |nil=>intro i _;simp only[cE,Shape.qR]
   |cons y aw ah=>
    intro i ae;simp only[lg,Shape.qR];have hy:=ae 0 y rfl;refine⟨?_,?_⟩
    .simp only[pI.tree,Shape.ug]
     have A:=jq hy;exact⟨(N y A).1,y.ar,λj E=>cell i y hy j E,Shape.nA.keep (N y A).2 (iP _) (λc _ h=>h.1) λ_ _ _=>rfl⟩
    .have:=ah (i+1) λk z ai=>by
      have:=ae (k+1) z ai;rwa [show i+1+k=i+(k+1)by omega]
     rwa [show(i+1)*3=i*3+Ai.k by rw[lq,Nat.one_mul];rfl]at this
  have:=row L 0 λk y h=>by simpa using h
  simpa using this
def ZN:pI IL:=⟨⟨[],M⟩,G U 0 0,[]⟩
def wR(w:K)(g o:Nat)(a b c:iQ):K:=((w.setCell (Z g o U) a).setCell (Z g (o+1) U) b).setCell (Z g (o+2) U) c
def rM(w:K)(g o:Nat)(a b c:iQ):((w.setCell (Z g o U) a).setCell (Z g (o+1) U) b).setCell (Z g (o+2) U) c=wR w g o a b c:=rfl
def vM{o:Nat}{a b c:iQ}:(wR w g o a b c).heap.size=w.heap.size:=by simp[wR,jr]
def tQ{o:Nat}{a b c:iQ}(k:Nat)(h:k≠g):(wR w g o a b c).heap[k]? =w.heap[k]? :=by
 unfold wR;rw[jh _ _ _ _ h,jh _ _ _ _ h,jh _ _ _ _ h]
def PG(w:K)(g o:Nat)(a b c:iQ):oO g w (wR w g o a b c):=(((b9 g w).set o a).set (o+1) b).set (o+2) c
def pz.wR{L:List (pI IL)}{z x:pI IL}(h:pz NZ 3 w B IT (G (O (Z g 0 U)) (L.length+1) cap) (L++[z])):
  pz NZ 3 (wR w g (L.length*3) (H (txt x.lab)) (mH x.lab.list) x.ar) B IT (G (O (Z g 0 U)) (L.length+1) cap) (L++[x]):=by
 have e:∀y:pI IL,(L++[y])[L.length]? =O y:=λy=>by simp
 have A:∀y ar:pI IL,(L++[y]).set L.length ar=L++[ar]:=λy ar=>by simp
 have C:=h.set zu (e z) (j:=0) (x:=H (txt x.lab)) (z:=⟨⟨x.lab.text,z.lab.list⟩,z.ar,z.sub⟩) mX rfl;rw[A]at C;have E:=C.set zu (e _) (j:=1) (x:=mH x.lab.list) (z:=⟨⟨x.lab.text,x.lab.list⟩,z.ar,z.sub⟩) mX rfl;rw[A]at E;have J:=E.set zu (e _) (j:=2) (x:=x.ar) (z:=x) mX rfl;rw[A]at J;exact J
def MK(h:p:=by
 intro e;simp[jK]at e;exact hgn c hc (hxv c hq) e.symm):p:=h
def tO.push{Q J:Nat->Prop}{v:iQ}{L:List (pI IL)}{x:pI IL}(h:tO w Q v L)(hrow:pz NZ 3 w1 0 IT (G (O (Z g 0 U)) (L.length+1) cap) (L++[ZN]))(hg:w.grownBy w1 v.ownBlock)(A:v.ownBlock=O g\/w.heap.size<=g)(aa:nC w J x.ar x.sub)(hxv:∀c,J c->v.ownBlock≠O c)(N:x.lab.text.length<=jd):
  tO (wR w1 g (L.length*3) (H (txt x.lab)) (mH x.lab.list) x.ar) (λc=>Q c\/J c\/c=g) (G (O (Z g 0 U)) (L.length+1) cap) (L++[x]):=by
 have hgn:∀c,c<w.heap.size->v.ownBlock≠O c->c≠g:=λc hc C e=>by
  rcases A with A|A
  .exact C (by rw[A,e])
  .omega
 have hsz:w.heap.size<=(wR w1 g (L.length*3) (H (txt x.lab)) (mH x.lab.list) x.ar).heap.size:=by rw[vM];exact hg.size
 have E:∀c,c<w.heap.size->v.ownBlock≠O c->(wR w1 g (L.length*3) (H (txt x.lab)) (mH x.lab.list) x.ar).heap[c]? =w.heap[c]? :=λc hc C=>by
  rw[tQ c (hgn c hc C)];exact hg.block c hc (λe=>C e.symm)
 refine⟨hrow.wR,λb hb=> ?_,λy hy=> ?_⟩
 .simp[jK]at hb
  exact .inr (.inr hb.symm)
 .rcases List.mem_append.1 hy with hy|hy
  .refine⟨(h.2.2 y hy).1,Shape.nA.keep (h.2.2 y hy).2 hsz (λc hc hq=>⟨.inl hq.1,?_⟩) λc hc hq=>E c hc hq.2⟩
   intro e;simp[jK]at e;exact hgn c hc hq.2 e.symm
  .simp at hy
   subst hy;refine⟨N,Shape.nA.keep aa hsz (λc hc hq=>⟨.inr (.inl hq),?_⟩) λc hc hq=>E c hc (hxv c hq)⟩;exact MK
structure Fr where
 v:iQ
 L:List (pI IL)
 e:Nat
def EZ(w:K):(Nat->Prop)->List Fr->Prop
 |_,[]=>True
 |A,x::C=>∃Q:Nat->Prop,(∀c,Q c->¬A c)/\tO w Q x.v x.L/\EZ w (λc=>A c\/Q c) C
def EZ.keep{w w':K}(hs:w.heap.size<=w'.heap.size):∀{st:List Fr}{C A:Nat->Prop},EZ w C st->(∀c,c<w.heap.size->¬C c->w'.heap[c]? =w.heap[c]?)->(∀c,c<w.heap.size->A c->C c)->EZ w' A st
 |[],_,_,_,_,_=>trivial
 |x::af,C,A,⟨Q,J,aa,ae⟩,hk,N=>by
  refine⟨λc=>Q c/\c<w.heap.size,λc hc h=>J c hc.1 (N c hc.2 h),aa.keep hs (λc hc E=>hk c hc (J c E)) (λc hc E=>⟨E,hc⟩),?_⟩;exact EZ.keep hs ae (λc hc hn=>hk c hc λh=>hn (.inl h)) λc hc h=>h.elim (λh=> .inl (N c hc h)) λh=> .inr h.1
def EZ.below{st:List Fr}{A:Nat->Prop}(h:EZ w A st)(hb:iR w.heap.size w w'):EZ w' A st:=h.keep hb.size (λc hc _=>hb.block c hc) λ_ _ h=>h
section
variable {P:j6}{ops:Array kC}{md:kW}{S:K->Prop}{Q:Exit->lY->K->Prop}{n:Nat}
def a3w(md:kW)(ops:Array kC)(n:Nat):Bool:=(kG ops.size).all λt=>As (t<n)||(kG n).all λi=>Region.waitsFor md ops t i
def Xj(hb:a3w md ops n=u){i:Nat}(hi:i∈kI md ops A)(hin:i<n)(ai:j∈kI md ops A):j<n:=by
 have⟨av,aj,J,N⟩:=mem_ready.1 ai;have ae:=(jE.1 J).1;have C:=kz.1 hb j (lu.2 ae);simp only[cM,bb]at C;rcases C with C|C
 .exact C
 .have ak:=kz.1 C i (lu.2 hin)
  have⟨au,af,e,he,ag,ah⟩:=Region.waitsFor_spec ak;have:au=aj:=kU (af.symm.trans J);subst this;have E:=N e he ag;have h0:=(mem_ready.1 hi).1;rw[ah]at E;rcases jL i A.size with aa|aa
  .simp[aa]at h0 E;rw[h0]at E;cases E
  .simp[mi aa]at E
def wH(P:j6)(md:kW)(ops:Array kC)(Q:Exit->lY->K->Prop)(S:K->Prop)(n:Nat):Nat->Array Bool->lY->K->Prop
 |0,A,a,w=>kI md ops A=[]/\Q .normal a w
 |fuel+1,A,a,w=>
  (kI md ops A=[]->Q .normal a w)/\
  ∀i∈kI md ops A,wpOp P ops Q i (λC w'=>(i<n->S w')/\wH P md ops Q S n fuel (A.setIfInBounds i u) C w') a w
def DT:∀(fuel:Nat)(A:Array Bool)(a:lY)(w:K),wH P md ops Q S n fuel A a w->wpAny P md ops Q fuel A a w
 |0,_,_,_,h=>h
 |fuel+1,_,_,_,h=>⟨h.1,λi hi=>wpOp_mono (λC w' E=>DT fuel _ C w' E.2) (h.2 i hi)⟩
def MM{i:Nat}{v:iQ}(hin:i<n)(hb:a3w md ops n=u)(hi:ops[i]? =O oi)(ae:∀(j:Nat) (o:kC) cs b,ops[j]? =O o->o.op≠.select cs b)(aG:∀c a w,Q (.panic c) (a.put oi.dst v) w->Q (.panic c) a w):
  ∀(fuel:Nat)(A:Array Bool)(a:lY)(w:K),
   (∀j J,ops[j]? =O J->j≠i->A.getD j u=M->(∀e∈J.after,lD md e=u->e.on≠i)->oi.apart ops J=u)->
   i∈kI md ops A->YieldsIf P ops S oi v a->S w->
   wH P md ops Q S n fuel (A.setIfInBounds i u) (a.put oi.dst v) w->wH P md ops Q S n (fuel+1) A a w:=by
 intro fuel;induction fuel with
 |zero=>
  intro A a w _ E hy af an;refine⟨λh=>(by rw[h]at E;cases E),λj ag=> ?_⟩;by_cases C:j=i;.subst C;exact hy.wpOp hi af ⟨λ_=>af,an⟩
  .have:=ready_mono ag C
   rw[an.1]at this;cases this
 |succ fuel aH=>
  intro A a w aa E hy af an;refine⟨λh=>(by rw[h]at E;cases E),λj ag=> ?_⟩;by_cases C:j=i;.subst C;exact hy.wpOp hi af ⟨λ_=>af,an⟩
  .have aA:=Xj hb E hin ag
   have N:=an.2 j (ready_mono ag C);have⟨ah,J,ai,ax⟩:=mem_ready.1 ag;have ay:∀e∈J.after,lD md e=u->e.on≠i:=λe he hb aB=>by
    have N:=ax e he hb;have h0:=(mem_ready.1 E).1;rw[aB]at N;rcases jL i A.size with az|az
    .simp[az]at h0 N;rw[h0]at N;cases N
    .simp[mi az]at N
   have aI:=wpOp_putIf ai (aa j J ai C ah ay) (λcs b=>ae i oi cs b hi) (λcs b=>ae j J cs b ai) aG hy N
   have aj:∀k ok,ops[k]? =O ok->k≠i->(A.setIfInBounds j u).getD k u=M->
     (∀e∈ok.after,lD md e=u->e.on≠i)->oi.apart ops ok=u:=λk ok hk aD au aF=>by
    refine aa k ok hk aD ?_ aF;by_cases av:j=k;.subst av;exact ah
    .rw[getD_set_ne u av]at au;exact au
   refine wpOp_mono (λaJ w' ak=>⟨ak.2.1,aH (A.setIfInBounds j u) aJ w' aj (ready_mono E (mf C)) ak.1 (ak.2.1 aA) ?_⟩) aI;rw[Array.setIfInBounds_comm _ _ C];exact ak.2.2
def PH{i:Nat}{v:iQ}(hi:ops[i]? =O oi)(hin:As (i<n)=u)(hb:a3w md ops n=u)(hs:Region.noSelect ops=u)(C:Region.free md ops A i=u)(E:(kI md ops A).contains i=u)(J:∀c a w,Q (.panic c) (a.put oi.dst v) w->Q (.panic c) a w)(hy:YieldsIf P ops S oi v a)(N:S w)(h:wH P md ops Q S n fuel (A.setIfInBounds i u) (a.put oi.dst v) w):wH P md ops Q S n (fuel+1) A a w:=
 MM (by simpa using hin) hb hi (Region.noSelect_spec hs) J fuel A a w (Region.free_spec hi C) (by simpa using E) hy N h
def R9{i:Nat}(E:kI md ops A=[i])(ho:ops[i]? =O o)(h:∀C:lY->K->Prop,Shut (∀a w,S w->(S w->wH P md ops Q S n fuel (A.setIfInBounds i u) a w)->C a w)->if lG o (yielded ops a.tmps)=u then Oper.wp P o a w C Q else C (a.put o.dst jw) w):
  wH P md ops Q S n (fuel+1) A a w:=by
 refine⟨λh0=>(by rw[E]at h0;cases h0),λj J=> ?_⟩;rw[E]at J;obtain rfl:=List.mem_singleton.1 J;exact wpOp_step ho λC aa=>h C λa w N ae=>aa a w ⟨λ_=>N,ae N⟩
def FU:∀(fuel:Nat)(A:Array Bool)(a:lY)(w:K),((kG n).all λj=>A.getD j u)=u->wpAny P md ops Q fuel A a w->wH P md ops Q S n fuel A a w
 |0,_,_,_,_,h=>h
 |fuel+1,A,a,w,N,h=>⟨h.1,λi hi=>by
  have hin:¬i<n:=λhin=>by
   have C:=kz.1 N i (lu.2 hin);have h0:=(mem_ready.1 hi).1;rcases jL i A.size with E|E
   .simp[E]at h0 C;rw[h0]at C;cases C
   .simp[mi E]at h0
  refine wpOp_mono (λae w' E=>⟨λh=>absurd h hin,FU fuel _ ae w' ?_ E⟩) (h.2 i hi);refine kz.2 λj aa=> ?_
  have C:=kz.1 N j aa;by_cases J:i=j;.exact absurd (J▸lu.1 aa) hin
  .rw[getD_set_ne u J];exact C⟩
def Kk{id:Nat}(n:Nat)(A:P.follows .mixedOrders=u)(C:S w.drew)(h:S w.drew->wH P .any ops Q S n ops.size (ku ops.size M) a w.drew):(jZ id ops u).wp P Q a w:=
 wp_region_any A (DT _ _ _ _ (h C))
end
section
variable {P:j6}{ops:Array kC}{md:kW}{S:K->Prop}{Q:Exit->lY->K->Prop}{n:Nat}
def takeB(i:Nat){v:iQ}{C:Array Bool}{E:lY}(N:S w)(h:wH P md ops Q S n fuel C E w)(hi:ops[i]? =O oi:=by simp only[ji,jc,jb]<;>rfl)(aa:∀c a w,Q (.panic c) (a.put oi.dst v) w->Q (.panic c) a w:=by exact λ_ _ _ h=>h)(ae:lG oi (yielded ops a.tmps)=u:=by rfl)(hy:∀w,S w->(execOp a.eval oi).run P w=.ok (.value v) w:=by(intro w J;(try dsimp only at J);go_simp;try rfl))(hin:As (i<n)=u:=by kernel_rfl)(hb:a3w md ops n=u:=by kernel_rfl)(af:a.put oi.dst v=E:=by(try simp only[l7,iX,jg,jf]);rfl)(hl:A.setIfInBounds i u=C:=by(try simp only[l7,iX,jg,jf]);rfl)(hs:Region.noSelect ops=u:=by kernel_rfl)(ag:Region.free md ops A i=u:=by kernel_rfl)(ah:(kI md ops A).contains i=u:=by kernel_rfl):
  wH P md ops Q S n (fuel+1) A a w:=PH hi hin hb hs ag ah aa (.inl ⟨ae,hy⟩) N (by rw[hl,af];exact h)
end
end
end Go.Proofs.YtamfcjmhnndbdaaGreatDoor


