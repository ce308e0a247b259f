/- Part 5 of the proof. -/
import Derived.Test.YtamfcjmhnndbdaaGreatDoorZb04
open Go.Value renaming agg→mI,bool→mH,int→V,pointer→mG,slice→G,string→H,tuple→mJ,ownBlock→jK,slice→jM
open Go.Obj renaming cells→mM
open Go.IntKind renaming i64→X,u64→mP
open Go.Ending renaming returned→mK,returned→jS
open Go.Lib renaming hid→Y
open Go.Proofs.Tryz renaming prog→iN
open Go renaming World→K,Value→iQ,Calls→iW,maxLen→jd,TypeId→jl,results→jv,undef→jw,Addr→j4,Program→j6,Oper→kC,Ending→kV,Act→lY,wpList→mq
open Go.RowKit renaming Below→iR,Hid→R,intOf→jF
open And renaming intro→iU
open List renaming replicate→jC,length→lQ
open Go.World renaming setCell→jr,cell?→lV
open Go.Code renaming region→jZ
open Go.Region renaming ready→kI,wanted→lG
open Go.AllReadyH renaming cons→kL,nil→kT
open Go.Lit renaming int→lN
open Go.Act renaming put→l7
open Option renaming none→U,some→O
open Bool renaming true→u,false→M
open Go.Addr renaming mk→Z
open Decidable renaming decide→As
namespace Go.Proofs.YtamfcjmhnndbdaaGreatDoor
set_option linter.unusedVariables false
set_option linter.defProp false
set_option linter.unusedSimpArgs false
set_option maxRecDepth 100000
set_option maxHeartbeats 8000000
variable{A J:List Fr}{B N aw b bo bw cap cnt cu cv e er g k m n nu wk z:Nat}{L:Bool}{Q:Exit->lY->K->Prop}{T:An}{W w w' w0 w1 w2 w4 w5 wa ws:K}{a:lY}{am l l0:List AC}{c d v' vr:iQ}{ops:Array kC}{ou ov:Option j4}{q:Bool×Nat×Nat}{tl tot:Int}
variable {P:j6}{t' t:jl}{x:Fr}{p:Prop}{a0:lY}
section
open Go.RowKit
def rf2(x:Fr):List iQ:=[x.v,V X (x.e:Nat)]
def Bh(x:Fr):(rf2 x).length=2:=rfl
abbrev RT:jl:=278
abbrev OT:jl:=275
def QP(B bo bw:Nat)(vr:iQ):Nat->Prop:=λc=>c<B\/c=bo\/c=bw\/vr.ownBlock=O c
structure rU(w:K)(B bo bw:Nat)(vr:iQ)(st:List Fr):Prop where
 ho:mY w bo #[vr] OT
 row:pz rf2 2 w B RT vr st.reverse
 nbo:vr.ownBlock≠O bo
 nbw:vr.ownBlock≠O bw
 lev:EZ w (QP B bo bw vr) st
 FV:B<=bo
 hbw:B<=bw
 ne:bo≠bw
 lt:bw<w.heap.size
def Je:yN iN 45 IT 3:=⟨Tryz.underlying45,⟨.agg #[.string ⟨#[]⟩,.bool M,.slice U 0 0],48,by
 have⟨i,A,C,E,J⟩:=info_parts (show(Tryz.prog.info? IT).map (λi=>(i.zero,i.size,i.bytes))=O (O (mI #[H ⟨#[]⟩,mH M,G U 0 0]),3,48)by kernel_rfl);exact⟨i,A,C,E,J,mX,rfl⟩⟩,mX⟩
def yO{st:jl}(T:yN P st IT 3){o:kC}{aq:lY->K->Prop}{E:Prop}(C:o.guard=U)(s x:Operand)(ho:o.op=.call {callee:=.builtin .append,args:=#[s,x],argTypes:=#[st,st]}){c:Nat}{v:iQ}{L:List (pI IL)}{y:pI IL}{cs:Array iQ}(hs:a.eval s=v)(A:pz NZ 3 w B IT v L)(J:a.eval x=G (O (Z b 0 U)) 1 c)(hb:mY w b cs t')(hcs:cs.toList=NZ y)(N:∀ar∈NZ y,ar.oneCell'=u)(hlen:L.length<=1000000)(hB:B<=w.heap.size)(h:∀g cap w',pz NZ 3 w' B IT (G (O (Z g 0 U)) (L.length+1) cap) (L++[y])->w.grownBy w' v.ownBlock->(v.ownBlock=O g\/g=w.heap.size)->g<w'.heap.size->aq (a.put o.dst (G (O (Z g 0 U)) (L.length+1) cap)) w'):
  if lG o (yielded ops a.tmps)=u then Oper.wp P o a w aq Q else E:=by
 have aa:lG o (yielded ops a.tmps)=u:=by simp[lG,C]
 rw[Ax aa];obtain⟨g,cap,w',ae,af,ag,ah,ai,_⟩:=DR (ty:=o.type) T zu A hb hcs N hlen hB;unfold Oper.wp execOp;simp only[ho,resolve,invoke,builtin,Sem.run_bind,Sem.run_pure,lK,dc,lg,cE,hs,J];rw[ae];exact h g cap w' af ag ah ai
def vT(i:Nat)(v:iQ)(h:w.heap[b]? =w'.heap[b]?):(w.setCell (Z b i U) v).heap[b]? =(w'.setCell (Z b i U) v).heap[b]? :=by
 simp only[jr];rw[kg,kg,Ax rfl,Ax rfl,h]
def Sa(o:Nat)(x y z:iQ)(h:w.heap[b]? =w'.heap[b]?):(wR w b o x y z).heap[b]? =(wR w' b o x y z).heap[b]? :=
 vT _ _ (vT _ _ (vT _ _ h))
def a3z{W3:K}{go C aI:Nat}{ag:List Fr}{y:pI IL}{ay:Nat->Prop}{aR:Array iQ}(h:rU w B bo bw vr (x::ag))(hbw:mY w bw aR IT)(aS:vr=G (O (Z go 0 U)) (N+1) aI)(aU:ag.length=N)(bq:nC w ay y.ar y.sub)(aV:∀c,ay c->¬QP B bo bw vr c)(hL:EZ w (λc=>QP B bo bw vr c\/ay c) (x::ag))(aW:y.lab.text.length<=jd)(ah:iR w.heap.size w W)(aB:pz NZ 3 w2 0 IT (G (O (Z C 0 U)) (x.L.length+1) cap) (x.L++[ZN]))(J:W.grownBy w2 x.v.ownBlock)(ai:x.v.ownBlock=O C\/C=W.heap.size)(aX:∀c,c≠C->c≠go->W3.heap[c]? =w2.heap[c]?)(bu:W3.heap[C]? =(wR w2 C (x.L.length*3) (H (txt y.lab)) (mH y.lab.list) y.ar).heap[C]?)(bz:W3.heap[go]? =(w2.setCell (Z go (N*2) U) (G (O (Z C 0 U)) (x.L.length+1) cap)).heap[go]?)(aJ:W3.heap.size=w2.heap.size)(aK:W3.os=w2.os/\W3.tape=w2.tape/\W3.output=w2.output):
  ∃v',rU W3 B bo bw vr (⟨v',x.L++[y],x.e⟩::ag)/\mY W3 bw aR IT/\iR B w W3:=by
 subst aS;obtain⟨Q,aj,az,aY⟩:=hL;have ak:go<w.heap.size/\B<=go:=⟨(h.row.block go rfl).2.1,(h.row.block go rfl).1⟩;have au:∀c,Q c->c≠go:=λc hc e=>aj c hc (.inl (by subst e;exact .inr (.inr (.inr rfl))))
 have aL:∀c,ay c->c≠go:=λc hc e=>aV c hc (by subst e;exact .inr (.inr (.inr rfl)))
 have E:∀b,x.v.ownBlock=O b->b<w.heap.size/\Q b:=λb hb=>⟨(az.1.block b hb).2.1,az.2.1 b hb⟩
 have aM:C≠go:=by
  rintro rfl;rcases ai with ai|ai
  .exact au _ (E _ ai).2 rfl
  .have:=ah.size;omega
 have hsz:w.heap.size<=w2.heap.size:=jk ah.size J.size;have aa:w.grownBy w2 x.v.ownBlock:=⟨J.os.trans ah.os,J.tape.trans ah.tape,J.output.trans ah.output,hsz,λc hc aZ=>(J.block c (jy hc ah.size) aZ).trans (ah.block c hc)⟩;have ae:x.v.ownBlock=O C\/w.heap.size<=C:=ai.imp id λe=>by have:=ah.size;omega
 have aD:pz rf2 2 w2 B RT (G (O (Z go 0 U)) (N+1) aI) (x::ag).reverse:=h.row.keep λb hb=>by
  simp[jK]at hb;subst hb;exact aa.block _ ak.1 λe=>au _ (E _ e.symm).2 rfl
 have aN:∀z:Fr,(z::ag).reverse[N]? =O z:=λz=>by simp[<-aU]
 have aO:∀z ar:Fr,(z::ag).reverse.set N ar=(ar::ag).reverse:=λz ar=>by simp[<-aU]
 have ax:=aD.set Bh (aN x) (j:=0) (x:=G (O (Z C 0 U)) (x.L.length+1) cap) (z:=⟨G (O (Z C 0 U)) (x.L.length+1) cap,x.L++[y],x.e⟩) mX rfl;rw[aO,mh]at ax;have aF:=tO.push az aB aa ae bq (λc hc e=>aj c (E c e).2 (.inr hc)) aW;have av:w.heap.size<=W3.heap.size:=by rw[aJ];exact hsz
 have af:∀c,c<w.heap.size->¬Q c->c≠go->W3.heap[c]? =w.heap[c]? :=λc hc A hn=>by
  have:c≠C:=by
   rintro rfl;rcases ae with e|e
   .exact A (E _ e).2
   .omega
  rw[aX c this hn];exact aa.block c hc λe=>A (E _ e.symm).2
 have aA:∀c,QP B bo bw (G (O (Z go 0 U)) (N+1) aI) c->¬Q c:=λc hc A=>aj c A (.inl hc)
 have aP:=aA bo (.inr (.inl rfl));have aQ:=aA bw (.inr (.inr (.inl rfl)));have aG:bo≠go:=λe=>h.nbo (by subst e;rfl)
 have aH:bw≠go:=λe=>h.nbw (by subst e;rfl)
 refine⟨G (O (Z C 0 U)) (x.L.length+1) cap,⟨?_,?_,h.nbo,h.nbw,⟨λc=>Q c\/ay c\/(c=C/\C<W3.heap.size),λc hc hn=> ?_,?_,?_⟩,h.FV,h.hbw,h.ne,jy h.lt av⟩,?_,?_⟩
 .unfold mY
  rw[af bo h.ho.lt aP aG];exact h.ho
 .refine ax.keep λb hb=> ?_
  simp[jK]at hb;subst hb;exact bz
 .rcases hc with hc|hc|⟨rfl,_⟩
  .exact aj c hc (.inl hn)
  .exact aV c hc hn
  .rcases ae with e|e
   .exact aj _ (E _ e).2 (.inl hn)
   .rcases hn with hn|rfl|rfl|hn
    .have:=ak.2;omega
    .have:=h.ho.lt;omega
    .have:=h.lt;omega
    .simp[jK]at hn;exact aM hn.symm
 .refine aF.keep (by rw[vM,aJ];exact iP _) (λc hc A=> ?_) λc hc A=> ?_
  .by_cases e:c=C
   .subst e;exact bu
   .rw[tQ c e]
    refine aX c e ?_;rcases A with A|A|A
    .exact au c A
    .exact aL c A
    .exact absurd A e
  .rw[vM,<-aJ]at hc
   rcases A with A|A|A
   .exact .inl A
   .exact .inr (.inl A)
   .exact .inr (.inr ⟨A,A▸hc⟩)
 .refine aY.keep av (λc hc hn=>af c hc (λA=>hn (.inr A)) λe=>hn (.inl (.inl (by subst e;exact .inr (.inr (.inr rfl)))))) λc hc hn=> ?_
  rcases hn with hn|hn|hn|⟨rfl,_⟩
  .exact .inl (.inl hn)
  .exact .inr hn
  .exact .inl (.inr hn)
  .rcases ae with e|e
   .exact .inr (E _ e).2
   .omega
 .unfold mY
  rw[af bw h.lt aQ aH];exact hbw
 .refine⟨aK.1.trans aa.os,aK.2.1.trans aa.tape,aK.2.2.trans aa.output,av,λc hc=> ?_⟩
  have bg:c<w.heap.size:=by have:=ak.1;have:=ak.2;omega
  exact af c bg (aA c (.inl hc)) (by have:=ak.2;omega)
def DU(x:Fr)(aa:List Fr)(w:K)(B bo bw:Nat)(vr:iQ)(y:pI IL)(bg:Nat->Prop)(bF:Array iQ)(h:rU w B bo bw vr (x::aa))(hn:aa.length<=100)(hl:x.L.length<=100000)(hbw:mY w bw bF IT)(aB:nC w bg y.ar y.sub)(bG:∀c,bg c->¬QP B bo bw vr c)(hL:EZ w (λc=>QP B bo bw vr c\/bg c) (x::aa))(bH:y.lab.text.length<=jd):
  iW iN 241 #[mI #[H (txt y.lab),mH y.lab.list,y.ar],mG (O (Z bo 0 U)),mG (O (Z bw 0 U))] w
   λe w'=>e=mK (mJ #[])/\∃v',rU w' B bo bw vr (⟨v',x.L++[y],x.e⟩::aa)/\mY w' bw bF IT/\iR B w w':=by
 have⟨ar,aN⟩:=nE y.ar;obtain⟨o,n,c,rfl,_⟩:∃o n c,ar=G o n c/\True:=by obtain⟨o,c,ae,_⟩:=b7 aB;exact⟨o,_,c,by rw[<-aN,ae],trivial⟩
 rw[aN]at aB|-;obtain⟨g,hg⟩:=o7 w;have⟨oa,bS,aQ⟩:=h.row.slice;have aR:(x::aa).reverse.length=aa.length+1:=ny;rw[aR]at aQ;subst aQ;obtain⟨go,rfl,df,ai,_,bq,af,bI⟩:=pz.at_ h.row Bh (i:=aa.length) (y:=x) ny;have r0:w.cell? (Z go (aa.length*2) U)=O x.v:=af 0 mX;have r1:w.cell? (Z go (aa.length*2+1) U)=O (V X (x.e:Nat)):=af 1 mX;have o0:w.cell? (Z bo 0 U)=O (G (O (Z go 0 U)) (aa.length+1) bS):=h.ho.cell 0;have bu:=h.ho.lt;have bz:R (w.cell? (Z go (aa.length*2) U)=O x.v):=Y r0;have bA:=Y (vg (T:=txt y.lab) (l:=y.lab.list) (t:=IT) aB);rw[hg]at bA;have an:=Y h;have bT:=Y hL;have bJ:=Y hbw;have bU:=Y aB;have bV:=Y bG;clear h hL hbw aB aR bG;have⟨N,bB⟩:=nE aa.length;have aD:=Y bB;rw[bB]at r0 r1 o0 hn af bq;have⟨aw,aO⟩:=nE x.L.length;have aF:=Y aO;have⟨ov,cv,aA⟩:∃ov cv,x.v=G ov aw cv:=by
  have⟨Q,_,ae,_⟩:=an.lev;have⟨ov,cv,aj⟩:=ae.slice;exact⟨ov,cv,by rw[aj,aO]⟩
 rw[aO]at hl;rw[aA]at r0;rw[aD.out,aA]at bz;clear af bB aO;go_in;go_upto_region 1 with fail;generalize w.alloc (mM #[H (txt y.lab),mH y.lab.list,G o n c] IT)=w1 at*;have⟨ax,aS,bC,b0,b1,bD,aU⟩:=bA.out _ rfl;have bK:=(ax.cell (p:=(Z go (aa.length*2) U)) (hg▸ai)).trans (aD.out▸r0);rw[aD.out]at bK;have p0:=(ax.cell (p:=(Z bo 0 U)) (hg▸bu)).trans o0;have bL:=Y (iU ax (iU aS aU));clear bA ax aS aU r0 r1 o0;have bM:w1.heap.size=g+1:=by rw[bC]
 have bW:go<w1.heap.size:=I;have dh:(0:Int)<=(aw:Int):=Int.natCast_nonneg _;have dw:(aw:Int)<(aw:Int)+1:=I;have aV:∀b,(jM ov aw cv).ownBlock=O b->b<g/\b≠go:=by
  have⟨Q,bN,aW,_⟩:=an.lev;intro b hb;rw[<-aA]at hb;refine⟨hg▸(aW.1.block b hb).2.1,λe=> ?_⟩;subst e;exact bN _ (aW.2.1 _ hb) (.inr (.inr (.inr rfl)))
 have ay:=Y aV;have aG:R (∀W,w1.drew.alloc (mM #[H ⟨#[]⟩,mH M,G U 0 0] IT)=W->pz NZ 3 W 0 IT (G ov aw cv) x.L/\mY W (g+1) #[H ⟨#[]⟩,mH M,G U 0 0] IT/\iR g w W/\W.heap.size=g+2):=Y λW e=>by
  subst e;have au:iR g w (w1.drew.alloc (mM #[H ⟨#[]⟩,mH M,G U 0 0] IT)):=bL.1.drew.alloc (by rw[show w1.drew.heap.size=w1.heap.size from rfl];omega) _;have aX:(w1.drew.alloc (mM #[H ⟨#[]⟩,mH M,G U 0 0] IT)).heap.size=g+2:=by simp only[World.alloc,World.drew,Array.size_push];omega
  have⟨Q,_,ae,_⟩:=an.lev;refine⟨?_,?_,au,aX⟩
  .rw[<-aA]
   exact ae.1.keep λb hb=>au.block b (hg▸(ae.1.block b hb).2.1)
  .have:=mY.new w1.drew #[H ⟨#[]⟩,mH M,G U 0 0] IT
   rwa [show w1.drew.heap.size=g+1 from bM]at this
 have bX:R (∀A cap (W w2:K),w1.drew.alloc (mM #[H ⟨#[]⟩,mH M,G U 0 0] IT)=W->pz NZ 3 w2 0 IT (G (O (Z A 0 U)) (aw+1) cap) (x.L++[ZN])->W.grownBy w2 (jM ov aw cv).ownBlock->((jM ov aw cv).ownBlock=O A\/A=W.heap.size)->
   (w2.cell? (Z go (N*2) U)=O (G ov aw cv)/\w2.cell? (Z g 0 U)=O (H (txt y.lab))/\w2.cell? (Z g 1 U)=O (mH y.lab.list)/\w2.cell? (Z g 2 U)=O (G o n c))/\
   w2.frozen? (Z go (N*2) U)=M/\A≠go/\A≠g/\(w2.cell? (Z A (aw*3) U)=O (H ⟨#[]⟩)/\w2.cell? (Z A (aw*3+1) U)=O (mH M)/\w2.cell? (Z A (aw*3+2) U)=O (G U 0 0))/\
   (w2.frozen? (Z A (aw*3) U)=M/\w2.frozen? (Z A (aw*3+1) U)=M/\w2.frozen? (Z A (aw*3+2) U)=M)/\aw+1<=cap):=Y λA cap W w2 e ae aj av=>by
  have⟨_,_,au,aX⟩:=aG.out W e;have aH:go<g:=hg▸ai;have f1:∀i,w2.cell? (Z go i U)=w.cell? (Z go i U):=λi=>(aj.cell_far (Z go i U) (show go<W.heap.size by omega) (λe=>(ay _ e.symm).2 rfl)).trans (au.cell (p:=(Z go i U)) aH)
  have f2:∀i,w2.frozen? (Z go i U)=w.frozen? (Z go i U):=λi=>(aj.frozen_far (Z go i U) (show go<W.heap.size by omega) (λe=>(ay _ e.symm).2 rfl)).trans (au.frozen (p:=(Z go i U)) aH)
  have aY:O g≠(jM ov aw cv).ownBlock:=λe=>by have:=(ay _ e.symm).1;omega
  have f3:∀i,w2.cell? (Z g i U)=w1.cell? (Z g i U):=λi=>by
   subst e;exact(aj.cell_far (Z g i U) (show g<_ by omega) aY).trans ((iT w1.heap.size w1).drew.alloc (iP _) _|>.cell (p:=(Z g i U)) (show g<w1.heap.size by omega))
  have⟨dx,bY,_,_,_,aP,hc,bE⟩:=pz.at_ ae zu (i:=aw) (y:=ZN) (by rw[<-aF.out];simp);cases bY;refine⟨⟨?_,(f3 0).trans b0,(f3 1).trans b1,(f3 2).trans bD⟩,?_,?_,?_,⟨hc 0 mX,hc 1 mX,hc 2 mX⟩,⟨bE _,bE _,bE _⟩,aP⟩;.rw[f1];exact bz
  .rw[f2];exact bI _
  .rintro rfl
   rcases av with av|av
   .exact(ay _ av).2 rfl
   .omega
  .rintro rfl
   rcases av with av|av
   .exact aY av.symm
   .omega
 clear aV;go_upto_region 4 with fail;refine Kk (S:=λw'=>w'.cell? (Z go (N*2) U)=O (G ov aw cv)/\w'.cell? (Z g 0 U)=O (H (txt y.lab))/\w'.cell? (Z g 1 U)=O (mH y.lab.list)/\w'.cell? (Z g 2 U)=O (G o n c)) 7 mZ ⟨bK,b0,b1,bD⟩ (λE=> ?_);refine takeB 0 E ?_;refine takeB 1 E ?_;refine takeB 2 E ?_;refine takeB 3 E ?_;refine takeB 4 E ?_;refine takeB 5 E ?_;refine R9 (i:=6) mZ Dc (λaq C=> ?_);go_simp;have⟨bO,bP,aZ,bQ⟩:=aG.out _ rfl;have az:∀i,(w1.drew.alloc (mM #[H ⟨#[]⟩,mH M,G U 0 0] IT)).cell? (Z g i U)=w1.cell? (Z g i U):=λi=>((iT w1.heap.size w1).drew.alloc (iP _) _).cell (p:=(Z g i U)) (show g<w1.heap.size by omega)
 refine C _ _ ⟨(aZ.cell (p:=(Z go (N*2) U)) (hg▸ai)).trans bz.out,(az 0).trans b0,(az 1).trans b1,(az 2).trans bD⟩ (λaI=> ?_);clear C aq az bO bP aZ bQ aI;try simp only[l7,iX,jg,jf]
 refine FU _ _ _ _ mZ (wpAny_of_held (S:=λ_=>True) _ _ _ _ ?_);refine wpAnyH_ready (rs:=[7]) mZ ny ?_;refine kL Dc (λaq C=> ?_) kT;refine yO Je (by rfl) _ _ (by rfl) (B:=0) (L:=x.L) (y:=ZN) (by rfl) (aG _ (by rfl)).1 (by rfl) (aG _ (by rfl)).2.1 rfl mX (by rw[aF.out];omega) I ?_;intro A cap w2 ag ak aJ hlt;have aK:=Y (λW3=>a3z (W3:=W3) (W:=(w1.alloc (mM #[H ⟨#[]⟩,mH M,G U 0 0] IT)).drew) (N:=N) an bJ (by rw[aD.out]) aD (by rw[aN];exact bU) bV bT bH (hg.symm▸(aG _ (by rfl)).2.2.1) ag (by rw[aA];exact ak) (by rw[aA];exact aJ));rw[aF.out,aN]at aK;rw[aF.out]at ag;rw[aF.out];have⟨bR,z0,J,dz,⟨bZ,cz,cK⟩,⟨dG,dH,z3⟩,dA⟩:=bX.out A cap _ w2 (by rfl) ag ak aJ;obtain⟨cZ,_⟩:=bR;clear ag ak aJ hlt;refine C _ _ trivial (λah=> ?_);clear C aq;try simp only[l7,iX,jg,jf]
 refine uY 8 ah ?_;refine uY 10 ah ?_;refine uY 11 ah ?_;refine wpAnyH_ready (rs:=[9,12]) mZ ny ?_;refine kL Dc (λaq C=> ?_) ?more;case more=>
  refine kL Dc (λaq C=> ?_) kT;go_simp;refine C _ _ trivial (λaL=> ?_);clear C aq;try simp only[l7,iX,jg,jf]
  have dB:=(World.cell?_setCell_far w2 (Z go (N*2) U) (Z A (aw*3) U) (G (O (Z A 0 U)) (aw+1) cap) (mf J)).trans bZ;have dD:=(World.cell?_setCell_far w2 (Z go (N*2) U) (Z A (aw*3+1) U) (G (O (Z A 0 U)) (aw+1) cap) (mf J)).trans cz;have dE:=(World.cell?_setCell_far w2 (Z go (N*2) U) (Z A (aw*3+2) U) (G (O (Z A 0 U)) (aw+1) cap) (mf J)).trans cK;refine wpAnyH_ready (rs:=[9]) mZ ny ?_;refine kL Dc (λaq C=> ?_) kT;go_simp;refine C _ _ trivial (λaM=> ?_);clear C aq;try simp only[l7,iX,jg,jf]
  refine wpAnyH_done mZ ?_ _;go_end0;refine⟨rfl,aK _ (λc ae aj=> ?_) ?_ ?_ (by simp[jr]) ⟨rfl,rfl,rfl⟩⟩;.rw[rM,tQ c ae,jh _ _ _ _ aj]
  .rw[rM]
   exact Sa _ _ _ _ (jh _ _ _ _ J)
  .rw[rM,tQ go (mf J)]
 go_simp;refine C _ _ trivial (λaL=> ?_);clear C aq;try simp only[l7,iX,jg,jf]
 have dF:(((w2.setCell (Z A (aw*3) U) (H (txt y.lab))).setCell (Z A (aw*3+1) U) (mH y.lab.list)).setCell (Z A (aw*3+2) U) (G o n c)).cell? (Z go (N*2) U)=O (G ov aw cv):=by
  rw[World.cell?_setCell_far _ _ _ _ J,World.cell?_setCell_far _ _ _ _ J,World.cell?_setCell_far _ _ _ _ J];exact cZ
 refine wpAnyH_ready (rs:=[12]) mZ ny ?_;refine kL Dc (λaq C=> ?_) kT;go_simp;refine C _ _ trivial (λaM=> ?_);clear C aq;try simp only[l7,iX,jg,jf]
 refine wpAnyH_done mZ ?_ _;go_end0;refine⟨rfl,aK _ (λc ae aj=> ?_) ?_ ?_ (by simp[jr]) ⟨rfl,rfl,rfl⟩⟩;.rw[rM,jh _ _ _ _ aj,tQ c ae]
 .rw[rM,jh _ _ _ _ J]
 .rw[rM]
  exact vT _ _ (tQ go (mf J))
def Xk{J:Nat->Prop}{E:Array iQ}{l:Bool}{v:iQ}{s:List (mW IL)}(h:rU w B bo bw vr [])(hbw:mY w bw E IT)(aa:nC w J v s)(ae:∀c,J c->¬QP B bo bw vr c)(hc:E.size=3)(C:iR w.heap.size w w1):
  rU (wR w1 bw 0 (H T) (mH l) v) B bo bw vr []/\mY (wR w1 bw 0 (H T) (mH l) v) bw #[H T,mH l,v] IT/\nC (wR w1 bw 0 (H T) (mH l) v) J v s/\iR B w (wR w1 bw 0 (H T) (mH l) v):=by
 have N:=a7 C hbw h.lt;have hB:iR B w (wR w1 bw 0 (H T) (mH l) v):=by
  have af:=(C.mono (show B<=w.heap.size by have:=h.hbw;have:=h.lt;omega));exact oO.below (PG w1 bw 0 (H T) (mH l) v) af h.hbw (by have:=C.size;have:=h.hbw;have:=h.lt;omega)
 have A:∀c,c<w.heap.size->c≠bw->(wR w1 bw 0 (H T) (mH l) v).heap[c]? =w.heap[c]? :=λc hc hn=>(tQ c hn).trans (C.block c hc)
 refine⟨⟨?_,h.row.keep λb hb=>A b (h.row.block b hb).2.1 (λe=>h.nbw (e▸hb)),h.nbo,h.nbw,trivial,h.FV,h.hbw,h.ne,by rw[vM];exact jy h.lt C.size⟩,?_,?_,hB⟩
 .unfold mY
  rw[A bo h.ho.lt h.ne];exact h.ho
 .have:=(((N.set 0 (H T)).set 1 (mH l)).set 2 v)
  have e:((E.setIfInBounds 0 (H T)).setIfInBounds 1 (mH l)).setIfInBounds 2 v=#[H T,mH l,v]:=by
   obtain⟨L⟩:=E
   match L,hc with
   |[a,b,c],_=>rfl
  rw[e]at this;exact this
 .exact Shape.nA.keep aa (by rw[vM];exact C.size) (λ_ _ h=>h) λc hc ag=>A c hc λe=>ae c ag (.inr (.inr (.inl e)))
def Av(w:K)(B bo bw:Nat)(vr:iQ)(y:pI IL)(af:Nat->Prop)(a0 a1 a2:iQ)(h:rU w B bo bw vr [])(hbw:mY w bw #[a0,a1,a2] IT)(E:nC w af y.ar y.sub)(aj:∀c,af c->¬QP B bo bw vr c):
  iW iN 241 #[mI #[H (txt y.lab),mH y.lab.list,y.ar],mG (O (Z bo 0 U)),mG (O (Z bw 0 U))] w
   λe w'=>e=mK (mJ #[])/\rU w' B bo bw vr []/\mY w' bw #[H (txt y.lab),mH y.lab.list,y.ar] IT/\nC w' af y.ar y.sub/\iR B w w':=by
 have⟨ar,ak⟩:=nE y.ar;obtain⟨o,n,c,rfl,_⟩:∃o n c,ar=G o n c/\True:=by obtain⟨o,c,ag,_⟩:=b7 E;exact⟨o,_,c,by rw[<-ak,ag],trivial⟩
 rw[ak]at E|-;obtain⟨g,hg⟩:=o7 w;have⟨oa,au,ae⟩:=h.row.slice;have J:vr=G oa 0 au:=ae;have o0:w.cell? (Z bo 0 U)=O (G oa 0 au):=by rw[<-J];exact h.ho.cell 0
 have N:=h.ho.lt;have ah:=Y (vg (T:=txt y.lab) (l:=y.lab.list) (t:=IT) E);have aa:=Y (λw1 ag=>Xk (w1:=w1) (T:=txt y.lab) (l:=y.lab.list) h hbw E aj rfl ag);have A:=h.lt;have c0:=hbw.cell 0;have c1:=hbw.cell 1;have c2:=hbw.cell 2;have⟨z0,av,ax⟩:=hbw.f3;rw[hg]at ah aa A N;clear h hbw E aj ae J;go_in;go_upto_region 1 with fail;generalize w.alloc (mM #[H (txt y.lab),mH y.lab.list,G o n c] IT)=w1 at*;have⟨C,ay,aA,b0,b1,aB,az⟩:=ah.out _ rfl;have p0:=(C.cell (p:=(Z bo 0 U)) N).trans o0;have aD:=(C.cell (p:=(Z bw 0 U)) A).trans c0;have aF:=(C.cell (p:=(Z bw 1 U)) A).trans c1;have aG:=(C.cell (p:=(Z bw 2 U)) A).trans c2;have aH:=(C.frozen (p:=(Z bw 0 U)) A).trans z0;have aI:=(C.frozen (p:=(Z bw 1 U)) A).trans av;have aJ:=(C.frozen (p:=(Z bw 2 U)) A).trans ax;have ai:=Y (aa _ C);clear ah C ay az aa c0 c1 c2 z0 av ax;go_wp2;go_returns;exact⟨rfl,ai.out⟩
end
section
def DV{y:mW IL×Nat×Nat}(h:uq k l m=.ok y):0<y.2.1/\y.2.1<=l.length:=⟨(Aj k l m y h).1,(Aj k l m y h).2.1⟩
def ZO:∀(f A:Nat)(l:List AC)(m:Nat)(sub:List (mW IL)),l.length<f->l.length<A->OZ (uq k) f l m sub=OZ (uq k) A l m sub:=by
 intro f;induction f with
 |zero=>intro A l m sub h;omega
 |succ f C=>
  intro A l m sub h E;cases A with
  |zero=>omega
  |succ A=>
   simp only[OZ];split;.rfl
   .split
    .rfl
    .rename_i y hy
     have⟨J,N⟩:=DV hy;exact C A _ _ _ nk nk
def zT(s:List AC)(at_ A:Nat):List AC:=(s.drop at_).take (A - at_)
def Kl(k:Nat)(l:List AC)(m:Nat)(sub:List (mW IL)):Except Nat (List (mW IL)×Nat):=OZ (uq k) (l.length+1) l m sub
def fin(s:List AC):List (List (mW IL)×Nat)->Nat->mW IL->Nat->Nat->Except Nat (mW IL×Nat×Nat)
 |[],_,x,p,m=> .ok (x,p,m)
 |(sub,e)::st,k,x,p,m=>match Kl k (zT s p e) m (sub++[x])with
  | .error er=> .error er
  | .ok y=>fin s st (k+1) (.node ⟨[],u⟩ y.1) e y.2
def cont(s:List AC)(sub:List (mW IL))(e:Nat)(st:List (List (mW IL)×Nat))(k p m:Nat):Except Nat (mW IL×Nat×Nat):=match Kl k (zT s p e) m sub with
  | .error er=> .error er
  | .ok y=>fin s st (k+1) (.node ⟨[],u⟩ y.1) e y.2
def ZP(s:List AC)(sub:List (mW IL))(e:Nat)(st:List (List (mW IL)×Nat))(k:Nat)(x:mW IL)(p m:Nat):fin s ((sub,e)::st) k x p m=cont s (sub++[x]) e st k p m:=rfl
def ZQ(s:List AC)(e:Nat):zT s e e=[]:=by simp[zT]
def UR(k m:Nat)(sub:List (mW IL)):Kl k [] m sub=.ok (sub,m):=by simp[Kl,OZ]
def Jf{s:List AC}{sub:List (mW IL)}{st:List (List (mW IL)×Nat)}:cont s sub e st k e m=fin s st (k+1) (.node ⟨[],u⟩ sub) e m:=by
 unfold cont;rw[ZQ,UR]
def Aw{sub:List (mW IL)}(h:l≠[]):Kl k l m sub=match uq k l m with
  | .error e=> .error (if e=2 then 3 else e)
  | .ok y=>Kl k (l.drop y.2.1) y.2.2 (sub++[y.1]):=by
 unfold Kl;conv=>lhs;rw[OZ]
 rw[At h];cases hy:uq k l m with
 |error e=>rfl
 |ok y=>
  have⟨A,C⟩:=DV hy;exact ZO _ _ _ _ _ nk ny
def seg_length(s:List AC){p:Nat}(A:p<=e)(C:e<=s.length):(zT s p e).length=e - p:=by simp[zT];omega
def Jg(s:List AC){p:Nat}(C:p<e)(A:e<=s.length):zT s p e≠[]:=λh=>by
 have:=congrArg lQ h;rw[seg_length s I A]at this;simp at this;omega
def DW(s:List AC){p:Nat}(h:p+n<=e):(zT s p e).drop n=zT s (p+n) e:=by
 unfold zT;rw[List.drop_take,List.drop_drop,show e - p - n=e -(p+n)by omega]
def PI(s:List AC){p:Nat}(h:p+n<=e):(zT s p e).take n=zT s p (p+n):=by
 unfold zT;rw[List.take_take,lZ I,show p+n - p=n by omega]
def ZR{s:List AC}{sub:List (mW IL)}{st:List (List (mW IL)×Nat)}{p:Nat}(hp:p<e)(he:e<=s.length)(h:uq k (zT s p e) m=.error er):
  cont s sub e st k p m=.error (if er=2 then 3 else er):=by
 unfold cont;rw[Aw (Jg s hp he),h]
def a3A:∀(f:Nat)(l:List AC)(m:Nat)(sub:List (mW IL))(er:Nat),OZ (uq k) f l m sub=.error er->er≠2:=by
 intro f;induction f with
 |zero=>intro l m sub er h;simp only[OZ]at h;cases h;decide
 |succ f A=>
  intro l m sub er h;simp only[OZ]at h;split at h;.cases h
  .split at h
   .cases h;split<;>omega
   .exact A _ _ _ _ h
def PK(h:l≠[]):uq 0 l m=.error 6:=by simp[uq,h]
def MN:uq k [] m=.error 2:=by cases k<;>simp[uq]
def PL(h:l≠[]):uq (k+1) l 0=.error 4:=by simp[uq,h]
def PM(h:l≠[])(A:hd l=.error er):uq (k+1) l (m+1)=.error er:=by simp[uq,h,A]
def Jh(h:l≠[])(A:hd l=.ok (M,z,n)):uq (k+1) l (m+1)=.ok (.node ⟨(l.drop z).take n,M⟩ [],z+n,m):=by simp[uq,h,A]
def Ji(h:l≠[])(A:hd l=.ok (u,z,n))(C:z+n<=l.length):uq (k+1) l (m+1)=match Kl k ((l.drop z).take n) m []with
  | .error e=> .error e
  | .ok y=> .ok (.node ⟨[],u⟩ y.1,z+n,y.2):=by
 simp only[uq,h,cU,A,Nat.add_sub_cancel,cH];rw[At I];have:((l.drop z).take n).length=n:=nk;unfold Kl;rw[this];cases OZ (uq k) (n+1) ((l.drop z).take n) m []<;>rfl
def Xl{s:List AC}{sub:List (mW IL)}{st:List (List (mW IL)×Nat)}{p:Nat}(hp:p<e)(he:e<=s.length)(h:hd (zT s p e)=.ok (M,z,n))(A:z+n<=e - p):
  cont s sub e st (k+1) p (m+1)=cont s (sub++[.node ⟨zT s (p+z) (p+z+n),M⟩ []]) e st (k+1) (p+z+n) m:=by
 unfold cont;rw[Aw (Jg s hp he),Jh (Jg s hp he) h];simp only;rw[DW s I,DW s I,PI s I,<-j3]
def Xm{s:List AC}{sub:List (mW IL)}{st:List (List (mW IL)×Nat)}{p:Nat}(hp:p<e)(he:e<=s.length)(h:hd (zT s p e)=.ok (u,z,n))(C:z+n<=e - p):
  cont s sub e st (k+1) p (m+1)=cont s [] (p+z+n) ((sub,e)::st) k (p+z) m:=by
 unfold cont;rw[Aw (Jg s hp he),Ji (Jg s hp he) h (by rw[seg_length s I he];omega)];rw[DW s I,PI s I];cases A:Kl k (zT s (p+z) (p+z+n)) m []with
 |error er=>
  simp only;rw[At (a3A _ _ _ _ _ A)]
 |ok y=>
  simp only[fin];rw[DW s I,<-j3]
def Cv{s:List AC}(h:hd s=.ok (u,z,n))(hs:s≠[])(A:z+n<=s.length):uq (k+1) s (m+1)=cont s [] (z+n) [] k z m:=by
 rw[Ji hs h A];unfold cont;have:(s.drop z).take n=zT s z (z+n):=by unfold zT;rw[show z+n - z=n by omega]
 rw[this];cases Kl k (zT s z (z+n)) m []<;>rfl
end
section
open Go.RowKit
def BO:Except Nat (Bool×Nat×Nat)->iQ
 | .error e=> mJ #[mH M,V X 0,V X 0,V X (e:Nat)]
 | .ok q=> mJ #[mH q.1,V X (q.2.1:Nat),V X (q.2.2:Nat),V X 0]
def CB(l:List AC)(deep A:Bool):Except Nat (Bool×Nat×Nat):=if l=[]then .error 2 else if deep then .error 6 else if A then .error 4 else hd l
def UT(h:CB l (As (k=0)) (As (m=0))=.error e):uq k l m=.error e:=by
 unfold CB at h;split at h;.rename_i h0;subst h0;cases h;exact MN
 rename_i h0;split at h;.rename_i A;simp at A;subst A;cases h;exact PK h0
 rename_i A;obtain⟨k,rfl⟩:∃E,k=E+1:=⟨k - 1,by simp at A;omega⟩;split at h;.rename_i C;simp at C;subst C;cases h;exact PL h0
 rename_i C;obtain⟨m,rfl⟩:∃J,m=J+1:=⟨m - 1,by simp at C;omega⟩;exact PM h0 h
def ZT(h:CB l (As (k=0)) (As (m=0))=.ok q):l≠[]/\0<k/\0<m/\hd l=.ok q:=by
 unfold CB at h;split at h;.cases h
 rename_i h0;split at h;.cases h
 rename_i A;split at h;.cases h
 rename_i C;exact⟨h0,by simp at A;omega,by simp at C;omega,h⟩
def Sb{s:An}(h0:0<s.size){by' t:Nat}(hL:As (192<=s[0].toNat)=L)(hb:by'=if L then 192 else 128)(ht:s[0].toNat=by'+t):
  (t<=55->hd s.data.toList=hd2 s.data.toList L 1 t)/\
  (∀k,t=55+k->0<k->(s.size<1+k->hd s.data.toList=.error 2)/\(1+k<=s.size->
   (s.extract 1 (1+k)).data.toList=(s.data.toList.drop 1).take k/\
   (((s.data.toList.drop 1).head? =O 0\/qY ((s.data.toList.drop 1).take k)<56)->hd s.data.toList=.error 3)/\
   (¬((s.data.toList.drop 1).head? =O 0\/qY ((s.data.toList.drop 1).take k)<56)->hd s.data.toList=hd2 s.data.toList L (1+k) (qY ((s.data.toList.drop 1).take k))))):=by
 have hl:=r9 s h0;have hlen:s.data.toList.length=s.size:=ny;have E:by'=if 192<=s[0].toNat then 192 else 128:=by rw[hb,<-hL];simp
 have A:¬s[0].toNat<128:=by
  rw[hb]at ht;split at ht<;>omega
 generalize J:s.data.toList.drop 1=r at*;have key:hd s.data.toList=if t<=55 then hd2 s.data.toList L 1 t else if s.data.toList.length<1+(t - 55)then .error 2 else if(r.head? =O 0\/qY (r.take (t - 55))<56)then .error 3 else hd2 s.data.toList L (1+(t - 55)) (qY (r.take (t - 55))):=by
  conv=>lhs;rw[hl]
  simp only[hd];rw[At A,<-E,ht,hL.symm,ht,Nat.add_sub_cancel_left,<-hl]
 refine⟨λh=>by rw[key,Ax h],?_⟩;rintro k rfl hk;rw[show 55+k - 55=k by omega,At I,hlen]at key;refine⟨λh=>by rw[key,Ax h],λh=>⟨?_,λC=>by rw[key,At I,Ax C],λC=>by rw[key,At I,At C]⟩⟩;rw[<-J];simp only[c9,dv,List.extract];rw[show 1+k - 1=k by omega]
def Sc(hk:0<k)(J:k<=8)(hl:k<=l.length):
  ((l.head? =O 0\/qY (l.take k)<56)/\(qw (l.take k)=(0,3)\/∃v,v<=55/\qw (l.take k)=(v,0)))\/
   (¬(l.head? =O 0\/qY (l.take k)<56)/\qw (l.take k)=(qY (l.take k),0)/\56<=qY (l.take k)/\qY (l.take k)<18446744073709551616):=by
 cases l with
 |nil=>simp at hl;omega
 |cons b r=>
  obtain⟨j,rfl⟩:∃j,k=j+1:=⟨k - 1,I⟩;rw[jm];have C:(r.take j).length=j:=by simp at hl|-;omega
  have N:=GI (b::r.take j);rw[jD,C]at N;have hp:=xq (j+1) J;simp only[List.head?_cons,lS];by_cases hb:b=0
  .left
   refine⟨.inl hb,.inl ?_⟩;rw[qw,At I,Ax (by rw[hb];rfl)]
  .have E:¬b.toNat=0:=λh=>hb (kH.1 h)
   have e:qw (b::r.take j)=(qY (b::r.take j),0):=by rw[qw,At I,At E]
   by_cases A:qY (b::r.take j)<56;.exact .inl ⟨.inr A,.inr ⟨_,I,e⟩⟩
   .exact .inr ⟨λh=>h.elim hb A,e,I,I⟩
def Bi(h:l.length - z<n):hd2 l L z n=.error 2:=by unfold hd2;rw[Ax h]
def DX(h:p:=by
 go_wp2;go_returns;exact⟨by rw[hR.out];rfl,rfl⟩):p:=h
def UU(h:p:=by
 have hq:=Y (HT.1 c);go_wp2_with fail;go_meet;exact⟨1,t,by first|rfl|(simp;omega),rfl,by congr 1;have:=HE.out;omega,I,I,I,hq,rfl⟩):p:=h
def UW(h:p:=by
 simp only[n2];go_wp2_with fail;go_meet;exact⟨1+k,v,by first|rfl|(simp;omega),rfl,rfl,I,hk1,hvs,hR,rfl⟩):p:=h
def ZU(h:p:=by
 have hR:=Y (K9 hbad);clear K9 La hbad;rcases hg with rfl|⟨v,hv,rfl⟩
 .go_wp2_with fail
  refine CG.mono ?_;rintro e w1 ⟨rfl,rfl⟩;simp only[n2];go_wp2;go_returns;exact⟨by rw[hR.out];rfl,rfl⟩
 .have d4:As (v<=55)=u:=nk
  go_wp2_with fail;refine CG.mono ?_;rintro e w1 ⟨rfl,rfl⟩;simp only[n2];go_wp2;go_returns;exact⟨by rw[hR.out];rfl,rfl⟩):p:=h
def E5(h:p:=by
 go_wp2;go_returns;exact⟨by rw[hq.out,hE.out];rfl,rfl⟩):p:=h
def ZV(h:p:=by
 have d5:As (s.size<v)=u:=nk;have hE:=Y (HS (1+k) v (by rw[HL.out];omega));go_wp2_with fail;refine CG.mono ?_;rintro e w1 ⟨rfl,rfl⟩;simp only[n2];go_wp2;go_returns;exact⟨by rw[hR.out,hE.out];rfl,rfl⟩):p:=h
def MO(s:An)(w:K)(hs:s.size<=100000)(h0:0<s.size)(hb:128<=s[0].toNat):
  iW iN 242 #[H s,mH M,mH M] w λe w'=>e=mK (BO (hd s.data.toList))/\w'=w:=by
 have aP:=rW s h0;have au:s[0].toNat<=255:=by have:=s[0].toNat_lt;omega
 have hlen:s.data.toList.length=s.size:=ny;have⟨L,hL⟩:=nE (As (192<=s[0].toNat));have⟨aE,hR⟩:=nE (hd s.data.toList);have ay:=Y (λt by'=>Sb h0 (by':=by') (t:=t) hL);have ak:=Y (λk=>Sc (l:=s.data.toList.drop 1) (k:=k));have HS:=Y (λz n (h:s.data.toList.length - z<n)=>Bi (l:=s.data.toList) (L:=L) (z:=z) (n:=n) h);have HL:=Y hlen;rw[hR]at ay|-;clear hR hlen;have aK:As (s[0].toNat<128)=M:=nk;have⟨b,hb0⟩:=nE (s[0].toNat);rw[hb0]at aK;have⟨t,by',ai,ht⟩:∃t by',(by'=if L then 192 else 128)/\b=by'+t:=by
  cases L with
  |true=>exact⟨b - 192,192,rfl,by simp at hL;omega⟩
  |false=>exact⟨b - 128,128,rfl,I⟩
 have HT:=Y (ay t by' ai (hb0.trans ht));have HE:=Y ht;have av:=Y ai;have aL:As (192<=b)=L:=by rw[<-hL,hb0]
 clear ay hL ht ai;go_in;cases L with
 |true=>
  obtain rfl:by'=192:=av.out;have aB:192<=b:=by have:=HE.out;omega
  have aD:b<=255:=I;clear au;go_upto_if 38 with(fail)
  go_cut [6,7,8] (λa b c az=>∃A N:Nat,a=mH u/\b=V X (A:Int)/\c=V X (N:Int)/\1<=A/\A<=s.size/\N<=100000/\R (aE=hd2 s.data.toList u A N)/\az=w);case first=>
   by_cases c:t<=55
   .have af:b<=247:=by have:=HE.out;omega
    exact UU
   .have⟨k,hk⟩:∃k,t=55+k:=⟨t - 55,I⟩
    have E:0<k:=I;have aj:k<=8:=by have:=HE.out;omega
    have ag:=Y (HT.2 k hk E);have af:247<b:=by have:=HE.out;omega
    have aM:(1+((b:Int) - 192 - 55))=((1+k:Nat):Int):=by have:=HE.out;omega
    go_upto_region 16 with fail;simp only[show(1+(k:Int))=((1+k:Nat):Int)by omega];by_cases c2:s.size<1+k
    .have hR:=Y (ag.1 c2)
     have ah:As (s.size<1+k)=u:=nk;exact DX
    .have ah:As (s.size<1+k)=M:=nk
     have hk1:1+k<=s.size:=I;have CG:=Y (zi (s.extract 1 (1+k)) w (by simp[iV];unfold jd;omega));have⟨J,aa,ae⟩:=ag.2 hk1;rw[J]at CG;have K9:=Y aa;have La:=Y ae;have hg:=ak.out k E aj (by rw[jP,HL.out];omega);clear J aa ae ag ak HT c2 c hk;generalize qw ((s.data.toList.drop 1).take k)=ao at*;generalize (s.data.toList.drop 1).take k=aA at*;rcases hg with⟨hbad,hg⟩|⟨C,rfl,aF,aG⟩
     .exact ZU
     .have hR:=Y (La C)
      clear K9 La C;generalize qY aA=v at*;have d4:As (v<=55)=M:=nk;by_cases c5:s.size<v;.exact ZV
      .have d5:As (s.size<v)=M:=nk
       have hvs:v<=100000:=I;go_wp2_with fail;refine CG.mono ?_;rintro e w1 ⟨rfl,rfl⟩;exact UW
  case rest=>
   obtain⟨A,N,rfl,rfl,rfl,aH,aN,aO,hq,rfl⟩:=hcut;by_cases c1:s.size - A<N
   .have hE:=Y (HS A N (by rw[HL.out];omega))
    have af:As ((s.size:Int) -(A:Int)<(N:Int))=u:=nk;clear c1;exact E5
   .have af:As ((s.size:Int) -(A:Int)<(N:Int))=M:=nk
    have aI:N<=s.size - A:=I;clear c1;have hE:R (hd2 s.data.toList u A N=.ok (u,A,N)):=Y (by unfold hd2;rw[At (by rw[HL.out];omega),At ny]);exact E5
 |false=>
  obtain rfl:by'=128:=av.out;have aB:128<=b:=by have:=HE.out;omega
  have aQ:b<192:=by simpa using aL
  have aD:b<=255:=I;clear au;go_upto_if 38 with(fail)
  go_cut [6,7,8] (λa b c az=>∃A N:Nat,a=mH M/\b=V X (A:Int)/\c=V X (N:Int)/\1<=A/\A<=s.size/\N<=100000/\R (aE=hd2 s.data.toList M A N)/\az=w);case first=>
   by_cases c:t<=55
   .have af:b<=183:=by have:=HE.out;omega
    exact UU
   .have⟨k,hk⟩:∃k,t=55+k:=⟨t - 55,I⟩
    have E:0<k:=I;have aj:k<=8:=by have:=HE.out;omega
    have ag:=Y (HT.2 k hk E);have af:183<b:=by have:=HE.out;omega
    have aM:(1+((b:Int) - 128 - 55))=((1+k:Nat):Int):=by have:=HE.out;omega
    go_upto_region 16 with fail;simp only[show(1+(k:Int))=((1+k:Nat):Int)by omega];by_cases c2:s.size<1+k
    .have hR:=Y (ag.1 c2)
     have ah:As (s.size<1+k)=u:=nk;exact DX
    .have ah:As (s.size<1+k)=M:=nk
     have hk1:1+k<=s.size:=I;have CG:=Y (zi (s.extract 1 (1+k)) w (by simp[iV];unfold jd;omega));have⟨J,aa,ae⟩:=ag.2 hk1;rw[J]at CG;have K9:=Y aa;have La:=Y ae;have hg:=ak.out k E aj (by rw[jP,HL.out];omega);clear J aa ae ag ak HT c2 c hk;generalize qw ((s.data.toList.drop 1).take k)=ao at*;generalize (s.data.toList.drop 1).take k=aA at*;rcases hg with⟨hbad,hg⟩|⟨C,rfl,aF,aG⟩
     .exact ZU
     .have hR:=Y (La C)
      clear K9 La C;generalize qY aA=v at*;have d4:As (v<=55)=M:=nk;by_cases c5:s.size<v;.exact ZV
      .have d5:As (s.size<v)=M:=nk
       have hvs:v<=100000:=I;go_wp2_with fail;refine vE CG ?_;exact UW
  case rest=>
   obtain⟨A,N,rfl,rfl,rfl,aH,aN,aO,hq,rfl⟩:=hcut;by_cases c1:s.size - A<N
   .have hE:=Y (HS A N (by rw[HL.out];omega))
    have af:As ((s.size:Int) -(A:Int)<(N:Int))=u:=nk;clear c1;exact E5
   .have af:As ((s.size:Int) -(A:Int)<(N:Int))=M:=nk
    have aI:N<=s.size - A:=I;clear c1;by_cases c2:N=1
    .subst c2
     have aJ:A<s.size:=I;have ax:R (s.data.toList.getD A 0=s[A]):=Y (by rw[jN,ja (by rw[HL.out];exact aJ)];rfl);by_cases c3:s[A].toNat<128
     .have hE:R (hd2 s.data.toList M A 1=.error 3):=Y (by unfold hd2;rw[At (by rw[HL.out];omega),Ax ⟨rfl,rfl,by rw[ax.out];exact c3⟩])
      have ah:As (s[A].toNat<128)=u:=nk;exact E5
     .have hE:R (hd2 s.data.toList M A 1=.ok (M,A,1)):=Y (by unfold hd2;rw[At (by rw[HL.out];omega),At (by rw[ax.out];intro h;exact c3 h.2.2)])
      have ah:As (s[A].toNat<128)=M:=nk;exact E5
    .have hE:R (hd2 s.data.toList M A N=.ok (M,A,N)):=Y (by unfold hd2;rw[At (by rw[HL.out];omega),At (λh=>c2 h.2.1)])
     have ah:((N:Int)==1)=M:=qJ;clear c2;exact E5
def PN(s:An)(deep A:Bool)(w:K)(hs:s.size<=100000):
  iW iN 242 #[H s,mH deep,mH A] w λe w'=>e=mK (BO (CB s.data.toList deep A))/\w'=w:=by
 by_cases h0:s.size=0
 .have e:s=⟨#[]⟩:=Dr (j5.1 (by simpa using h0))
  subst e;have hR:R (CB (⟨#[]⟩:An).data.toList deep A=.error 2):=Y rfl;go_in;exact DX
 have hp:0<s.size:=I;have C:s.data.toList≠[]:=λh=>h0 (by have:=congrArg lQ h;simpa using this)
 have J:=rW s hp;cases deep with
 |true=>
  have hR:R (CB s.data.toList u A=.error 6):=Y (by simp[CB,C]);clear C;go_in;exact DX
 |false=>
  cases A with
  |true=>
   have hR:R (CB s.data.toList M u=.error 4):=Y (by simp[CB,C]);clear C;go_in;exact DX
  |false=>
   have hR:R (CB s.data.toList M M=hd s.data.toList):=Y (by simp[CB,C]);rw[hR.out];by_cases hb:s[0].toNat<128
   .have E:R (hd s.data.toList=.ok (M,0,1)):=Y (by rw[r9 s hp];simp only[hd];rw[Ax hb])
    clear C hR;go_in;go_wp2;go_returns;exact⟨by rw[E.out];rfl,rfl⟩
   .exact MO s w hs hp I
def lvl(x:Fr):List (mW IL)×Nat:=(x.L.map pI.tree,x.e)
def Ends:Nat->List Fr->Nat->Prop
 |p,[],S=>p<=S
 |p,x::A,S=>p<=x.e/\Ends x.e A S
def Ends.le:∀{st:List Fr}{p S:Nat},Ends p st S->p<=S
 |[],_,_,h=>h
 |x::A,_,_,h=>jk h.1 (Ends.le h.2)
def qC:Array iQ:=#[H ⟨#[]⟩,mH M,G U 0 0]
abbrev RdR:Type:=Except Nat (mW IL×Nat×Nat)
def a96(s:List AC)(aq aw:Nat)(aE:RdR)(B bo bw:Nat)(vr:iQ)(w:K)(p c:Nat):List Fr->Prop
 |[]=>∃(x:mW IL) (v:iQ) (A:Nat->Prop),aE=.ok (x,p,aw - c)/\mY w bw #[H (txt x.lab),mH x.lab.list,v] IT/\nC w A v x.sub/\(∀c,A c->¬QP B bo bw vr c)
 |x::C=>mY w bw qC IT/\aE=cont s (x.L.map pI.tree) x.e (C.map lvl) (aq -(C.length+1)) p (aw - c)
structure wI(s:List AC)(aq aw:Nat)(aE:RdR)(B bo bw:Nat)(w0 w:K)(p c:Nat)(vr:iQ)(st:List Fr):Prop where
 BP:rU w B bo bw vr st
 below:iR B w0 w
 hc:c<=aw
 len:st.length<=aq
 Ls:(st.map λx=>x.L.length).sum+st.length<=c
 ends:Ends p st s.length
 res:a96 s aq aw aE B bo bw vr w p c st
def ZW:yN iN 275 RT 2:=⟨Tryz.underlying275,⟨.agg #[.slice U 0 0,.int .i64 0],32,by
 have⟨i,A,C,E,J⟩:=info_parts (show(Tryz.prog.info? RT).map (λi=>(i.zero,i.size,i.bytes))=O (O (mI #[G U 0 0,V X 0]),2,32)by kernel_rfl);exact⟨i,A,C,E,J,mX,rfl⟩⟩,mX⟩
def PO{st:List Fr}{f:Fr}(h:rU w B bo bw vr st)(E:iR w.heap.size w w1)(af:f.v=G U 0 0/\f.L=[])(hrow:pz rf2 2 w2 B RT (G (O (Z g 0 U)) (st.length+1) cap) (st.reverse++[f]))(hg:w1.grownBy w2 vr.ownBlock)(J:vr.ownBlock=O g\/g=w1.heap.size):
  rU (w2.setCell (Z bo 0 U) (G (O (Z g 0 U)) (st.length+1) cap)) B bo bw (G (O (Z g 0 U)) (st.length+1) cap) (f::st)/\
   iR B w (w2.setCell (Z bo 0 U) (G (O (Z g 0 U)) (st.length+1) cap))/\
   ∀c,c<w.heap.size->c≠bo->vr.ownBlock≠O c->(w2.setCell (Z bo 0 U) (G (O (Z g 0 U)) (st.length+1) cap)).heap[c]? =w.heap[c]? :=by
 have ah:=E.size;have ai:=hg.size;have A:∀c,c<w.heap.size->c≠bo->vr.ownBlock≠O c->(w2.setCell (Z bo 0 U) (G (O (Z g 0 U)) (st.length+1) cap)).heap[c]? =w.heap[c]? :=λc hc hn aj=>
  (jh _ _ _ _ hn).trans ((hg.block c I (λe=>aj e.symm)).trans (E.block c hc))
 have C:=a7 E h.ho h.ho.lt;have aa:mY w2 bo #[vr] OT:=by
  unfold mY;rw[hg.block bo C.lt (λe=>h.nbo e.symm)];exact C
 have N:g≠bo:=by
  rintro rfl;rcases J with e|e
  .exact h.nbo e
  .have:=C.lt;omega
 have ae:g≠bw:=by
  rintro rfl;rcases J with e|e
  .exact h.nbw e
  .have:=h.lt;omega
 have hsz:(w2.setCell (Z bo 0 U) (G (O (Z g 0 U)) (st.length+1) cap)).heap.size=w2.heap.size:=by simp[jr]
 refine⟨⟨aa.set 0 _,?_,?_,?_,⟨λ_=>False,λc hc=>hc.elim,?_,?_⟩,h.FV,h.hbw,h.ne,by rw[hsz];exact jy h.lt I⟩,?_,A⟩
 .rw[List.reverse_cons]
  exact hrow.keep λb hb=>by
   simp[jK]at hb;exact jh _ _ _ _ (by show b≠bo;exact hb▸N)
 .intro e;simp[jK]at e;exact N e
 .intro e;simp[jK]at e;exact ae e
 .rw[af.1,af.2];exact tO.nil _ _
 .refine h.lev.keep (by rw[hsz];omega) (λc hc hn=>A c hc (λe=>hn (.inr (.inl e))) λe=>hn (.inr (.inr (.inr e)))) λc hc hn=> ?_
  rcases hn with(hn|hn|hn|hn)|hn
  .exact .inl hn
  .exact .inr (.inl hn)
  .exact .inr (.inr (.inl hn))
  .simp[jK]at hn
   subst hn;rcases J with e|e
   .exact .inr (.inr (.inr e))
   .omega
  .exact hn.elim
 .refine⟨?_,?_,?_,by rw[hsz];omega,λc hc=> ?_⟩
  .exact hg.os.trans E.os
  .exact hg.tape.trans E.tape
  .exact hg.output.trans E.output
  .have ag:c<w.heap.size:=by have:=h.FV;have:=h.ho.lt;omega
   refine A c ag (by have:=h.FV;omega) λe=> ?_
   have:=(h.row.block c e).1;omega
def UX{go A:Nat}{E:List Fr}(h:rU w B bo bw (G (O (Z go 0 U)) (N+1) A) (x::E))(ae:E.length=N):
  ∃Q:Nat->Prop,rU (w.setCell (Z bo 0 U) (G (O (Z go 0 U)) N A)) B bo bw (G (O (Z go 0 U)) N A) E/\tO (w.setCell (Z bo 0 U) (G (O (Z go 0 U)) N A)) Q x.v x.L/\
   (∀c,Q c->¬QP B bo bw (G (O (Z go 0 U)) N A) c)/\EZ (w.setCell (Z bo 0 U) (G (O (Z go 0 U)) N A)) (λc=>QP B bo bw (G (O (Z go 0 U)) N A) c\/Q c) E/\
   iR B w (w.setCell (Z bo 0 U) (G (O (Z go 0 U)) N A))/\(∀c,c≠bo->(w.setCell (Z bo 0 U) (G (O (Z go 0 U)) N A)).heap[c]? =w.heap[c]?):=by
 have⟨Q,aa,ag,ah⟩:=h.lev;have hsz:(w.setCell (Z bo 0 U) (G (O (Z go 0 U)) N A)).heap.size=w.heap.size:=by simp[jr]
 have C:∀c,c≠bo->(w.setCell (Z bo 0 U) (G (O (Z go 0 U)) N A)).heap[c]? =w.heap[c]? :=λc hn=>jh _ _ _ _ hn
 have aj:∀c,QP B bo bw (G (O (Z go 0 U)) N A) c<->QP B bo bw (G (O (Z go 0 U)) (N+1) A) c:=λc=>Iff.rfl
 have af:∀c,Q c->c≠bo:=λc hc e=>aa c hc (.inr (.inl e))
 have J:EZ (w.setCell (Z bo 0 U) (G (O (Z go 0 U)) N A)) (λc=>QP B bo bw (G (O (Z go 0 U)) N A) c\/Q c) E:=
  ah.keep (by rw[hsz];exact iP _) (λc _ hn=>C c λe=>hn (.inl (.inr (.inl e)))) λc _ hn=>hn
 have ai:go≠bo:=λe=>h.nbo (by subst e;rfl)
 refine⟨Q,⟨h.ho.set 0 _,?_,h.nbo,h.nbw,J.keep (iP _) (λ_ _ _=>rfl) λc _ hn=> .inl hn,h.FV,h.hbw,h.ne,by rw[hsz];exact h.lt⟩,?_,λc hc=>aa c hc,J,?_,C⟩
 .have:=(pz.cut h.row Bh (m:=N) (by simp[ae])).keep (w':=w.setCell (Z bo 0 U) (G (O (Z go 0 U)) N A)) λb hb=>by
   simp[jK]at hb;exact C b (by rw[<-hb];exact ai)
  have e:(x::E).reverse.take N=E.reverse:=by
   rw[List.reverse_cons,ee (by simp[ae]),kK (by simp[ae])]
  rwa [e]at this
 .exact ag.keep (by rw[hsz];exact iP _) (λc _ hc=>C c (af c hc)) λc _ hc=>hc
 .exact⟨rfl,rfl,rfl,by rw[hsz];exact iP _,λc hc=>C c (by have:=h.FV;omega)⟩
def PQ{Q:Nat->Prop}{o:Option j4}{c:Nat}{s:List (mW IL)}(h:nC w Q (G o n c) s):nC w Q (G o n n) s:=by
 obtain⟨oa,cap,e,A,C,E⟩:=h;cases e;exact⟨_,_,rfl,iP _,jk A C,E⟩
section
variable {s:List AC}{aq aw:Nat}{aE:RdR}{B bo bw:Nat}{w0 w w':K}{p c:Nat}{vr:iQ}
def wI.err(h:wI s aq aw aE B bo bw w0 w p c vr (x::A))(hp:p<x.e)(C:CB (zT s p x.e) (As (aq<=(x::A).length)) (As (aw<=c))=.error er):aE=.error (if er=2 then 3 else er):=by
 rw[h.res.2];refine ZR hp (Ends.le h.ends.2) (UT ?_);rw[<-C];congr 1;.rw[bx];have:=h.len;simp at this|-;omega
 .rw[bx];have:=h.hc;omega
def wI.head(h:wI s aq aw aE B bo bw w0 w p c vr (x::A))(hp:p<x.e)(C:CB (zT s p x.e) (As (aq<=(x::A).length)) (As (aw<=c))=.ok q):
  (x::A).length<aq/\c<aw/\hd (zT s p x.e)=.ok q/\q.2.1+q.2.2<=x.e - p/\0<q.2.1+q.2.2/\x.e<=s.length:=by
 have he:=Ends.le h.ends.2;have e1:As (aq<=(x::A).length)=As (aq -(x::A).length=0):=by rw[bx];omega
 have e2:As (aw<=c)=As (aw - c=0):=by rw[bx];omega
 rw[e1,e2]at C;have⟨J,N,aa,E⟩:=ZT C;have⟨i1,i2,_⟩:=Iy E;rw[seg_length s I he]at i1;exact⟨I,I,E,i1,i2,he⟩
def wI.text(h:wI s aq aw aE B bo bw w0 w p c vr (x::A))(hp:p<x.e)(C:CB (zT s p x.e) (As (aq<=(x::A).length)) (As (aw<=c))=.ok (M,z,n)){y:pI IL}(hy:y.tree=.node ⟨zT s (p+z) (p+z+n),M⟩ [])(hs:rU w' B bo bw vr (⟨v',x.L++[y],x.e⟩::A))(hb:mY w' bw qC IT)(J:iR B w w'):
  wI s aq aw aE B bo bw w0 w' (p+z+n) (c+1) vr (⟨v',x.L++[y],x.e⟩::A):=by
 have⟨N,ah,aa,E,ae,af⟩:=h.head hp C;simp only at E ae;refine⟨hs,h.below.trans J,I,h.len,by have:=h.Ls;simp at this|-;omega,⟨by show p+z+n<=x.e;omega,h.ends.2⟩,hb,?_⟩
 .rw[h.res.2]
  simp only[jD]at N;have⟨k,hk⟩:∃k,aq -(A.length+1)=k+1:=⟨aq -(A.length+1) - 1,I⟩;have⟨m,ag⟩:∃m,aw - c=m+1:=⟨aw - c - 1,I⟩;rw[hk,ag,Xl hp af aa E,show aw -(c+1)=m by omega];simp[hy]
def wI.list(h:wI s aq aw aE B bo bw w0 w p c vr (x::A))(hp:p<x.e)(E:CB (zT s p x.e) (As (aq<=(x::A).length)) (As (aw<=c))=.ok (u,z,n)){C:iQ}(hs:rU w' B bo bw C (⟨v',[],p+z+n⟩::x::A))(hb:mY w' bw qC IT)(aa:iR B w w'):
  wI s aq aw aE B bo bw w0 w' (p+z) (c+1) C (⟨v',[],p+z+n⟩::x::A):=by
 have⟨J,ai,ae,N,af,ag⟩:=h.head hp E;simp only at N af;refine⟨hs,h.below.trans aa,I,by simp only[jD]at J|-;omega,by have:=h.Ls;simp at this|-;omega,⟨by show p+z<=p+z+n;omega,by show p+z+n<=x.e;omega,h.ends.2⟩,hb,?_⟩
 .rw[h.res.2]
  simp only[jD]at J;have⟨k,hk⟩:∃k,aq -(A.length+1)=k+1:=⟨aq -(A.length+1) - 1,I⟩;have⟨m,ah⟩:∃m,aw - c=m+1:=⟨aw - c - 1,I⟩;rw[hk,ah,Xm hp ag ae N,show aw -(c+1)=m by omega,show aq -((x::A).length+1)=k by simp;omega];rfl
def wI.close{A:Fr}{C:List Fr}(h:wI s aq aw aE B bo bw w0 w p c vr (x::A::C))(hp:x.e=p){E:iQ}{y:pI IL}(hy:y.tree=.node ⟨[],u⟩ (x.L.map pI.tree))(hs:rU w' B bo bw E (⟨v',A.L++[y],A.e⟩::C))(hb:mY w' bw qC IT)(J:iR B w w'):wI s aq aw aE B bo bw w0 w' p c E (⟨v',A.L++[y],A.e⟩::C):=by
 subst hp;refine⟨hs,h.below.trans J,h.hc,by have:=h.len;simp at this|-;omega,by have:=h.Ls;simp at this|-;omega,⟨h.ends.2.1,h.ends.2.2⟩,hb,?_⟩
 .rw[h.res.2,Jf]
  show fin s ((A.L.map pI.tree,A.e)::C.map lvl) _ _ _ _=_;rw[ZP];have:=h.len;simp only[jD]at this|-;rw[show aq -(C.length+1+1)+1=aq -(C.length+1)by omega];simp[hy]
def wI.whole(h:wI s aq aw aE B bo bw w0 w p c vr [x])(hp:x.e=p){A v:iQ}{C:Nat->Prop}(hs:rU w' B bo bw A [])(hb:mY w' bw #[H ⟨#[]⟩,mH u,v] IT)(E:nC w' C v (x.L.map pI.tree))(J:∀c,C c->¬QP B bo bw A c)(N:iR B w w'):wI s aq aw aE B bo bw w0 w' p c A []:=by
 subst hp;refine⟨hs,h.below.trans N,h.hc,ny,ny,Ends.le h.ends.2,?_⟩;refine⟨mW.node ⟨[],u⟩ (x.L.map pI.tree),v,C,?_,hb,E,J⟩;rw[h.res.2,Jf];rfl
end
def Xn{s:List AC}{aq:Nat}(h:CB s (As (aq<=0)) (As (aw<=0))=.error er):uq aq s aw=.error er:=by
 refine UT ?_;rw[<-h];congr 1<;>(rw[bx];omega)
def Cw{s:List AC}{aq:Nat}(h:CB s (As (aq<=0)) (As (aw<=0))=.ok q):s≠[]/\0<aq/\0<aw/\hd s=.ok q/\q.2.1+q.2.2<=s.length/\0<q.2.1+q.2.2:=by
 have e1:As (aq<=0)=As (aq=0):=by rw[bx];omega
 have e2:As (aw<=0)=As (aw=0):=by rw[bx];omega
 rw[e1,e2]at h;have⟨C,E,J,A⟩:=ZT h;have⟨i1,i2,_⟩:=Iy A;exact⟨C,E,J,A,i1,i2⟩
def wI.Sd{s:List AC}{aq:Nat}{v:iQ}{A:Nat->Prop}(h:CB s (As (aq<=0)) (As (aw<=0))=.ok (M,z,n))(hw0:iR B w0 w)(hs:rU w' B bo bw vr [])(hb:mY w' bw #[H (txt ⟨(s.drop z).take n,M⟩),mH M,v] IT)(C:nC w' A v [])(E:∀c,A c->¬QP B bo bw vr c)(J:iR B w w'):
  wI s aq aw (uq aq s aw) B bo bw w0 w' (z+n) 1 vr []:=by
 have⟨N,ag,aa,ae,af,ah⟩:=Cw h;refine⟨hs,hw0.trans J,aa,ny,ny,af,?_⟩;obtain⟨k,rfl⟩:∃k,aq=k+1:=⟨aq - 1,I⟩;obtain⟨m,rfl⟩:∃m,aw=m+1:=⟨aw - 1,I⟩;exact⟨mW.node ⟨(s.drop z).take n,M⟩ [],v,A,Jh N ae,hb,C,E⟩
def wI.Cv{s:List AC}{aq:Nat}(h:CB s (As (aq<=0)) (As (aw<=0))=.ok (u,z,n))(hw0:iR B w0 w)(hs:rU w' B bo bw vr [⟨v',[],z+n⟩])(hb:mY w' bw qC IT)(C:iR B w w'):wI s aq aw (uq aq s aw) B bo bw w0 w' z 1 vr [⟨v',[],z+n⟩]:=by
 have⟨E,aa,J,N,A,ae⟩:=Cw h;refine⟨hs,hw0.trans C,J,nk,ny,⟨by show z<=z+n;omega,A⟩,hb,?_⟩;obtain⟨k,rfl⟩:∃k,aq=k+1:=⟨aq - 1,I⟩;obtain⟨m,rfl⟩:∃m,aw=m+1:=⟨aw - 1,I⟩;exact Go.Proofs.YtamfcjmhnndbdaaGreatDoor.Cv N E A
def PR(aE:RdR)(w:K)(e:kV)(w':K):Prop:=match aE with
 | .error er=>e=mK (mJ #[mI qC,V X 0,V X (er:Nat)])/\iR w.heap.size w w'
 | .ok y=>∃v,e=mK (mJ #[mI #[H (txt y.1.lab),mH y.1.lab.list,v],V X (y.2.1:Nat),V X 0])/\nC w' (λc=>w.heap.size<=c) v y.1.sub/\iR w.heap.size w w'
def Opn(p:Nat):List Fr->Prop
 |[]=>True
 |x::_=>p<x.e
def ZX:iQ->Nat
 | mH u=>1
 |_=>0
def E8(w:K)(b:Nat):Nat:=match w.cell? (Z b 0 U)with
 |some (G _ n _)=>n
 |_=>0
def UY(h:hd l=.error er):er=2\/er=3:=by
 have A:∀(L:Bool)(z n:Nat),hd2 l L z n=.error er->er=2\/er=3:=by
  intro L z n h;unfold hd2 at h;split at h;.cases h;exact .inl rfl
  split at h;.cases h;exact .inr rfl
  .cases h
 cases l with
 |nil=>simp only[hd]at h;cases h;exact .inl rfl
 |cons b r=>
  simp only[hd]at h;generalize (if 192<=b.toNat then(192:Nat)else 128)=by' at h;split at h;.cases h
  split at h;.exact A _ _ _ h
  split at h;.cases h;exact .inl rfl
  split at h;.cases h;exact .inr rfl
  .exact A _ _ _ h
def PS{a b:Bool}(h:CB l a b=.error er):2<=er/\er<=6:=by
 unfold CB at h;split at h;.cases h;decide
 split at h;.cases h;decide
 split at h;.cases h;decide
 .have:=UY h;omega
def PT(h:hd l=.ok (u,z,n)):0<z:=by
 have⟨_,_,_,C⟩:=Iy h;rcases C with⟨A,_⟩|⟨_,_,A⟩
 .cases A
 .exact A
def MP{s:An}(h:s.data.toList=l)(p e:Nat):(s.extract p e).data.toList=zT l p e:=by
 subst h;simp only[c9,dv,List.extract,zT]
def rU.fut{st:List Fr}(h:rU w B bo bw vr st)(hb:iR w.heap.size w w'):rU w' B bo bw vr st:=
 ⟨a7 hb h.ho h.ho.lt,h.row.below hb,h.nbo,h.nbw,h.lev.below hb,h.FV,h.hbw,h.ne,jy h.lt hb.size⟩
def wI.fut{s:List AC}{aq:Nat}{aE:RdR}{p c:Nat}{st:List Fr}(h:wI s aq aw aE B bo bw w0 w p c vr st)(hb:iR w.heap.size w w'):wI s aq aw aE B bo bw w0 w' p c vr st:=by
 have hlt:=h.BP.lt;refine⟨h.BP.fut hb,h.below.trans (hb.mono (by have:=h.BP.hbw;omega)),h.hc,h.len,h.Ls,h.ends,?_⟩;cases st with
 |nil=>
  have⟨x,v,A,C,E,J,N⟩:=h.res;exact⟨x,v,A,C,a7 hb E hlt,Shape.nA.below J hb,N⟩
 |cons x aa=>exact⟨a7 hb h.res.1 hlt,h.res.2⟩
def qx{A:Type}{f:A->List iQ}{st:jl}(T:yN P st t k)(hk:∀y,(f y).length=k){rest:List kC}{o:kC}(E:o.guard=U)(s x:Operand)(ho:o.op=.call {callee:=.builtin .append,args:=#[s,x],argTypes:=#[st,st]}){c:Nat}{v:iQ}{L:List A}{y:A}{cs:Array iQ}(hs:a.eval s=v)(C:pz f k w B t v L)(J:a.eval x=G (O (Z b 0 U)) 1 c)(hb:mY w b cs t')(hcs:cs.toList=f y)(N:∀ar∈f y,ar.oneCell'=u)(hlen:L.length<=1000000)(hB:B<=w.heap.size)(h:∀g cap w',pz f k w' B t (G (O (Z g 0 U)) (L.length+1) cap) (L++[y])->w.grownBy w' v.ownBlock->(v.ownBlock=O g\/g=w.heap.size)->g<w'.heap.size->mq P ops Q rest (a.put o.dst (G (O (Z g 0 U)) (L.length+1) cap)) w'):
  mq P ops Q (o::rest) a w:=by
 refine wpList_plain E λaq aa=> ?_
 obtain⟨g,cap,w',ae,af,ag,ah,ai,_⟩:=DR (ty:=o.type) T hk C hb hcs N hlen hB;unfold Oper.wp execOp;simp only[ho,resolve,invoke,builtin,Sem.run_bind,Sem.run_pure,lK,dc,lg,cE,hs,J];rw[ae];exact aa _ _ (h g cap w' af ag ah ai)
def PU{st:List Fr}(h:rU w B bo bw vr st)(E:iR w.heap.size w w1)(hg:w1.grownBy w2 vr.ownBlock):w2.cell? (Z bo 0 U)=O vr/\w2.frozen? (Z bo 0 U)=M:=by
 have A:=a7 E h.ho h.ho.lt;have C:mY w2 bo #[vr] OT:=by
  unfold mY;rw[hg.block bo A.lt λe=>h.nbo e.symm];exact A
 exact⟨C.cell 0,C.free 0⟩
def UZ(h:mY wa g qC IT)(hb:iR (g+1) wa w):(w.cell? (Z g 0 U)=O (H ⟨#[]⟩)/\w.cell? (Z g 1 U)=O (mH M)/\w.cell? (Z g 2 U)=O (G U 0 0))/\
  (w.frozen? (Z g 0 U)=M/\w.frozen? (Z g 1 U)=M/\w.frozen? (Z g 2 U)=M)/\mY w g qC IT:=by
 have:=a7 hb h (jV g);exact⟨⟨this.cell 0,this.cell 1,this.cell 2⟩,⟨this.free 0,this.free 1,this.free 2⟩,this⟩
def FW{a b:iQ}(h0:iR g w0 wa)(E:g<wa.heap.size)(hb:iR (g+1) wa w)(A:mY w g qC IT):mY (wR w g 0 a b c) g #[a,b,c] IT/\iR g w0 (wR w g 0 a b c):=by
 refine⟨?_,?_⟩
 .have:=((A.set 0 a).set 1 b).set 2 c
  exact this
 .have C:=h0.trans (hb.mono I)
  exact oO.below (PG w g 0 a b c) C (iP _) (by have:=hb.size;omega)
structure a8z(l:List AC)(g:Nat)(w wa W:K):Prop where
 BP:rU W (g+1) (g+1) (g+2) (G U 0 0) []
 whole:mY W (g+2) qC IT
 res:mY wa g qC IT
 ba:iR g w wa
 bw:iR (g+1) wa W
 o0:W.cell? (Z (g+1) 0 U)=O (G U 0 0)
def a8A{A:K}(hg:w.heap.size=g)(E:w.alloc (mM #[H ⟨#[]⟩,mH M,G U 0 0] IT)=wa)(hb:wa.alloc (mM #[G U 0 0] OT)=A)(hc:A.alloc (mM #[H ⟨#[]⟩,mH M,G U 0 0] IT)=W):a8z l g w wa W:=by
 have J:wa.heap.size=g+1:=by rw[<-E];simp;omega
 have N:A.heap.size=g+2:=by rw[<-hb];simp;omega
 have ah:W.heap.size=g+3:=by rw[<-hc];simp;omega
 have b1:iR g w wa:=by rw[<-E,<-hg];exact(iT _ w).alloc (iP _) _
 have aa:iR (g+1) wa A:=by rw[<-hb,<-J];exact(iT _ wa).alloc (iP _) _
 have b3:iR (g+2) A W:=by rw[<-hc,<-N];exact(iT _ A).alloc (iP _) _
 have ae:mY wa g qC IT:=by have:=mY.new w #[H ⟨#[]⟩,mH M,G U 0 0] IT;rw[E,hg]at this;exact this
 have af:mY A (g+1) #[G U 0 0] OT:=by have:=mY.new wa #[G U 0 0] OT;rw[hb,J]at this;exact this
 have ag:mY W (g+2) qC IT:=by have:=mY.new A #[H ⟨#[]⟩,mH M,G U 0 0] IT;rw[hc,N]at this;exact this
 have C:=a7 b3 af I;exact⟨⟨C,pz.nil _ _ _,by simp[jK],by simp[jK],trivial,I,I,I,I⟩,ag,ae,b1,aa.trans (b3.mono I),C.cell 0⟩
def MQ{st:List Fr}(h:rU w B bo bw vr st):E8 w bo=st.length:=by
 have⟨oa,cap,A⟩:=h.row.slice;have:=h.ho.cell 0;rw[A]at this;unfold E8;rw[this];simp
section
variable {l:List AC}{aq aw:Nat}{aE:RdR}{g:Nat}{wa w:K}{p c:Nat}{vr:iQ}
def yP(h:wI l aq aw aE (g+1) (g+1) (g+2) wa w p c vr (x::J))(aa:J.length=N):∃go C,vr=G (O (Z go 0 U)) (N+1) C/\
  w.cell? (Z go (N*2) U)=O x.v/\w.cell? (Z go (N*2+1) U)=O (V X (x.e:Nat))/\w.cell? (Z (g+1) 0 U)=O (G (O (Z go 0 U)) (N+1) C)/\w.frozen? (Z (g+1) 0 U)=M/\N+1<=C/\N+1<=aq:=by
 have⟨oa,C,E⟩:=h.BP.row.slice;have af:(x::J).reverse.length=N+1:=by simp[aa]
 rw[af]at E;subst E;obtain⟨go,rfl,_,_,_,ae,A,_⟩:=pz.at_ h.BP.row Bh (i:=N) (y:=x) (by simp[<-aa]);have:=h.len;rw[jD,aa]at this;exact⟨go,C,rfl,A 0 mX,A 1 mX,h.BP.ho.cell 0,h.BP.ho.free 0,ae,this⟩
def a3B{A:Nat}(h:wI l aq aw aE (g+1) (g+1) (g+2) wa w p c vr (x::J))(N:x.L.length=A):∃ov cv,x.v=G ov A cv/\A<=cv/\A<=c:=by
 have⟨Q,_,aa,_⟩:=h.BP.lev;have⟨ov,cv,C,E,_⟩:=b7 aa.subs;rw[cX,N]at C E;have:=h.Ls;simp at this;exact⟨ov,cv,C,E,I⟩
def U0(h:wI l aq aw aE (g+1) (g+1) (g+2) wa w p c vr (x::A))(he:¬x.e=p):Opn p (x::A):=by
 have:=h.ends.1;show p<x.e;omega
def Km{go C A:Nat}(h:wI l aq aw aE (g+1) (g+1) (g+2) wa w p c (G (O (Z go 0 U)) (0+1) C) [x])(he:x.e=p)(af:x.v=G ov A cv)(au:x.L.length=A):
  iW iN 241 #[mI #[H ⟨#[]⟩,mH u,G ov A A],mG (O (Z (g+1) 0 U)),mG (O (Z (g+2) 0 U))] (w.setCell (Z (g+1) 0 U) (G (O (Z go 0 U)) 0 C))
   λe w'=>e=mK (mJ #[])/\wI l aq aw aE (g+1) (g+1) (g+2) wa w' p c (G (O (Z go 0 U)) 0 C) []:=by
 have⟨Q,ag,J,N,_,hb,E⟩:=UX h.BP rfl;rw[af]at J;have hs:=J.subs;have aa:g+2≠g+1:=I;have hbw:mY (w.setCell (Z (g+1) 0 U) (G (O (Z go 0 U)) 0 C)) (g+2) qC IT:=by
  unfold mY;rw[E _ aa];exact h.res.1
 have:=Av (w.setCell (Z (g+1) 0 U) (G (O (Z go 0 U)) 0 C)) (g+1) (g+1) (g+2) _ ⟨⟨[],u⟩,G ov A A,x.L.map pI.tree⟩ Q _ _ _ ag hbw (PQ hs) N;refine this.mono λe w' ⟨ae,ah,ai,aj,ak⟩=>⟨ae,wI.whole h he ah ai aj N (hb.trans ak)⟩
def PV{C:Fr}{go E A:Nat}(h:wI l aq aw aE (g+1) (g+1) (g+2) wa w p c (G (O (Z go 0 U)) (N+1+1) E) (x::C::J))(he:x.e=p)(aj:x.v=G ov A cv)(aB:x.L.length=A)(ae:(C::J).length=N+1)(aD:aq<=16)(aA:aw<=1024):
  iW iN 241 #[mI #[H ⟨#[]⟩,mH u,G ov A A],mG (O (Z (g+1) 0 U)),mG (O (Z (g+2) 0 U))] (w.setCell (Z (g+1) 0 U) (G (O (Z go 0 U)) (N+1) E))
   λe w'=>e=mK (mJ #[])/\∃v',wI l aq aw aE (g+1) (g+1) (g+2) wa w' p c (G (O (Z go 0 U)) (N+1) E) (⟨v',C.L++[⟨⟨[],u⟩,G ov A A,x.L.map pI.tree⟩],C.e⟩::J):=by
 have⟨Q,ak,af,au,av,hb,aa⟩:=UX h.BP ae;rw[aj]at af;have hs:=af.subs;have ag:g+2≠g+1:=I;have hbw:mY (w.setCell (Z (g+1) 0 U) (G (O (Z go 0 U)) (N+1) E)) (g+2) qC IT:=by
  unfold mY;rw[aa _ ag];exact h.res.1
 have hlen:=h.len;have ah:=h.Ls;have hc:=h.hc;simp at hlen ah ae;have:=DU C J (w.setCell (Z (g+1) 0 U) (G (O (Z go 0 U)) (N+1) E)) (g+1) (g+1) (g+2) _ ⟨⟨[],u⟩,G ov A A,x.L.map pI.tree⟩ Q _ ak I I hbw (PQ hs) au av (jB _);refine this.mono λe w' ⟨ai,v',ax,ay,az⟩=>⟨ai,v',wI.close h he rfl ax ay (hb.trans az)⟩
def GX{s:An}(hl:s.data.toList=l)(p n:Nat):txt ⟨(l.drop p).take n,M⟩=s.extract p (p+n):=Dr (by
 rw[MP hl];show(l.drop p).take n=(l.drop p).take (p+n - p);rw[show p+n - p=n by omega])
def MR{s:An}(hl:s.data.toList=l)(E:uq aq l aw=aE)(J:CB l (As (aq<=0)) (As (aw<=0))=.ok (M,z,n))(hs:rU w (g+1) (g+1) (g+2) vr [])(hb:mY w (g+2) qC IT)(N:iR (g+1) wa w):
  iW iN 241 #[mI #[H (s.extract z (z+n)),mH M,G U 0 0],mG (O (Z (g+1) 0 U)),mG (O (Z (g+2) 0 U))] w
   λe w'=>e=mK (mJ #[])/\wI l aq aw aE (g+1) (g+1) (g+2) wa w' (z+n) 1 vr []:=by
 have:=Av w (g+1) (g+1) (g+2) vr ⟨⟨(l.drop z).take n,M⟩,G U 0 0,[]⟩ (λ_=>False) _ _ _ hs hb ⟨U,0,rfl,iP _,jB _,λh=>absurd h ny⟩ (λ_ h=>h.elim);rw[GX hl]at this;refine this.mono λe w' ⟨A,aa,C,ae,af⟩=>⟨A,?_⟩
 rw[<-E];rw[<-GX hl]at C;exact wI.Sd J N aa C ae (λ_ h=>h.elim) af
def a6t{s:An}(hl:s.data.toList=l)(hs:s.size<=100000)(h:wI l aq aw aE (g+1) (g+1) (g+2) wa w p c vr (x::A))(hp:p<x.e)(ah:aq<=16)(ai:aw<=1024)(N:CB (zT l p x.e) (As (aq<=(x::A).length)) (As (aw<=c))=.ok (M,z,n)):
  iW iN 241 #[mI #[H (s.extract (p+z) (p+z+n)),mH M,G U 0 0],mG (O (Z (g+1) 0 U)),mG (O (Z (g+2) 0 U))] w
   λe w'=>e=mK (mJ #[])/\∃C,C.e=x.e/\wI l aq aw aE (g+1) (g+1) (g+2) wa w' (p+z+n) (c+1) vr (C::A):=by
 have hlen:=h.len;have E:=h.Ls;have hc:=h.hc;simp at hlen E;have ht:txt ⟨zT l (p+z) (p+z+n),M⟩=s.extract (p+z) (p+z+n):=Dr (MP hl _ _).symm;have ag:l.length=s.size:=by rw[<-hl];simp
 have:=DU x A w (g+1) (g+1) (g+2) vr ⟨⟨zT l (p+z) (p+z+n),M⟩,G U 0 0,[]⟩ (λ_=>False) _ h.BP I I h.res.1 ⟨U,0,rfl,iP _,jB _,λh=>absurd h ny⟩ (λ_ h=>h.elim)
  (h.BP.lev.keep (iP _) (λ_ _ _=>rfl) λc _ hc=>hc.elim id False.elim) (by
   show(zT l (p+z) (p+z+n)).length<=jd;unfold zT jd;simp;omega)
 rw[ht]at this;exact this.mono λe w' ⟨J,v',aa,ae,af⟩=>⟨J,⟨v',_,x.e⟩,rfl,wI.text h hp N rfl aa ae af⟩
def a6u{f:Fr}{C:Nat}(h:wI l aq aw aE (g+1) (g+1) (g+2) wa w p c vr (x::A))(hp:p<x.e)(J:A.length=N)(aa:CB (zT l p x.e) (As (aq<=(x::A).length)) (As (aw<=c))=.ok (u,z,n))(ae:iR w.heap.size w w1)(af:f=⟨G U 0 0,[],p+z+n⟩)(hrow:pz rf2 2 w2 (g+1) RT (G (O (Z C 0 U)) ((x::A).reverse.length+1) cap) ((x::A).reverse++[f]))(hg:w1.grownBy w2 vr.ownBlock)(E:vr.ownBlock=O C\/C=w1.heap.size):
  wI l aq aw aE (g+1) (g+1) (g+2) wa (w2.setCell (Z (g+1) 0 U) (G (O (Z C 0 U)) (N+1+1) cap)) (p+z) (c+1) (G (O (Z C 0 U)) (N+1+1) cap) (f::x::A):=by
 subst af J;rw[lC]at hrow;have⟨ag,ah,ai⟩:=PO h.BP ae ⟨rfl,rfl⟩ hrow hg E;exact wI.list h hp aa ag ((ai _ h.BP.lt I h.BP.nbw).trans h.res.1) ah
end
def ZY(a:IL)(s:List (mW IL)):enc (.node a s)=if a.list then hdr 192 (OY s).length++OY s else if single a.text then a.text else hdr 128 a.text.length++a.text:=by simp only[enc]
def a3C(y:mW IL)(h:y.all oh=u)(hn:(enc y).length<=n):y.lab.text.length<=n:=by
 cases y with
 |node a s=>
  simp only[mW.all,oh,qN,je]at h;rw[ZY]at hn;simp only[mW.oW];cases hL:a.list with
  |true=>
   rw[hL]at h;simp only[cH,List.isEmpty_iff]at h;rw[h.1];simp
  |false=>
   rw[hL,At ny]at hn;split at hn;.exact hn
   .rw[jo]at hn;omega
abbrev GT:jl:=178
def PW:Array iQ:=#[H ⟨#[]⟩,mH M,G U 0 0,V X 0,V X 0,V X 0]
def si(aE:RdR)(m:Nat)(w:K)(e:kV)(w':K):Prop:=match aE with
 | .error er=>e=mK (mI #[H ⟨#[]⟩,mH M,G U 0 0,V X 0,V X 0,V X (er:Nat)])/\iR w.heap.size w w'
 | .ok y=>∃v,e=mK (mI #[H (txt y.1.lab),mH y.1.lab.list,v,V X (y.2.1:Nat),V X ((m - y.2.2:Nat):Int),V X 0])/\nC w' (λc=>w.heap.size<=c) v y.1.sub/\iR w.heap.size w w'
def DY(w:K)(g:Nat)(a b c d e f:iQ):K:=(((((w.setCell (Z g 0 U) a).setCell (Z g 1 U) b).setCell (Z g 2 U) c).setCell (Z g 3 U) d).setCell (Z g 4 U) e).setCell (Z g 5 U) f
def qO(w:K)(g:Nat)(a b c d e f:iQ):(((((w.setCell (Z g 0 U) a).setCell (Z g 1 U) b).setCell (Z g 2 U) c).setCell (Z g 3 U) d).setCell (Z g 4 U) e).setCell (Z g 5 U) f=DY w g a b c d e f:=rfl
def PX(w:K)(g:Nat)(a b c d e f:iQ):oO g w (DY w g a b c d e f):=((((((b9 g w).set 0 a).set 1 b).set 2 c).set 3 d).set 4 e).set 5 f
def PY{a0 a1 a2 a3 a4 a5 a b e f:iQ}(h:mY w g #[a0,a1,a2,a3,a4,a5] t):mY (DY w g a b c d e f) g #[a,b,c,d,e,f] t:=
 (((((h.set 0 a).set 1 b).set 2 c).set 3 d).set 4 e).set 5 f
def Lb{a b e f:iQ}(k:Nat)(h:k≠g):(DY w g a b c d e f).heap[k]? =w.heap[k]? :=by
 unfold DY;rw[jh _ _ _ _ h,jh _ _ _ _ h,jh _ _ _ _ h,jh _ _ _ _ h,jh _ _ _ _ h,jh _ _ _ _ h]
def Lc{a b e f:iQ}:(DY w g a b c d e f).heap.size=w.heap.size:=by simp[DY,jr]
def uk{a b e f:iQ}(h:mY w g #[a,b,c,d,e,f] t):
  w.cell? (Z g 0 U)=O a/\w.cell? (Z g 1 U)=O b/\w.cell? (Z g 2 U)=O c/\w.cell? (Z g 3 U)=O d/\w.cell? (Z g 4 U)=O e/\w.cell? (Z g 5 U)=O f:=
 ⟨h.cell 0,h.cell 1,h.cell 2,h.cell 3,h.cell 4,h.cell 5⟩
def DZ{cs:Array iQ}(h:mY w g cs t):
  w.frozen? (Z g 0 U)=M/\w.frozen? (Z g 1 U)=M/\w.frozen? (Z g 2 U)=M/\w.frozen? (Z g 3 U)=M/\w.frozen? (Z g 4 U)=M/\w.frozen? (Z g 5 U)=M:=
 ⟨h.free 0,h.free 1,h.free 2,h.free 3,h.free 4,h.free 5⟩
def D5(hg:w.heap.size=g)(h:w.alloc (mM #[H ⟨#[]⟩,mH M,G U 0 0,V X 0,V X 0,V X 0] GT)=wa):
  mY wa g PW GT/\iR g w wa/\wa.heap.size=g+1:=by
 subst h;exact⟨hg▸mY.new w _ _,hg▸(iT _ w).alloc (iP _) _,nk⟩
def zw(h:mY wa g PW GT)(hb:iR g w wa)(a b c d e f:iQ):mY (DY wa g a b c d e f) g #[a,b,c,d,e,f] GT/\iR g w (DY wa g a b c d e f):=
 ⟨PY (show mY wa g #[_,_,_,_,_,_] GT from h),oO.below (PX wa g a b c d e f) hb (iP _) (cG h.lt)⟩
def uy{x:Int}(hb:iR w.heap.size w w')(A:x=(er:Nat):=by rfl):si (.error er) m w (mK (mI #[H ⟨#[]⟩,mH M,G U 0 0,V X 0,V X 0,V X x])) w':=by
 subst A;exact⟨rfl,hb⟩
def ZZ{a:IL}{x:Int}(A:T=txt a)(C:x=(n:Nat))(hb:iR w.heap.size w w'):si (.ok (.node a [],n,m)) (m+1) w (mK (mI #[H T,mH a.list,G U 0 0,V X x,V X 1,V X 0])) w':=by
 subst C A;refine⟨G U 0 0,?_,⟨U,0,rfl,iP _,jB _,λh=>absurd h ny⟩,hb⟩;show _=jS (mI #[H (txt a),mH a.list,G U 0 0,V X (n:Nat),V X ((m+1 - m:Nat):Int),V X 0]);rw[show m+1 - m=1 by omega];rfl
def a8B(s:An)(h:1<s.size):(s.data.toList.drop 1).head? =O s[1]:=by
 rw[List.head?_drop];rw[ja (by simpa using h)];rfl
def Z4(h:k<=8):qY (l.take k)<18446744073709551616:=by
 have A:=GI (l.take k);have C:(l.take k).length<=8:=by rw[jQ];omega
 exact jy A (xq _ C)
def a6v(s:An)(h:0<s.size):s.extract 0 1=⟨(s.data.toList.take 1).toArray⟩:=Dr (by
 simp only[c9,dv,List.extract];simp)
def Sg(h:p:=by
 go_wp2_with fail;rw[qO];have⟨hblk6,qH⟩:=Jj.out (H ⟨#[]⟩) (mH M) (G U 0 0) (V X 0) (V X 0) (V X 2);have⟨d0,d1,d2,d3,d4,d5⟩:=uk hblk6;have zU:=Y qH;clear hblk6 qH;refine iY (v:=mI #[H ⟨#[]⟩,mH M,G U 0 0,V X 0,V X 0,V X 2]) (by simp[jv,kE,go_sem,d0,d1,d2,d3,d4,d5]) rfl ?_;rw[<-HP.out,Ay.out];exact uy (hg.symm▸zU.out)):p:=h
def Z5(h:p:=by
 go_in;go_wp2_with fail;rw[qO];have⟨hblk6,qH⟩:=Jj.out (H ⟨#[]⟩) (mH M) (G U 0 0) (V X 0) (V X 0) (V X 6);have⟨d0,d1,d2,d3,d4,d5⟩:=uk hblk6;have zU:=Y qH;clear hblk6 qH;refine iY (v:=mI #[H ⟨#[]⟩,mH M,G U 0 0,V X 0,V X 0,V X 6]) (by simp[jv,kE,go_sem,d0,d1,d2,d3,d4,d5]) rfl ?_;rw[<-HP.out,Ay.out];exact uy (hg.symm▸zU.out)):p:=h
def Kn(A items:Int)(aq aw:Nat)(ae:(min A 16).toNat=aq)(af:(min items 1024).toNat=aw)(s:An)(d a:Nat)(w:K)(hs:s.size<=100000)(av:1<=d)(aj:d<=17)(az:a<=1024)(hk:aq+1 - d=0):
  iW iN 173 #[H s,V X d,V X a,V X A,V X items] w (si (uq 0 s.data.toList (aw - a)) (aw - a) w):=by
 have⟨aE,ag⟩:=nE (uq 0 s.data.toList (aw - a));have⟨ak,ah⟩:=nE (si aE (aw - a) w);have J:=Y ag;have HP:=Y ah;rw[ag,ah];obtain⟨g,hg⟩:=o7 w;have⟨wa,ai⟩:∃wa,w.alloc (mM #[H ⟨#[]⟩,mH M,G U 0 0,V X 0,V X 0,V X 0] GT)=wa:=⟨_,rfl⟩;have⟨C,aa,ax⟩:=D5 hg ai;have Jj:=Y (zw C aa);have⟨c0,c1,c2,c3,c4,c5⟩:=uk (show mY wa g #[_,_,_,_,_,_] GT from C);have⟨z0,aA,aB,z3,z4,z5⟩:=DZ C;by_cases h0:s.size=0
 .have e:s=⟨#[]⟩:=Dr (j5.1 (by simpa using h0))
  subst e;have Ay:R (aE=.error 2):=Y (by rw[<-J.out];exact MN);go_in;exact Sg
 have E:s.data.toList≠[]:=λh=>h0 (by have:=congrArg lQ h;simpa using this)
 have Ay:R (aE=.error 6):=Y (by rw[<-J.out];exact PK E);have ay:=rW s I;have N:A<(d:Int)\/(16:Int)<(d:Int):=I;by_cases au:A<(d:Int)
 .clear N E h0 J ae af hk
  exact Z5
 .have aD:(16:Int)<(d:Int):=I
  have aF:(d:Int)<=A:=I;clear N E h0 J au ae af hk;exact Z5
def tO.a5c{Q E:Nat->Prop}{v:iQ}{L:List (pI IL)}{x:pI IL}(h:tO w Q v L)(hrow:pz NZ 3 w1 0 IT (G (O (Z g 0 U)) (L.length+1) cap) (L++[x]))(hg:w.grownBy w1 v.ownBlock)(A:v.ownBlock=O g\/w.heap.size<=g)(aa:nC w E x.ar x.sub)(hxv:∀c,E c->v.ownBlock≠O c)(N:x.lab.text.length<=jd):
  tO w1 (λc=>Q c\/E c\/c=g) (G (O (Z g 0 U)) (L.length+1) cap) (L++[x]):=by
 have hgn:∀c,c<w.heap.size->v.ownBlock≠O c->c≠g:=λc hc J e=>by
  rcases A with A|A
  .exact J (by rw[A,e])
  .omega
 have C:∀c,c<w.heap.size->v.ownBlock≠O c->w1.heap[c]? =w.heap[c]? :=λc hc J=>hg.block c hc (λe=>J e.symm)
 refine⟨hrow,λb hb=> ?_,λy hy=> ?_⟩
 .simp[jK]at hb
  exact .inr (.inr hb.symm)
 .rcases List.mem_append.1 hy with hy|hy
  .refine⟨(h.2.2 y hy).1,Shape.nA.keep (h.2.2 y hy).2 hg.size (λc hc hq=>⟨.inl hq.1,?_⟩) λc hc hq=>C c hc hq.2⟩
   intro e;simp[jK]at e;exact hgn c hc hq.2 e.symm
  .simp at hy
   subst hy;refine⟨N,Shape.nA.keep aa hg.size (λc hc hq=>⟨.inr (.inl hq),?_⟩) λc hc hq=>C c hc (hxv c hq)⟩;exact MK
structure QQ(g:Nat)(w0 w:K)(l0:List AC)(k m:Nat)(tot:Int)(am:List AC)(v:iQ)(L:List (pI IL))(cnt:Nat):Prop where
 Z6:mY w (g+1) #[H ⟨#[]⟩,mH u,v,V X tot,V X (cnt:Nat),V X 0] GT
 res:mY w g PW GT
 own:tO w (λc=>g+2<=c) v L
 pV:iR g w0 w
 eq:Kl k l0 m []=Kl k am (m+1 - cnt) (L.map pI.tree)
 c1:L.length+1<=cnt
 c2:cnt<=m+1
def Z7(h:∀l m er,uq k l m=.error er->2<=er):∀(f:Nat)(l:List AC)(m:Nat)(sub:List (mW IL))(er:Nat),l.length<f->OZ (uq k) f l m sub=.error er->2<=er:=by
 intro f;induction f with
 |zero=>intro l m sub er h;omega
 |succ f A=>
  intro l m sub er hl he;simp only[OZ]at he;split at he;.cases he
  .split at he
   .rename_i E C
    have:=h _ _ _ C;cases he;split<;>omega
   .rename_i y hy
    have⟨J,N⟩:=DV hy;exact A _ _ _ _ nk he
def yQ:∀(k:Nat)(l:List AC)(m er:Nat),uq k l m=.error er->2<=er:=by
 intro k;induction k with
 |zero=>intro l m er h;simp only[uq]at h;split at h<;>cases h<;>decide
 |succ k A=>
  intro l m er h;simp only[uq]at h;split at h;.cases h;decide
  split at h;.cases h;decide
  split at h
  .rename_i C he
   cases h;have:=UY he;omega
  .rename_i q E
   split at h
   .split at h
    .rename_i C he
     cases h;refine Z7 A _ _ _ _ _ ?_ he;simp;omega
    .cases h
   .cases h
section
variable {g:Nat}{w0 w:K}{l0:List AC}{k m:Nat}{tot:Int}{am:List AC}{v:iQ}{L:List (pI IL)}{cnt:Nat}
def QQ.below(h:QQ g w0 w l0 k m tot am v L cnt)(hb:iR w.heap.size w w'):QQ g w0 w' l0 k m tot am v L cnt:=
 ⟨a7 hb h.Z6 h.Z6.lt,a7 hb h.res h.res.lt,h.own.keep hb.size (λc hc _=>hb.block c hc) (λ_ _ h=>h),h.pV.trans (hb.mono (by have:=h.res.lt;omega)),h.eq,h.c1,h.c2⟩
def QQ.next{J cnt':Nat}{x:pI IL}{I':List AC}(h:QQ g w0 w l0 k m tot am v L cnt)(au:iR w.heap.size w w4)(av:nC w4 (λc=>w.heap.size<=c) x.ar x.sub)(hrow:pz NZ 3 w5 0 IT (G (O (Z J 0 U)) (L.length+1) cap) (L++[x]))(hg:w4.grownBy w5 v.ownBlock)(ag:v.ownBlock=O J\/J=w4.heap.size)(ai:x.lab.text.length<=jd)(aj:Kl k am (m+1 - cnt) (L.map pI.tree)=Kl k I' (m+1 - cnt') (L.map pI.tree++[x.tree]))(ax:cnt+1<=cnt')(ak:cnt'<=m+1):
  QQ g w0 ((w5.setCell (Z (g+1) 2 U) (G (O (Z J 0 U)) (L.length+1) cap)).setCell (Z (g+1) 4 U) (V X (cnt':Nat))) l0 k m tot I' (G (O (Z J 0 U)) (L.length+1) cap) (L++[x]) cnt':=by
 have A:=h.below au;have C:∀b,v.ownBlock=O b->b<w.heap.size/\g+2<=b:=λb hb=>⟨(h.own.1.block b hb).2.1,h.own.2.1 b hb⟩
 have ay:g+2<=J:=by
  rcases ag with e|e
  .exact(C _ e).2
  .have:=A.Z6.lt;omega
 have ah:=tO.a5c A.own hrow hg (ag.imp id λe=>by omega) av (λc hc e=>by have:=(C c e).1;omega) ai;have ae:mY w5 (g+1) #[H ⟨#[]⟩,mH u,v,V X tot,V X (cnt:Nat),V X 0] GT:=by
  unfold mY;rw[hg.block (g+1) A.Z6.lt (λe=>by have:=(C _ e.symm).2;omega)];exact A.Z6
 have af:mY w5 g PW GT:=by
  unfold mY;rw[hg.block g A.res.lt (λe=>by have:=(C _ e.symm).2;omega)];exact A.res
 have N:∀c,c≠g+1->((w5.setCell (Z (g+1) 2 U) (G (O (Z J 0 U)) (L.length+1) cap)).setCell (Z (g+1) 4 U) (V X (cnt':Nat))).heap[c]? =w5.heap[c]? :=λc hc=>by
  rw[jh _ _ _ _ hc,jh _ _ _ _ hc]
 have hsz:((w5.setCell (Z (g+1) 2 U) (G (O (Z J 0 U)) (L.length+1) cap)).setCell (Z (g+1) 4 U) (V X (cnt':Nat))).heap.size=w5.heap.size:=by simp[jr]
 refine⟨(ae.set 2 _).set 4 _,by unfold mY;rw[N g I];exact af,ah.keep (by rw[hsz];exact iP _) (λc _ E=>N c ?_) (λc _ E=> ?_),?_,?_,?_,ak⟩
 .rcases E with E|E|E
  .omega
  .have:=h.Z6.lt;omega
  .omega
 .rcases E with E|E|E
  .exact E
  .have:=h.Z6.lt;show g+2<=c;omega
  .show g+2<=c;omega
 .have aa:iR g w0 w5:=⟨hg.os.trans A.pV.os,hg.tape.trans A.pV.tape,hg.output.trans A.pV.output,jk A.pV.size hg.size,λc hc=>(hg.block c (by have:=A.res.lt;omega) (λe=>by have:=(C _ e.symm).2;omega)).trans (A.pV.block c hc)⟩
  refine⟨aa.os,aa.tape,aa.output,by rw[hsz];exact aa.size,λc hc=>(N c I).trans (aa.block c hc)⟩
 .rw[h.eq,aj];simp
 .have:=h.c1;simp;omega
end
def a97:iQ->Nat
 | H b=>b.size
 |_=>0
def a6w{C:K}(A:mY wa g PW GT)(E:iR g w wa)(J:wa.heap.size=g+1)(h:wa.alloc (mM #[H ⟨#[]⟩,mH u,G U 0 0,V X tot,V X 1,V X 0] GT)=C):
  QQ g w C l0 k m tot l0 (G U 0 0) [] 1:=by
 subst h;have hb:=(iT _ wa).alloc (iP _) (mM #[H ⟨#[]⟩,mH u,G U 0 0,V X tot,V X 1,V X 0] GT);exact⟨J▸mY.new wa _ _,a7 hb A A.lt,tO.nil _ _,E.trans (hb.mono I),rfl,ny,I⟩
def a6x{A:Nat}{v:iQ}{L:List (pI IL)}{aE:RdR}{x y z:iQ}(hg:w0.heap.size=g)(h:QQ g w0 w l0 k m ((A:Int)+(N:Int)) [] v L cnt)(J:aE=match Kl k l0 m []with
   | .error e=> .error e
   | .ok y=> .ok (.node ⟨[],u⟩ y.1,A+N,y.2)):
  si aE (m+1) w0 (mK (mI #[H ⟨#[]⟩,mH u,v,V X ((A:Int)+(N:Int)),V X (cnt:Nat),V X 0])) (DY w g (H ⟨#[]⟩) (mH u) v (V X ((A:Int)+(N:Int))) (V X (cnt:Nat)) (V X 0)):=by
 have E:aE=.ok (.node ⟨[],u⟩ (L.map pI.tree),A+N,m+1 - cnt):=by rw[J,h.eq,UR]
 rw[E];have hc:=h.c2;have C:=h.res;refine⟨v,?_,?_,hg.symm▸oO.below (PX w g _ _ _ _ _ _) h.pV (iP _) (cG C.lt)⟩
 .show _=jS (mI #[H ⟨#[]⟩,mH u,v,V X ((A+N:Nat):Int),V X ((m+1 -(m+1 - cnt):Nat):Int),V X 0])
  rw[show m+1 -(m+1 - cnt)=cnt by omega,show((A+N:Nat):Int)=(A:Int)+(N:Int)by omega]
 .refine Shape.nA.keep h.own.subs (by rw[Lc];exact iP _) (λc _ hc=> ?_) λc _ hc=>Lb c ?_
  .show w0.heap.size<=c;have:g+2<=c:=hc;omega
  .have:g+2<=c:=hc;omega
def Z8{v:iQ}{L:List (pI IL)}(h:QQ g w0 w l0 k m tot am v L cnt)(a b c d e f:iQ):
  mY (DY w g a b c d e f) g #[a,b,c,d,e,f] GT/\iR g w0 (DY w g a b c d e f):=zw h.res h.pV a b c d e f
def Z9(am:An)(sz:Nat):am.data.toList.drop sz=(am.extract sz am.size).data.toList:=by
 simp only[c9,dv,List.extract];rw[kK];have h:am.data.toList.length=am.size:=ny;rw[jP];omega
def FX{am:An}{A:IL}{C:List (mW IL)}{sz m2:Nat}(hI:am.size<=n)(h:uq k am.data.toList m=.ok (.node A C,sz,m2)):A.text.length<=n:=by
 have⟨_,E,_,_,J,N⟩:=Aj _ _ _ _ h;have aa:(enc (mW.node A C)).length<=n:=by
  have:=congrArg lQ N;simp only[jQ]at this;have ae:am.data.toList.length=am.size:=ny;simp only at E;omega
 exact a3C _ J aa
def a0a{C:Nat}{w3:K}{v:iQ}{L:List (pI IL)}{cs:Array iQ}(h:QQ g w0 w3 l0 k m tot am v L cnt)(ae:∀b,v.ownBlock=O b->b≠C)(hB:mY w3 C cs GT)(J:iR w3.heap.size w3 w4)(hg:w4.grownBy w5 v.ownBlock):(w5.cell? (Z (g+1) 2 U)=O v/\w5.frozen? (Z (g+1) 2 U)=M)/\(w5.cell? (Z (g+1) 4 U)=O (V X (cnt:Nat))/\w5.frozen? (Z (g+1) 4 U)=M)/\
   ∀i,w5.cell? (Z C i U)=cs[i]? :=by
 have N:=h.below J;have E:=a7 J hB hB.lt;have A:mY w5 (g+1) #[H ⟨#[]⟩,mH u,v,V X tot,V X (cnt:Nat),V X 0] GT:=by
  unfold mY;rw[hg.block (g+1) N.Z6.lt (λe=>by have:g+2<=g+1:=h.own.2.1 _ e.symm;omega)];exact N.Z6
 have aa:mY w5 C cs GT:=by
  unfold mY;rw[hg.block C E.lt (λe=>ae _ e.symm rfl)];exact E
 exact⟨⟨A.cell 2,A.free 2⟩,⟨A.cell 4,A.free 4⟩,λi=>aa.cell i⟩
def Xo(cb lb:Nat):Nat->Prop:=λc=>c≠cb/\c≠lb
def PZ(cb lb fb:Nat)(y:ZB)(w:K)(e:kV)(w':K):Prop:=
 ∃ov cv,e=mK (mI #[H (txt y.1.lab),mH y.1.lab.list,G ov y.1.sub.length cv])/\BN cb lb fb y.2.1 y.2.2 w'/\nC w' (λc=>w.heap.size<=c) (G ov y.1.sub.length cv) y.1.sub/\oC cb lb w w'
def a5d(cb lb fb:Nat)(y:List (mW IL)×RS×Nat)(w:K)(e:kV)(w':K):Prop:=
 ∃ov cv,e=mK (mI #[H ⟨#[]⟩,mH u,G ov y.1.length cv])/\BN cb lb fb y.2.1 y.2.2 w'/\nC w' (λc=>w.heap.size<=c) (G ov y.1.length cv) y.1/\oC cb lb w w'
structure L7(g cb lb fb kb wk:Nat)(r r2:RS)(l l2:Nat)(k z:Int)(ou:Option j4)(nu cu:Nat)(tl:Int)(ts:List (mW TL))(xo:Option j4)(xc:Nat)(L:List (pI IL))(x:mW IL)(w0:K)(d4 d5 d6 d8:Bool)(v4 v5 v6:iQ)(W:K):Prop where
 ly:BN cb lb fb (if d4=u then r2 else r) (if d4=u then l2 else l) W
 rb:mY W g (FT cb lb fb) Gx
 rs:mY W (g+1) #[H ⟨#[]⟩,mH M,G U 0 0] IT
 xb:mY W (g+2) #[H ⟨#[]⟩,mH u,(if d8=u then v6 else G xo L.length xc)] IT
 tb:d4=M->mY W kb #[V X k,V X z,G ou nu cu,V X tl] sG/\wk<=W.heap.size/\nK.nA W (Xo cb lb) (G ou nu cu) ts
 own:d6=M->tO W (λc=>g+3<=c) (G xo L.length xc) L/\∀b,(jM xo L.length xc).ownBlock=O b->b<wk
 sub:d4=u->d6=M->∃ov cv,v4=mI #[H (txt x.lab),mH x.lab.list,G ov x.sub.length cv]/\nC W (λc=>wk<=c) (G ov x.sub.length cv) x.sub/\(d5=u->∃nb,v5=G (O (Z nb 0 U)) 1 1/\mY W nb #[H (txt x.lab),mH x.lab.list,G ov x.sub.length cv] IT)
 fin:d6=u->∃e:pI IL,e.lab=x.lab/\e.sub=x.sub/\∃go gc,v6=G (O (Z go 0 U)) (L.length+1) gc/\tO W (λc=>g+3<=c) v6 (L++[e])
 up:oC cb lb w0 W
 lt:cb<g/\lb<g/\fb<g/\g+3<=wk/\L.length<=100000/\x.lab.text.length<=jd/\w0.heap.size=g/\0<g
section
variable {g cb lb fb kb wk:Nat}{r r2:RS}{l l2:Nat}{k z:Int}{ou:Option j4}{nu cu:Nat}{tl:Int}{ts:List (mW TL)}{xo:Option j4}{xc:Nat}{L:List (pI IL)}{x:mW IL}{w0:K}{d4 d5 d6 d8:Bool}{v4 v5 v6:iQ}{W W':K}
def L7.call(h:L7 g cb lb fb kb wk r r2 l l2 k z ou nu cu tl ts xo xc L x w0 M M M M v4 v5 v6 W)(hl:BN cb lb fb r2 l2 W')(hs:nC W' (λc=>W.heap.size<=c) (.slice ov x.sub.length cv) x.sub)(A:oC cb lb W W'):
  L7 g cb lb fb kb wk r r2 l l2 k z ou nu cu tl ts xo xc L x w0 u M M M (mI #[H (txt x.lab),mH x.lab.list,G ov x.sub.length cv]) v5 v6 W':=by
 have⟨t1,N,t3⟩:=h.tb rfl;have⟨E,J⟩:=h.own rfl;have aa:=h.lt;refine⟨hl,A.blk h.rb I I,A.blk h.rs I I,A.blk h.xb I I,(λh=>by cases h),λ_=>⟨tO.keep E A.size (λc hc C=>A.block c hc (by have:g+3<=c:=C;omega) (by have:g+3<=c:=C;omega)) λ_ _ h=>h,J⟩,λ_ _=>⟨ov,cv,rfl,Shape.nA.keep hs (iP _) (λc _ hc=>by have:W.heap.size<=c:=hc;show wk<=c;omega) λ_ _ _=>rfl,λh=>by cases h⟩,(λh=>by cases h),h.up.trans A,h.lt⟩
def L7.box(h:L7 g cb lb fb kb wk r r2 l l2 k z ou nu cu tl ts xo xc L x w0 u M M M v4 v5 v6 W)(A:v4=mI #[H (txt x.lab),mH x.lab.list,G ov x.sub.length cv]):
  L7 g cb lb fb kb wk r r2 l l2 k z ou nu cu tl ts xo xc L x w0 u u M M v4 (G (O (Z W.heap.size 0 U)) 1 1) v6 (W.alloc (mM #[H (txt x.lab),mH x.lab.list,G ov x.sub.length cv] IT)):=by
 have hb:=(iT W.heap.size W).alloc (iP _) (mM #[H (txt x.lab),mH x.lab.list,G ov x.sub.length cv] IT);have⟨C,E⟩:=h.own rfl;have⟨N,aa,e1,J,_⟩:=h.sub rfl rfl;rw[A]at e1;cases e1;refine⟨h.ly.below hb,a7 hb h.rb h.rb.lt,a7 hb h.rs h.rs.lt,a7 hb h.xb h.xb.lt,(λh=>by cases h),λ_=>⟨tO.keep C hb.size (λc hc ae=>hb.block c hc) λ_ _ h=>h,E⟩,λ_ _=>⟨ov,cv,A,Shape.nA.below J hb,λ_=>⟨_,rfl,mY.new W _ _⟩⟩,(λh=>by cases h),h.up.trans (oC.of hb),h.lt⟩
def L7.app(h:L7 g cb lb fb kb wk r r2 l l2 k z ou nu cu tl ts xo xc L x w0 u u M M v4 v5 v6 W){go gc:Nat}(aa:v4=mI #[H (txt x.lab),mH x.lab.list,G ov x.sub.length cv])(ae:pz NZ 3 W' 0 IT (G (O (Z go 0 U)) (L.length+1) gc) (L++[⟨x.lab,G ov x.sub.length cv,x.sub⟩]))(C:W.grownBy W' (jM xo L.length xc).ownBlock)(E:(jM xo L.length xc).ownBlock=O go\/go=W.heap.size):
  L7 g cb lb fb kb wk r r2 l l2 k z ou nu cu tl ts xo xc L x w0 u u u M v4 v5 (G (O (Z go 0 U)) (L.length+1) gc) W':=by
 have⟨J,af⟩:=h.own rfl;have⟨aj,ak,e1,ag,_⟩:=h.sub rfl rfl;rw[aa]at e1;cases e1;have au:=h.lt;have N:∀c,c<g+3->(jM xo L.length xc).ownBlock≠O c:=λc hc e=>by have:=J.2.1 c e;have:g+3<=c:=this;omega
 have k:∀{c:Nat}{cs:Array iQ}{t:jl},mY W c cs t->c<g+3->mY W' c cs t:=λhb hc=>oV hb C λy hy e=>N _ hc (by rw[hy,e])
 have A:=h.ly;have hsz:g+3<=W.heap.size:=by have:=h.xb.lt;omega
 refine⟨⟨k A.rd I,A.ok,k A.lf I,k A.fr I,?_,A.ne⟩,k h.rb I,k h.rs I,k h.xb I,(λh=>by cases h),(λh=>by cases h),λ_ h=>(by cases h),λ_=>⟨⟨x.lab,G ov x.sub.length cv,x.sub⟩,rfl,rfl,go,gc,rfl,?_⟩,?_,h.lt⟩
 .have ht:∀i,W'.cell? (Z 0 i U)=W.cell? (Z 0 i U):=λi=>by
   have hb:=C.block 0 A.tab.lt (λe=>by
    have:=J.2.1 _ e.symm;have ah:=this;exact absurd ah (by have:=h.lt.2.2.2.2.2.2.2;omega))
   simp only[lV,hb]
  exact⟨(ht 0).trans A.tab.a,(ht 1).trans A.tab.b,(ht 2).trans A.tab.c⟩
 .have q:=tO.a5c (x:=⟨x.lab,G ov x.sub.length cv,x.sub⟩) J ae C (E.imp id λe=>by omega) ag (λc hc e=>by have:=af c e;have:wk<=c:=hc;omega) h.lt.2.2.2.2.2.1
  refine tO.keep q (iP _) (λ_ _ _=>rfl) λc _ hc=> ?_
  rcases hc with hc|hc|hc
  .exact hc
  .have:wk<=c:=hc;show g+3<=c;omega
  .show g+3<=c
   rcases E with E|E
   .have:=J.2.1 go E;have:g+3<=go:=this;omega
   .omega
 .refine⟨C.os.trans h.up.os,C.tape.trans h.up.tape,C.output.trans h.up.output,jk h.up.size C.size,λc hc hb ai=>(C.block c (jy hc h.up.size) λe=>N c I e.symm).trans (h.up.block c hc hb ai)⟩
def L7.put(h:L7 g cb lb fb kb wk r r2 l l2 k z ou nu cu tl ts xo xc L x w0 u u u M v4 v5 v6 W):L7 g cb lb fb kb wk r r2 l l2 k z ou nu cu tl ts xo xc L x w0 u u u u v4 v5 v6 (W.setCell (Z (g+2) 2 U) v6):=by
 have E:=h.lt;have o:∀{c:Nat}{cs:Array iQ}{t:jl},mY W c cs t->c≠g+2->mY (W.setCell (Z (g+2) 2 U) v6) c cs t:=λh hn=>h.setOther (a:=(Z (g+2) 2 U)) hn _
 have A:=h.ly;have⟨e,e1,e2,go,gc,e3,e4⟩:=h.fin rfl;refine⟨⟨o A.rd I,A.ok,o A.lf I,o A.fr I,?_,A.ne⟩,o h.rb I,o h.rs I,h.xb.set 2 v6,(λh=>by cases h),(λh=>by cases h),λ_ h=>(by cases h),λ_=>⟨e,e1,e2,go,gc,e3,tO.keep e4 (by simp[jr]) (λc hc C=> ?_) λ_ _ h=>h⟩,?_,h.lt⟩
 .have key:∀i,(W.setCell (Z (g+2) 2 U) v6).cell? (Z 0 i U)=W.cell? (Z 0 i U):=λi=>by
   have hb:=jh W (Z (g+2) 2 U) v6 0 (by show 0≠g+2;omega);simp only[lV,hb]
  exact⟨(key 0).trans A.tab.a,(key 1).trans A.tab.b,(key 2).trans A.tab.c⟩
 .have:g+3<=c:=C
  exact jh W (Z (g+2) 2 U) v6 c (by show c≠g+2;omega)
 .exact⟨h.up.os,h.up.tape,h.up.output,by simpa [jr]using h.up.size,λc hc hb C=>(jh W (Z (g+2) 2 U) v6 c (by show c≠g+2;omega)).trans (h.up.block c hc hb C)⟩
def L7.drew(h:L7 g cb lb fb kb wk r r2 l l2 k z ou nu cu tl ts xo xc L x w0 M M M M v4 v5 v6 W)(A C E:iQ):L7 g cb lb fb kb wk r r2 l l2 k z ou nu cu tl ts xo xc L x w0 M M M M A C E W.drew:=
 ⟨h.ly.below (nN W),h.rb,h.rs,h.xb,λ_=>⟨(h.tb rfl).1,(h.tb rfl).2.1,Shape.nA.below (h.tb rfl).2.2 (nN W)⟩,λ_=>⟨tO.keep (h.own rfl).1 (iP _) (λ_ _ _=>rfl) λ_ _ h=>h,(h.own rfl).2⟩,(λh=>by cases h),(λh=>by cases h),h.up.drew,h.lt⟩
end
noncomputable def MU:List kC:=cO (cR (cR (cR (cL (cL (cR (cR (cL (cL (cR (cL (cR (cR (cB Tryz.f249))))))))))))))
section
variable (g cb lb fb kb wk:Nat)(r r2:RS)(l l2:Nat)(k z:Int)(ou:Option j4)(nu cu:Nat)(tl:Int)(ts:List (mW TL))(xo:Option j4)(xc:Nat)(L:List (pI IL))(x:mW IL)(w0:K)
def Jk:Nat->iQ
 |0=> mG (O (Z (g+2) 2 U))
 |1=> G xo L.length xc
 |2=> mI #[BL cb,DL cb,Ez cb,CE cb,BM fb,mG (O (Z lb 0 U))]
 |3=> mI #[V X k,V X z,G ou nu cu,V X tl]
 |7=> mG (O (Z (g+2) 2 U))
 |_=>jw
structure a98(D:Nat->Bool)(vs:Nat->iQ)(w:K):Prop where
 nP:L7 g cb lb fb kb wk r r2 l l2 k z ou nu cu tl ts xo xc L x w0 (D 4) (D 5) (D 6) (D 8) (vs 4) (vs 5) (vs 6) w
 val:∀j,(j !=4&&j !=5&&j !=6)=u->D j=u->vs j=Jk g cb lb fb k z ou nu cu tl xo xc L j
variable {g cb lb fb kb wk r r2 l l2 k z ou nu cu tl ts xo xc L x w0}
def a6y{id:Nat}(FY:a0.tmps.getD 7 jw=mG (O (Z (g+2) 0 U)))(ht3:a0.tmps.getD 3 jw=mG (O (Z g 0 U)))(Gy:a0.tmps.getD 9 jw=mG (O (Z kb 0 U)))(hval:∀W,BN cb lb fb r l W->oC cb lb w0 W->nK.nA W (Xo cb lb) (G ou nu cu) ts->iW iN 211 #[mI #[BL cb,DL cb,Ez cb,CE cb,BM fb,mG (O (Z lb 0 U))],mI #[V X k,V X z,G ou nu cu,V X tl]] W (PZ cb lb fb (x,r2,l2) W))(hsz:a0.tmps.size=40)(hI0:∀vs:Nat->iQ,(λw=>L7 g cb lb fb kb wk r r2 l l2 k z ou nu cu tl ts xo xc L x w0 M M M M (vs 4) (vs 5) (vs 6) w) ws.drew)(aA:∀(vs:Nat->iQ) (w:K),L7 g cb lb fb kb wk r r2 l l2 k z ou nu cu tl ts xo xc L x w0 u u u u (vs 4) (vs 5) (vs 6) w->Q .normal {a0 with tmps:=vG a0.tmps [(30,mG (O (Z (g+2) 2 U))),(31,G xo L.length xc),(32,mI #[BL cb,DL cb,Ez cb,CE cb,BM fb,mG (O (Z lb 0 U))]),(33,mI #[V X k,V X z,G ou nu cu,V X tl]),(34,vs 4),(35,vs 5),(36,vs 6),(37,mG (O (Z (g+2) 2 U)))]} w):
  (jZ id MU.toArray u).wp iN Q a0 ws:=by
 refine nJ 9 40 (a98 g cb lb fb kb wk r r2 l l2 k z ou nu cu tl ts xo xc L x w0) mZ hsz mZ (.inl rfl) mZ ?_ ?_ ?_;.exact qg
 .refine rR λA aB=> ?_
  replace FY:=Y FY;replace ht3:=Y ht3;replace Gy:=Y Gy;replace hval:=Y hval;dsimp+instances only[MU,cO,cL,cR,cB,Tryz.f249];simp only[jm,jI,qU];refine⟨?_,?_,?_,?_,?_,?_,?_,?_,?_,trivial⟩<;>(intro D vs a w aq hI hd J E N aa;subst aB;dsimp+instances only[MU,cO,cL,cR,cB,Tryz.f249]);have aD:=(N 7 mX).trans FY.out;rotate_left;have aj:=fe N hI.val J 30 0;simp only[Jk]at aj;have C:=hI.nP;rw[E 8 mX mZ]at C;have c0:=C.xb.cell 2;simp only[kM,cU,ji,jb,jc]at c0;rotate_left;have e3:=(N 3 mX).trans ht3.out;have hB:=hI.nP.rb;have c0:=hB.cell 0;have c1:=hB.cell 1;have c2:=hB.cell 2;have c3:=hB.cell 3;have c4:=hB.cell 4;have c5:=hB.cell 5;simp only[FT,ji,jb,jc]at c0 c1 c2 c3 c4 c5;rotate_left;have aM:=(N 9 mX).trans Gy.out;have hB:=(hI.nP.tb (E 4 mX mZ)).1;have⟨⟨c0,c1,c2,c3⟩,_⟩:=nR hB;rotate_left
  .have hval:=hval.out
   have ak:=fe N hI.val J 32 2;have au:=fe N hI.val J 33 3;simp only[Jk]at ak au;have C:=hI.nP;rw[hd,E 5 mX mZ,E 6 mX mZ,E 8 mX mZ]at C;have aF:=hval w C.ly C.up (C.tb rfl).2.2;rw[Ax (by rfl)];go_simp;refine aF.mono ?_;rintro e aG ⟨ov,cv,rfl,hl,hs,ag⟩;refine aa _ _ _ rfl ⟨?_,I9 rfl hI.val⟩;rw[nL,nz D (show 5≠4 by decide),nz D (show 6≠4 by decide),nz D (show 8≠4 by decide),o6,nM vs _ (show 5≠4 by decide),nM vs _ (show 6≠4 by decide),E 5 mX mZ,E 6 mX mZ,E 8 mX mZ];exact C.call hl hs ag
  .have d4:=J 4 mX mZ
   have ae:=N 34 mX;have C:=hI.nP;rw[hd,d4,E 6 mX mZ,E 8 mX mZ]at C;have⟨ov,cv,e4,_⟩:=C.sub rfl rfl;have ae:=ae.trans e4;have aH:a.tmps[34]?.getD jw=mI #[H (txt x.lab),mH x.lab.list,G ov x.sub.length cv]:=by simpa using ae
   go_simp;refine aa (G (O (Z w.heap.size 0 U)) 1 1) _ _ rfl ⟨?_,I9 rfl hI.val⟩;rw[nL,nz D (show 4≠5 by decide),nz D (show 6≠5 by decide),nz D (show 8≠5 by decide),o6,nM vs _ (show 4≠5 by decide),nM vs _ (show 6≠5 by decide),d4,E 6 mX mZ,E 8 mX mZ];exact C.box e4
  .have ah:=fe N hI.val J 31 1
   have d5:=J 5 mX mZ;have av:=N 35 mX;simp only[Jk]at ah;have C:=hI.nP;rw[hd,J 4 mX mZ,d5,E 8 mX mZ]at C;have⟨ov,cv,e4,aN,ax⟩:=C.sub rfl rfl;have⟨nb,e5,hB⟩:=ax rfl;have⟨aI,aO⟩:=C.own rfl;have hlt:=C.lt;refine yO Je rfl (.tmp 31) (.tmp 35) rfl (y:=⟨x.lab,G ov x.sub.length cv,x.sub⟩) ah aI.1 (av.trans e5) hB rfl (by intro ar ag;simp[NZ]at ag;rcases ag with rfl|rfl|rfl<;>rfl) I (jB _) ?_;intro go gc aG aJ aK aL aP;refine aa _ _ _ rfl ⟨?_,I9 rfl hI.val⟩;rw[nL,nz D (show 4≠6 by decide),nz D (show 5≠6 by decide),nz D (show 8≠6 by decide),o6,nM vs _ (show 4≠6 by decide),nM vs _ (show 5≠6 by decide),J 4 mX mZ,d5,E 8 mX mZ];exact C.app e4 aJ aK aL
  have aD:=(N 7 mX).trans FY.out;rotate_left
  .have d6:=J 6 mX mZ
   have ai:a.tmps.getD 36 jw=vs 6:=N 36 mX;have ay:=fe N hI.val J 37 7;simp only[Jk]at ay;have C:=hI.nP;rw[hd,J 4 mX mZ,J 5 mX mZ,d6]at C;have c0:=C.xb.cell 2;have f0:=C.xb.free 2;have⟨e,_,_,go,gc,az,_⟩:=C.fin rfl;have ai:=ai.trans az;simp only[kM,cU,ji,jb,jc]at c0;go_simp;refine aa jw _ _ rfl ⟨?_,uj hI.val⟩;rw[nL,nz D (show 4≠8 by decide),nz D (show 5≠8 by decide),nz D (show 6≠8 by decide),nM vs _ (show 4≠8 by decide),nM vs _ (show 5≠8 by decide),nM vs _ (show 6≠8 by decide),J 4 mX mZ,J 5 mX mZ,d6];rw[<-az];exact C.put
  all_goals
   go_simp;exact aa _ _ _ rfl ⟨hI.nP,uj hI.val⟩
 .intro D vs w af hI
  have J:=hI.nP;rw[af 4 mX]at J;rw[af 5 mX]at J;rw[af 6 mX]at J;rw[af 8 mX]at J;have q:=aA vs w J;rw[oD hI.val af];dsimp+instances only[MU,cO,cL,cR,cB,Tryz.f249];exact qf
end
structure Xp(g cb lb fb:Nat)(r:RS)(l:Nat)(w0:K)(xo:Option j4)(xc:Nat)(L:List (pI IL))(W:K):Prop where
 ly:BN cb lb fb r l W
 rb:mY W g (FT cb lb fb) Gx
 rs:mY W (g+1) #[H ⟨#[]⟩,mH M,G U 0 0] IT
 xb:mY W (g+2) #[H ⟨#[]⟩,mH u,G xo L.length xc] IT
 own:tO W (λc=>g+3<=c) (G xo L.length xc) L
 up:oC cb lb w0 W
 lt:cb<g/\lb<g/\fb<g/\w0.heap.size=g/\0<g
section
variable {g cb lb fb:Nat}{r r':RS}{l l':Nat}{w0 W W':K}{xo:Option j4}{xc:Nat}{L:List (pI IL)}
def Xp.below(h:Xp g cb lb fb r l w0 xo xc L W)(hb:iR W.heap.size W W'):Xp g cb lb fb r l w0 xo xc L W':=
 ⟨h.ly.below hb,a7 hb h.rb h.rb.lt,a7 hb h.rs h.rs.lt,a7 hb h.xb h.xb.lt,tO.keep h.own hb.size (λc hc _=>hb.block c hc) λ_ _ h=>h,h.up.trans (oC.of hb),h.lt⟩
def Si(h:Xp g cb lb fb r l w0 xo xc L W):mY (o8 W (g+1) (H ⟨#[]⟩) (mH u) (G xo L.length xc)) (g+1) #[H ⟨#[]⟩,mH u,G xo L.length xc] IT/\
  BN cb lb fb r l (o8 W (g+1) (H ⟨#[]⟩) (mH u) (G xo L.length xc))/\nC (o8 W (g+1) (H ⟨#[]⟩) (mH u) (G xo L.length xc)) (λc=>g<=c) (G xo L.length xc) (L.map pI.tree)/\
  oC cb lb w0 (o8 W (g+1) (H ⟨#[]⟩) (mH u) (G xo L.length xc)):=by
 have J:=h.lt;have C:∀c,c≠g+1->(o8 W (g+1) (H ⟨#[]⟩) (mH u) (G xo L.length xc)).heap[c]? =W.heap[c]? :=λc hc=>by
  simp[o8,jr,kg,mf hc]
 have hs:(o8 W (g+1) (H ⟨#[]⟩) (mH u) (G xo L.length xc)).heap.size=W.heap.size:=by simp[o8,jr]
 have o:∀{c:Nat}{cs:Array iQ}{t:jl},mY W c cs t->c≠g+1->mY (o8 W (g+1) (H ⟨#[]⟩) (mH u) (G xo L.length xc)) c cs t:=λh hn=>by unfold mY at*;rw[C _ hn];exact h
 have A:=h.ly;refine⟨((h.rs.set 0 _).set 1 _).set 2 _,⟨o A.rd I,A.ok,o A.lf I,o A.fr I,?_,A.ne⟩,?_,?_⟩
 .have key:∀i,(o8 W (g+1) (H ⟨#[]⟩) (mH u) (G xo L.length xc)).cell? (Z 0 i U)=W.cell? (Z 0 i U):=λi=>by
   simp only[lV,C 0 I]
  exact⟨(key 0).trans A.tab.a,(key 1).trans A.tab.b,(key 2).trans A.tab.c⟩
 .have q:=tO.subs h.own
  refine Shape.nA.keep (by simpa using q) (kP hs.symm) (λc _ hc=>by have:g+3<=c:=hc;show g<=c;omega) λc _ hc=>C c (by have:g+3<=c:=hc;omega)
 .exact⟨h.up.os,h.up.tape,h.up.output,by rw[hs];exact h.up.size,λc hc hb E=>(C c I).trans (h.up.block c hc hb E)⟩
def Xp.of7{kb:Nat}{r2:RS}{l2:Nat}{k z:Int}{ts:List (mW TL)}{x:mW IL}{v4 v5 v6:iQ}(h:L7 g cb lb fb kb wk r r2 l l2 k z ou nu cu tl ts xo xc L x w0 u u u u v4 v5 v6 W):
  ∃(e:pI IL) (go:Option j4) (gc:Nat),e.tree=x/\Xp g cb lb fb r2 l2 w0 go gc (L++[e]) W:=by
 have⟨e,e1,e2,go,gc,e3,e4⟩:=h.fin rfl;have A:=h.lt;subst e3;have hl:(L++[e]).length=L.length+1:=ny;refine⟨e,O (Z go 0 U),gc,by unfold pI.tree;rw[e1,e2];exact mW.eta x,⟨h.ly,h.rb,h.rs,?_,?_,h.up,I⟩⟩;.rw[hl];exact h.xb
 .rw[hl];exact e4
def Xp.to7(h:Xp g cb lb fb r l w0 xo xc L W)(r2:RS)(l2:Nat)(k z:Int)(ou:Option j4)(nu cu:Nat)(tl:Int)(ts:List (mW TL))(x:mW IL)(E:nK.nA W (Xo cb lb) (G ou nu cu) ts)(hL:L.length<=100000)(N:x.lab.text.length<=jd)(C:W.heap.size=wk)(v4 v5 v6:iQ):
  L7 g cb lb fb wk wk r r2 l l2 k z ou nu cu tl ts xo xc L x w0 M M M M v4 v5 v6 (W.alloc (mM #[V X k,V X z,G ou nu cu,V X tl] sG)):=by
 have hb:=(iT W.heap.size W).alloc (iP _) (mM #[V X k,V X z,G ou nu cu,V X tl] sG);have A:=h.lt;have aa:=h.xb.lt;have q:=h.below hb;have hn:=mY.new W #[V X k,V X z,G ou nu cu,V X tl] sG;rw[C]at hn;exact⟨q.ly,q.rb,q.rs,q.xb,λ_=>⟨hn,nk,Shape.nA.below E hb⟩,λ_=>⟨q.own,λb J=>C▸(h.own.1.block b J).2.1⟩,(λh=>by cases h),(λh=>by cases h),q.up,⟨A.1,A.2.1,A.2.2.1,I,hL,N,A.2.2.2.1,A.2.2.2.2⟩⟩
end
def a0b(h:p:=by
 subst hW;have a1:=(iT w.heap.size w).alloc (iP _) (mM (FT cb lb fb) Gx);have a2:=a1.alloc ny (mM #[H ⟨#[]⟩,mH M,G U 0 0] IT);have a3:=a2.alloc nk (mM #[H ⟨#[]⟩,mH u,G U 0 0] IT);have k1:=mY.new w (FT cb lb fb) Gx;have k2:=mY.new (w.alloc (mM (FT cb lb fb) Gx)) #[H ⟨#[]⟩,mH M,G U 0 0] IT;have k3:=mY.new ((w.alloc (mM (FT cb lb fb) Gx)).alloc (mM #[H ⟨#[]⟩,mH M,G U 0 0] IT)) #[H ⟨#[]⟩,mH u,G U 0 0] IT;rw[show(w.alloc (mM (FT cb lb fb) Gx)).heap.size=g+1 by simp[hg]]at k2;rw[show((w.alloc (mM (FT cb lb fb) Gx)).alloc (mM #[H ⟨#[]⟩,mH M,G U 0 0] IT)).heap.size=g+2 by simp[hg]]at k3;rw[hg]at k1;exact⟨hI.below a3,(k1.alloc _).alloc _,k2.alloc _,k3,tO.nil _ _,oC.of a3,⟨I,I,I,hg,hg▸hI.tab.lt⟩⟩):p:=h
def a5e(h:p:=by
 obtain⟨k,r',l',xo,xc,L,rfl,hk,HJ⟩:=hrel;by_cases c:k<n
 .have⟨t,ht⟩:∃t,ts[k]? =O t:=⟨_,ja (by rw[HN.out];exact c)⟩
  have hdr:ts.drop k=t::ts.drop (k+1):=by
   have⟨h1,h2⟩:=jU.1 ht;rw[lH h1,h2]
  have HST:R (oN f (ts.drop k) r' l'=if(t.2=u\/r'.p<r'.t.size)/\r'.f=0 then((f t.1 r' l').1::(oN f (ts.drop (k+1)) (f t.1 r' l').2.1 (f t.1 r' l').2.2).1,(oN f (ts.drop (k+1)) (f t.1 r' l').2.1 (f t.1 r' l').2.2).2)else([],r',l')):=Y (by rw[hdr];rfl);have CO:=Y (HOF wr r' l' HJ.1.up HJ.1.ly k t ht);have HM:R (t∈ts):=Y (jq ht);clear ht hdr;have HJ1:=Y HJ.1;have HLY:=Y HJ.2;clear HJ;go_wp2_with fail;refine CO.mono ?_;rintro e w2 ⟨ou,cu,rfl,hs,hb⟩;have HJ2:=Y (HJ1.below hb);have HS:=Y hs;clear hb hs CO HJ1;have HFD:∀W,wL W cb r'->_:=λW h=>pU cb r' W h
  have⟨b,hbb⟩:=nE ((t.2||As (r'.p<r'.t.size)));have HB:=Y hbb;rw[hbb];clear hbb;cases b with
  |false=>
   have RN:R (ad=(L.map pI.tree,r',l')):=Y (by
    rw[HLY.2,HST.out,At];.simp
    .intro h
     have h2:=HB.out;simp only[ep,b8]at h2;rcases h.1 with h3|h3
     .rw[h3]at h2;cases h2.1
     .exact h2.2 h3)
   go_upto_region 6 with fail;have hJ3:=HJ2.below ((iT _ _).alloc (iP _) (mM #[V X t.1.lab.kind,V X t.1.lab.size,G ou t.1.sub.length cu,V X t.1.lab.tail] sG));generalize w2.alloc _=w3 at*;have Sj:=Y hJ3;clear hJ3 HJ2 HS;have⟨x0,x1,x2⟩:=Sj.xb.a3;have⟨y0,y1,y2,z0,z1,z2⟩:=Sj.rs.b3;go_wp2_with fail;rw[pO];have⟨hb,hl,hs,hu⟩:=Si Sj.out;have⟨d0,d1,d2⟩:=hb.a3;refine iY (v:=mI #[H ⟨#[]⟩,mH u,G xo L.length xc]) (by simp[jv,Tryz.results249,go_sem,d0,d1,d2]) rfl ?_;rw[RN.out];exact⟨xo,xc,ny,hl,by rw[hg];simpa using hs,hu⟩
  |true=>
   go_upto_region 6 with fail;have hJ3:=HJ2.below ((iT _ _).alloc (iP _) (mM #[V X t.1.lab.kind,V X t.1.lab.size,G ou t.1.sub.length cu,V X t.1.lab.tail] sG));have h7:=λr2 l2 x hx hL=>HJ2.to7 r2 l2 t.1.lab.kind t.1.lab.size ou t.1.sub.length cu t.1.lab.tail t.1.sub x HS hL hx rfl
   generalize w2.alloc _=w3 at*;generalize w2.heap.size=kb at*;have Sj:=Y hJ3;have H7:=Y h7;clear hJ3 HJ2 HS h7;have c2:=Sj.rb.cell 2;simp only[FT,ji,jb,jc]at c2;unfold Ez at c2;go_wp2_with fail;refine vE (HFD _ Sj.ly.rd) ?_;by_cases hf:r'.f=0
   .have t0:(r'.f !=0)=M:=by simp[hf]
    have HF:=Y hf;clear hf HFD;go_upto_region 7 with fail;have hx:=HTX.out t.1 r' l' Sj.ly.ok.1.2;have HL:R (L.length<=100000):=Y (by rw[HLY.1];omega);have HVC:=Y (a6z t HM);have HY2:R (ad=(L.map pI.tree++((f t.1 r' l').1::(oN f (ts.drop (k+1)) (f t.1 r' l').2.1 (f t.1 r' l').2.2).1),(oN f (ts.drop (k+1)) (f t.1 r' l').2.1 (f t.1 r' l').2.2).2)):=Y (by
     rw[HLY.2,HST.out,Ax];refine⟨?_,HF.out⟩;have h2:=HB.out;simp only[cM,bb]at h2;exact h2)
    have HLK:=Y HLY.1;clear HLY HST HB HTX a6z HOF;have a6A:R (∀W ou cu,oC cb lb w W->BN cb lb fb r' l' W->_->_):=Y λW ou cu=>HVC.out W r' l' ou cu
    clear HVC;have⟨⟨x,r2,l2⟩,hy⟩:∃y,f t.1 r' l'=y:=⟨_,rfl⟩;simp only[hy]at a6A HY2 hx;clear hy
    refine a6y (g:=g) (cb:=cb) (lb:=lb) (fb:=fb) (kb:=kb) (wk:=kb) (r:=r') (r2:=r2) (l:=l') (l2:=l2) (k:=t.1.lab.kind) (z:=t.1.lab.size) (ou:=ou) (nu:=t.1.sub.length) (cu:=cu) (tl:=t.1.lab.tail) (ts:=t.1.sub) (xo:=xo) (xc:=xc) (L:=L) (x:=x) (w0:=w)
     (FY:=by rfl) (ht3:=by rfl) (Gy:=by rfl) (hsz:=by rfl) (hval:=λW hl hu hs=>a6A.out W ou cu hu hl hs) (hI0:=λvs=>(H7 r2 l2 x hx HL (vs 4) (vs 5) (vs 6)).drew _ _ _) ?_
    intro vs W hW;have⟨e,go,gc,he,hJ5⟩:=Xp.of7 hW;have HJ5:=Y hJ5;clear hW hJ5 Sj H7 a6A;generalize vs 4=v4;generalize vs 5=v5;generalize vs 6=v6;simp only[vG,iX,jg,jf];have HXE:R (e.tree=x):=Y he;clear he hx;go_wp2;go_roundw;case rel=>exact⟨k+1,r2,l2,go,gc,L++[e],by go_num,I,Y ⟨HJ5.out,by rw[jo,HLK.out];rfl,by rw[HY2.out];simp[HXE.out]⟩⟩
    case measure=>simp[jF];omega
   .have t0:(r'.f !=0)=u:=by simp[hf]
    have RN:R (ad=(L.map pI.tree,r',l')):=Y (by
     rw[HLY.2,HST.out,At λh=>hf h.2];simp)
    clear hf HFD;have⟨x0,x1,x2⟩:=Sj.xb.a3;have⟨y0,y1,y2,z0,z1,z2⟩:=Sj.rs.b3;go_wp2_with fail;rw[pO];have⟨hb,hl,hs,hu⟩:=Si Sj.out;have⟨d0,d1,d2⟩:=hb.a3;refine iY (v:=mI #[H ⟨#[]⟩,mH u,G xo L.length xc]) (by simp[jv,Tryz.results249,go_sem,d0,d1,d2]) rfl ?_;rw[RN.out];exact⟨xo,xc,ny,hl,by rw[hg];simpa using hs,hu⟩
 .have RN:R (ad=(L.map pI.tree,r',l')):=Y (by
   rw[HJ.2.2,ef (by rw[HN.out];omega)];simp[oN])
  have Sj:=Y HJ.1;clear HJ;have⟨x0,x1,x2⟩:=Sj.xb.a3;have⟨y0,y1,y2,z0,z1,z2⟩:=Sj.rs.b3;go_wp2_with fail;rw[pO];have⟨hb,hl,hs,hu⟩:=Si Sj.out;have⟨d0,d1,d2⟩:=hb.a3;refine iY (v:=mI #[H ⟨#[]⟩,mH u,G xo L.length xc]) (by simp[jv,Tryz.results249,go_sem,d0,d1,d2]) rfl ?_;rw[RN.out];exact⟨xo,xc,ny,hl,by rw[hg];simpa using hs,hu⟩):p:=h
def Xq(cb lb fb tb rb:Nat)(r:RS)(l:Nat)(ts:List (mW TL×Bool))(f:mW TL->RS->Nat->ZB)(w:K)(hI:BN cb lb fb r l w)(hn:ts.length<=65536)(ae:cb<w.heap.size/\lb<w.heap.size/\fb<w.heap.size)(E:∀W r' l',oC cb lb w W->BN cb lb fb r' l' W->∀(i:Nat) (t:mW TL×Bool),ts[i]? =O t->iW iN 250 #[V X (i:Nat),mG (O (Z tb 0 U))] W (EY (Xo cb lb) t.1 (t.2||As (r'.p<r'.t.size)) W))(hval:∀t,t∈ts->∀W r' l' ou cu,oC cb lb w W->BN cb lb fb r' l' W->nK.nA W (Xo cb lb) (G ou t.1.sub.length cu) t.1.sub->iW iN 211 #[mI #[BL cb,DL cb,Ez cb,CE cb,BM fb,mG (O (Z lb 0 U))],mI #[V X t.1.lab.kind,V X t.1.lab.size,G ou t.1.sub.length cu,V X t.1.lab.tail]] W (PZ cb lb fb (f t.1 r' l') W))(J:∀t r l,r.t.size<=100000->(f t r l).1.lab.text.length<=jd):
  iW iN 249 #[mI #[BL cb,DL cb,Ez cb,CE cb,BM fb,mG (O (Z lb 0 U))],V X (ts.length:Nat),.func (.func 250) #[] #[mG (O (Z tb 0 U))]] w (a5d cb lb fb (oN f ts r l) w):=by
 obtain⟨g,hg⟩:=o7 w;have A:R (∀W,((w.alloc (mM #[BL cb,DL cb,Ez cb,CE cb,BM fb,mG (O (Z lb 0 U))] Gx)).alloc (mM #[H ⟨#[]⟩,mH M,G U 0 0] IT)).alloc (mM #[H ⟨#[]⟩,mH u,G U 0 0] IT)=W->Xp g cb lb fb r l w U 0 [] W):=Y λW hW=>by
  exact a0b
 have HOF:=Y E;have a6z:=Y hval;have HTX:=Y J;have⟨n,C⟩:=nE ts.length;have HN:=Y C;rw[C]at hn|-;have⟨ad,aa⟩:=nE (oN f ts r l);have ag:=Y aa;rw[aa];clear hI E hval J C ae aa;unfold BL DL Ez CE BM at A;unfold BL DL Ez CE BM;go_in;go_upto_region 2 with fail;have N:=A.out _ rfl;generalize ((w.alloc _).alloc _).alloc _=w1 at*;have af:=Y N;clear A N;go_wp2;go_loopw [13] (λkv ah=>∃(k:Nat) (r':RS) (l':Nat) (xo:Option j4) (xc:Nat) (L:List (pI IL)),kv=V X k/\k<=n/\R (Xp g cb lb fb r' l' w xo xc L ah/\L.length=k/\ad=(L.map pI.tree++(oN f (ts.drop k) r' l').1,(oN f (ts.drop k) r' l').2))) (λkv _=>n -(jF kv).toNat);case atStart=>exact⟨0,r,l,U,0,[],rfl,I,Y ⟨af.out,rfl,by rw[<-ag.out];simp⟩⟩
 case round=>
  exact a5e
def Xr(cb lb fb tb rb:Nat)(r:RS)(l:Nat)(ts:List (mW TL×Bool))(f:mW TL->RS->Nat->ZB)(w:K)(hI:BN cb lb fb r l w)(hn:ts.length<=65536)(ae:cb<w.heap.size/\lb<w.heap.size/\fb<w.heap.size)(E:∀W r' l',oC cb lb w W->BN cb lb fb r' l' W->∀(i:Nat) (t:mW TL×Bool),ts[i]? =O t->iW iN 251 #[V X (i:Nat),mG (O (Z tb 0 U)),mG (O (Z rb 0 U))] W (EY (Xo cb lb) t.1 (t.2||As (r'.p<r'.t.size)) W))(hval:∀t,t∈ts->∀W r' l' ou cu,oC cb lb w W->BN cb lb fb r' l' W->nK.nA W (Xo cb lb) (G ou t.1.sub.length cu) t.1.sub->iW iN 211 #[mI #[BL cb,DL cb,Ez cb,CE cb,BM fb,mG (O (Z lb 0 U))],mI #[V X t.1.lab.kind,V X t.1.lab.size,G ou t.1.sub.length cu,V X t.1.lab.tail]] W (PZ cb lb fb (f t.1 r' l') W))(J:∀t r l,r.t.size<=100000->(f t r l).1.lab.text.length<=jd):
  iW iN 249 #[mI #[BL cb,DL cb,Ez cb,CE cb,BM fb,mG (O (Z lb 0 U))],V X (ts.length:Nat),.func (.func 251) #[] #[mG (O (Z tb 0 U)),mG (O (Z rb 0 U))]] w (a5d cb lb fb (oN f ts r l) w):=by
 obtain⟨g,hg⟩:=o7 w;have A:R (∀W,((w.alloc (mM #[BL cb,DL cb,Ez cb,CE cb,BM fb,mG (O (Z lb 0 U))] Gx)).alloc (mM #[H ⟨#[]⟩,mH M,G U 0 0] IT)).alloc (mM #[H ⟨#[]⟩,mH u,G U 0 0] IT)=W->Xp g cb lb fb r l w U 0 [] W):=Y λW hW=>by
  exact a0b
 have HOF:=Y E;have a6z:=Y hval;have HTX:=Y J;have⟨n,C⟩:=nE ts.length;have HN:=Y C;rw[C]at hn|-;have⟨ad,aa⟩:=nE (oN f ts r l);have ag:=Y aa;rw[aa];clear hI E hval J C ae aa;unfold BL DL Ez CE BM at A;unfold BL DL Ez CE BM;go_in;go_upto_region 2 with fail;have N:=A.out _ rfl;generalize ((w.alloc _).alloc _).alloc _=w1 at*;have af:=Y N;clear A N;go_wp2;go_loopw [13] (λkv ah=>∃(k:Nat) (r':RS) (l':Nat) (xo:Option j4) (xc:Nat) (L:List (pI IL)),kv=V X k/\k<=n/\R (Xp g cb lb fb r' l' w xo xc L ah/\L.length=k/\ad=(L.map pI.tree++(oN f (ts.drop k) r' l').1,(oN f (ts.drop k) r' l').2))) (λkv _=>n -(jF kv).toNat);case atStart=>exact⟨0,r,l,U,0,[],rfl,I,Y ⟨af.out,rfl,by rw[<-ag.out];simp⟩⟩
 case round=>
  exact a5e
structure FZ(g cb lb fb:Nat)(r:RS)(l:Nat)(k z:Int)(ou:Option j4)(nu cu:Nat)(tl:Int)(s:List (mW TL))(w0:K)(rc:Array iQ)(W:K):Prop where
 ly:BN cb lb fb r l W
 rb:mY W g (FT cb lb fb) Gx
 tb:mY W (g+1) #[V X k,V X z,G ou nu cu,V X tl] sG
 rs:mY W (g+2) rc IT
 sub:nK.nA W (λc=>Xo cb lb c/\c<g) (G ou nu cu) s
 up:oC cb lb w0 W
 lt:cb<g/\lb<g/\fb<g/\w0.heap.size=g/\0<g
def BD:Array iQ:=#[H ⟨#[]⟩,mH M,G U 0 0]
section
variable {g cb lb fb:Nat}{r r':RS}{l l':Nat}{k z:Int}{ou:Option j4}{nu cu:Nat}{tl:Int}{s:List (mW TL)}{w0 W W':K}{rc:Array iQ}
def FZ.Sk(h:FZ g cb lb fb r l k z ou nu cu tl s w0 rc W)(hl:BN cb lb fb r' l' W')(A:oC cb lb W W'):FZ g cb lb fb r' l' k z ou nu cu tl s w0 rc W':=by
 have E:=h.lt;exact⟨hl,A.blk h.rb I I,A.blk h.tb I I,A.blk h.rs I I,Shape.nA.keep h.sub A.size (λ_ _ h=>h) λc hc C=>A.block c hc C.1.1 C.1.2,h.up.trans A,h.lt⟩
def FZ.below(h:FZ g cb lb fb r l k z ou nu cu tl s w0 rc W)(hb:iR W.heap.size W W'):FZ g cb lb fb r l k z ou nu cu tl s w0 rc W':=h.Sk (h.ly.below hb) (oC.of hb)
def FZ.turn(h:FZ g cb lb fb r l k z ou nu cu tl s w0 rc W)(A:oO cb W W')(C:wL W' cb r')(hk:RZ r r'):FZ g cb lb fb r' l k z ou nu cu tl s w0 rc W':=
 h.Sk (h.ly.turn A C ⟨hk.ok h.ly.ok.1.1,by rw[hk.t];exact h.ly.ok.1.2⟩) (x9 A)
def FZ.BU(h:FZ g cb lb fb r l k z ou nu cu tl s w0 rc W)(m:Nat)(A:m<=1024):FZ g cb lb fb r m k z ou nu cu tl s w0 rc (W.setCell (Z lb 0 U) (V X (m:Nat))):=h.Sk (h.ly.BU m A) ((eI cb lb W).QS 0 _)
def FZ.put(h:FZ g cb lb fb r l k z ou nu cu tl s w0 BD W)(a b c:iQ):FZ g cb lb fb r l k z ou nu cu tl s w0 #[a,b,c] (o8 W (g+2) a b c):=by
 have J:=h.lt;have C:∀d,d≠g+2->(o8 W (g+2) a b c).heap[d]? =W.heap[d]? :=λd hd=>by simp[o8,jr,kg,mf hd]
 have hs:(o8 W (g+2) a b c).heap.size=W.heap.size:=by simp[o8,jr]
 have o:∀{d:Nat}{cs:Array iQ}{t:jl},mY W d cs t->d≠g+2->mY (o8 W (g+2) a b c) d cs t:=λh hn=>by unfold mY at*;rw[C _ hn];exact h
 have A:=h.ly;have key:∀i,(o8 W (g+2) a b c).cell? (Z 0 i U)=W.cell? (Z 0 i U):=λi=>by
  simp only[lV,C 0 I]
 refine⟨⟨o A.rd I,A.ok,o A.lf I,o A.fr I,⟨(key 0).trans A.tab.a,(key 1).trans A.tab.b,(key 2).trans A.tab.c⟩,A.ne⟩,o h.rb I,o h.tb I,((h.rs.set 0 a).set 1 b).set 2 c,?_,?_,h.lt⟩;.exact Shape.nA.keep h.sub (kP hs.symm) (λ_ _ h=>h) λc _ E=>C c (by have:=E.2;omega)
 .exact⟨h.up.os,h.up.tape,h.up.output,by rw[hs];exact h.up.size,λd hd hb E=>(C d I).trans (h.up.block d hd hb E)⟩
def FZ.drew(h:FZ g cb lb fb r l k z ou nu cu tl s w0 rc W):FZ g cb lb fb r l k z ou nu cu tl s w0 rc W.drew:=h.below (nN W)
end
def a3D(s:An)(w:K):iW iN 93 #[H s] w λe w'=>∃er:Int,e=mK (mJ #[V mP (Dy s),V X er])/\w=w':=by
 unfold Dy;by_cases h0:s.size=0
 .rw[At I]
  exact(xu s w h0).mono λe w' h=>⟨1,h⟩
 .by_cases A:s.size<=8
  .rw[Ax I]
   exact(uh s w I A).mono λe w' h=>⟨0,h⟩
  .rw[At I]
   exact(Cb s w I).mono λe w' h=>⟨5,h⟩
def a6B(b:An):(⟨b.data.toList.toArray⟩:An)=b:=by cases b;simp
noncomputable def GY:List kC:=cO (cL (cL (cR (cR (cR (cR (cR (cL (cR (cL (cR (cR (cR (cB Tryz.f211))))))))))))))
section
variable (g cb lb fb:Nat)(r r1 r2:RS)(l:Nat)(k:Int)(m n1:Nat)(T:An)(ou:Option j4)(nu cu:Nat)(tl:Int)(s:List (mW TL))(w0:K)
def uz:Nat->iQ
 |0=> mG (O (Z g 0 U))
 |1=>BL cb
 |2=> mG (O (Z g 4 U))
 |3=>BM fb
 |4=> mG (O (Z (g+1) 1 U))
 |5=> V X m
 |6=> V X n1
 |7=> H T
 |8=> mI #[H T,mH M,G U 0 0]
 |_=>jw
structure a0c(D:Nat->Bool)(vs:Nat->iQ)(w:K):Prop where
 nP:FZ g cb lb fb (if(D 7)=u then r2 else if(D 6)=u then r1 else r) l k m ou nu cu tl s w0 (if(D 9)=u then#[H T,mH M,G U 0 0]else BD) w
 val:∀j,(u)=u->D j=u->vs j=uz g cb fb m n1 T j
variable {g cb lb fb r r1 r2 l k m n1 T ou nu cu tl s w0}
def a0d{D:Nat->Bool}{vs:Nat->iQ}(h:a0c g cb lb fb r r1 r2 l k m n1 T ou nu cu tl s w0 D vs w){i:Nat}(hi:i≠6/\i≠7/\i≠9)(A:FZ g cb lb fb (if(D 7)=u then r2 else if(D 6)=u then r1 else r) l k m ou nu cu tl s w0 (if(D 9)=u then#[H T,mH M,G U 0 0]else BD) w->FZ g cb lb fb (if(D 7)=u then r2 else if(D 6)=u then r1 else r) l k m ou nu cu tl s w0 (if(D 9)=u then#[H T,mH M,G U 0 0]else BD) w'):a0c g cb lb fb r r1 r2 l k m n1 T ou nu cu tl s w0 (zR D i) (zS vs i (uz g cb fb m n1 T i)) w':=by
 refine⟨?_,uj h.val⟩;rw[nz D (show 6≠i by omega)];rw[nz D (show 7≠i by omega)];rw[nz D (show 9≠i by omega)];exact A h.nP
def a3E{id:Nat}(ht2:a0.tmps.getD 2 jw=mG (O (Z g 0 U)))(ht3:a0.tmps.getD 3 jw=mG (O (Z (g+1) 0 U)))(Gz:∀W,BN cb lb fb r l W->iW iN 209 #[V X m,mG (O (Z fb 0 U))] W λe w'=>e=mK (V X n1)/\BN cb lb fb r1 l w'/\oO cb W w')(htake:∀W,wL W cb r1->iW iN 145 #[mG (O (Z cb 0 U)),V X n1] W (zW cb W r2 (H T)))(hk2:RZ r1 r2)(GM:a0.tmps.getD 4 jw=mG (O (Z (g+2) 0 U)))(hsz:a0.tmps.size=74)(hI0:∀vs:Nat->iQ,(λw=>FZ g cb lb fb (if M=u then r2 else if M=u then r1 else r) l k m ou nu cu tl s w0 (if M=u then#[H T,mH M,G U 0 0]else BD) w) ws.drew)(aB:∀(vs:Nat->iQ) (w:K),FZ g cb lb fb (if u=u then r2 else if u=u then r1 else r) l k m ou nu cu tl s w0 (if u=u then#[H T,mH M,G U 0 0]else BD) w->Q .normal {a0 with tmps:=vG a0.tmps [(48,mG (O (Z g 0 U))),(49,BL cb),(50,mG (O (Z g 4 U))),(51,BM fb),(52,mG (O (Z (g+1) 1 U))),(53,V X m),(54,V X n1),(55,H T),(56,mI #[H T,mH M,G U 0 0])]} w):
  (jZ id GY.toArray u).wp iN Q a0 ws:=by
 refine nJ 10 74 (a0c g cb lb fb r r1 r2 l k m n1 T ou nu cu tl s w0) mZ hsz mZ (.inl rfl) mZ ?_ ?_ ?_;.exact qg
 .refine rR λA aD=> ?_
  replace ht2:=Y ht2;replace ht3:=Y ht3;replace Gz:=Y Gz;replace htake:=Y htake;replace hk2:=Y hk2;replace GM:=Y GM;dsimp+instances only[GY,cO,cL,cR,cB,Tryz.f211];simp only[jm,jI,qU];refine⟨?_,?_,?_,?_,?_,?_,?_,?_,?_,?_,trivial⟩<;>(intro D vs a w aq hI hd E N C aa;subst aD;dsimp+instances only[GY,cO,cL,cR,cB,Tryz.f211]);have e2:=(C 2 mX).trans ht2.out;rotate_left;have aj:=fe C hI.val E 48 0;simp only[uz]at aj;have hB:=hI.nP.rb;have c0:=hB.cell 0;simp only[FT,ji,jb,jc]at c0;rotate_left;have e2:=(C 2 mX).trans ht2.out;rotate_left;have ak:=fe C hI.val E 50 2;simp only[uz]at ak;have hB:=hI.nP.rb;have c0:=hB.cell 4;simp only[FT,ji,jb,jc]at c0;rotate_left;have e3:=(C 3 mX).trans ht3.out;rotate_left;have au:=fe C hI.val E 52 4;simp only[uz]at au;have hB:=hI.nP.tb;have c0:=hB.c1;rotate_left
  .have Gz:=Gz.out
   have af:=fe C hI.val E 51 3;have av:=fe C hI.val E 53 5;simp only[uz]at af av;have J:=hI.nP;rw[hd,N 7 mX mZ,N 9 mX mZ]at J;have aF:=Gz w J.ly;unfold BM at af;rw[Ax (by rfl)];go_simp;refine vF aF λax hl ah=> ?_
   refine aa (uz g cb fb m n1 T 6) _ _ rfl ⟨?_,uj hI.val⟩;rw[nL,nz D (show 7≠6 by decide),nz D (show 9≠6 by decide),N 7 mX mZ,N 9 mX mZ];exact J.Sk hl (x9 ah)
  .have htake:=htake.out
   have hk2:=hk2.out;have ag:=fe C hI.val E 49 1;have ay:=fe C hI.val E 54 6;simp only[uz]at ag ay;have J:=hI.nP;rw[hd,E 6 mX mZ,N 9 mX mZ]at J;have ai:=htake w J.ly.rd;unfold BL at ag;rw[Ax (by rfl)];go_simp;refine vF ai λax ah aG=> ?_
   refine aa (uz g cb fb m n1 T 7) _ _ rfl ⟨?_,uj hI.val⟩;rw[nL,nz D (show 6≠7 by decide),nz D (show 9≠7 by decide),N 9 mX mZ];exact J.turn ah aG hk2
  .have az:=fe C hI.val E 55 7
   simp only[uz]at az;have ai:=EX T w;rw[Ax (by rfl)];go_simp;refine pG ai λax hb=> ?_
   exact aa (uz g cb fb m n1 T 8) _ _ rfl (a0d hI (i:=8) mX λh=>h.below hb)
  .have e4:=(C 4 mX).trans GM.out
   have aA:=fe C hI.val E 56 8;simp only[uz]at aA;have J:=hI.nP;rw[hd,E 7 mX mZ]at J;have hB:=J.rs;have z0:=hB.cell 0;have aH:=hB.cell 1;have aI:=hB.cell 2;have⟨f0,f1,f2⟩:=hB.f3;simp only[BD,kM,cU,ji,jb,jc]at z0 aH aI;go_simp;rw[pO];refine aa jw _ _ rfl ⟨?_,uj hI.val⟩;rw[nL,nz D (show 6≠9 by decide),nz D (show 7≠9 by decide),E 7 mX mZ];exact FZ.put J _ _ _
  all_goals
   go_simp;exact aa _ _ _ rfl ⟨hI.nP,uj hI.val⟩
 .intro D vs w ae hI
  have E:=hI.nP;rw[ae 6 mX]at E;rw[ae 7 mX]at E;rw[ae 9 mX]at E;have q:=aB vs w E;rw[oD hI.val ae];dsimp+instances only[GY,cO,cL,cR,cB,Tryz.f211];exact qf
end
def wz(w:K)(Q:Nat->Prop):nC w Q (G U 0 0) []:=⟨U,0,rfl,iP _,jB _,λh=>absurd h ny⟩
def U1(r:RS)(n:Int):(r.take n).2.size<=r.t.size:=by
 unfold RS.take;split
 .split
  .exact jB _
  .split
   .exact jB _
   .simp only[iV];omega
 .exact jB _
def Jl:∀(d:Nat)(t:mW TL)(r:RS)(l:Nat),r.t.size<=100000->(nQ d t r l).1.lab.text.length<=jd
 |0,t,r,l,h=>by show([]:List AC).length<=jd;decide
 |d+1,.node a s,r,l,h=>by
  have A:(100000:Nat)<=jd:=mX;have ht:∀b:An,b.size<=100000->(wy b).lab.text.length<=jd:=λb hb=>by
   show b.data.toList.length<=jd;have:b.data.toList.length=b.size:=ny;omega
  have h0:(wy ⟨#[]⟩).lab.text.length<=jd:=mX;unfold nQ;split;.exact h0
  .split
   .show(zH _).reverse.length<=jd
    have:=Ca 8 _ (jy (MI (r.take a.size).2) mX);rw[lC];omega
   .split
    .exact ht _ (jk (U1 _ _) h)
    .split
     .exact ht _ (jk (U1 _ _) (by rw[MF];exact h))
     .split
      .cases s with
       |nil=>exact h0
       |cons t ts=>show([]:List AC).length<=jd;decide
      .show([]:List AC).length<=jd;decide
def U2(d:Nat)(a:TL)(s:List (mW TL))(r:RS):nQ (d+1) (.node a s) r 0=(wy ⟨#[]⟩,r.fail 4,0):=by unfold nQ;rw[Ax rfl]
def U3(d m:Nat)(a:TL)(s:List (mW TL))(r:RS)(h:a.kind=1):nQ (d+1) (.node a s) r (m+1)=(Dz (Dy (r.take a.size).2),(r.take a.size).1,m):=by unfold nQ;rw[At I,Ax h];rfl
def U4(d m:Nat)(a:TL)(s:List (mW TL))(r:RS)(h:a.kind=2):nQ (d+1) (.node a s) r (m+1)=(wy (r.take a.size).2,(r.take a.size).1,m):=by unfold nQ;rw[At I,At I,Ax h];rfl
def U5(d m:Nat)(a:TL)(s:List (mW TL))(r:RS)(h:a.kind=3):nQ (d+1) (.node a s) r (m+1)=(wy ((r.comp a.size.toNat).1.take (r.comp a.size.toNat).2).2,((r.comp a.size.toNat).1.take (r.comp a.size.toNat).2).1,m):=by
 unfold nQ;rw[At I,At I,At I,Ax h];rfl
def U6(d m:Nat)(a:TL)(t:mW TL)(r:RS)(h:a.kind=4):nQ (d+1) (.node a [t]) r (m+1)=(tZ (oN (nQ d) (jC (r.comp a.size.toNat).2 (t,u)) (r.comp a.size.toNat).1 m).1,(oN (nQ d) (jC (r.comp a.size.toNat).2 (t,u)) (r.comp a.size.toNat).1 m).2):=by
 unfold nQ;rw[At I,At I,At I,At I,Ax h];rfl
def U7(d m:Nat)(a:TL)(s:List (mW TL))(r:RS)(h:a.kind=5):nQ (d+1) (.node a s) r (m+1)=(tZ (oN (nQ d) (ry s a.tail) r m).1,(oN (nQ d) (ry s a.tail) r m).2):=by
 unfold nQ;rw[At I,At I,At I,At I,At I];rfl
def Az{cb lb fb:Nat}{r:RS}{l:Nat}{k z:Int}{s:List (mW TL)}{a b:iQ}(h:FZ g cb lb fb r l k z ou nu cu tl s w0 #[a,b,c] W):
  (W.cell? (Z (g+2) 0 U)=O a/\W.cell? (Z (g+2) 1 U)=O b/\W.cell? (Z (g+2) 2 U)=O c)/\W.frozen? (Z (g+2) 0 U)=M/\W.frozen? (Z (g+2) 1 U)=M/\W.frozen? (Z (g+2) 2 U)=M:=
 ⟨⟨h.rs.cell 0,h.rs.cell 1,h.rs.cell 2⟩,h.rs.free 0,h.rs.free 1,h.rs.free 2⟩
def a3F(r:RS)(m:Nat)(A:m<=65536):(r.comp m).2<=65536:=by
 by_cases hf:(r.comp m).1.f=0;.have:=yI hf;omega
 .exact ZH
def a0e(h:p:=by
 have b0c:=Y hs;clear hl hu hs CL;dsimp only at*;have⟨⟨y0,y1,y2⟩,f0,f1,f2⟩:=Az U8.out;go_wp2_with fail;rw[pO];have hF:=U8.put (H ⟨#[]⟩) (mH u) (G ov ys.length cv);have⟨⟨d0,d1,d2⟩,_⟩:=Az hF;refine iY (v:=mI #[H ⟨#[]⟩,mH u,G ov ys.length cv]) (by simp[jv,Tryz.results211,go_sem,d0,d1,d2]) rfl ?_;rw[HYE.out];refine⟨ov,cv,rfl,hF.ly,?_,hF.up⟩;refine Shape.nA.keep b0c (by simp[o8,jr]) (λc _ hc=>by have:=HS.out c hc;show w.heap.size<=c;omega) λc _ hc=> ?_
 have:=HS.out c hc;simp[o8,jr,kg,show g+2≠c by omega,show¬g+2=c by omega]):p:=h
def a0f(h:p:=by
 have⟨⟨d0,d1,d2⟩,_⟩:=Az hF;refine iY (v:=mI #[H T,mH M,G U 0 0]) (by simp[jv,Tryz.results211,go_sem,d0,d1,d2]) rfl ?_;rw[HYE.out];exact⟨U,0,by show _=jS (mI #[H (⟨T.data.toList.toArray⟩:An),mH M,G U 0 0]);rw[a6B],hF.ly,wz _ _,hF.up⟩):p:=h
def Xt:∀(d:Nat)(t:mW TL)(cb lb fb:Nat)(r:RS)(l:Nat)(w:K)(ou:Option j4)(cu:Nat),t.deep<=d->t.all nW=u->BN cb lb fb r l w->(cb<w.heap.size/\lb<w.heap.size/\fb<w.heap.size)->nK.nA w (Xo cb lb) (G ou t.sub.length cu) t.sub->
  iW iN 211 #[mI #[BL cb,DL cb,Ez cb,CE cb,BM fb,mG (O (Z lb 0 U))],mI #[V X t.lab.kind,V X t.lab.size,G ou t.sub.length cu,V X t.lab.tail]] w (PZ cb lb fb (nQ d t r l) w):=by
 intro d;induction d with
 |zero=>intro t cb lb fb r l w ou cu hd;exact absurd (mW.Dj t) I
 |succ d aX=>
  intro t cb lb fb r l w ou cu hd J hI aY av;obtain⟨⟨k,z,tl⟩,s⟩:=t;simp only[mW.oW,mW.qm]at*;have aJ:mW.oH s<=d:=by simp only[mW.deep]at hd;omega
  simp only[mW.all,je]at J;obtain⟨aK,aL⟩:=J;unfold nW qd at aK;simp only[bb]at aK;obtain⟨g,hg⟩:=o7 w;have⟨n,hn⟩:=nE s.length;have ax:R (∀W,((w.alloc (mM #[BL cb,DL cb,Ez cb,CE cb,BM fb,mG (O (Z lb 0 U))] Gx)).alloc (mM #[V X k,V X z,G ou n cu,V X tl] sG)).alloc (mM #[H ⟨#[]⟩,mH M,G U 0 0] IT)=W->FZ g cb lb fb r l k z ou n cu tl s w BD W):=Y λW bF=>by
   subst bF;have a1:=(iT w.heap.size w).alloc (iP _) (mM (FT cb lb fb) Gx);have a2:=a1.alloc ny (mM #[V X k,V X z,G ou n cu,V X tl] sG);have a3:=a2.alloc nk (mM #[H ⟨#[]⟩,mH M,G U 0 0] IT);have aZ:=mY.new w (FT cb lb fb) Gx;have bg:=mY.new (w.alloc (mM (FT cb lb fb) Gx)) #[V X k,V X z,G ou n cu,V X tl] sG;have bq:=mY.new ((w.alloc (mM (FT cb lb fb) Gx)).alloc (mM #[V X k,V X z,G ou n cu,V X tl] sG)) #[H ⟨#[]⟩,mH M,G U 0 0] IT;rw[show(w.alloc (mM (FT cb lb fb) Gx)).heap.size=g+1 by simp[hg]]at bg;rw[show((w.alloc (mM (FT cb lb fb) Gx)).alloc (mM #[V X k,V X z,G ou n cu,V X tl] sG)).heap.size=g+2 by simp[hg]]at bq;rw[hg]at aZ;rw[hn]at av;exact⟨hI.below a3,(aZ.alloc _).alloc _,bg.alloc _,bq,Shape.nA.keep av a3.size (λc hc ah=>⟨ah,hg▸hc⟩) λc hc _=>a3.block c hc,oC.of a3,⟨I,I,I,hg,hg▸hI.tab.lt⟩⟩
  have⟨ad,aV⟩:∃ad,nQ (d+1) (.node ⟨k,z,tl⟩ s) r l=ad:=⟨_,rfl⟩;have N:=Y aV;rw[aV,hn];have ai:=Y aX;have aM:=Y aL;have aN:=Y aJ;have bu:=Y hn;have aO:=Y (λW J=>uI cb r 4 W J);have bN:=hI.ok.2;clear hI av aV aX hd aL aJ aY;unfold BL DL Ez CE BM at ax;unfold BL DL Ez CE BM;have⟨ak,af⟩:∃ak:Int,(l:Int)=ak:=⟨_,rfl⟩;go_in;go_upto_region 1 with fail;have ae:=ax.out _ rfl;generalize ((w.alloc _).alloc _).alloc _=w1 at*;have ag:=Y ae;have c5:w1.cell? (Z g 5 U)=O (mG (O (Z lb 0 U))):=ae.rb.cell 5;have c1:w1.cell? (Z g 1 U)=O (DL cb):=ae.rb.cell 1;have cl:w1.cell? (Z lb 0 U)=O (V X ak):=af▸ae.ly.lf.cell 0;have bG:=ae.ly.lf.free 0;unfold DL at c1;clear ax ae;cases l with
  |zero=>
   have t0:As (ak<=0)=u:=by rw[<-af];rfl
   have HYE:R (ad=(wy ⟨#[]⟩,r.fail 4,0)):=Y (by rw[<-N.out];exact U2 _ _ _ _);clear af N;go_wp2_with fail;refine vF (aO _ ag.ly.rd) λw2 hu J=> ?_
   have A:=Y (ag.turn hu J (DC r 4));clear hu J ag;have⟨⟨y0,y1,y2⟩,f0,f1,f2⟩:=Az A.out;go_wp2_with fail;rw[pO];have hF:=A.put (H ⟨#[]⟩) (mH M) (G U 0 0);have⟨⟨d0,d1,d2⟩,_⟩:=Az hF;refine iY (v:=mI #[H ⟨#[]⟩,mH M,G U 0 0]) (by simp[jv,Tryz.results211,go_sem,d0,d1,d2]) rfl ?_;rw[HYE.out];exact⟨U,0,rfl,hF.ly,wz _ _,hF.up⟩
  |succ m=>
   have t0:As (ak<=0)=M:=by rw[<-af];simp
   have bz:IntKind.i64.wrap (ak - 1)=(m:Int):=by rw[IntWalk.i64_in _ I];omega
   clear af;go_upto_region 5 with fail;have aP:=ag.BU m I;generalize w1.setCell _ _=w2 at*;have A:=Y aP;clear aP ag t0 bz c5 c1 cl bG aO;have b0:w2.cell? (Z g 0 U)=O (BL cb):=A.rb.cell 0;have b4:w2.cell? (Z g 4 U)=O (BM fb):=A.rb.cell 4;have a0:w2.cell? (Z (g+1) 0 U)=O (V X k):=A.tb.cell 0;have a1:w2.cell? (Z (g+1) 1 U)=O (V X z):=A.tb.cell 1;unfold BL at b0;unfold BM at b4;have hk:k=1\/k=2\/k=3\/k=4\/k=5:=I;rcases hk with rfl|rfl|rfl|rfl|rfl
   .have HYE:R (ad=(Dz (Dy (r.take z).2),(r.take z).1,m)):=Y (by rw[<-N.out];exact U3 _ _ _ _ _ rfl)
    have ay:=Y (λW J=>pX cb r z W A.ly.ok.1.1 J);have az:=Y (xL r z);have bA:=Y (MI (r.take z).2);clear N;go_wp2_with fail;refine vF (ay _ A.ly.rd) λw3 hu J=> ?_
    have C:=Y (A.turn hu J az);clear hu J A ay az b0 b4 a0 a1;generalize r.take z=y at*;obtain⟨r2,T⟩:=y;dsimp only at*;have bB:=Y (a3D T);go_wp2_with fail;refine(bB _).mono ?_;rintro e w4 ⟨er,rfl,rfl⟩;have aA:=Y (λW=>MJ (Dy T) W ⟨(zH (Dy T)).reverse.toArray⟩ λbH=>WW (Dy T) bH bA);clear bB;generalize Dy T=bI at*;go_wp2_with fail;refine pG (aA _) λw5 hb=> ?_
    have U8:=Y (C.below hb);clear hb C aA;have⟨aI,aB⟩:∃aI,(⟨(zH bI).reverse.toArray⟩:An)=aI:=⟨_,rfl⟩;rw[aB];have aQ:=Y aB;clear aB;have⟨⟨y0,y1,y2⟩,f0,f1,f2⟩:=Az U8.out;go_wp2_with fail;rw[pO];have hF:=U8.put (H aI) (mH M) (G U 0 0);have⟨⟨d0,d1,d2⟩,_⟩:=Az hF;refine iY (v:=mI #[H aI,mH M,G U 0 0]) (by simp[jv,Tryz.results211,go_sem,d0,d1,d2]) rfl ?_;rw[HYE.out];rw[<-aQ.out];rw[<-aQ.out]at hF;exact⟨U,0,rfl,hF.ly,wz _ _,hF.up⟩
   .have HYE:R (ad=(wy (r.take z).2,(r.take z).1,m)):=Y (by rw[<-N.out];exact U4 _ _ _ _ _ rfl)
    have ay:=Y (λW J=>pX cb r z W A.ly.ok.1.1 J);have az:=Y (xL r z);clear N;go_wp2_with fail;refine vF (ay _ A.ly.rd) λw3 hu J=> ?_
    have C:=Y (A.turn hu J az);clear hu J A ay az b0 b4 a0 a1;generalize r.take z=y at*;obtain⟨r2,T⟩:=y;dsimp only at*;have aA:=Y (EX T);go_wp2_with fail;refine pG (aA _) λw5 hb=> ?_
    have U8:=Y (C.below hb);clear hb C aA;have⟨⟨y0,y1,y2⟩,f0,f1,f2⟩:=Az U8.out;go_wp2_with fail;rw[pO];have hF:=U8.put (H T) (mH M) (G U 0 0);exact a0f
   .obtain⟨E,rfl⟩:∃E:Nat,z=E:=⟨z.toNat,I⟩
    have HYE:R (ad=(wy ((r.comp E).1.take (r.comp E).2).2,((r.comp E).1.take (r.comp E).2).1,m)):=Y (by rw[<-N.out];exact U5 _ _ _ _ _ rfl);have Gz:=λW h=>Jc cb lb fb m r E W h I
    have htake:=λW J=>pX cb (r.comp E).1 (r.comp E).2 W (A.ly.ok.1.1.comp E) J
    have hk2:=xL (r.comp E).1 (r.comp E).2;clear N b0 b4 a0 a1;generalize r.comp E=y1 at*;obtain⟨r1,n1⟩:=y1;dsimp only at*;generalize r1.take n1=y at*;obtain⟨r2,T⟩:=y;dsimp only at*;have aa:=Y Gz;have aj:=Y htake;have aR:=Y hk2;clear Gz htake hk2;have a0:w2.cell? (Z (g+1) 0 U)=O (V X 3):=A.tb.cell 0;go_upto_region 12 with fail;refine a3E (g:=g) (cb:=cb) (lb:=lb) (fb:=fb) (r:=r) (r1:=r1) (r2:=r2) (l:=m) (k:=3) (m:=E) (n1:=n1) (T:=T) (ou:=ou) (nu:=n) (cu:=cu) (tl:=tl) (s:=s) (w0:=w) (ht2:=by rfl) (ht3:=by rfl) (GM:=by rfl) (hsz:=by rfl) (Gz:=aa.out) (htake:=aj.out) (hk2:=aR.out) (hI0:=λ_=>A.drew) ?_;intro vs W hF;simp only[cH]at hF;simp only[vG,iX,jg,jf];have bJ:=Y hF;clear hF A aa aj aR a0;go_wp2_with fail;have hF:=bJ.out;exact a0f
   .have aS:s.length=1:=I
    obtain⟨t1,rfl⟩:=List.length_eq_one_iff.1 aS;clear aS;obtain⟨E,rfl⟩:∃E:Nat,z=E:=⟨z.toNat,I⟩;have HYE:R (ad=(tZ (oN (nQ d) (jC (r.comp E).2 (t1,u)) (r.comp E).1 m).1,(oN (nQ d) (jC (r.comp E).2 (t1,u)) (r.comp E).1 m).2)):=Y (by rw[<-N.out];exact U6 _ _ _ _ _ rfl);have Gz:=λW h=>Jc cb lb fb m r E W h I
    have aa:=Y Gz;have aU:(r.comp E).2<=65536:=a3F r E I;clear N Gz;generalize r.comp E=y1 at*;obtain⟨r1,n1⟩:=y1;dsimp only at*;have ht1:t1.all nW=u/\t1.deep<=d:=by
     have au:=aM.out;have bK:=aN.out;simp only[mW.oI,ea]at au;simp only[mW.oH]at bK;exact⟨au,I⟩
    have bC:=Y aU;clear aU;go_wp2_with fail;refine vF (aa _ A.ly) λw3 hl hu=> ?_
    have C:=Y (A.Sk hl (x9 hu));clear hl hu A aa b0 b4 a0 a1;have aW:w3.cell? (Z g 0 U)=O (BL cb):=C.rb.cell 0;have e1:w3.cell? (Z g 1 U)=O (DL cb):=C.rb.cell 1;have e2:w3.cell? (Z g 2 U)=O (Ez cb):=C.rb.cell 2;have e3:w3.cell? (Z g 3 U)=O (CE cb):=C.rb.cell 3;have e4:w3.cell? (Z g 4 U)=O (BM fb):=C.rb.cell 4;have e5:w3.cell? (Z g 5 U)=O (mG (O (Z lb 0 U))):=C.rb.cell 5;have hsz:g+3<=w3.heap.size:=C.rs.lt;have au:=C.lt;have hlen:(jC n1 (t1,u)).length=n1:=List.length_replicate
    have CL:=Xq cb lb fb (g+1) 0 r1 m (jC n1 (t1,u)) (nQ d) w3 C.ly (by rw[hlen];exact bC) ⟨I,I,I⟩
     (λW r' aD hu hl i t ht=>by
      obtain⟨_,rfl⟩:=List.mem_replicate.1 (jq ht);have hb:=hu.blk C.tb I I;have hs:nK.nA W (Xo cb lb) (G ou n cu) [t1]:=Shape.nA.keep C.sub hu.size (λ_ _ h=>h.1) λc hc ah=>hu.block c hc ah.1.1 ah.1.2
      exact a3r (g+1) i ⟨4,E,tl⟩ t1 ou n cu [t1] (Xo cb lb) W hb hs rfl)
     (λt ht W r' aD aF aG hu hl hs=>by
      obtain⟨_,rfl⟩:=List.mem_replicate.1 ht;exact ai t1 cb lb fb r' aD W aF aG ht1.2 ht1.1 hl ⟨by have:=hu.size;omega,by have:=hu.size;omega,by have:=hu.size;omega⟩ hs)
     (λt r l h=>Jl d t r l h)
    rw[hlen]at CL;have CL:=Y CL;clear hlen au hsz ai ht1;generalize oN (nQ d) (jC n1 (t1,u)) r1 m=y at*;obtain⟨ys,r2,l2⟩:=y;unfold BL DL Ez CE BM at CL;unfold BL at aW;unfold DL at e1;unfold Ez at e2;unfold CE at e3;unfold BM at e4;go_wp2_with fail;refine CL.mono ?_;rintro e w4 ⟨ov,cv,rfl,hl,hs,hu⟩;have U8:=Y (C.Sk hl hu);have HS:R (∀c,w3.heap.size<=c->g+3<=c):=Y λc hc=>by have:=C.rs.lt;omega
    exact a0e
   .have HYE:R (ad=(tZ (oN (nQ d) (ry s tl) r m).1,(oN (nQ d) (ry s tl) r m).2)):=Y (by rw[<-N.out];exact U7 _ _ _ _ _ rfl)
    clear N b0 b4 a1;have aW:w2.cell? (Z g 0 U)=O (BL cb):=A.rb.cell 0;have e1:w2.cell? (Z g 1 U)=O (DL cb):=A.rb.cell 1;have e2:w2.cell? (Z g 2 U)=O (Ez cb):=A.rb.cell 2;have e3:w2.cell? (Z g 3 U)=O (CE cb):=A.rb.cell 3;have e4:w2.cell? (Z g 4 U)=O (BM fb):=A.rb.cell 4;have e5:w2.cell? (Z g 5 U)=O (mG (O (Z lb 0 U))):=A.rb.cell 5;have bO:w2.cell? (Z (g+1) 2 U)=O (G ou n cu):=A.tb.cell 2;have hsz:g+3<=w2.heap.size:=A.rs.lt;have au:=A.lt;have hlen:(ry s tl).length=n:=by simp[ry,bu.out]
    have aH:∀{k:Nat}{t':mW TL×Bool},(ry s tl)[k]? =O t'->s[k]? =O t'.1/\t'.2=As ((k:Int)<s.length - tl):=by
     intro k t' hk';exact UK
    have CL:=Xr cb lb fb (g+1) g r m (ry s tl) (nQ d) w2 A.ly (by rw[hlen];omega) ⟨I,I,I⟩
     (λW r' aD hu hl i t ht=>by
      have⟨bL,bM⟩:=aH ht;have hb:=hu.blk A.tb I I;have bD:=hu.blk A.rb I I;have hs:nK.nA W (Xo cb lb) (G ou n cu) s:=Shape.nA.keep A.sub hu.size (λ_ _ h=>h.1) λc hc ah=>hu.block c hc ah.1.1 ah.1.2
      rw[bM];exact a3u (g+1) g cb lb fb i r' ⟨5,z,tl⟩ t.1 ou n cu s (Xo cb lb) W hb bD hl.rd hl.ok.1.1 hs bL (by have:=bu.out;omega) (by dsimp only;omega))
     (λt ht W r' aD aF aG hu hl hs=>by
      have⟨i,hi⟩:=cw ht;have bE:=jq (aH hi).1;exact ai t.1 cb lb fb r' aD W aF aG (jk (yJ bE) aN) (wu aM bE) hl ⟨by have:=hu.size;omega,by have:=hu.size;omega,by have:=hu.size;omega⟩ hs)
     (λt r l h=>Jl d t r l h)
    rw[hlen]at CL;have CL:=Y CL;clear hlen au hsz ai aH;generalize oN (nQ d) (ry s tl) r m=y at*;obtain⟨ys,r2,l2⟩:=y;unfold BL DL Ez CE BM at CL;unfold BL at aW;unfold DL at e1;unfold Ez at e2;unfold CE at e3;unfold BM at e4;go_wp2_with fail;refine CL.mono ?_;rintro e w4 ⟨ov,cv,rfl,hl,hs,hu⟩;have U8:=Y (A.Sk hl hu);have HS:R (∀c,w2.heap.size<=c->g+3<=c):=Y λc hc=>by have:=A.rs.lt;omega
    exact a0e
structure LnI(g cb fb xb:Nat)(r:RS)(T:An)(li:Bool)(ov:Option j4)(n cv:Nat)(s:List (mW IL))(w0:K)(rc:Array iQ)(W:K):Prop where
 rd:wL W cb r
 fr:mY W fb #[mG (O (Z cb 0 U))] 193
 xk:mY W xb #[H T,mH li,G ov n cv] IT
 rs:mY W (g+1) rc IT
 sub:nC W (λc=>g+2<=c) (G ov n cv) s
 pV:iR g w0 W
 lt:g+1<cb/\g+1<fb/\g+1<xb
section
variable {g cb fb xb:Nat}{r:RS}{T:An}{li:Bool}{ov:Option j4}{n cv:Nat}{s:List (mW IL)}{w0 W W':K}{rc:Array iQ}
def LnI.drew(h:LnI g cb fb xb r T li ov n cv s w0 rc W):LnI g cb fb xb r T li ov n cv s w0 rc W.drew:=
 ⟨h.rd,h.fr,h.xk,h.rs,Shape.nA.below h.sub (nN W),h.pV.trans ((nN W).mono (by have:=h.rs.lt;omega)),h.lt⟩
def LnI.put(h:LnI g cb fb xb r T li ov n cv s w0 BD W)(a b c:iQ):LnI g cb fb xb r T li ov n cv s w0 #[a,b,c] (o8 W (g+1) a b c):=by
 have C:=h.lt;have A:∀d,d≠g+1->(o8 W (g+1) a b c).heap[d]? =W.heap[d]? :=λd hd=>by simp[o8,jr,kg,mf hd]
 have hs:(o8 W (g+1) a b c).heap.size=W.heap.size:=by simp[o8,jr]
 have o:∀{d:Nat}{cs:Array iQ}{t:jl},mY W d cs t->d≠g+1->mY (o8 W (g+1) a b c) d cs t:=λh hn=>by unfold mY at*;rw[A _ hn];exact h
 exact⟨o h.rd I,o h.fr I,o h.xk I,((h.rs.set 0 a).set 1 b).set 2 c,Shape.nA.keep h.sub (kP hs.symm) (λ_ _ h=>h) (λd _ hd=>A d (by have:g+2<=d:=hd;omega)),
  ((h.pV.setCell (p:=(Z (g+1) 0 U)) (jO g) _).setCell (p:=(Z (g+1) 1 U)) (jO g) _).setCell (p:=(Z (g+1) 2 U)) (jO g) _,h.lt⟩
end
noncomputable def D6:List kC:=cO (cL (cR (cR (cR (cR (cR (cR (cR (cB Tryz.f170)))))))))
section
variable (g cb fb xb:Nat)(r:RS)(T:An)(li:Bool)(ov:Option j4)(n cv:Nat)(s:List (mW IL))(w0:K)
def AA:Nat->iQ
 |0=> mI #[H T,mH li,G ov n cv]
 |1=> mG (O (Z cb 0 U))
 |2=> V X r.p
 |4=> V X r.p
 |5=> V X 0
 |_=>jw
structure a6C(D:Nat->Bool)(vs:Nat->iQ)(w:K):Prop where
 nP:LnI g cb fb xb r T li ov n cv s w0 (if(D 3)=u then#[H T,mH li,G ov n cv]else BD) w
 val:∀j,(u)=u->D j=u->vs j=AA cb r T li ov n cv j
variable {g cb fb xb r T li ov n cv s w0}
def a0h{id:Nat}(a3H:a0.tmps.getD 12 jw=mG (O (Z xb 0 U)))(Gy:a0.tmps.getD 9 jw=mG (O (Z fb 0 U)))(y8:a0.tmps.getD 6 jw=mG (O (Z (g+1) 0 U)))(hsz:a0.tmps.size=44)(hI0:∀vs:Nat->iQ,(λw=>LnI g cb fb xb r T li ov n cv s w0 (if M=u then#[H T,mH li,G ov n cv]else BD) w) ws.drew)(aa:∀(vs:Nat->iQ) (w:K),LnI g cb fb xb r T li ov n cv s w0 (if u=u then#[H T,mH li,G ov n cv]else BD) w->Q .normal {a0 with tmps:=vG a0.tmps [(41,mI #[H T,mH li,G ov n cv]),(42,mG (O (Z cb 0 U))),(43,V X r.p),(7,V X r.p),(8,V X 0)]} w):
  (jZ id D6.toArray u).wp iN Q a0 ws:=by
 refine nJ 6 44 (a6C g cb fb xb r T li ov n cv s w0) mZ hsz mZ (.inl rfl) mZ ?_ ?_ ?_;.exact qg
 .refine rR λA ah=> ?_
  clear hI0 aa hsz;replace a3H:=Y a3H;replace Gy:=Y Gy;replace y8:=Y y8;dsimp+instances only[D6,cO,cL,cR,cB,Tryz.f170];simp only[jm,jI,qU];refine⟨?_,?_,?_,?_,?_,?_,trivial⟩<;>(intro D vs a w aq hI hd E au C J;subst ah;dsimp+instances only[D6,cO,cL,cR,cB,Tryz.f170]);have av:=(C 12 mX).trans a3H.out;have hB:=hI.nP.xk;have⟨c0,c1,c2⟩:=hB.a3;clear hB;rotate_left;have ay:=(C 9 mX).trans Gy.out;have hB:=hI.nP.fr;have c0:=hB.c0;clear hB;rotate_left
  .have ae:=fe C hI.val E 42 1
   simp only[AA]at ae;have ai:=Wi cb r w hI.nP.rd;rw[Ax (by rfl)];go_simp;refine vE ai ?_;exact J (AA cb r T li ov n cv 2) _ _ rfl ⟨hI.nP,uj hI.val⟩
  .have az:=(C 6 mX).trans y8.out
   have af:=fe C hI.val E 41 0;simp only[AA]at af;have N:=hI.nP;rw[hd]at N;have hB:=N.rs;have z0:=hB.cell 0;have aj:=hB.cell 1;have ak:=hB.cell 2;have⟨f0,f1,f2⟩:=hB.f3;simp only[BD,kM,cU,ji,jb,jc]at z0 aj ak;clear hB;go_simp;rw[pO];refine J jw _ _ rfl ⟨?_,uj hI.val⟩;rw[nL];exact LnI.put N _ _ _
  have ax:=fe C hI.val E 43 2;rotate_left;rotate_left
  all_goals
   try simp only[AA]at*
   go_simp;exact J _ _ _ rfl ⟨hI.nP,uj hI.val⟩
 .intro D vs w ag hI
  have E:=hI.nP;rw[ag 3 mX]at E;have q:=aa vs w E;rw[oD hI.val ag];dsimp+instances only[D6,cO,cL,cR,cB,Tryz.f170];exact qf
end
def Sl{q:Nat}(h:iR B w0 w)(ar:oC b q w w')(hb:B<=b)(A:B<=q)(hB:B<=w.heap.size):iR B w0 w':=
 ⟨ar.os.trans h.os,ar.tape.trans h.tape,ar.output.trans h.output,jk h.size ar.size,λk hk=>(ar.block k I I I).trans (h.block k hk)⟩
def MV(aE:Except Nat (mW IL×Nat))(w:K)(e:kV)(w':K):Prop:=iR w.heap.size w w'/\match aE with
 | .error er=>e=mK (mJ #[mI #[H ⟨#[]⟩,mH M,G U 0 0],V X 0,V X (er:Nat)])
 | .ok y=>∃ov cv,e=mK (mJ #[mI #[H (txt y.1.lab),mH y.1.lab.list,G ov y.1.sub.length cv],V X (y.2:Nat),V X 0])/\nC w' (λc=>w.heap.size+2<=c) (G ov y.1.sub.length cv) y.1.sub
def a5f{r r':RS}(h:0<=r.f):∀n x m,0<=(r.take n).1.f/\(0<=x->0<=(r.fail x).f)/\0<=(r.comp m).1.f:=by
 intro n x m;refine⟨RS.vR r n h,λA=>RS.y9 r A h,?_⟩;unfold RS.comp;split
 .generalize qh (r.t.data.toList.drop r.p)=q
  dsimp only;split;.exact dt _
  .exact Int.natCast_nonneg _
 .exact h
def Jm{f:mW TL->RS->Nat->ZB}(A:∀t r l,0<=r.f->0<=(f t r l).2.1.f):∀(ts:List (mW TL×Bool))(r:RS)(l:Nat),0<=r.f->0<=(oN f ts r l).2.1.f
 |[],r,l,h=>h
 |t::ts,r,l,h=>by
  unfold oN;split;.exact Jm A ts _ _ (A _ _ _ h)
  .exact h
def yR:∀(d:Nat)(t:mW TL)(r:RS)(l:Nat),0<=r.f->0<=(nQ d t r l).2.1.f
 |0,_,r,l,h=>RS.y9 r mX h
 |d+1,.node a s,r,l,h=>by
  unfold nQ;split;.exact RS.y9 r mX h
  .split
   .exact RS.vR _ _ h
   .split
    .exact RS.vR _ _ h
    .split
     .exact RS.vR _ _ (a5f (r':=r) h 0 0 _).2.2
     .split
      .cases s with
       |nil=>exact RS.y9 r mX h
       |cons t ts=>exact Jm (yR d) _ _ _ (a5f (r':=r) h 0 0 _).2.2
      .exact Jm (yR d) _ _ _ h
def a0i(h:p:=by
 subst hW;have a1:=(iT w.heap.size w).alloc (iP _) (mM #[V X t.lab.kind,V X t.lab.size,G ou t.sub.length cu,V X t.lab.tail] sG);have a2:=a1.alloc ny (mM #[H ⟨#[]⟩,mH M,G U 0 0] IT);have k1:=mY.new w #[V X t.lab.kind,V X t.lab.size,G ou t.sub.length cu,V X t.lab.tail] sG;have k2:=mY.new (w.alloc (mM #[V X t.lab.kind,V X t.lab.size,G ou t.sub.length cu,V X t.lab.tail] sG)) #[H ⟨#[]⟩,mH M,G U 0 0] IT;rw[show(w.alloc (mM #[V X t.lab.kind,V X t.lab.size,G ou t.sub.length cu,V X t.lab.tail] sG)).heap.size=g+1 by simp[hg]]at k2;rw[hg]at k1;exact⟨k1.alloc _,k2,hg▸a2,by simp[hg]⟩):p:=h
def a0j(t:mW TL)(s:An)(items:Int)(w:K)(ou:Option j4)(cu:Nat)(az:nZ w (G ou t.sub.length cu) t.sub)(bE:qB w)(aA:BC w)(au:(mW.oI p0 t.sub&&pg t)=u)(hs:s.size<=100000)(hi:0<=items/\items<=1024):
  iW iN 170 #[mI #[V X t.lab.kind,V X t.lab.size,G ou t.sub.length cu,V X t.lab.tail],H s,V X items] w (MV (Kj t s items) w):=by
 have aB:pg t=u:=by simp only[je]at au;exact au.2
 have A:=aB;unfold pg at A;simp only[je,bb]at A;obtain⟨g,hg⟩:=o7 w;have aU:=bE.lt;have bF:R (∀W,iR g w W->_):=Y λW h=>K6 t W (G ou t.sub.length cu) (Shape.nA.below az (hg.symm▸h)) (bE.below (hg.symm▸h) aU)
 rw[au]at bF;have⟨left,av⟩:∃left:Nat,items=left:=⟨items.toNat,I⟩;have aD:(min items 1024).toNat=left:=I;have⟨ad,aR⟩:=nE (nQ 8 t (RS.of s) left);have aF:R (Kj t s items=if ad.2.1.f≠0 then .error ad.2.1.f.toNat else .ok (ad.1,ad.2.1.p)):=Y (by unfold Kj;rw[aD,aR]);have bN:R (0<=ad.2.1.f):=Y (aR▸yR 8 t (RS.of s) left (dt _));have aV:R (∀W cb lb fb,iR g w W->BN cb lb fb (RS.of s) left W->(cb<W.heap.size/\lb<W.heap.size/\fb<W.heap.size)->g<=cb->g<=lb->iW iN 211 #[mI #[BL cb,DL cb,Ez cb,CE cb,BM fb,mG (O (Z lb 0 U))],mI #[V X t.lab.kind,V X t.lab.size,G ou t.sub.length cu,V X t.lab.tail]] W (PZ cb lb fb ad W)):=Y λW cb lb fb hb hl hc aS ax=>by
  rw[<-aR];exact Xt 8 t cb lb fb (RS.of s) left W ou cu A.1.2 A.2 hl hc (Shape.nA.keep az (hg▸hb.size:w.heap.size<=W.heap.size) (λc bO _=>⟨I,I⟩) λc bO _=>hb.block c I)
 have aW:R (∀W,iR g w W->BC W):=Y λW hb=>xN aA (oC.of (b:=g) (q:=g) (hg.symm▸hb)) (by have:=aA.lt;omega) (by have:=aA.lt;omega)
 have bP:R (0<g):=Y (hg▸aA.lt);have aX:R (∀W,(w.alloc (mM #[V X t.lab.kind,V X t.lab.size,G ou t.sub.length cu,V X t.lab.tail] sG)).alloc (mM #[H ⟨#[]⟩,mH M,G U 0 0] IT)=W->mY W g #[V X t.lab.kind,V X t.lab.size,G ou t.sub.length cu,V X t.lab.tail] sG/\mY W (g+1) BD IT/\iR g w W/\W.heap.size=g+2):=Y λW hW=>by
  exact a0i
 have aY:R (∀W,iW iN 144 #[H s] W λe w'=>e=mK (mG (O (Z W.heap.size 0 U)))/\iR W.heap.size W w'/\W.heap.size<w'.heap.size/\wL w' W.heap.size (RS.of s)):=Y (zX s);have aZ:R (((RS.of s).Ok/\(RS.of s).t.size<=100000)/\left<=1024):=Y ⟨⟨RS.Ok.of I,hs⟩,I⟩;have dx:(if items<=1024 then items else 1024)=(left:Int):=by rw[Ax hi.2,av]
 have bX:min items 1024=(left:Int):=I;have⟨bG,bg⟩:=nE (Kj t s items);rw[bg]at aF|-;have⟨bY,bH⟩:=nE (MV bG w);have bQ:=Y bH;rw[bH];clear bH;subst av;clear az bE aA au hs hi aB A aU aD aR bg;generalize t.lab.kind=k at*;generalize t.lab.size=z at*;generalize t.lab.tail=tl at*;generalize t.sub.length=n at*;go_in;go_upto_region 1 with fail;have⟨aG,bq,bu,bz⟩:=aX.out _ rfl;generalize (w.alloc _).alloc _=w1 at*;have⟨⟨t0,t1,bR,t3⟩,_⟩:=nR aG;have N:=Y (iU aG (iU bq (iU bu bz)));clear aX aG bq bu bz;go_wp2_with fail;refine pG (bF _ N.2.2.1) λw2 ae=> ?_
 have C:R (mY w2 g #[V X k,V X z,G ou n cu,V X tl] sG/\mY w2 (g+1) BD IT/\iR g w w2/\g+2<=w2.heap.size):=Y ⟨a7 ae N.1 N.1.lt,a7 ae N.2.1 N.2.1.lt,N.2.2.1.trans (ae.mono (by have:=N.2.2.2;omega)),by have:=ae.size;have:=N.2.2.2;omega⟩;clear ae N t0 t1 bR t3 bF;go_wp2_with fail;refine YC (aY _) λw3 af aj aH=> ?_
 obtain⟨cb,ag⟩:=o7 w2;rw[ag]at af aj aH|-;have aI:R (mY w3 g #[V X k,V X z,G ou n cu,V X tl] sG/\mY w3 (g+1) BD IT/\iR g w w3/\g+2<=cb/\cb<w3.heap.size/\wL w3 cb (RS.of s)):=Y ⟨a7 (ag.symm▸af) C.1 C.1.lt,a7 (ag.symm▸af) C.2.1 C.2.1.lt,C.2.2.1.trans (af.mono (by have:=C.2.2.2;omega)),ag▸C.2.2.2,aj,aH⟩;clear af aj aH C ag;obtain⟨q,ah⟩:=o7 w3;have aJ:R (∀W,((w3.alloc (mM #[mG (O (Z cb 0 U))] 193)).alloc (mM #[V X (left:Nat)] 3)).alloc (mM #[.func (.func 145) #[mG (O (Z cb 0 U))] #[],.func (.func 191) #[mG (O (Z cb 0 U))] #[],.func (.func 146) #[mG (O (Z cb 0 U))] #[],.func (.func 189) #[mG (O (Z cb 0 U))] #[],.func (.func 209) #[] #[mG (O (Z w3.heap.size 0 U))],mG (O (Z (w3.heap.size+1) 0 U))] Gx)=W->BN cb (q+1) q (RS.of s) left W/\mY W (q+2) (FT cb (q+1) q) Gx/\mY W g #[V X k,V X z,G ou n cu,V X tl] sG/\mY W (g+1) BD IT/\iR g w W/\W.heap.size=q+3):=Y λW hW=>by
  subst hW;rw[ah];have⟨aS,ax,bI,bZ,dA,bS⟩:=aI.out;have a1:=(iT w3.heap.size w3).alloc (iP _) (mM #[mG (O (Z cb 0 U))] 193);have a2:=a1.alloc ny (mM #[V X (left:Nat)] 3);have a3:=a2.alloc nk (mM (FT cb (q+1) q) Gx);have k1:=mY.new w3 #[mG (O (Z cb 0 U))] 193;have k2:=mY.new (w3.alloc (mM #[mG (O (Z cb 0 U))] 193)) #[V X (left:Nat)] 3;have bT:=mY.new ((w3.alloc (mM #[mG (O (Z cb 0 U))] 193)).alloc (mM #[V X (left:Nat)] 3)) (FT cb (q+1) q) Gx;rw[show(w3.alloc (mM #[mG (O (Z cb 0 U))] 193)).heap.size=q+1 by simp[ah]]at k2;rw[show((w3.alloc (mM #[mG (O (Z cb 0 U))] 193)).alloc (mM #[V X (left:Nat)] 3)).heap.size=q+2 by simp[ah]]at bT;rw[ah]at k1;have dz:=bP.out;have aK:iR g w (((w3.alloc (mM #[mG (O (Z cb 0 U))] 193)).alloc (mM #[V X (left:Nat)] 3)).alloc (mM (FT cb (q+1) q) Gx)):=bI.trans (a3.mono I);exact⟨⟨a7 a3 bS (mY.lt bS),aZ.out,(k2.alloc _),(k1.alloc _).alloc _,aW _ aK,I⟩,bT,a7 a3 aS aS.lt,a7 a3 ax ax.lt,aK,by simp[ah]⟩
 rw[ah]at aJ;go_upto_region 6 with fail;have⟨aL,E,bA,aM,aN,bB⟩:=aJ.out _ rfl;generalize ((w3.alloc _).alloc _).alloc _=w4 at*;have bC:=aI.out;rw[ah]at bC;obtain⟨_,_,_,aO,aP,_⟩:=bC;have⟨⟨t0,t1,bR,t3⟩,_⟩:=nR bA;have cz:w4.cell? (Z (q+2) 0 U)=O (BL cb):=E.cell 0;have e1:w4.cell? (Z (q+2) 1 U)=O (DL cb):=E.cell 1;have e2:w4.cell? (Z (q+2) 2 U)=O (Ez cb):=E.cell 2;have e3:w4.cell? (Z (q+2) 3 U)=O (CE cb):=E.cell 3;have e4:w4.cell? (Z (q+2) 4 U)=O (BM q):=E.cell 4;have e5:w4.cell? (Z (q+2) 5 U)=O (mG (O (Z (q+1) 0 U))):=E.cell 5;have aa:=aV.out w4 cb (q+1) q aN aL I I I;unfold BL at cz aa;unfold DL at e1 aa;unfold Ez at e2 aa;unfold CE at e3 aa;unfold BM at e4 aa;have aa:=Y aa;have bU:=Y (iU aL (iU aM (iU aN bB)));have bV:R (g+2<=cb/\cb<q):=Y ⟨aO,aP⟩;clear aJ aV aW aZ aI aY aL E bA aM aN bB ah aO aP;obtain⟨x,r2,l2⟩:=ad;dsimp only at*;go_wp2_with fail;refine aa.mono ?_;rintro e w5 ⟨ov,cv,rfl,J,aQ,ai⟩;dsimp only at J aQ;have bD:R (∀W,w5.alloc (mM #[H (txt x.lab),mH x.lab.list,G ov x.sub.length cv] IT)=W->LnI g cb q w5.heap.size r2 (txt x.lab) x.lab.list ov x.sub.length cv x.sub w BD W):=Y λW hW=>by
  subst hW;have⟨aS,ax,bI,bZ⟩:=bU.out;have⟨dB,dD⟩:=bV.out;have a:=(iT w5.heap.size w5).alloc (iP _) (mM #[H (txt x.lab),mH x.lab.list,G ov x.sub.length cv] IT);have dE:=ai.size;refine⟨a7 a J.rd (mY.lt J.rd),a7 a J.fr J.fr.lt,mY.new w5 _ _,a7 a (ai.blk ax I I) (ai.blk ax I I).lt,Shape.nA.keep (Shape.nA.below aQ a) (iP _) (λc _ hc=>by have:w4.heap.size<=c:=hc;show g+2<=c;omega) λ_ _ _=>rfl,(Sl bI ai I I I).trans (a.mono I),I⟩
 clear J aQ ai bU bV aa;go_upto_region 7 with fail;have hL:=bD.out _ rfl;generalize w5.alloc _=cK at*;generalize w5.heap.size=xb at*;have ak:=Y hL;have dF:=hL.fr.c0;have bW:=Y (pU cb r2 cK hL.rd);clear hL bD;go_wp2_with fail;refine vE bW ?_;clear bW;by_cases ay:r2.f=0
 .have f0:(r2.f !=0)=M:=by simp[ay]
  have bJ:R (bG=.ok (x,r2.p)):=Y (by rw[aF.out,At (by simpa using ay)]);clear ay aF;go_upto_region 10 with fail;refine a0h (g:=g) (cb:=cb) (fb:=q) (xb:=xb) (r:=r2) (T:=txt x.lab) (li:=x.lab.list) (ov:=ov) (n:=x.sub.length) (cv:=cv) (s:=x.sub) (w0:=w) (a3H:=by rfl) (Gy:=by rfl) (y8:=by rfl) (hsz:=by rfl) (hI0:=λ_=>ak.drew) ?_;intro vs W hF;simp only[cH]at hF;simp only[vG,iX,jg,jf];have cZ:=Y hF;clear hF ak;go_wp2_with fail;have hF:=cZ.out;have⟨bK,bL,bM⟩:=hF.rs.a3;refine iY (v:=mJ #[mI #[H (txt x.lab),mH x.lab.list,G ov x.sub.length cv],V X (r2.p:Nat),V X 0]) (by simp[jv,Tryz.results170,go_sem,bK,bL,bM]) rfl ?_;rw[<-bQ.out,bJ.out];exact⟨hg.symm▸hF.pV,ov,cv,rfl,hg.symm▸hF.sub⟩
 .have f0:(r2.f !=0)=u:=by simp[ay]
  have bJ:R (bG=.error r2.f.toNat):=Y (by rw[aF.out,Ax ay]);clear ay aF;have df:=ak.rs.cell 0;have dh:=ak.rs.cell 1;have dw:=ak.rs.cell 2;have⟨z0,dG,dH⟩:=ak.rs.f3;simp only[BD,ji,jb,jc]at df dh dw;go_wp2_with fail;rw[pO];have hF:=ak.put (H ⟨#[]⟩) (mH M) (G U 0 0);have⟨bK,bL,bM⟩:=hF.rs.a3;refine iY (v:=mJ #[mI #[H ⟨#[]⟩,mH M,G U 0 0],V X 0,V X r2.f]) (by simp[jv,Tryz.results170,go_sem,bK,bL,bM]) rfl ?_;rw[<-bQ.out,bJ.out];have:((r2.f.toNat:Nat):Int)=r2.f:=cY bN.out;exact⟨hg.symm▸hF.pV,by show _=jS (mJ #[mI #[H ⟨#[]⟩,mH M,G U 0 0],V X 0,V X ((r2.f.toNat:Nat):Int)]);rw[this]⟩
def a8C(aE:Except Nat (mW IL×Nat))(n:Nat):Except Nat (mW IL):=match aE with
 | .error er=> .error er
 | .ok y=>if y.2<n then .error 3 else .ok y.1
def a3I(t:mW TL)(s:An)(items:Int)(w:K)(ou:Option j4)(cu:Nat)(aH:nZ w (G ou t.sub.length cu) t.sub)(aP:qB w)(aB:BC w)(aI:(mW.oI p0 t.sub&&pg t)=u)(hs:s.size<=100000)(hi:0<=items/\items<=1024):
  iW iN 119 #[mI #[V X t.lab.kind,V X t.lab.size,G ou t.sub.length cu,V X t.lab.tail],H s,V X items] w (BB (Gw t s items) w):=by
 obtain⟨g,hg⟩:=o7 w;have aJ:=aP.lt;have aQ:R (∀W,iR g w W->iW _ _ _ W (MV (Kj t s items) W)):=Y λW h=>a0j t s items W ou cu (Shape.nA.below aH (hg.symm▸h)) (aP.below (hg.symm▸h) aJ) (xN aB (oC.of (b:=g) (q:=g) (hg.symm▸h)) (by have:=aB.lt;omega) (by have:=aB.lt;omega)) aI hs hi
 have aK:R (∀W,(w.alloc (mM #[V X t.lab.kind,V X t.lab.size,G ou t.sub.length cu,V X t.lab.tail] sG)).alloc (mM #[H ⟨#[]⟩,mH M,G U 0 0] IT)=W->mY W g #[V X t.lab.kind,V X t.lab.size,G ou t.sub.length cu,V X t.lab.tail] sG/\mY W (g+1) BD IT/\iR g w W/\W.heap.size=g+2):=Y λW hW=>by
  exact a0i
 have⟨aE,aD⟩:=nE (Kj t s items);have ag:R (Gw t s items=a8C aE s.size):=Y (by rw[<-aD];rfl);have ah:R (∀er,aE=.error er->1<=er):=Y λer h=>by
  have bE:=yR 8 t (RS.of s) (min items 1024).toNat (dt _);rw[<-aD]at h;unfold Kj at h;split at h;.cases h;omega
  .cases h
 rw[aD]at aQ;have⟨ai,aL⟩:=nE (Gw t s items);rw[aL]at ag|-;have⟨bg,aR⟩:=nE (BB ai w);have aS:=Y aR;rw[aR];clear aH aP aB aI hi aJ aD aL aR;generalize t.lab.kind=k at*;generalize t.lab.size=z at*;generalize t.lab.tail=tl at*;generalize t.sub.length=n at*;go_in;go_upto_region 1 with fail;have⟨aM,aN,aj,aO⟩:=aK.out _ rfl;generalize (w.alloc _).alloc _=w1 at*;have⟨⟨t0,t1,bF,t3⟩,_⟩:=nR aM;have aa:=Y (iU aN (iU aj aO));have ak:=Y (aQ _ aj);clear aK aM aN aj aO aQ;go_wp2_with fail;refine ak.mono ?_;intro e w2 A;unfold MV at A;have J:R (∀(bG:kV)(T:An)(li:Bool)(sv:iQ),iR g w w2/\mY w2 (g+1) BD IT):=Y λ_ _ _ _=>⟨aa.2.1.trans (A.1.mono (by have:=aa.2.2;omega)),a7 A.1 aa.1 aa.1.lt⟩
 have bq:g+2<=w2.heap.size:=by have:=A.1.size;have:=aa.2.2;omega
 cases aE with
 |error er=>
  obtain⟨hb,rfl⟩:=A;have aZ:=ah.out er rfl;have bu:((er:Int) !=0)=u:=nk;have ae:R (ai=.error er):=ag;have au:R (∀W,w2.alloc (mM #[H ⟨#[]⟩,mH M,G U 0 0] IT)=W->mY W (g+1) BD IT/\iR g w W):=Y λW hW=>by
   subst hW;have al:=(iT w2.heap.size w2).alloc (iP _) (mM #[H ⟨#[]⟩,mH M,G U 0 0] IT);have⟨aU,av⟩:=J.out (mK (V X 0)) ⟨#[]⟩ M (V X 0);exact⟨a7 al av av.lt,aU.trans (al.mono I)⟩
  clear hb aa ak J aZ ah ag;go_upto_region 2 with fail;have⟨hB,E⟩:=au.out _ rfl;generalize w2.alloc _=w3 at*;have aV:=hB.cell 0;have aW:=hB.cell 1;have aX:=hB.cell 2;have⟨z0,bz,bA⟩:=hB.f3;simp only[BD,ji,jb,jc]at aV aW aX;have aF:=Y hB;have N:=Y E;clear hB E au;go_wp2_with fail;rw[pO];have⟨hB,hb⟩:=zq (a:=H ⟨#[]⟩) (b:=mH M) (c:=G U 0 0) ⟨_,_,_,aF.out⟩ (g:=g+1) (w:=w3) (W:=w3) (iT _ _);have⟨ax,ay,az⟩:=hB.a3;refine iY (v:=mJ #[mI #[H ⟨#[]⟩,mH M,G U 0 0],V X (er:Nat)]) (by simp[jv,Tryz.results119,go_sem,ax,ay,az]) rfl ?_;rw[<-aS.out,ae.out];exact⟨rfl,hg.symm▸N.trans (hb.mono (jO g))⟩
 |ok y=>
  obtain⟨x,m⟩:=y;obtain⟨hb,ov,cv,rfl,C⟩:=A;dsimp only at C;have ae:R (ai=if m<s.size then .error 3 else .ok x):=ag;have au:R (∀W,w2.alloc (mM #[H (txt x.lab),mH x.lab.list,G ov x.sub.length cv] IT)=W->mY W (g+1) BD IT/\iR g w W/\mY W w2.heap.size #[H (txt x.lab),mH x.lab.list,G ov x.sub.length cv] IT/\nC W (λc=>g+2<=c) (G ov x.sub.length cv) x.sub):=Y λW hW=>by
   subst hW;have al:=(iT w2.heap.size w2).alloc (iP _) (mM #[H (txt x.lab),mH x.lab.list,G ov x.sub.length cv] IT);have⟨aU,av⟩:=J.out (mK (V X 0)) ⟨#[]⟩ M (V X 0);exact⟨a7 al av av.lt,aU.trans (al.mono I),mY.new w2 _ _,Shape.nA.keep (Shape.nA.below C al) (iP _) (λc _ hc=>by have:w1.heap.size+2<=c:=hc;have:=aa.2.2;show g+2<=c;omega) λ_ _ _=>rfl⟩
  clear hb C ak J ah ag;go_upto_region 2 with fail;have⟨hB,E,aG,C⟩:=au.out _ rfl;generalize w2.alloc _=w3 at*;generalize w2.heap.size=xb at*;have aV:=hB.cell 0;have aW:=hB.cell 1;have aX:=hB.cell 2;have⟨z0,bz,bA⟩:=hB.f3;have bB:=aG.cell 0;have bC:=aG.cell 1;have bD:=aG.cell 2;simp only[BD,ji,jb,jc]at aV aW aX bB bC bD;have aF:=Y hB;have N:=Y E;have aY:=Y C;clear hB E au aG C aa;by_cases af:m<s.size
  .have t0:As (m<s.size)=u:=by simp[af]
   have aA:R (ai=.error 3):=Y (by rw[ae.out,Ax af]);clear ae af;go_wp2_with fail;rw[pO];have⟨hB,hb⟩:=zq (a:=H ⟨#[]⟩) (b:=mH M) (c:=G U 0 0) ⟨_,_,_,aF.out⟩ (g:=g+1) (w:=w3) (W:=w3) (iT _ _);have⟨ax,ay,az⟩:=hB.a3;refine iY (v:=mJ #[mI #[H ⟨#[]⟩,mH M,G U 0 0],V X 3]) (by simp[jv,Tryz.results119,go_sem,ax,ay,az]) rfl ?_;rw[<-aS.out,aA.out];exact⟨rfl,hg.symm▸N.trans (hb.mono (jO g))⟩
  .have t0:As (m<s.size)=M:=by simp[af]
   have aA:R (ai=.ok x):=Y (by rw[ae.out,At af]);clear ae af;go_wp2_with fail;rw[pO];have⟨hB,hb⟩:=zq (a:=H (txt x.lab)) (b:=mH x.lab.list) (c:=G ov x.sub.length cv) ⟨_,_,_,aF.out⟩ (g:=g+1) (w:=w3) (W:=w3) (iT _ _);have⟨ax,ay,az⟩:=hB.a3;refine iY (v:=mJ #[mI #[H (txt x.lab),mH x.lab.list,G ov x.sub.length cv],V X 0]) (by simp[jv,Tryz.results119,go_sem,ax,ay,az]) rfl ?_;rw[<-aS.out,aA.out];refine⟨_,rfl,Shape.nA.keep aY (by simp[o8,jr]) (λc _ hc=>by have:g+2<=c:=hc;show w.heap.size<=c;omega) λc _ hc=> ?_,hg.symm▸N.trans (hb.mono (jO g))⟩;have:g+2<=c:=hc;simp[o8,jr,kg,show g+1≠c by omega,show¬g+1=c by omega]
def U9(h:p:=by
 have e1:((x.e:Int)==(p2:Int))=u:=EA;have⟨ML,hML⟩:=nE x.L.length;have⟨ov,cv,hv,b1z,b0e⟩:=a3B Jn hML;rw[hv]at r0;have HSL:=Y (MQ Jn.BP);have HE:=Y he;have HV:=Y hv;have HNN:=Y hN;have HML:=Y hML;clear he hv hN hML b0e;cases xs with
 |nil=>
  obtain rfl:N=0:=HNN.symm;have CA:=Y (Km Jn HE HV HML);go_upto_region 26 with fail;generalize wr.setCell (Z (g+1) 0 U) (G (O (Z go 0 U)) 0 cr)=w4 at*;clear Jn r0 r1 o0 zo;go_wp2_with fail;refine pG CA λw5 hn5=> ?_
  have HN5:=Y hn5;clear hn5 CA;go_wp2;go_roundw;case rel=>exact⟨_,_,HN5⟩
  case measure=>(rw[MQ HN5.BP,HSL.out];simp)
 |cons x2 xs=>
  obtain⟨N2,rfl⟩:∃N2,N=N2+1:=⟨xs.length,HNN.symm⟩;have CA:=Y (PV Jn HE HV HML HNN I a0l);go_upto_region 26 with fail;generalize wr.setCell (Z (g+1) 0 U) (G (O (Z go 0 U)) (N2+1) cr)=w4 at*;clear Jn r0 r1 o0 zo;go_wp2_with fail;refine pG CA λw5 hn5=> ?_;obtain⟨v5,hn5⟩:=hn5
  have HN5:=Y hn5;clear hn5 CA;go_wp2;go_roundw;case rel=>exact⟨_,_,HN5⟩
  case measure=>(rw[MQ HN5.BP,HSL.out];simp)):p:=h
def a0m(h:p:=by
 have e1:((x.e:Int)==(p2:Int))=M:=qJ;have HE:R (Opn p2 (x::xs)):=Y (U0 Jn he);clear he;go_wp2;go_roundw;case rel=>exact .inr ⟨p2,c+1,_,x::xs,rfl,by go_num,rfl,Y ⟨Jn.out,HE.out⟩⟩
 case measure=>(have:=HMS.out;simp[jF,ZX];omega)):p:=h
def a0n(h:p:=by
 have p0:=Jn.BP.ho.c0;have⟨oa,cr,hv3⟩:∃oa cr,vr3=G oa 0 cr:=Jn.BP.row.slice;rw[hv3]at p0;go_wp2;go_roundw;case rel=>exact .inr ⟨p2,c+1,vr3,[],rfl,by go_num,rfl,Y ⟨Jn.out,trivial⟩⟩
 case measure=>(have:=HMS.out;simp[jF,ZX];omega)):p:=h
def a0o(h:p:=by
 have e1:((x.e:Int)==(p2:Int))=M:=qJ;have HE:R (Opn p2 (x::xs)):=Y (U0 Jn he);clear he;go_wp2;go_roundw;case rel=>exact .inr ⟨p2,1,_,x::xs,rfl,rfl,rfl,Y ⟨Jn.out,HE.out⟩⟩
 case measure=>(have:=HMS.out;simp[jF,ZX];omega)):p:=h
def a0p(h:p:=by
 have p0:=Jn.BP.ho.c0;have⟨oa,cr,hv3⟩:∃oa cr,vr3=G oa 0 cr:=Jn.BP.row.slice;rw[hv3]at p0;go_wp2;go_roundw;case rel=>exact .inr ⟨p2,1,vr3,[],rfl,rfl,rfl,Y ⟨Jn.out,trivial⟩⟩
 case measure=>(have:=HMS.out;simp[jF,ZX];omega)):p:=h
def a0q(s:An)(aF items:Int)(w:K)(hs:s.size<=100000)(dG:(lN X aF).wf=u)(dH:(lN X items).wf=u):
  iW iN 204 #[H s,V X aF,V X items] w (PR (uq (min aF 16).toNat s.data.toList (min items 1024).toNat) w):=by
 have⟨D,cZ⟩:=nE (min aF 16);have⟨am,hI⟩:=nE (min items 1024);have bF:∀n:Nat,As (D<=(n:Int))=As (D.toNat<=n):=λn=>by rw[bx];omega
 have bG:∀n:Nat,As (am<=(n:Int))=As (am.toNat<=n):=λn=>by rw[bx];omega
 have bL:D.toNat<=16:=I;have a0l:am.toNat<=1024:=I;rw[cZ,hI];have aU:=Y bF;have aL:=Y bG;have⟨aq,bS⟩:=nE D.toNat;have⟨aw,bT⟩:=nE am.toNat;rw[bS]at aU bL|-;rw[bT]at aL a0l|-;have⟨l,hl⟩:=nE s.data.toList;have bH:l.length=s.size:=by rw[<-hl];simp
 obtain⟨g,hg⟩:=o7 w;have⟨aE,ay⟩:=nE (uq aq l aw);have bM:=Y ay;rw[hl,ay];have⟨dM,aY⟩:=nE (PR aE w);have aV:=Y aY;rw[aY];have⟨wa,aZ⟩:∃wa,w.alloc (mM #[H ⟨#[]⟩,mH M,G U 0 0] IT)=wa:=⟨_,rfl⟩;have⟨bN,bg⟩:=nE (wa.alloc (mM #[G U 0 0] OT));have bq:R (∀W,bN.alloc (mM #[H ⟨#[]⟩,mH M,G U 0 0] IT)=W->a8z l g w wa W):=Y λW h=>a8A hg aZ bg h
 have bC:=Y hl;have bI:=Y bH;have bU:wa.heap.size=g+1:=by rw[<-aZ];simp;omega
 have bV:bN.heap.size=g+2:=by rw[<-bg];simp;omega
 clear ay bS bT bF bG aY hl bH;go_in;go_upto_region 3 with fail;generalize bN.alloc (mM #[H ⟨#[]⟩,mH M,G U 0 0] IT)=w1 at*;have C:=Y (bq _ rfl);clear bq aZ bg bU bV;go_upto_region 7 with fail
 go_loopw [12,13,14] (λaB cv bD wr=>(aB=V X 0/\cv=V X 0/\bD=mH u/\wr=w1)\/(∃(p c:Nat) (vr:iQ) (st:List Fr),aB=V X (p:Nat)/\cv=V X (c:Nat)/\bD=mH M/\R (wI l aq aw aE (g+1) (g+1) (g+2) wa wr p c vr st/\Opn p st)))
  (λaB _ bD _=>s.size -(jF aB).toNat+ZX bD)
 case atStart=>exact .inl ⟨rfl,rfl,rfl,rfl⟩
 case round=>
  rcases hrel with⟨rfl,rfl,rfl,rfl⟩|⟨p,c,vr,st,rfl,rfl,rfl,aD⟩
  .have p0:=C.o0
   have⟨an,aN⟩:=nE (CB l (As (aq<=0)) (As (aw<=0)));have ah:R (∀x:qX wr,iW iN 242 #[H s,mH (As (D<=0)),mH (As (am<=0))] x.at_ λe w'=>e=mK (BO an)/\iR x.at_.heap.size x.at_ w'):=Y λx=>by
    have h0:=PN s (As (D<=((0:Nat):Int))) (As (am<=((0:Nat):Int))) x.at_ hs;rw[aU.out,aL.out,bC.out,aN]at h0;have e1:=aU.out 0;have e2:=aL.out 0;simp only[Int.natCast_zero]at e1 e2;rw[e1,e2];exact h0.mono λe w' bu=>⟨bu.1,bu.2▸iT _ _⟩
   have aH:=Y aN;have ak:R (∀x:qX wr,rU x.at_ (g+1) (g+1) (g+2) (G U 0 0) []/\mY x.at_ (g+2) qC IT/\iR (g+1) wa x.at_):=Y λx=>⟨C.BP.fut x.is,a7 x.is C.whole C.BP.lt,C.bw.trans (x.is.mono (by have:=C.BP.lt;omega))⟩
   have ae:∀x:qX wr,x.at_.cell? (Z (g+1) 0 U)=O (G U 0 0):=λx=>(ak x).1.ho.cell 0
   clear aN;go_upto_region 12 with fail;cases an with
   |error er=>
    have ay:R (aE=.error er):=Y (by rw[<-bM.out];exact Xn aH);have he:=PS aH.out;have df:((er:Int) !=0)=u:=nk;simp only[BO]at ah;have⟨bW,e1⟩:=nE (((er:Int)==2));refine nG mZ mZ ?_;repeat(go_big_quiet_step (exact bp (ah _)))
    refine jT ?_;intro x;have⟨az,aI,av⟩:=ak.out x;have bE:=ae x;have⟨⟨c0,c1,c2⟩,⟨z0,bO,bP⟩,E⟩:=UZ C.res av;have aJ:=Y (FW (a:=H ⟨#[]⟩) (b:=mH M) (c:=G U 0 0) C.ba C.res.lt av E);clear az aI av E he ae;cases bW
    all_goals
     go_wp2_with fail;rw[rM];have⟨aO,aP,aQ⟩:=aJ.1.a3;refine iY (v:=mJ #[mI qC,V X 0,V X (er:Nat)]) (by simp[jv,Tryz.results204,go_sem,aO,aP,aQ,qC]) rfl ?_;rw[<-aV.out,ay.out];exact⟨rfl,hg.symm▸aJ.2⟩
   |ok q=>
    obtain⟨li,z,n⟩:=q;have⟨_,_,_,_,bz,aR⟩:=Cw aH.out;simp only[bI.out]at bz aR;cases li with
    |true=>
     simp only[BO]at ah;refine nG mZ mZ ?_;repeat(go_big_quiet_step (exact bp (ah _)))
     refine jT ?_;intro x;have⟨az,aI,av⟩:=ak.out x;have bE:=ae x;have aA:=Y az;have bX:=Y aI;have bY:=Y av;have bZ:g+1<=x.at_.heap.size:=by have:=az.lt;omega
     clear az aI av ah ak ae p0;go_upto_if 75 with fail
     go_cut [12] (λaB aS=>∃(p2:Nat) (J:iQ) (aa:List Fr),aB=V X (p2:Nat)/\p2<=s.size/\R (wI l aq aw aE (g+1) (g+1) (g+2) wa aS p2 1 J aa));case first=>
      go_wp2_with (at_builtin;refine qx ZW Bh rfl _ _ rfl (B:=g+1) (v:=G U 0 0) (L:=[]) (y:=⟨G U 0 0,[],z+n⟩) rfl (pz.nil _ _ _) rfl (mY.new x.at_ #[G U 0 0,V X ((z:Int)+(n:Int))] RT) (by simp[rf2]) (by simp[rf2,Value.oneCell']) ny nk ?_;intro dh cap w2 ax af aM hlt;obtain⟨dw,dx⟩:=PU aA ((iT _ x.at_).alloc (iP _) _) af;have bA:=Y (iU ax (iU af aM));clear ax af aM hlt);go_meet;have⟨dz,dA,dB⟩:=PO (f:=⟨G U 0 0,[],z+n⟩) aA ((iT _ x.at_).alloc (iP _) _) ⟨rfl,rfl⟩ bA.1 bA.2.1 bA.2.2;have bB:=wI.Cv aH bY dz (by unfold mY;rw[dB _ aA.lt I (by simp[jK])];exact bX) dA;rw[bM.out]at bB;exact⟨z,_,_,rfl,I,Y bB⟩
     case rest=>
      obtain⟨p2,J,aa,rfl,ai,aj⟩:=hcut;have HMS:=Y ai;go_wp2;go_loopw [20] (λ_ au=>∃(vr:iQ) (st:List Fr),R (wI l aq aw aE (g+1) (g+1) (g+2) wa au p2 (1) vr st)) (λ_ au=>E8 au (g+1));case atStart=>exact⟨J,aa,aj⟩
      case round=>
       obtain⟨vr3,aK,Jn⟩:=hrel;clear aj;cases aK with
       |nil=>
        exact a0p
       |cons x xs=>
        have⟨N,hN⟩:=nE xs.length;have⟨go,cr,hv3,r0,r1,o0,zo,aW,ag⟩:=yP Jn hN;subst hv3;have aG:N+1<=16:=I;clear ag;by_cases he:x.e=p2;.exact U9
        .exact a0o
    |false=>
     simp only[BO]at ah;refine nG mZ mZ ?_;repeat(go_big_quiet_step (exact bp (ah _)))
     refine jT ?_;intro x;have⟨az,aI,av⟩:=ak.out x;have bE:=ae x;have CA:=Y (MR bC bM aH az aI av);clear az aI av ah ak ae p0;go_upto_if 75 with fail
     go_cut [12] (λaB aS=>∃(p2:Nat) (J:iQ) (aa:List Fr),aB=V X (p2:Nat)/\p2<=s.size/\R (wI l aq aw aE (g+1) (g+1) (g+2) wa aS p2 1 J aa));case first=>
      go_wp2_with fail;refine pG CA λw5 hn5=> ?_
      have HN5:=Y hn5;clear hn5 CA;go_wp2_with fail;go_meet;exact⟨z+n,_,_,by go_num,I,HN5⟩
     case rest=>
      obtain⟨p2,J,aa,rfl,ai,aj⟩:=hcut;have HMS:=Y ai;go_wp2;go_loopw [20] (λ_ au=>∃(vr:iQ) (st:List Fr),R (wI l aq aw aE (g+1) (g+1) (g+2) wa au p2 (1) vr st)) (λ_ au=>E8 au (g+1));case atStart=>exact⟨J,aa,aj⟩
      case round=>
       obtain⟨vr3,aK,Jn⟩:=hrel;clear aj;cases aK with
       |nil=>
        exact a0p
       |cons x xs=>
        have⟨N,hN⟩:=nE xs.length;have⟨go,cr,hv3,r0,r1,o0,zo,aW,ag⟩:=yP Jn hN;subst hv3;have aG:N+1<=16:=I;clear ag;by_cases he:x.e=p2;.exact U9
        .exact a0o
  .cases st with
   |nil=>
    have p0:=aD.1.BP.ho.c0;have⟨oa,cr,hv3⟩:∃oa cr,vr=G oa 0 cr:=aD.1.BP.row.slice;rw[hv3]at p0;have⟨y,v,dN,ay,hb,hv,bQ⟩:=aD.1.res;obtain⟨ov,cv,rfl,_⟩:=b7 hv;have⟨⟨c0,c1,c2⟩,⟨z0,bO,bP⟩,E⟩:=UZ C.res aD.1.below;have aJ:=Y (FW (a:=H (txt y.lab)) (b:=mH y.lab.list) (c:=G ov y.sub.length cv) C.ba C.res.lt aD.1.below E);have dD:R (nC (wR wr g 0 (H (txt y.lab)) (mH y.lab.list) (G ov y.sub.length cv)) (λc=>w.heap.size<=c) (G ov y.sub.length cv) y.sub):=Y (Shape.nA.keep hv (by rw[vM];exact iP _) (λc _ hc=>by
      have dE:=bQ c hc;show w.heap.size<=c;have:¬c<g+1:=λh=>dE (.inl h)
      omega) λc _ hc=>tQ c λe=>bQ c hc (.inl I))
    have⟨dO,dP,dQ⟩:=hb.a3;have cz:=Y ay;clear hb hv bQ ay E;go_wp2_with fail;rw[rM];have⟨aO,aP,aQ⟩:=aJ.1.a3;refine iY (v:=mJ #[mI #[H (txt y.lab),mH y.lab.list,G ov y.sub.length cv],V X (p:Nat),V X 0]) (by simp[jv,Tryz.results204,go_sem,aO,aP,aQ]) rfl ?_;rw[<-aV.out,cz.out];exact⟨_,rfl,dD.out,hg.symm▸aJ.2⟩
   |cons x xs=>
    have⟨N,hN⟩:=nE xs.length;have⟨go,cr,hv3,r0,r1,o0,zo,aW,ag⟩:=yP aD.1 hN;subst hv3;have aG:N+1<=16:=I;have aX:p<x.e:=aD.2;have dI:x.e<=s.size:=by have:=Ends.le aD.1.ends.2;rw[bI.out]at this;exact this
    have dJ:c<=1024:=by have:=aD.1.hc;omega
    have⟨an,aN⟩:=nE (CB (zT l p x.e) (As (aq<=(x::xs).length)) (As (aw<=c)));have ah:R (∀A:qX wr,iW iN 242 #[H (s.extract p x.e),mH (As (D<=(N:Int)+1)),mH (As (am<=(c:Int)))] A.at_ λe w'=>e=mK (BO an)/\iR A.at_.heap.size A.at_ w'):=Y λA=>by
     have h0:=PN (s.extract p x.e) (As (D<=((N+1:Nat):Int))) (As (am<=(c:Int))) A.at_ (by simp[iV];omega);have e1:=aU.out (N+1);rw[e1,aL.out,MP bC.out,show N+1=(x::xs).length by simp[hN],aN]at h0;rw[show((N:Int)+1)=((N+1:Nat):Int)by omega,e1,aL.out,show N+1=(x::xs).length by simp[hN]];exact h0.mono λe w' bu=>⟨bu.1,bu.2▸iT _ _⟩
    have aH:=Y aN;have ak:R (∀A:qX wr,wI l aq aw aE (g+1) (g+1) (g+2) wa A.at_ p c (G (O (Z go 0 U)) (N+1) cr) (x::xs)):=Y λA=>aD.1.fut A.is
    have ae:∀A:qX wr,A.at_.cell? (Z (g+1) 0 U)=O (G (O (Z go 0 U)) (N+1) cr):=λA=>(ak A).BP.ho.cell 0
    have HNN:=Y hN;have dF:=Y aX;clear aN hN r0 zo ag;go_upto_region 12 with fail;cases an with
    |error er=>
     have ay:=Y (aD.1.err aX aH);have he:=PS aH.out;simp only[BO]at ah;by_cases e2:er=2
     .have e1:((er:Int)==2)=u:=by simp[e2]
      rw[Ax e2]at ay;clear e2;refine nG mZ mZ ?_;repeat(go_big_quiet_step (exact bp (ah _)))
      refine jT ?_;intro A;have⟨⟨c0,c1,c2⟩,⟨z0,bO,bP⟩,E⟩:=UZ C.res (ak A).below;have aJ:=Y (FW (a:=H ⟨#[]⟩) (b:=mH M) (c:=G U 0 0) C.ba C.res.lt (ak A).below E);clear E he ae;go_wp2_with fail;rw[rM];have⟨aO,aP,aQ⟩:=aJ.1.a3;refine iY (v:=mJ #[mI qC,V X 0,V X 3]) (by simp[jv,Tryz.results204,go_sem,aO,aP,aQ,qC]) rfl ?_;rw[<-aV.out,ay.out];exact⟨rfl,hg.symm▸aJ.2⟩
     .have e1:((er:Int)==2)=M:=qJ
      have df:((er:Int) !=0)=u:=nk;rw[At e2]at ay;clear e2;refine nG mZ mZ ?_;repeat(go_big_quiet_step (exact bp (ah _)))
      refine jT ?_;intro A;have⟨⟨c0,c1,c2⟩,⟨z0,bO,bP⟩,E⟩:=UZ C.res (ak A).below;have aJ:=Y (FW (a:=H ⟨#[]⟩) (b:=mH M) (c:=G U 0 0) C.ba C.res.lt (ak A).below E);clear E he ae;go_wp2_with fail;rw[rM];have⟨aO,aP,aQ⟩:=aJ.1.a3;refine iY (v:=mJ #[mI qC,V X 0,V X (er:Nat)]) (by simp[jv,Tryz.results204,go_sem,aO,aP,aQ,qC]) rfl ?_;rw[<-aV.out,ay.out];exact⟨rfl,hg.symm▸aJ.2⟩
    |ok q=>
     obtain⟨li,z,n⟩:=q;have⟨_,_,bJ,bz,aR,_⟩:=aD.1.head aX aH.out;have cK:=Y bJ;clear bJ;simp only at bz aR;cases li with
     |true=>
      have dK:=PT cK.out;simp only[BO]at ah;refine nG mZ mZ ?_;repeat(go_big_quiet_step (exact bp (ah _)))
      refine jT ?_;intro A;have bE:=ae A;have aA:=Y (ak A);have bZ:g+2<=A.at_.heap.size:=by have:=aA.BP.lt;omega
      clear ah ak ae o0 r1;go_upto_if 75 with fail
      go_cut [12] (λaB aS=>∃(p2:Nat) (J:iQ) (aa:List Fr),aB=V X (p2:Nat)/\(p<p2/\p2<=s.size)/\R (wI l aq aw aE (g+1) (g+1) (g+2) wa aS p2 (c+1) J aa));case first=>
       have bK:R ((x::xs).reverse.length=N+1):=Y (by simp[HNN.out]);go_wp2_with (at_builtin;go_loud (refine qx ZW Bh rfl _ _ rfl (B:=g+1) (v:=G (O (Z go 0 U)) (N+1) cr) (L:=(x::xs).reverse) (y:=⟨G U 0 0,[],p+z+n⟩) rfl (aA.BP.row.below ((iT _ A.at_).alloc (iP _) _)) rfl (mY.new A.at_ #[G U 0 0,V X ((p:Int)+(z:Int)+(n:Int))] RT) (by simp[rf2]) (by simp[rf2,Value.oneCell']) (by rw[bK.out];omega) nk ?_);intro dh cap w2 ax af aM hlt;obtain⟨dw,dx⟩:=PU aA.BP ((iT _ A.at_).alloc (iP _) _) af;have bA:=Y (a6u aA dF HNN aH ((iT _ A.at_).alloc (iP _) _) rfl ax af aM);rw[bK.out];clear ax af aM hlt);go_meet;exact⟨p+z,_,_,by go_num,⟨I,I⟩,bA⟩
      case rest=>
       obtain⟨p2,J,aa,rfl,ai,aj⟩:=hcut;have HMS:=Y ai;have bR:=ai.2;clear ai;go_wp2;go_loopw [20] (λ_ au=>∃(vr:iQ) (st:List Fr),R (wI l aq aw aE (g+1) (g+1) (g+2) wa au p2 (c+1) vr st)) (λ_ au=>E8 au (g+1));case atStart=>exact⟨J,aa,aj⟩
       case round=>
        obtain⟨vr3,aK,Jn⟩:=hrel;clear aj;cases aK with
        |nil=>
         exact a0n
        |cons x xs=>
         have⟨N,hN⟩:=nE xs.length;have⟨go,cr,hv3,r0,r1,o0,zo,aW,ag⟩:=yP Jn hN;subst hv3;have aG:N+1<=16:=I;clear ag;by_cases he:x.e=p2;.exact U9
         .exact a0m
     |false=>
      simp only[BO]at ah;refine nG mZ mZ ?_;repeat(go_big_quiet_step (exact bp (ah _)))
      refine jT ?_;intro A;have bE:=ae A;have CA:=Y (a6t bC hs (ak A) aX I I aH);clear ah ak ae o0 r1;go_upto_if 75 with fail
      go_cut [12] (λaB aS=>∃(p2:Nat) (J:iQ) (aa:List Fr),aB=V X (p2:Nat)/\(p<p2/\p2<=s.size)/\R (wI l aq aw aE (g+1) (g+1) (g+2) wa aS p2 (c+1) J aa));case first=>
       go_wp2_with fail;refine pG CA λw5 hn5=> ?_;obtain⟨dR,dL,hn5⟩:=hn5
       have HN5:=Y hn5;clear hn5 CA;go_wp2_with fail;go_meet;exact⟨p+z+n,_,_,by go_num,⟨I,I⟩,HN5⟩
      case rest=>
       obtain⟨p2,J,aa,rfl,ai,aj⟩:=hcut;have HMS:=Y ai;have bR:=ai.2;clear ai;go_wp2;go_loopw [20] (λ_ au=>∃(vr:iQ) (st:List Fr),R (wI l aq aw aE (g+1) (g+1) (g+2) wa au p2 (c+1) vr st)) (λ_ au=>E8 au (g+1));case atStart=>exact⟨J,aa,aj⟩
       case round=>
        obtain⟨vr3,aK,Jn⟩:=hrel;clear aj;cases aK with
        |nil=>
         exact a0n
        |cons x xs=>
         have⟨N,hN⟩:=nE xs.length;have⟨go,cr,hv3,r0,r1,o0,zo,aW,ag⟩:=yP Jn hN;subst hv3;have aG:N+1<=16:=I;clear ag;by_cases he:x.e=p2;.exact U9
         .exact a0m
def Va(h:p:=by
 have hq:=Y (HT.1 c);go_wp2_with fail;go_meet;exact⟨1,t,rfl,by congr 1;have:=HE.out;omega,I,I,I,hq,rfl⟩):p:=h
def MW(h:p:=by
 rw[<-HP.out,Ay.out];exact ZZ hT I (hg.symm▸zU.out)):p:=h
def a5g(h:p:=by
 go_upto_region 17 with fail;by_cases c2:s.size<1+j
 .have Ay:=Y (HRH _ (HJ.1 c2))
  go_wp2_with fail;rw[qO];have⟨hblk6,qH⟩:=Jj.out (H ⟨#[]⟩) (mH M) (G U 0 0) (V X 0) (V X 0) (V X 2);have⟨d0,d1,d2,d3,d4,d5⟩:=uk hblk6;have zU:=Y qH;clear hblk6 qH;refine iY (v:=mI #[H ⟨#[]⟩,mH M,G U 0 0,V X 0,V X 0,V X 2]) (by simp[jv,kE,go_sem,d0,d1,d2,d3,d4,d5]) rfl ?_;rw[<-HP.out,Ay.out];exact uy (hg.symm▸zU.out)
 .have hk1:1+j<=s.size:=I
  have hs1:1<s.size:=I;have⟨hx1,hx2,hx3⟩:=HJ.2 hk1;have CN:=Y (uC (s.extract 1 (1+j)) wa (by simp[iV];omega));rw[hx1]at CN;have hv64:=Z4 (l:=s.data.toList.drop 1) hj8;have hh1:=a8B s hs1;rw[hh1]at hx2 hx3;have K9:=Y hx2;have La:=Y hx3;clear hx1 hx2 hx3 HJ HT c2 c hj hh1;generalize qY ((s.data.toList.drop 1).take j)=v at*;go_upto_region 20 with fail;simp only[show(1+(j:Int))=((1+j:Nat):Int)by omega];by_cases c3:s[1].toNat=0
  .have e3:((s[1].toNat:Int)==0)=u:=EA
   have Ay:=Y (HRH _ (K9 (.inl (by congr 1;exact kH.1 c3))));clear K9 La c3;go_wp2_with fail;refine CN.mono ?_;rintro e w1 ⟨rfl,rfl⟩;go_wp2_with fail;rw[qO];have⟨hblk6,qH⟩:=Jj.out (H ⟨#[]⟩) (mH M) (G U 0 0) (V X 0) (V X 0) (V X 3);have⟨d0,d1,d2,d3,d4,d5⟩:=uk hblk6;have zU:=Y qH;clear hblk6 qH;refine iY (v:=mI #[H ⟨#[]⟩,mH M,G U 0 0,V X 0,V X 0,V X 3]) (by simp[jv,kE,go_sem,d0,d1,d2,d3,d4,d5]) rfl ?_;rw[<-HP.out,Ay.out];exact uy (hg.symm▸zU.out)
  have e3:((s[1].toNat:Int)==0)=M:=qJ;by_cases c4:v<56
  .have Ay:=Y (HRH _ (K9 (.inr c4)))
   clear K9 La c3;go_wp2_with fail;refine CN.mono ?_;rintro e w1 ⟨rfl,rfl⟩;go_wp2_with fail;rw[qO];have⟨hblk6,qH⟩:=Jj.out (H ⟨#[]⟩) (mH M) (G U 0 0) (V X 0) (V X 0) (V X 3);have⟨d0,d1,d2,d3,d4,d5⟩:=uk hblk6;have zU:=Y qH;clear hblk6 qH;refine iY (v:=mI #[H ⟨#[]⟩,mH M,G U 0 0,V X 0,V X 0,V X 3]) (by simp[jv,kE,go_sem,d0,d1,d2,d3,d4,d5]) rfl ?_;rw[<-HP.out,Ay.out];exact uy (hg.symm▸zU.out)
  have c4':56<=v:=I;have hq:=Y (La (λh=>h.elim (λh=>c3 (by have:=kU h;rw[this];rfl)) λh=>c4 h));clear K9 La c3 c4;by_cases c5:s.size -(1+j)<v
  .have Ay:=Y (HRH _ (hq.trans (Bi (by rw[HL.out];omega))))
   have d5:(s.size:Int) -((1+j:Nat):Int)<(v:Int):=I;clear c5;go_wp2_with fail;refine CN.mono ?_;rintro e w1 ⟨rfl,rfl⟩;go_wp2_with fail;rw[qO];have⟨hblk6,qH⟩:=Jj.out (H ⟨#[]⟩) (mH M) (G U 0 0) (V X 0) (V X 0) (V X 2);have⟨d0,d1,d2,d3,d4,d5⟩:=uk hblk6;have zU:=Y qH;clear hblk6 qH;refine iY (v:=mI #[H ⟨#[]⟩,mH M,G U 0 0,V X 0,V X 0,V X 2]) (by simp[jv,kE,go_sem,d0,d1,d2,d3,d4,d5]) rfl ?_;rw[<-HP.out,Ay.out];exact uy (hg.symm▸zU.out)
  .have hvs:v<=100000:=I
   have d5:(v:Int)<=(s.size:Int) -((1+j:Nat):Int):=I;clear c5;go_wp2_with fail;refine vE CN ?_;go_wp2_with fail;go_meet;exact⟨1+j,v,by first|rfl|go_num,by first|rfl|go_num,I,hk1,hvs,hq,rfl⟩):p:=h
def Xu(J items:Int)(s:An)(d a m:Nat)(w:K)(aE:RdR)(hs:s.size<=100000)(hp:0<s.size)(hb:128<=s[0].toNat)(hL:As (192<=s[0].toNat)=M)(aO:(d:Int)<=J)(aJ:d<=16)(aP:1<=d)(hit:(a:Int)+1<=items)(aA:a+1<=1024)(ai:∀er,hd s.data.toList=.error er->aE=.error er)(aj:∀z n,hd s.data.toList=.ok (M,z,n)->aE=.ok (.node ⟨(s.data.toList.drop z).take n,M⟩ [],z+n,m)):
  iW iN 173 #[H s,V X d,V X a,V X J,V X items] w (si aE (m+1) w):=by
 have⟨aK,ay⟩:=nE (si aE (m+1) w);have HP:=Y ay;rw[ay];obtain⟨g,hg⟩:=o7 w;have⟨wa,aB⟩:∃wa,w.alloc (mM #[H ⟨#[]⟩,mH M,G U 0 0,V X 0,V X 0,V X 0] GT)=wa:=⟨_,rfl⟩;have⟨aa,af,aQ⟩:=D5 hg aB;have Jj:=Y (zw aa af);have⟨c0,c1,c2,c3,c4,c5⟩:=uk (show mY wa g #[_,_,_,_,_,_] GT from aa);have⟨z0,aW,aX,z3,z4,z5⟩:=DZ aa;have aR:=rW s hp;have hlen:s.data.toList.length=s.size:=ny;have HL:=Y hlen;have aD:=Y (λt by'=>Sb hp (by':=by') (t:=t) hL);have⟨b,hb0⟩:=nE (s[0].toNat);have aH:b<=255:=by have:=s[0].toNat_lt;omega
 have aI:128<=b:=I;have⟨t,ht⟩:∃t,b=128+t:=⟨b - 128,by simp at hL;omega⟩;have HT:=Y (aD t 128 rfl (hb0.trans ht));have HE:=Y ht;have HRH:=Y ai;clear aD ht ay aa af hlen ai;have ak:=Y aj;have aS:b<192:=by simp at hL;omega
 clear aj hL hb;go_in;go_upto_if 56 with(fail)
 go_cut [14,13] (λaL aM aN=>∃A N:Nat,aL=V X (A:Int)/\aM=V X (N:Int)/\1<=A/\A<=s.size/\N<=100000/\R (hd s.data.toList=hd2 s.data.toList M A N)/\aN=wa);case first=>
  by_cases c:t<=55
  .have d2:b<=183:=by have:=HE.out;omega
   exact Va
  .have⟨j,hj⟩:∃j,t=55+j:=⟨t - 55,I⟩
   have aF:0<j:=I;have hj8:j<=8:=by have:=HE.out;omega
   have HJ:=Y (HT.2 j hj aF);have d2:183<b:=by have:=HE.out;omega
   have aY:((b:Int) - 128 - 55)=(j:Int):=by have:=HE.out;omega
   exact a5g
 case rest=>
  obtain⟨A,N,rfl,rfl,aU,aZ,bg,hq,au⟩:=hcut;have az:=au.symm;clear au;subst az;by_cases c1:s.size - A<N
  .have Ay:=Y (HRH _ (hq.trans (Bi (by rw[HL.out];omega))))
   have d2:(s.size:Int) -(A:Int)<(N:Int):=I;clear c1;exact Sg
  have d2:(N:Int)<=(s.size:Int) -(A:Int):=I;have aV:A+N<=s.size:=I;clear c1;have hT:R (s.extract A (A+N)=txt ⟨(s.data.toList.drop A).take N,M⟩):=Y (GX rfl A N).symm;by_cases c2:N=1
  .subst c2
   have aG:A<s.size:=I;have ae:s.data.toList.getD A 0=s[A]:=by rw[jN,ja (by rw[HL.out];exact aG)];rfl
   have ag:(s.extract A (A+1)).size=1:=by simp[iV];omega
   have av:(s.extract A (A+1))[0]=s[A]:=by simp[ByteArray.getElem_extract]
   have⟨E,ax⟩:=nE (s.extract A (A+1));have C:∀h:0<E.size,E[0].toNat=s[A].toNat:=by subst ax;intro h;rw[av]
   rw[ax]at ag hT;have ah:0<E.size:=I;clear av;by_cases c3:s[A].toNat<128
   .have Ay:=Y (HRH 3 (hq.trans (by unfold hd2;rw[At (by rw[HL.out];omega),Ax ⟨rfl,rfl,by rw[ae];exact c3⟩])))
    have d3:E[0].toNat<128:=by rw[C ah];exact c3
    clear ae C c3 ag;go_wp2_with fail;rw[qO];have⟨hblk6,qH⟩:=Jj.out (H ⟨#[]⟩) (mH M) (G U 0 0) (V X 0) (V X 0) (V X 3);have⟨d0,d1,d2,d3,d4,d5⟩:=uk hblk6;have zU:=Y qH;clear hblk6 qH;refine iY (v:=mI #[H ⟨#[]⟩,mH M,G U 0 0,V X 0,V X 0,V X 3]) (by simp[jv,kE,go_sem,d0,d1,d2,d3,d4,d5]) rfl ?_;rw[<-HP.out,Ay.out];exact uy (hg.symm▸zU.out)
   .have Ay:=Y (ak _ _ (hq.trans (by unfold hd2;rw[At (by rw[HL.out];omega),At (by rw[ae];intro h;exact c3 h.2.2)])))
    have d3:128<=E[0].toNat:=by rw[C ah];omega
    clear ae C c3 ag;go_wp2_with fail;rw[qO];have⟨hblk6,qH⟩:=Jj.out (H E) (mH M) (G U 0 0) (V X ((A:Int)+(1:Int))) (V X 1) (V X 0);have⟨d0,d1,d2,d3,d4,d5⟩:=uk hblk6;have zU:=Y qH;clear hblk6 qH;refine iY (v:=mI #[H E,mH M,G U 0 0,V X ((A:Int)+(1:Int)),V X 1,V X 0]) (by simp[jv,kE,go_sem,d0,d1,d2,d3,d4,d5]) rfl ?_;exact MW
  .have Ay:=Y (ak _ _ (hq.trans (by unfold hd2;rw[At (by rw[HL.out];omega),At (λh=>c2 h.2.1)])))
   have d3:((N:Int)==1)=M:=qJ;clear c2;go_wp2_with fail;rw[qO];have⟨hblk6,qH⟩:=Jj.out (H (s.extract A (A+N))) (mH M) (G U 0 0) (V X ((A:Int)+(N:Int))) (V X 1) (V X 0);have⟨d0,d1,d2,d3,d4,d5⟩:=uk hblk6;have zU:=Y qH;clear hblk6 qH;refine iY (v:=mI #[H (s.extract A (A+N)),mH M,G U 0 0,V X ((A:Int)+(N:Int)),V X 1,V X 0]) (by simp[jv,kE,go_sem,d0,d1,d2,d3,d4,d5]) rfl ?_;exact MW
end
end Go.Proofs.YtamfcjmhnndbdaaGreatDoor


