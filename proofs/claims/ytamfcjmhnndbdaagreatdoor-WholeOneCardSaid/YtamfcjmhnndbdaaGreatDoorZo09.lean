/- Part 9 of the proof. -/
import Derived.Test.YtamfcjmhnndbdaaGreatDoorZoA
import Derived.Test.YtamfcjmhnndbdaaGreatDoorZo05
import Derived.Test.YtamfcjmhnndbdaaGreatDoorZo00
import Derived.Test.YtamfcjmhnndbdaaGreatDoorZo02
import Derived.Test.YtamfcjmhnndbdaaGreatDoorZo04
import Derived.Test.YtamfcjmhnndbdaaGreatDoorZo06
import Derived.Test.YtamfcjmhnndbdaaGreatDoorZo08
import Derived.RegionTactic
import Derived.BigRegion
import Derived.ChangeAlike
import Derived.Deep.QuietTactic
import Derived.BigQuiet
open Go.Value renaming agg→nI,bool→nH,int→Y,pointer→nG,slice→u,string→G,tuple→nJ,ownBlock→kz,slice→kI
open Go.Obj renaming cells→nL
open Go.IntKind renaming i64→X,u32→nO,u64→nN
open Go.Ending renaming returned→nK
open Go.Lib renaming hid→H
open Go.Proofs.Tryz renaming prog→jy
open Go renaming World→M,Value→jC,Calls→jG,maxLen→jN,bodyPost_ret→jO,TypeId→jX,undef→ku,results→kF,Addr→kW,Oper→lJ,Program→lQ
open Nat renaming le_refl→jB,le_trans→jM,lt_of_lt_of_le→jZ,zero_le→ko,lt_or_ge→kQ,le_of_eq→lZ,zero_add→mU,add_zero→nk
open Go.RowKit renaming Below→jD,Hid→jI,intOf→kC
open Go.RowKit.Below renaming refl→jE,heap_setCell→jW
open And renaming intro→jF
open List renaming setIfInBounds_toArray→jH,length_append→jK,set_cons_zero→jQ,set_cons_succ→jR,getElem?_cons_zero→jS,getElem?_cons_succ→jT,getElem?_toArray→jV,take_succ_cons→jY,length_cons→j4,length_drop→kG,take_zero→kJ,take_of_length_le→kS,getElem?_eq_some_iff→lu,size_toArray→lK,mem_cons→l5,take_append_drop→mO,drop_eq_getElem_cons→nA
open Bool renaming and_eq_true→jJ
open ByteArray renaming size_extract→jP
open UInt8 renaming ofNat→jU,toNat_inj→lX
open Go.World renaming setCell→j5,cell?→mV,cell?_of_block→mX
open Option renaming bind_some→kr
open Go.Code renaming region→kT
open Array renaming getD_eq_getD_getElem?→lD
open Go.Instr renaming lookup→lV
open Option.some renaming inj→mg
open Go.Act renaming put→mR
open Option renaming none→V,some→U
open Bool renaming true→R,false→O
open Go.Addr renaming mk→Z
open Decidable renaming decide→At
namespace Go.Proofs.YtamfcjmhnndbdaaGreatDoor
set_option linter.unusedVariables false
set_option linter.defProp false
set_option linter.unusedSimpArgs false
set_option maxRecDepth 100000
set_option maxHeartbeats 8000000
variable {p:Prop}{α:Type}{a0:Act}{x:nS TL}
section
open Go.RowKit
def lenOf:jC->Nat
 | u _ n _=>n
 |_=>0
structure a9a(T an sb r mb:Nat)(c:oO)(ar:ZA)(bo:Option kW)(bc:Nat)(buf:List Ax)(nd fa la tt se:Int)(w:M)(lv:jC)(w':M):Prop where
 msgs:∃Lm:List CJ,(∃oa cap,lv=u oa Lm.length cap)/\qf w' (λd=>w.heap.size<=d/\d<T) lv Lm/\Lm.map (λy=>y.m)=ar.told
 ses:∃bo' bc',nU w' sb (GG r (u bo' (buf.drop ar.at_).length bc') (if ar.err=2 then(CK c ((⟨buf.toArray⟩:An).extract ar.at_ (⟨buf.toArray⟩:An).size):Int)else nd) (if ar.err=2 then fa else(ar.err:Int)) la tt se) LJ/\oI w' an xz (u bo' (buf.drop ar.at_).length bc') (buf.drop ar.at_)/\(∀b,(kI bo' (buf.drop ar.at_).length bc').ownBlock=U b->b≠sb)/\∀b,(kI bo' (buf.drop ar.at_).length bc').ownBlock=U b->(kI bo buf.length bc).ownBlock=U b\/T<=b
 wt:w.heap.size<=T
 mt:qb w' ar.mt
 kp:rF (λk=>k=sb\/k=mb\/(kI bo buf.length bc).ownBlock=U k) w w'
def z8(an sb r mb:Nat)(c:oO)(rows:List Row)(m:MS)(bo:Option kW)(bc:Nat)(buf:List Ax)(nd fa la tt se:Int)(w:M)(e:Ending)(w':M):Prop:=
 if(buf.length:Int)<nd then e=nK (u V 0 0)/\jD w.heap.size w w'
 else∃lv T,e=nK lv/\a9a T an sb r mb c (wP c rows ⟨buf.toArray⟩ (buf.length+1) 0 (U (mb,m))) bo bc buf nd fa la tt se w lv w'
def a4g(l:List Ax):(⟨l.toArray⟩:An).size=l.length:=lK
def JL{w:M}{an:Nat}{v:jC}{l:List Ax}(h:oI w an xz v l){b:Nat}(hb:v.ownBlock=U b){cs:Array jC}{sb:Nat}(hs:nU w sb cs LJ):b≠sb:=by
 rintro rfl;rcases h.2 with⟨rfl,_⟩|⟨g,cap,C,rfl,_,hg,_⟩
 .cases hb
 .cases hb
  have A:w.heap[g]? =U (nL cs LJ (0,0)):=hs;rw[A]at hg;have:LJ=xz:=by
   injection hg with e
   injection e
  exact absurd this nT
structure yX(w0:M)(sb mb ka T:Nat)(m:MS)(bv lv:jC)(Lm:List CJ)(W:M):Prop where
 lm:qf W (λd=>ka<d/\d<T) lv Lm
 tt:w0.heap.size<=T/\T<=W.heap.size
 mt:qb W (U (mb,m))
 kp:rF (λk=>k=sb\/k=mb\/bv.ownBlock=U k) w0 W
 ss:∃cs,nU W sb cs LJ
 lt:w0.heap.size<=ka/\sb<w0.heap.size/\mb<w0.heap.size/\sb≠mb/\∀b,bv.ownBlock=U b->b<w0.heap.size/\b≠sb/\b≠mb
section
variable {w0:M}{sb mb ka T:Nat}{m:MS}{bv lv:jC}{Lm:List CJ}{W W':M}
def yX.kpf(h:yX w0 sb mb ka T m bv lv Lm W){F:Nat->Prop}(k:rF F W W')(hF:∀d,F d->d=sb\/bv.ownBlock=U d)(hs:∃cs,nU W' sb cs LJ):yX w0 sb mb ka T m bv lv Lm W':=by
 have l:=h.lt;have C:∀d,F d->d<w0.heap.size/\d≠mb:=λd hd=>by
  rcases hF d hd with e|e
  .omega
  .have:=l.2.2.2.2 d e;omega
 refine⟨qf.keep h.lm k.size (λd hd E=>k.block d hd λA=>by have:=C d A;have E:ka<d/\d<T:=E;omega) λ_ _ h=>h,⟨h.tt.1,jM h.tt.2 k.size⟩,⟨k.blk h.mt.1 λA=>(C _ A).2 rfl,h.mt.2⟩,h.kp.trans k λd _ A=> ?_,hs,l⟩;rcases hF d A with e|e
 .exact .inl e
 .exact .inr (.inr e)
def yX.below(h:yX w0 sb mb ka T m bv lv Lm W)(hb:jD W.heap.size W W'):yX w0 sb mb ka T m bv lv Lm W':=
 h.kpf (F:=λ_=>False) (rF.of hb) (λ_ h=>h.elim) (h.ss.imp λ_ k=>Below.blk hb k k.lt)
def yX.put(h:yX w0 sb mb ka T m bv lv Lm W)(i:Nat)(v:jC):yX w0 sb mb ka T m bv lv Lm (W.setCell (Z sb i V) v):=
 h.kpf (F:=λd=>d=sb) (rF.set (F:=λd=>d=sb) (p:=(Z sb i V)) (rF.refl _ W) (λ_=>rfl) v) (λ_ h=> .inl h) (h.ss.elim λcs k=>⟨_,k.set i v⟩)
def yX.grow(h:yX w0 sb mb ka T m bv lv Lm W)(hg:W.grownBy W' bv.ownBlock):yX w0 sb mb ka T m bv lv Lm W':=
 h.kpf (F:=λd=>bv.ownBlock=U d) (rF.grown hg λ_ e=>e) (λ_ h=> .inr h) (h.ss.imp λ_ k=>pO k hg λx A=>(h.lt.2.2.2.2 x A).2.1)
end
def KL(w0:M)(an sb mb ka T:Nat)(m:MS)(bo:Option kW)(bc:Nat)(buf:List Ax)(lv:jC)(Lm:List CJ)(W:M):Prop:=
 yX w0 sb mb ka T m (u bo buf.length bc) lv Lm W/\oI W an xz (u bo buf.length bc) buf/\an<=W.heap.size/\an<=sb/\w0.heap.size<=W.heap.size/\ka≠sb
section
variable {w0:M}{an T g kc kt ka kx sb r mb n2 q:Nat}{c:oO}{s:An}{m:MS}{bo:Option kW}{bc:Nat}{buf:List Ax}{nd fa la tt se:Int}{lv v6:jC}{Lm:List CJ}{W W':M}{TOT:ZA}{e1:Nat}
def KL.below(h:KL w0 an sb mb ka T m bo bc buf lv Lm W)(hb:jD W.heap.size W W'):KL w0 an sb mb ka T m bo bc buf lv Lm W':=
 ⟨h.1.below hb,h.2.1.kp (rF.of (F:=λ_=>False) hb) λ_ _ h=>h,jM h.2.2.1 hb.size,h.2.2.2.1,jM h.2.2.2.2.1 hb.size,h.2.2.2.2.2⟩
def KL.put(h:KL w0 an sb mb ka T m bo bc buf lv Lm W)(i:Nat)(v:jC):KL w0 an sb mb ka T m bo bc buf lv Lm (W.setCell (Z sb i V) v):=
 ⟨h.1.put i v,h.2.1.kp (rF.set (F:=λd=>d=sb) (p:=(Z sb i V)) (rF.refl _ W) (λ_=>rfl) v) λb hb e=>(h.1.lt.2.2.2.2 b hb).2.1 e,by simpa [j5]using h.2.2.1,h.2.2.2.1,by simpa [j5]using h.2.2.2.2.1,h.2.2.2.2.2⟩
def Hd.fin(h:Hd w0 an g kc kt ka kx sb r mb c s q m bo bc buf nd fa la tt se lv Lm W):KL w0 an sb mb ka W.heap.size m bo bc buf lv Lm W:=by
 have l:=h.lt;refine⟨⟨qf.keep h.lm (jB _) (λ_ _ _=>rfl) λ_ hd h=>⟨h.1,hd⟩,⟨K,jB _⟩,h.nx.mm,h.kp,⟨_,h.ss⟩,K,K,K,K,λb hb=> ?_⟩,h.ob,K,K,K,K⟩;have:=h.bl b hb;omega
def Hd.a9c(h:Hd w0 an g kc kt ka kx sb r mb c s q m bo bc buf nd fa la tt se lv Lm W):Ha g kc kt ka sb r c s q (u bo buf.length bc) nd fa la tt se (KL w0 an sb mb ka W.heap.size m bo bc buf lv Lm) W:=by
 have l:=h.lt;exact⟨h.nx.sv,h.ss,h.nx.cf,h.nx.tx,h.nx.at_,h.fin,K,K,K,K⟩
def Vd(A:nU W g #[nG (U (Z sb 0 V))] SK)(C:nU W ka #[Y X q] InT)(E:nU W sb (GG r (u bo buf.length bc) nd fa la tt se) LJ)(h:KL w0 an sb mb ka T m bo bc buf lv Lm W)(hg:w0.heap.size=g):DC g ka sb r an T q buf bo bc nd fa la tt se (yX w0 sb mb ka T m (u bo buf.length bc) lv Lm) O O v6 W:=by
 have l:=h.1.lt;refine⟨A,C,E,λ_=>h.2.1,(λh=>by cases h),h.1,(λh=>by cases h),K,h.2.2.2.2.2,h.2.2.2.1,h.2.2.1,λb hb=> ?_⟩;have:=l.2.2.2.2 b hb;omega
def Hd.Vd(h:Hd w0 an g kc kt ka kx sb r mb c s q m bo bc buf nd fa la tt se lv Lm W)(e:Int):DC g ka sb r an W.heap.size q buf bo bc nd e la tt se (yX w0 sb mb ka W.heap.size m (u bo buf.length bc) lv Lm) O O v6 (W.setCell (Z sb 3 V) (Y X e)):=by
 have l:=h.lt;exact Go.Proofs.YtamfcjmhnndbdaaGreatDoor.Vd (h.nx.sv.setOther (a:=(Z sb 3 V)) (by show g≠sb;omega) _) (h.nx.at_.setOther (a:=(Z sb 3 V)) (by show ka≠sb;omega) _) (h.ss.set 3 _) (h.fin.put 3 _) l.1
def a4h{rows:List Row}{mm:MS}(A:¬(buf.length:Int)<nd)(I:wP c rows ⟨buf.toArray⟩ (buf.length+1) 0 (U (mb,mm))=⟨Lm.map λy=>y.m,q,e1,U (mb,m)⟩)(N:w0.heap.size=g)(h:DC g ka sb r an T q buf bo bc (if e1=2 then(CK c ((⟨buf.toArray⟩:An).extract q (⟨buf.toArray⟩:An).size):Int)else nd) (if e1=2 then fa else(e1:Int)) la tt se (yX w0 sb mb ka T m (u bo buf.length bc) lv Lm) R R v6 W):
  z8 an sb r mb c rows mm bo bc buf nd fa la tt se w0 (nK lv) W:=by
 unfold z8;rw[As A];obtain⟨⟨C,E,rfl⟩,ho,J⟩:=h.od rfl;refine⟨lv,T,rfl,?_⟩;rw[I];exact⟨⟨Lm,h.bs.lm.slice,qf.keep h.bs.lm (jB _) (λ_ _ _=>rfl) λd _ hd=>⟨by have:=h.bs.lt.1;have hd:ka<d/\d<T:=hd;omega,hd.2⟩,rfl⟩,⟨C,E,h.ss,ho,λb hb=>h.bs.ss.elim λcs k=>JL ho hb k,J⟩,h.bs.tt.1,h.bs.mt,h.bs.kp⟩
end
def Ve(h:p:=by
 clear hF5;simp only[jH,jQ,jR];go_wp2;try go_returns
 exact HP5):p:=h
def a4i(an sb r mb bn bi:Nat)(c:oO)(L:List oV)(m:MS)(bo:Option kW)(bc:Nat)(buf:List Ax)(nd fa la tt se:Int)(w:M)(hc:oL c=R)(dF:c.wf)(bz:nU w sb (GG r (u bo buf.length bc) nd fa la tt se) LJ)(bA:oI w an xz (u bo buf.length bc) buf)(bB:qb w (U (mb,m)))(dG:∀b,(kI bo buf.length bc).ownBlock=U b->b≠sb/\b≠mb)(aO:sb≠mb/\an<=sb/\an<=mb)(hlen:buf.length<=100000)(bC:∀W,rF (λk=>k=sb\/k=mb\/(kI bo buf.length bc).ownBlock=U k) w W->qG r bn bi c L W/\qK W/\xW W):
  jG jy 34 #[nG (U (Z sb 0 V)),nG (U (Z mb 0 V))] w (z8 an sb r mb c (L.map λx=>x.r) m bo bc buf nd fa la tt se w):=by
 obtain⟨g,hg⟩:=og w.heap.size;obtain⟨s,bD⟩:∃s,(⟨buf.toArray⟩:An)=s:=⟨_,rfl⟩;have hsz:s.size=buf.length:=bD▸a4g buf;obtain⟨gW,dH⟩:=og buf.length;have dI:sb<g/\mb<g:=⟨hg▸bz.lt,hg▸nU.lt bB.1⟩;have bE:=λb hb=>oI.blk bA b hb
 have dJ:jI (∀W,(w.alloc (nL #[nG (U (Z sb 0 V))] SK)).alloc (nL #[nG (U (Z mb 0 V))] MtT)=W->nU W g #[nG (U (Z sb 0 V))] SK/\nU W (g+1) #[nG (U (Z mb 0 V))] MtT/\jD g w W/\W.heap.size=g+2):=H λW aJ=>by
  subst aJ;have dZ:=(jE w.heap.size w).alloc (jB _) (nL #[nG (U (Z sb 0 V))] SK);have a2:=dZ.alloc nX (nL #[nG (U (Z mb 0 V))] MtT);have aC:=nU.new w #[nG (U (Z sb 0 V))] SK;have aD:=nU.new (w.alloc (nL #[nG (U (Z sb 0 V))] SK)) #[nG (U (Z mb 0 V))] MtT;rw[show(w.alloc (nL #[nG (U (Z sb 0 V))] SK)).heap.size=g+1 by simp[hg]]at aD;rw[hg]at aC;exact⟨aC.alloc _,aD,hg▸a2,by simp[hg]⟩
 have bF:=H (jF bz (jF bA (jF bB (jF dG (jF aO (jF dI bE))))));have bG:=H bC;have dx:=H (jF hc dF);have ae:=H (jF bD hsz);have eT:jI (an<=g):=H K;have ak:=H hlen;obtain⟨ed,ek⟩:=og (z8 an sb r mb c (L.map λx=>x.r) m bo bc buf nd fa la tt se w);have eU:=H ek;have eX:=H dH;rw[ek];clear bz bA bB dG aO hlen bC hc dF bD hsz ek dI bE dH;go_in;go_upto_region 1 with fail;obtain⟨dK,dL,dM,dN⟩:=dJ.out _ rfl;generalize (w.alloc _).alloc _=w1 at*;have bq:=H (jF dK (jF dL (jF dM dN)));clear dJ dK dL dM dN;have hdr:nU w1.drew g #[nG (U (Z sb 0 V))] SK/\nU w1.drew (g+1) #[nG (U (Z mb 0 V))] MtT/\jD g w w1.drew/\w1.drew.heap.size=g+2:=⟨bq.1,bq.2.1,bq.2.2.1.trans ((oM w1).mono (by have:=bq.2.2.2;omega)),bq.2.2.2⟩;rw[<-eX.out]at*;refine a6W (ks:=g) (sb:=sb) (r:=r) (bo:=bo) (bn:=buf.length) (bc:=bc) (nd:=nd) (fa:=fa) (la:=la) (tt:=tt) (se:=se) (Bs:=λW=>nU W g #[nG (U (Z sb 0 V))] SK/\nU W (g+1) #[nG (U (Z mb 0 V))] MtT/\jD g w W/\W.heap.size=g+2) (ht2:=by rfl) (hsz:=by rfl) (hI0:=λ_=>⟨hdr,hdr.1,Below.blk hdr.2.2.1 bF.1 bF.2.2.2.2.2.1.1⟩) ?_;intro vs dz hF;have C:=H hF.bs;clear hF hdr bq;simp only[jH,jQ,jR];by_cases E:(buf.length:Int)<nd
 .have t0:At ((buf.length:Int)<nd)=R:=by simp[E]
  have eu:=H E;rw[t0];clear E t0;go_wp2;try go_returns
  rw[<-eU.out];unfold z8;rw[AC eu.out];exact⟨rfl,hg.symm▸C.2.2.1⟩
 .have t0:At ((buf.length:Int)<nd)=O:=by simp[E]
  have eu:=H E;rw[t0];clear E;have aP:∀W,jD g w W->nU W sb (GG r (u bo buf.length bc) nd fa la tt se) LJ/\oI W an xz (u bo buf.length bc) buf/\qb W (U (mb,m)):=λW hb=>by
   obtain⟨e1,e2,e3,e4,e5,eB,eY⟩:=bF.out;exact⟨Below.blk hb e1 eB.1,oI.kp e2 (rF.of (F:=λ_=>False) (hg.symm▸hb)) (λ_ _ h=>h),⟨Below.blk hb e3.1 eB.2,e3.2⟩⟩
  have aF:=H aP;clear aP;have c1:dz.cell? (Z sb 0 V)=U (nG (U (Z r 0 V))):=(aF _ C.2.2.1).1.cell 0;have c2:dz.cell? (Z g 0 V)=U (nG (U (Z sb 0 V))):=C.1.cell 0;have eZ:=H (JJ r bn bi c L dz (bG dz (rF.of (hg.symm▸C.2.2.1))).1);go_wp2_with fail;refine eZ.mono ?_;rintro e w2 ⟨rfl,aG⟩;obtain⟨kc,dO⟩:=og w2.heap.size;have fq:jI (∀W,w2.alloc (nL #[Y X c.fmt,Y nO c.mag,Y X c.pV,Y X c.qH,Y X c.dep,Y X c.pq] uk)=W->nU W g #[nG (U (Z sb 0 V))] SK/\nU W (g+1) #[nG (U (Z mb 0 V))] MtT/\jD g w W/\g+2<=kc/\W.heap.size=kc+1/\nU W kc #[Y X c.fmt,Y nO c.mag,Y X c.pV,Y X c.qH,Y X c.dep,Y X c.pq] uk):=H λW aJ=>by
   subst aJ;have a:=(jE w2.heap.size w2).alloc (jB _) (nL #[Y X c.fmt,Y nO c.mag,Y X c.pV,Y X c.qH,Y X c.dep,Y X c.pq] uk);obtain⟨aK,au,bH,gz⟩:=C.out;have ig:=aG.size;have aC:=Below.blk aG aK aK.lt;have aD:=Below.blk aG au au.lt;exact⟨Below.blk a aC aC.lt,Below.blk a aD aD.lt,bH.trans ((aG.mono K).trans (a.mono K)),K,by simp[dO],dO▸nU.new w2 _ _⟩
  clear aG eZ c1 c2 t0;go_upto_region 4 with fail;have fu:=fq.out _ rfl;generalize w2.alloc _=w3 at*;have az:=H fu;clear fu fq C;have gB:w3.cell? (Z g 0 V)=U (nG (U (Z sb 0 V))):=az.1.cell 0;have gD:w3.cell? (Z sb 1 V)=U (u bo buf.length bc):=(aF _ az.2.2.1).1.cell 1;have fw:(convert Yg QW (u bo buf.length bc)).run jy w3=.ok (G s) w3:=ae.1▸oI.string Cr (aF _ az.2.2.1).2.1;have bI:jI (∀W,(w3.alloc (nL #[G s] QW)).alloc (nL #[Y X 0] InT)=W->∀kx,kc+2<kx->Hd w an g kc (kc+1) (kc+2) kx sb r mb c s 0 m bo bc buf nd fa la tt se (u V 0 0) [] W/\W.heap.size=kc+3):=H λW aJ kx bJ=>by
   subst aJ;obtain⟨aK,au,bH,gz,ax,bK⟩:=az.out;obtain⟨e1,e2,e3,e4,e5,eB,eY⟩:=bF.out;have dZ:=(jE w3.heap.size w3).alloc (jB _) (nL #[G s] QW);have a2:=dZ.alloc nX (nL #[Y X 0] InT);have aC:=nU.new w3 #[G s] QW;have aD:=nU.new (w3.alloc (nL #[G s] QW)) #[Y X 0] InT;rw[show(w3.alloc (nL #[G s] QW)).heap.size=kc+2 by simp[ax]]at aD;rw[ax]at aC;have bL:jD g w ((w3.alloc (nL #[G s] QW)).alloc (nL #[Y X 0] InT)):=bH.trans (a2.mono K);obtain⟨dA,eD,gF⟩:=aF.out _ bL;have gX:=eT.out;refine⟨⟨⟨Below.blk a2 bK bK.lt,Below.blk a2 au au.lt,aC.alloc _,aD,Below.blk a2 aK aK.lt,⟨dA.cell 0,dA.lt⟩,gF,K⟩,dA,eD,qf.nil _ _,rF.of (hg.symm▸bL),?_,λb hb=> ?_⟩,by simp[ax]⟩;.simp[ax];omega
   .have:=eY b hb;have:=e4 b hb;omega
  have gY:=az.2.2.2.2.1;go_upto_region 8 with fail;have dP:=λkx hk=>(bI _ rfl kx hk).1
  have dQ:=(bI _ rfl (kc+3) K).2;generalize (w3.alloc _).alloc _=w4 at*;rw[show kc+1+1=kc+2 from rfl];have bM:=H (λkx hk=>(dP kx hk:Hd w an g kc (kc+1) (kc+2) kx sb r mb c s 0 m bo bc buf nd fa la tt se (u V 0 0) [] w4));have bN:=H dQ;clear dP dQ bI az gD gB fw aF;have bO:∀(kx p:Nat)(m:MS)(lv:jC)(Lm:List CJ)(W:M),Hd w an g kc (kc+1) (kc+2) kx sb r mb c s p m bo bc buf nd fa la tt se lv Lm W->p<=s.size->jG jy 62 #[nG (U (Z kc 0 V)),nG (U (Z (g+1) 0 V)),nG (U (Z (kc+1) 0 V)),nG (U (Z (kc+2) 0 V)),nG (U (Z g 0 V))] W (JI (kc+2) mb p (ru c (L.map λx=>x.r) (s.extract p s.size) (U (mb,m))) W):=λkx p m lv Lm W h hp=>
   a0r kc (g+1) (kc+1) (kc+2) g sb r mb bn bi c L s p m W h.nx dx.1 dx.2 ⟨hp,by rw[ae.2];exact ak.out⟩ λgG gH=>bG.out gG (h.reg gH)
  have dR:=H bO;have bP:=H (bO (kc+3) 0 m _ _ w4 (bM _ K) (ko _));clear bO;obtain⟨⟨J,fA⟩,aQ⟩:∃ar,ru c (L.map λx=>x.r) (s.extract 0 s.size) (U (mb,m))=ar:=⟨_,rfl⟩;rw[aQ]at bP;have fB:=H aQ;have aR:=Fy c (L.map λx=>x.r) (s.extract 0 s.size) (U (mb,m));rw[aQ]at aR;obtain⟨dB,rfl⟩:∃dB,fA=U (mb,dB):=by
   cases fA with
   |none=>cases aR
   |some q=>obtain⟨dA,eD⟩:=q;cases aR;exact⟨eD,rfl⟩
  clear aQ aR;go_wp2_with fail;refine bP.mono ?_;unfold JI;dsimp only;rintro e w5 ⟨ov,cv,bQ,rfl,N,dS,aA,bR⟩;have dU:=H (λkx hk=>(bM kx hk).next bR dS aA);obtain⟨kx,bJ⟩:=og w5.heap.size;have aL:kc+2<kx:=by have:=bR.size;have:=bN.out;omega
  have dV:jI (∀W,w5.alloc (nL #[G (mN (sI J)),G (mT (sI J)),nH (mL (sI J)),u ov (mS (sI J)).length cv] Az)=W->Hd w an g kc (kc+1) (kc+2) kx sb r mb c s (goR 0 J) dB bo bc buf nd fa la tt se (u V 0 0) [] W/\nU W kx #[G (mN (sI J)),G (mT (sI J)),nH (mL (sI J)),u ov (mS (sI J)).length cv] Az/\oo W (λd=>kc+2<d/\d≠kx/\(kI V 0 0).ownBlock≠U d) (u ov (mS (sI J)).length cv) (mS (sI J))):=H λW aJ=>by
   subst aJ;have a:=(jE w5.heap.size w5).alloc (jB _) (nL #[G (mN (sI J)),G (mT (sI J)),nH (mL (sI J)),u ov (mS (sI J)).length cv] Az);refine⟨(dU kx aL).below a,bJ▸nU.new w5 _ _,Shape.om.keep N a.size (λd hd ag=>⟨by have:w4.heap.size<=d:=ag;have:=bN.out;omega,K,by simp[kz]⟩) λd hd _=>a.block d hd⟩
  clear bQ N dS aA bR bP bM dU;go_upto_region 9 with fail;have dW:=dV.out _ rfl;generalize w5.alloc _=ik at*;have fC:=H dW;clear dW dV;obtain⟨dX,bS⟩:=og (wP c (L.map λx=>x.r) s (buf.length+1) 0 (U (mb,m)));have bT:=H bS;clear bS;have fD:jI (∀q (af:Option (Nat×MS)) er,(ru c (L.map λx=>x.r) (s.extract q s.size) af).1=.error er->er≠0):=H λq af er h=>Xl h
  have fE:jI (∀q (af:Option (Nat×MS)) y,q<=s.size->(ru c (L.map λx=>x.r) (s.extract q s.size) af).1=.ok y->0<y.2/\q+y.2<=s.size):=H λq af y ag h=>by
   have hsz:=ae.2;have hl:=ak.out;have:=a0x dx.1 (s:=s.extract q s.size) (by simp only[jP];omega) h;simp only[jP]at this;omega
  have aM:jI (kc+2<kx):=H aL;clear bN bJ aL;obtain⟨gI,bU⟩:=og (mE (sI J));rw[bU];have fF:=H bU;clear bU
  go_loopw [9,11] (λlv ev eF=>∃(n:Nat) (oa:Option kW) (cap:Nat) (er:Nat),lv=u oa n cap/\ev=Y X er/\n<=100000/\jI (∃(q fuel:Nat) (af m2:MS) (ar:Except Nat (G8×Nat)) (Lm:List CJ) (ov:Option kW) (cv:Nat),Lm.length=n/\mE (sI ar)=er/\q<=s.size/\s.size<=q+fuel/\n<=q/\ru c (L.map λx=>x.r) (s.extract q s.size) (U (mb,af))=(ar,U (mb,m2))/\
   Hd w an g kc (kc+1) (kc+2) kx sb r mb c s (goR q ar) m2 bo bc buf nd fa la tt se (u oa n cap) Lm eF/\nU eF kx #[G (mN (sI ar)),G (mT (sI ar)),nH (mL (sI ar)),u ov (mS (sI ar)).length cv] Az/\oo eF (λd=>kc+2<d/\d≠kx/\(kI oa n cap).ownBlock≠U d) (u ov (mS (sI ar)).length cv) (mS (sI ar))/\
   dX=⟨Lm.map (λy=>y.m)++(wP c (L.map λx=>x.r) s (fuel+1) q (U (mb,af))).told,(wP c (L.map λx=>x.r) s (fuel+1) q (U (mb,af))).at_,(wP c (L.map λx=>x.r) s (fuel+1) q (U (mb,af))).err,(wP c (L.map λx=>x.r) s (fuel+1) q (U (mb,af))).mt⟩)) (λlv _ _=>100001 -(lenOf lv))
  case atStart=>
   obtain⟨aK,au,bH⟩:=fC.out;exact⟨0,V,0,gI,rfl,rfl,K,H ⟨0,buf.length,m,dB,J,[],ov,cv,rfl,fF.out,ko _,by rw[ae.2];omega,jB _,fB.out,aK,au,bH,by rw[bT.out];rfl⟩⟩
  case round=>
   obtain⟨n,oa,cap,er,rfl,rfl,hn,fG⟩:=hrel;obtain⟨q,fuel,af,m2,ar,Lm,ov,cv,hl,av,ag,aS,ah,ai,A,aB,N,I⟩:=fG.out;clear fG;by_cases h0:er=0
   .obtain⟨y,rfl⟩:∃y,ar=.ok y:=by
     cases ar with
     |error e1=>exact absurd (av.trans h0) (fD q _ e1 (by rw[ai]))
     |ok y=>exact⟨y,rfl⟩
    subst h0;obtain⟨bV,aH⟩:=fE.out q _ y ag (by rw[ai]);have aB:nU wr kx #[G y.1.name,G (txt y.1.val.lab),nH y.1.val.lab.list,u ov y.1.val.sub.length cv] Az:=aB;have N:oo wr (λd=>kc+2<d/\d≠kx/\(kI oa n cap).ownBlock≠U d) (u ov y.1.val.sub.length cv) y.1.val.sub:=N;have A:Hd w an g kc (kc+1) (kc+2) kx sb r mb c s (q+y.2) m2 bo bc buf nd fa la tt se (u oa n cap) Lm wr:=A;obtain⟨⟨b0,b1,gJ,b3⟩,_⟩:=oN aB;have fH:n+1<=100000:=by have:=ae.2;have:=ak.out;omega
    have C:=H (jF hl (jF ag (jF aS (jF ah (jF ai (jF A (jF aB (jF N (jF I (jF bV aH))))))))));clear hl av ag aS ah ai A aB N I bV aH;go_upto_region 11 with(at_builtin;go_loud (refine uD a6U Nv rfl _ _ rfl (B:=0) (v:=u oa n cap) (L:=Lm) (y:=(⟨y.1,ov,cv⟩:CJ)) rfl (C.2.2.2.2.2.1.lm.1.below ((jE _ wr).alloc (jB _) _)) rfl (nU.new wr #[G y.1.name,G (txt y.1.val.lab),nH y.1.val.lab.list,u ov y.1.val.sub.length cv] Az) rfl (by simp[mcl,CJ.ao,Value.oneCell']) (by have:=C.1;omega) (ko _) ?_);intro dD fI w2 bW aa aA eG)
    have aT:wr.grownBy w2 (kI oa n cap).ownBlock:=⟨aa.os,aa.tape,aa.output,by have:=aa.size;simp at this;omega,λd hd aO=>(aa.block d nY aO).trans (((jE wr.heap.size wr).alloc (jB _) _).block d hd)⟩;have bu:Hd w an g kc (kc+1) (kc+2) kx sb r mb c s (q+y.2) m2 bo bc buf nd fa la tt se (u (U (Z dD 0 V)) (Lm.length+1) fI) (Lm++[⟨y.1,ov,cv⟩]) w2/\nU w2 kx #[G y.1.name,G (txt y.1.val.lab),nH y.1.val.lab.list,u ov y.1.val.sub.length cv] Az:=by
     have A:=C.2.2.2.2.2.1;have aU:=A.lm;have fJ:=C.2.2.2.2.2.2.1.lt;have dE:=qf.push (x:=(⟨y.1,ov,cv⟩:CJ)) aU bW aT (aA.imp id λe=>by rw[e];simp) C.2.2.2.2.2.2.2.1 (λd hd=>hd.2.2);refine⟨A.kpf (rF.grown aT (F:=λd=>(kI oa n cap).ownBlock=U d) λb hb=>hb) (λd hd=>(aU.2.1 d hd).1) (qf.keep dE (jB _) (λ_ _ _=>rfl) λd _ hd=> ?_),pO C.2.2.2.2.2.2.1 aT λx gK=>(aU.2.1 x gK).2⟩;rcases hd with hd|hd|hd
     .exact hd
     .exact⟨hd.1,hd.2.1⟩
     .subst hd
      rcases aA with ax|ax
      .exact aU.2.1 _ ax
      .have hk:kx<wr.heap.size:=fJ
       have bK:d=wr.heap.size+1:=by rw[ax];simp
       have:=A.lt;show kc+2<d/\d≠kx;constructor<;>omega
    clear bW aa aA eG aT b0 b1 gJ b3;have aH:=C.2.2.2.2.2.2.2.2.2.2;have eH:=H (dR kx (q+y.2) m2 _ _ w2 bu.1 aH);obtain⟨⟨ay,fK⟩,aV⟩:∃ar,ru c (L.map λx=>x.r) (s.extract (q+y.2) s.size) (U (mb,m2))=ar:=⟨_,rfl⟩;rw[aV]at eH;have aW:=Fy c (L.map λx=>x.r) (s.extract (q+y.2) s.size) (U (mb,m2));rw[aV]at aW;obtain⟨eO,rfl⟩:∃eO,fK=U (mb,eO):=by
     cases fK with
     |none=>cases aW
     |some z=>obtain⟨iq,gL⟩:=z;cases aW;exact⟨gL,rfl⟩
    have fM:=H aV;have aI:=H bu;clear aV aW bu;go_wp2_with fail;refine eH.mono ?_;unfold JI;dsimp only;rintro e aX ⟨bX,bY,bQ,rfl,aY,bZ,cz,aN⟩;have cK:nU aX kx #[G y.1.name,G (txt y.1.val.lab),nH y.1.val.lab.list,u ov y.1.val.sub.length cv] Az:=aN.blk aI.2 (by have:=aM.out;omega) (by have:=bF.2.2.2.2.2.1;have:=aI.1.lt;omega);have fO:=H (jF (aI.1.next aN bZ cz) (jF cK aY));obtain⟨⟨iw,aC,aD,iy⟩,iA,f1,f2,f3⟩:=oN cK;obtain⟨e3,cZ⟩:=og (mE (sI ay));rw[cZ];have fP:=H cZ;clear bQ aY bZ cz aN cK cZ eH;go_wp2_with fail;rw[uB];have df:Lm.length=n:=C.1;go_roundw;case rel=>
     obtain⟨fQ,gM,gN⟩:=fO.out;obtain⟨_,ag,aS,ah,ai,_,_,_,I,bV,_⟩:=C.out;obtain⟨f1,rfl⟩:∃f1,fuel=f1+1:=⟨fuel - 1,K⟩;obtain⟨eP,eQ,gP,gQ,gT⟩:=zX aX kx (G (mN (sI ay))) (G (mT (sI ay))) (nH (mL (sI ay))) (u bX (mS (sI ay)).length bY);have fT:rF (λd=>d=kx) aX (zV aX kx (G (mN (sI ay))) (G (mT (sI ay))) (nH (mL (sI ay))) (u bX (mS (sI ay)).length bY)):=⟨gP,gQ,gT,lZ eQ.symm,λk _ hk=>eP k hk⟩;have fU:=fQ.kpf fT (λd hd=>by subst hd;exact aM) (qf.keep fQ.lm (lZ eQ.symm) (λd _ hd=>eP d hd.2) λ_ _ h=>h);have gZ:=aI.2.lt;have fV:=aI.1.lm;refine⟨n+1,U (Z dD 0 V),fI,e3,by rw[df],rfl,fH,H ⟨q+y.2,f1,m2,eO,ay,Lm++[⟨y.1,ov,cv⟩],bX,bY,by simp[df],fP.out,aH,K,K,fM.out,by rw[<-df];exact fU,sj gM,?_,?_⟩⟩
     .refine Shape.om.keep gN (lZ eQ.symm) (λd hd ag=> ?_) (λd _ ag=>eP d (by have:w2.heap.size<=d:=ag;omega))
      have hd2:w2.heap.size<=d:=ag;refine⟨by have:=aM.out;omega,K,λe=> ?_⟩;have:=(fV.1.block dD rfl).2.1;have gU:U dD=U d:=e;cases gU;omega
     .rw[I,zt c _ s (f1+1) q (U (mb,af)) ai]
      simp
    case measure=>simp[lenOf];omega
   .obtain⟨e1,rfl⟩:∃e1,ar=.error e1:=by
     cases ar with
     |error e1=>exact⟨e1,rfl⟩
     |ok y=>exact absurd av.symm h0
    have av:e1=er:=av;subst av;have ib:((e1:Int)==0)=O:=nY;rw[Bq c _ s fuel q (U (mb,af)) ai]at I;have A:Hd w an g kc (kc+1) (kc+2) kx sb r mb c s q m2 bo bc buf nd fa la tt se (u oa n cap) Lm wr:=A;have I:dX=⟨Lm.map (λy=>y.m),q,e1,U (mb,m2)⟩:=by rw[I];simp
    have C:=H (jF hl (jF ag (jF I A)));clear hl av ag aS ah ai A aB N I dR;have dY:jI (∀T dh dw v6 W,dh=(if e1=2 then(CK c ((⟨buf.toArray⟩:An).extract q (⟨buf.toArray⟩:An).size):Int)else nd)->dw=(if e1=2 then fa else(e1:Int))->DC g (kc+2) sb r an T q buf bo bc dh dw la tt se (yX w sb mb (kc+2) T m2 (u bo buf.length bc) (u oa n cap) Lm) R R v6 W->ed (nK (u oa n cap)) W):=H λT dh dw v6 W e2 e3 h=>by
     subst e2 e3;rw[<-eU.out];refine a4h (Int.not_lt.mpr eu) ?_ hg h;have ax:=bT.out;have bK:=ae.1;subst bK;rw[ax];exact C.2.2.1
    have aZ:q<=s.size/\s.size<=100000:=⟨C.2.1,by have:=ae.2;have:=ak.out;omega⟩;have bg:q<=buf.length/\buf.length<=100000:=⟨by have:=ae.2;have:=C.2.1;omega,ak.out⟩;by_cases au:e1=2
    .subst au
     go_upto_region 13 with fail;obtain⟨nq,ah⟩:=og (CK c (s.extract q s.size));have fZ:=H (λW=>SL c dx.1 (s.extract q s.size) W (by simp only[jP];omega));rw[ah]at fZ;have gm:=H ah;clear ah;refine a4f (ks:=g) (kc:=kc) (kt:=kc+1) (ka:=kc+2) (sb:=sb) (r:=r) (c:=c) (s:=s) (p:=q) (bv:=u bo buf.length bc) (nd:=nd) (fa:=fa) (la:=la) (tt:=tt) (se:=se) (n2:=nq) (Bs:=KL w an sb mb (kc+2) wr.heap.size m2 bo bc buf (u oa n cap) Lm) (ht2:=by rfl) (ht5:=by rfl) (BR:=by rfl) (GA:=by rfl) (hsz:=by rfl) (hp:=aZ) (JK:=fZ.out) (rG:=λ_ _ h hb=>h.below hb) (Om:=λ_ i v h=>h.put i v) (hI0:=λ_=>(C.2.2.2.below (oM _)).a9c) ?_;intro vs gp aj;have gq:jI (∀v6,DC g (kc+2) sb r an wr.heap.size q buf bo bc nq fa la tt se (yX w sb mb (kc+2) wr.heap.size m2 (u bo buf.length bc) (u oa n cap) Lm) O O v6 gp.drew):=H λv6=>by
      have hd:=(oM gp);exact Vd (Below.blk hd aj.sv aj.sv.lt) (Below.blk hd aj.at_ aj.at_.lt) (Below.blk hd aj.ss aj.ss.lt) (aj.bs.below hd) C.2.2.2.lt.1
     clear aj aZ;simp only[jH,jQ,jR];go_upto_region 15 with fail;refine Vb (ks:=g) (ka:=kc+2) (sb:=sb) (r:=r) (an:=an) (T:=wr.heap.size) (p:=q) (buf:=buf) (bo:=bo) (bc:=bc) (nd:=nq) (fa:=fa) (la:=la) (tt:=tt) (se:=se) (Bs:=yX w sb mb (kc+2) wr.heap.size m2 (u bo buf.length bc) (u oa n cap) Lm) (ht2:=by rfl) (GA:=by rfl) (hsz:=by rfl) (hp:=bg) (hBg:=λ_ _ h hg=>h.grow hg) (Om:=λ_ i v h=>h.put i v) (hBT:=λ_ h=>h.tt.2) (hBo:=λ_ v h ho b hb=>h.ss.elim λcs k=>JL ho hb k) (hI0:=λ_=>gq.out _) ?_;intro gu gV hF5;have HP5:=H (dY _ _ _ _ _ (by rw[ae.1,gm.out,AC rfl]) (by rw[AC rfl]) hF5);exact Ve
    .have iB:((e1:Int)==2)=O:=nY
     have A:=C.2.2.2;have c1:=A.nx.sv.cell 0;have f1:=A.ss.free 3;have c2:=A.ss.cell 3;have gy:jI (∀v6,DC g (kc+2) sb r an wr.heap.size q buf bo bc nd e1 la tt se (yX w sb mb (kc+2) wr.heap.size m2 (u bo buf.length bc) (u oa n cap) Lm) O O v6 (wr.setCell (Z sb 3 V) (Y X e1)).drew):=H λv6=>by
      have h:=(A.Vd (v6:=v6) (e1:Int));have hd:=oM (wr.setCell (Z sb 3 V) (Y X e1));exact⟨Below.blk hd h.sv h.sv.lt,Below.blk hd h.at_ h.at_.lt,Below.blk hd h.ss h.ss.lt,λ_=>(h.ob rfl).kp (rF.of (F:=λ_=>False) hd) (λ_ _ h=>h),(λh=>by cases h),h.bs.below hd,(λh=>by cases h),h.ne⟩
     simp only[GG,jV,jS,jT]at c1 c2;have bu:=H au;clear A au;go_upto_region 15 with fail;refine Vb (ks:=g) (ka:=kc+2) (sb:=sb) (r:=r) (an:=an) (T:=wr.heap.size) (p:=q) (buf:=buf) (bo:=bo) (bc:=bc) (nd:=nd) (fa:=e1) (la:=la) (tt:=tt) (se:=se) (Bs:=yX w sb mb (kc+2) wr.heap.size m2 (u bo buf.length bc) (u oa n cap) Lm) (ht2:=by rfl) (GA:=by rfl) (hsz:=by rfl) (hp:=bg) (hBg:=λ_ _ h hg=>h.grow hg) (Om:=λ_ i v h=>h.put i v) (hBT:=λ_ h=>h.tt.2) (hBo:=λ_ v h ho b hb=>h.ss.elim λcs k=>JL ho hb k) (hI0:=λ_=>gy.out _) ?_;intro gu gV hF5;have HP5:=H (dY _ _ _ _ _ (by rw[As bu.out]) (by rw[As bu.out]) hF5);exact Ve
end
section
open Go.RowKit Go.Maps
mutual
def Shape.tO.x8{S:Shape α}{w w':M}{Q:Nat->Prop}(hs:w.heap.size<=w'.heap.size)(hk:∀b o,b<w.heap.size->w'.cell? (Z b o V)=w.cell? (Z b o V)):
  ∀(x:nS α)(b off:Nat),b<w.heap.size->S.tO w Q x b off->S.tO w' Q x b off
 | .node a s,b,off,hb,h=>by
  simp only[Shape.tO]at h|-;obtain⟨ho,v,hc,A⟩:=h;refine⟨ho,v,λj E=> ?_,A.mono hs (λ_ _ h=>h) λb' I N C J=>Shape.rz.x8 hs hk s b' I C J⟩;rw[hk b (off+j) hb];exact hc j E
def Shape.rz.x8{S:Shape α}{w w':M}{Q:Nat->Prop}(hs:w.heap.size<=w'.heap.size)(hk:∀b o,b<w.heap.size->w'.cell? (Z b o V)=w.cell? (Z b o V)):
  ∀(s:List (nS α))(b off:Nat),b<w.heap.size->S.rz w Q s b off->S.rz w' Q s b off
 |[],_,_,_,_=>by simp only[Shape.rz]
 |x::xs,b,off,hb,h=>by
  simp only[Shape.rz]at h|-;exact⟨Shape.tO.x8 hs hk x b off hb h.1,Shape.rz.x8 hs hk xs b _ hb h.2⟩
end
def Shape.om.x8{S:Shape α}{w w':M}{Q:Nat->Prop}{v:jC}{s:List (nS α)}(h:S.om w Q v s)(hs:w.heap.size<=w'.heap.size)(hk:∀b o,b<w.heap.size->w'.cell? (Z b o V)=w.cell? (Z b o V)):S.om w' Q v s:=
 SliceOf.mono h hs (λ_ _ h=>h) λb o q hb A=>Shape.rz.x8 hs hk s b o hb A
abbrev Xm:jX:=67
abbrev FK:jX:=63
structure RaB(g r bn bi:Nat)(c:oO)(L:List oV)(id:Nat)(nm tx:An)(w0 W:M):Prop where
 rg:qG r bn bi c L W
 en:nU W g #[Y nN id,G nm,G tx] Xm
 ql:jD g w0 W
 lt:w0.heap.size=g/\r<g/\bn<g/\bi<g
def RaB.below{g r bn bi:Nat}{c:oO}{L:List oV}{id:Nat}{nm tx:An}{w0 W A:M}(h:RaB g r bn bi c L id nm tx w0 W)(hb:jD W.heap.size W A):RaB g r bn bi c L id nm tx w0 A:=
 ⟨h.rg.below hb,Below.blk hb h.en h.en.lt,h.ql.trans (hb.mono (by have:=h.en.lt;omega)),h.lt⟩
structure Ym(g r bn bi:Nat)(c:oO)(L:List oV)(id:Nat)(nm tx:An)(w0:M)(k:Nat)(da:Bool)(W:M):Prop where
 b:RaB g r bn bi c L id nm tx w0 W
 sz:W.heap.size=if da=R then k+1 else k
 bk:da=R->∃x:RC,nU W k x.cs Hr
 lt:g<k
def Ym.made{g r bn bi:Nat}{c:oO}{L:List oV}{id:Nat}{nm tx:An}{w0:M}{k:Nat}{W:M}(h:Ym g r bn bi c L id nm tx w0 k O W):Ym g r bn bi c L id nm tx w0 k R (W.alloc (nL Ei.cs Hr)):=by
 have A:W.heap.size=k:=by simpa using h.sz
 exact⟨h.b.below ((jE W.heap.size W).alloc (jB _) _),by simp[A],λ_=>⟨Ei,A▸nU.new W Ei.cs Hr⟩,h.lt⟩
def Ym.put{g r bn bi:Nat}{c:oO}{L:List oV}{id:Nat}{nm tx:An}{w0:M}{k:Nat}{W:M}(h:Ym g r bn bi c L id nm tx w0 k R W)(x:RC)(h0:qG r bn bi c L w0):Ym g r bn bi c L id nm tx w0 k R (Ej W k x):=by
 obtain⟨y,hy⟩:=h.bk rfl;have l:=h.b.lt;have A:=h.lt;have hb:=vT (x:=x) h.b.ql (show g<=k by omega);exact⟨⟨h0.below (l.1▸hb),xX h.b.en K,hb,l⟩,by rw[LB];exact h.sz,λ_=>⟨x,zl hy⟩,h.lt⟩
def xx{P:lQ}{k:jX}{κ ac:Type}{E:Fq P k κ}{F:IW ac}{w:M}{b n:Nat}{l:List (κ×ac)}(h:qU E F w b n l)(o:Nat):w.cell? (Z b o V)=V:=by
 obtain⟨_,⟨I,A,C,_⟩,_⟩:=h;simp[mV,C]
structure KM(g r bn bi kt:Nat)(c:oO)(L:List oV)(x:oV)(w0:M)(dn di:Bool)(W:M):Prop where
 rg:nU W r #[Y X c.fmt,Y nO c.mag,Y X c.pV,Y X c.qH,Y X c.dep,Y X c.pq,.map (U bn),.map (U bi),Jt c,LA c] RgT
 nm:qU NmK tT W bn (if dn=R then x::L else L).length ((if dn=R then x::L else L).map λx=>(x.r.name,x.rc.cs))
 id:qU IdK tT W bi (if di=R then x::L else L).length ((if di=R then x::L else L).map λx=>((x.r.id:Int),x.rc.cs))
 sub:∀y,y∈x::L->oD.om W (λk=>r<k) (u y.ou y.r.ty.sub.length y.cu) y.r.ty.sub
 en:nU W g #[Y nN x.r.id,G x.r.name,G x.r.text] Xm
 ty:nU W kt #[Y X x.r.ty.lab.kind,Y X x.r.ty.lab.size,u x.ou x.r.ty.sub.length x.cu,Y X x.r.ty.lab.tail] FK
 kp:rF (λd=>d=bn\/d=bi) w0 W
 fr:(∀y,y∈L->y.r.name≠x.r.name)/\(∀y,y∈L->y.r.id≠x.r.id)/\x.r.name.size<=jN/\x.r.id<18446744073709551616/\L.length<1000
 lt:bn≠bi/\r≠bn/\r≠bi/\g≠bn/\g≠bi/\kt≠bn/\kt≠bi
section
variable {g r bn bi kt:Nat}{c:oO}{L:List oV}{x:oV}{w0:M}{dn di:Bool}{W W':M}
def KM.below(h:KM g r bn bi kt c L x w0 dn di W)(hb:jD W.heap.size W W'):KM g r bn bi kt c L x w0 dn di W':=
 ⟨Below.blk hb h.rg h.rg.lt,h.nm.below hb,h.id.below hb,λy hy=>Shape.om.below (h.sub y hy) hb,Below.blk hb h.en h.en.lt,Below.blk hb h.ty h.ty.lt,h.kp.trans (F':=λ_=>False) (rF.of hb) (λ_ _ h=>h.elim),h.fr,h.lt⟩
def KM.upd(h:KM g r bn bi kt c L x w0 dn di W){b:Nat}(A:pX b W W')(hb:b=bn\/b=bi)(hc:∀o,W.cell? (Z b o V)=V)(J:∀o,W'.cell? (Z b o V)=V){C E:Bool}(hn:qU NmK tT W' bn (if C=R then x::L else L).length ((if C=R then x::L else L).map λx=>(x.r.name,x.rc.cs)))(hi:qU IdK tT W' bi (if E=R then x::L else L).length ((if E=R then x::L else L).map λx=>((x.r.id:Int),x.rc.cs))):KM g r bn bi kt c L x w0 C E W':=by
 have hk:∀d,d<W.heap.size->d≠b->W'.heap[d]? =W.heap[d]? :=λd hd hn=>A.block d hd λe=>hn (mg e)
 have q:∀{d:Nat}{cs:Array jC}{t:jX},nU W d cs t->d≠b->nU W' d cs t:=λhB hd=>by unfold nU;rw[hk _ hB.lt hd];exact hB
 have l:=h.lt;refine⟨q h.rg K,hn,hi,λy hy=>Shape.om.x8 (h.sub y hy) A.size λd o hd=> ?_,q h.en K,q h.ty K,h.kp.trans (F':=λd=>d=b) ⟨A.os,A.tape,A.output,A.size,λd hd I=>hk d hd I⟩ (λd _ I=>by have I:d=b:=I;rcases hb with e|e<;>subst e<;>simp[I]),h.fr,h.lt⟩;by_cases e:d=b;.rw[e,hc,J]
 .exact mX (w:=W) (a:=(Z d o V)) (hk d hd e)
def JM{κ:Type}[DecidableEq κ](f:oV->κ)(k:κ)(L:List oV)(h:∀y,y∈L->f y≠k):(L.map λx=>(f x,x.rc.cs)).filter (λp=>p.1 !=k)=L.map λx=>(f x,x.rc.cs):=by
 rw[List.filter_eq_self];intro p hp;obtain⟨y,hy,rfl⟩:=List.mem_map.1 hp;simpa using h y hy
def KM.a2X(h:KM g r bn bi kt c L x w0 O di W):∃W',(Instr.mapUpdate 130 (.map (U bn)) (G x.r.name) (nI x.rc.cs)).run jy W=.ok () W'/\KM g r bn bi kt c L x w0 R di W':=by
 obtain⟨W',A,C,E⟩:=qU.store (x:=x.r.name) h.nm Tryz.underlying130 h.fr.2.2.1 x.rc.cs (by have:=h.fr.2.2.2.2;unfold jN;simp;omega);rw[As nX,JM (λy=>y.r.name) x.r.name L h.fr.1]at C;refine⟨W',A,h.upd E (.inl rfl) (xx h.nm) (xx C) (by rw[AC rfl];exact C) (h.id.block (E.block bi h.id.lt λe=>h.lt.1 (mg e).symm))⟩
def KM.b0C(h:KM g r bn bi kt c L x w0 dn O W):∃W',(Instr.mapUpdate 131 (.map (U bi)) (Y nN x.r.id) (nI x.rc.cs)).run jy W=.ok () W'/\KM g r bn bi kt c L x w0 dn R W':=by
 obtain⟨W',A,C,E⟩:=qU.store (x:=(x.r.id:Int)) h.id Tryz.underlying131 (UW h.fr.2.2.2.1) x.rc.cs (by have:=h.fr.2.2.2.2;unfold jN;simp;omega);rw[As nX,JM (λy=>(y.r.id:Int)) (x.r.id:Int) L λy hy e=>h.fr.2.1 y hy K]at C;refine⟨W',A,h.upd E (.inr rfl) (xx h.id) (xx C) (h.nm.block (E.block bn h.nm.lt λe=>h.lt.1 (mg e))) (by rw[AC rfl];exact C)⟩
end
noncomputable def Ic:List lJ:=cO (cL (cL (cR (cB Tryz.f87))))
section
variable (g r bn bi:Nat)(c:oO)(L:List oV)(Kn:Nat)(nm tx:An)(w0:M)(k:Nat)(b:Bool)(x:RC)
def BX:Nat->jC
 |0=> nG (U (Z r 0 V))
 |1=> nG (U (Z r 0 V))
 |2=> nG (U (Z r 6 V))
 |3=> .map (U bn)
 |4=> nG (U (Z g 1 V))
 |5=> G nm
 |6=> nJ #[nI #[Y nN x.i,G x.nm,G x.tx,Y X x.k,Y X x.z,u x.ou x.nu x.cu,Y X x.tl],nH b]
 |7=> nJ #[nI #[Y nN x.i,G x.nm,G x.tx,Y X x.k,Y X x.z,u x.ou x.nu x.cu,Y X x.tl],nH b]
 |8=> nI #[Y nN x.i,G x.nm,G x.tx,Y X x.k,Y X x.z,u x.ou x.nu x.cu,Y X x.tl]
 |9=> nH b
 |10=> nG (U (Z k 0 V))
 |12=> nH b
 |_=>ku
structure a9d(D:Nat->Bool)(vs:Nat->jC)(w:M):Prop where
 oU:Ym g r bn bi c L Kn nm tx w0 k (D 10) w
 val:∀j,(R)=R->D j=R->vs j=BX g r bn nm k b x j
variable {g r bn bi c L Kn nm tx w0 k b x}
def Vf(h:p:=by
 have hW:=hI.oU;rw[hd]at hW;have hz:w.heap.size=k:=by simpa using hW.sz
 go_simp;refine hK (nG (U (Z k 0 V))) _ _ rfl ⟨?_,vM hI.val⟩;rw[oH];exact hW.made):p:=h
def a0y(h:p:=by
 have d10:=hw 10 nT nV;have hW:=hI.oU;rw[d10]at hW;obtain⟨y,hB⟩:=hW.bk rfl;obtain⟨⟨z0,z1,z2,z3,z4,z5,z6⟩,f0,f1,f2,f3,f4,f5,f6⟩:=qI hB;go_simp;rw[BP];refine hK ku _ _ rfl ⟨?_,vM hI.val⟩;rw[nZ D (show 10≠11 by decide),d10];exact hW.put x h0):p:=h
def a4j{id:Nat}{Q:Exit->Act->M->Prop}{E:M}(ht0:a0.tmps.getD 0 ku=nG (U (Z r 0 V)))(ht3:a0.tmps.getD 3 ku=nG (U (Z g 0 V)))(hl:∀W,qG r bn bi c L W->(lV 130 (.map (U bn)) (G nm) R).run jy W=.ok (nJ #[nI #[Y nN x.i,G x.nm,G x.tx,Y X x.k,Y X x.z,u x.ou x.nu x.cu,Y X x.tl],nH b]) W)(h0:qG r bn bi c L w0)(hsz:a0.tmps.size=76)(hI0:∀vs:Nat->jC,(λw=>Ym g r bn bi c L Kn nm tx w0 k O w) E.drew)(I:∀(vs:Nat->jC) (w:M),Ym g r bn bi c L Kn nm tx w0 k R w->Q .normal {a0 with tmps:=((((((((((((a0.tmps.setIfInBounds 12 (nG (U (Z r 0 V)))).setIfInBounds 13 (nG (U (Z r 0 V)))).setIfInBounds 14 (nG (U (Z r 6 V)))).setIfInBounds 15 (.map (U bn))).setIfInBounds 16 (nG (U (Z g 1 V)))).setIfInBounds 17 (G nm)).setIfInBounds 18 (nJ #[nI #[Y nN x.i,G x.nm,G x.tx,Y X x.k,Y X x.z,u x.ou x.nu x.cu,Y X x.tl],nH b])).setIfInBounds 11 (nJ #[nI #[Y nN x.i,G x.nm,G x.tx,Y X x.k,Y X x.z,u x.ou x.nu x.cu,Y X x.tl],nH b])).setIfInBounds 19 (nI #[Y nN x.i,G x.nm,G x.tx,Y X x.k,Y X x.z,u x.ou x.nu x.cu,Y X x.tl])).setIfInBounds 20 (nH b)).setIfInBounds 5 (nG (U (Z k 0 V)))).setIfInBounds 6 (nH b))} w):
  (kT id Ic.toArray R).wp jy Q a0 E:=by
 refine oF 13 76 (a9d g r bn bi c L Kn nm tx w0 k b x) nV hsz nV (.inl rfl) nV ?_ ?_ ?_;.exact q9
 .refine sM λA ai=> ?_
  clear hI0 I hsz;replace ht0:=H ht0;replace ht3:=H ht3;replace hl:=H hl;replace h0:=H h0;dsimp+instances only[Ic,cO,cL,cR,cB,Tryz.f87];simp only[jY,kJ,rZ];refine⟨?_,?_,?_,?_,?_,?_,?_,?_,?_,?_,?_,?_,?_,trivial⟩<;>(intro D vs a w am hI hd hw aj C hK;subst ai;dsimp+instances only[Ic,cO,cL,cR,cB,Tryz.f87]);have ay:=(C 0 nT).trans ht0.out;rotate_left;have ak:=fe C hI.val hw 12 0;rotate_left;have au:=fe C hI.val hw 13 1;rotate_left;have J:=fe C hI.val hw 14 2;simp only[BX]at J;have c0:=hI.oU.b.rg.rg.c6;rotate_left;have e3:=(C 3 nT).trans ht3.out;rotate_left;have N:=fe C hI.val hw 16 4;simp only[BX]at N;have c0:=hI.oU.b.en.c1;rotate_left;have hl:=hl.out;have aa:=fe C hI.val hw 15 3;have ae:=fe C hI.val hw 17 5;simp only[BX]at aa ae;have q:=hl w hI.oU.b.rg;rotate_left;have av:=fe C hI.val hw 18 6;rotate_left;have af:=fe C hI.val hw 11 7;rotate_left;have af:=fe C hI.val hw 11 7;rotate_left;.exact Vf
  .have h0:=h0.out
   have e5:=fe C hI.val hw 5 10;have ag:=fe C hI.val hw 19 8;simp only[BX]at e5 ag;exact a0y
  have ax:=fe C hI.val hw 20 9;rotate_left
  all_goals
   try simp only[BX]at*
   go_simp;exact hK _ _ _ rfl ⟨hI.oU,vM hI.val⟩
 .intro D vs w ah hI
  have hw:=hI.oU;rw[ah 10 nT]at hw;have q:=I vs w hw;rw[pE hI.val ah];dsimp+instances only[Ic,cO,cL,cR,cB,Tryz.f87];exact q8
end
noncomputable def Ie:List lJ:=cO (cL (cL (cR (cR (cB Tryz.f87)))))
section
variable (g r bn bi:Nat)(c:oO)(L:List oV)(Kn:Nat)(nm tx:An)(w0:M)(k:Nat)(b:Bool)(x:RC)
def BZ:Nat->jC
 |0=> nG (U (Z r 0 V))
 |1=> nG (U (Z r 0 V))
 |2=> nG (U (Z r 7 V))
 |3=> .map (U bi)
 |4=> nG (U (Z g 0 V))
 |5=> Y nN Kn
 |6=> nJ #[nI #[Y nN x.i,G x.nm,G x.tx,Y X x.k,Y X x.z,u x.ou x.nu x.cu,Y X x.tl],nH b]
 |7=> nJ #[nI #[Y nN x.i,G x.nm,G x.tx,Y X x.k,Y X x.z,u x.ou x.nu x.cu,Y X x.tl],nH b]
 |8=> nI #[Y nN x.i,G x.nm,G x.tx,Y X x.k,Y X x.z,u x.ou x.nu x.cu,Y X x.tl]
 |9=> nH b
 |10=> nG (U (Z k 0 V))
 |12=> nH b
 |_=>ku
structure a9e(D:Nat->Bool)(vs:Nat->jC)(w:M):Prop where
 oU:Ym g r bn bi c L Kn nm tx w0 k (D 10) w
 val:∀j,(R)=R->D j=R->vs j=BZ g r bi Kn k b x j
variable {g r bn bi c L Kn nm tx w0 k b x}
def a4k{id:Nat}{Q:Exit->Act->M->Prop}{E:M}(ht0:a0.tmps.getD 0 ku=nG (U (Z r 0 V)))(ht3:a0.tmps.getD 3 ku=nG (U (Z g 0 V)))(hl:∀W,qG r bn bi c L W->(lV 131 (.map (U bi)) (Y nN Kn) R).run jy W=.ok (nJ #[nI #[Y nN x.i,G x.nm,G x.tx,Y X x.k,Y X x.z,u x.ou x.nu x.cu,Y X x.tl],nH b]) W)(h0:qG r bn bi c L w0)(hsz:a0.tmps.size=76)(hI0:∀vs:Nat->jC,(λw=>Ym g r bn bi c L Kn nm tx w0 k O w) E.drew)(I:∀(vs:Nat->jC) (w:M),Ym g r bn bi c L Kn nm tx w0 k R w->Q .normal {a0 with tmps:=((((((((((((a0.tmps.setIfInBounds 29 (nG (U (Z r 0 V)))).setIfInBounds 30 (nG (U (Z r 0 V)))).setIfInBounds 31 (nG (U (Z r 7 V)))).setIfInBounds 32 (.map (U bi))).setIfInBounds 33 (nG (U (Z g 0 V)))).setIfInBounds 34 (Y nN Kn)).setIfInBounds 35 (nJ #[nI #[Y nN x.i,G x.nm,G x.tx,Y X x.k,Y X x.z,u x.ou x.nu x.cu,Y X x.tl],nH b])).setIfInBounds 28 (nJ #[nI #[Y nN x.i,G x.nm,G x.tx,Y X x.k,Y X x.z,u x.ou x.nu x.cu,Y X x.tl],nH b])).setIfInBounds 36 (nI #[Y nN x.i,G x.nm,G x.tx,Y X x.k,Y X x.z,u x.ou x.nu x.cu,Y X x.tl])).setIfInBounds 37 (nH b)).setIfInBounds 7 (nG (U (Z k 0 V)))).setIfInBounds 8 (nH b))} w):
  (kT id Ie.toArray R).wp jy Q a0 E:=by
 refine oF 13 76 (a9e g r bn bi c L Kn nm tx w0 k b x) nV hsz nV (.inl rfl) nV ?_ ?_ ?_;.exact q9
 .refine sM λA ai=> ?_
  clear hI0 I hsz;replace ht0:=H ht0;replace ht3:=H ht3;replace hl:=H hl;replace h0:=H h0;dsimp+instances only[Ie,cO,cL,cR,cB,Tryz.f87];simp only[jY,kJ,rZ];refine⟨?_,?_,?_,?_,?_,?_,?_,?_,?_,?_,?_,?_,?_,trivial⟩<;>(intro D vs a w am hI hd hw ak C hK;subst ai;dsimp+instances only[Ie,cO,cL,cR,cB,Tryz.f87]);have az:=(C 0 nT).trans ht0.out;rotate_left;have au:=fe C hI.val hw 29 0;rotate_left;have av:=fe C hI.val hw 30 1;rotate_left;have J:=fe C hI.val hw 31 2;simp only[BZ]at J;have c0:=hI.oU.b.rg.rg.c7;rotate_left;have e3:=(C 3 nT).trans ht3.out;rotate_left;have N:=fe C hI.val hw 33 4;simp only[BZ]at N;have c0:=hI.oU.b.en.c0;rotate_left;have hl:=hl.out;have aa:=fe C hI.val hw 32 3;have ae:=fe C hI.val hw 34 5;simp only[BZ]at aa ae;have q:=hl w hI.oU.b.rg;rotate_left;have ax:=fe C hI.val hw 35 6;rotate_left;have af:=fe C hI.val hw 28 7;rotate_left;have af:=fe C hI.val hw 28 7;rotate_left;.exact Vf
  .have h0:=h0.out
   have aj:=fe C hI.val hw 7 10;have ag:=fe C hI.val hw 36 8;simp only[BZ]at aj ag;exact a0y
  have ay:=fe C hI.val hw 37 9;rotate_left
  all_goals
   try simp only[BZ]at*
   go_simp;exact hK _ _ _ rfl ⟨hI.oU,vM hI.val⟩
 .intro D vs w ah hI
  have hw:=hI.oU;rw[ah 10 nT]at hw;have q:=I vs w hw;rw[pE hI.val ah];dsimp+instances only[Ie,cO,cL,cR,cB,Tryz.f87];exact q8
end
noncomputable def Et:List lJ:=cO (cL (cR (cR (cR (cR (cR (cR (cB Tryz.f87))))))))
section
variable (g r bn bi kt:Nat)(c:oO)(L:List oV)(x:oV)(w0:M)
def zu:Nat->jC
 |0=> nG (U (Z r 0 V))
 |1=> nG (U (Z r 0 V))
 |2=> nG (U (Z r 6 V))
 |3=> .map (U bn)
 |4=> nG (U (Z g 1 V))
 |5=> G x.r.name
 |6=> nI #[Y nN x.r.id,G x.r.name,G x.r.text]
 |7=> nI #[Y X x.r.ty.lab.kind,Y X x.r.ty.lab.size,u x.ou x.r.ty.sub.length x.cu,Y X x.r.ty.lab.tail]
 |8=> nI #[Y nN x.r.id,G x.r.name,G x.r.text,Y X x.r.ty.lab.kind,Y X x.r.ty.lab.size,u x.ou x.r.ty.sub.length x.cu,Y X x.r.ty.lab.tail]
 |_=>ku
structure a7b(D:Nat->Bool)(vs:Nat->jC)(w:M):Prop where
 oU:KM g r bn bi kt c L x w0 (D 9) O w
 val:∀j,(R)=R->D j=R->vs j=zu g r bn x j
variable {g r bn bi kt c L x w0}
def Vg(h:p:=by
 unfold oV.rc RC.cs at q;dsimp only at q;go_simp;refine hK ku _ _ rfl ⟨?_,vM hI.val⟩;rw[oH];exact hN):p:=h
def Qh{id:Nat}{Q:Exit->Act->M->Prop}{N:M}(ht0:a0.tmps.getD 0 ku=nG (U (Z r 0 V)))(ht3:a0.tmps.getD 3 ku=nG (U (Z g 0 V)))(LG:a0.tmps.getD 9 ku=nG (U (Z kt 0 V)))(hsz:a0.tmps.size=76)(hI0:∀vs:Nat->jC,(λw=>KM g r bn bi kt c L x w0 O O w) N.drew)(aa:∀(vs:Nat->jC) (w:M),KM g r bn bi kt c L x w0 R O w->Q .normal {a0 with tmps:=(((((((((a0.tmps.setIfInBounds 58 (nG (U (Z r 0 V)))).setIfInBounds 59 (nG (U (Z r 0 V)))).setIfInBounds 60 (nG (U (Z r 6 V)))).setIfInBounds 61 (.map (U bn))).setIfInBounds 62 (nG (U (Z g 1 V)))).setIfInBounds 63 (G x.r.name)).setIfInBounds 64 (nI #[Y nN x.r.id,G x.r.name,G x.r.text])).setIfInBounds 65 (nI #[Y X x.r.ty.lab.kind,Y X x.r.ty.lab.size,u x.ou x.r.ty.sub.length x.cu,Y X x.r.ty.lab.tail])).setIfInBounds 66 (nI #[Y nN x.r.id,G x.r.name,G x.r.text,Y X x.r.ty.lab.kind,Y X x.r.ty.lab.size,u x.ou x.r.ty.sub.length x.cu,Y X x.r.ty.lab.tail]))} w):
  (kT id Et.toArray R).wp jy Q a0 N:=by
 refine oF 10 76 (a7b g r bn bi kt c L x w0) nV hsz nV (.inl rfl) nV ?_ ?_ ?_;.exact q9
 .refine sM λA ax=> ?_
  clear hI0 aa hsz;replace ht0:=H ht0;replace ht3:=H ht3;replace LG:=H LG;dsimp+instances only[Et,cO,cL,cR,cB,Tryz.f87];simp only[jY,kJ,rZ];refine⟨?_,?_,?_,?_,?_,?_,?_,?_,?_,?_,trivial⟩<;>(intro D vs a w am hI hd E ay C hK;subst ax;dsimp+instances only[Et,cO,cL,cR,cB,Tryz.f87]);have aB:=(C 0 nT).trans ht0.out;rotate_left;have az:=fe C hI.val E 58 0;rotate_left;have aA:=fe C hI.val E 59 1;rotate_left;have ae:=fe C hI.val E 60 2;simp only[zu]at ae;have c0:=hI.oU.rg.c6;rotate_left;have e3:=(C 3 nT).trans ht3.out;rotate_left;have af:=fe C hI.val E 62 4;simp only[zu]at af;have c0:=hI.oU.en.c1;rotate_left;have e3:=(C 3 nT).trans ht3.out;have hB:=hI.oU.en;obtain⟨c0,c1,c2⟩:=hB.a3;clear hB;rotate_left;have aC:=(C 9 nT).trans LG.out;have hB:=hI.oU.ty;obtain⟨c0,c1,c2,c3⟩:=hB.a4;clear hB;rotate_left;have I:=fe C hI.val E 64 6;have J:=fe C hI.val E 65 7;simp only[zu]at I J;have ag:=I;have ah:=J;rw[lD]at ag;rw[lD]at ah;rotate_left
  .have ai:=fe C hI.val E 61 3
   have aj:=fe C hI.val E 63 5;have ak:=fe C hI.val E 66 8;simp only[zu]at ai aj ak;have au:=hI.oU;rw[hd]at au;obtain⟨aD,q,hN⟩:=au.a2X;exact Vg
  all_goals
   try simp only[zu]at*
   go_simp;exact hK _ _ _ rfl ⟨hI.oU,vM hI.val⟩
 .intro D vs w av hI
  have E:=hI.oU;rw[av 9 nT]at E;have q:=aa vs w E;rw[pE hI.val av];dsimp+instances only[Et,cO,cL,cR,cB,Tryz.f87];exact q8
end
noncomputable def Eu:List lJ:=cO (cL (cR (cR (cR (cR (cR (cR (cR (cB Tryz.f87)))))))))
section
variable (g r bn bi kt:Nat)(c:oO)(L:List oV)(x:oV)(w0:M)
def zw:Nat->jC
 |0=> nG (U (Z r 0 V))
 |1=> nG (U (Z r 0 V))
 |2=> nG (U (Z r 7 V))
 |3=> .map (U bi)
 |4=> nG (U (Z g 0 V))
 |5=> Y nN x.r.id
 |6=> nI #[Y nN x.r.id,G x.r.name,G x.r.text]
 |7=> nI #[Y X x.r.ty.lab.kind,Y X x.r.ty.lab.size,u x.ou x.r.ty.sub.length x.cu,Y X x.r.ty.lab.tail]
 |8=> nI #[Y nN x.r.id,G x.r.name,G x.r.text,Y X x.r.ty.lab.kind,Y X x.r.ty.lab.size,u x.ou x.r.ty.sub.length x.cu,Y X x.r.ty.lab.tail]
 |_=>ku
structure a7c(D:Nat->Bool)(vs:Nat->jC)(w:M):Prop where
 oU:KM g r bn bi kt c L x w0 R (D 9) w
 val:∀j,(R)=R->D j=R->vs j=zw g r bi x j
variable {g r bn bi kt c L x w0}
def a0z{id:Nat}{Q:Exit->Act->M->Prop}{N:M}(ht0:a0.tmps.getD 0 ku=nG (U (Z r 0 V)))(ht3:a0.tmps.getD 3 ku=nG (U (Z g 0 V)))(LG:a0.tmps.getD 9 ku=nG (U (Z kt 0 V)))(hsz:a0.tmps.size=76)(hI0:∀vs:Nat->jC,(λw=>KM g r bn bi kt c L x w0 R O w) N.drew)(aa:∀(vs:Nat->jC) (w:M),KM g r bn bi kt c L x w0 R R w->Q .normal {a0 with tmps:=(((((((((a0.tmps.setIfInBounds 67 (nG (U (Z r 0 V)))).setIfInBounds 68 (nG (U (Z r 0 V)))).setIfInBounds 69 (nG (U (Z r 7 V)))).setIfInBounds 70 (.map (U bi))).setIfInBounds 71 (nG (U (Z g 0 V)))).setIfInBounds 72 (Y nN x.r.id)).setIfInBounds 73 (nI #[Y nN x.r.id,G x.r.name,G x.r.text])).setIfInBounds 74 (nI #[Y X x.r.ty.lab.kind,Y X x.r.ty.lab.size,u x.ou x.r.ty.sub.length x.cu,Y X x.r.ty.lab.tail])).setIfInBounds 75 (nI #[Y nN x.r.id,G x.r.name,G x.r.text,Y X x.r.ty.lab.kind,Y X x.r.ty.lab.size,u x.ou x.r.ty.sub.length x.cu,Y X x.r.ty.lab.tail]))} w):
  (kT id Eu.toArray R).wp jy Q a0 N:=by
 refine oF 10 76 (a7c g r bn bi kt c L x w0) nV hsz nV (.inl rfl) nV ?_ ?_ ?_;.exact q9
 .refine sM λA ax=> ?_
  clear hI0 aa hsz;replace ht0:=H ht0;replace ht3:=H ht3;replace LG:=H LG;dsimp+instances only[Eu,cO,cL,cR,cB,Tryz.f87];simp only[jY,kJ,rZ];refine⟨?_,?_,?_,?_,?_,?_,?_,?_,?_,?_,trivial⟩<;>(intro D vs a w am hI hd E ay C hK;subst ax;dsimp+instances only[Eu,cO,cL,cR,cB,Tryz.f87]);have aB:=(C 0 nT).trans ht0.out;rotate_left;have az:=fe C hI.val E 67 0;rotate_left;have aA:=fe C hI.val E 68 1;rotate_left;have ae:=fe C hI.val E 69 2;simp only[zw]at ae;have c0:=hI.oU.rg.c7;rotate_left;have e3:=(C 3 nT).trans ht3.out;rotate_left;have af:=fe C hI.val E 71 4;simp only[zw]at af;have c0:=hI.oU.en.c0;rotate_left;have e3:=(C 3 nT).trans ht3.out;have hB:=hI.oU.en;obtain⟨c0,c1,c2⟩:=hB.a3;clear hB;rotate_left;have aC:=(C 9 nT).trans LG.out;have hB:=hI.oU.ty;obtain⟨c0,c1,c2,c3⟩:=hB.a4;clear hB;rotate_left;have I:=fe C hI.val E 73 6;have J:=fe C hI.val E 74 7;simp only[zw]at I J;have ag:=I;have ah:=J;rw[lD]at ag;rw[lD]at ah;rotate_left
  .have ai:=fe C hI.val E 70 3
   have aj:=fe C hI.val E 72 5;have ak:=fe C hI.val E 75 8;simp only[zw]at ai aj ak;have au:=hI.oU;rw[hd]at au;obtain⟨aD,q,hN⟩:=au.b0C;exact Vg
  all_goals
   try simp only[zw]at*
   go_simp;exact hK _ _ _ rfl ⟨hI.oU,vM hI.val⟩
 .intro D vs w av hI
  have E:=hI.oU;rw[av 9 nT]at E;have q:=aa vs w E;rw[pE hI.val av];dsimp+instances only[Eu,cO,cL,cR,cB,Tryz.f87];exact q8
end
end
section
open Go.RowKit
end
section
def a0A(n:Nat):List Ax:=if h:n<10 then [jU (48+n)]else a0A (n/10)++[jU (48+n % 10)]
mutual
def put:nS TL->List Ax
 | .node a s=>
  if a.kind=1 then 117::a0A (8*a.size).toNat
  else if a.kind=2 then 98::a0A a.size.toNat
  else if a.kind=3 then 115::a0A a.size.toNat
  else if a.kind=4 then 91::(a7d R 0 s++58::(a0A a.size.toNat++[93]))
  else 123::(a7d R a.tail.toNat s++[125])
def a7d:Bool->Nat->List (nS TL)->List Ax
 |_,_,[]=>[]
 |first,t,x::xs=>(if first then []else [44])++((if xs.length+1<=t then [63]else [])++(put x++a7d O t xs))
end
def LK(ds:List Ax)(b:Ax):zO (ds++[b])=10*zO ds+(b.toNat - 48):=by simp[zO]
def Xn(l:List Ax):qx l++past l=l:=by
 induction l with
 |nil=>rfl
 |cons b r A=>simp only[qx,past];split<;>simp_all
def a0B(l:List Ax):∀b,b∈qx l->vN b=R:=by
 induction l with
 |nil=>intro b h;cases h
 |cons c r A=>
  intro b h;simp only[qx]at h;split at h
  .rcases l5.1 h with h|h
   .subst h;assumption
   .exact A b h
  .cases h
end
section
open Go.RowKit
def ui(w:M)(b:Nat)(s:An)(p l:Nat):Prop:=nU w b #[G s,Y X (p:Int),Y X (l:Int)] 208
def ui.c0{w:M}{b:Nat}{s:An}{p l:Nat}(h:ui w b s p l):w.cell? (Z b 0 V)=U (G s):=h.cell 0
def ui.c1{w:M}{b:Nat}{s:An}{p l:Nat}(h:ui w b s p l):w.cell? (Z b 1 V)=U (Y X p):=h.cell 1
def ui.c2{w:M}{b:Nat}{s:An}{p l:Nat}(h:ui w b s p l):w.cell? (Z b 2 V)=U (Y X l):=h.cell 2
def ui.drewN{w:M}{b:Nat}{s:An}{p l:Nat}(h:ui w b s p l)(n:Nat):ui (w.drewN n) b s p l:=nU.drewN h n
def ui.move{w:M}{b:Nat}{s:An}{p l:Nat}(h:ui w b s p l)(q:Nat):ui (w.setCell (Z b 1 V) (Y X (q:Int))) b s q l:=nU.set h 1 _
def ui.left{w:M}{b:Nat}{s:An}{p l:Nat}(h:ui w b s p l)(q:Nat):ui (w.setCell (Z b 2 V) (Y X (q:Int))) b s p q:=nU.set h 2 _
def nW(s:An)(p:Nat):List Ax:=s.data.toList.drop p
def rT{s:An}{p:Nat}(h:p<s.size):nW s p=s[p]::nW s (p+1):=by
 unfold nW;rw[nA (by simpa using h)];rfl
def sV{s:An}{p:Nat}(h:s.size<=p):nW s p=[]:=by
 unfold nW;exact List.drop_eq_nil_of_le (by simpa using h)
def LM{s:An}{p:Nat}(hp:p<=s.size)(h:nW s p=[]):p=s.size:=by
 rcases kQ p s.size with A|A
 .rw[rT A]at h;cases h
 .omega
def oZ(c:Ax)(l:List Ax):Bool:=At (l.head? =U c)
def Vh(h:p:=by
 go_in;go_wp2_with fail;go_quiet (fail);go_wp2;go_returns;exact⟨rfl,(pX.refl b w).drewN _,HB.drewN _⟩):p:=h
def uY(b:Nat)(s:An)(p l:Nat)(c:Ax)(w:M)(hs:s.size<=jN)(hp:p<=s.size)(hb:ui w b s p l):
  jG jy 215 #[nG (U (Z b 0 V)),Y .u8 (c.toNat:Int)] w λe w'=>e=nK (nH (oZ c (nW s p)))/\pX b w w'/\
   ui w' b s (if oZ c (nW s p)then p+1 else p) l:=by
 unfold jN at hs;obtain⟨c0,c1⟩:=hb.a2;have f1:=nU.free hb 1;have HB:=H hb;clear hb;rcases kQ p s.size with h|h
 .have hn:oZ c (nW s p)=At (s[p]=c):=by rw[rT h];simp[oZ]
  have C:((p:Int)==s.size)=O:=nY;rw[hn];by_cases hc:s[p]=c
  .have A:((s[p].toNat:Int) !=(c.toNat:Int))=O:=by rw[hc];simp
   rw[decide_eq_true hc];clear hn hc;go_in;go_wp2_with fail;go_quiet (fail);go_wp2;go_returns;exact⟨rfl,((pX.refl b w).drewN _).set 1 _,by simpa using(HB.drewN _).move (p+1)⟩
  .have A:((s[p].toNat:Int) !=(c.toNat:Int))=R:=by
    rw[bne_iff_ne];intro E;exact hc (lX.1 K)
   rw[decide_eq_false hc];clear hn hc;exact Vh
 .obtain rfl:p=s.size:=K
  have hn:oZ c (nW s s.size)=O:=by rw[sV (jB _)];rfl
  rw[hn];clear hn;exact Vh
def Qi:∀(l:List Ax)(k:Nat),k<(qx l).length->∃b,l[k]? =U b/\vN b=R/\(qx l).take (k+1)=(qx l).take k++[b]
 |[],k,h=>by simp[qx]at h
 |c::r,k,h=>by
  by_cases hc:vN c=R
  .have e:qx (c::r)=c::qx r:=by simp[qx,hc]
   rw[e]at h|-;cases k with
   |zero=>exact⟨c,rfl,hc,rfl⟩
   |succ k=>
    obtain⟨b,A,C,E⟩:=Qi r k (by simpa using h);exact⟨b,by simpa using A,C,by rw[jY,E];rfl⟩
  .have e:qx (c::r)=[]:=by simp[qx,hc]
   rw[e]at h;simp at h
def zx:∀ l:List Ax,past l=l.drop (qx l).length
 |[]=>rfl
 |c::r=>by
  by_cases hc:vN c=R;.simp[qx,past,hc,zx r]
  .simp[qx,past,hc]
def FL:∀(l:List Ax)(b:Ax),(past l).head? =U b->vN b=O
 |[],b,h=>by simp[past]at h
 |c::r,b,h=>by
  by_cases hc:vN c=R;.simp only[past,hc,if_true]at h;exact FL r b h
  .simp only[past,hc,if_false]at h
   simp at h;subst h;simpa using hc
def Nz(ds:List Ax)(k:Nat):zO (ds.take k)<=zO ds:=by
 unfold zO;conv=>rhs;rw[<-mO k ds,List.foldl_append]
 exact Pt _ _
def Xo{s:An}{p k:Nat}{b:Ax}(h:(nW s p)[k]? =U b):∃h:p+k<s.size,s[p+k]=b:=by
 unfold nW at h;rw[List.getElem?_drop]at h;obtain⟨A,C⟩:=lu.1 h;exact⟨by simpa using A,C⟩
def Aa(s:An)(p k:Nat):(nW s p).drop k=nW s (p+k):=by unfold nW;rw[List.drop_drop]
def Qj(ds:List Ax):Bd ds=(At (ds.length=1)||(At (1<ds.length)&&At (ds.head?≠U 48))):=by
 cases ds with
 |nil=>rfl
 |cons b r=>cases r with
  |nil=>rfl
  |cons c r=>
   simp only[Bd,j4,List.head?_cons];have:(b.toNat≠48)<->(U b≠U (48:Ax)):=by
    constructor;.intro h A;cases A;exact h rfl
    .intro h A;exact h (congrArg U (lX.1 A))
   simp[this]
def a0C{most:Nat}{l:List Ax}(h:most<zO (qx l)):num most l=V:=by
 unfold num;rw[As];simp;intro _;omega
def a0D{most:Nat}{l:List Ax}(h:Bd (qx l)=O):num most l=V:=by
 unfold num;rw[As];simp[h]
def a0E{most:Nat}{l:List Ax}(h:Bd (qx l)=R)(A:zO (qx l)<=most):num most l=U (zO (qx l),past l):=by
 unfold num;rw[AC];simp[h,A]
def a4l{D p k q:Nat}(h:p+k=q)(c:k<D):D -(q+1 - p)<D -(q - p):=K
def NA(b:Nat)(s:An)(p l most:Nat)(w:M)(e:Ending)(w':M):Prop:=
 ∃(n:Nat) (ok:Bool) (A:Nat),e=nK (nJ #[Y X (n:Int),nH ok])/\pX b w w'/\ui w' b s A l/\A<=s.size/\n<=most/\
  (ok=R->num most (nW s p)=U (n,nW s A))/\(ok=O->num most (nW s p)=V)
def Vi(h:p:=by
 have h1:=congrArg List.length (Xn (nW s p));rw[jK,hD]at h1;have h0:(nW s p).length=s.size - p:=by unfold nW;rw[kG];rfl
 omega):p:=h
def Vj(h:p:=by
 simp only[vN,Bool.and_eq_false_iff,decide_eq_false_iff_not]at h2;rcases h2 with h2|h2
 .exact .inl ⟨h,K⟩
 .exact .inr ⟨h,K⟩):p:=h
def Vk(h:p:=by
 obtain⟨b,h1,h2,h3⟩:=Qi (nW s p) k K;obtain⟨h4,h5⟩:=Xo h1;exact⟨h4,by rw[h5];exact h2,by rw[h5];exact h3⟩):p:=h
def a0F(h:p:=by
 clear he1 he2 hk1 fin HWD;rcases hend with rfl|⟨hlt,hb'⟩|⟨hlt,hb'⟩
 .have d0:At ((s.size:Int)<s.size)=O:=nX
  go_wp2_with fail;go_quiet (fail);go_wp2_with fail;go_quiet (fail);go_wp2_with fail;exact HP _ _ ⟨n,O,_,rfl,(HU.drewN _).drewN _,(HR.drewN _).drewN _,hqs,hn,by have h:=KN.out;simpa using h⟩
 .have d0:At ((q:Int)<s.size)=R:=nY
  have d1:At ((48:Int)<=(s[q].toNat:Int))=O:=nY;clear hb';go_wp2_with fail;go_quiet (fail);go_wp2_with fail;go_quiet (fail);go_wp2_with fail;exact HP _ _ ⟨n,O,_,rfl,(HU.drewN _).drewN _,(HR.drewN _).drewN _,hqs,hn,by have h:=KN.out;simpa using h⟩
 .have d0:At ((q:Int)<s.size)=R:=nY
  have d1:At ((48:Int)<=(s[q].toNat:Int))=R:=nY;have d2:At ((s[q].toNat:Int)<=57)=O:=nY;clear hb';go_wp2_with fail;go_quiet (fail);go_wp2_with fail;go_quiet (fail);go_wp2_with fail;exact HP _ _ ⟨n,O,_,rfl,(HU.drewN _).drewN _,(HR.drewN _).drewN _,hqs,hn,by have h:=KN.out;simpa using h⟩):p:=h
def a0G(h:p:=by
 rcases hend with rfl|⟨hlt,hb'⟩|⟨hlt,hb'⟩
 .have d0:At ((s.size:Int)<s.size)=O:=nX
  go_wp2_with fail;go_quiet (fail);go_wp2_with fail;go_quiet (fail);go_wp2_with fail;exact HP _ _ ⟨n,R,_,rfl,(HU.drewN _).drewN _,(HR.drewN _).drewN _,hqs,hn,by have h:=KN.out;simpa using h⟩
 .have d0:At ((q:Int)<s.size)=R:=nY
  have d1:At ((48:Int)<=(s[q].toNat:Int))=O:=nY;clear hb';go_wp2_with fail;go_quiet (fail);go_wp2_with fail;go_quiet (fail);go_wp2_with fail;exact HP _ _ ⟨n,R,_,rfl,(HU.drewN _).drewN _,(HR.drewN _).drewN _,hqs,hn,by have h:=KN.out;simpa using h⟩
 .have d0:At ((q:Int)<s.size)=R:=nY
  have d1:At ((48:Int)<=(s[q].toNat:Int))=R:=nY;have d2:At ((s[q].toNat:Int)<=57)=O:=nY;clear hb';go_wp2_with fail;go_quiet (fail);go_wp2_with fail;go_quiet (fail);go_wp2_with fail;exact HP _ _ ⟨n,R,_,rfl,(HU.drewN _).drewN _,(HR.drewN _).drewN _,hqs,hn,by have h:=KN.out;simpa using h⟩):p:=h
def a0H(h:p:=by
 obtain⟨h1,h2,h3⟩:=HG.out 0 h;refine⟨K,?_⟩;have h4:=congrArg List.head? h3;simp only[mU,kJ,List.nil_append,List.head?_cons,nk]at h4;rw[<-h4];cases qx (nW s p)<;>rfl):p:=h
def a0I(h:p:=by
 rcases kQ 1 k with h|h
 .obtain⟨h1,_⟩:=H0.out K
  by_cases h2:s[p].toNat=48;.exact .inr (.inr (.inl ⟨h,h1,h2⟩))
  .exact .inr (.inr (.inr ⟨h,h1,h2⟩))
 .omega):p:=h
def Xp(b:Nat)(s:An)(p l most:Nat)(w:M)(hs:s.size<=jN)(hp:p<=s.size)(aN:most<=65536)(hb:ui w b s p l):
  jG jy 214 #[nG (U (Z b 0 V)),Y X (most:Int)] w (NA b s p l most w):=by
 unfold jN at hs;have c1:=hb.c1;have aB:=H hb;obtain⟨D,hD⟩:=og ((qx (nW s p)).length);have au:=H hD;have aK:p+D<=s.size:=by
  exact Vi
 have HG:jI (∀k,k<D->∃h:p+k<s.size,vN s[p+k]=R/\(qx (nW s p)).take (k+1)=(qx (nW s p)).take k++[s[p+k]]):=H λk hk=>by
  exact Vk
 have aC:jI (∀h:p+D<s.size,vN s[p+D]=O):=H λh=>by
  refine FL (nW s p) _ ?_;rw[zx,hD,Aa,rT h];rfl
 have aD:jI (past (nW s p)=nW s (p+D)):=H (by rw[zx,hD,Aa]);have H0:jI (0<D->∃h:p<s.size,(qx (nW s p)).head? =U s[p]):=H λh=>by
  exact a0H
 generalize av:NA b s p l most w=ai;have HP:jI (∀e w',NA b s p l most w e w'->ai e w'):=H λe w' h=>by rw[<-av];exact h
 clear hb hD av;go_in;go_wp2_with fail;clear c1;go_loopw [7] (λaF J=>∃(k n:Nat),aF=Y X n/\k<=D/\n<=most/\jI (n=zO ((qx (nW s p)).take k))/\jI (ui J b s (p+k) l)/\jI (pX b w J)) (λ_ J=>D -(match J.cell? (Z b 1 V)with|some v=>(kC v).toNat - p|none=>0));case atStart=>exact⟨0,0,rfl,K,K,by simp[jI,zO],H aB.out,H (pX.refl _ _)⟩
 case round=>
  obtain⟨k,n,rfl,hk,hn,aj,HR,HU⟩:=hrel;obtain⟨q,N⟩:=og (p+k);have E:=H N;rw[N]at HR;have hqs:q<=s.size:=K;obtain⟨c0,c1⟩:=HR.a2;have f1:=nU.free HR 1;have I:=H (HG k);rw[N]at I;clear N;by_cases c:k<D
  .obtain⟨hlt,C,htake⟩:=I.out c
   simp only[vN,jJ,decide_eq_true_eq]at C;have ae:=H (jF C htake);have d0:At ((q:Int)<s.size)=R:=nY;have d1:At ((48:Int)<=(s[q].toNat:Int))=R:=nY;have d2:At ((s[q].toNat:Int)<=57)=R:=nY;have aG:48<=(s[q].toNat:Int):=K;have aH:(s[q].toNat:Int)<=57:=K;clear htake C;by_cases aa:most<10*n+(s[q].toNat - 48)
   .have aI:At ((most:Int)<10*(n:Int)+((s[q].toNat:Int) - 48))=R:=nY
    have ak:=H aa;clear aa;go_wp2_with fail;go_quiet (fail);go_wp2_with fail;go_quiet (fail);go_wp2_with fail;refine HP _ _ ⟨0,O,q+1,rfl,(HU.drewN _).set 1 _,by simpa using(HR.drewN _).move (q+1),hlt,K,(λh=>by cases h),λ_=>a0C ?_⟩;have h1:=ak.out;have h2:=Nz (qx (nW s p)) (k+1);rw[ae.2,LK,<-aj.out]at h2;omega
   .have aI:At ((most:Int)<10*(n:Int)+((s[q].toNat:Int) - 48))=O:=nY
    have ak:=H aa;clear aa;go_wp2_with fail;go_quiet (fail);go_wp2_with fail;go_quiet (fail);go_wp2_with fail;have af:∀m,ui ((wr.drewN m).setCell (Z b 1 V) (Y X ((q:Int)+1))) b s (q+1) l:=λm=>by simpa using(HR.drewN m).move (q+1)
    refine⟨⟨k+1,10*n+(s[q].toNat - 48),by congr 1;omega,K,by have:=ak.out;omega,H ?_,H (by rw[show p+(k+1)=q+1 by have:=E.out;omega];exact af _),H ((HU.drewN _).set 1 _)⟩,?_⟩;.rw[ae.2,LK,<-aj.out]
    .have e1:=λm=>(af m).c1
     have h3:=E.out;simp only[e1,c1,kC,Int.toNat_natCast];exact a4l h3 c
  .obtain rfl:k=D:=K
   have ag:jI (n=zO (qx (nW s p))):=H (by rw[aj.out,kS (by have:=au.out;omega)]);have ax:jI (past (nW s p)=nW s q):=H (by rw[aD.out,E.out]);have hend:q=s.size\/(∃h:q<s.size,s[q].toNat<48)\/(∃h:q<s.size,57<s[q].toNat):=by
    rcases kQ q s.size with h|h
    .right
     have h1:=aC.out;rw[E.out]at h1;have h2:=h1 h;exact Vj
    .exact .inl K
   have hlen:k=0\/k=1\/(1<k/\∃h:p<s.size,jI (s[p].toNat=48))\/(1<k/\∃h:p<s.size,jI (s[p].toNat≠48)):=by
    exact a0I
   have HWD:jI (Bd (qx (nW s p))=(At (k=1)||(At (1<k)&&At ((qx (nW s p)).head?≠U 48)))):=H (by rw[Qj,au.out]);have fin:jI (∀ok:Bool,Bd (qx (nW s p))=ok->(ok=R->num most (nW s p)=U (n,nW s q))/\(ok=O->num most (nW s p)=V)):=H λok hok=>
    ⟨λh=>by rw[a0E (by rw[hok,h]) (by rw[<-ag.out];omega),<-ag.out,ax.out],λh=>a0D (by rw[hok,h])⟩
   have ah:(q:Int)=p+k:=by have:=E.out;omega
   have aL:=H ah;have ay:(∃e1:Bool,((q:Int) - p==1)=e1/\e1=At (k=1))/\∃e2:Bool,At (1<(q:Int) - p)=e2/\e2=At (1<k):=by
    refine⟨⟨_,rfl,?_⟩,_,rfl,?_⟩;.rw[Bool.eq_iff_iff];simp;omega
    .rw[decide_eq_decide];omega
   obtain⟨⟨e1,aM,he1⟩,e2,az,he2⟩:=ay;clear ah I;rcases hlen with hk1|hk1|⟨hk1,aA,A⟩|⟨hk1,aA,A⟩
   .obtain rfl:e1=O:=by rw[he1];simp;omega
    obtain rfl:e2=O:=by rw[he2];simp;omega
    have KN:=H (fin O (by rw[HWD.out];simp;omega));exact a0F
   .obtain rfl:e1=R:=by rw[he1];simp;omega
    have KN:=H (fin R (by rw[HWD.out];simp;omega));clear he1 he2 az hk1 fin HWD;exact a0G
   .obtain rfl:e1=O:=by rw[he1];simp;omega
    obtain rfl:e2=R:=by rw[he2];simp;omega
    have d5:((s[p].toNat:Int) !=48)=O:=by have:=A.out;simp;omega
    have KN:=H (fin O (by
     obtain⟨_,h5⟩:=H0.out K;rw[HWD.out,h5,show s[p]=48 from lX.1 A.out];simp;omega))
    exact a0F
   .obtain rfl:e1=O:=by rw[he1];simp;omega
    obtain rfl:e2=R:=by rw[he2];simp;omega
    have d5:((s[p].toNat:Int) !=48)=R:=by have:=A.out;simp;omega
    have KN:=H (fin R (by
     obtain⟨_,h5⟩:=H0.out K;have aJ:s[p]≠48:=λh=>A.out (by rw[h];rfl)
     rw[HWD.out,h5];simp[aJ];omega))
    clear he1 he2 hk1 fin HWD;exact a0G
def ui.below{w w':M}{b:Nat}{s:An}{p l:Nat}(h:ui w b s p l)(hb:jD w.heap.size w w'):ui w' b s p l:=Below.blk hb h (nU.lt h)
def ui.lt{w:M}{b:Nat}{s:An}{p l:Nat}(h:ui w b s p l):b<w.heap.size:=nU.lt h
def qM(w:M)(g:Nat)(a b c d:jC):M:=(((w.setCell (Z g 0 V) a).setCell (Z g 1 V) b).setCell (Z g 2 V) c).setCell (Z g 3 V) d
def oP(w:M)(g:Nat)(a b c d:jC):(((w.setCell (Z g 0 V) a).setCell (Z g 1 V) b).setCell (Z g 2 V) c).setCell (Z g 3 V) d=qM w g a b c d:=rfl
def Qk{w:M}{g:Nat}{x y z ao a b c d:jC}{t:jX}(h:nU w g #[x,y,z,ao] t):nU (qM w g a b c d) g #[a,b,c,d] t:=by
 have:=(((h.set 0 a).set 1 b).set 2 c).set 3 d;simpa [qM]using this
def Ev{b0:Nat}{ao w:M}{g:Nat}{a b c d:jC}(h:pX b0 ao w)(hg:ao.heap.size<=g):pX b0 ao (qM w g a b c d):=
 pX.CW (pX.CW (pX.CW (pX.CW h (a:=(Z g 0 V)) hg a) (a:=(Z g 1 V)) hg b) (a:=(Z g 2 V)) hg c) (a:=(Z g 3 V)) hg d
def Ab{w:M}{g h:Nat}{a b c d:jC}{cs:Array jC}{t:jX}(hb:nU w h cs t)(A:h≠g):nU (qM w g a b c d) h cs t:=
 (((hb.setOther (a:=(Z g 0 V)) A a).setOther (a:=(Z g 1 V)) A b).setOther (a:=(Z g 2 V)) A c).setOther (a:=(Z g 3 V)) A d
def Ca{w:M}{g:Nat}{a b c d:jC}(k:Nat)(h:k≠g):(qM w g a b c d).heap[k]? =w.heap[k]? :=by
 unfold qM;rw[jW _ _ _ _ h,jW _ _ _ _ h,jW _ _ _ _ h,jW _ _ _ _ h]
def zy{w:M}{g:Nat}{a b c d:jC}:(qM w g a b c d).heap.size=w.heap.size:=by simp[qM,j5]
def xE{w:M}{g:Nat}{a b c d:jC}{Q:Nat->Prop}{v:jC}{s:List (nS TL)}(h:oD.om w Q v s)(A:∀k,Q k->k≠g):oD.om (qM w g a b c d) Q v s:=
 h.keep (lZ zy.symm) (λ_ _ h=>h) λk _ hk=>Ca k (A k hk)
def zz(kind:Int)(b:Nat)(s:An)(p l most:Nat)(w:M)(e:Ending)(w':M):Prop:=
 ∃(n:Nat) (ok:Bool) (A:Nat),e=nK (nJ #[nI #[Y X kind,Y X (n:Int),u V 0 0,Y X 0],nH ok])/\pX b w w'/\ui w' b s A l/\A<=s.size/\n<=most/\
  (ok=R->num most (nW s p)=U (n,nW s A))/\(ok=O->num most (nW s p)=V)
def Ew(kind:Int)(b C:Nat)(s:An)(p l most:Nat)(w:M)(hs:s.size<=jN)(hp:p<=s.size)(az:most<=65536)(hb:ui w b s p l)(ah:w.cell? (Z C 0 V)=U (nG (U (Z b 0 V)))):
  jG jy 213 #[Y X kind,Y X (most:Int),nG (U (Z C 0 V))] w (zz kind b s p l most w):=by
 have E:C<w.heap.size:=by
  rcases kQ C w.heap.size with h|h
  .exact h
  .simp[mV,Array.getElem?_eq_none h]at ah
 obtain⟨g,hg⟩:=og w.heap.size
 have ai:jI (∀W,w.alloc (nL #[Y X 0,Y X 0,u V 0 0,Y X 0] 63)=W->pX b w W/\ui W b s p l/\W.cell? (Z C 0 V)=U (nG (U (Z b 0 V)))/\
   nU W g #[Y X 0,Y X 0,u V 0 0,Y X 0] 63):=H λW h=>by
  subst h;have I:=(jE w.heap.size w).alloc (jB _) (nL #[Y X 0,Y X 0,u V 0 0,Y X 0] 63);exact⟨pX.of I,hb.below I,(I.cell (p:=(Z C 0 V)) E).trans ah,hg▸nU.new w _ _⟩
 have aG:b<g:=hg▸hb.lt;clear hb ah E;go_in;go_upto_region 1 with fail;generalize w.alloc (nL #[Y X 0,Y X 0,u V 0 0,Y X 0] 63)=w1 at*;obtain⟨N,aa,aH,ae⟩:=ai.out _ rfl;have aA:=H (Xp b s p l most w1 hs hp az aa);have aj:=H N;have ak:=H ae;clear ai N aa ae;go_wp2_with fail;refine(aA).mono ?_;rintro e w2 ⟨n,ok,aB,rfl,J,af,au,av,hok,ag⟩;have A:nU w2 g #[Y X 0,Y X 0,u V 0 0,Y X 0] 63:=J.blk ak K;have aI:w2.cell? (Z g 0 V)=U (Y X 0):=A.cell 0;have aJ:w2.cell? (Z g 1 V)=U (Y X 0):=A.cell 1;have aK:w2.cell? (Z g 2 V)=U (u V 0 0):=A.cell 2;have aL:w2.cell? (Z g 3 V)=U (Y X 0):=A.cell 3;obtain⟨z0,aM,aN,z3⟩:=A.f4;have aC:=H (jF (aj.trans J) (jF af (jF au (jF av (jF hok ag)))));have ax:=H A;clear J af hok ag A;go_wp2_with fail;rw[oP];obtain⟨aD,a2,a3,a4,a5,a6⟩:=aC.out;have ay:=Qk (a:=Y X kind) (b:=Y X (n:Int)) (c:=u V 0 0) (d:=Y X 0) (show nU w2 g #[Y X 0,Y X 0,u V 0 0,Y X 0] 63 from ax.out);obtain⟨aF,e1,e2,e3⟩:=ay.a4;refine jO (v:=nJ #[nI #[Y X kind,Y X n,u V 0 0,Y X 0],nH ok]) (by simp[kF,Tryz.results213,go_sem,aF,e1,e2,e3]) rfl ?_;exact⟨n,ok,aB,rfl,Ev aD K,Ab a2 K,a3,a4,a5,a6⟩
abbrev TT:jX:=63
def uF(ar:Option (nS TL×List Ax×Nat))(b:Nat)(s:An)(w:M)(e:Ending)(w':M):Prop:=
 ∃(a:TL) (o:Option kW) (n c:Nat) (ok:Bool) (A C:Nat),e=nK (nJ #[nI #[Y X a.kind,Y X a.size,u o n c,Y X a.tail],nH ok])/\pX b w w'/\ui w' b s A C/\A<=s.size/\C<=64/\
  (ok=R->∃sub,ar=U (.node a sub,nW s A,C)/\TL.wf a/\oD.om w' (λk=>w.heap.size<=k) (u o n c) sub)/\(ok=O->ar=V)
def rA{c:Ax}{s:An}{p:Nat}(hp:p<=s.size)(h:oZ c (nW s p)=R):p<s.size/\nW s p=c::nW s (p+1):=by
 rcases kQ p s.size with A|A
 .rw[rT A]at h|-
  simp[oZ]at h;exact⟨A,by rw[h]⟩
 .rw[sV A]at h;simp[oZ]at h
def uh{c:Ax}{l r:List Ax}(h:oZ c l=O)(e:l=c::r):False:=by
 rw[e]at h;simp[oZ]at h
def JN{s:An}{p t:Nat}(hp:p<=s.size)(h:oZ 63 (nW s p)=R):mark (nW s p) t=U (nW s (p+1),t+1):=by
 rw[(rA hp h).2];rfl
def NC{s:An}{p t:Nat}(h:oZ 63 (nW s p)=O):mark (nW s p) t=if 0<t then V else U (nW s p,t):=by
 unfold mark;split;.rename_i r e;exact(uh h e).elim
 .rfl
def SN{Fv:List Ax->Nat->Option (nS TL×List Ax×Nat)}{f n t:Nat}{l:List Ax}{sub:List (nS TL)}(h:mark l t=V):xU Fv (f+1) l n sub t=V:=by
 simp only[xU,h];rfl
def SQ{Fv:List Ax->Nat->Option (nS TL×List Ax×Nat)}{f n t C:Nat}{l A:List Ax}{sub:List (nS TL)}(h:mark l t=U (A,C))(E:Fv A n=V):xU Fv (f+1) l n sub t=V:=by
 simp only[xU,h,kr,E];rfl
def Ql{Fv:List Ax->Nat->Option (nS TL×List Ax×Nat)}{f n t A n2:Nat}{l C r:List Ax}{sub:List (nS TL)}(h:mark l t=U (C,A))(E:Fv C n=U (x,125::r,n2)):
  xU Fv (f+1) l n sub t=U (.node ⟨5,0,A⟩ (sub++[x]),r,n2):=by
 simp only[xU,h,kr,E]
def LP{Fv:List Ax->Nat->Option (nS TL×List Ax×Nat)}{f n t A n2:Nat}{l C r:List Ax}{sub:List (nS TL)}(h:mark l t=U (C,A))(E:Fv C n=U (x,44::r,n2)):
  xU Fv (f+1) l n sub t=xU Fv f r n2 (sub++[x]) A:=by
 simp only[xU,h,kr,E]
def Xq{Fv:List Ax->Nat->Option (nS TL×List Ax×Nat)}{f n t C n2:Nat}{l A l2:List Ax}{sub:List (nS TL)}(h:mark l t=U (A,C))(E:Fv A n=U (x,l2,n2))(I:oZ 125 l2=O)(J:oZ 44 l2=O):xU Fv (f+1) l n sub t=V:=by
 simp only[xU,h,kr,E];split;.exact(uh I rfl).elim
 .exact(uh J rfl).elim
 .rfl
def Ex:Tryz.prog.underlying 61=U (.slice TT):=Tryz.underlying61
def Vl:(Tryz.prog.info? TT).map (λi=>(i.zero,i.size,i.bytes))=U (U (nI #[Y X 0,Y X 0,u V 0 0,Y X 0]),4,48):=nV
def ND:∀(a:TL)(o:Option kW)(n c:Nat),∀ao∈oD.cells a (u o n c),ao.oneCell'=R:=by
 intro a o n c ao A;simp[oD]at A;rcases A with rfl|rfl|rfl|rfl<;>rfl
def Yn(w:M)(g:Nat)(v:jC)(t:Nat):Prop:=nU w g #[Y X 5,Y X 0,v,Y X (t:Int)] TT
def Yn.more{w:M}{g t:Nat}{v:jC}(h:Yn w g v t):Yn (w.setCell (Z g 3 V) (Y X ((t:Int)+1))) g v (t+1):=by
 have:=nU.set h 3 (Y X ((t:Int)+1));simpa [Yn]using this
def Yn.sub{w:M}{g t:Nat}{v:jC}(h:Yn w g v t)(v':jC):Yn (w.setCell (Z g 2 V) v') g v' t:=by
 have:=nU.set h 2 v';simpa [Yn]using this
structure JO(w0:M)(b gr B:Nat)(s:An)(p l:Nat)(v:jC)(L:List (qA TL))(t:Nat)(w:M):Prop where
 upd:pX b w0 w
 rd:ui w b s p l
 res:∃cs,nU w gr cs TT/\cs.size=4
 st:Yn w (gr+1) v t
 own:wQ oD TT w B v L
 hp:p<=s.size
 hl:l<=64
 hlen:L.length<=64
 ht:t<=64
 hB:B<=w.heap.size
def xG{w:M}{g:Nat}{cs:Array jC}{a b c d:jC}{t:jX}(h:nU w g cs t)(hs:cs.size=4):nU (qM w g a b c d) g #[a,b,c,d] t:=by
 obtain⟨l⟩:=cs
 match l,hs with
 |[x,y,z,ao],_=>exact Qk h
def Qm{ar:Option (nS TL×List Ax×Nat)}{b gr:Nat}{s:An}{w0 w:M}{p l:Nat}(I:pX b w0 w)(J:ui w b s p l)(hp:p<=s.size)(hl:l<=64)(hg:∃cs,nU w gr cs TT/\cs.size=4)(A:w0.heap.size<=gr)(hb:b<w0.heap.size)(N:ar=V):
  (qM w gr (Y X 0) (Y X 0) (u V 0 0) (Y X 0)).cell? (Z gr 0 V)=U (Y X 0)/\(qM w gr (Y X 0) (Y X 0) (u V 0 0) (Y X 0)).cell? (Z gr 1 V)=U (Y X 0)/\
   (qM w gr (Y X 0) (Y X 0) (u V 0 0) (Y X 0)).cell? (Z gr 2 V)=U (u V 0 0)/\(qM w gr (Y X 0) (Y X 0) (u V 0 0) (Y X 0)).cell? (Z gr 3 V)=U (Y X 0)/\
   uF ar b s w0 (nK (nJ #[nI #[Y X 0,Y X 0,u V 0 0,Y X 0],nH O])) (qM w gr (Y X 0) (Y X 0) (u V 0 0) (Y X 0)):=by
 obtain⟨cs,C,E⟩:=hg;have hB:=xG (a:=Y X 0) (b:=Y X 0) (c:=u V 0 0) (d:=Y X 0) C E;exact⟨hB.cell 0,hB.cell 1,hB.cell 2,hB.cell 3,⟨0,0,0⟩,V,0,0,O,p,l,rfl,Ev I A,Ab J K,hp,hl,(λh=>by cases h),λ_=>N⟩
def JO.sub{w0 w w':M}{b gr B p l t:Nat}{s:An}{v:jC}{L:List (qA TL)}(h:JO w0 b gr B s p l v L t w)(A:pX b w w')(I:b<gr)(ae:gr+2<=B){C E:Nat}(J:ui w' b s C E)(hp:C<=s.size)(hl:E<=64):
  JO w0 b gr B s C E v L t w':=by
 obtain⟨cs,N,aa⟩:=h.res;exact⟨h.upd.trans A,J,⟨cs,A.blk N K,aa⟩,A.blk h.st K,h.own.upd A K,hp,hl,h.hlen,h.ht,jM h.hB A.size⟩
def JO.more{w0 w:M}{b gr B p l t:Nat}{s:An}{v:jC}{L:List (qA TL)}(h:JO w0 b gr B s p l v L t w)(A:b<gr)(J:gr+2<=B)(N:w0.heap.size<=gr)(ht:t<64):
  JO w0 b gr B s p l v L (t+1) (w.setCell (Z (gr+1) 3 V) (Y X ((t:Int)+1))):=by
 obtain⟨cs,C,E⟩:=h.res;have I:pX (gr+1) w (w.setCell (Z (gr+1) 3 V) (Y X ((t:Int)+1))):=(pX.refl _ _).set 3 _;exact⟨h.upd.CW (a:=(Z (gr+1) 3 V)) (show w0.heap.size<=gr+1 by omega) _,nU.setOther h.rd nY _,⟨cs,C.setOther nX _,E⟩,h.st.more,h.own.upd I K,h.hp,h.hl,h.hlen,K,by simpa [j5]using h.hB⟩
def JO.grown{w0 w w':M}{b gr B p l t:Nat}{s:An}{v v':jC}{L:List (qA TL)}{y:qA TL}(h:JO w0 b gr B s p l v L t w)(I:b<gr)(af:gr+2<=B)(ag:w0.heap.size<=gr)(hL:L.length<64)(ho:wQ oD TT w' B v' (L++[y]))(hb:jD B w w')(hsz:w.heap.size<w'.heap.size)(hg:w.grownBy w' v.ownBlock):JO w0 b gr B s p l v' (L++[y]) t (w'.setCell (Z (gr+1) 2 V) v'):=by
 obtain⟨cs,J,N⟩:=h.res;have aa:pX (gr+1) w' (w'.setCell (Z (gr+1) 2 V) v'):=(pX.refl _ _).set 2 _;have ae:ui w' b s p l:=Below.blk hb h.rd K;have A:Yn w' (gr+1) v t:=Below.blk hb h.st K;have C:pX b w0 w':=⟨hg.os.trans h.upd.os,hg.tape.trans h.upd.tape,hg.output.trans h.upd.output,jM h.upd.size hg.size,λk hk E=>by
  rw[<-h.upd.block k hk E];refine hg.block k (jZ hk h.upd.size) λe=> ?_
  have:=(h.own.block k e.symm).1;omega⟩
 exact⟨C.CW (a:=(Z (gr+1) 2 V)) (show w0.heap.size<=gr+1 by omega) _,nU.setOther ae nY _,⟨cs,(Below.blk hb J K).setOther nX _,N⟩,A.sub v',ho.upd aa K,h.hp,h.hl,nY,h.ht,by simp[j5];have:=h.hB;omega⟩
def JO.c0{w0 w:M}{b gr B p l t:Nat}{s:An}{v:jC}{L:List (qA TL)}(h:JO w0 b gr B s p l v L t w):w.cell? (Z (gr+1) 0 V)=U (Y X 5)/\w.cell? (Z (gr+1) 1 V)=U (Y X 0)/\
  w.cell? (Z (gr+1) 2 V)=U v/\w.cell? (Z (gr+1) 3 V)=U (Y X (t:Int))/\w.frozen? (Z (gr+1) 2 V)=O/\w.frozen? (Z (gr+1) 3 V)=O:=by
 have:=h.st;exact⟨nU.cell this 0,nU.cell this 1,nU.cell this 2,nU.cell this 3,nU.free this 2,nU.free this 3⟩
def JO.r0{w0 w:M}{b gr B p l t:Nat}{s:An}{v:jC}{L:List (qA TL)}(h:JO w0 b gr B s p l v L t w):(∃x,w.cell? (Z gr 0 V)=U x)/\(∃x,w.cell? (Z gr 1 V)=U x)/\(∃x,w.cell? (Z gr 2 V)=U x)/\(∃x,w.cell? (Z gr 3 V)=U x)/\
  w.frozen? (Z gr 0 V)=O/\w.frozen? (Z gr 1 V)=O/\w.frozen? (Z gr 2 V)=O/\w.frozen? (Z gr 3 V)=O:=by
 obtain⟨⟨l⟩,A,C⟩:=h.res
 match l,C with
 |[x,y,z,ao],_=>exact⟨⟨x,A.cell 0⟩,⟨y,A.cell 1⟩,⟨z,A.cell 2⟩,⟨ao,A.cell 3⟩,A.free 0,A.free 1,A.free 2,A.free 3⟩
def JO.NF{w0 w:M}{b gr B p l t:Nat}{s:An}{v:jC}{L:List (qA TL)}(h:JO w0 b gr B s p l v L t w)(A:w0.heap.size<=gr)(hb:b<w0.heap.size):
  (qM w gr (Y X 0) (Y X 0) (u V 0 0) (Y X 0)).cell? (Z gr 0 V)=U (Y X 0)/\(qM w gr (Y X 0) (Y X 0) (u V 0 0) (Y X 0)).cell? (Z gr 1 V)=U (Y X 0)/\
   (qM w gr (Y X 0) (Y X 0) (u V 0 0) (Y X 0)).cell? (Z gr 2 V)=U (u V 0 0)/\(qM w gr (Y X 0) (Y X 0) (u V 0 0) (Y X 0)).cell? (Z gr 3 V)=U (Y X 0)/\
   uF V b s w0 (nK (nJ #[nI #[Y X 0,Y X 0,u V 0 0,Y X 0],nH O])) (qM w gr (Y X 0) (Y X 0) (u V 0 0) (Y X 0)):=
 Qm h.upd h.rd h.hp h.hl h.res A hb rfl
def JO.NG{w0 w:M}{b gr B p l t:Nat}{s:An}{oa:Option kW}{n cap:Nat}{L:List (qA TL)}(h:JO w0 b gr B s p l (u oa n cap) L t w)(E:w0.heap.size<=gr)(hb:b<w0.heap.size)(N:gr+2<=B):
  (qM w gr (Y X 5) (Y X 0) (u oa n cap) (Y X t)).cell? (Z gr 0 V)=U (Y X 5)/\(qM w gr (Y X 5) (Y X 0) (u oa n cap) (Y X t)).cell? (Z gr 1 V)=U (Y X 0)/\
   (qM w gr (Y X 5) (Y X 0) (u oa n cap) (Y X t)).cell? (Z gr 2 V)=U (u oa n cap)/\(qM w gr (Y X 5) (Y X 0) (u oa n cap) (Y X t)).cell? (Z gr 3 V)=U (Y X t)/\
   uF (U (.node ⟨5,0,t⟩ (L.map qA.tree),nW s p,l)) b s w0 (nK (nJ #[nI #[Y X 5,Y X 0,u oa n cap,Y X t],nH R])) (qM w gr (Y X 5) (Y X 0) (u oa n cap) (Y X t)):=by
 obtain⟨cs,A,C⟩:=h.res;have hB:=xG (a:=Y X 5) (b:=Y X 0) (c:=u oa n cap) (d:=Y X t) A C;have ht:=h.ht;refine⟨hB.cell 0,hB.cell 1,hB.cell 2,hB.cell 3,⟨5,0,t⟩,oa,n,cap,R,p,l,rfl,Ev h.upd E,Ab h.rd K,h.hp,h.hl,(λ_=>⟨L.map qA.tree,rfl,⟨rfl,rfl,?_⟩,?_⟩),λh=>by cases h⟩
 .have I:IntKind.i64.min= -9223372036854775808:=rfl
  have J:IntKind.i64.max=9223372036854775807:=rfl;simp[Lit.wf,I,J];omega
 .exact(xE h.own.subs (λk hk=>by omega)).keep (jB _) (λk _ hk=>by omega) λ_ _ _=>rfl
def Vm(h:p:=by
 have hal:=(jE w4.heap.size w4).alloc (jB _) o;exact F4.sub (pX.of hal) HC.1 (jB _) (F4.rd.below hal) Q3 hl4):p:=h
def a0J(h:p:=by
 rw[hq2]at CP3;have HQ2:=H hq2;clear hq2;go_wp2_with fail;refine(CP3).mono ?_;rintro e w9 ⟨rfl,hu9,SH⟩;have F9:=H (F8.sub hu9 HC.1 (jB _) (show ui w9 b s p2 l2 from by simpa using SH) Q3 K);clear hu9 SH;obtain⟨⟨x0,r0⟩,⟨x1,r1⟩,⟨x2,r2⟩,⟨x3,r3⟩,y0,y1,y2,y3⟩:=F9.r0;go_wp2_with fail;rw[oP];obtain⟨e0,e1,e2,e3,hpost⟩:=F9.NF HC.2.1 HC.2.2;refine jO (v:=nJ #[nI #[Y X 0,Y X 0,u V 0 0,Y X 0],nH O]) (by simp[kF,Tryz.results216,go_sem,e0,e1,e2,e3]) rfl ?_;rw[<-HP.out,HR.out,Xq SS.out Yo.out HQ1.out HQ2.out];exact hpost):p:=h
def a0K(h:p:=by
 go_upto_region 9 with fail;have F6:=H (F5 (nL #[Y X a.kind,Y X a.size,u o n c,Y X a.tail] TT));generalize w4.alloc (nL #[Y X a.kind,Y X a.size,u o n c,Y X a.tail] TT)=w5 at*;obtain⟨⟨x0,r0⟩,⟨x1,r1⟩,⟨x2,r2⟩,⟨x3,r3⟩,y0,y1,y2,y3⟩:=F6.r0;go_wp2_with fail;rw[oP];obtain⟨e0,e1,e2,e3,hpost⟩:=F6.NF HC.2.1 HC.2.2;refine jO (v:=nJ #[nI #[Y X 0,Y X 0,u V 0 0,Y X 0],nH O]) (by simp[kF,Tryz.results216,go_sem,e0,e1,e2,e3]) rfl ?_;rw[<-HP.out,HR.out,SQ SS.out HN.out];exact hpost):p:=h
def a0L(h:p:=by
 subst h;have hal:=(jE w4.heap.size w4).alloc (jB _) (nL #[Y X a.kind,Y X a.size,u o n c,Y X a.tail] TT);exact⟨F4.sub (pX.of hal) HC.1 (jB _) (F4.rd.below hal) Q3 hl4,nU.new w4 _ _,hal⟩):p:=h
def Xr(D dep b:Nat)(s:An)(hs:s.size<=jN)(dz:dep<=8)(bZ:∀(p l:Nat) (w:M),p<=s.size->l<=64->ui w b s p l->jG jy 171 #[nG (U (Z b 0 V)),Y X ((dep:Int)+1)] w (uF (rd D (nW s p) l) b s w))(p l:Nat)(w:M)(hp:p<=s.size)(hl:l<=63)(hb:ui w b s p l):
  jG jy 216 #[nG (U (Z b 0 V)),Y X (dep:Int)] w
   (uF (if oZ 125 (nW s p)then U (.node ⟨5,0,0⟩ [],nW s (p+1),l)else xU (rd D) (l+2) (nW s p) l [] 0) b s w):=by
 obtain⟨g,hg⟩:=og w.heap.size;have cz:b<g:=hg▸hb.lt;have cK:jI (∀W,(w.alloc (nL #[Y X 0,Y X 0,u V 0 0,Y X 0] TT)).alloc (nL #[Y X 5,Y X 0,u V 0 0,Y X 0] TT)=W->JO w b g (g+2) s p l (u V 0 0) [] 0 W):=H λW h=>by
  subst h;have hal:=(jE w.heap.size w).alloc (jB _) (nL #[Y X 0,Y X 0,u V 0 0,Y X 0] TT);have bK:=nU.new w #[Y X 0,Y X 0,u V 0 0,Y X 0] TT;have cZ:=hb.below hal;have df:(w.alloc (nL #[Y X 0,Y X 0,u V 0 0,Y X 0] TT)).heap.size=g+1:=nY;generalize w.alloc (nL #[Y X 0,Y X 0,u V 0 0,Y X 0] TT)=w1 at*;have aV:=(jE w1.heap.size w1).alloc (jB _) (nL #[Y X 5,Y X 0,u V 0 0,Y X 0] TT);have bL:=nU.new w1 #[Y X 5,Y X 0,u V 0 0,Y X 0] TT;rw[df]at bL;rw[hg]at bK;refine⟨(pX.of hal).trans (pX.of aV),cZ.below aV,⟨_,Below.blk aV bK K,rfl⟩,bL,wQ.nil _ _ _ _,hp,K,nX,nX,nY⟩
 have hw0:w.heap.size<=g:=K;have hb0:b<w.heap.size:=hb.lt;have dh:=H bZ;have bg:=H hs;obtain⟨ar,bQ⟩:∃ar,(if oZ 125 (nW s p)then U (.node ⟨5,0,0⟩ [],nW s (p+1),l)else xU (rd D) (l+2) (nW s p) l [] 0)=ar:=⟨_,rfl⟩;have HR:=H bQ;rw[bQ];obtain⟨dA,bR⟩:=og (uF ar b s w);have HP:=H bR;rw[bR];have HC:=H (jF cz (jF hw0 hb0));clear bQ bR bZ hb hs hw0 hb0;obtain⟨dE,hi,bM,bN,bO⟩:=info_parts Vl;go_in;go_upto_region 2 with fail;generalize (w.alloc (nL #[Y X 0,Y X 0,u V 0 0,Y X 0] TT)).alloc (nL #[Y X 5,Y X 0,u V 0 0,Y X 0] TT)=w1 at*;have bJ:=H (cK _ rfl)
 have bq:jI (jG jy 215 #[nG (U (Z b 0 V)),Y .u8 125] w1 λe w'=>e=nK (nH (oZ 125 (nW s p)))/\pX b w1 w'/\ui w' b s (if oZ 125 (nW s p)then p+1 else p) l):=
  H (uY b s p l 125 w1 bg hp bJ.rd)
 clear cK;cases ae:oZ 125 (nW s p)with
 |true=>
  rw[ae]at bq HR;have aJ:=H (rA hp ae);clear ae;go_wp2_with fail;refine(bq).mono ?_;rintro e w2 ⟨rfl,A,C⟩;have I:=H (bJ.sub A HC.1 (jB _) (show ui w2 b s (p+1) l from by simpa using C) (by have:=aJ.1;omega) K);obtain⟨c0,c1,c2,c3,J,z3⟩:=I.c0;obtain⟨⟨x0,r0⟩,⟨x1,r1⟩,⟨x2,r2⟩,⟨x3,r3⟩,y0,y1,y2,y3⟩:=I.r0;clear A C;go_wp2_with fail;rw[oP];have N:=I.NG HC.2.1 HC.2.2 (jB _);simp only[show((0:Nat):Int)=0 from rfl]at N;obtain⟨e0,e1,e2,e3,hpost⟩:=N;refine jO (v:=nJ #[nI #[Y X 5,Y X 0,u V 0 0,Y X 0],nH R]) (by
   simp[kF,Tryz.results216,go_sem,e0,e1,e2,e3]) rfl ?_
  rw[<-HP.out,<-HR.out];exact hpost
 |false=>
  rw[ae]at bq HR;clear ae;go_wp2_with fail;refine(bq).mono ?_;rintro e w2 ⟨rfl,A,C⟩;have I:=H (bJ.sub A HC.1 (jB _) (show ui w2 b s p l from by simpa using C) hp K);clear A C bq bJ;go_wp2_with fail
  go_loopw [7,8] (λ_ _ bS=>∃(f p l t:Nat) (v:jC) (L:List (qA TL)),jI (JO w b g (g+2) s p l v L t bS)/\l<f/\jI (ar=xU (rd D) f (nW s p) l (L.map qA.tree) t)/\L.length+l<=63/\t<=L.length/\p<=s.size)
   (λ_ _ bS=>match bS.cell? (Z b 2 V)with|some v=>(kC v).toNat|none=>0)
  case atStart=>exact⟨l+2,p,l,0,u V 0 0,[],H I.out,K,H (by rw[<-HR.out];simp),nY,nX,hp⟩
  case round=>
   clear I HR hp hl;obtain⟨f,p,l,t,v,L,F,dF,HR,dw,dx,hp⟩:=hrel;obtain⟨f,rfl⟩:∃dB,f=dB+1:=⟨f - 1,K⟩;have hl:l<=63:=K;obtain⟨oa,cap,rfl⟩:=F.own.slice;obtain⟨c0,c1,c2,c3,J,z3⟩:=F.c0
   have bu:jI (jG jy 215 #[nG (U (Z b 0 V)),Y .u8 63] wr λe w'=>e=nK (nH (oZ 63 (nW s p)))/\pX b wr w'/\ui w' b s (if oZ 63 (nW s p)then p+1 else p) l):=
    H (uY b s p l 63 wr bg hp F.rd)
   have bP:jI (wr.cell? (Z b 2 V)=U (Y X (l:Int))):=H F.rd.c2;obtain⟨aq,bT⟩:=og L.length;have aK:=H bT;have aL:jI (oZ 63 (nW s p)=R->mark (nW s p) t=U (nW s (p+1),t+1)/\p<s.size):=H λh=>⟨JN hp h,(rA hp h).1⟩
   have ax:jI (oZ 63 (nW s p)=O->mark (nW s p) t=if 0<t then V else U (nW s p,t)):=H λh=>NC h
   rw[bT]at dw dx F c2;clear bT;cases ae:oZ 63 (nW s p)with
   |true=>
    rw[ae]at bu;have aJ:=H (aL ae);clear ae aL ax;go_wp2_with fail;refine(bu).mono ?_;rintro e w2 ⟨rfl,A,C⟩;have I:=H (F.sub A HC.1 (jB _) (show ui w2 b s (p+1) l from by simpa using C) (by have:=aJ.2;omega) K);clear A C c0 c1 c2 c3 J z3 F;obtain⟨c0,c1,c2,c3,J,z3⟩:=I.c0;go_upto_region 8 with fail;have aM:=H (I.more HC.1 (jB _) HC.2.1 K);generalize w2.setCell (Z (g+1) 3 V) (Y X ((t:Int)+1))=w3 at*;have SS:=H aJ.1;have bz:p+1<=s.size:=by have:=aJ.2;omega
    clear c0 c1 c2 c3 J z3 I aJ;have bA:=H (dh (p+1) l w3 bz K aM.rd);go_wp2_with fail;refine(bA).mono ?_;rintro e w4 ⟨a,o,n,c,ok,p2,l2,rfl,aN,aO,Q3,hl4,hok,ay⟩;have F4:=H (aM.sub aN HC.1 (jB _) aO Q3 hl4);have bB:=H aM.own.block;have bC:=H aM.hB;clear aN aO bA;cases ok with
    |false=>
     have HN:=H (ay rfl);clear hok ay;have F5:jI (∀o,JO w b g (g+2) s p2 l2 (u oa aq cap) L (t+1) (w4.alloc o)):=H λo=>by
      exact Vm
     exact a0K
    |true=>
     have aP:=H (hok rfl);clear hok ay;have F5:jI (∀W,w4.alloc (nL #[Y X a.kind,Y X a.size,u o n c,Y X a.tail] TT)=W->JO w b g (g+2) s p2 l2 (u oa aq cap) L (t+1) W/\nU W w4.heap.size #[Y X a.kind,Y X a.size,u o n c,Y X a.tail] TT/\jD w4.heap.size w4 W):=H λW h=>by
      exact a0L
     go_upto_region 9 with fail;generalize w4.alloc (nL #[Y X a.kind,Y X a.size,u o n c,Y X a.tail] TT)=w5 at*;obtain⟨aQ,ah,af⟩:=F5.out _ rfl;have F6:=H aQ;obtain⟨c0,c1,c2,c3,J,z3⟩:=F6.c0;obtain⟨bU,bV,bW,bX⟩:=ah.a4;have az:jI (∃sub,rd D (nW s (p+1)) l=U (.node a sub,nW s p2,l2)/\TL.wf a/\oD.om w5 (λk=>g+2<=k/\(kI oa aq cap).ownBlock≠U k) (u o n c) sub):=H (by
      obtain⟨sub,ag,bY,bD⟩:=aP.out;refine⟨sub,ag,bY,bD.keep af.size (λk hk ae=>⟨?_,λe=> ?_⟩) λk hk ae=>af.block k hk⟩;.have:=bC.out;omega
      .have:=(bB k e).2;omega)
     clear F5 aQ ah af F4 aP;obtain⟨sub,Yo,aA,ai⟩:=az.out;have Yo:=H Yo;have aR:=H aA;have aS:=H ai;have ah:g+2<=w5.heap.size:=F6.hB;have aB:=H F6.own;have aC:=H (Zf _ _ _ _ Yo).2.1;clear az aA ai;go_upto_region 12 with(at_builtin;refine yH (S:=oD) Ex hi bM bN bO rfl nT ND rfl (.tmp 34) (.tmp 36) rfl (g+2) (u oa aq cap) L ⟨a,u o n c,sub⟩ w5 _ rfl rfl aB rfl (by have:=aK.out;omega) nT ah aR aS ?_;intro g2 aD aW aj ak aF aG;have bE:aW.cell? (Z (g+1) 2 V)=U (u oa aq cap):=(ak.cell (p:=(Z (g+1) 2 V)) (show g+1<g+2 by omega)).trans c2;have bF:aW.frozen? (Z (g+1) 2 V)=O:=(ak.frozen (p:=(Z (g+1) 2 V)) (show g+1<g+2 by omega)).trans J)
     have aH:=H (F6.grown HC.1 (jB _) HC.2.1 (by have:=aK.out;omega) aj ak aF aG);generalize aW.setCell (Z (g+1) 2 V) (u (U (Z g2 0 V)) (L.length+1) aD)=aX at*;have aI:jI ((L++[(⟨a,u o n c,sub⟩:qA TL)]).map qA.tree=L.map qA.tree++[.node a sub]):=H (by simp[qA.tree]);have aT:jI ((L++[(⟨a,u o n c,sub⟩:qA TL)]).length=aq+1):=H (by rw[jK,aK.out];rfl);obtain⟨aY,aU⟩:∃aY,L++[(⟨a,u o n c,sub⟩:qA TL)]=aY:=⟨_,rfl⟩;rw[aU]at aI aT aH;have bG:=nS.za (nS.node a sub);have bH:l2<l:=by have:=aC.out;simp only at this;omega
     clear bE bF aj ak aF aG c0 c1 c2 c3 J z3 bU bV bW bX aB aS aR aU bG aC;rw[aK.out]at aH
     have au:jI (jG jy 215 #[nG (U (Z b 0 V)),Y .u8 125] aX λe w'=>e=nK (nH (oZ 125 (nW s p2)))/\pX b aX w'/\ui w' b s (if oZ 125 (nW s p2)then p2+1 else p2) l2):=
      H (uY b s p2 l2 125 aX bg Q3 aH.rd)
     have bI:=H (λh=>rA (c:=125) (s:=s) (p:=p2) Q3 h);have aZ:=H (λh=>rA (c:=44) (s:=s) (p:=p2) Q3 h);cases E:oZ 125 (nW s p2)with
     |true=>
      rw[E]at au;have HQ1:=H (bI E);clear E;go_wp2_with fail;refine(au).mono ?_;rintro e av ⟨rfl,aa,Ko⟩;have F8:=H (aH.sub aa HC.1 (jB _) (show ui av b s (p2+1) l2 from by simpa using Ko) (by have:=HQ1.1;omega) K);clear aa Ko;obtain⟨c0,c1,c2,c3,J,z3⟩:=F8.c0;obtain⟨⟨x0,r0⟩,⟨x1,r1⟩,⟨x2,r2⟩,⟨x3,r3⟩,y0,y1,y2,y3⟩:=F8.r0;rw[aK.out];go_wp2_with fail;rw[oP];have N:=F8.NG HC.2.1 HC.2.2 (jB _);try simp only[show((0:Nat):Int)=0 from rfl]at N
      obtain⟨e0,e1,e2,e3,hpost⟩:=N;refine jO (v:=nJ #[nI #[Y X 5,Y X 0,u (U (Z g2 0 V)) (aq+1) aD,Y X ((t:Int)+1)],nH R]) (by simp[kF,Tryz.results216,go_sem]at e0 e1 e2 e3|-;simp[go_sem,e0,e1,e2,e3]) rfl ?_;have ag:=Yo.out;rw[HQ1.2]at ag;rw[<-HP.out,HR.out,Ql SS.out ag,<-aI.out];exact hpost
     |false=>
      rw[E]at au;have HQ1:=H E;clear E;go_wp2_with fail;refine(au).mono ?_;rintro e av ⟨rfl,aa,Ko⟩;have F8:=H (aH.sub aa HC.1 (jB _) (show ui av b s p2 l2 from by simpa using Ko) Q3 K);clear aa Ko
      have CP3:jI (jG jy 215 #[nG (U (Z b 0 V)),Y .u8 44] av λe w'=>e=nK (nH (oZ 44 (nW s p2)))/\pX b av w'/\ui w' b s (if oZ 44 (nW s p2)then p2+1 else p2) l2):=
       H (uY b s p2 l2 44 av bg Q3 F8.rd)
      cases hq2:oZ 44 (nW s p2)with
      |true=>
       rw[hq2]at CP3;have HQ2:=H (aZ hq2);clear hq2;go_wp2_with fail;refine(CP3).mono ?_;rintro e w9 ⟨rfl,hu9,SH⟩;have F9:=H (F8.sub hu9 HC.1 (jB _) (show ui w9 b s (p2+1) l2 from by simpa using SH) (by have:=HQ2.1;omega) K);clear hu9 SH;go_wp2_with fail;have ag:=Yo.out;rw[HQ2.2]at ag;have bD:=aT.out;refine⟨⟨f,p2+1,l2,t+1,_,aY,H F9.out,K,H (by rw[HR.out,LP SS.out ag,aI.out]),K,K,by have:=HQ2.1;omega⟩,?_⟩;have e1:=F9.rd.c2;have e2:=bP.out;simp only[e1,e2,kC,Int.toNat_natCast];exact bH
      |false=>
       exact a0J
   |false=>
    rw[ae]at bu;have aJ:=H (ax ae);clear ae aL ax;by_cases h0:0<t
    .have dG:At (0<(t:Int))=R:=nY
     have dD:=H h0;clear h0;go_wp2_with fail;refine(bu).mono ?_;rintro e w2 ⟨rfl,A,C⟩;have I:=H (F.sub A HC.1 (jB _) (show ui w2 b s p l from by simpa using C) hp K);clear A C c0 c1 c2 c3 J z3 F;obtain⟨c0,c1,c2,c3,J,z3⟩:=I.c0;obtain⟨⟨x0,r0⟩,⟨x1,r1⟩,⟨x2,r2⟩,⟨x3,r3⟩,y0,y1,y2,y3⟩:=I.r0;go_wp2_with fail;rw[oP];obtain⟨e0,e1,e2,e3,hpost⟩:=I.NF HC.2.1 HC.2.2;refine jO (v:=nJ #[nI #[Y X 0,Y X 0,u V 0 0,Y X 0],nH O]) (by simp[kF,Tryz.results216,go_sem,e0,e1,e2,e3]) rfl ?_;rw[<-HP.out,HR.out,SN (by rw[aJ.out,AC dD.out])];exact hpost
    .obtain rfl:t=0:=K
     clear h0;go_wp2_with fail;refine(bu).mono ?_;rintro e w2 ⟨rfl,A,C⟩;have I:=H (F.sub A HC.1 (jB _) (show ui w2 b s p l from by simpa using C) hp K);clear A C c0 c1 c2 c3 J z3 F;obtain⟨c0,c1,c2,c3,J,z3⟩:=I.c0;go_upto_region 8 with fail;have SS:jI (mark (nW s p) 0=U (nW s p,0)):=H (by rw[aJ.out];simp);have aM:=H I.out;generalize w2=w3 at*;have bz:p<=s.size:=hp;clear c0 c1 c2 c3 J z3 I aJ;have bA:=H (dh (p) l w3 bz K aM.rd);go_wp2_with fail;refine(bA).mono ?_;rintro e w4 ⟨a,o,n,c,ok,p2,l2,rfl,aN,aO,Q3,hl4,hok,ay⟩;have F4:=H (aM.sub aN HC.1 (jB _) aO Q3 hl4);have bB:=H aM.own.block;have bC:=H aM.hB;clear aN aO bA;cases ok with
     |false=>
      have HN:=H (ay rfl);clear hok ay;have F5:jI (∀o,JO w b g (g+2) s p2 l2 (u oa aq cap) L (0) (w4.alloc o)):=H λo=>by
       exact Vm
      exact a0K
     |true=>
      have aP:=H (hok rfl);clear hok ay;have F5:jI (∀W,w4.alloc (nL #[Y X a.kind,Y X a.size,u o n c,Y X a.tail] TT)=W->JO w b g (g+2) s p2 l2 (u oa aq cap) L (0) W/\nU W w4.heap.size #[Y X a.kind,Y X a.size,u o n c,Y X a.tail] TT/\jD w4.heap.size w4 W):=H λW h=>by
       exact a0L
      go_upto_region 9 with fail;generalize w4.alloc (nL #[Y X a.kind,Y X a.size,u o n c,Y X a.tail] TT)=w5 at*;obtain⟨aQ,ah,af⟩:=F5.out _ rfl;have F6:=H aQ;obtain⟨c0,c1,c2,c3,J,z3⟩:=F6.c0;obtain⟨bU,bV,bW,bX⟩:=ah.a4;have az:jI (∃sub,rd D (nW s (p)) l=U (.node a sub,nW s p2,l2)/\TL.wf a/\oD.om w5 (λk=>g+2<=k/\(kI oa aq cap).ownBlock≠U k) (u o n c) sub):=H (by
       obtain⟨sub,ag,bY,bD⟩:=aP.out;refine⟨sub,ag,bY,bD.keep af.size (λk hk ae=>⟨?_,λe=> ?_⟩) λk hk ae=>af.block k hk⟩;.have:=bC.out;omega
       .have:=(bB k e).2;omega)
      clear F5 aQ ah af F4 aP;obtain⟨sub,Yo,aA,ai⟩:=az.out;have Yo:=H Yo;have aR:=H aA;have aS:=H ai;have ah:g+2<=w5.heap.size:=F6.hB;have aB:=H F6.own;have aC:=H (Zf _ _ _ _ Yo).2.1;clear az aA ai;go_upto_region 12 with(at_builtin;refine yH (S:=oD) Ex hi bM bN bO rfl nT ND rfl (.tmp 34) (.tmp 36) rfl (g+2) (u oa aq cap) L ⟨a,u o n c,sub⟩ w5 _ rfl rfl aB rfl (by have:=aK.out;omega) nT ah aR aS ?_;intro g2 aD aW aj ak aF aG;have bE:aW.cell? (Z (g+1) 2 V)=U (u oa aq cap):=(ak.cell (p:=(Z (g+1) 2 V)) (show g+1<g+2 by omega)).trans c2;have bF:aW.frozen? (Z (g+1) 2 V)=O:=(ak.frozen (p:=(Z (g+1) 2 V)) (show g+1<g+2 by omega)).trans J)
      have aH:=H (F6.grown HC.1 (jB _) HC.2.1 (by have:=aK.out;omega) aj ak aF aG);generalize aW.setCell (Z (g+1) 2 V) (u (U (Z g2 0 V)) (L.length+1) aD)=aX at*;have aI:jI ((L++[(⟨a,u o n c,sub⟩:qA TL)]).map qA.tree=L.map qA.tree++[.node a sub]):=H (by simp[qA.tree]);have aT:jI ((L++[(⟨a,u o n c,sub⟩:qA TL)]).length=aq+1):=H (by rw[jK,aK.out];rfl);obtain⟨aY,aU⟩:∃aY,L++[(⟨a,u o n c,sub⟩:qA TL)]=aY:=⟨_,rfl⟩;rw[aU]at aI aT aH;have bG:=nS.za (nS.node a sub);have bH:l2<l:=by have:=aC.out;simp only at this;omega
      clear bE bF aj ak aF aG c0 c1 c2 c3 J z3 bU bV bW bX aB aS aR aU bG aC;rw[aK.out]at aH
      have au:jI (jG jy 215 #[nG (U (Z b 0 V)),Y .u8 125] aX λe w'=>e=nK (nH (oZ 125 (nW s p2)))/\pX b aX w'/\ui w' b s (if oZ 125 (nW s p2)then p2+1 else p2) l2):=
       H (uY b s p2 l2 125 aX bg Q3 aH.rd)
      have bI:=H (λh=>rA (c:=125) (s:=s) (p:=p2) Q3 h);have aZ:=H (λh=>rA (c:=44) (s:=s) (p:=p2) Q3 h);cases E:oZ 125 (nW s p2)with
      |true=>
       rw[E]at au;have HQ1:=H (bI E);clear E;go_wp2_with fail;refine(au).mono ?_;rintro e av ⟨rfl,aa,Ko⟩;have F8:=H (aH.sub aa HC.1 (jB _) (show ui av b s (p2+1) l2 from by simpa using Ko) (by have:=HQ1.1;omega) K);clear aa Ko;obtain⟨c0,c1,c2,c3,J,z3⟩:=F8.c0;obtain⟨⟨x0,r0⟩,⟨x1,r1⟩,⟨x2,r2⟩,⟨x3,r3⟩,y0,y1,y2,y3⟩:=F8.r0;rw[aK.out];go_wp2_with fail;rw[oP];have N:=F8.NG HC.2.1 HC.2.2 (jB _);try simp only[show((0:Nat):Int)=0 from rfl]at N
       obtain⟨e0,e1,e2,e3,hpost⟩:=N;refine jO (v:=nJ #[nI #[Y X 5,Y X 0,u (U (Z g2 0 V)) (aq+1) aD,Y X 0],nH R]) (by simp[kF,Tryz.results216,go_sem]at e0 e1 e2 e3|-;simp[go_sem,e0,e1,e2,e3]) rfl ?_;have ag:=Yo.out;rw[HQ1.2]at ag;rw[<-HP.out,HR.out,Ql SS.out ag,<-aI.out];exact hpost
      |false=>
       rw[E]at au;have HQ1:=H E;clear E;go_wp2_with fail;refine(au).mono ?_;rintro e av ⟨rfl,aa,Ko⟩;have F8:=H (aH.sub aa HC.1 (jB _) (show ui av b s p2 l2 from by simpa using Ko) Q3 K);clear aa Ko
       have CP3:jI (jG jy 215 #[nG (U (Z b 0 V)),Y .u8 44] av λe w'=>e=nK (nH (oZ 44 (nW s p2)))/\pX b av w'/\ui w' b s (if oZ 44 (nW s p2)then p2+1 else p2) l2):=
        H (uY b s p2 l2 44 av bg Q3 F8.rd)
       cases hq2:oZ 44 (nW s p2)with
       |true=>
        rw[hq2]at CP3;have HQ2:=H (aZ hq2);clear hq2;go_wp2_with fail;refine(CP3).mono ?_;rintro e w9 ⟨rfl,hu9,SH⟩;have F9:=H (F8.sub hu9 HC.1 (jB _) (show ui w9 b s (p2+1) l2 from by simpa using SH) (by have:=HQ2.1;omega) K);clear hu9 SH;go_wp2_with fail;have ag:=Yo.out;rw[HQ2.2]at ag;have bD:=aT.out;refine⟨⟨f,p2+1,l2,0,_,aY,H F9.out,K,H (by rw[HR.out,LP SS.out ag,aI.out]),K,K,by have:=HQ2.1;omega⟩,?_⟩;have e1:=F9.rd.c2;have e2:=bP.out;simp only[e1,e2,kC,Int.toNat_natCast];exact bH
       |false=>
        exact a0J
end
end Go.Proofs.YtamfcjmhnndbdaaGreatDoor


