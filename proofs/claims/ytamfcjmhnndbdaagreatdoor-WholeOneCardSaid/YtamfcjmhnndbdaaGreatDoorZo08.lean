/- Part 8 of the proof. -/
import Derived.Test.YtamfcjmhnndbdaaGreatDoorZoA
import Derived.Test.YtamfcjmhnndbdaaGreatDoorZo00
import Derived.Test.YtamfcjmhnndbdaaGreatDoorZo03
import Derived.Test.YtamfcjmhnndbdaaGreatDoorZo05
import Derived.Test.YtamfcjmhnndbdaaGreatDoorZo06
import Derived.Test.YtamfcjmhnndbdaaGreatDoorZo07
import Derived.Laws.CopyOwn
import Derived.Lib.SliceRun
open Go.Value renaming agg→nI,bool→nH,int→Y,pointer→nG,slice→u,string→G,tuple→nJ,ownBlock→kz,slice→kI
open Go.Obj renaming cells→nL
open Go.IntKind renaming i64→X,u32→nO,u64→nN
open Go.Ending renaming returned→nK,returned→kZ
open Go.Lib renaming hid→H,trimRightB→kM
open Go.Proofs.Tryz renaming prog→jy,underlying86→lq
open Go renaming World→M,Value→jC,Calls→jG,maxLen→jN,bodyPost_ret→jO,TypeId→jX,undef→ku,results→kF,Addr→kW,Oper→lJ
open Nat renaming le_refl→jB,le_trans→jM,lt_of_lt_of_le→jZ,zero_le→ko,le_succ→kR,lt_succ_self→lF,le_of_eq→lZ,zero_add→mU
open Go.RowKit renaming Below→jD,Hid→jI
open Go.RowKit.Below renaming refl→jE,heap_setCell→jW
open And renaming intro→jF
open List renaming setIfInBounds_toArray→jH,getElem?_eq_getElem→jL,set_cons_zero→jQ,set_cons_succ→jR,getElem?_cons_zero→jS,getElem?_cons_succ→jT,getElem?_toArray→jV,take_succ_cons→jY,length_take→kD,length_drop→kG,take_zero→kJ,getElem?_eq_some_iff→lu,size_toArray→lK,length_eq_zero_iff→mh,mem_of_find?_eq_some→mY
open ByteArray renaming size_extract→jP
open Go.World renaming setCell→j5,cell?→mV
open Array renaming getElem?_eq_some_iff→j6,length_toList→kH,getElem?_modify→kU
open Go.Code renaming region→kT
open Go.Lit renaming int→kY
open Go.Sem renaming run→lL
open Bool renaming false_eq_true→lS
open Go.Act renaming put→mR
open Ne renaming symm→nz
open Option renaming none→V,some→U
open Bool renaming true→R,false→O
open Go.Addr renaming mk→Z
open Decidable renaming decide→At
namespace Go.Proofs.YtamfcjmhnndbdaaGreatDoor
set_option linter.unusedVariables false
set_option linter.defProp false
set_option linter.unusedSimpArgs false
set_option maxRecDepth 100000
set_option maxHeartbeats 8000000
variable {a0:Act}
section
open Go.RowKit
def Qc(ar:Except Nat (nS IL))(w:M)(e:Ending)(w':M):Prop:=match ar with
 | .error er=>e=nK (nJ #[nI rR,Y X (er:Nat)])/\jD w.heap.size w w'
 | .ok x=>∃v,e=nK (nJ #[nI #[G (txt x.lab),nH x.lab.list,v],Y X 0])/\oo w' (λc=>w.heap.size<=c) v x.sub/\jD w.heap.size w w'
def a3Y{w wa:M}{g:Nat}(hg:w.heap.size=g)(h:w.alloc (nL #[G ⟨#[]⟩,nH O,u V 0 0] IT)=wa):nU wa g rR IT/\jD g w wa/\wa.heap.size=g+1:=by
 subst h;exact⟨hg▸nU.new w _ _,hg▸(jE _ w).alloc (jB _) _,nY⟩
def a3Z(I items:Int)(am aq:Nat)(aS:(min I 16).toNat=am)(aT:(min items 1024).toNat=aq)(s:An)(w:M)(hs:s.size<=100000)(aK:(kY X I).wf=R)(aL:(kY X items).wf=R):
  jG jy 165 #[G s,Y X I,Y X items] w (Qc (Eg s.data.toList (xS am s.data.toList aq)) w):=by
 obtain⟨ar,aB⟩:=og (xS am s.data.toList aq);obtain⟨g,hg⟩:=og w.heap.size;obtain⟨wa,aM⟩:∃wa,w.alloc (nL #[G ⟨#[]⟩,nH O,u V 0 0] IT)=wa:=⟨_,rfl⟩;obtain⟨aD,ak,bg⟩:=a3Y hg aM;have aC:=a0n s I items wa hs aK aL;rw[aS,aT,aB]at aC;have aN:jI (∀y,ar=.ok y->y.2.1<=s.size/\0<y.2.1):=H λy hy=>by
  rw[<-aB]at hy;have h:=Hz hy;have hl:s.data.toList.length=s.size:=nX;omega
 have aC:=H aC;have ai:=H aD;have aF:=H ak;have aG:jI (s.data.toList.length=s.size):=H nX;obtain⟨aU,aI⟩:=og (Qc (Eg s.data.toList ar) w);have aJ:=H aI;rw[aB,aI];clear aD ak aI;go_in;go_wp2_with fail;refine aC.mono ?_;intro e w2 aj;cases ar with
 |error er=>
  have bq:=JB _ _ _ _ aB;have ag:jI (Eg s.data.toList (.error er)=.error er):=H rfl;obtain⟨rfl,J⟩:=aj;unfold rR;have bz:((er:Int) !=0)=R:=nY;have e1:((er:Int)==0)=O:=vo;have au:jI (∀W,w2.alloc (nL #[G ⟨#[]⟩,nH O,u V 0 0] IT)=W->jD wa.heap.size wa W/\nU W w2.heap.size #[G ⟨#[]⟩,nH O,u V 0 0] IT/\jD w2.heap.size w2 W):=H λW h=>by
   subst h;exact⟨J.alloc J.size _,nU.new w2 _ _,(jE _ w2).alloc (jB _) _⟩
  clear J;go_upto_region 2 with fail;generalize w2.alloc (nL #[G ⟨#[]⟩,nH O,u V 0 0] IT)=w3 at*;obtain⟨N,aa,ae⟩:=au.out _ rfl;have A:=Below.blk (N.mono (show g+1<=wa.heap.size by omega)) ai (lF g);have c0:w3.cell? (Z g 0 V)=U (G ⟨#[]⟩):=A.cell 0;have c1:w3.cell? (Z g 1 V)=U (nH O):=A.cell 1;have c2:w3.cell? (Z g 2 V)=U (u V 0 0):=A.cell 2;obtain⟨z0,aV,aW⟩:=A.f3;have af:=H (λa b c=>LF (a:=a) (b:=b) (c:=c) aF ai.lt (N.mono (show g+1<=wa.heap.size by omega)) A);obtain⟨aX,aY,y2⟩:=aa.a3;clear N aa ae A au;go_wp2_with fail;rw[uf];obtain⟨C,E⟩:=af.out (G ⟨#[]⟩) (nH O) (u V 0 0);obtain⟨av,ax,ay⟩:=C.a3;have ah:=H E;clear C E;refine jO (v:=nJ #[nI #[G ⟨#[]⟩,nH O,u V 0 0],Y X (er:Nat)]) (by simp[kF,Tryz.results165,go_sem,av,ax,ay,rR]) rfl ?_;rw[<-aJ.out,ag.out];exact⟨rfl,hg.symm▸ah.out⟩
 |ok y=>
  obtain⟨aO,aP⟩:=aN.out _ rfl;obtain⟨v,rfl,az,J⟩:=aj;obtain⟨x,n,m⟩:=y;simp only at az aO aP|-;obtain⟨o,c,aQ,_⟩:=oo.slice az;subst aQ;obtain⟨sn,aH⟩:=og x.sub.length;rw[aH]at az|-;have au:jI (∀W,w2.alloc (nL #[G (txt x.lab),nH x.lab.list,u o sn c] IT)=W->jD wa.heap.size wa W/\nU W w2.heap.size #[G (txt x.lab),nH x.lab.list,u o sn c] IT/\jD w2.heap.size w2 W):=H λW h=>by
   subst h;exact⟨J.alloc J.size _,nU.new w2 _ _,(jE _ w2).alloc (jB _) _⟩
  have aR:=H az;clear J az aH;go_upto_region 2 with fail;generalize w2.alloc (nL #[G (txt x.lab),nH x.lab.list,u o sn c] IT)=w3 at*;obtain⟨N,aa,ae⟩:=au.out _ rfl;have A:=Below.blk (N.mono (show g+1<=wa.heap.size by omega)) ai (lF g);have c0:w3.cell? (Z g 0 V)=U (G ⟨#[]⟩):=A.cell 0;have c1:w3.cell? (Z g 1 V)=U (nH O):=A.cell 1;have c2:w3.cell? (Z g 2 V)=U (u V 0 0):=A.cell 2;obtain⟨z0,aV,aW⟩:=A.f3;have af:=H (λa b c=>LF (a:=a) (b:=b) (c:=c) aF ai.lt (N.mono (show g+1<=wa.heap.size by omega)) A);obtain⟨aX,aY,y2⟩:=aa.a3;have aZ:jI (oo w3 (λc=>wa.heap.size<=c) (u o sn c) x.sub):=H (Shape.om.below aR ae);clear N aa ae A au;by_cases hlt:n<s.size
  .have ag:jI (Eg s.data.toList (.ok (x,n,m))=.error 3):=H (by simp only[Eg];rw[AC (by rw[aG.out];exact hlt)])
   go_wp2_with fail;rw[uf];obtain⟨C,E⟩:=af.out (G ⟨#[]⟩) (nH O) (u V 0 0);obtain⟨av,ax,ay⟩:=C.a3;have ah:=H E;clear C E;refine jO (v:=nJ #[nI #[G ⟨#[]⟩,nH O,u V 0 0],Y X 3]) (by simp[kF,Tryz.results165,go_sem,av,ax,ay,rR]) rfl ?_;rw[<-aJ.out,ag.out];exact⟨rfl,hg.symm▸ah.out⟩
  .have ag:jI (Eg s.data.toList (.ok (x,n,m))=.ok x):=H (by simp only[Eg];rw[As (by rw[aG.out];exact hlt)])
   have bu:s.size<=n:=K;clear hlt;go_wp2_with fail;rw[uf];obtain⟨C,E⟩:=af.out (G (txt x.lab)) (nH x.lab.list) (u o sn c);obtain⟨av,ax,ay⟩:=C.a3;have ah:=H E;clear C E;refine jO (v:=nJ #[nI #[G (txt x.lab),nH x.lab.list,u o sn c],Y X 0]) (by simp[kF,Tryz.results165,go_sem,av,ax,ay,rR]) rfl ?_;rw[<-aJ.out,ag.out];refine⟨u o sn c,rfl,Shape.om.keep aZ (by rw[vU];exact jB _) (λaA _ hc=> ?_) λaA _ hc=>ug aA ?_,hg.symm▸ah.out⟩;.show w.heap.size<=aA;have:wa.heap.size<=aA:=hc;omega
   .have:wa.heap.size<=aA:=hc;omega
abbrev Az:jX:=49
def qT(ar:Except Nat (nS IL)):An:=match ar with| .error _=>⟨#[]⟩| .ok x=>txt x.lab
def qL(ar:Except Nat (nS IL)):Bool:=match ar with| .error _=>O| .ok x=>x.lab.list
def qS(ar:Except Nat (nS IL)):List (nS IL):=match ar with| .error _=>[]| .ok x=>x.sub
def qE(ar:Except Nat (nS IL)):Nat:=match ar with| .error er=>er| .ok _=>0
def qV(ar:Except Nat (nS IL))(ov:Option kW)(cv:Nat):jC:=nJ #[nI #[G (qT ar),nH (qL ar),u ov (qS ar).length cv],Y X (qE ar:Nat)]
def SG(ar:Except Nat (nS IL))(w:M)(e:Ending)(w':M):Prop:=
 ∃ov cv,((∃er,ar=.error er)->ov=V/\cv=0)/\e=nK (qV ar ov cv)/\oo w' (λc=>w.heap.size<=c) (u ov (qS ar).length cv) (qS ar)/\jD w.heap.size w w'
def Nq{ar:Except Nat (nS IL)}{w w':M}{e:Ending}(h:Cj ar w e w'):SG ar w e w':=by
 cases ar with
 |error er=>exact⟨V,0,λ_=>⟨rfl,rfl⟩,h.1,wK _ _,h.2⟩
 |ok x=>
  obtain⟨v,rfl,A,C⟩:=h;obtain⟨ov,cv,rfl,_⟩:=oo.slice A;exact⟨ov,cv,(λ⟨_,h⟩=>by cases h),rfl,A,C⟩
def Va{ar:Except Nat (nS IL)}{w w':M}{e:Ending}(h:SG ar w e w'):Cj ar w e w':=by
 obtain⟨ov,cv,h0,rfl,C,A⟩:=h;cases ar with
 |error er=>
  obtain⟨rfl,rfl⟩:=h0 ⟨er,rfl⟩;exact⟨rfl,A⟩
 |ok x=>exact⟨_,rfl,C,A⟩
def a0o{p:Prop}(h:p:=by
 subst hW;have a1:=(jE w.heap.size w).alloc (jB _) (nL #[Y X dep,Y X pq] 159);have a2:=a1.alloc nX (nL #[Y X t.lab.kind,Y X t.lab.size,u ou t.sub.length cu,Y X t.lab.tail] sN);have a3:=a2.alloc nY (nL #[G ⟨#[]⟩,nH O,u V 0 0] IT);have k1:=nU.new w #[Y X dep,Y X pq] 159;have k2:=nU.new (w.alloc (nL #[Y X dep,Y X pq] 159)) #[Y X t.lab.kind,Y X t.lab.size,u ou t.sub.length cu,Y X t.lab.tail] sN;have k3:=nU.new ((w.alloc (nL #[Y X dep,Y X pq] 159)).alloc (nL #[Y X t.lab.kind,Y X t.lab.size,u ou t.sub.length cu,Y X t.lab.tail] sN)) #[G ⟨#[]⟩,nH O,u V 0 0] IT;rw[show(w.alloc (nL #[Y X dep,Y X pq] 159)).heap.size=g+1 by simp[hg]]at k2;rw[show((w.alloc (nL #[Y X dep,Y X pq] 159)).alloc (nL #[Y X t.lab.kind,Y X t.lab.size,u ou t.sub.length cu,Y X t.lab.tail] sN)).heap.size=g+2 by simp[hg]]at k3;rw[hg]at k1;exact⟨(k1.alloc _).alloc _,k2.alloc _,k3,hg▸a3,by simp[hg]⟩):p:=h
def Qd(t:nS TL)(s:An)(dep pq:Int)(w:M)(ou:Option kW)(cu:Nat)(ar:Except Nat (nS IL))(au:o6 w (u ou t.sub.length cu) t.sub)(hG:∀W,jD w.heap.size w W->jG jy 117 #[nI #[Y X t.lab.kind,Y X t.lab.size,u ou t.sub.length cu,Y X t.lab.tail],G s,Y X dep,Y X pq] W (Cj ar W)):
  jG jy 84 #[nI #[Y X dep,Y X pq],nI #[Y X t.lab.kind,Y X t.lab.size,u ou t.sub.length cu,Y X t.lab.tail],G s] w (Cj ar w):=by
 obtain⟨g,hg⟩:=og w.heap.size;have ae:=H (λW h=>(hG W h).mono λe w' h=>Nq h);have af:jI (∀W,((w.alloc (nL #[Y X dep,Y X pq] 159)).alloc (nL #[Y X t.lab.kind,Y X t.lab.size,u ou t.sub.length cu,Y X t.lab.tail] sN)).alloc (nL #[G ⟨#[]⟩,nH O,u V 0 0] IT)=W->nU W g #[Y X dep,Y X pq] 159/\nU W (g+1) #[Y X t.lab.kind,Y X t.lab.size,u ou t.sub.length cu,Y X t.lab.tail] sN/\nU W (g+2) Ck IT/\jD g w W/\W.heap.size=g+3):=H λW hW=>by
  exact a0o
 obtain⟨ay,aj⟩:=og (Cj ar w);have az:=H aj;rw[aj];unfold SG qV at ae;obtain⟨T,ak⟩:=og (qT ar);obtain⟨li,C⟩:=og (qL ar);obtain⟨sn,E⟩:=og ((qS ar).length);obtain⟨er,I⟩:=og (qE ar);rw[ak,C,E,I]at ae;have aA:=H (jF ak (jF C (jF E I)));clear au hG aj ak C E I;generalize t.lab.kind=k at*;generalize t.lab.size=z at*;generalize t.lab.tail=tl at*;generalize t.sub.length=n at*;go_in;go_upto_region 1 with fail;obtain⟨J,ag,hk2,N,ah⟩:=af.out _ rfl;generalize ((w.alloc _).alloc _).alloc _=w1 at*;obtain⟨⟨t0,aI,aJ,t3⟩,_⟩:=oN ag;have c0:w1.cell? (Z g 0 V)=U (Y X dep):=J.cell 0;have c1:w1.cell? (Z g 1 V)=U (Y X pq):=J.cell 1;have A:=H (jF hk2 (jF N ah));have ai:=H (ae _ (hg.symm▸N));clear af J ag hk2 N ah ae;go_wp2_with fail;refine ai.mono ?_;rintro e w2 ⟨ov,cv,h0,rfl,hs,hb⟩;have aa:=H (Below.blk hb A.1 A.1.lt);have aB:=H (jF h0 (jF hs (A.2.1.trans (hb.mono (by have:=A.2.2;omega)))));have av:jI (∀c,w1.heap.size<=c->g+3<=c):=H λc hc=>by have:=A.2.2;omega
 clear h0 hs hb A ai;have aC:=aa.cell 0;have aD:=aa.cell 1;have y2:=aa.cell 2;obtain⟨z0,aK,aL⟩:=aa.f3;simp only[Ck,jV,jS,jT]at aC aD y2;go_wp2_with fail;rw[qy];obtain⟨hB,hb⟩:=zU (a:=G T) (b:=nH li) (c:=u ov sn cv) ⟨_,_,_,aa.out⟩ (g:=g+2) (w:=w2) (W:=w2) (jE _ _);obtain⟨aF,aG,aH⟩:=hB.a3;refine jO (v:=nJ #[nI #[G T,nH li,u ov sn cv],Y X er]) (by simp[kF,Tryz.results84,go_sem,aF,aG,aH]) rfl ?_;rw[<-az.out];obtain⟨rfl,rfl,rfl,rfl⟩:=aA.out;obtain⟨h0,hs,ax⟩:=aB.out;refine Va ⟨ov,cv,h0,rfl,Shape.om.keep hs (by simp[qa,j5]) (λc _ hc=>by have:=av.out c hc;show w.heap.size<=c;omega) λc _ hc=> ?_,hg.symm▸ax.trans (hb.mono K)⟩;have:=av.out c hc;simp[qa,j5,kU,show g+2≠c by omega,show¬g+2=c by omega]
def KJ(t:nS TL)(s:An)(dep pq:Int)(w:M)(ou:Option kW)(cu:Nat)(ar:Except Nat (nS IL))(au:o6 w (u ou t.sub.length cu) t.sub)(hG:∀W,jD w.heap.size w W->jG jy 119 #[nI #[Y X t.lab.kind,Y X t.lab.size,u ou t.sub.length cu,Y X t.lab.tail],G s,Y X pq] W (Cj ar W)):
  jG jy 86 #[nI #[Y X dep,Y X pq],nI #[Y X t.lab.kind,Y X t.lab.size,u ou t.sub.length cu,Y X t.lab.tail],G s] w (Cj ar w):=by
 obtain⟨g,hg⟩:=og w.heap.size;have aa:=H (λW h=>(hG W h).mono λe w' h=>Nq h);have ae:jI (∀W,((w.alloc (nL #[Y X dep,Y X pq] 159)).alloc (nL #[Y X t.lab.kind,Y X t.lab.size,u ou t.sub.length cu,Y X t.lab.tail] sN)).alloc (nL #[G ⟨#[]⟩,nH O,u V 0 0] IT)=W->nU W g #[Y X dep,Y X pq] 159/\nU W (g+1) #[Y X t.lab.kind,Y X t.lab.size,u ou t.sub.length cu,Y X t.lab.tail] sN/\nU W (g+2) Ck IT/\jD g w W/\W.heap.size=g+3):=H λW hW=>by
  exact a0o
 obtain⟨ay,aj⟩:=og (Cj ar w);have az:=H aj;rw[aj];unfold SG qV at aa;obtain⟨T,ak⟩:=og (qT ar);obtain⟨li,C⟩:=og (qL ar);obtain⟨sn,E⟩:=og ((qS ar).length);obtain⟨er,I⟩:=og (qE ar);rw[ak,C,E,I]at aa;have aA:=H (jF ak (jF C (jF E I)));clear au hG aj ak C E I;generalize t.lab.kind=k at*;generalize t.lab.size=z at*;generalize t.lab.tail=tl at*;generalize t.sub.length=n at*;go_in;go_upto_region 1 with fail;obtain⟨af,ag,hk2,J,ah⟩:=ae.out _ rfl;generalize ((w.alloc _).alloc _).alloc _=w1 at*;obtain⟨⟨t0,aI,aJ,t3⟩,_⟩:=oN ag;have c1:w1.cell? (Z g 1 V)=U (Y X pq):=af.cell 1;have A:=H (jF hk2 (jF J ah));have ai:=H (aa _ (hg.symm▸J));clear ae af ag hk2 J ah aa;go_wp2_with fail;refine ai.mono ?_;rintro e w2 ⟨ov,cv,h0,rfl,hs,hb⟩;have N:=H (Below.blk hb A.1 A.1.lt);have aB:=H (jF h0 (jF hs (A.2.1.trans (hb.mono (by have:=A.2.2;omega)))));have av:jI (∀c,w1.heap.size<=c->g+3<=c):=H λc hc=>by have:=A.2.2;omega
 clear h0 hs hb A ai;have aC:=N.cell 0;have aD:=N.cell 1;have y2:=N.cell 2;obtain⟨z0,aK,aL⟩:=N.f3;simp only[Ck,jV,jS,jT]at aC aD y2;go_wp2_with fail;rw[qy];obtain⟨hB,hb⟩:=zU (a:=G T) (b:=nH li) (c:=u ov sn cv) ⟨_,_,_,N.out⟩ (g:=g+2) (w:=w2) (W:=w2) (jE _ _);obtain⟨aF,aG,aH⟩:=hB.a3;refine jO (v:=nJ #[nI #[G T,nH li,u ov sn cv],Y X er]) (by simp[kF,Tryz.results86,go_sem,aF,aG,aH]) rfl ?_;rw[<-az.out];obtain⟨rfl,rfl,rfl,rfl⟩:=aA.out;obtain⟨h0,hs,ax⟩:=aB.out;refine Va ⟨ov,cv,h0,rfl,Shape.om.keep hs (by simp[qa,j5]) (λc _ hc=>by have:=av.out c hc;show w.heap.size<=c;omega) λc _ hc=> ?_,hg.symm▸ax.trans (hb.mono K)⟩;have:=av.out c hc;simp[qa,j5,kU,show g+2≠c by omega,show¬g+2=c by omega]
def a4a:∀(k:Nat)(l:List Ax)(m:Nat)(y:nS IL×Nat×Nat),xS k l m=.ok y->y.1.lab.text.length<=l.length
 |0,l,m,y,h=>by
  simp only[xS]at h;split at h<;>cases h
 |k+1,l,m,y,h=>by
  simp only[xS]at h;split at h;.cases h
  .split at h
   .cases h
   .split at h
    .cases h
    .split at h
     .split at h
      .cases h
      .cases h;exact ko _
     .cases h
      simp only[nS.o9,kD,kG];omega
def a0p(c:oO)(hc:oL c=R)(N:c.wf):∃fn:FuncId,LA c=.func (.func fn) #[nI #[Y X c.dep,Y X c.pq]] #[]/\(∀a b d W,lL jy (callFunc fn #[a,b,d]) W=.ok (.enter fn #[a,b,d]) W)/\
  ∀(t:nS TL)(s:An)(w:M)(ou:Option kW)(cu:Nat),o6 w (u ou t.sub.length cu) t.sub->qK w->xW w->qc t=R->(c.fmt=1->(nS.pF p0 t.sub&&qc t)=R)->s.size<=100000->
   jG jy fn #[nI #[Y X c.dep,Y X c.pq],nI #[Y X t.lab.kind,Y X t.lab.size,u ou t.sub.length cu,Y X t.lab.tail],G s] w (Cj (Dv c t s) w):=by
 obtain⟨_,_,_,⟨aj,hd2⟩,ak,aa⟩:=p8 hc;obtain⟨_,_,_,_,ae,af⟩:=N;by_cases C:c.fmt=1
 .refine⟨86,AC C,λ_ _ _ _=>rfl,λt s w ou cu A E I ag J hs=> ?_⟩
  have e:Dv c t s=KH t s c.pq:=AC C;rw[e];refine KJ t s c.dep c.pq w ou cu _ A λW hb=> ?_
  exact a3W t s c.pq W ou cu (Shape.om.below A hb) (E.below hb E.lt) (xY I (oW.of (b:=w.heap.size) (q:=w.heap.size) hb) (by have:=I.lt;omega) (by have:=I.lt;omega)) (J C) hs ⟨K,aa⟩
 .refine⟨84,As C,λ_ _ _ _=>rfl,λt s w ou cu A E I ag J hs=> ?_⟩
  have e:Dv c t s=Al t (Eg s.data.toList (xS (min c.dep 16).toNat s.data.toList (min c.pq 1024).toNat)):=As C;rw[e];refine Qd t s c.dep c.pq w ou cu _ A λW hb=> ?_
  refine Zr t _ ?_ W _ (Shape.om.below A hb) ?_ (E.below hb E.lt) s c.dep c.pq λah=>a3Z c.dep c.pq _ _ rfl rfl s ah hs ae af
  .intro er h
   unfold Eg at h;split at h
   .rename_i ai
    have:=JB _ _ _ _ ai;cases h;omega
   .split at h
    .cases h;decide
    .cases h
  .intro x h
   unfold Eg at h;split at h;.cases h
   .rename_i y hy
    split at h;.cases h
    .cases h
     have au:=a4a _ _ _ _ hy;have av:s.data.toList.length=s.size:=nX;have ax:(100000:Nat)<=jN:=nT;omega
def bOf(d:Bool)(v:jC):Option Nat:=if d=R then(match v with| nG (U a)=>U a.block|_=>V)else V
structure Cm(Bs:M->Prop)(lim:Nat)(cs:Option kW->Nat->Array jC)(er:Int)(zc:Array jC)(T:jX)(Ps:Option kW->Nat->Prop)(S:List (nS IL))(d9 d10 d11 d13 d14:Bool)(v9 v10 v11 v13:jC)(W:M):Prop where
 bs:Bs W
 lm:lim<W.heap.size
 cl:d9=R->∃ov cv,Ps ov cv/\v9=nJ #[nI (cs ov cv),Y X er]/\(d10=R->v10=nJ #[nI (cs ov cv),Y X er])/\(d11=R->v11=nI (cs ov cv))/\oo W (λc=>lim<c/\bOf d13 v13≠U c) (u ov S.length cv) S/\
  (d14=R->∃b,v13=nG (U (Z b 0 V))/\lim<b/\b<W.heap.size/\nU W b (cs ov cv) T)
 dn:d10=R->d9=R
 dm:d11=R->d10=R
 bk:d13=R->d14=O->∃b,v13=nG (U (Z b 0 V))/\lim<b/\nU W b zc T
section
variable {Bs:M->Prop}{lim:Nat}{cs:Option kW->Nat->Array jC}{er:Int}{zc:Array jC}{T:jX}{Ps:Option kW->Nat->Prop}{S:List (nS IL)}{d9 d10 d11 d13 d14:Bool}{v9 v10 v11 v13:jC}{W W':M}
def Cm.ini(hb:Bs W)(hl:lim<W.heap.size):Cm Bs lim cs er zc T Ps S O O O O O v9 v10 v11 v13 W:=⟨hb,hl,(λh=>by cases h),(λh=>by cases h),(λh=>by cases h),(λh=>by cases h)⟩
def Cm.call(rG:∀W W',Bs W->lim<W.heap.size->jD (lim+1) W W'->Bs W')(h:Cm Bs lim cs er zc T Ps S O O O d13 O v9 v10 v11 v13 W)(hb:jD W.heap.size W W'){ov:Option kW}{cv:Nat}(hp:Ps ov cv)(hs:oo W' (λc=>W.heap.size<=c) (u ov S.length cv) S):
  Cm Bs lim cs er zc T Ps S R O O d13 O (nJ #[nI (cs ov cv),Y X er]) v10 v11 v13 W':=by
 have hl:=h.lm;refine⟨rG W W' h.bs hl (hb.mono hl),jZ hl hb.size,λ_=>⟨ov,cv,hp,rfl,(λh=>by cases h),(λh=>by cases h),Shape.om.keep hs (jB _) (λc _ hc=> ?_) (λ_ _ _=>rfl),(λh=>by cases h)⟩,λ_=>rfl,(λh=>by cases h),λA I=> ?_⟩
 .have E:W.heap.size<=c:=hc
  refine⟨K,λe=> ?_⟩;cases d13 with
  |false=>cases e
  |true=>
   obtain⟨b,rfl,_,hB⟩:=h.bk rfl rfl;have C:U b=U c:=e;cases C;have:=hB.lt;omega
 .obtain⟨b,e1,e2,e3⟩:=h.bk A rfl
  exact⟨b,e1,e2,Below.blk hb e3 e3.lt⟩
def Cm.done(h:Cm Bs lim cs er zc T Ps S d9 d10 d11 d13 d14 v9 v10 v11 v13 W)(hd:d10=R):d9=R:=h.dn hd
def Cm.mv(h:Cm Bs lim cs er zc T Ps S R O O d13 O v9 v10 v11 v13 W):Cm Bs lim cs er zc T Ps S R R O d13 O v9 v9 v11 v13 W:=by
 obtain⟨ov,cv,A,a2,_,_,a5,_⟩:=h.cl rfl;exact⟨h.bs,h.lm,λ_=>⟨ov,cv,A,a2,λ_=>a2,(λh=>by cases h),a5,(λh=>by cases h)⟩,λ_=>rfl,(λh=>by cases h),h.bk⟩
def Cm.tup(h:Cm Bs lim cs er zc T Ps S R R d11 d13 d14 v9 v10 v11 v13 W):∃ov cv,v10=nJ #[nI (cs ov cv),Y X er]:=by
 obtain⟨ov,cv,_,_,a3,_⟩:=h.cl rfl;exact⟨ov,cv,a3 rfl⟩
def Cm.ext(h:Cm Bs lim cs er zc T Ps S R R O d13 O v9 v10 v11 v13 W):∃ov cv,v10=nJ #[nI (cs ov cv),Y X er]/\Cm Bs lim cs er zc T Ps S R R R d13 O v9 v10 (nI (cs ov cv)) v13 W:=by
 obtain⟨ov,cv,A,a2,a3,_,a5,_⟩:=h.cl rfl;exact⟨ov,cv,a3 rfl,h.bs,h.lm,λ_=>⟨ov,cv,A,a2,a3,λ_=>rfl,a5,(λh=>by cases h)⟩,λ_=>rfl,λ_=>rfl,h.bk⟩
def Cm.made(rG:∀W W',Bs W->lim<W.heap.size->jD (lim+1) W W'->Bs W')(h:Cm Bs lim cs er zc T Ps S d9 d10 d11 O O v9 v10 v11 v13 W):Cm Bs lim cs er zc T Ps S d9 d10 d11 R O v9 v10 v11 (nG (U (Z W.heap.size 0 V))) (W.alloc (nL zc T)):=by
 have hb:=(jE W.heap.size W).alloc (jB _) (nL zc T);have hl:=h.lm;refine⟨rG W _ h.bs hl (hb.mono hl),jZ hl hb.size,λA=> ?_,h.dn,h.dm,λ_ _=>⟨_,rfl,hl,nU.new W _ _⟩⟩;obtain⟨ov,cv,C,a2,a3,a4,a5,_⟩:=h.cl A;refine⟨ov,cv,C,a2,a3,a4,Shape.om.keep a5 hb.size (λc hc E=>⟨E.1,λe=> ?_⟩) (λc hc _=>hb.block c hc),(λh=>by cases h)⟩;have I:U W.heap.size=U c:=e;cases I;omega
def Cm.st(rG:∀W W',Bs W->lim<W.heap.size->jD (lim+1) W W'->Bs W')(h:Cm Bs lim cs er zc T Ps S R R R R O v9 v10 v11 v13 W):∃ov cv b,v11=nI (cs ov cv)/\v13=nG (U (Z b 0 V))/\nU W b zc T/\
  ∀W',(∀c,c≠b->W'.heap[c]? =W.heap[c]?)->W'.heap.size=W.heap.size->W'.os=W.os->W'.tape=W.tape->W'.output=W.output->nU W' b (cs ov cv) T->Cm Bs lim cs er zc T Ps S R R R R R v9 v10 v11 v13 W':=by
 obtain⟨ov,cv,I,a2,a3,a4,a5,_⟩:=h.cl rfl;obtain⟨b,rfl,C,hB⟩:=h.bk rfl rfl;refine⟨ov,cv,b,a4 rfl,rfl,hB,λW' E A J N aa ae=> ?_⟩;have hl:=h.lm;refine⟨rG W W' h.bs hl ⟨J,N,aa,lZ A.symm,λc hc=>E c K⟩,A▸hl,λ_=>⟨ov,cv,I,a2,a3,a4,Shape.om.keep a5 (lZ A.symm) (λ_ _ h=>h) (λc _ af=>E c λe=>af.2 (by rw[e];rfl)),λ_=>⟨b,rfl,C,A▸hB.lt,ae⟩⟩,λ_=>rfl,λ_=>rfl,λ_ h=>by cases h⟩
def Cm.fin(h:Cm Bs lim cs er zc T Ps S R R R R R v9 v10 v11 v13 W):∃ov cv b,Ps ov cv/\v9=nJ #[nI (cs ov cv),Y X er]/\v10=nJ #[nI (cs ov cv),Y X er]/\v11=nI (cs ov cv)/\v13=nG (U (Z b 0 V))/\lim<b/\nU W b (cs ov cv) T/\
  oo W (λc=>lim<c/\c≠b) (u ov S.length cv) S:=by
 obtain⟨ov,cv,E,a2,a3,a4,a5,a6⟩:=h.cl rfl;obtain⟨b,rfl,A,_,hB⟩:=a6 rfl;exact⟨ov,cv,b,E,a2,a3 rfl,a4 rfl,rfl,A,hB,Shape.om.keep a5 (jB _) (λc _ C=>⟨C.1,λe=>C.2 (by rw[e];rfl)⟩) λ_ _ _=>rfl⟩
end
def Qe(W:M)(k:Nat)(a b c:jC):(∀d,d≠k->(qa W k a b c).heap[d]? =W.heap[d]?)/\(qa W k a b c).heap.size=W.heap.size/\(qa W k a b c).os=W.os/\(qa W k a b c).tape=W.tape/\(qa W k a b c).output=W.output:=
 ⟨λd hd=>by simp[qa,j5,kU,nz hd],by simp[qa,j5],rfl,rfl,rfl⟩
def Xj{W:M}{k:Nat}{a b c a0 b0 c0:jC}{t:jX}(h:nU W k #[a0,b0,c0] t):nU (qa W k a b c) k #[a,b,c] t:=((h.set 0 a).set 1 b).set 2 c
def zX(W:M)(k:Nat)(a b c e:jC):(∀d,d≠k->(zV W k a b c e).heap[d]? =W.heap[d]?)/\(zV W k a b c e).heap.size=W.heap.size/\(zV W k a b c e).os=W.os/\(zV W k a b c e).tape=W.tape/\(zV W k a b c e).output=W.output:=
 ⟨λd hd=>by simp[zV,j5,kU,nz hd],by simp[zV,j5],rfl,rfl,rfl⟩
def zm4:Array jC:=#[G ⟨#[]⟩,G ⟨#[]⟩,nH O,u V 0 0]
def Yk(g rb:Nat)(f:vS)(x:RC)(w0 W:M):Prop:=jD g w0 W/\nU W g #[Y nN f.id,G f.name,G f.body] rq/\nU W (g+1) zm4 Az/\nU W rb x.cs Hr
def Yk.up{g rb:Nat}{f:vS}{x:RC}{w0 W A:M}(hl:g+1<rb)(h:Yk g rb f x w0 W)(_:rb<W.heap.size)(hb:jD (rb+1) W A):Yk g rb f x w0 A:=
 ⟨h.1.trans (hb.mono K),Below.blk hb h.2.1 K,Below.blk hb h.2.2.1 K,Below.blk hb h.2.2.2 K⟩
noncomputable def H6:List lJ:=cO (cL (cR (cR (cR (cR (cB Tryz.f64))))))
section
variable (g r rb:Nat)(c:oO)(f:vS)(x:RC)(w0:M)(fn:FuncId)(T:An)(li:Bool)(S:List (nS IL))(er:Nat)(Ps:Option kW->Nat->Prop)
def zY:Nat->jC
 |0=> nG (U (Z r 0 V))
 |1=> nG (U (Z r 0 V))
 |2=> nG (U (Z r 8 V))
 |3=> nG (U (Z r 9 V))
 |4=> .func (.func fn) #[nI #[Y X c.dep,Y X c.pq]] #[]
 |5=> nG (U (Z rb 3 V))
 |6=> nI #[Y X x.k,Y X x.z,u x.ou x.nu x.cu,Y X x.tl]
 |7=> nG (U (Z g 2 V))
 |8=> G f.body
 |12=> Y X (er)
 |15=> Y X (er)
 |_=>ku
structure a8X(D:Nat->Bool)(vs:Nat->jC)(w:M):Prop where
 oU:Cm (Yk g rb f x w0) (rb) (λov cv=>#[G T,nH li,u ov S.length cv]) (er) (Ck) IT (Ps) (S) (D 9) (D 10) (D 11) (D 13) (D 14) (vs 9) (vs 10) (vs 11) (vs 13) w
 val:∀j,(j !=9&&j !=10&&j !=11&&j !=13)=R->D j=R->vs j=zY g r rb c f x fn er j
variable {g r rb c f x w0 fn T li S er Ps}
def a4b{id:Nat}{Q:Exit->Act->M->Prop}{ak:M}(ht0:a0.tmps.getD 0 ku=nG (U (Z r 0 V)))(SH:∀W,Yk g rb f x w0 W->W.cell? (Z r 9 V)=U (.func (.func fn) #[nI #[Y X c.dep,Y X c.pq]] #[]))(BR:a0.tmps.getD 6 ku=nG (U (Z rb 0 V)))(ht3:a0.tmps.getD 3 ku=nG (U (Z g 0 V)))(hget:∀W,Yk g rb f x w0 W->jG jy fn #[nI #[Y X c.dep,Y X c.pq],nI #[Y X x.k,Y X x.z,u x.ou x.nu x.cu,Y X x.tl],G f.body] W λe ag=>∃ov cv,Ps ov cv/\e=nK (nJ #[nI #[G T,nH li,u ov S.length cv],Y X er])/\oo ag (λc=>W.heap.size<=c) (u ov S.length cv) S/\jD W.heap.size W ag)(hcf:∀a b d W,lL jy (callFunc fn #[a,b,d]) W=.ok (.enter fn #[a,b,d]) W)(rG:∀W ag,(Yk g rb f x w0) W->rb<W.heap.size->jD (rb+1) W ag->(Yk g rb f x w0) ag)(hsz:a0.tmps.size=48)(hI0:∀vs:Nat->jC,(λw=>Cm (Yk g rb f x w0) (rb) (λov cv=>#[G T,nH li,u ov S.length cv]) (er) (Ck) IT (Ps) (S) O O O O O (vs 9) (vs 10) (vs 11) (vs 13) w) ak.drew)(au:∀(vs:Nat->jC) (w:M),Cm (Yk g rb f x w0) (rb) (λov cv=>#[G T,nH li,u ov S.length cv]) (er) (Ck) IT (Ps) (S) R R R R R (vs 9) (vs 10) (vs 11) (vs 13) w->Q .normal {a0 with tmps:=(((((((((((((((a0.tmps.setIfInBounds 23 (nG (U (Z r 0 V)))).setIfInBounds 24 (nG (U (Z r 0 V)))).setIfInBounds 25 (nG (U (Z r 8 V)))).setIfInBounds 26 (nG (U (Z r 9 V)))).setIfInBounds 27 (.func (.func fn) #[nI #[Y X c.dep,Y X c.pq]] #[])).setIfInBounds 28 (nG (U (Z rb 3 V)))).setIfInBounds 29 (nI #[Y X x.k,Y X x.z,u x.ou x.nu x.cu,Y X x.tl])).setIfInBounds 30 (nG (U (Z g 2 V)))).setIfInBounds 31 (G f.body)).setIfInBounds 32 (vs 9)).setIfInBounds 22 (vs 10)).setIfInBounds 33 (vs 11)).setIfInBounds 34 (Y X (er))).setIfInBounds 8 (vs 13)).setIfInBounds 9 (Y X (er)))} w):
  (kT id H6.toArray R).wp jy Q a0 ak:=by
 refine oF 16 48 (a8X g r rb c f x w0 fn T li S er Ps) nV hsz nV (.inl rfl) nV ?_ ?_ ?_;.exact q9
 .refine sM λA aF=> ?_
  clear hI0 au hsz;replace ht0:=H ht0;replace SH:=H SH;replace BR:=H BR;replace ht3:=H ht3;replace hget:=H hget;replace hcf:=H hcf;replace rG:=H rG;dsimp+instances only[H6,cO,cL,cR,cB,Tryz.f64];simp only[jY,kJ,rZ];refine⟨?_,?_,?_,?_,?_,?_,?_,?_,?_,?_,?_,?_,?_,?_,?_,?_,trivial⟩<;>(intro D vs a w am hI hd E I C ae;subst aF;dsimp+instances only[H6,cO,cL,cR,cB,Tryz.f64]);have aU:=(C 0 nT).trans ht0.out;rotate_left;have aP:=fe C hI.val E 23 0;rotate_left;have aQ:=fe C hI.val E 24 1;rotate_left;have aR:=fe C hI.val E 25 2;rotate_left;have SH:=SH.out;have av:=fe C hI.val E 26 3;simp only[zY]at av;have c0:=SH w hI.oU.bs;rotate_left;have aV:=(C 6 nT).trans BR.out;rotate_left;have ax:=fe C hI.val E 28 5;simp only[zY]at ax;obtain⟨⟨c0,c1,c2,c3,c4,c5,c6⟩,_⟩:=qI hI.oU.bs.2.2.2;rotate_left;have e3:=(C 3 nT).trans ht3.out;rotate_left;have ay:=fe C hI.val E 30 7;simp only[zY]at ay;have hB:=hI.oU.bs.2.1;have c0:=hB.c2;clear hB;rotate_left
  .have hget:=hget.out
   have hcf:=hcf.out;have rG:=rG.out;have az:=fe C hI.val E 27 4;have aA:=fe C hI.val E 29 6;have aB:=fe C hI.val E 31 8;simp only[zY]at az aA aB;have ai:D 11=O:=by cases h:D 11 with|false=>rfl|true=>exact absurd (hI.oU.dm h) (by rw[I 10 nT nV];decide)
   have J:=hI.oU;rw[hd,I 10 nT nV,ai,I 14 nT nV]at J;have aG:=hget w J.bs;clear hget;rw[AC (by rfl)];go_simp;refine aG.mono ?_;rintro e aW ⟨ov,cv,hp,rfl,hs,hb⟩;refine ae _ _ _ rfl ⟨?_,QY rfl hI.val⟩;rw[oH,nZ D (show 10≠9 by decide),nZ D (show 11≠9 by decide),nZ D (show 13≠9 by decide),nZ D (show 14≠9 by decide),qz,oG vs _ (show 10≠9 by decide),oG vs _ (show 11≠9 by decide),oG vs _ (show 13≠9 by decide)];rw[I 10 nT nV,ai,I 14 nT nV];exact J.call rG hb hp hs
  .have d9:=E 9 nT nV
   have aS:a.tmps.getD 32 ku=vs 9:=C 32 nT;have J:=hI.oU;rw[hd,d9,I 11 nT nV,I 14 nT nV]at J;go_simp;refine ae _ _ _ rfl ⟨?_,QY rfl hI.val⟩;rw[oH,nZ D (show 9≠10 by decide),nZ D (show 11≠10 by decide),nZ D (show 13≠10 by decide),nZ D (show 14≠10 by decide),qz,oG vs _ (show 9≠10 by decide),oG vs _ (show 11≠10 by decide),oG vs _ (show 13≠10 by decide)];rw[d9,I 11 nT nV,I 14 nT nV];exact J.mv
  .have d10:=E 10 nT nV
   have aa:a.tmps.getD 22 ku=vs 10:=C 22 nT;have J:=hI.oU;have N:D 9=R:=hI.oU.done (by rw[d10]);rw[hd,N,d10,I 14 nT nV]at J;obtain⟨ov,cv,ev,ah⟩:=J.ext;try dsimp only at ev ah
   have aa:=aa.trans ev;go_simp;refine ae _ _ _ rfl ⟨?_,QY rfl hI.val⟩;rw[oH,nZ D (show 9≠11 by decide),nZ D (show 10≠11 by decide),nZ D (show 13≠11 by decide),nZ D (show 14≠11 by decide),qz,oG vs _ (show 9≠11 by decide),oG vs _ (show 10≠11 by decide),oG vs _ (show 13≠11 by decide)];rw[N,d10,I 14 nT nV];exact ah
  .have d10:=E 10 nT nV
   have aa:a.tmps.getD 22 ku=vs 10:=C 22 nT;have N:D 9=R:=hI.oU.done (by rw[d10]);have J:=hI.oU;rw[N,d10]at J;obtain⟨ov,cv,ev⟩:=J.tup;try dsimp only at ev
   have aa:=aa.trans ev;go_simp;exact ae (zY g r rb c f x fn er 12) _ _ rfl ⟨hI.oU,vM hI.val⟩
  .have rG:=rG.out
   have J:=hI.oU;rw[hd,I 14 nT nV]at J;go_simp;refine ae (nG (U (Z w.heap.size 0 V))) _ _ rfl ⟨?_,QY rfl hI.val⟩;rw[oH,nZ D (show 9≠13 by decide),nZ D (show 10≠13 by decide),nZ D (show 11≠13 by decide),nZ D (show 14≠13 by decide),qz,oG vs _ (show 9≠13 by decide),oG vs _ (show 10≠13 by decide),oG vs _ (show 11≠13 by decide)];rw[I 14 nT nV];exact J.made rG
  .have rG:=rG.out
   have d13:=E 13 nT nV;have aC:a.tmps.getD 8 ku=vs 13:=C 8 nT;have d11:=E 11 nT nV;have aj:a.tmps.getD 33 ku=vs 11:=C 33 nT;have N:D 9=R:=hI.oU.done (E 10 nT nV);have J:=hI.oU;rw[hd,N,E 10 nT nV,d11,d13]at J;obtain⟨ov,cv,b,aD,aH,hB,ah⟩:=J.st rG;try dsimp only at aD ah
   have aj:=aj.trans aD;have aC:=aC.trans aH;have z0:=hB.cell 0;have aI:=hB.cell 1;have aJ:=hB.cell 2;obtain⟨aX,f1,f2⟩:=hB.f3;simp only[Ck,jV,jS,jT]at z0 aI aJ;go_simp;rw[qy];refine ae ku _ _ rfl ⟨?_,vM hI.val⟩;rw[oH,nZ D (show 9≠14 by decide),nZ D (show 10≠14 by decide),nZ D (show 11≠14 by decide),nZ D (show 13≠14 by decide),oG vs _ (show 9≠14 by decide),oG vs _ (show 10≠14 by decide),oG vs _ (show 11≠14 by decide),oG vs _ (show 13≠14 by decide)];rw[N,E 10 nT nV,d11,d13];obtain⟨aK,aL,aM,aN,aO⟩:=Qe _ _ _ _ _;exact ah _ aK aL aM aN aO (Xj hB)
  have aT:=fe C hI.val E 34 12;rotate_left
  all_goals
   try simp only[zY]at*
   go_simp;exact ae _ _ _ rfl ⟨hI.oU,vM hI.val⟩
 .intro D vs w af hI
  have E:=hI.oU;rw[af 9 nT]at E;rw[af 10 nT]at E;rw[af 11 nT]at E;rw[af 13 nT]at E;rw[af 14 nT]at E;have q:=au vs w E;rw[pE hI.val af];dsimp+instances only[H6,cO,cL,cR,cB,Tryz.f64];exact q8
end
def mN(ar:Except Nat G8):An:=match ar with| .error _=>⟨#[]⟩| .ok m=>m.name
def mT(ar:Except Nat G8):An:=match ar with| .error _=>⟨#[]⟩| .ok m=>txt m.val.lab
def mL(ar:Except Nat G8):Bool:=match ar with| .error _=>O| .ok m=>m.val.lab.list
def mS(ar:Except Nat G8):List (nS IL):=match ar with| .error _=>[]| .ok m=>m.val.sub
def mE(ar:Except Nat G8):Nat:=match ar with| .error er=>er| .ok _=>0
def a4c(ar:Except Nat G8)(w:M)(e:Ending)(w':M):Prop:=
 ∃ov cv,((∃er,ar=.error er)->ov=V/\cv=0)/\e=nK (nJ #[nI #[G (mN ar),G (mT ar),nH (mL ar),u ov (mS ar).length cv],Y X (mE ar:Nat)])/\oo w' (λc=>w.heap.size<=c) (u ov (mS ar).length cv) (mS ar)/\jD w.heap.size w w'
def JG{c:oO}{t:nS TL}{s:An}{er:Nat}(h:Dv c t s=.error er):er≠0:=by
 unfold Dv at h;split at h
 .unfold KH at h
  split at h
  .rename_i e1 A
   unfold Jn at A;split at A
   .have E:=Bp 8 t (RS.of s) (min c.pq 1024).toNat (Int.le_refl _)
    cases A;cases h;omega
   .cases A
  .split at h
   .cases h;decide
   .cases h
 .unfold Al at h
  split at h
  .split at h
   .rename_i e1 A
    unfold Eg at A;split at A
    .rename_i C
     have:=JB _ _ _ _ C;cases A;cases h;omega
    .split at A
     .cases A;cases h;decide
     .cases A
   .split at h
    .cases h
    .rename_i I
     have:=Ee t (by assumption);cases h;omega
  .cases h;decide
def SI(r bn bi:Nat)(c:oO)(L:List oV)(f:vS)(w:M)(h:qG r bn bi c L w)(hc:oL c=R)(aY:c.wf)(bP:qK w)(aS:xW w)(hn:f.name.size<=jN)(hid:f.id<18446744073709551616)(aZ:f.body.size<=100000)(hlt:r<w.heap.size/\bn<w.heap.size/\bi<w.heap.size):
  jG jy 64 #[nG (U (Z r 0 V)),nI #[Y nN f.id,G f.name,G f.body]] w (a4c (Dw c (L.map λx=>x.r) f) w):=by
 obtain⟨fn,bg,hcf,bq⟩:=a0p c hc aY;obtain⟨g,hg⟩:=og w.heap.size;have aB:jI (∀W,jD g w W->jG jy 91 #[nG (U (Z r 0 V)),nI #[Y nN f.id,G f.name,G f.body]] W λe w'=>e=nK (nJ #[nI (rcO (Su c L f)).cs,nH (Su c L f).isSome])/\jD W.heap.size W w'):=H λW hb=>by
  have:=hb.size;exact a6D r bn bi c L f W (h.below (hg.symm▸hb)) hn hid ⟨K,K,K⟩
 have bu:jI (∀W,(w.alloc (nL #[Y nN f.id,G f.name,G f.body] rq)).alloc (nL #[G ⟨#[]⟩,G ⟨#[]⟩,nH O,u V 0 0] Az)=W->nU W g #[Y nN f.id,G f.name,G f.body] rq/\nU W (g+1) zm4 Az/\jD g w W/\W.heap.size=g+2):=H λW af=>by
  subst af;have dw:=(jE w.heap.size w).alloc (jB _) (nL #[Y nN f.id,G f.name,G f.body] rq);have a2:=dw.alloc nX (nL #[G ⟨#[]⟩,G ⟨#[]⟩,nH O,u V 0 0] Az);have bV:=nU.new w #[Y nN f.id,G f.name,G f.body] rq;have bW:=nU.new (w.alloc (nL #[Y nN f.id,G f.name,G f.body] rq)) #[G ⟨#[]⟩,G ⟨#[]⟩,nH O,u V 0 0] Az;rw[show(w.alloc (nL #[Y nN f.id,G f.name,G f.body] rq)).heap.size=g+1 by simp[hg]]at bW;rw[hg]at bV;exact⟨bV.alloc _,bW,hg▸a2,by simp[hg]⟩
 have bz:jI (∀W,jD g w W->W.cell? (Z r 9 V)=U (.func (.func fn) #[nI #[Y X c.dep,Y X c.pq]] #[])):=H λW hb=>by
  have:=(h.below (hg.symm▸hb)).rg.cell 9;rw[<-bg];exact this
 obtain⟨ar,bQ⟩:=og (Dw c (L.map λx=>x.r) f);have ag:jI ((Su c L f=V->ar=.error 11)/\∀x,Su c L f=U x->ar=match Dv c x.r.ty f.body with| .error er=> .error (if er=2 then 3 else er)| .ok y=> .ok ⟨x.r.name,y⟩):=H (by
  rw[<-bQ];unfold Dw;rw[a3u];refine⟨λh=>by rw[h];rfl,λx h=>by rw[h];rfl⟩)
 have aC:jI (∀x,Su c L f=U x->x∈L):=H λx I=>by
  unfold Su at I;split at I
  .split at I
   .exact mY I
   .cases I
  .split at I
   .exact mY I
   .cases I
 have av:jI (∀x,Su c L f=U x->∀W,jD g w W->jG jy fn #[nI #[Y X c.dep,Y X c.pq],nI #[Y X x.r.ty.lab.kind,Y X x.r.ty.lab.size,u x.ou x.r.ty.sub.length x.cu,Y X x.r.ty.lab.tail],G f.body] W (SG (Dv c x.r.ty f.body) W)):=H λx I W hb=>by
  have bX:=aC.out x I;have aD:jD w.heap.size w W:=hg.symm▸hb;obtain⟨dx,m2,_⟩:=h.may x bX;exact(bq x.r.ty f.body W x.ou x.cu ((h.below aD).sub x bX) (bP.below aD bP.lt) (xY aS (oW.of (b:=w.heap.size) (q:=w.heap.size) aD) (by have:=aS.lt;omega) (by have:=aS.lt;omega)) dx m2 aZ).mono λe w' h=>Nq h
 have bA:=H hcf;rw[bQ];obtain⟨dz,bR⟩:=og (a4c ar w);have aT:=H bR;rw[bR];obtain⟨o,ho⟩:=og (Su c L f);rw[ho]at aB ag av;clear h hc aY bP aS hn hid aZ hlt bg hcf bq bQ ho bR aC;go_in;go_upto_region 1 with fail;obtain⟨aF,bB,aG,bC⟩:=bu.out _ rfl;generalize (w.alloc _).alloc _=w1 at*;obtain⟨c0,c1,c2⟩:=aF.a3;have ah:=H (jF aF (jF bB (jF aG bC)));have aH:=H (aB _ aG);clear bu aF bB aG bC aB;go_wp2_with fail;refine aH.mono ?_;rintro e w2 ⟨rfl,ai⟩;have ax:jI (nU w2 g #[Y nN f.id,G f.name,G f.body] rq/\nU w2 (g+1) zm4 Az/\jD g w w2/\g+2<=w2.heap.size):=H ⟨Below.blk ai ah.1 ah.1.lt,Below.blk ai ah.2.1 ah.2.1.lt,ah.2.2.1.trans (ai.mono (by have:=ah.2.2.2;omega)),by have:=ai.size;have:=ah.2.2.2;omega⟩;clear ai ah aH c0 c1 c2;cases o with
 |none=>
  have az:jI (ar=.error 11):=H (ag.1 rfl);have aj:jI (∀W,w2.alloc (nL Ei.cs Hr)=W->nU W (g+1) zm4 Az/\jD g w W):=H λW af=>by
   subst af;have al:=(jE w2.heap.size w2).alloc (jB _) (nL Ei.cs Hr);obtain⟨_,C,bS,dA⟩:=ax.out;exact⟨Below.blk al C C.lt,bS.trans (al.mono K)⟩
  unfold rcO Ei RC.cs at aj|-;dsimp only[Option.isSome]at aj|-;clear ag av;go_upto_region 4 with fail;obtain⟨hB,A⟩:=aj.out _ rfl;generalize w2.alloc _=w3 at*;obtain⟨⟨dB,dD,y2,dE⟩,dF,dG,dH,dI⟩:=oN hB;have ak:=H (jF hB A);clear hB A aj;go_wp2_with fail;rw[uB];obtain⟨⟨J,N,aa,ae⟩,_⟩:=oN (sj (a:=G ⟨#[]⟩) (b:=G ⟨#[]⟩) (c:=nH O) (d:=u V 0 0) ak.1);have A:=uJ (a:=G ⟨#[]⟩) (b:=G ⟨#[]⟩) (c:=nH O) (d:=u V 0 0) ak.2 (kR g);refine jO (v:=nJ #[nI #[G ⟨#[]⟩,G ⟨#[]⟩,nH O,u V 0 0],Y X 11]) (by simp[kF,Tryz.results64,go_sem,J,N,aa,ae]) rfl ?_;rw[<-aT.out,az.out];exact⟨V,0,λ_=>⟨rfl,rfl⟩,rfl,wK _ _,hg.symm▸A⟩
 |some x=>
  have ay:jI (ar=match Dv c x.r.ty f.body with| .error er=> .error (if er=2 then 3 else er)| .ok y=> .ok ⟨x.r.name,y⟩):=H (ag.2 x rfl);have aI:=H (av x rfl);have aJ:jI (∀er,Dv c x.r.ty f.body=.error er->er≠0):=H λer h=>JG h
  obtain⟨aK,bY⟩:=og (Dv c x.r.ty f.body);rw[bY]at ay aI aJ;obtain⟨rb,aL⟩:=og w2.heap.size;have aj:jI (∀W,w2.alloc (nL x.rc.cs Hr)=W->Yk g rb f x.rc w W/\rb<W.heap.size):=H λW af=>by
   subst af;have al:=(jE w2.heap.size w2).alloc (jB _) (nL x.rc.cs Hr);obtain⟨aU,C,bS,dA⟩:=ax.out;exact⟨⟨bS.trans (al.mono K),Below.blk al aU aU.lt,Below.blk al C C.lt,aL▸nU.new w2 _ _⟩,by simp[aL]⟩
  have bZ:g+1<rb:=by have:=ax.2.2.2;omega
  unfold rcO;dsimp only[Option.isSome];unfold RC.cs at aj|-;have cz:jI (x.rc.nm=x.r.name):=H rfl;have bD:jI (∀W,jD g w W->jG jy fn #[nI #[Y X c.dep,Y X c.pq],nI #[Y X x.rc.k,Y X x.rc.z,u x.rc.ou x.rc.nu x.rc.cu,Y X x.rc.tl],G f.body] W (SG aK W)):=H aI.out;clear aI ag av bY ax;generalize x.rc=ac at*;generalize x.r.name=dJ at*;go_upto_region 4 with fail;obtain⟨hB,bE⟩:=aj.out _ rfl;generalize w2.alloc _=w3 at*;clear aj;have ak:=H (jF hB bE);clear hB bE aL;go_upto_region 6 with fail;obtain⟨T,aM⟩:=og (qT aK);obtain⟨li,aN⟩:=og (qL aK);obtain⟨S,bT⟩:=og (qS aK);obtain⟨er,aO⟩:=og (qE aK);have bF:jI (∀W,Yk g rb f ac w W->jG jy fn #[nI #[Y X c.dep,Y X c.pq],nI #[Y X ac.k,Y X ac.z,u ac.ou ac.nu ac.cu,Y X ac.tl],G f.body] W λe bU=>∃ov cv,((∃er,aK=.error er)->ov=V/\cv=0)/\e=nK (nJ #[nI #[G T,nH li,u ov S.length cv],Y X er])/\oo bU (λc=>W.heap.size<=c) (u ov S.length cv) S/\jD W.heap.size W bU):=H λW af=>by
   have:=bD.out W af.1;unfold SG qV at this;rw[aM,aN,bT,aO]at this;exact this
  refine a4b (g:=g) (r:=r) (rb:=rb) (c:=c) (f:=f) (x:=ac) (w0:=w) (fn:=fn) (T:=T) (li:=li) (S:=S) (er:=er) (Ps:=λov cv=>(∃er,aK=.error er)->ov=V/\cv=0) (ht0:=by rfl) (BR:=by rfl) (ht3:=by rfl) (hsz:=by rfl) (SH:=λW af=>bz.out W af.1) (hget:=bF.out) (hcf:=bA.out) (rG:=λW bU h=>h.up bZ) (hI0:=λ_=>Cm.ini ⟨ak.1.1.trans ((oM w3).mono (by have:=ak.2;omega)),ak.1.2⟩ ak.2) ?_;intro vs W hF;obtain⟨ov,cv,b,bG,cK,bH,bI,bJ,bK,bL,au⟩:=Cm.fin hF;rw[cK,bH,bI,bJ];obtain⟨bM,cZ,aP,bN⟩:=hF.bs;have aA:=H (jF bG (jF bK (jF au (jF bM aP))));have aV:=H (jF aM (jF aN (jF bT aO)));simp only[jH,jQ,jR];obtain⟨⟨r0,r1,r2,r3,r4,dN,dO⟩,_⟩:=qI bN;obtain⟨b0,b1,dK⟩:=bL.a3;obtain⟨⟨dB,dD,y2,dE⟩,dF,dG,dH,dI⟩:=oN aP;have bO:jI (∀aW,(∀c,c≠g+1->aW.heap[c]? =W.heap[c]?)->aW.heap.size=W.heap.size->oo aW (λc=>w.heap.size<=c) (u ov S.length cv) S):=H λaW aU C=>Shape.om.keep au (lZ C.symm) (λc _ hc=>by have:=hc.1;show w.heap.size<=c;omega) λc _ hc=>aU c (by have:=hc.1;omega)
  clear hF bG bK au bM cZ aP bN bL aM aN bT aO bD bF ak bz bA cK bH bI bJ;obtain⟨sn,aQ⟩:=og S.length;rw[aQ]at dK bO|-;have df:=H aQ;clear aQ;by_cases h0:er=0
  .subst h0
   have az:jI (∃y,aK=.ok y):=H (by
    cases aK with
    |error e1=>exact absurd aV.2.2.2 (aJ e1 rfl)
    |ok y=>exact⟨y,rfl⟩)
   go_wp2_with fail;rw[uB];obtain⟨dL,dM,_⟩:=zX W (g+1) (G ac.nm) (G T) (nH li) (u ov sn cv);obtain⟨⟨J,N,aa,ae⟩,_⟩:=oN (sj (a:=G ac.nm) (b:=G T) (c:=nH li) (d:=u ov sn cv) aA.2.2.2.2);have A:=uJ (a:=G ac.nm) (b:=G T) (c:=nH li) (d:=u ov sn cv) aA.2.2.2.1 (kR g);refine jO (v:=nJ #[nI #[G ac.nm,G T,nH li,u ov sn cv],Y X 0]) (by simp[kF,Tryz.results64,go_sem,J,N,aa,ae]) rfl ?_;obtain⟨y,hy⟩:=az.out;have hs:=bO.out _ dL dM;obtain⟨aX,g2,g3,_⟩:=aV.out;have E:=ay.out;rw[hy]at E aX g2 g3;dsimp only at E;rw[<-aT.out,E];have aX:txt y.lab=T:=aX;have g2:y.lab.list=li:=g2;have g3:y.sub=S:=g3;have aR:=df.out;rw[<-g3]at aR hs;refine⟨ov,cv,(λ⟨_,h⟩=>by cases h),?_,?_,hg.symm▸A⟩
   .show _=kZ (nJ #[nI #[G dJ,G (txt y.lab),nH y.lab.list,u ov y.sub.length cv],Y X ((0:Nat):Int)])
    rw[aX,g2,aR,cz.out];rfl
   .show oo _ _ (u ov y.sub.length cv) y.sub
    rw[aR];exact hs
  .have az:jI (aK=.error er):=H (by
    cases aK with
    |error e1=>rw[<-aV.2.2.2];rfl
    |ok y=>exact absurd aV.2.2.2.symm h0)
   have t0:((er:Int)==0)=O:=nY;have dh:((er:Int) !=0)=R:=nY;obtain⟨⟨J,N,aa,ae⟩,_⟩:=oN (sj (a:=G ⟨#[]⟩) (b:=G ⟨#[]⟩) (c:=nH O) (d:=u V 0 0) aA.2.2.2.2);have A:=H (uJ (a:=G ⟨#[]⟩) (b:=G ⟨#[]⟩) (c:=nH O) (d:=u V 0 0) aA.2.2.2.1 (kR g));by_cases C:er=2
   .have E:jI (ar=.error 3):=H (by have:=ay.out;rw[az.out]at this;rw[this,C];rfl)
    subst C;clear J N aa ae t0 dh h0;go_wp2_with fail;rw[uB];obtain⟨⟨J,N,aa,ae⟩,_⟩:=oN (sj (a:=G ⟨#[]⟩) (b:=G ⟨#[]⟩) (c:=nH O) (d:=u V 0 0) aA.2.2.2.2);refine jO (v:=nJ #[nI #[G ⟨#[]⟩,G ⟨#[]⟩,nH O,u V 0 0],Y X 3]) (by simp[kF,Tryz.results64,go_sem,J,N,aa,ae]) rfl ?_;rw[<-aT.out,E.out];exact⟨V,0,λ_=>⟨rfl,rfl⟩,rfl,wK _ _,hg.symm▸A.out⟩
   .have E:jI (ar=.error er):=H (by have:=ay.out;rw[az.out]at this;rw[this];show Except.error (if er=2 then 3 else er)=_;rw[As C])
    have dP:((er:Int)==2)=O:=nY;clear J N aa ae C h0;go_wp2_with fail;rw[uB];obtain⟨⟨J,N,aa,ae⟩,_⟩:=oN (sj (a:=G ⟨#[]⟩) (b:=G ⟨#[]⟩) (c:=nH O) (d:=u V 0 0) aA.2.2.2.2);refine jO (v:=nJ #[nI #[G ⟨#[]⟩,G ⟨#[]⟩,nH O,u V 0 0],Y X (er:Nat)]) (by simp[kF,Tryz.results64,go_sem,J,N,aa,ae]) rfl ?_;rw[<-aT.out,E.out];exact⟨V,0,λ_=>⟨rfl,rfl⟩,rfl,wK _ _,hg.symm▸A.out⟩
abbrev MtT:jX:=89
abbrev SK:jX:=28
structure Nr(g kc km kt ka ks sb r mb:Nat)(c:oO)(s:An)(p:Nat)(w0:M)(m:MS)(W:M):Prop where
 cf:nU W kc #[Y X c.fmt,Y nO c.mag,Y X c.pV,Y X c.qH,Y X c.dep,Y X c.pq] uk
 mv:nU W km #[nG (U (Z mb 0 V))] MtT
 tx:nU W kt #[G s] QW
 at_:nU W ka #[Y X p] InT
 sv:nU W ks #[nG (U (Z sb 0 V))] SK
 se:W.cell? (Z sb 0 V)=U (nG (U (Z r 0 V)))/\sb<g
 mm:qb W (U (mb,m))
 rs:nU W g zm4 Az
 up:oW ka mb w0 W
 ne:kc≠mb/\km≠mb/\kt≠mb/\ka≠mb/\ks≠mb/\sb≠mb/\kc≠ka/\km≠ka/\kt≠ka/\ks≠ka/\sb≠ka
 lt:kc<g/\km<g/\kt<g/\ka<g/\ks<g/\mb<g/\w0.heap.size=g
section
variable {g kc km kt ka ks sb r mb:Nat}{c:oO}{s:An}{p:Nat}{w0:M}{m m2:MS}{W W':M}
def Nr.up1(h:Nr g kc km kt ka ks sb r mb c s p w0 m W){lim:Nat}(hg:g<=lim)(hl:lim<W.heap.size)(hb:jD (lim+1) W W'):Nr g kc km kt ka ks sb r mb c s p w0 m W':=by
 have l:=h.lt;have e:=h.se;have q:∀{n:Nat}{cs:Array jC}{t:jX},nU W n cs t->n<=lim->nU W' n cs t:=λhB hn=>Below.blk hb hB K
 exact⟨q h.cf K,q h.mv K,q h.tx K,q h.at_ K,q h.sv K,⟨(hb.cell (p:=(Z sb 0 V)) (show sb<lim+1 by omega)).trans e.1,e.2⟩,⟨q h.mm.1 K,h.mm.2⟩,q h.rs K,
  ⟨hb.os.trans h.up.os,hb.tape.trans h.up.tape,hb.output.trans h.up.output,jM h.up.size hb.size,λk hk A C=>(hb.block k K).trans (h.up.block k hk A C)⟩,h.ne,h.lt⟩
def Nr.below(h:Nr g kc km kt ka ks sb r mb c s p w0 m W)(hb:jD W.heap.size W W'):Nr g kc km kt ka ks sb r mb c s p w0 m W':=
 h.up1 (jB g) h.rs.lt (hb.mono (by have:=h.rs.lt;omega))
def Nr.drew(h:Nr g kc km kt ka ks sb r mb c s p w0 m W):Nr g kc km kt ka ks sb r mb c s p w0 m W.drew:=h.below (oM W)
def Nr.turn(h:Nr g kc km kt ka ks sb r mb c s p w0 m W)(hg:W.grownBy W' (U mb))(A:qb W' (U (mb,m2))):Nr g kc km kt ka ks sb r mb c s p w0 m2 W':=by
 have l:=h.lt;have n:=h.ne;have e:=h.se;have q:∀{n:Nat}{cs:Array jC}{t:jX},nU W n cs t->n≠mb->nU W' n cs t:=λhB hn=>pO hB hg λx C e=>hn (by cases C;exact e.symm)
 have hsz:=h.rs.lt;refine⟨q h.cf K,q h.mv K,q h.tx K,q h.at_ K,q h.sv K,⟨?_,e.2⟩,A,q h.rs K,?_,h.ne,h.lt⟩
 .have hb:=hg.block sb K (by intro e;cases e;omega)
  simp only[mV,hb];exact e.1
 .exact⟨hg.os.trans h.up.os,hg.tape.trans h.up.tape,hg.output.trans h.up.output,jM h.up.size hg.size,λk hk E I=>(hg.block k (jZ hk h.up.size) (by intro e;cases e;omega)).trans (h.up.block k hk E I)⟩
end
structure Yl(g kc km kt ka ks sb r mb:Nat)(c:oO)(s:An)(p:Nat)(w0:M)(m m2:MS)(y:UU)(d5 d10 d11:Bool)(v10:jC)(W:M):Prop where
 bs:Nr g kc km kt ka ks sb r mb c s p w0 (if d5=R then m2 else m) W
 bk:d10=R->∃b,v10=nG (U (Z b 0 V))/\g<b/\nU W b (if d11=R then#[Y nN y.id,G y.name,G y.body]else#[Y nN 0,G ⟨#[]⟩,G ⟨#[]⟩]) rq
section
variable {g kc km kt ka ks sb r mb:Nat}{c:oO}{s:An}{p:Nat}{w0:M}{m m2:MS}{y:UU}{d5 d10 d11:Bool}{v10:jC}{W W':M}
def Yl.call(h:Yl g kc km kt ka ks sb r mb c s p w0 m m2 y O d10 O v10 W)(hg:W.grownBy W' (U mb))(A:qb W' (U (mb,m2))):Yl g kc km kt ka ks sb r mb c s p w0 m m2 y R d10 O v10 W':=by
 refine⟨h.bs.turn hg A,λhd=> ?_⟩;obtain⟨b,e1,e2,e3⟩:=h.bk hd;have l:=h.bs.lt;exact⟨b,e1,e2,pO e3 hg λx C=>by cases C;omega⟩
def Yl.made(h:Yl g kc km kt ka ks sb r mb c s p w0 m m2 y d5 O O v10 W):Yl g kc km kt ka ks sb r mb c s p w0 m m2 y d5 R O (nG (U (Z W.heap.size 0 V))) (W.alloc (nL #[Y nN 0,G ⟨#[]⟩,G ⟨#[]⟩] rq)):=
 ⟨h.bs.below ((jE W.heap.size W).alloc (jB _) _),λ_=>⟨_,rfl,h.bs.rs.lt,nU.new W _ _⟩⟩
def Yl.put{b:Nat}(h:Yl g kc km kt ka ks sb r mb c s p w0 m m2 y R R O (nG (U (Z b 0 V))) W)(A:g<b)(hB:nU W b #[Y nN 0,G ⟨#[]⟩,G ⟨#[]⟩] rq):Yl g kc km kt ka ks sb r mb c s p w0 m m2 y R R R (nG (U (Z b 0 V))) (y9 W b (Y nN y.id) (G y.name) (G y.body)):=by
 have hb:jD (g+1) W (y9 W b (Y nN y.id) (G y.name) (G y.body)):=
  (((jE (g+1) W).setCell (p:=(Z b 0 V)) (by show g+1<=b;omega) _).setCell (p:=(Z b 1 V)) (by show g+1<=b;omega) _).setCell (p:=(Z b 2 V)) (by show g+1<=b;omega) _
 exact⟨h.bs.up1 (jB g) h.bs.rs.lt hb,λ_=>⟨b,rfl,A,qW hB⟩⟩
end
noncomputable def Ns:List lJ:=cO (cL (cR (cB Tryz.f62)))
section
variable (g kc km kt ka ks sb r mb:Nat)(c:oO)(s:An)(p:Nat)(w0:M)(m m2:MS)(y:UU)
def FJ:Nat->jC
 |0=> nI #[Y X c.fmt,Y nO c.mag,Y X c.pV,Y X c.qH,Y X c.dep,Y X c.pq]
 |1=> nG (U (Z mb 0 V))
 |2=> G s
 |3=> Y X p
 |4=> G (s.extract p s.size)
 |5=> nJ #[nI #[Y nN y.id,G y.name,G y.body],Y X y.n,Y X y.e]
 |6=> nJ #[nI #[Y nN y.id,G y.name,G y.body],Y X y.n,Y X y.e]
 |7=> nI #[Y nN y.id,G y.name,G y.body]
 |8=> Y X y.n
 |9=> Y X y.e
 |12=> Y X y.n
 |13=> Y X y.e
 |_=>ku
structure b0w(D:Nat->Bool)(vs:Nat->jC)(w:M):Prop where
 oU:Yl g kc km kt ka ks sb r mb c s p w0 m m2 y (D 5) (D 10) (D 11) (vs 10) w
 val:∀j,(j !=10)=R->D j=R->vs j=FJ mb c s p y j
variable {g kc km kt ka ks sb r mb c s p w0 m m2 y}
def a6Q{id:Nat}{Q:Exit->Act->M->Prop}{ag:M}(ht0:a0.tmps.getD 0 ku=nG (U (Z kc 0 V)))(ht1:a0.tmps.getD 1 ku=nG (U (Z km 0 V)))(ht2:a0.tmps.getD 2 ku=nG (U (Z kt 0 V)))(ht3:a0.tmps.getD 3 ku=nG (U (Z ka 0 V)))(hp:p<=s.size/\s.size<=100000)(hnext:∀W,qb W (U (mb,m))->jG jy 63 #[nI #[Y X c.fmt,Y nO c.mag,Y X c.pV,Y X c.qH,Y X c.dep,Y X c.pq],nG (U (Z mb 0 V)),G (s.extract p s.size)] W λe ah=>W.grownBy ah (U mb)/\qb ah (U (mb,m2))/\e=nK y.v)(hsz:a0.tmps.size=41)(hI0:∀vs:Nat->jC,(λw=>Yl g kc km kt ka ks sb r mb c s p w0 m m2 y O O O (vs 10) w) ag.drew)(ai:∀(vs:Nat->jC) (w:M),Yl g kc km kt ka ks sb r mb c s p w0 m m2 y R R R (vs 10) w->Q .normal {a0 with tmps:=(((((((((((((a0.tmps.setIfInBounds 12 (nI #[Y X c.fmt,Y nO c.mag,Y X c.pV,Y X c.qH,Y X c.dep,Y X c.pq])).setIfInBounds 13 (nG (U (Z mb 0 V)))).setIfInBounds 14 (G s)).setIfInBounds 15 (Y X p)).setIfInBounds 16 (G (s.extract p s.size))).setIfInBounds 17 (nJ #[nI #[Y nN y.id,G y.name,G y.body],Y X y.n,Y X y.e])).setIfInBounds 11 (nJ #[nI #[Y nN y.id,G y.name,G y.body],Y X y.n,Y X y.e])).setIfInBounds 18 (nI #[Y nN y.id,G y.name,G y.body])).setIfInBounds 19 (Y X y.n)).setIfInBounds 20 (Y X y.e)).setIfInBounds 7 (vs 10)).setIfInBounds 8 (Y X y.n)).setIfInBounds 9 (Y X y.e))} w):
  (kT id Ns.toArray R).wp jy Q a0 ag:=by
 refine oF 14 41 (b0w g kc km kt ka ks sb r mb c s p w0 m m2 y) nV hsz nV (.inl rfl) nV ?_ ?_ ?_;.exact q9
 .refine sM λA aB=> ?_
  clear hI0 ai hsz;replace ht0:=H ht0;replace ht1:=H ht1;replace ht2:=H ht2;replace ht3:=H ht3;replace hp:=H hp;replace hnext:=H hnext;dsimp+instances only[Ns,cO,cL,cR,cB,Tryz.f62];simp only[jY,kJ,rZ];refine⟨?_,?_,?_,?_,?_,?_,?_,?_,?_,?_,?_,?_,?_,?_,trivial⟩<;>(intro D vs a w am hI hd E J C N;subst aB;dsimp+instances only[Ns,cO,cL,cR,cB,Tryz.f62]);have aK:=(C 0 nT).trans ht0.out;have hB:=hI.oU.bs.cf;obtain⟨c0,c1,c2,c3,c4,c5⟩:=hB.a6;clear hB;rotate_left;have e1:=(C 1 nT).trans ht1.out;have hB:=hI.oU.bs.mv;have c0:=hB.c0;clear hB;rotate_left;have e2:=(C 2 nT).trans ht2.out;have hB:=hI.oU.bs.tx;have c0:=hB.c0;clear hB;rotate_left;have e3:=(C 3 nT).trans ht3.out;have hB:=hI.oU.bs.at_;have c0:=hB.c0;clear hB;rotate_left;have hp:=hp.out;have aj:=fe C hI.val E 14 2;have ak:=fe C hI.val E 15 3;simp only[FJ]at aj ak;obtain⟨aF,aG⟩:=hp;rotate_left
  .have hnext:=hnext.out
   have au:=fe C hI.val E 12 0;have av:=fe C hI.val E 13 1;have ax:=fe C hI.val E 16 4;simp only[FJ]at au av ax;have I:=hI.oU;rw[hd,J 11 nT nV]at I;have aC:=hnext w I.bs.mm;clear hnext;rw[AC (by rfl)];go_simp;refine aC.mono ?_;rintro e aL ⟨hg,aD,rfl⟩;refine N (FJ mb c s p y 5) _ _ rfl ⟨?_,vM hI.val⟩;rw[oH,nZ D (show 10≠5 by decide),nZ D (show 11≠5 by decide),oG vs _ (show 10≠5 by decide),J 11 nT nV];exact I.call hg aD
  have aH:=fe C hI.val E 17 5;rotate_left;have ae:=fe C hI.val E 11 6;rotate_left;have ae:=fe C hI.val E 11 6;rotate_left;have ae:=fe C hI.val E 11 6;rotate_left
  .have I:=hI.oU
   rw[hd,J 11 nT nV]at I;go_simp;refine N (nG (U (Z w.heap.size 0 V))) _ _ rfl ⟨?_,QY rfl hI.val⟩;rw[oH,nZ D (show 5≠10 by decide),nZ D (show 11≠10 by decide),qz,J 11 nT nV];exact I.made
  .have d10:=E 10 nT nV
   have ay:a.tmps.getD 7 ku=vs 10:=C 7 nT;have az:=fe C hI.val E 18 7;simp only[FJ]at az;have I:=hI.oU;rw[hd,E 5 nT nV,d10]at I;obtain⟨b,af,aA,hB⟩:=I.bk rfl;rw[As nT]at hB;rw[af]at I;have ay:=ay.trans af;obtain⟨z0,aM,aN,aO,f1,f2⟩:=Lj hB;go_simp;rw[rP];refine N ku _ _ rfl ⟨?_,vM hI.val⟩;rw[oH,nZ D (show 5≠11 by decide),nZ D (show 10≠11 by decide),oG vs _ (show 10≠11 by decide),E 5 nT nV,d10,af];exact I.put aA hB
  have aI:=fe C hI.val E 19 8;rotate_left;have aJ:=fe C hI.val E 20 9;rotate_left
  all_goals
   try simp only[FJ]at*
   go_simp;exact N _ _ _ rfl ⟨hI.oU,vM hI.val⟩
 .intro D vs w aa hI
  have E:=hI.oU;rw[aa 5 nT]at E;rw[aa 10 nT]at E;rw[aa 11 nT]at E;have q:=ai vs w E;rw[pE hI.val aa];dsimp+instances only[Ns,cO,cL,cR,cB,Tryz.f62];exact q8
end
def N4B(g kc km kt ka ks sb r mb:Nat)(c:oO)(s:An)(p:Nat)(w0:M)(m:MS)(fb:Nat)(f:vS)(W:M):Prop:=Nr g kc km kt ka ks sb r mb c s p w0 m W/\nU W fb #[Y nN f.id,G f.name,G f.body] rq
def N4B.up1{g kc km kt ka ks sb r mb:Nat}{c:oO}{s:An}{p:Nat}{w0:M}{m:MS}{fb:Nat}{f:vS}{W A:M}(hg:g<fb)(h:N4B g kc km kt ka ks sb r mb c s p w0 m fb f W)(hl:fb<W.heap.size)(hb:jD (fb+1) W A):N4B g kc km kt ka ks sb r mb c s p w0 m fb f A:=
 ⟨h.1.up1 (Nat.le_of_lt hg) hl hb,Below.blk hb h.2 K⟩
noncomputable def Nt:List lJ:=cO (cL (cR (cR (cR (cB Tryz.f62)))))
section
variable (g kc km kt ka ks sb r mb:Nat)(c:oO)(s:An)(p:Nat)(w0:M)(m:MS)(fb:Nat)(f:vS)(nm T:An)(li:Bool)(S:List (nS IL))(er:Nat)(Ps:Option kW->Nat->Prop)
def JH:Nat->jC
 |0=> nG (U (Z sb 0 V))
 |1=> nG (U (Z sb 0 V))
 |2=> nG (U (Z sb 0 V))
 |3=> nG (U (Z r 0 V))
 |4=> nI #[Y nN f.id,G f.name,G f.body]
 |8=> Y X (er)
 |11=> Y X (er)
 |_=>ku
structure b0x(D:Nat->Bool)(vs:Nat->jC)(w:M):Prop where
 oU:Cm (N4B g kc km kt ka ks sb r mb c s p w0 m fb f) (fb) (λov cv=>#[G nm,G T,nH li,u ov S.length cv]) (er) (zm4) Az (Ps) (S) (D 5) (D 6) (D 7) (D 9) (D 10) (vs 5) (vs 6) (vs 7) (vs 9) w
 val:∀j,(j !=5&&j !=6&&j !=7&&j !=9)=R->D j=R->vs j=JH sb r f er j
variable {g kc km kt ka ks sb r mb c s p w0 m fb f nm T li S er Ps}
def a6R{id:Nat}{Q:Exit->Act->M->Prop}{au:M}(GZ:a0.tmps.getD 4 ku=nG (U (Z ks 0 V)))(GA:a0.tmps.getD 7 ku=nG (U (Z fb 0 V)))(hdec:∀W,N4B g kc km kt ka ks sb r mb c s p w0 m fb f W->jG jy 64 #[nG (U (Z r 0 V)),nI #[Y nN f.id,G f.name,G f.body]] W λe ag=>∃ov cv,Ps ov cv/\e=nK (nJ #[nI #[G nm,G T,nH li,u ov S.length cv],Y X er])/\oo ag (λc=>W.heap.size<=c) (u ov S.length cv) S/\jD W.heap.size W ag)(rG:∀W ag,(N4B g kc km kt ka ks sb r mb c s p w0 m fb f) W->fb<W.heap.size->jD (fb+1) W ag->(N4B g kc km kt ka ks sb r mb c s p w0 m fb f) ag)(hsz:a0.tmps.size=41)(hI0:∀vs:Nat->jC,(λw=>Cm (N4B g kc km kt ka ks sb r mb c s p w0 m fb f) (fb) (λov cv=>#[G nm,G T,nH li,u ov S.length cv]) (er) (zm4) Az (Ps) (S) O O O O O (vs 5) (vs 6) (vs 7) (vs 9) w) au.drew)(av:∀(vs:Nat->jC) (w:M),Cm (N4B g kc km kt ka ks sb r mb c s p w0 m fb f) (fb) (λov cv=>#[G nm,G T,nH li,u ov S.length cv]) (er) (zm4) Az (Ps) (S) R R R R R (vs 5) (vs 6) (vs 7) (vs 9) w->Q .normal {a0 with tmps:=(((((((((((a0.tmps.setIfInBounds 26 (nG (U (Z sb 0 V)))).setIfInBounds 27 (nG (U (Z sb 0 V)))).setIfInBounds 28 (nG (U (Z sb 0 V)))).setIfInBounds 29 (nG (U (Z r 0 V)))).setIfInBounds 30 (nI #[Y nN f.id,G f.name,G f.body])).setIfInBounds 31 (vs 5)).setIfInBounds 25 (vs 6)).setIfInBounds 32 (vs 7)).setIfInBounds 33 (Y X (er))).setIfInBounds 10 (vs 9)).setIfInBounds 9 (Y X (er)))} w):
  (kT id Nt.toArray R).wp jy Q a0 au:=by
 refine oF 12 41 (b0x g kc km kt ka ks sb r mb c s p w0 m fb f nm T li S er Ps) nV hsz nV (.inl rfl) nV ?_ ?_ ?_;.exact q9
 .refine sM λA aC=> ?_
  clear hI0 av hsz;replace GZ:=H GZ;replace GA:=H GA;replace hdec:=H hdec;replace rG:=H rG;dsimp+instances only[Nt,cO,cL,cR,cB,Tryz.f62];simp only[jY,kJ,rZ];refine⟨?_,?_,?_,?_,?_,?_,?_,?_,?_,?_,?_,?_,trivial⟩<;>(intro D vs a w am hI hd C E I ae;subst aC;dsimp+instances only[Nt,cO,cL,cR,cB,Tryz.f62]);have e4:=(I 4 nT).trans GZ.out;have hB:=hI.oU.bs.1.sv;have c0:=hB.c0;clear hB;rotate_left;have aL:=fe I hI.val C 26 0;rotate_left;have aM:=fe I hI.val C 27 1;rotate_left;have ax:=fe I hI.val C 28 2;simp only[JH]at ax;have c0:=hI.oU.bs.1.se.1;rotate_left;have aP:=(I 7 nT).trans GA.out;have hB:=hI.oU.bs.2;obtain⟨c0,c1,c2⟩:=hB.a3;clear hB;rotate_left
  .have hdec:=hdec.out
   have rG:=rG.out;have ay:=fe I hI.val C 29 3;have az:=fe I hI.val C 30 4;simp only[JH]at ay az;have ai:D 7=O:=by cases h:D 7 with|false=>rfl|true=>exact absurd (hI.oU.dm h) (by rw[E 6 nT nV];decide)
   have J:=hI.oU;rw[hd,E 6 nT nV,ai,E 10 nT nV]at J;have aD:=hdec w J.bs;clear hdec;rw[AC (by rfl)];go_simp;refine aD.mono ?_;rintro e aQ ⟨ov,cv,hp,rfl,hs,hb⟩;refine ae _ _ _ rfl ⟨?_,QY rfl hI.val⟩;rw[oH,nZ D (show 6≠5 by decide),nZ D (show 7≠5 by decide),nZ D (show 9≠5 by decide),nZ D (show 10≠5 by decide),qz,oG vs _ (show 6≠5 by decide),oG vs _ (show 7≠5 by decide),oG vs _ (show 9≠5 by decide)];rw[E 6 nT nV,ai,E 10 nT nV];exact J.call rG hb hp hs
  .have d5:=C 5 nT nV
   have aN:a.tmps.getD 31 ku=vs 5:=I 31 nT;have J:=hI.oU;rw[hd,d5,E 7 nT nV,E 10 nT nV]at J;go_simp;refine ae _ _ _ rfl ⟨?_,QY rfl hI.val⟩;rw[oH,nZ D (show 5≠6 by decide),nZ D (show 7≠6 by decide),nZ D (show 9≠6 by decide),nZ D (show 10≠6 by decide),qz,oG vs _ (show 5≠6 by decide),oG vs _ (show 7≠6 by decide),oG vs _ (show 9≠6 by decide)];rw[d5,E 7 nT nV,E 10 nT nV];exact J.mv
  .have d6:=C 6 nT nV
   have aa:a.tmps.getD 25 ku=vs 6:=I 25 nT;have J:=hI.oU;have N:D 5=R:=hI.oU.done (by rw[d6]);rw[hd,N,d6,E 10 nT nV]at J;obtain⟨ov,cv,ev,ah⟩:=J.ext;try dsimp only at ev ah
   have aa:=aa.trans ev;go_simp;refine ae _ _ _ rfl ⟨?_,QY rfl hI.val⟩;rw[oH,nZ D (show 5≠7 by decide),nZ D (show 6≠7 by decide),nZ D (show 9≠7 by decide),nZ D (show 10≠7 by decide),qz,oG vs _ (show 5≠7 by decide),oG vs _ (show 6≠7 by decide),oG vs _ (show 9≠7 by decide)];rw[N,d6,E 10 nT nV];exact ah
  .have d6:=C 6 nT nV
   have aa:a.tmps.getD 25 ku=vs 6:=I 25 nT;have N:D 5=R:=hI.oU.done (by rw[d6]);have J:=hI.oU;rw[N,d6]at J;obtain⟨ov,cv,ev⟩:=J.tup;try dsimp only at ev
   have aa:=aa.trans ev;go_simp;exact ae (JH sb r f er 8) _ _ rfl ⟨hI.oU,vM hI.val⟩
  .have rG:=rG.out
   have J:=hI.oU;rw[hd,E 10 nT nV]at J;go_simp;refine ae (nG (U (Z w.heap.size 0 V))) _ _ rfl ⟨?_,QY rfl hI.val⟩;rw[oH,nZ D (show 5≠9 by decide),nZ D (show 6≠9 by decide),nZ D (show 7≠9 by decide),nZ D (show 10≠9 by decide),qz,oG vs _ (show 5≠9 by decide),oG vs _ (show 6≠9 by decide),oG vs _ (show 7≠9 by decide)];rw[E 10 nT nV];exact J.made rG
  .have rG:=rG.out
   have d9:=C 9 nT nV;have aj:a.tmps.getD 10 ku=vs 9:=I 10 nT;have aA:=C 7 nT nV;have ak:a.tmps.getD 32 ku=vs 7:=I 32 nT;have N:D 5=R:=hI.oU.done (C 6 nT nV);have J:=hI.oU;rw[hd,N,C 6 nT nV,aA,d9]at J;obtain⟨ov,cv,b,aB,aF,hB,ah⟩:=J.st rG;try dsimp only at aB ah
   have ak:=ak.trans aB;have aj:=aj.trans aF;obtain⟨⟨z0,aR,aS,z3⟩,aT,f1,f2,f3⟩:=oN hB;go_simp;rw[uB];refine ae ku _ _ rfl ⟨?_,vM hI.val⟩;rw[oH,nZ D (show 5≠10 by decide),nZ D (show 6≠10 by decide),nZ D (show 7≠10 by decide),nZ D (show 9≠10 by decide),oG vs _ (show 5≠10 by decide),oG vs _ (show 6≠10 by decide),oG vs _ (show 7≠10 by decide),oG vs _ (show 9≠10 by decide)];rw[N,C 6 nT nV,aA,d9];obtain⟨aG,aH,aI,aJ,aK⟩:=zX _ _ _ _ _ _;exact ah _ aG aH aI aJ aK (sj hB)
  have aO:=fe I hI.val C 33 8;rotate_left
  all_goals
   try simp only[JH]at*
   go_simp;exact ae _ _ _ rfl ⟨hI.oU,vM hI.val⟩
 .intro D vs w af hI
  have C:=hI.oU;rw[af 5 nT]at C;rw[af 6 nT]at C;rw[af 7 nT]at C;rw[af 9 nT]at C;rw[af 10 nT]at C;have q:=av vs w C;rw[pE hI.val af];dsimp+instances only[Nt,cO,cL,cR,cB,Tryz.f62];exact q8
end
def Xk{s t:An}(h:Dh s=U t):t.size<=s.size:=by
 unfold Dh at h;split at h
 .cases h
  have A:=Gl s.data.toList;have C:s.data.toList.length=s.size:=nX;have E:(⟨(kM s.data.toList 0).toArray⟩:An).size=(kM s.data.toList 0).length:=lK;omega
 .cases h
def a8Z(A:Except Nat G8)(n:Nat)(aq:Option (Nat×MS)):Except Nat (G8×Nat)×Option (Nat×MS):=match A with
 | .error er=>(.error er,aq)
 | .ok m=>(.ok (m,n),aq)
def a5y(c:oO)(rows:List Row)(A:Except Nat (vS×Nat)×Option (Nat×MS)):Except Nat (G8×Nat)×Option (Nat×MS):=match A with
 |(.error er,m2)=>(.error er,m2)
 |(.ok y,m2)=>a8Z (Dw c rows y.1) y.2 m2
def a4e(c:oO)(rows:List Row)(s:An)(mt:Option (Nat×MS)):ru c rows s mt=a5y c rows (pU c s mt):=rfl
def a0q{c:oO}{s:An}{mt:Option (Nat×MS)}{y:vS×Nat}(h:(pU c s mt).1=.ok y):y.1.name.size<=jN/\y.1.id<18446744073709551616:=by
 have hp:∀{most:Int},(o5 most s).e=0->(o5 most s).id<18446744073709551616:=by
  intro most h;unfold o5 at*;split
  .rename_i h0
   rw[AC h0]at h;split;.show(0:Nat)<_;decide
   .rename_i C
    rw[As C]at h;dsimp only at*;split
    .rename_i A
     dsimp only;generalize E:oC _ 0 0=q at*;obtain⟨a,b,e⟩:=q;dsimp only at A|-;subst A;exact(qN E).2.1
    .show(0:Nat)<_;decide
  .show(0:Nat)<_;decide
 unfold pU at h;split at h
 .dsimp only at h
  unfold uT at h;split at h
  .cases h
   refine⟨?_,by show(0:Nat)<_;decide⟩;show(vC s).size<=jN;unfold vC;cases hg:Dh (s.extract 4 16)with
   |none=>decide
   |some t=>
    have:=Xk hg;simp only[jP]at this;show t.size<=jN;unfold jN;omega
  .cases h
 .split at h
  .dsimp only at h
   unfold wX at h;split at h;.cases h
   .rename_i h0
    cases h;exact⟨ko _,hp (by simpa using h0)⟩
  .unfold uq at h
   split at h;.cases h
   .rename_i h0
    split at h;.cases h
    .cases h
     exact⟨ko _,hp (by simpa using h0)⟩
def qG.lt3{r bn bi:Nat}{c:oO}{L:List oV}{w:M}(h:qG r bn bi c L w):r<w.heap.size/\bn<w.heap.size/\bi<w.heap.size:=⟨h.rg.lt,h.nm.lt,h.id.lt⟩
def Nu{g kc km kt ka ks sb r mb:Nat}{c:oO}{s:An}{p:Nat}{w0:M}{m:MS}{W:M}{a b e d:jC}(h:Nr g kc km kt ka ks sb r mb c s p w0 m W):
  qb (zV W g a b e d) (U (mb,m))/\nU (zV W g a b e d) ka #[Y X p] InT/\oW ka mb w0 (zV W g a b e d)/\∀(v:jC)(S:List (nS IL)),(oo W (λc=>g<c) v S)->oo (zV W g a b e d) (λc=>w0.heap.size<=c) v S:=by
 obtain⟨A,C,E,I,J⟩:=zX W g a b e d;have l:=h.lt;have q:∀{n:Nat}{cs:Array jC}{t:jX},nU W n cs t->n≠g->nU (zV W g a b e d) n cs t:=λhB hn=>by unfold nU at*;rw[A _ hn];exact hB
 refine⟨⟨q h.mm.1 K,h.mm.2⟩,q h.at_ K,⟨E.trans h.up.os,I.trans h.up.tape,J.trans h.up.output,by rw[C];exact h.up.size,λk hk N aa=>(A k K).trans (h.up.block k hk N aa)⟩,λv S hs=> ?_⟩;exact Shape.om.keep hs (lZ C.symm) (λc _ hc=>by show w0.heap.size<=c;have:g<c:=hc;omega) λc _ hc=>A c (by have:g<c:=hc;omega)
structure NxE(kc km kt ka ks sb r mb:Nat)(c:oO)(s:An)(p:Nat)(m:MS)(W:M):Prop where
 cf:nU W kc #[Y X c.fmt,Y nO c.mag,Y X c.pV,Y X c.qH,Y X c.dep,Y X c.pq] uk
 mv:nU W km #[nG (U (Z mb 0 V))] MtT
 tx:nU W kt #[G s] QW
 at_:nU W ka #[Y X p] InT
 sv:nU W ks #[nG (U (Z sb 0 V))] SK
 se:W.cell? (Z sb 0 V)=U (nG (U (Z r 0 V)))/\sb<W.heap.size
 mm:qb W (U (mb,m))
 ne:kc≠mb/\km≠mb/\kt≠mb/\ka≠mb/\ks≠mb/\sb≠mb/\kc≠ka/\km≠ka/\kt≠ka/\ks≠ka/\sb≠ka
def sI(ar:Except Nat (G8×Nat)):Except Nat G8:=match ar with| .error er=> .error er| .ok y=> .ok y.1
def goR(p:Nat)(ar:Except Nat (G8×Nat)):Nat:=match ar with| .error _=>p| .ok y=>p+y.2
def JI(ka mb p:Nat)(ar:Except Nat (G8×Nat)×Option (Nat×MS))(w:M)(e:Ending)(w':M):Prop:=
 ∃ov cv,((∃er,sI ar.1=.error er)->ov=V/\cv=0)/\e=nK (nJ #[nI #[G (mN (sI ar.1)),G (mT (sI ar.1)),nH (mL (sI ar.1)),u ov (mS (sI ar.1)).length cv],Y X (mE (sI ar.1):Nat)])/\
  oo w' (λc=>w.heap.size<=c) (u ov (mS (sI ar.1)).length cv) (mS (sI ar.1))/\qb w' ar.2/\nU w' ka #[Y X (goR p ar.1)] InT/\oW ka mb w w'
def Nr.atp{g kc km kt ka ks sb r mb:Nat}{c:oO}{s:An}{p:Nat}{w0:M}{m:MS}{W:M}(h:Nr g kc km kt ka ks sb r mb c s p w0 m W)(q:Nat):Nr g kc km kt ka ks sb r mb c s q w0 m (W.setCell (Z ka 0 V) (Y X q)):=by
 have l:=h.lt;have n:=h.ne;have e:=h.se;have o:∀{b:Nat}{cs:Array jC}{t:jX},nU W b cs t->b≠ka->nU (W.setCell (Z ka 0 V) (Y X q)) b cs t:=λhB hn=>hB.setOther (a:=(Z ka 0 V)) hn _
 refine⟨o h.cf K,o h.mv K,o h.tx K,h.at_.set 0 _,o h.sv K,⟨?_,e.2⟩,⟨o h.mm.1 K,h.mm.2⟩,o h.rs K,h.up.C8 0 _,h.ne,h.lt⟩;have hb:=jW W (Z ka 0 V) (Y X q) sb (by show sb≠ka;omega);simp only[mV,hb];exact e.1
def a0r(kc km kt ka ks sb r mb bn bi:Nat)(c:oO)(L:List oV)(s:An)(p:Nat)(m:MS)(w:M)(h:NxE kc km kt ka ks sb r mb c s p m w)(hc:oL c=R)(au:c.wf)(hp:p<=s.size/\s.size<=100000)(av:∀W,oW ka mb w W->qG r bn bi c L W/\qK W/\xW W):
  jG jy 62 #[nG (U (Z kc 0 V)),nG (U (Z km 0 V)),nG (U (Z kt 0 V)),nG (U (Z ka 0 V)),nG (U (Z ks 0 V))] w (JI ka mb p (ru c (L.map λx=>x.r) (s.extract p s.size) (U (mb,m))) w):=by
 obtain⟨g,hg⟩:=og w.heap.size;have ax:(s.extract p s.size).size<=100000:=by simp only[jP];omega
 have bC:(s.extract p s.size).size<=jN:=jM ax nT;have hrow:=A9 c (s.extract p s.size) (U (mb,m));obtain⟨ai,N⟩:=og (pU c (s.extract p s.size) (U (mb,m)));have hok:∀y,ai.1=.ok y->0<y.2/\y.2<=(s.extract p s.size).size/\y.1.body.size<=100000/\y.1.name.size<=jN/\y.1.id<18446744073709551616:=λy hy=>by
  rw[<-N]at hy;have af:=zk hc ax hy;have bq:=a0q hy;exact⟨af.1,af.2.1,af.2.2,bq.1,bq.2⟩
 have bD:∀er,ai.1=.error er->1<=er:=λer he=>Fu c (s.extract p s.size) (U (mb,m)) er (N▸he)
 have bE:∀W,qb W (U (mb,m))->jG jy 63 #[nI #[Y X c.fmt,Y nO c.mag,Y X c.pV,Y X c.qH,Y X c.dep,Y X c.pq],nG (U (Z mb 0 V)),G (s.extract p s.size)] W λe w'=>W.grownBy w' (U mb)/\qb w' ai.2/\e=nK (Sr ai.1).v:=λW dJ=>by
  have:=WS c (s.extract p s.size) (U (mb,m)) W bC hc au dJ;rw[N]at this;exact this
 have ay:ru c (L.map λx=>x.r) (s.extract p s.size) (U (mb,m))=a5y c (L.map λx=>x.r) ai:=by rw[a4e,N]
 rw[N]at hrow;obtain⟨df,dh⟩:=ai;obtain⟨m2,rfl⟩:∃m2,dh=U (mb,m2):=by
  cases dh with
  |none=>cases hrow
  |some q=>obtain⟨bu,az⟩:=q;cases hrow;exact⟨az,rfl⟩
 dsimp only at*;have bF:jI (∀W,w.alloc (nL #[G ⟨#[]⟩,G ⟨#[]⟩,nH O,u V 0 0] Az)=W->Nr g kc km kt ka ks sb r mb c s p w m W):=H λW bP=>by
  subst bP;have a:=(jE w.heap.size w).alloc (jB _) (nL zm4 Az);have q:∀{n:Nat}{cs:Array jC}{t:jX},nU w n cs t->nU (w.alloc (nL zm4 Az)) n cs t:=λhB=>Below.blk a hB hB.lt
  have lt:∀{n:Nat}{cs:Array jC}{t:jX},nU w n cs t->n<g:=λhB=>hg▸hB.lt
  exact⟨q h.cf,q h.mv,q h.tx,q h.at_,q h.sv,⟨(a.cell (p:=(Z sb 0 V)) h.se.2).trans h.se.1,hg▸h.se.2⟩,⟨q h.mm.1,h.mm.2⟩,hg▸nU.new w _ _,oW.of a,h.ne,⟨lt h.cf,lt h.mv,lt h.tx,lt h.at_,lt h.sv,lt h.mm.1,hg⟩⟩
 have aA:=H av;have bQ:=H (jF hc au);have bR:=H bE;have aB:=H hok;have aC:=H bD;obtain⟨bS,bG⟩:=og (ru c (L.map λx=>x.r) (s.extract p s.size) (U (mb,m)));rw[bG]at ay|-;have ag:=H ay;obtain⟨dK,bT⟩:=og (JI ka mb p bS w);have bU:=H bT;rw[bT];clear h hc au av ax bC hrow N hok bD bE ay bG bT;obtain⟨y,hy⟩:=og (Sr df);rw[hy]at bR;have bz:=H hy;clear hy;go_in;go_upto_region 1 with fail;have bH:=bF.out _ rfl;generalize w.alloc _=w1 at*;have bI:=H bH;clear bF bH;refine a6Q (g:=g) (kc:=kc) (km:=km) (kt:=kt) (ka:=ka) (ks:=ks) (sb:=sb) (r:=r) (mb:=mb) (c:=c) (s:=s) (p:=p) (w0:=w) (m:=m) (m2:=m2) (y:=y) (ht0:=by rfl) (ht1:=by rfl) (ht2:=by rfl) (ht3:=by rfl) (hsz:=by rfl) (hp:=hp) (hnext:=bR.out) (hI0:=λ_=>⟨bI.drew,(λh=>by cases h)⟩) ?_;intro vs W hF;obtain⟨fb,bJ,dw,hB⟩:=hF.bk rfl;have aD:=hF.bs;simp only[if_true]at hB aD;rw[bJ];have aF:=H aD;have bA:=H hB;simp only[jH,jQ,jR];clear hF hB aD bJ bI bR;cases df with
 |error er=>
  obtain rfl:y=⟨0,⟨#[]⟩,⟨#[]⟩,0,er⟩:=bz.symm;have dx:=aC.out er rfl;have t0:((er:Int) !=0)=R:=nY;have bB:jI (bS=(.error er,U (mb,m2))):=ag;obtain⟨⟨bV,bW,y2,bX⟩,bY,bu,az,bZ⟩:=oN aF.rs;dsimp only;clear ag aB aC bz dx;go_wp2_with fail;rw[uB];obtain⟨⟨aG,aH,aI,aJ⟩,_⟩:=oN (sj (a:=G ⟨#[]⟩) (b:=G ⟨#[]⟩) (c:=nH O) (d:=u V 0 0) aF.rs);have A:=Nu (a:=G ⟨#[]⟩) (b:=G ⟨#[]⟩) (e:=nH O) (d:=u V 0 0) aF.out;refine jO (v:=nJ #[nI #[G ⟨#[]⟩,G ⟨#[]⟩,nH O,u V 0 0],Y X (er:Nat)]) (by simp[kF,Tryz.results62,go_sem,aG,aH,aI,aJ]) rfl ?_;rw[<-bU.out,bB.out];exact⟨V,0,λ_=>⟨rfl,rfl⟩,rfl,wK _ _,A.1,A.2.1,A.2.2.1⟩
 |ok z=>
  obtain⟨⟨aj,fn,aa⟩,n⟩:=z;obtain rfl:y=⟨aj,fn,aa,n,0⟩:=bz.symm;obtain⟨aK,aL,aM,I,hid⟩:=aB.out _ rfl;dsimp only at aK aL aM I hid|-;have bK:p+n<=s.size:=by simp only[jP]at aL;omega
  obtain⟨C,ah⟩:∃C,Dw c (L.map λx=>x.r) ⟨aj,fn,aa⟩=C:=⟨_,rfl⟩;have bB:jI (bS=a8Z C n (U (mb,m2))):=H (by rw[<-ah];exact ag);have aN:∀er,C=.error er->er≠0:=λer he=>by
   rw[<-ah]at he;unfold Dw at he;split at he;.cases he;decide
   .split at he
    .rename_i e1 af
     have:=JG af;cases he;split<;>omega
    .cases he
  have cz:=H aN;have hdec:∀W,N4B g kc km kt ka ks sb r mb c s p w m2 fb ⟨aj,fn,aa⟩ W->jG jy 64 #[nG (U (Z r 0 V)),nI #[Y nN aj,G fn,G aa]] W (a4c C W):=λW bP=>by
   obtain⟨af,bq,dL⟩:=aA.out W bP.1.up;have hb:=af.lt3;rw[<-ah];exact SI r bn bi c L ⟨aj,fn,aa⟩ W af bQ.1 bQ.2 bq dL I hid aM hb
  have ae:=H hdec;clear hdec aN ah ag aB aC bz aM I hid aL bQ aA;obtain⟨nm,I⟩:=og (mN C);obtain⟨T,aO⟩:=og (mT C);obtain⟨li,aP⟩:=og (mL C);obtain⟨S,cK⟩:=og (mS C);obtain⟨er,aQ⟩:=og (mE C);unfold a4c at ae;rw[I,aO,aP,cK,aQ]at ae;have aR:=H (jF I (jF aO (jF aP (jF cK aQ))));clear I aO aP cK aQ;go_upto_region 4 with fail;refine a6R (g:=g) (kc:=kc) (km:=km) (kt:=kt) (ka:=ka) (ks:=ks) (sb:=sb) (r:=r) (mb:=mb) (c:=c) (s:=s) (p:=p) (w0:=w) (m:=m2) (fb:=fb) (f:=⟨aj,fn,aa⟩) (nm:=nm) (T:=T) (li:=li) (S:=S) (er:=er) (Ps:=λov cv=>(∃er,C=.error er)->ov=V/\cv=0) (GZ:=by rfl) (GA:=by rfl) (hsz:=by rfl) (hdec:=ae.out) (rG:=λW dM h=>h.up1 dw) (hI0:=λ_=>Cm.ini ⟨aF.drew,Below.blk (oM _) bA bA.lt⟩ bA.lt) ?_;intro vs ak aS;obtain⟨ov,cv,b,bL,e5,dz,dA,dB,bM,aT,aU⟩:=Cm.fin aS;rw[e5,dz,dA,dB];have E:=H aS.bs.1;have J:=H (jF bL (jF bM aU));obtain⟨⟨b0,b1,dD,b3⟩,_⟩:=oN aT;have dE:=H aT;simp only[jH,jQ,jR];clear aS bL bM aT aU e5 dz dA dB aF bA ae;obtain⟨sn,aV⟩:=og S.length;rw[aV]at b3 dE J|-;have bN:=H aV;clear aV;obtain⟨c3,f3⟩:=E.at_.b1;obtain⟨⟨bV,bW,y2,bX⟩,bY,bu,az,bZ⟩:=oN E.rs;by_cases h0:er=0
  .subst h0
   obtain⟨mm,rfl⟩:∃mm,C=.ok mm:=by
    cases C with
    |error e1=>exact absurd aR.2.2.2.2 (cz e1 rfl)
    |ok mm=>exact⟨mm,rfl⟩
   have dF:IntKind.i64.wrap ((p:Int)+(n:Int))=((p+n:Nat):Int):=by rw[IntWalk.i64_in _ K];simp
   obtain⟨aW,aX⟩:=og (p+n);rw[aX]at dF;have dG:=H aX;clear aX aK bK;go_upto_region 7 with fail;have bO:=E.atp aW;have aY:∀i,(ak.setCell (Z ka 0 V) (Y X (aW:Nat))).cell? (Z b i V)=ak.cell? (Z b i V):=λi=>by
    have hb:=jW ak (Z ka 0 V) (Y X (aW:Nat)) b (by have:=J.2.1;have:=E.lt;show b≠ka;omega);simp only[mV,hb]
   have dN:=(aY 0).trans b0;have dO:=(aY 1).trans b1;have dP:=(aY 2).trans dD;have dQ:=(aY 3).trans b3;have dH:jI (oo (ak.setCell (Z ka 0 V) (Y X (aW:Nat))) (λc=>g<c) (u ov sn cv) S):=H (Shape.om.keep J.2.2 (by simp[j5]) (λc _ hc=>by have:=hc.1;omega) λc _ hc=>jW ak (Z ka 0 V) (Y X (aW:Nat)) c (by have:=hc.1;have:=E.lt;show c≠ka;omega));generalize ak.setCell _ _=dR at*;have aZ:=H bO;clear bO aY b0 b1 dD b3 bV bW y2 bX bY bu az bZ c3 f3 E;obtain⟨⟨bV,bW,y2,bX⟩,bY,bu,az,bZ⟩:=oN aZ.rs;go_wp2_with fail;rw[uB];obtain⟨⟨aG,aH,aI,aJ⟩,_⟩:=oN (sj (a:=G nm) (b:=G T) (c:=nH li) (d:=u ov sn cv) aZ.rs);have A:=Nu (a:=G nm) (b:=G T) (e:=nH li) (d:=u ov sn cv) aZ.out;refine jO (v:=nJ #[nI #[G nm,G T,nH li,u ov sn cv],Y X 0]) (by simp[kF,Tryz.results62,go_sem,aG,aH,aI,aJ]) rfl ?_;obtain⟨cZ,g2,g3,g4,_⟩:=aR.out;have hs:=A.2.2.2 _ _ dH.out;rw[<-bU.out,bB.out];have bg:=bN.out;subst cZ g2 g3 g4 bg;exact⟨ov,cv,(λ⟨_,h⟩=>by cases h),rfl,hs,A.1,by show nU _ ka #[Y X ((p+n:Nat):Int)] InT;rw[dG.out];exact A.2.1,A.2.2.1⟩
  .have t0:((er:Int)==0)=O:=nY
   have dI:C=.error er:=by
    cases C with
    |error e1=>rw[<-aR.2.2.2.2];rfl
    |ok mm=>exact absurd aR.2.2.2.2.symm h0
   subst dI;clear h0 aK bK c3 f3;go_wp2_with fail;rw[uB];obtain⟨⟨aG,aH,aI,aJ⟩,_⟩:=oN (sj (a:=G nm) (b:=G T) (c:=nH li) (d:=u ov sn cv) E.rs);have A:=Nu (a:=G nm) (b:=G T) (e:=nH li) (d:=u ov sn cv) E.out;refine jO (v:=nJ #[nI #[G nm,G T,nH li,u ov sn cv],Y X (er:Nat)]) (by simp[kF,Tryz.results62,go_sem,aG,aH,aI,aJ]) rfl ?_;obtain⟨cZ,g2,g3,g4,_⟩:=aR.out;have hs:=A.2.2.2 _ _ (Shape.om.keep J.2.2 (jB _) (λc _ hc=>by have:=hc.1;omega) λ_ _ _=>rfl);rw[<-bU.out,bB.out];have bg:=bN.out;subst cZ g2 g3 g4 bg;exact⟨ov,cv,λ_=>J.1 ⟨er,rfl⟩,rfl,hs,A.1,A.2.1,A.2.2.1⟩
def oI.blk{w:M}{B:Nat}{e:jX}{v:jC}{l:List Ax}(h:oI w B e v l):∀b,v.ownBlock=U b->B<=b/\b<w.heap.size:=by
 rcases h.2 with⟨rfl,_⟩|⟨g,cap,A,rfl,hb,hg,_⟩
 .intro b h;cases h
 .intro b h;cases h;exact⟨hb,(j6.1 hg).1⟩
def oI.form{w:M}{B:Nat}{e:jX}{v:jC}{l:List Ax}(h:oI w B e v l):∃oa cap,v=u oa l.length cap:=by
 rcases h.2 with⟨rfl,h0⟩|⟨g,cap,A,rfl,_⟩
 .exact⟨V,0,by rw[h0]⟩
 .exact⟨_,cap,rfl⟩
def oI.low{w:M}{B A:Nat}{e:jX}{v:jC}{l:List Ax}(h:oI w A e v l)(hB:B<=A):oI w B e v l:=
 ⟨h.1,h.2.imp id λ⟨g,cap,C,e1,e2,r⟩=>⟨g,cap,C,e1,jM hB e2,r⟩⟩
def FrV(w:M)(v v':jC):Prop:=∀b,v'.ownBlock=U b->v.ownBlock=U b\/w.heap.size<=b
def a6S:(Tryz.prog.info? xz).map (λi=>(i.zero,i.size,i.bytes))=U (U (Y .u8 0),1,1):=nV
def Qf(B:Nat)(v:jC)(l:List Ax)(w:M)(h:oI w B xz v l)(hl:l.length<=100000):
  jG jy 94 #[v] w λe w'=>∃v',e=nK v'/\oI w' w.heap.size xz v' l/\jD w.heap.size w w'/\(∃oa cap,v'=u oa l.length cap):=by
 have aA:∀(w:M)(a:Option kW)(n c N aa:Nat),(binOp .eql Yg (.slice a n c) (.slice V N aa)).run jy w=.ok (.bool a.isNone) w:=λw a n c N aa=>Lib.run_eql_slice_nil w _ _ a n c N aa lq
 obtain⟨au,hi,ah,ai,aj⟩:=info_parts a6S;rcases h.2 with⟨rfl,h0⟩|⟨g,cap,aB,rfl,hb,hg,ae,av,hsz,htake⟩
 .have:l=[]:=mh.1 h0
  subst this;clear h h0;go_in;go_wp2;go_returns;exact⟨_,rfl,oI.nil _ _ _,jE _ _,V,0,rfl⟩
 .have A:=λj (E:j<l.length)=>World.ownsRow.cells h (g:=g) rfl j (Y .u8 (l[j].toNat:Int)) (by simp[oh,jL E])
  have ax:=H A;have ak:=H hl;clear h hb hg ae av hsz htake A hl;go_in;go_wp2_with (at_builtin;refine wpList_append_own _ rfl _ _ Yg rfl w.heap.size xz au (.int .u8 0) 1 1 lq hi ah ai aj rfl nT _ _ _ rfl (World.ownsRow_made w #[] 0 (jB _) (ko _) rfl) (Z g 0 V) l.length cap (oh l) rfl ?qc1 ?qc2 ?qc3 ?qc4 ?qc5 ?qc6 ?_);case qc1=>simp
  case qc2=>
   intro j ao E;have J:j<l.length:=by
    have:=(lu.1 E).1;simpa using this
   rw[Addr.add_lit];refine Lib.cell?_alloc_some _ ?_;have:=ax.out j J;rw[Addr.add_lit]at this;rw[this];have e:(oh l)[j]? =U (Y .u8 (l[j].toNat:Int)):=by simp[oh,jL J]
   rw[e]at E;exact E
  case qc3=>exact sH l
  case qc4=>have:=ak.out;unfold jN;omega
  case qc5=>have:=ak.out;omega
  case qc6=>simp
  intro v' w1 af I ay;go_wp2;go_returns;have C:oI w1 w.heap.size xz v' l:=af;refine⟨v',rfl,C,((jE _ w).alloc (jB _) _).grown I nX (by intro k hk;simp[kz]at hk;omega),?_⟩
  .rcases C.2 with⟨rfl,h0⟩|⟨aC,ag,az,e1,_⟩
   .exact⟨V,0,by rw[h0]⟩
   .exact⟨_,ag,e1⟩
def Qg{w:M}{B g cap:Nat}{A:Array jC}{l:List Ax}{n:Nat}(hb:B<=g)(hg:w.heap[g]? =U (nL A xz (0,0)))(E:l.length<=cap)(I:cap<=jN)(hsz:A.size=cap)(hn:n<=l.length):
  oI (w.setRow g (A.toList.take 0++(oh (l.drop n)++A.toList.drop (0+(oh (l.drop n)).length))).toArray) B xz (u (U (Z g 0 V)) (l.length - n) cap) (l.drop n)/\w.grownBy (w.setRow g (A.toList.take 0++(oh (l.drop n)++A.toList.drop (0+(oh (l.drop n)).length))).toArray) (U g):=by
 have hlen:(l.drop n).length=l.length - n:=kG;refine⟨⟨nX,.inr ⟨g,cap,_,by rw[hlen],hb,setRow_heap w g A _ xz _ hg,K,I,?_,?_⟩⟩,⟨rfl,rfl,rfl,by simp[World.setRow],λi _ C=>setRow_other w g i _ (λe=>C (by rw[e]))⟩⟩;.simp[hsz];omega
 .simp
def a0s{p:Prop}(h:p:=by
 go_in;go_wp2_with (with_reducible refine wpList_copy_nothing rfl (.tmp 7) (.tmp 10) Yg Yg rfl xz lq nV _ _ _ _ _ _ rfl rfl (by simp[Nat.min_def]) ?_)
 .refine(CC.out _ _ HOWN.out).mono ?_
  rintro e w2 ⟨v',rfl,ho,hb2,hf⟩;go_wp2;go_returns;exact⟨v',rfl,ho.low HB.out.1,pG hb2,λb hb=> .inr (oI.blk ho b hb).1,hf⟩
 .go_returns
  exact⟨_,rfl,HOWN.out,pG (jE _ _),λ_ h=> .inl h,_,_,rfl⟩):p:=h
def a0t(B:Nat)(v:jC)(l:List Ax)(n:Nat)(w:M)(h:oI w B xz v l)(hn:n<=l.length)(hl:l.length<=100000)(hB:B<=w.heap.size):
  jG jy 66 #[v,Y X n] w λe w'=>∃v',e=nK v'/\oI w' B xz v' (l.drop n)/\w.grownBy w' v.ownBlock/\FrV w v v'/\(∃oa cap,v'=u oa (l.drop n).length cap):=by
 rcases h.2 with⟨rfl,h0⟩|⟨g,cap,aa,rfl,hb,hg,E,au,hsz,htake⟩
 .have:l=[]:=mh.1 h0
  subst this;obtain rfl:n=0:=by simpa using hn
  clear h h0 hn;go_in;go_wp2_with (with_reducible refine wpList_copy_nothing rfl (.tmp 7) (.tmp 10) Yg Yg rfl xz lq nV V V 0 0 0 0 rfl rfl rfl ?_);go_returns;exact⟨_,rfl,oI.nil _ _ _,⟨rfl,rfl,rfl,jB _,λ_ _ _=>rfl⟩,λ_ h=> .inl h,V,0,rfl⟩
 .have hlen:(l.drop n).length=l.length - n:=kG
  have A:=H (Qg (n:=n) hb hg E au (by simpa using hsz) hn);have CC:=H (λ(W:M) (v':jC) (h:oI W B xz v' (l.drop n))=>Qf B v' (l.drop n) W h K);have aA:=H hlen;have HB:=H (jF hB (jF hb (j6.1 hg).1));obtain⟨N,ai⟩:=og l.length;have aD:cap<=9223372036854775807:=by unfold jN at au;omega
  have C:=λj (aj:j<l.length)=>World.ownsRow.cells h (g:=g) rfl j (Y .u8 (l[j].toNat:Int)) (by simp[oh,jL aj])
  by_cases ax:n=l.length
  .
   subst ax;have hd:l.drop l.length=[]:=List.drop_length;have HOWN:jI (oI w B xz (u (U (Z g 0 V)) 0 cap) []):=H ⟨rfl,.inr ⟨g,cap,aa,rfl,hb,hg,ko _,au,hsz,by simp[oh]⟩⟩;rw[hd]at CC|-;clear A C h hg htake hsz hb;rw[ai]at E hl|-;by_cases hc:N=cap
   .subst hc
    exact a0s
   .have aF:N<cap:=K
    exact a0s
  .have ay:n<l.length:=K
   have ae:∀j v,(oh (l.drop n))[j]? =U v->w.cell? (((Z g n V):kW).add j)=U v:=λj v aj=>by
    have aG:j<(l.drop n).length:=by
     have:=(lu.1 aj).1;simpa using this
    have I:=C (n+j) K;rw[Addr.add_lit]at I|-;rw[mU]at I;rw[I,<-aj];simp[oh,jL (show n+j<l.length by omega)]
   obtain⟨aq,av⟩:=og (l.length - n);have J:(oh (l.drop n)).length=aq:=by rw[rV,hlen,av]
   have af:(oh (l.drop n)).length=Nat.min (N - n) N:=by rw[J,<-av,ai];simp[Nat.min_def]
   have ag:0+(oh (l.drop n)).length<=aa.size:=by rw[J];omega
   have ak:=H (jF hg (jF ae (jF af ag)));rw[<-hlen]at A;simp only[kJ,List.nil_append,mU,rV]at A;have aB:(l.drop n).length<=cap:=K;have aC:(l.drop n).length<=100000:=K;have aH:n<cap:=K;have aI:n<=N:=K;clear C ae af ag J hlen aA ay h hg htake hsz hb av;rw[ai]at E hl|-;clear ai hn ax;generalize aJ:l.drop n=az at*;go_in;go_wp2_with (with_reducible refine wpList_copy_own rfl (.tmp 7) (.tmp 10) Yg Yg rfl xz lq nV g 0 N cap (Z g n V) (N - n) (cap - n) rfl rfl aa xz ak.out.1 (oh az) ak.out.2.2.1 ak.out.2.1 ak.out.2.2.2 (sH az) ?_)
   .obtain⟨I,ah⟩:=A.out
    refine(CC.out _ _ I).mono ?_;rintro e w2 ⟨v',rfl,ho,hb2,hf⟩;go_wp2;go_returns;exact⟨v',rfl,ho.low (jM HB.out.1 ah.size),qp ah (pG hb2),λb hb=> .inr (jM ah.size (oI.blk ho b hb).1),hf⟩
   .obtain⟨I,ah⟩:=A.out
    go_returns;exact⟨_,rfl,I,ah,λ_ h=> .inl h,_,_,rfl⟩
abbrev MlT:jX:=35
structure CJ where
 m:G8
 ov:Option kW
 cv:Nat
def CJ.ao(y:CJ):jC:=u y.ov y.m.val.sub.length y.cv
def mcl(y:CJ):List jC:=[G y.m.name,G (txt y.m.val.lab),nH y.m.val.lab.list,y.ao]
def Nv(y:CJ):(mcl y).length=4:=rfl
def a6U:xZ jy MlT Az 4:=⟨Tryz.underlying35,⟨.agg #[.string ⟨#[]⟩,.string ⟨#[]⟩,.bool O,.slice V 0 0],64,by
 obtain⟨i,A,C,E,I⟩:=info_parts (show(Tryz.prog.info? Az).map (λi=>(i.zero,i.size,i.bytes))=U (U (nI #[G ⟨#[]⟩,G ⟨#[]⟩,nH O,u V 0 0]),4,64)by kernel_rfl);exact⟨i,A,C,E,I,nT,rfl⟩⟩,nT⟩
def qf(w:M)(Q:Nat->Prop)(v:jC)(L:List CJ):Prop:=
 qd mcl 4 w 0 Az v L/\(∀b,v.ownBlock=U b->Q b)/\∀y,y∈L->oo w (λc=>Q c/\v.ownBlock≠U c) y.ao y.m.val.sub
def qf.nil(w:M)(Q:Nat->Prop):qf w Q (u V 0 0) []:=⟨qd.nil w 0 Az,λb h=>by simp[kz]at h,λy h=>by cases h⟩
def qf.slice{w:M}{Q:Nat->Prop}{v:jC}{L:List CJ}(h:qf w Q v L):∃oa cap,v=u oa L.length cap:=h.1.slice
def qf.keep{w w':M}{Q Q':Nat->Prop}{v:jC}{L:List CJ}(h:qf w Q v L)(hs:w.heap.size<=w'.heap.size)(hk:∀c,c<w.heap.size->Q c->w'.heap[c]? =w.heap[c]?)(C:∀c,c<w.heap.size->Q c->Q' c):qf w' Q' v L:=by
 refine⟨h.1.keep λb hb=>hk b (h.1.block b hb).2.1 (h.2.1 b hb),λb hb=>C b (h.1.block b hb).2.1 (h.2.1 b hb),λy hy=> ?_⟩;exact Shape.om.keep (h.2.2 y hy) hs (λc hc A=>⟨C c hc A.1,A.2⟩) λc hc A=>hk c hc A.1
def qf.push{w w1:M}{Q E:Nat->Prop}{v:jC}{L:List CJ}{x:CJ}{g cap:Nat}(h:qf w Q v L)(hrow:qd mcl 4 w1 0 Az (u (U (Z g 0 V)) (L.length+1) cap) (L++[x]))(hg:w.grownBy w1 v.ownBlock)(A:v.ownBlock=U g\/w.heap.size<=g)(J:oo w E x.ao x.m.val.sub)(hxv:∀c,E c->v.ownBlock≠U c):
  qf w1 (λc=>Q c\/E c\/c=g) (u (U (Z g 0 V)) (L.length+1) cap) (L++[x]):=by
 have hgn:∀c,c<w.heap.size->v.ownBlock≠U c->c≠g:=λc hc I e=>by
  rcases A with A|A
  .exact I (by rw[A,e])
  .omega
 have C:∀c,c<w.heap.size->v.ownBlock≠U c->w1.heap[c]? =w.heap[c]? :=λc hc I=>hg.block c hc (λe=>I e.symm)
 refine⟨hrow,λb hb=> ?_,λy hy=> ?_⟩
 .simp[kz]at hb
  exact .inr (.inr hb.symm)
 .rcases List.mem_append.1 hy with hy|hy
  .refine Shape.om.keep (h.2.2 y hy) hg.size (λc hc hq=>⟨.inl hq.1,?_⟩) λc hc hq=>C c hc hq.2
   intro e;simp[kz]at e;exact hgn c hc hq.2 e.symm
  .simp at hy
   subst hy;refine Shape.om.keep J hg.size (λc hc hq=>⟨.inr (.inl hq),?_⟩) λc hc hq=>C c hc (hxv c hq)
   exact Nf
structure rF(F:Nat->Prop)(w w':M):Prop where
 os:w'.os=w.os
 tape:w'.tape=w.tape
 output:w'.output=w.output
 size:w.heap.size<=w'.heap.size
 block:∀k,k<w.heap.size->¬F k->w'.heap[k]? =w.heap[k]?
section
variable {F F':Nat->Prop}{ao w w':M}
def rF.refl(F:Nat->Prop)(w:M):rF F w w:=⟨rfl,rfl,rfl,jB _,λ_ _ _=>rfl⟩
def rF.trans(h:rF F ao w)(k:rF F' w w')(hF:∀c,c<ao.heap.size->F' c->F c):rF F ao w':=
 ⟨k.os.trans h.os,k.tape.trans h.tape,k.output.trans h.output,jM h.size k.size,λi hi hn=>(k.block i (jZ hi h.size) λA=>hn (hF i hi A)).trans (h.block i hi hn)⟩
def rF.of(h:jD w.heap.size w w'):rF F w w':=⟨h.os,h.tape,h.output,h.size,λk hk _=>h.block k hk⟩
def rF.of2{b q:Nat}(h:oW b q w w')(hb:b<w.heap.size->F b)(A:q<w.heap.size->F q):rF F w w':=
 ⟨h.os,h.tape,h.output,h.size,λk hk hn=>h.block k hk (λe=>hn (e▸hb (e▸hk))) (λe=>hn (e▸A (e▸hk)))⟩
def rF.grown{row:Option Nat}(h:w.grownBy w' row)(hb:∀b,row=U b->F b):rF F w w':=
 ⟨h.os,h.tape,h.output,h.size,λk hk hn=>h.block k hk λe=>hn (hb k e.symm)⟩
def rF.set(h:rF F ao w){p:kW}(hp:p.block<ao.heap.size->F p.block)(v:jC):rF F ao (w.setCell p v):=
 ⟨h.os,h.tape,h.output,by simpa [j5]using h.size,λk hk hn=>(jW w p v k (λe=>hn (e▸hp (e▸hk)))).trans (h.block k hk hn)⟩
def rF.blk(h:rF F w w'){c:Nat}{cs:Array jC}{t:jX}(hc:nU w c cs t)(hn:¬F c):nU w' c cs t:=by
 unfold nU;rw[h.block c hc.lt hn];exact hc
def rF.below(h:rF F w w'){B:Nat}(hB:∀c,c<B->¬F c)(A:B<=w.heap.size):jD B w w':=⟨h.os,h.tape,h.output,h.size,λk hk=>h.block k K (hB k hk)⟩
def rF.mono(h:rF F w w')(hF:∀c,c<w.heap.size->F c->F' c):rF F' w w':=⟨h.os,h.tape,h.output,h.size,λk hk hn=>h.block k hk λA=>hn (hF k hk A)⟩
end
def oI.kp{w w':M}{F:Nat->Prop}{B:Nat}{e:jX}{v:jC}{l:List Ax}(h:oI w B e v l)(k:rF F w w')(hn:∀b,v.ownBlock=U b->¬F b):oI w' B e v l:=by
 refine⟨h.1,?_⟩;rcases h.2 with I|⟨g,cap,A,C,hg,E,r⟩
 .exact .inl I
 .refine .inr ⟨g,cap,A,C,hg,?_,r⟩
  rw[k.block g (j6.1 E).1 (hn g (by rw[C];rfl))];exact E
def JJ(r bn bi:Nat)(c:oO)(L:List oV)(w:M)(h:qG r bn bi c L w):
  jG jy 38 #[nG (U (Z r 0 V))] w λe w'=>e=nK (nI #[Y X c.fmt,Y nO c.mag,Y X c.pV,Y X c.qH,Y X c.dep,Y X c.pq])/\jD w.heap.size w w':=by
 obtain⟨g,hg⟩:=og w.heap.size;have A:jI (∀W,w.alloc (nL #[Y X 0,Y nO 0,Y X 0,Y X 0,Y X 0,Y X 0] uk)=W->nU W g #[Y X 0,Y nO 0,Y X 0,Y X 0,Y X 0,Y X 0] uk/\jD g w W/\qG r bn bi c L W):=H λW I=>by
  subst I;have a:=(jE w.heap.size w).alloc (jB _) (nL #[Y X 0,Y nO 0,Y X 0,Y X 0,Y X 0,Y X 0] uk);exact⟨hg▸nU.new w _ _,hg▸a,h.below a⟩
 rw[hg];clear h;go_in;go_upto_region 1 with fail;obtain⟨hB,hb,C⟩:=A.out _ rfl;generalize w.alloc _=w1 at*;obtain⟨c0,c1,c2,c3,c4,c5⟩:=C.rg.a6;obtain⟨ag,ah,y2,ai,aj,ak,au,f1,f2,f3,f4,av⟩:=hB.b6;have E:=H (jF hB hb);clear A hB hb C;go_wp2_with fail
 have J:nU ((((((w1.setCell (Z g 0 V) (Y X c.fmt)).setCell (Z g 1 V) (Y nO c.mag)).setCell (Z g 2 V) (Y X c.pV)).setCell (Z g 3 V) (Y X c.qH)).setCell (Z g 4 V) (Y X c.dep)).setCell (Z g 5 V) (Y X c.pq)) g #[Y X c.fmt,Y nO c.mag,Y X c.pV,Y X c.qH,Y X c.dep,Y X c.pq] uk:=
  (((((E.1.set 0 _).set 1 _).set 2 _).set 3 _).set 4 _).set 5 _
 obtain⟨N,aa,ae,af,d4,d5⟩:=J.a6;refine jO (v:=nI #[Y X c.fmt,Y nO c.mag,Y X c.pV,Y X c.qH,Y X c.dep,Y X c.pq]) (by simp[kF,Tryz.results38,go_sem,N,aa,ae,af,d4,d5]) rfl ⟨rfl,?_⟩;exact(((((E.2.setCell (p:=(Z g 0 V)) (jB g) _).setCell (p:=(Z g 1 V)) (jB g) _).setCell (p:=(Z g 2 V)) (jB g) _).setCell (p:=(Z g 3 V)) (jB g) _).setCell (p:=(Z g 4 V)) (jB g) _).setCell (p:=(Z g 5 V)) (jB g) _
def CK(c:oO)(s:An):Nat:=
 if c.fmt=1 then if s.size<24 then 0 else 24+pQ (s.extract 16 20).data.toList
 else if(o8 c.pV s.data.toList).2.2≠0 then 0 else(o8 c.pV s.data.toList).2.1+(o8 c.pV s.data.toList).1
def SL(c:oO)(hc:oL c=R)(s:An)(w:M)(hs:s.size<=100000):
  jG jy 65 #[nI #[Y X c.fmt,Y nO c.mag,Y X c.pV,Y X c.qH,Y X c.dep,Y X c.pq],G s] w λe w'=>e=nK (Y X (CK c s:Nat))/\jD w.heap.size w w':=by
 obtain⟨_,⟨az,aA⟩,_⟩:=p8 hc;have ae:=H (wu (w:=w) c (t:=uk));obtain⟨g,hg⟩:=og w.heap.size;have aa:s.size<=jN:=jM hs nT;have ag:=H (λW=>xM c.pV s W K aa);have C:(o8 c.pV s.data.toList).2.2=0->((o8 c.pV s.data.toList).1:Int)<=65536/\(o8 c.pV s.data.toList).2.1<=10:=λh=>by
  generalize ak:o8 c.pV s.data.toList=q at*;obtain⟨a,b,e⟩:=q;dsimp only at h|-;subst h;have:=vw ak;omega
 obtain⟨J,N⟩:=og (CK c s);have E:jI (J=if c.fmt=1 then if s.size<24 then 0 else 24+pQ (s.extract 16 20).data.toList else if(o8 c.pV s.data.toList).2.2≠0 then 0 else(o8 c.pV s.data.toList).2.1+(o8 c.pV s.data.toList).1):=H N.symm;rw[N];rw[hg]at ae|-;clear N aa hc;generalize o8 c.pV s.data.toList=q at*;obtain⟨a,b,er⟩:=q;dsimp only at*;go_in;go_upto_region 1 with fail;obtain⟨hb,c0,c1,c2,c3,c4,c5⟩:=ae.out _ rfl;generalize w.alloc _=w1 at*;have HB:=H hb;clear ae hb;by_cases A:c.fmt=1
 .have au:(c.fmt !=1)=O:=by simp[A]
  by_cases I:s.size<24
  .have HE:jI (J=0):=H (by rw[E.out,AC A,AC I])
   have ah:At ((s.size:Int)<24)=R:=nY;clear A I E C;exact Fs
  .have ai:(s.extract 16 20).size=4:=by simp only[jP];omega
   have HE:jI (J=24+pQ (s.extract 16 20).data.toList):=H (by rw[E.out,AC A,As I]);have av:=H (um (s.extract 16 20) w1 K K);have aF:pQ (s.extract 16 20).data.toList<4294967296:=by
    have aj:=sZ (s.extract 16 20).data.toList;have ax:(s.extract 16 20).data.toList.length=4:=by
     have:(s.extract 16 20).data.toList.length=(s.extract 16 20).size:=kH;omega
    rw[ax]at aj;exact aj
   have aB:24<=s.size:=K;have ah:At ((s.size:Int)<24)=O:=nY;clear A I E C ai;generalize ay:s.extract 16 20=ac at*;generalize pQ ac.data.toList=aG at*;go_wp2_with fail;all_goals try rw[ay]
   refine av.mono ?_;rintro e w2 ⟨rfl,rfl⟩;go_wp2;go_returns;exact⟨by rw[HE.out];simp,HB.out⟩
 .have au:(c.fmt !=1)=R:=by simp[A]
  by_cases I:er=0
  .subst I
   obtain⟨aC,aD⟩:=C rfl;have HE:jI (J=b+a):=H (by rw[E.out,As A,As nX]);clear A E C;go_wp2_with fail;refine(ag _).mono ?_;rintro e w2 ⟨rfl,af⟩;subst af;go_wp2;go_returns;exact⟨by rw[HE.out];simp,HB.out⟩
  .have ah:((er:Int) !=0)=R:=nY
   have HE:jI (J=0):=H (by rw[E.out,As A,AC I]);clear A E C I;go_wp2_with fail;refine(ag _).mono ?_;rintro e w2 ⟨rfl,af⟩;subst af;exact Fs
abbrev LJ:jX:=88
def GG(r:Nat)(bv:jC)(nd fa la tt se:Int):Array jC:=#[nG (U (Z r 0 V)),bv,Y X nd,Y X fa,Y X la,Y X tt,Y X se]
structure N1C(ks sb r:Nat)(bv:jC)(nd fa la tt se:Int)(Bs:M->Prop)(W:M):Prop where
 bs:Bs W
 sv:nU W ks #[nG (U (Z sb 0 V))] SK
 ss:nU W sb (GG r bv nd fa la tt se) LJ
structure Ha(ks kc kt ka sb r:Nat)(c:oO)(s:An)(p:Nat)(bv:jC)(nd fa la tt se:Int)(Bs:M->Prop)(W:M):Prop where
 sv:nU W ks #[nG (U (Z sb 0 V))] SK
 ss:nU W sb (GG r bv nd fa la tt se) LJ
 cf:nU W kc #[Y X c.fmt,Y nO c.mag,Y X c.pV,Y X c.qH,Y X c.dep,Y X c.pq] uk
 tx:nU W kt #[G s] QW
 at_:nU W ka #[Y X p] InT
 bs:Bs W
 ne:ks≠sb/\kc≠sb/\kt≠sb/\ka≠sb
def Ha.below{ks kc kt ka sb r:Nat}{c:oO}{s:An}{p:Nat}{bv:jC}{nd fa la tt se:Int}{Bs:M->Prop}{W A:M}(rG:∀W A,Bs W->jD W.heap.size W A->Bs A)(h:Ha ks kc kt ka sb r c s p bv nd fa la tt se Bs W)(hb:jD W.heap.size W A):Ha ks kc kt ka sb r c s p bv nd fa la tt se Bs A:=
 ⟨Below.blk hb h.sv h.sv.lt,Below.blk hb h.ss h.ss.lt,Below.blk hb h.cf h.cf.lt,Below.blk hb h.tx h.tx.lt,Below.blk hb h.at_ h.at_.lt,rG _ _ h.bs hb,h.ne⟩
def Ha.put{ks kc kt ka sb r:Nat}{c:oO}{s:An}{p:Nat}{bv:jC}{nd fa la tt se:Int}{Bs:M->Prop}{W:M}(Om:∀W i v,Bs W->Bs (W.setCell (Z sb i V) v))(h:Ha ks kc kt ka sb r c s p bv nd fa la tt se Bs W)(n2:Int):Ha ks kc kt ka sb r c s p bv n2 fa la tt se Bs (W.setCell (Z sb 2 V) (Y X n2)):=
 have n:=h.ne;have o:∀{b:Nat}{cs:Array jC}{t:jX},nU W b cs t->b≠sb->nU (W.setCell (Z sb 2 V) (Y X n2)) b cs t:=λhB hn=>hB.setOther (a:=(Z sb 2 V)) hn _
 ⟨o h.sv n.1,h.ss.set 2 _,o h.cf n.2.1,o h.tx n.2.2.1,o h.at_ n.2.2.2,Om _ _ _ h.bs,h.ne⟩
structure DC(ks ka sb r an T p:Nat)(buf:List Ax)(bo:Option kW)(bc:Nat)(nd fa la tt se:Int)(Bs:M->Prop)(d6 d9:Bool)(v6:jC)(W:M):Prop where
 sv:nU W ks #[nG (U (Z sb 0 V))] SK
 at_:nU W ka #[Y X p] InT
 ss:nU W sb (GG r (if d9=R then v6 else u bo buf.length bc) nd fa la tt se) LJ
 ob:d6=O->oI W an xz (u bo buf.length bc) buf
 od:d6=R->(∃oa cap,v6=u oa (buf.drop p).length cap)/\oI W an xz v6 (buf.drop p)/\∀b,v6.ownBlock=U b->(kI bo buf.length bc).ownBlock=U b\/T<=b
 bs:Bs W
 dn:d9=R->d6=R
 ne:ks≠sb/\ka≠sb/\an<=sb/\an<=W.heap.size/\∀b,(kI bo buf.length bc).ownBlock=U b->b≠ks/\b≠ka/\b≠sb
section
variable {ks ka sb r an T p:Nat}{buf:List Ax}{bo:Option kW}{bc:Nat}{nd fa la tt se:Int}{Bs:M->Prop}{d6 d9:Bool}{v6 v6':jC}{W W':M}
def DC.call(hBg:∀W W',Bs W->W.grownBy W' (kI bo buf.length bc).ownBlock->Bs W')(h:DC ks ka sb r an T p buf bo bc nd fa la tt se Bs O O v6 W)(hg:W.grownBy W' (kI bo buf.length bc).ownBlock)(ho:oI W' an xz v6' (buf.drop p))(A:FrV W (u bo buf.length bc) v6')(C:∃oa cap,v6'=u oa (buf.drop p).length cap)(hBT:T<=W.heap.size):
  DC ks ka sb r an T p buf bo bc nd fa la tt se Bs R O v6' W':=by
 have n:=h.ne;have q:∀{c:Nat}{cs:Array jC}{t:jX},nU W c cs t->(∀b,(kI bo buf.length bc).ownBlock=U b->b≠c)->nU W' c cs t:=λhB hn=>pO hB hg hn
 exact⟨q h.sv λb hb=>(n.2.2.2.2 b hb).1,q h.at_ λb hb=>(n.2.2.2.2 b hb).2.1,q h.ss λb hb=>(n.2.2.2.2 b hb).2.2,(λh=>by cases h),λ_=>⟨C,ho,λb hb=>(A b hb).imp id λk=>jM hBT k⟩,hBg _ _ h.bs hg,λ_=>rfl,⟨n.1,n.2.1,n.2.2.1,jM n.2.2.2.1 hg.size,n.2.2.2.2⟩⟩
def DC.put(Om:∀W i v,Bs W->Bs (W.setCell (Z sb i V) v))(A:∀b,v6.ownBlock=U b->b≠sb)(h:DC ks ka sb r an T p buf bo bc nd fa la tt se Bs R O v6 W):DC ks ka sb r an T p buf bo bc nd fa la tt se Bs R R v6 (W.setCell (Z sb 1 V) v6):=by
 have n:=h.ne;have o:∀{b:Nat}{cs:Array jC}{t:jX},nU W b cs t->b≠sb->nU (W.setCell (Z sb 1 V) v6) b cs t:=λhB hn=>hB.setOther (a:=(Z sb 1 V)) hn _
 refine⟨o h.sv n.1,o h.at_ n.2.1,h.ss.set 1 _,(λh=>by cases h),λ_=>⟨(h.od rfl).1,?_,(h.od rfl).2.2⟩,Om _ _ _ h.bs,λ_=>rfl,⟨n.1,n.2.1,n.2.2.1,by simpa [j5]using n.2.2.2.1,n.2.2.2.2⟩⟩;exact oI.kp (h.od rfl).2.1 (F:=λk=>k=sb) (rF.set (F:=λk=>k=sb) (p:=(Z sb 1 V)) (rF.refl _ W) (λ_=>rfl) v6) λb hb e=>A b hb e
end
noncomputable def Nw:List lJ:=cO (cL (cL (cR (cB Tryz.f34))))
section
variable (ks sb r:Nat)(bo:Option kW)(bn bc:Nat)(nd fa la tt se:Int)(Bs:M->Prop)
def Ny:Nat->jC
 |0=> nG (U (Z sb 0 V))
 |1=> nG (U (Z sb 0 V))
 |2=> nG (U (Z sb 1 V))
 |3=> u bo bn bc
 |4=> Y X bn
 |5=> nG (U (Z sb 0 V))
 |6=> nG (U (Z sb 0 V))
 |7=> nG (U (Z sb 2 V))
 |8=> Y X nd
 |9=> nH (At ((bn:Int)<nd))
 |_=>ku
structure b0A(D:Nat->Bool)(vs:Nat->jC)(w:M):Prop where
 oU:N1C ks sb r (u bo bn bc) nd fa la tt se Bs w
 val:∀j,(R)=R->D j=R->vs j=Ny sb bo bn bc nd j
variable {ks sb r bo bn bc nd fa la tt se Bs}
def a6W{id:Nat}{Q:Exit->Act->M->Prop}{I:M}(ht2:a0.tmps.getD 2 ku=nG (U (Z ks 0 V)))(hsz:a0.tmps.size=73)(hI0:∀vs:Nat->jC,(λw=>N1C ks sb r (u bo bn bc) nd fa la tt se Bs w) I.drew)(J:∀(vs:Nat->jC) (w:M),N1C ks sb r (u bo bn bc) nd fa la tt se Bs w->Q .normal {a0 with tmps:=((((((((((a0.tmps.setIfInBounds 12 (nG (U (Z sb 0 V)))).setIfInBounds 13 (nG (U (Z sb 0 V)))).setIfInBounds 14 (nG (U (Z sb 1 V)))).setIfInBounds 15 (u bo bn bc)).setIfInBounds 16 (Y X bn)).setIfInBounds 17 (nG (U (Z sb 0 V)))).setIfInBounds 18 (nG (U (Z sb 0 V)))).setIfInBounds 19 (nG (U (Z sb 2 V)))).setIfInBounds 20 (Y X nd)).setIfInBounds 21 (nH (At ((bn:Int)<nd))))} w):
  (kT id Nw.toArray R).wp jy Q a0 I:=by
 refine oF 10 73 (b0A ks sb r bo bn bc nd fa la tt se Bs) nV hsz nV (.inl rfl) nV ?_ ?_ ?_;.exact q9
 .refine sM λA ae=> ?_
  clear hI0 J hsz;replace ht2:=H ht2;dsimp+instances only[Nw,cO,cL,cR,cB,Tryz.f34];simp only[jY,kJ,rZ];refine⟨?_,?_,?_,?_,?_,?_,?_,?_,?_,?_,trivial⟩<;>(intro D vs a w am hI hd E ah C af;subst ae;dsimp+instances only[Nw,cO,cL,cR,cB,Tryz.f34]);have e2:=(C 2 nT).trans ht2.out;have hB:=hI.oU.sv;have c0:=hB.c0;clear hB;rotate_left;have ai:=fe C hI.val E 12 0;rotate_left;have aj:=fe C hI.val E 13 1;rotate_left;have N:=fe C hI.val E 14 2;simp only[Ny]at N;have hB:=hI.oU.ss;have c0:=hB.cell 1;simp only[GG,jV,jS,jT]at c0;clear hB;rotate_left;have ak:=fe C hI.val E 15 3;rotate_left;have e2:=(C 2 nT).trans ht2.out;have hB:=hI.oU.sv;have c0:=hB.c0;clear hB;rotate_left;have au:=fe C hI.val E 17 5;rotate_left;have av:=fe C hI.val E 18 6;rotate_left;have aa:=fe C hI.val E 19 7;simp only[Ny]at aa;have hB:=hI.oU.ss;have c0:=hB.cell 2;simp only[GG,jV,jS,jT]at c0;clear hB;rotate_left;have ax:=fe C hI.val E 16 4;have ay:=fe C hI.val E 20 8;rotate_left
  all_goals
   try simp only[Ny]at*
   go_simp;exact af _ _ _ rfl ⟨hI.oU,vM hI.val⟩
 .intro D vs w ag hI
  have E:=hI.oU;have q:=J vs w E;rw[pE hI.val ag];dsimp+instances only[Nw,cO,cL,cR,cB,Tryz.f34];exact q8
end
noncomputable def Ia:List lJ:=cO (cL (cR (cL (cR (cR (cR (cR (cR (cR (cR (cR (cR (cB Tryz.f34)))))))))))))
section
variable (ks kc kt ka sb r:Nat)(c:oO)(s:An)(p:Nat)(bv:jC)(nd fa la tt se:Int)(n2:Nat)(Bs:M->Prop)
def zZ:Nat->jC
 |0=> nG (U (Z sb 0 V))
 |1=> nI #[Y X c.fmt,Y nO c.mag,Y X c.pV,Y X c.qH,Y X c.dep,Y X c.pq]
 |2=> G s
 |3=> Y X p
 |4=> G (s.extract p s.size)
 |5=> Y X n2
 |6=> nG (U (Z sb 0 V))
 |7=> nG (U (Z sb 2 V))
 |_=>ku
structure a0u(D:Nat->Bool)(vs:Nat->jC)(w:M):Prop where
 oU:Ha ks kc kt ka sb r c s p bv (if(D 8)=R then n2 else nd) fa la tt se Bs w
 val:∀j,(R)=R->D j=R->vs j=zZ sb c s p n2 j
variable {ks kc kt ka sb r c s p bv nd fa la tt se n2 Bs}
def a0v{D:Nat->Bool}{vs:Nat->jC}{w w':M}(h:a0u ks kc kt ka sb r c s p bv nd fa la tt se n2 Bs D vs w){i:Nat}(hi:i≠8)(A:Ha ks kc kt ka sb r c s p bv (if(D 8)=R then n2 else nd) fa la tt se Bs w->Ha ks kc kt ka sb r c s p bv (if(D 8)=R then n2 else nd) fa la tt se Bs w'):a0u ks kc kt ka sb r c s p bv nd fa la tt se n2 Bs (Aw D i) (Ay vs i (zZ sb c s p n2 i)) w':=by
 refine⟨?_,vM h.val⟩;rw[nZ D (show 8≠i by omega)];exact A h.oU
def a4f{id:Nat}{Q:Exit->Act->M->Prop}{aa:M}(ht2:a0.tmps.getD 2 ku=nG (U (Z ks 0 V)))(ht5:a0.tmps.getD 5 ku=nG (U (Z kc 0 V)))(BR:a0.tmps.getD 6 ku=nG (U (Z kt 0 V)))(GA:a0.tmps.getD 7 ku=nG (U (Z ka 0 V)))(hp:p<=s.size/\s.size<=100000)(JK:∀W,jG jy 65 #[nI #[Y X c.fmt,Y nO c.mag,Y X c.pV,Y X c.qH,Y X c.dep,Y X c.pq],G (s.extract p s.size)] W λe I=>e=nK (Y X n2)/\jD W.heap.size W I)(rG:∀W I,Bs W->jD W.heap.size W I->Bs I)(Om:∀W i v,Bs W->Bs (W.setCell (Z sb i V) v))(hsz:a0.tmps.size=73)(hI0:∀vs:Nat->jC,(λw=>Ha ks kc kt ka sb r c s p bv (if O=R then n2 else nd) fa la tt se Bs w) aa.drew)(ae:∀(vs:Nat->jC) (w:M),Ha ks kc kt ka sb r c s p bv (if R=R then n2 else nd) fa la tt se Bs w->Q .normal {a0 with tmps:=((((((((a0.tmps.setIfInBounds 51 (nG (U (Z sb 0 V)))).setIfInBounds 52 (nI #[Y X c.fmt,Y nO c.mag,Y X c.pV,Y X c.qH,Y X c.dep,Y X c.pq])).setIfInBounds 53 (G s)).setIfInBounds 54 (Y X p)).setIfInBounds 55 (G (s.extract p s.size))).setIfInBounds 56 (Y X n2)).setIfInBounds 57 (nG (U (Z sb 0 V)))).setIfInBounds 58 (nG (U (Z sb 2 V))))} w):
  (kT id Ia.toArray R).wp jy Q a0 aa:=by
 refine oF 9 73 (a0u ks kc kt ka sb r c s p bv nd fa la tt se n2 Bs) nV hsz nV (.inl rfl) nV ?_ ?_ ?_;.exact q9
 .refine sM λA av=> ?_
  clear hI0 ae hsz;replace ht2:=H ht2;replace ht5:=H ht5;replace BR:=H BR;replace GA:=H GA;replace hp:=H hp;replace JK:=H JK;replace rG:=H rG;replace Om:=H Om;dsimp+instances only[Ia,cO,cL,cR,cB,Tryz.f34];simp only[jY,kJ,rZ];refine⟨?_,?_,?_,?_,?_,?_,?_,?_,?_,trivial⟩<;>(intro D vs a w am hI hd E ay C J;subst av;dsimp+instances only[Ia,cO,cL,cR,cB,Tryz.f34]);have e2:=(C 2 nT).trans ht2.out;have hB:=hI.oU.sv;have c0:=hB.c0;clear hB;rotate_left;have e5:=(C 5 nT).trans ht5.out;have hB:=hI.oU.cf;obtain⟨c0,c1,c2,c3,c4,c5⟩:=hB.a6;clear hB;rotate_left;have aD:=(C 6 nT).trans BR.out;have hB:=hI.oU.tx;have c0:=hB.c0;clear hB;rotate_left;have aF:=(C 7 nT).trans GA.out;have hB:=hI.oU.at_;have c0:=hB.c0;clear hB;rotate_left;have hp:=hp.out;have af:=fe C hI.val E 53 2;have ag:=fe C hI.val E 54 3;simp only[zZ]at af ag;obtain⟨az,aA⟩:=hp;rotate_left
  .have JK:=JK.out
   have rG:=rG.out;have ah:=fe C hI.val E 52 1;have ai:=fe C hI.val E 55 4;simp only[zZ]at ah ai;have ax:=JK w;clear JK;rw[AC (by rfl)];go_simp;refine ax.mono ?_;rintro e aG ⟨rfl,hb⟩;exact J (zZ sb c s p n2 5) _ _ rfl (a0v hI (i:=5) nT λh=>h.below rG hb)
  have aB:=fe C hI.val E 51 0;rotate_left;have aC:=fe C hI.val E 57 6;rotate_left
  .have Om:=Om.out
   have aj:=fe C hI.val E 56 5;have ak:=fe C hI.val E 58 7;simp only[zZ]at aj ak;have N:=hI.oU;rw[hd]at N;have hB:=N.ss;have c0:=hB.cell 2;have aH:=hB.free 2;simp only[GG,lS,if_false,jV,jS,jT]at c0;clear hB;go_simp;refine J ku _ _ rfl ⟨?_,vM hI.val⟩;rw[oH];exact N.put Om _
  all_goals
   try simp only[zZ]at*
   go_simp;exact J _ _ _ rfl ⟨hI.oU,vM hI.val⟩
 .intro D vs w au hI
  have E:=hI.oU;rw[au 8 nT]at E;have q:=ae vs w E;rw[pE hI.val au];dsimp+instances only[Ia,cO,cL,cR,cB,Tryz.f34];exact q8
end
noncomputable def Ib:List lJ:=cO (cL (cR (cR (cR (cR (cR (cR (cR (cR (cR (cR (cB Tryz.f34))))))))))))
section
variable (ks ka sb r an T p:Nat)(buf:List Ax)(bo:Option kW)(bc:Nat)(nd fa la tt se:Int)(Bs:M->Prop)
def Es:Nat->jC
 |0=> nG (U (Z sb 0 V))
 |1=> nG (U (Z sb 0 V))
 |2=> nG (U (Z sb 0 V))
 |3=> nG (U (Z sb 1 V))
 |4=> u bo buf.length bc
 |5=> Y X p
 |7=> nG (U (Z sb 0 V))
 |8=> nG (U (Z sb 1 V))
 |_=>ku
structure a88(D:Nat->Bool)(vs:Nat->jC)(w:M):Prop where
 oU:DC ks ka sb r an T p buf bo bc nd fa la tt se Bs (D 6) (D 9) (vs 6) w
 val:∀j,(j !=6)=R->D j=R->vs j=Es sb p buf bo bc j
variable {ks ka sb r an T p buf bo bc nd fa la tt se Bs}
def Vb{id:Nat}{Q:Exit->Act->M->Prop}{ae:M}(ht2:a0.tmps.getD 2 ku=nG (U (Z ks 0 V)))(GA:a0.tmps.getD 7 ku=nG (U (Z ka 0 V)))(hp:p<=buf.length/\buf.length<=100000)(hBg:∀W af,Bs W->W.grownBy af (kI bo buf.length bc).ownBlock->Bs af)(Om:∀W i v,Bs W->Bs (W.setCell (Z sb i V) v))(hBT:∀W,Bs W->T<=W.heap.size)(hBo:∀W v,Bs W->oI W an xz v (buf.drop p)->∀b,v.ownBlock=U b->b≠sb)(hsz:a0.tmps.size=73)(hI0:∀vs:Nat->jC,(λw=>DC ks ka sb r an T p buf bo bc nd fa la tt se Bs O O (vs 6) w) ae.drew)(ag:∀(vs:Nat->jC) (w:M),DC ks ka sb r an T p buf bo bc nd fa la tt se Bs R R (vs 6) w->Q .normal {a0 with tmps:=(((((((((a0.tmps.setIfInBounds 63 (nG (U (Z sb 0 V)))).setIfInBounds 64 (nG (U (Z sb 0 V)))).setIfInBounds 65 (nG (U (Z sb 0 V)))).setIfInBounds 66 (nG (U (Z sb 1 V)))).setIfInBounds 67 (u bo buf.length bc)).setIfInBounds 68 (Y X p)).setIfInBounds 69 (vs 6)).setIfInBounds 70 (nG (U (Z sb 0 V)))).setIfInBounds 71 (nG (U (Z sb 1 V))))} w):
  (kT id Ib.toArray R).wp jy Q a0 ae:=by
 refine oF 10 73 (a88 ks ka sb r an T p buf bo bc nd fa la tt se Bs) nV hsz nV (.inl rfl) nV ?_ ?_ ?_;.exact q9
 .refine sM λA az=> ?_
  clear hI0 ag hsz;replace ht2:=H ht2;replace GA:=H GA;replace hp:=H hp;replace hBg:=H hBg;replace hBT:=H hBT;replace Om:=H Om;replace hBo:=H hBo;dsimp+instances only[Ib,cO,cL,cR,cB,Tryz.f34];simp only[jY,kJ,rZ];refine⟨?_,?_,?_,?_,?_,?_,?_,?_,?_,?_,trivial⟩<;>(intro D vs a w am hI hd E ah C N;subst az;dsimp+instances only[Ib,cO,cL,cR,cB,Tryz.f34]);have e2:=(C 2 nT).trans ht2.out;have hB:=hI.oU.sv;have c0:=hB.c0;clear hB;rotate_left;have e2:=(C 2 nT).trans ht2.out;have hB:=hI.oU.sv;have c0:=hB.c0;clear hB;rotate_left;have aF:=fe C hI.val E 64 1;rotate_left;have aG:=fe C hI.val E 65 2;rotate_left;have ai:=fe C hI.val E 66 3;simp only[Es]at ai;have hB:=hI.oU.ss;rw[ah 9 nT nV,As nT]at hB;have c0:=hB.cell 1;simp only[GG,jV,jS,jT]at c0;clear hB;rotate_left;have aJ:=(C 7 nT).trans GA.out;have hB:=hI.oU.at_;have c0:=hB.c0;clear hB;rotate_left
  .have hp:=hp.out
   have hBg:=hBg.out;have aj:=fe C hI.val E 67 4;have ak:=fe C hI.val E 68 5;simp only[Es]at aj ak;have I:=hI.oU;have au:D 9=O:=by cases h:D 9 with|false=>rfl|true=>exact absurd (hI.oU.dn h) (by rw[hd];decide)
   rw[hd,au]at I;have aA:=a0t an _ buf p w (I.ob rfl) hp.1 hp.2 I.ne.2.2.2.1;rw[AC (by rfl)];go_simp;refine aA.mono ?_;rintro e aK ⟨v6,rfl,ho,hg,aB,aC⟩;refine N v6 _ _ rfl ⟨?_,QY rfl hI.val⟩;rw[oH,nZ D (show 9≠6 by decide),qz,au];exact I.call hBg hg ho aB aC (hBT _ I.bs)
  have aH:=fe C hI.val E 63 0;rotate_left;have aI:=fe C hI.val E 70 7;rotate_left
  .have Om:=Om.out
   have hBo:=hBo.out;have d6:=E 6 nT nV;have J:a.tmps.getD 69 ku=vs 6:=C 69 nT;have av:=fe C hI.val E 71 8;simp only[Es]at av;have I:=hI.oU;rw[hd,d6]at I;obtain⟨oa,cap,ax⟩:=(I.od rfl).1;have ay:=hBo w _ I.bs (I.od rfl).2.1;have aD:=I.put Om ay;have J:=J.trans ax;have hB:=I.ss;have c0:=hB.cell 1;have aL:=hB.free 1;simp only[GG,lS,if_false,jV,jS,jT]at c0;clear hB;go_simp;refine N ku _ _ rfl ⟨?_,vM hI.val⟩;rw[oH,nZ D (show 6≠9 by decide),oG vs _ (show 6≠9 by decide),d6];rw[<-kG,<-ax];exact aD
  all_goals
   try simp only[Es]at*
   go_simp;exact N _ _ _ rfl ⟨hI.oU,vM hI.val⟩
 .intro D vs w aa hI
  have E:=hI.oU;rw[aa 6 nT]at E;rw[aa 9 nT]at E;have q:=ag vs w E;rw[pE hI.val aa];dsimp+instances only[Ib,cO,cL,cR,cB,Tryz.f34];exact q8
end
def a0w{c:oO}{rows:List Row}{f:vS}{er:Nat}(h:Dw c rows f=.error er):er≠0:=by
 unfold Dw at h;split at h;.cases h;decide
 .split at h
  .rename_i e1 A
   have:=JG A;cases h;split<;>omega
  .cases h
def Xl{c:oO}{rows:List Row}{s:An}{mt:Option (Nat×MS)}{er:Nat}(h:(ru c rows s mt).1=.error er):er≠0:=by
 unfold ru at h;split at h
 .rename_i e1 m2 A
  have:=Fu c s mt e1 (by rw[A]);cases h;omega
 .rename_i y m2 A
  split at h
  .rename_i e1 C
   have:=a0w C;cases h;exact this
  .cases h
def a0x{c:oO}(hc:oL c=R){rows:List Row}{s:An}(hs:s.size<=100000){mt:Option (Nat×MS)}{y:G8×Nat}(h:(ru c rows s mt).1=.ok y):0<y.2/\y.2<=s.size:=by
 unfold ru at h;split at h;.cases h
 .rename_i z m2 A
  have:=zk hc hs (y:=z) (mt:=mt) (by rw[A]);split at h;.cases h
  .cases h;exact⟨this.1,this.2.1⟩
def zt(c:oO)(rows:List Row)(s:An)(n p:Nat)(mt:Option (Nat×MS)){y:G8×Nat}{m2:Option (Nat×MS)}(h:ru c rows (s.extract p s.size) mt=(.ok y,m2)):wP c rows s (n+1) p mt=⟨y.1::(wP c rows s n (p+y.2) m2).told,(wP c rows s n (p+y.2) m2).at_,(wP c rows s n (p+y.2) m2).err,(wP c rows s n (p+y.2) m2).mt⟩:=by
 rw[wP,h]
def Bq(c:oO)(rows:List Row)(s:An)(n p:Nat)(mt:Option (Nat×MS)){er:Nat}{m2:Option (Nat×MS)}(h:ru c rows (s.extract p s.size) mt=(.error er,m2)):wP c rows s (n+1) p mt=⟨[],p,er,m2⟩:=by
 rw[wP,h]
structure Hd(w0:M)(an g kc kt ka kx sb r mb:Nat)(c:oO)(s:An)(p:Nat)(m:MS)(bo:Option kW)(bc:Nat)(buf:List Ax)(nd fa la tt se:Int)(lv:jC)(Lm:List CJ)(W:M):Prop where
 nx:NxE kc (g+1) kt ka g sb r mb c s p m W
 ss:nU W sb (GG r (u bo buf.length bc) nd fa la tt se) LJ
 ob:oI W an xz (u bo buf.length bc) buf
 lm:qf W (λd=>ka<d/\d≠kx) lv Lm
 kp:rF (λk=>k=sb\/k=mb\/(kI bo buf.length bc).ownBlock=U k) w0 W
 lt:w0.heap.size=g/\sb<g/\mb<g/\sb≠mb/\an<=sb/\an<=mb/\an<=g/\g+2<=kc/\g+2<=kt/\g+2<=ka/\kc<W.heap.size/\kt<W.heap.size/\ka<W.heap.size/\kc<ka/\kt<ka/\ka<kx
 bl:∀b,(kI bo buf.length bc).ownBlock=U b->an<=b/\b<g/\b≠sb/\b≠mb
section
variable {w0:M}{an g kc kt ka kx sb r mb:Nat}{c:oO}{s:An}{p:Nat}{m m2:MS}{bo:Option kW}{bc:Nat}{buf:List Ax}{nd fa la tt se:Int}{lv lv2:jC}{Lm Lm2:List CJ}{W W':M}
def Hd.kpf(h:Hd w0 an g kc kt ka kx sb r mb c s p m bo bc buf nd fa la tt se lv Lm W){F:Nat->Prop}(k:rF F W W')(hF:∀d,F d->ka<d)(hl:qf W' (λd=>ka<d/\d≠kx) lv2 Lm2):Hd w0 an g kc kt ka kx sb r mb c s p m bo bc buf nd fa la tt se lv2 Lm2 W':=by
 have l:=h.lt;have n:=h.nx;have q:∀{d:Nat}{cs:Array jC}{t:jX},nU W d cs t->(d<g+2\/d=kc\/d=kt\/d=ka)->nU W' d cs t:=λhB hd=>k.blk hB λA=>by have:=hF _ A;omega
 refine⟨⟨q n.cf K,q n.mv K,q n.tx K,q n.at_ K,q n.sv K,⟨?_,jZ n.se.2 k.size⟩,⟨q n.mm.1 K,n.mm.2⟩,n.ne⟩,q h.ss K,h.ob.kp k λb hb A=>by have:=hF _ A;have:=h.bl b hb;omega,hl,?_,?_,h.bl⟩
 .have:=k.block sb n.se.2 λA=>by have:=hF _ A;omega
  simp only[mV,this];exact n.se.1
 .exact h.kp.trans k λd hd A=>by have:=hF _ A;omega
 .have:=k.size
  omega
def Hd.below(h:Hd w0 an g kc kt ka kx sb r mb c s p m bo bc buf nd fa la tt se lv Lm W)(hb:jD W.heap.size W W'):Hd w0 an g kc kt ka kx sb r mb c s p m bo bc buf nd fa la tt se lv Lm W':=
 h.kpf (F:=λ_=>False) (rF.of hb) (λ_ h=>h.elim) (qf.keep h.lm hb.size (λd hd _=>hb.block d hd) λ_ _ h=>h)
def Hd.next{E:Nat}(h:Hd w0 an g kc kt ka kx sb r mb c s p m bo bc buf nd fa la tt se lv Lm W)(A:oW ka mb W W')(J:qb W' (U (mb,m2)))(N:nU W' ka #[Y X E] InT):Hd w0 an g kc kt ka kx sb r mb c s E m2 bo bc buf nd fa la tt se lv Lm W':=by
 have l:=h.lt;have n:=h.nx;have q:∀{d:Nat}{cs:Array jC}{t:jX},nU W d cs t->d≠ka->d≠mb->nU W' d cs t:=λhB aa ae=>A.blk hB aa ae
 refine⟨⟨q n.cf K K,q n.mv K K,q n.tx K K,N,q n.sv K K,⟨?_,jZ n.se.2 A.size⟩,J,n.ne⟩,q h.ss K K,?_,qf.keep h.lm A.size (λd hd I=>A.block d hd (by have:=I.1;omega) (by have:=I.1;omega)) λ_ _ h=>h,?_,?_,h.bl⟩
 .have:=A.block sb n.se.2 K K
  simp only[mV,this];exact n.se.1
 .exact h.ob.kp (F:=λd=>d=ka\/d=mb) (rF.of2 A (λ_=> .inl rfl) (λ_=> .inr rfl)) λb hb C=>by have:=h.bl b hb;omega
 .exact h.kp.trans (F':=λd=>d=ka\/d=mb) (rF.of2 A (λ_=> .inl rfl) (λ_=> .inr rfl)) λd hd C=>by
   rcases C with C|C
   .omega
   .exact .inr (.inl C)
 .have:=A.size
  omega
def Hd.reg(h:Hd w0 an g kc kt ka kx sb r mb c s p m bo bc buf nd fa la tt se lv Lm W)(C:oW ka mb W W'):rF (λk=>k=sb\/k=mb\/(kI bo buf.length bc).ownBlock=U k) w0 W':=
 h.kp.trans (F':=λd=>d=ka\/d=mb) (rF.of2 C (λ_=> .inl rfl) (λ_=> .inr rfl)) λd hd A=>by
  rcases A with A|A
  .have:=h.lt;omega
  .exact .inr (.inl A)
end
end
end Go.Proofs.YtamfcjmhnndbdaaGreatDoor


