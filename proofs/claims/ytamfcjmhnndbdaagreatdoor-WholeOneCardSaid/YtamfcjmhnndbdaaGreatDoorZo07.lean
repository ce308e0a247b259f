/- Part 7 of the proof. -/
import Derived.Test.YtamfcjmhnndbdaaGreatDoorZoA
import Derived.Test.YtamfcjmhnndbdaaGreatDoorZo00
import Derived.Test.YtamfcjmhnndbdaaGreatDoorZo05
import Derived.Test.YtamfcjmhnndbdaaGreatDoorZo03
import Derived.Test.YtamfcjmhnndbdaaGreatDoorZo04
import Derived.Test.YtamfcjmhnndbdaaGreatDoorZo06
open Go.Value renaming agg→nI,bool→nH,int→Y,pointer→nG,slice→u,string→G,tuple→nJ,ownBlock→kz,slice→kI
open Go.Obj renaming cells→nL
open Go.IntKind renaming i64→X,u64→nN
open Go.Ending renaming returned→nK,returned→kZ
open Go.Lib renaming hid→H
open Go.Proofs.Tryz renaming prog→jy
open Go renaming World→M,Value→jC,Calls→jG,maxLen→jN,bodyPost_ret→jO,TypeId→jX,undef→ku,results→kF,Addr→kW,Oper→lJ,Program→lQ,wpQuiet_nil→l7
open Nat renaming le_refl→jB,le_trans→jM,lt_of_lt_of_le→jZ,zero_le→ko,le_succ→kR,lt_succ_self→lF,le_of_eq→lZ
open Go.RowKit renaming Below→jD,Hid→jI,intOf→kC
open Go.RowKit.Below renaming refl→jE,heap_setCell→jW
open And renaming intro→jF
open List renaming setIfInBounds_toArray→jH,length_append→jK,getElem?_eq_getElem→jL,set_cons_zero→jQ,set_cons_succ→jR,getElem?_cons_zero→jS,getElem?_cons_succ→jT,getElem?_toArray→jV,take_succ_cons→jY,length_cons→j4,replicate→ky,mem_of_getElem?→kE,take_zero→kJ,getElem?_eq_some_iff→lu,map_cons→mf,map_nil→ng,drop_eq_getElem_cons→nA
open Bool renaming and_eq_true→jJ,false_eq_true→lS
open ByteArray renaming size_extract→jP
open Go.World renaming setCell→j5,cell?→mV
open Go.Code renaming region→kT
open Array renaming getElem?_modify→kU
open Go.Lit renaming int→kY
open Go.Act renaming put→mR
open Int renaming toNat_of_nonneg→ny
open Ne renaming symm→nz
open Option renaming none→V,some→U
open Bool renaming true→R,false→O
open Go.Addr renaming mk→Z
open Decidable renaming decide→At
namespace Go.Proofs.YtamfcjmhnndbdaaGreatDoor
set_option linter.unusedVariables false
set_option linter.defProp false
set_option linter.unusedSimpArgs false
set_option maxRecDepth 100000
set_option maxHeartbeats 8000000
variable {p:Prop}{x:Fr}{a0:Act}
section
open Go.RowKit
def Xd{s:List Ax}{am aq er:Nat}(h:Dp s (At (am<=0)) (At (aq<=0))=.error er):xS am s aq=.error er:=by
 refine UY ?_;rw[<-h];congr 1<;>(rw[decide_eq_decide];omega)
def Dz{s:List Ax}{am aq:Nat}{q:Bool×Nat×Nat}(h:Dp s (At (am<=0)) (At (aq<=0))=.ok q):s≠[]/\0<am/\0<aq/\hd s=.ok q/\q.2.1+q.2.2<=s.length/\0<q.2.1+q.2.2:=by
 have e1:At (am<=0)=At (am=0):=by rw[decide_eq_decide];omega
 have e2:At (aq<=0)=At (aq=0):=by rw[decide_eq_decide];omega
 rw[e1,e2]at h;obtain⟨C,E,I,A⟩:=Z4 h;obtain⟨J,N,_⟩:=M0 A;exact⟨C,E,I,A,J,N⟩
def wT.Sz{s:List Ax}{am aq B bo bw:Nat}{w0 w w':M}{vr v:jC}{z n:Nat}{A:Nat->Prop}(h:Dp s (At (am<=0)) (At (aq<=0))=.ok (O,z,n))(hw0:jD B w0 w)(hs:sw w' B bo bw vr [])(hb:nU w' bw #[G (txt ⟨(s.drop z).take n,O⟩),nH O,v] IT)(C:oo w' A v [])(E:∀c,A c->¬Q0 B bo bw vr c)(I:jD B w w'):
  wT s am aq (xS am s aq) B bo bw w0 w' (z+n) 1 vr []:=by
 obtain⟨J,af,N,aa,ae,ag⟩:=Dz h;refine⟨hs,hw0.trans I,N,nX,nX,ae,?_⟩;obtain⟨k,rfl⟩:∃k,am=k+1:=⟨am - 1,K⟩;obtain⟨m,rfl⟩:∃m,aq=m+1:=⟨aq - 1,K⟩;exact⟨nS.node ⟨(s.drop z).take n,O⟩ [],v,A,PV J aa,hb,C,E⟩
def wT.Dy{s:List Ax}{am aq B bo bw:Nat}{w0 w w':M}{vr v':jC}{z n:Nat}(h:Dp s (At (am<=0)) (At (aq<=0))=.ok (R,z,n))(hw0:jD B w0 w)(hs:sw w' B bo bw vr [⟨v',[],z+n⟩])(hb:nU w' bw rR IT)(C:jD B w w'):wT s am aq (xS am s aq) B bo bw w0 w' z 1 vr [⟨v',[],z+n⟩]:=by
 obtain⟨E,N,I,J,A,aa⟩:=Dz h;refine⟨hs,hw0.trans C,I,nY,nX,⟨by show z<=z+n;omega,A⟩,hb,?_⟩;obtain⟨k,rfl⟩:∃k,am=k+1:=⟨am - 1,K⟩;obtain⟨m,rfl⟩:∃m,aq=m+1:=⟨aq - 1,K⟩;exact Go.Proofs.YtamfcjmhnndbdaaGreatDoor.Dy J E A
def P5(ar:RdR)(w:M)(e:Ending)(w':M):Prop:=match ar with
 | .error er=>e=nK (nJ #[nI rR,Y X 0,Y X (er:Nat)])/\jD w.heap.size w w'
 | .ok y=>∃v,e=nK (nJ #[nI #[G (txt y.1.lab),nH y.1.lab.list,v],Y X (y.2.1:Nat),Y X 0])/\oo w' (λc=>w.heap.size<=c) v y.1.sub/\jD w.heap.size w w'
def Opn(p:Nat):List Fr->Prop
 |[]=>True
 |x::_=>p<x.e
def Z6:jC->Nat
 | nH R=>1
 |_=>0
def FH(w:M)(b:Nat):Nat:=match w.cell? (Z b 0 V)with
 |some (u _ n _)=>n
 |_=>0
def U2{l:List Ax}{er:Nat}(h:hd l=.error er):er=2\/er=3:=by
 have A:∀(L:Bool)(z n:Nat),hd2 l L z n=.error er->er=2\/er=3:=by
  intro L z n h;unfold hd2 at h;split at h;.cases h;exact .inl rfl
  split at h;.cases h;exact .inr rfl
  .cases h
 cases l with
 |nil=>simp only[hd]at h;cases h;exact .inl rfl
 |cons b r=>
  simp only[hd]at h;generalize (if 192<=b.toNat then(192:Nat)else 128)=by' at h;split at h;.cases h
  split at h;.exact A _ _ _ h
  split at h;.cases h;exact .inl rfl
  split at h;.cases h;exact .inr rfl
  .exact A _ _ _ h
def P6{l:List Ax}{a b:Bool}{er:Nat}(h:Dp l a b=.error er):2<=er/\er<=6:=by
 unfold Dp at h;split at h;.cases h;decide
 split at h;.cases h;decide
 split at h;.cases h;decide
 .have:=U2 h;omega
def P7{l:List Ax}{z n:Nat}(h:hd l=.ok (R,z,n)):0<z:=by
 obtain⟨_,_,_,C⟩:=M0 h;rcases C with⟨A,_⟩|⟨_,_,A⟩
 .cases A
 .exact A
def Nj{s:An}{l:List Ax}(h:s.data.toList=l)(p e:Nat):(s.extract p e).data.toList=AJ l p e:=by
 subst h;simp only[ByteArray.data_extract,Array.toList_extract,List.extract,AJ]
def sw.fut{w w':M}{B bo bw:Nat}{vr:jC}{st:List Fr}(h:sw w B bo bw vr st)(hb:jD w.heap.size w w'):sw w' B bo bw vr st:=
 ⟨Below.blk hb h.ho h.ho.lt,h.row.below hb,h.nbo,h.nbw,h.LC.below hb,h.LD,h.hbw,h.ne,jZ h.lt hb.size⟩
def wT.fut{s:List Ax}{am aq:Nat}{ar:RdR}{B bo bw:Nat}{w0 w w':M}{p c:Nat}{vr:jC}{st:List Fr}(h:wT s am aq ar B bo bw w0 w p c vr st)(hb:jD w.heap.size w w'):wT s am aq ar B bo bw w0 w' p c vr st:=by
 have hlt:=h.CE.lt;refine⟨h.CE.fut hb,h.below.trans (hb.mono (by have:=h.CE.hbw;omega)),h.hc,h.len,h.Ls,h.ends,?_⟩;cases st with
 |nil=>
  obtain⟨x,v,A,C,E,I,J⟩:=h.res;exact⟨x,v,A,C,Below.blk hb E hlt,Shape.om.below I hb,J⟩
 |cons x xs=>exact⟨Below.blk hb h.res.1 hlt,h.res.2⟩
def uD{A:Type}{f:A->List jC}{k:Nat}{P:lQ}{st t:jX}(T:xZ P st t k)(hk:∀y,(f y).length=k){ops:Array lJ}{rest:List lJ}{o:lJ}{a:Act}{Q:Exit->Act->M->Prop}(E:o.guard=V)(s x:Operand)(ho:o.op=.call {callee:=.builtin .append,args:=#[s,x],argTypes:=#[st,st]}){w:M}{B b c:Nat}{v:jC}{L:List A}{y:A}{cs:Array jC}{J:jX}(hs:a.eval s=v)(C:qd f k w B t v L)(N:a.eval x=u (U (Z b 0 V)) 1 c)(hb:nU w b cs J)(I:cs.toList=f y)(aa:∀ao∈f y,ao.oneCell'=R)(hlen:L.length<=1000000)(hB:B<=w.heap.size)(h:∀g cap w',qd f k w' B t (u (U (Z g 0 V)) (L.length+1) cap) (L++[y])->w.grownBy w' v.ownBlock->(v.ownBlock=U g\/g=w.heap.size)->g<w'.heap.size->wpList P ops Q rest (a.put o.dst (u (U (Z g 0 V)) (L.length+1) cap)) w'):
  wpList P ops Q (o::rest) a w:=by
 refine wpList_plain E λam ae=> ?_
 obtain⟨g,cap,w',af,ag,ah,ai,aj,_⟩:=Em (ty:=o.type) T hk C hb I aa hlen hB;unfold Oper.wp execOp;simp only[ho,resolve,invoke,builtin,Sem.run_bind,Sem.run_pure,Result.andThen_ok,List.map_toArray,mf,ng,hs,N];rw[af];exact ae _ _ (h g cap w' ag ah ai aj)
def P8{w w1 w2:M}{B bo bw:Nat}{vr:jC}{st:List Fr}(h:sw w B bo bw vr st)(E:jD w.heap.size w w1)(hg:w1.grownBy w2 vr.ownBlock):w2.cell? (Z bo 0 V)=U vr/\w2.frozen? (Z bo 0 V)=O:=by
 have A:=Below.blk E h.ho h.ho.lt;have C:nU w2 bo #[vr] OT:=by
  unfold nU;rw[hg.block bo A.lt λe=>h.nbo e.symm];exact A
 exact⟨C.cell 0,C.free 0⟩
def U3{g:Nat}{wa w:M}(h:nU wa g rR IT)(hb:jD (g+1) wa w):(w.cell? (Z g 0 V)=U (G ⟨#[]⟩)/\w.cell? (Z g 1 V)=U (nH O)/\w.cell? (Z g 2 V)=U (u V 0 0))/\
  (w.frozen? (Z g 0 V)=O/\w.frozen? (Z g 1 V)=O/\w.frozen? (Z g 2 V)=O)/\nU w g rR IT:=by
 have:=Below.blk hb h (lF g);exact⟨⟨this.cell 0,this.cell 1,this.cell 2⟩,⟨this.free 0,this.free 1,this.free 2⟩,this⟩
def LF{g:Nat}{w0 wa w:M}{a b c:jC}(h0:jD g w0 wa)(E:g<wa.heap.size)(hb:jD (g+1) wa w)(A:nU w g rR IT):nU (xw w g 0 a b c) g #[a,b,c] IT/\jD g w0 (xw w g 0 a b c):=by
 refine⟨?_,?_⟩
 .have:=((A.set 0 a).set 1 b).set 2 c
  exact this
 .have C:jD g w0 w:=h0.trans (hb.mono K)
  exact pX.below (PS w g 0 a b c) C (jB _) (by have:=hb.size;omega)
structure a8T(l:List Ax)(g:Nat)(w wa W:M):Prop where
 CE:sw W (g+1) (g+1) (g+2) (u V 0 0) []
 whole:nU W (g+2) rR IT
 res:nU wa g rR IT
 ba:jD g w wa
 bw:jD (g+1) wa W
 o0:W.cell? (Z (g+1) 0 V)=U (u V 0 0)
def a8U{l:List Ax}{g:Nat}{w wa A W:M}(hg:w.heap.size=g)(E:w.alloc (nL #[G ⟨#[]⟩,nH O,u V 0 0] IT)=wa)(hb:wa.alloc (nL #[u V 0 0] OT)=A)(hc:A.alloc (nL #[G ⟨#[]⟩,nH O,u V 0 0] IT)=W):a8T l g w wa W:=by
 have I:wa.heap.size=g+1:=by rw[<-E];simp;omega
 have J:A.heap.size=g+2:=by rw[<-hb];simp;omega
 have ag:W.heap.size=g+3:=by rw[<-hc];simp;omega
 have b1:jD g w wa:=by rw[<-E,<-hg];exact(jE _ w).alloc (jB _) _
 have N:jD (g+1) wa A:=by rw[<-hb,<-I];exact(jE _ wa).alloc (jB _) _
 have b3:jD (g+2) A W:=by rw[<-hc,<-J];exact(jE _ A).alloc (jB _) _
 have aa:nU wa g rR IT:=by have:=nU.new w #[G ⟨#[]⟩,nH O,u V 0 0] IT;rw[E,hg]at this;exact this
 have ae:nU A (g+1) #[u V 0 0] OT:=by have:=nU.new wa #[u V 0 0] OT;rw[hb,I]at this;exact this
 have af:nU W (g+2) rR IT:=by have:=nU.new A #[G ⟨#[]⟩,nH O,u V 0 0] IT;rw[hc,J]at this;exact this
 have C:nU W (g+1) #[u V 0 0] OT:=Below.blk b3 ae K;exact⟨⟨C,qd.nil _ _ _,by simp[kz],by simp[kz],trivial,K,K,K,K⟩,af,aa,b1,N.trans (b3.mono K),C.cell 0⟩
def Nk{w:M}{B bo bw:Nat}{vr:jC}{st:List Fr}(h:sw w B bo bw vr st):FH w bo=st.length:=by
 obtain⟨oa,cap,A⟩:=h.row.slice;have:=h.ho.cell 0;rw[A]at this;unfold FH;rw[this];simp
section
variable {l:List Ax}{am aq:Nat}{ar:RdR}{g:Nat}{wa w:M}{p c:Nat}{vr:jC}
def zq{xs:List Fr}{N:Nat}(h:wT l am aq ar (g+1) (g+1) (g+2) wa w p c vr (x::xs))(I:xs.length=N):∃go C,vr=u (U (Z go 0 V)) (N+1) C/\
  w.cell? (Z go (N*2) V)=U x.v/\w.cell? (Z go (N*2+1) V)=U (Y X (x.e:Nat))/\w.cell? (Z (g+1) 0 V)=U (u (U (Z go 0 V)) (N+1) C)/\w.frozen? (Z (g+1) 0 V)=O/\N+1<=C/\N+1<=am:=by
 obtain⟨oa,C,E⟩:=h.CE.row.slice;have aa:(x::xs).reverse.length=N+1:=by simp[I]
 rw[aa]at E;subst E;obtain⟨go,rfl,_,_,_,J,A,_⟩:=qd.at_ h.CE.row BV (i:=N) (y:=x) (by simp[<-I]);have:=h.len;rw[j4,I]at this;exact⟨go,C,rfl,A 0 nT,A 1 nT,h.CE.ho.cell 0,h.CE.ho.free 0,J,this⟩
def a3K{xs:List Fr}{A:Nat}(h:wT l am aq ar (g+1) (g+1) (g+2) wa w p c vr (x::xs))(I:x.L.length=A):∃ov cv,x.v=u ov A cv/\A<=cv/\A<=c:=by
 obtain⟨Q,_,J,_⟩:=h.CE.LC;obtain⟨ov,cv,C,E,_⟩:=oo.slice J.subs;rw[List.length_map,I]at C E;have:=h.Ls;simp at this;exact⟨ov,cv,C,E,K⟩
def U4{xs:List Fr}(h:wT l am aq ar (g+1) (g+1) (g+2) wa w p c vr (x::xs))(he:¬x.e=p):Opn p (x::xs):=by
 have:=h.ends.1;show p<x.e;omega
def KI{go C A cv:Nat}{ov:Option kW}(h:wT l am aq ar (g+1) (g+1) (g+2) wa w p c (u (U (Z go 0 V)) (0+1) C) [x])(he:x.e=p)(ae:x.v=u ov A cv)(ak:x.L.length=A):
  jG jy 241 #[nI #[G ⟨#[]⟩,nH R,u ov A A],nG (U (Z (g+1) 0 V)),nG (U (Z (g+2) 0 V))] (w.setCell (Z (g+1) 0 V) (u (U (Z go 0 V)) 0 C))
   λe w'=>e=nK (nJ #[])/\wT l am aq ar (g+1) (g+1) (g+2) wa w' p c (u (U (Z go 0 V)) 0 C) []:=by
 obtain⟨Q,af,I,J,_,hb,E⟩:=U1 h.CE rfl;rw[ae]at I;have hs:=I.subs;have N:g+2≠g+1:=K;have hbw:nU (w.setCell (Z (g+1) 0 V) (u (U (Z go 0 V)) 0 C)) (g+2) rR IT:=by
  unfold nU;rw[E _ N];exact h.res.1
 have:=Bl (w.setCell (Z (g+1) 0 V) (u (U (Z go 0 V)) 0 C)) (g+1) (g+1) (g+2) _ ⟨⟨[],R⟩,u ov A A,x.L.map qA.tree⟩ Q _ _ _ af hbw (PZ hs) J;refine this.mono λe w' ⟨aa,ag,ah,ai,aj⟩=>⟨aa,wT.whole h he ag ah ai J (hb.trans aj)⟩
def P9{C:Fr}{xs:List Fr}{go E A cv N:Nat}{ov:Option kW}(h:wT l am aq ar (g+1) (g+1) (g+2) wa w p c (u (U (Z go 0 V)) (N+1+1) E) (x::C::xs))(he:x.e=p)(ah:x.v=u ov A cv)(az:x.L.length=A)(J:(C::xs).length=N+1)(aA:am<=16)(ay:aq<=1024):
  jG jy 241 #[nI #[G ⟨#[]⟩,nH R,u ov A A],nG (U (Z (g+1) 0 V)),nG (U (Z (g+2) 0 V))] (w.setCell (Z (g+1) 0 V) (u (U (Z go 0 V)) (N+1) E))
   λe w'=>e=nK (nJ #[])/\∃v',wT l am aq ar (g+1) (g+1) (g+2) wa w' p c (u (U (Z go 0 V)) (N+1) E) (⟨v',C.L++[⟨⟨[],R⟩,u ov A A,x.L.map qA.tree⟩],C.e⟩::xs):=by
 obtain⟨Q,ai,aa,aj,ak,hb,I⟩:=U1 h.CE J;rw[ah]at aa;have hs:=aa.subs;have ae:g+2≠g+1:=K;have hbw:nU (w.setCell (Z (g+1) 0 V) (u (U (Z go 0 V)) (N+1) E)) (g+2) rR IT:=by
  unfold nU;rw[I _ ae];exact h.res.1
 have hlen:=h.len;have af:=h.Ls;have hc:=h.hc;simp at hlen af J;have:=Eo C xs (w.setCell (Z (g+1) 0 V) (u (U (Z go 0 V)) (N+1) E)) (g+1) (g+1) (g+2) _ ⟨⟨[],R⟩,u ov A A,x.L.map qA.tree⟩ Q _ ai K K hbw (PZ hs) aj ak (ko _);refine this.mono λe w' ⟨ag,v',au,av,ax⟩=>⟨ag,v',wT.close h he rfl au av (hb.trans ax)⟩
def U5{s:An}(hl:s.data.toList=l)(p n:Nat):txt ⟨(l.drop p).take n,O⟩=s.extract p (p+n):=R5 (by
 rw[Nj hl];show(l.drop p).take n=(l.drop p).take (p+n - p);rw[show p+n - p=n by omega])
def Nl{s:An}{z n:Nat}(hl:s.data.toList=l)(E:xS am l aq=ar)(I:Dp l (At (am<=0)) (At (aq<=0))=.ok (O,z,n))(hs:sw w (g+1) (g+1) (g+2) vr [])(hb:nU w (g+2) rR IT)(J:jD (g+1) wa w):
  jG jy 241 #[nI #[G (s.extract z (z+n)),nH O,u V 0 0],nG (U (Z (g+1) 0 V)),nG (U (Z (g+2) 0 V))] w
   λe w'=>e=nK (nJ #[])/\wT l am aq ar (g+1) (g+1) (g+2) wa w' (z+n) 1 vr []:=by
 have:=Bl w (g+1) (g+1) (g+2) vr ⟨⟨(l.drop z).take n,O⟩,u V 0 0,[]⟩ (λ_=>False) _ _ _ hs hb ⟨V,0,rfl,jB _,ko _,λh=>absurd h nX⟩ (λ_ h=>h.elim);rw[U5 hl]at this;refine this.mono λe w' ⟨A,N,C,aa,ae⟩=>⟨A,?_⟩
 rw[<-E];rw[<-U5 hl]at C;exact wT.Sz I J N C aa (λ_ h=>h.elim) ae
def a6G{s:An}{xs:List Fr}{z n:Nat}(hl:s.data.toList=l)(hs:s.size<=100000)(h:wT l am aq ar (g+1) (g+1) (g+2) wa w p c vr (x::xs))(hp:p<x.e)(af:am<=16)(ag:aq<=1024)(I:Dp (AJ l p x.e) (At (am<=(x::xs).length)) (At (aq<=c))=.ok (O,z,n)):
  jG jy 241 #[nI #[G (s.extract (p+z) (p+z+n)),nH O,u V 0 0],nG (U (Z (g+1) 0 V)),nG (U (Z (g+2) 0 V))] w
   λe w'=>e=nK (nJ #[])/\∃A,A.e=x.e/\wT l am aq ar (g+1) (g+1) (g+2) wa w' (p+z+n) (c+1) vr (A::xs):=by
 have hlen:=h.len;have C:=h.Ls;have hc:=h.hc;simp at hlen C;have ht:txt ⟨AJ l (p+z) (p+z+n),O⟩=s.extract (p+z) (p+z+n):=R5 (Nj hl _ _).symm;have ae:l.length=s.size:=by rw[<-hl];simp
 have:=Eo x xs w (g+1) (g+1) (g+2) vr ⟨⟨AJ l (p+z) (p+z+n),O⟩,u V 0 0,[]⟩ (λ_=>False) _ h.CE K K h.res.1 ⟨V,0,rfl,jB _,ko _,λh=>absurd h nX⟩ (λ_ h=>h.elim)
  (h.CE.LC.keep (jB _) (λ_ _ _=>rfl) λc _ hc=>hc.elim id False.elim) (by
   show(AJ l (p+z) (p+z+n)).length<=jN;unfold AJ jN;simp;omega)
 rw[ht]at this;exact this.mono λe w' ⟨E,v',J,N,aa⟩=>⟨E,⟨v',_,x.e⟩,rfl,wT.text h hp I rfl J N aa⟩
def a6H{f:Fr}{xs:List Fr}{w1 w2:M}{z n A cap N:Nat}(h:wT l am aq ar (g+1) (g+1) (g+2) wa w p c vr (x::xs))(hp:p<x.e)(E:xs.length=N)(I:Dp (AJ l p x.e) (At (am<=(x::xs).length)) (At (aq<=c))=.ok (R,z,n))(J:jD w.heap.size w w1)(aa:f=⟨u V 0 0,[],p+z+n⟩)(hrow:qd rf2 2 w2 (g+1) RT (u (U (Z A 0 V)) ((x::xs).reverse.length+1) cap) ((x::xs).reverse++[f]))(hg:w1.grownBy w2 vr.ownBlock)(C:vr.ownBlock=U A\/A=w1.heap.size):
  wT l am aq ar (g+1) (g+1) (g+2) wa (w2.setCell (Z (g+1) 0 V) (u (U (Z A 0 V)) (N+1+1) cap)) (p+z) (c+1) (u (U (Z A 0 V)) (N+1+1) cap) (f::x::xs):=by
 subst aa E;rw[List.length_reverse]at hrow;obtain⟨ae,af,ag⟩:=PY h.CE J ⟨rfl,rfl⟩ hrow hg C;exact wT.list h hp I ae ((ag _ h.CE.lt K h.CE.nbw).trans h.res.1) af
end
def JA(a:IL)(s:List (nS IL)):enc (.node a s)=if a.list then hdr 192 (zb s).length++zb s else if single a.text then a.text else hdr 128 a.text.length++a.text:=by simp only[enc]
def Qa{t:List Ax}(h:t.length≠1):single t=O:=by
 cases t with
 |nil=>rfl
 |cons b r=>cases r with
  |nil=>simp at h
  |cons c r=>rfl
def SA{a:IL}(h:(txt a).size=1):single a.text=At ((txt a)[0].toNat<128):=by
 have A:a.text.length=1:=by rw[<-uw];exact h
 obtain⟨t,li⟩:=a
 match t,A with
 |[b],_=>rfl
def uK.a8V{w w1:M}{Q E:Nat->Prop}{v:jC}{L:List (qA IL)}{x:qA IL}{g cap:Nat}(h:uK w Q v L)(hrow:qd QZ 3 w1 0 IT (u (U (Z g 0 V)) (L.length+1) cap) (L++[x]))(hg:w.grownBy w1 v.ownBlock)(A:v.ownBlock=U g\/w.heap.size<=g)(N:oo w E x.ao x.sub)(hxv:∀c,E c->v.ownBlock≠U c)(J:x.lab.text.length<=jN):
  uK w1 (λc=>Q c\/E c\/c=g) (u (U (Z g 0 V)) (L.length+1) cap) (L++[x]):=by
 have hgn:∀c,c<w.heap.size->v.ownBlock≠U c->c≠g:=λc hc I e=>by
  rcases A with A|A
  .exact I (by rw[A,e])
  .omega
 have C:∀c,c<w.heap.size->v.ownBlock≠U c->w1.heap[c]? =w.heap[c]? :=λc hc I=>hg.block c hc (λe=>I e.symm)
 refine⟨hrow,λb hb=> ?_,λy hy=> ?_⟩
 .simp[kz]at hb
  exact .inr (.inr hb.symm)
 .rcases List.mem_append.1 hy with hy|hy
  .refine⟨(h.2.2 y hy).1,Shape.om.keep (h.2.2 y hy).2 hg.size (λc hc hq=>⟨.inl hq.1,?_⟩) λc hc hq=>C c hc hq.2⟩
   intro e;simp[kz]at e;exact hgn c hc hq.2 e.symm
  .simp at hy
   subst hy;refine⟨J,Shape.om.keep N hg.size (λc hc hq=>⟨.inr (.inl hq),?_⟩) λc hc hq=>C c hc (hxv c hq)⟩;exact Nf
def Z7{k:Nat}(h:∀l m er,xS k l m=.error er->2<=er):∀(f:Nat)(l:List Ax)(m:Nat)(sub:List (nS IL))(er:Nat),l.length<f->Pk (xS k) f l m sub=.error er->2<=er:=by
 intro f;induction f with
 |zero=>intro l m sub er h;omega
 |succ f A=>
  intro l m sub er hl he;simp only[Pk]at he;split at he;.cases he
  .split at he
   .rename_i E C
    have:=h _ _ _ C;cases he;split<;>omega
   .rename_i y hy
    obtain⟨I,J⟩:=Hz hy;exact A _ _ _ _ nY he
def JB:∀(k:Nat)(l:List Ax)(m er:Nat),xS k l m=.error er->2<=er:=by
 intro k;induction k with
 |zero=>intro l m er h;simp only[xS]at h;split at h<;>cases h<;>decide
 |succ k A=>
  intro l m er h;simp only[xS]at h;split at h;.cases h;decide
  split at h;.cases h;decide
  split at h
  .rename_i C he
   cases h;have:=U2 he;omega
  .rename_i q E
   split at h
   .split at h
    .rename_i C he
     cases h;refine Z7 A _ _ _ _ _ ?_ he;simp;omega
    .cases h
   .cases h
section
variable {g:Nat}{w0 w:M}{l0:List Ax}{k m:Nat}{tot:Int}{I:List Ax}{v:jC}{L:List (qA IL)}{cnt:Nat}
end
def Xe(cb lb:Nat):Nat->Prop:=λc=>c≠cb/\c≠lb
def Qb(cb lb fb:Nat)(y:RdV)(w:M)(e:Ending)(w':M):Prop:=
 ∃ov cv,e=nK (nI #[G (txt y.1.lab),nH y.1.lab.list,u ov y.1.sub.length cv])/\Cz cb lb fb y.2.1 y.2.2 w'/\oo w' (λc=>w.heap.size<=c) (u ov y.1.sub.length cv) y.1.sub/\oW cb lb w w'
def a5v(cb lb fb:Nat)(y:List (nS IL)×RS×Nat)(w:M)(e:Ending)(w':M):Prop:=
 ∃ov cv,e=nK (nI #[G ⟨#[]⟩,nH R,u ov y.1.length cv])/\Cz cb lb fb y.2.1 y.2.2 w'/\oo w' (λc=>w.heap.size<=c) (u ov y.1.length cv) y.1/\oW cb lb w w'
structure L7(g cb lb fb kb wk:Nat)(r r2:RS)(l l2:Nat)(k z:Int)(ou:Option kW)(nu cu:Nat)(tl:Int)(ts:List (nS TL))(xo:Option kW)(xc:Nat)(L:List (qA IL))(x:nS IL)(w0:M)(d4 d5 d6 d8:Bool)(v4 v5 v6:jC)(W:M):Prop where
 ly:Cz cb lb fb (if d4=R then r2 else r) (if d4=R then l2 else l) W
 rb:nU W g (Gz cb lb fb) G9
 rs:nU W (g+1) #[G ⟨#[]⟩,nH O,u V 0 0] IT
 xb:nU W (g+2) #[G ⟨#[]⟩,nH R,(if d8=R then v6 else u xo L.length xc)] IT
 tb:d4=O->nU W kb #[Y X k,Y X z,u ou nu cu,Y X tl] sN/\wk<=W.heap.size/\oD.om W (Xe cb lb) (u ou nu cu) ts
 own:d6=O->uK W (λc=>g+3<=c) (u xo L.length xc) L/\∀b,(kI xo L.length xc).ownBlock=U b->b<wk
 sub:d4=R->d6=O->∃ov cv,v4=nI #[G (txt x.lab),nH x.lab.list,u ov x.sub.length cv]/\oo W (λc=>wk<=c) (u ov x.sub.length cv) x.sub/\(d5=R->∃nb,v5=u (U (Z nb 0 V)) 1 1/\nU W nb #[G (txt x.lab),nH x.lab.list,u ov x.sub.length cv] IT)
 fin:d6=R->∃e:qA IL,e.lab=x.lab/\e.sub=x.sub/\∃go gc,v6=u (U (Z go 0 V)) (L.length+1) gc/\uK W (λc=>g+3<=c) v6 (L++[e])
 up:oW cb lb w0 W
 lt:cb<g/\lb<g/\fb<g/\g+3<=wk/\L.length<=100000/\x.lab.text.length<=jN/\w0.heap.size=g/\0<g
section
variable {g cb lb fb kb wk:Nat}{r r2:RS}{l l2:Nat}{k z:Int}{ou:Option kW}{nu cu:Nat}{tl:Int}{ts:List (nS TL)}{xo:Option kW}{xc:Nat}{L:List (qA IL)}{x:nS IL}{w0:M}{d4 d5 d6 d8:Bool}{v4 v5 v6:jC}{W W':M}
def L7.call{ov:Option kW}{cv:Nat}(h:L7 g cb lb fb kb wk r r2 l l2 k z ou nu cu tl ts xo xc L x w0 O O O O v4 v5 v6 W)(hl:Cz cb lb fb r2 l2 W')(hs:oo W' (λc=>W.heap.size<=c) (.slice ov x.sub.length cv) x.sub)(A:oW cb lb W W'):
  L7 g cb lb fb kb wk r r2 l l2 k z ou nu cu tl ts xo xc L x w0 R O O O (nI #[G (txt x.lab),nH x.lab.list,u ov x.sub.length cv]) v5 v6 W':=by
 obtain⟨J,N,t3⟩:=h.tb rfl;obtain⟨E,I⟩:=h.own rfl;have aa:=h.lt;refine⟨hl,A.blk h.rb K K,A.blk h.rs K K,A.blk h.xb K K,(λh=>by cases h),λ_=>⟨uK.keep E A.size (λc hc C=>A.block c hc (by have:g+3<=c:=C;omega) (by have:g+3<=c:=C;omega)) λ_ _ h=>h,I⟩,λ_ _=>⟨ov,cv,rfl,Shape.om.keep hs (jB _) (λc _ hc=>by have:W.heap.size<=c:=hc;show wk<=c;omega) λ_ _ _=>rfl,λh=>by cases h⟩,(λh=>by cases h),h.up.trans A,h.lt⟩
def L7.box(h:L7 g cb lb fb kb wk r r2 l l2 k z ou nu cu tl ts xo xc L x w0 R O O O v4 v5 v6 W){ov:Option kW}{cv:Nat}(A:v4=nI #[G (txt x.lab),nH x.lab.list,u ov x.sub.length cv]):
  L7 g cb lb fb kb wk r r2 l l2 k z ou nu cu tl ts xo xc L x w0 R R O O v4 (u (U (Z W.heap.size 0 V)) 1 1) v6 (W.alloc (nL #[G (txt x.lab),nH x.lab.list,u ov x.sub.length cv] IT)):=by
 have hb:=(jE W.heap.size W).alloc (jB _) (nL #[G (txt x.lab),nH x.lab.list,u ov x.sub.length cv] IT);obtain⟨C,E⟩:=h.own rfl;obtain⟨J,N,e1,I,_⟩:=h.sub rfl rfl;rw[A]at e1;cases e1;refine⟨h.ly.below hb,Below.blk hb h.rb h.rb.lt,Below.blk hb h.rs h.rs.lt,Below.blk hb h.xb h.xb.lt,(λh=>by cases h),λ_=>⟨uK.keep C hb.size (λc hc aa=>hb.block c hc) λ_ _ h=>h,E⟩,λ_ _=>⟨ov,cv,A,Shape.om.below I hb,λ_=>⟨_,rfl,nU.new W _ _⟩⟩,(λh=>by cases h),h.up.trans (oW.of hb),h.lt⟩
def L7.app(h:L7 g cb lb fb kb wk r r2 l l2 k z ou nu cu tl ts xo xc L x w0 R R O O v4 v5 v6 W){ov:Option kW}{cv go gc:Nat}(N:v4=nI #[G (txt x.lab),nH x.lab.list,u ov x.sub.length cv])(aa:qd QZ 3 W' 0 IT (u (U (Z go 0 V)) (L.length+1) gc) (L++[⟨x.lab,u ov x.sub.length cv,x.sub⟩]))(C:W.grownBy W' (kI xo L.length xc).ownBlock)(E:(kI xo L.length xc).ownBlock=U go\/go=W.heap.size):
  L7 g cb lb fb kb wk r r2 l l2 k z ou nu cu tl ts xo xc L x w0 R R R O v4 v5 (u (U (Z go 0 V)) (L.length+1) gc) W':=by
 obtain⟨I,ae⟩:=h.own rfl;obtain⟨ai,aj,e1,af,_⟩:=h.sub rfl rfl;rw[N]at e1;cases e1;have ak:=h.lt;have J:∀c,c<g+3->(kI xo L.length xc).ownBlock≠U c:=λc hc e=>by have:=I.2.1 c e;have:g+3<=c:=this;omega
 have k:∀{c:Nat}{cs:Array jC}{t:jX},nU W c cs t->c<g+3->nU W' c cs t:=λhb hc=>pO hb C λy hy e=>J _ hc (by rw[hy,e])
 have A:=h.ly;have hsz:g+3<=W.heap.size:=by have:=h.xb.lt;omega
 refine⟨⟨k A.rd K,A.ok,k A.lf K,k A.fr K,?_,A.ne⟩,k h.rb K,k h.rs K,k h.xb K,(λh=>by cases h),(λh=>by cases h),λ_ h=>(by cases h),λ_=>⟨⟨x.lab,u ov x.sub.length cv,x.sub⟩,rfl,rfl,go,gc,rfl,?_⟩,?_,h.lt⟩
 .have ht:∀i,W'.cell? (Z 0 i V)=W.cell? (Z 0 i V):=λi=>by
   have hb:=C.block 0 A.tab.lt (λe=>by
    have:=I.2.1 _ e.symm;have ag:g+3<=0:=this;exact absurd ag (by have:=h.lt.2.2.2.2.2.2.2;omega))
   simp only[mV,hb]
  exact⟨(ht 0).trans A.tab.a,(ht 1).trans A.tab.b,(ht 2).trans A.tab.c⟩
 .have q:=uK.a8V (x:=⟨x.lab,u ov x.sub.length cv,x.sub⟩) I aa C (E.imp id λe=>by omega) af (λc hc e=>by have:=ae c e;have:wk<=c:=hc;omega) h.lt.2.2.2.2.2.1
  refine uK.keep q (jB _) (λ_ _ _=>rfl) λc _ hc=> ?_
  rcases hc with hc|hc|hc
  .exact hc
  .have:wk<=c:=hc;show g+3<=c;omega
  .show g+3<=c
   rcases E with E|E
   .have:=I.2.1 go E;have:g+3<=go:=this;omega
   .omega
 .refine⟨C.os.trans h.up.os,C.tape.trans h.up.tape,C.output.trans h.up.output,jM h.up.size C.size,λc hc hb ah=>(C.block c (jZ hc h.up.size) λe=>J c K e.symm).trans (h.up.block c hc hb ah)⟩
def L7.put(h:L7 g cb lb fb kb wk r r2 l l2 k z ou nu cu tl ts xo xc L x w0 R R R O v4 v5 v6 W):L7 g cb lb fb kb wk r r2 l l2 k z ou nu cu tl ts xo xc L x w0 R R R R v4 v5 v6 (W.setCell (Z (g+2) 2 V) v6):=by
 have E:=h.lt;have o:∀{c:Nat}{cs:Array jC}{t:jX},nU W c cs t->c≠g+2->nU (W.setCell (Z (g+2) 2 V) v6) c cs t:=λh hn=>h.setOther (a:=(Z (g+2) 2 V)) hn _
 have A:=h.ly;obtain⟨e,e1,e2,go,gc,e3,e4⟩:=h.fin rfl;refine⟨⟨o A.rd K,A.ok,o A.lf K,o A.fr K,?_,A.ne⟩,o h.rb K,o h.rs K,h.xb.set 2 v6,(λh=>by cases h),(λh=>by cases h),λ_ h=>(by cases h),λ_=>⟨e,e1,e2,go,gc,e3,uK.keep e4 (by simp[j5]) (λc hc C=> ?_) λ_ _ h=>h⟩,?_,h.lt⟩
 .have key:∀i,(W.setCell (Z (g+2) 2 V) v6).cell? (Z 0 i V)=W.cell? (Z 0 i V):=λi=>by
   have hb:=jW W (Z (g+2) 2 V) v6 0 (by show 0≠g+2;omega);simp only[mV,hb]
  exact⟨(key 0).trans A.tab.a,(key 1).trans A.tab.b,(key 2).trans A.tab.c⟩
 .have:g+3<=c:=C
  exact jW W (Z (g+2) 2 V) v6 c (by show c≠g+2;omega)
 .exact⟨h.up.os,h.up.tape,h.up.output,by simpa [j5]using h.up.size,λc hc hb C=>(jW W (Z (g+2) 2 V) v6 c (by show c≠g+2;omega)).trans (h.up.block c hc hb C)⟩
def L7.drew(h:L7 g cb lb fb kb wk r r2 l l2 k z ou nu cu tl ts xo xc L x w0 O O O O v4 v5 v6 W)(A C E:jC):L7 g cb lb fb kb wk r r2 l l2 k z ou nu cu tl ts xo xc L x w0 O O O O A C E W.drew:=
 ⟨h.ly.below (oM W),h.rb,h.rs,h.xb,λ_=>⟨(h.tb rfl).1,(h.tb rfl).2.1,Shape.om.below (h.tb rfl).2.2 (oM W)⟩,λ_=>⟨uK.keep (h.own rfl).1 (jB _) (λ_ _ _=>rfl) λ_ _ h=>h,(h.own rfl).2⟩,(λh=>by cases h),(λh=>by cases h),h.up.drew,h.lt⟩
end
noncomputable def Nn:List lJ:=cO (cR (cR (cR (cL (cL (cR (cR (cL (cL (cR (cL (cR (cR (cB Tryz.f249))))))))))))))
section
variable (g cb lb fb kb wk:Nat)(r r2:RS)(l l2:Nat)(k z:Int)(ou:Option kW)(nu cu:Nat)(tl:Int)(ts:List (nS TL))(xo:Option kW)(xc:Nat)(L:List (qA IL))(x:nS IL)(w0:M)
def JC:Nat->jC
 |0=> nG (U (Z (g+2) 2 V))
 |1=> u xo L.length xc
 |2=> nI #[Cx cb,El cb,EU cb,DJ cb,Cy fb,nG (U (Z lb 0 V))]
 |3=> nI #[Y X k,Y X z,u ou nu cu,Y X tl]
 |7=> nG (U (Z (g+2) 2 V))
 |_=>ku
structure b0p(D:Nat->Bool)(vs:Nat->jC)(w:M):Prop where
 oU:L7 g cb lb fb kb wk r r2 l l2 k z ou nu cu tl ts xo xc L x w0 (D 4) (D 5) (D 6) (D 8) (vs 4) (vs 5) (vs 6) w
 val:∀j,(j !=4&&j !=5&&j !=6)=R->D j=R->vs j=JC g cb lb fb k z ou nu cu tl xo xc L j
variable {g cb lb fb kb wk r r2 l l2 k z ou nu cu tl ts xo xc L x w0}
def a6I{id:Nat}{Q:Exit->Act->M->Prop}{ai:M}(GA:a0.tmps.getD 7 ku=nG (U (Z (g+2) 0 V)))(ht3:a0.tmps.getD 3 ku=nG (U (Z g 0 V)))(LG:a0.tmps.getD 9 ku=nG (U (Z kb 0 V)))(hval:∀W,Cz cb lb fb r l W->oW cb lb w0 W->oD.om W (Xe cb lb) (u ou nu cu) ts->jG jy 211 #[nI #[Cx cb,El cb,EU cb,DJ cb,Cy fb,nG (U (Z lb 0 V))],nI #[Y X k,Y X z,u ou nu cu,Y X tl]] W (Qb cb lb fb (x,r2,l2) W))(hsz:a0.tmps.size=40)(hI0:∀vs:Nat->jC,(λw=>L7 g cb lb fb kb wk r r2 l l2 k z ou nu cu tl ts xo xc L x w0 O O O O (vs 4) (vs 5) (vs 6) w) ai.drew)(aj:∀(vs:Nat->jC) (w:M),L7 g cb lb fb kb wk r r2 l l2 k z ou nu cu tl ts xo xc L x w0 R R R R (vs 4) (vs 5) (vs 6) w->Q .normal {a0 with tmps:=((((((((a0.tmps.setIfInBounds 30 (nG (U (Z (g+2) 2 V)))).setIfInBounds 31 (u xo L.length xc)).setIfInBounds 32 (nI #[Cx cb,El cb,EU cb,DJ cb,Cy fb,nG (U (Z lb 0 V))])).setIfInBounds 33 (nI #[Y X k,Y X z,u ou nu cu,Y X tl])).setIfInBounds 34 (vs 4)).setIfInBounds 35 (vs 5)).setIfInBounds 36 (vs 6)).setIfInBounds 37 (nG (U (Z (g+2) 2 V))))} w):
  (kT id Nn.toArray R).wp jy Q a0 ai:=by
 refine oF 9 40 (b0p g cb lb fb kb wk r r2 l l2 k z ou nu cu tl ts xo xc L x w0) nV hsz nV (.inl rfl) nV ?_ ?_ ?_;.exact q9
 .refine sM λA aB=> ?_
  clear hI0 aj hsz;replace GA:=H GA;replace ht3:=H ht3;replace LG:=H LG;replace hval:=H hval;dsimp+instances only[Nn,cO,cL,cR,cB,Tryz.f249];simp only[jY,kJ,rZ];refine⟨?_,?_,?_,?_,?_,?_,?_,?_,?_,trivial⟩<;>(intro D vs a w am hI hd I E J N;subst aB;dsimp+instances only[Nn,cO,cL,cR,cB,Tryz.f249]);have aC:=(J 7 nT).trans GA.out;rotate_left;have ak:=fe J hI.val I 30 0;simp only[JC]at ak;have C:=hI.oU;rw[E 8 nT nV]at C;have c0:=C.xb.cell 2;simp only[lS,if_false,jV,jS,jT]at c0;clear C;rotate_left;have e3:=(J 3 nT).trans ht3.out;have hB:=hI.oU.rb;have c0:=hB.cell 0;have c1:=hB.cell 1;have c2:=hB.cell 2;have c3:=hB.cell 3;have c4:=hB.cell 4;have c5:=hB.cell 5;simp only[Gz,jV,jS,jT]at c0 c1 c2 c3 c4 c5;clear hB;rotate_left;have aL:=(J 9 nT).trans LG.out;have hB:=(hI.oU.tb (E 4 nT nV)).1;obtain⟨⟨c0,c1,c2,c3⟩,_⟩:=oN hB;clear hB;rotate_left
  .have hval:=hval.out
   have au:=fe J hI.val I 32 2;have av:=fe J hI.val I 33 3;simp only[JC]at au av;have C:=hI.oU;rw[hd,E 5 nT nV,E 6 nT nV,E 8 nT nV]at C;have aD:=hval w C.ly C.up (C.tb rfl).2.2;rw[AC (by rfl)];clear hval;go_simp;refine aD.mono ?_;rintro e aF ⟨ov,cv,rfl,hl,hs,af⟩;refine N _ _ _ rfl ⟨?_,QY rfl hI.val⟩;rw[oH,nZ D (show 5≠4 by decide),nZ D (show 6≠4 by decide),nZ D (show 8≠4 by decide),qz,oG vs _ (show 5≠4 by decide),oG vs _ (show 6≠4 by decide),E 5 nT nV,E 6 nT nV,E 8 nT nV];exact C.call hl hs af
  .have d4:=I 4 nT nV
   have aa:a.tmps.getD 34 ku=vs 4:=J 34 nT;have C:=hI.oU;rw[hd,d4,E 6 nT nV,E 8 nT nV]at C;obtain⟨ov,cv,e4,_⟩:=C.sub rfl rfl;have aa:=aa.trans e4;have aG:a.tmps[34]?.getD ku=nI #[G (txt x.lab),nH x.lab.list,u ov x.sub.length cv]:=by simpa using aa
   go_simp;refine N (u (U (Z w.heap.size 0 V)) 1 1) _ _ rfl ⟨?_,QY rfl hI.val⟩;rw[oH,nZ D (show 4≠5 by decide),nZ D (show 6≠5 by decide),nZ D (show 8≠5 by decide),qz,oG vs _ (show 4≠5 by decide),oG vs _ (show 6≠5 by decide),d4,E 6 nT nV,E 8 nT nV];exact C.box e4
  .have ag:=fe J hI.val I 31 1
   have d5:=I 5 nT nV;have ax:a.tmps.getD 35 ku=vs 5:=J 35 nT;simp only[JC]at ag;have C:=hI.oU;rw[hd,I 4 nT nV,d5,E 8 nT nV]at C;obtain⟨ov,cv,e4,aM,ay⟩:=C.sub rfl rfl;obtain⟨nb,e5,hB⟩:=ay rfl;obtain⟨aH,aN⟩:=C.own rfl;have hlt:=C.lt;refine zn ZQ rfl (.tmp 31) (.tmp 35) rfl (y:=⟨x.lab,u ov x.sub.length cv,x.sub⟩) ag aH.1 (ax.trans e5) hB rfl (by intro ao af;simp[QZ]at af;rcases af with rfl|rfl|rfl<;>rfl) K (ko _) ?_;intro go gc aF aI aJ aK aO;refine N _ _ _ rfl ⟨?_,QY rfl hI.val⟩;rw[oH,nZ D (show 4≠6 by decide),nZ D (show 5≠6 by decide),nZ D (show 8≠6 by decide),qz,oG vs _ (show 4≠6 by decide),oG vs _ (show 5≠6 by decide),I 4 nT nV,d5,E 8 nT nV];exact C.app e4 aI aJ aK
  have aC:=(J 7 nT).trans GA.out;rotate_left
  .have d6:=I 6 nT nV
   have ah:a.tmps.getD 36 ku=vs 6:=J 36 nT;have az:=fe J hI.val I 37 7;simp only[JC]at az;have C:=hI.oU;rw[hd,I 4 nT nV,I 5 nT nV,d6]at C;have c0:=C.xb.cell 2;have aP:=C.xb.free 2;obtain⟨e,_,_,go,gc,aA,_⟩:=C.fin rfl;have ah:=ah.trans aA;simp only[lS,if_false,jV,jS,jT]at c0;go_simp;refine N ku _ _ rfl ⟨?_,vM hI.val⟩;rw[oH,nZ D (show 4≠8 by decide),nZ D (show 5≠8 by decide),nZ D (show 6≠8 by decide),oG vs _ (show 4≠8 by decide),oG vs _ (show 5≠8 by decide),oG vs _ (show 6≠8 by decide),I 4 nT nV,I 5 nT nV,d6];rw[<-aA];exact C.put
  all_goals
   go_simp;exact N _ _ _ rfl ⟨hI.oU,vM hI.val⟩
 .intro D vs w ae hI
  have I:=hI.oU;rw[ae 4 nT]at I;rw[ae 5 nT]at I;rw[ae 6 nT]at I;rw[ae 8 nT]at I;have q:=aj vs w I;rw[pE hI.val ae];dsimp+instances only[Nn,cO,cL,cR,cB,Tryz.f249];exact q8
end
structure Xf(g cb lb fb:Nat)(r:RS)(l:Nat)(w0:M)(xo:Option kW)(xc:Nat)(L:List (qA IL))(W:M):Prop where
 ly:Cz cb lb fb r l W
 rb:nU W g (Gz cb lb fb) G9
 rs:nU W (g+1) #[G ⟨#[]⟩,nH O,u V 0 0] IT
 xb:nU W (g+2) #[G ⟨#[]⟩,nH R,u xo L.length xc] IT
 own:uK W (λc=>g+3<=c) (u xo L.length xc) L
 up:oW cb lb w0 W
 lt:cb<g/\lb<g/\fb<g/\w0.heap.size=g/\0<g
section
variable {g cb lb fb:Nat}{r r':RS}{l l':Nat}{w0 W W':M}{xo:Option kW}{xc:Nat}{L:List (qA IL)}
def Xf.below(h:Xf g cb lb fb r l w0 xo xc L W)(hb:jD W.heap.size W W'):Xf g cb lb fb r l w0 xo xc L W':=
 ⟨h.ly.below hb,Below.blk hb h.rb h.rb.lt,Below.blk hb h.rs h.rs.lt,Below.blk hb h.xb h.xb.lt,uK.keep h.own hb.size (λc hc _=>hb.block c hc) λ_ _ h=>h,h.up.trans (oW.of hb),h.lt⟩
def SB(h:Xf g cb lb fb r l w0 xo xc L W):nU (qa W (g+1) (G ⟨#[]⟩) (nH R) (u xo L.length xc)) (g+1) #[G ⟨#[]⟩,nH R,u xo L.length xc] IT/\
  Cz cb lb fb r l (qa W (g+1) (G ⟨#[]⟩) (nH R) (u xo L.length xc))/\oo (qa W (g+1) (G ⟨#[]⟩) (nH R) (u xo L.length xc)) (λc=>g<=c) (u xo L.length xc) (L.map qA.tree)/\
  oW cb lb w0 (qa W (g+1) (G ⟨#[]⟩) (nH R) (u xo L.length xc)):=by
 have I:=h.lt;have C:∀c,c≠g+1->(qa W (g+1) (G ⟨#[]⟩) (nH R) (u xo L.length xc)).heap[c]? =W.heap[c]? :=λc hc=>by
  simp[qa,j5,kU,nz hc]
 have hs:(qa W (g+1) (G ⟨#[]⟩) (nH R) (u xo L.length xc)).heap.size=W.heap.size:=by simp[qa,j5]
 have o:∀{c:Nat}{cs:Array jC}{t:jX},nU W c cs t->c≠g+1->nU (qa W (g+1) (G ⟨#[]⟩) (nH R) (u xo L.length xc)) c cs t:=λh hn=>by unfold nU at*;rw[C _ hn];exact h
 have A:=h.ly;refine⟨((h.rs.set 0 _).set 1 _).set 2 _,⟨o A.rd K,A.ok,o A.lf K,o A.fr K,?_,A.ne⟩,?_,?_⟩
 .have key:∀i,(qa W (g+1) (G ⟨#[]⟩) (nH R) (u xo L.length xc)).cell? (Z 0 i V)=W.cell? (Z 0 i V):=λi=>by
   simp only[mV,C 0 K]
  exact⟨(key 0).trans A.tab.a,(key 1).trans A.tab.b,(key 2).trans A.tab.c⟩
 .have q:=uK.subs h.own
  refine Shape.om.keep (by simpa using q) (lZ hs.symm) (λc _ hc=>by have:g+3<=c:=hc;show g<=c;omega) λc _ hc=>C c (by have:g+3<=c:=hc;omega)
 .exact⟨h.up.os,h.up.tape,h.up.output,by rw[hs];exact h.up.size,λc hc hb E=>(C c K).trans (h.up.block c hc hb E)⟩
def Xf.of7{kb wk:Nat}{r2:RS}{l2:Nat}{k z:Int}{ou:Option kW}{nu cu:Nat}{tl:Int}{ts:List (nS TL)}{x:nS IL}{v4 v5 v6:jC}(h:L7 g cb lb fb kb wk r r2 l l2 k z ou nu cu tl ts xo xc L x w0 R R R R v4 v5 v6 W):
  ∃(e:qA IL) (go:Option kW) (gc:Nat),e.tree=x/\Xf g cb lb fb r2 l2 w0 go gc (L++[e]) W:=by
 obtain⟨e,e1,e2,go,gc,e3,e4⟩:=h.fin rfl;have A:=h.lt;subst e3;have hl:(L++[e]).length=L.length+1:=nX;refine⟨e,U (Z go 0 V),gc,by unfold qA.tree;rw[e1,e2];exact nS.eta x,⟨h.ly,h.rb,h.rs,?_,?_,h.up,K⟩⟩;.rw[hl];exact h.xb
 .rw[hl];exact e4
def Xf.to7(h:Xf g cb lb fb r l w0 xo xc L W){wk:Nat}(r2:RS)(l2:Nat)(k z:Int)(ou:Option kW)(nu cu:Nat)(tl:Int)(ts:List (nS TL))(x:nS IL)(E:oD.om W (Xe cb lb) (u ou nu cu) ts)(hL:L.length<=100000)(J:x.lab.text.length<=jN)(C:W.heap.size=wk)(v4 v5 v6:jC):
  L7 g cb lb fb wk wk r r2 l l2 k z ou nu cu tl ts xo xc L x w0 O O O O v4 v5 v6 (W.alloc (nL #[Y X k,Y X z,u ou nu cu,Y X tl] sN)):=by
 have hb:=(jE W.heap.size W).alloc (jB _) (nL #[Y X k,Y X z,u ou nu cu,Y X tl] sN);have A:=h.lt;have N:=h.xb.lt;have q:=h.below hb;have hn:=nU.new W #[Y X k,Y X z,u ou nu cu,Y X tl] sN;rw[C]at hn;exact⟨q.ly,q.rb,q.rs,q.xb,λ_=>⟨hn,nY,Shape.om.below E hb⟩,λ_=>⟨q.own,λb I=>C▸(h.own.1.block b I).2.1⟩,(λh=>by cases h),(λh=>by cases h),q.up,⟨A.1,A.2.1,A.2.2.1,K,hL,J,A.2.2.2.1,A.2.2.2.2⟩⟩
end
def Z8(h:p:=by
 subst hW;have a1:=(jE w.heap.size w).alloc (jB _) (nL (Gz cb lb fb) G9);have a2:=a1.alloc nX (nL #[G ⟨#[]⟩,nH O,u V 0 0] IT);have a3:=a2.alloc nY (nL #[G ⟨#[]⟩,nH R,u V 0 0] IT);have k1:=nU.new w (Gz cb lb fb) G9;have k2:=nU.new (w.alloc (nL (Gz cb lb fb) G9)) #[G ⟨#[]⟩,nH O,u V 0 0] IT;have k3:=nU.new ((w.alloc (nL (Gz cb lb fb) G9)).alloc (nL #[G ⟨#[]⟩,nH O,u V 0 0] IT)) #[G ⟨#[]⟩,nH R,u V 0 0] IT;rw[show(w.alloc (nL (Gz cb lb fb) G9)).heap.size=g+1 by simp[hg]]at k2;rw[show((w.alloc (nL (Gz cb lb fb) G9)).alloc (nL #[G ⟨#[]⟩,nH O,u V 0 0] IT)).heap.size=g+2 by simp[hg]]at k3;rw[hg]at k1;exact⟨hI.below a3,(k1.alloc _).alloc _,k2.alloc _,k3,uK.nil _ _,oW.of a3,⟨K,K,K,hg,hg▸hI.tab.lt⟩⟩):p:=h
def a5w(h:p:=by
 obtain⟨k,r',l',xo,xc,L,rfl,hk,HJ⟩:=hrel;by_cases c:k<n
 .obtain⟨t,ht⟩:∃t,ts[k]? =U t:=⟨_,jL (by rw[HN.out];exact c)⟩
  have hdr:ts.drop k=t::ts.drop (k+1):=by
   obtain⟨h1,h2⟩:=lu.1 ht;rw[nA h1,h2]
  have HST:jI (pR f (ts.drop k) r' l'=if(t.2=R\/r'.p<r'.t.size)/\r'.f=0 then((f t.1 r' l').1::(pR f (ts.drop (k+1)) (f t.1 r' l').2.1 (f t.1 r' l').2.2).1,(pR f (ts.drop (k+1)) (f t.1 r' l').2.1 (f t.1 r' l').2.2).2)else([],r',l')):=H (by rw[hdr];rfl);have CO:=H (HOF wr r' l' HJ.1.up HJ.1.ly k t ht);have HM:jI (t∈ts):=H (kE ht);clear ht hdr;have HJ1:=H HJ.1;have HLY:=H HJ.2;clear HJ;go_wp2_with fail;refine CO.mono ?_;rintro e w2 ⟨ou,cu,rfl,hs,hb⟩;have HJ2:=H (HJ1.below hb);have HS:=H hs;clear hb hs CO HJ1;have HFD:∀W,xg W cb r'->_:=λW h=>qD cb r' W h
  obtain⟨b,hbb⟩:=og ((t.2||At (r'.p<r'.t.size)));have HB:=H hbb;rw[hbb];clear hbb;cases b with
  |false=>
   have Sc:jI (ab=(L.map qA.tree,r',l')):=H (by
    rw[HLY.2,HST.out,As];.simp
    .intro h
     have h2:=HB.out;simp only[Bool.or_eq_false_iff,decide_eq_false_iff_not]at h2;rcases h.1 with h3|h3
     .rw[h3]at h2;cases h2.1
     .exact h2.2 h3)
   go_upto_region 6 with fail;have hJ3:=HJ2.below ((jE _ _).alloc (jB _) (nL #[Y X t.1.lab.kind,Y X t.1.lab.size,u ou t.1.sub.length cu,Y X t.1.lab.tail] sN));generalize w2.alloc _=w3 at*;have SC:=H hJ3;clear hJ3 HJ2 HS;obtain⟨x0,x1,x2⟩:=SC.xb.a3;obtain⟨y0,y1,y2,z0,z1,z2⟩:=SC.rs.b3;go_wp2_with fail;rw[qy];obtain⟨hb,hl,hs,hu⟩:=SB SC.out;obtain⟨d0,d1,d2⟩:=hb.a3;refine jO (v:=nI #[G ⟨#[]⟩,nH R,u xo L.length xc]) (by simp[kF,Tryz.results249,go_sem,d0,d1,d2]) rfl ?_;rw[Sc.out];exact⟨xo,xc,nX,hl,by rw[hg];simpa using hs,hu⟩
  |true=>
   go_upto_region 6 with fail;have hJ3:=HJ2.below ((jE _ _).alloc (jB _) (nL #[Y X t.1.lab.kind,Y X t.1.lab.size,u ou t.1.sub.length cu,Y X t.1.lab.tail] sN));have h7:=λr2 l2 x hx hL=>HJ2.to7 r2 l2 t.1.lab.kind t.1.lab.size ou t.1.sub.length cu t.1.lab.tail t.1.sub x HS hL hx rfl
   generalize w2.alloc _=w3 at*;generalize w2.heap.size=kb at*;have SC:=H hJ3;have H7:=H h7;clear hJ3 HJ2 HS h7;have c2:=SC.rb.cell 2;simp only[Gz,jV,jS,jT]at c2;unfold EU at c2;go_wp2_with fail;refine(HFD _ SC.ly.rd).mono ?_;rintro e w4 ⟨rfl,rfl⟩;by_cases hf:r'.f=0
   .have t0:(r'.f !=0)=O:=by simp[hf]
    have HF:=H hf;clear hf HFD;go_upto_region 7 with fail;have hx:=HTX.out t.1 r' l' SC.ly.ok.1.2;have HL:jI (L.length<=100000):=H (by rw[HLY.1];omega);have HVC:=H (a6J t HM);have HY2:jI (ab=(L.map qA.tree++((f t.1 r' l').1::(pR f (ts.drop (k+1)) (f t.1 r' l').2.1 (f t.1 r' l').2.2).1),(pR f (ts.drop (k+1)) (f t.1 r' l').2.1 (f t.1 r' l').2.2).2)):=H (by
     rw[HLY.2,HST.out,AC];refine⟨?_,HF.out⟩;have h2:=HB.out;simp only[Bool.or_eq_true,decide_eq_true_eq]at h2;exact h2)
    have HLK:=H HLY.1;clear HLY HST HB HTX a6J HOF;have a6K:jI (∀W ou cu,oW cb lb w W->Cz cb lb fb r' l' W->_->_):=H λW ou cu=>HVC.out W r' l' ou cu
    clear HVC;obtain⟨⟨x,r2,l2⟩,hy⟩:∃y,f t.1 r' l'=y:=⟨_,rfl⟩;simp only[hy]at a6K HY2 hx;clear hy
    refine a6I (g:=g) (cb:=cb) (lb:=lb) (fb:=fb) (kb:=kb) (wk:=kb) (r:=r') (r2:=r2) (l:=l') (l2:=l2) (k:=t.1.lab.kind) (z:=t.1.lab.size) (ou:=ou) (nu:=t.1.sub.length) (cu:=cu) (tl:=t.1.lab.tail) (ts:=t.1.sub) (xo:=xo) (xc:=xc) (L:=L) (x:=x) (w0:=w)
     (GA:=by rfl) (ht3:=by rfl) (LG:=by rfl) (hsz:=by rfl) (hval:=λW hl hu hs=>a6K.out W ou cu hu hl hs) (hI0:=λvs=>(H7 r2 l2 x hx HL (vs 4) (vs 5) (vs 6)).drew _ _ _) ?_
    intro vs W hW;obtain⟨e,go,gc,he,hJ5⟩:=Xf.of7 hW;have HJ5:=H hJ5;clear hW hJ5 SC H7 a6K;generalize vs 4=v4;generalize vs 5=v5;generalize vs 6=v6;simp only[jH,jQ,jR];have HXE:jI (e.tree=x):=H he;clear he hx;go_wp2;go_roundw;case rel=>exact⟨k+1,r2,l2,go,gc,L++[e],by go_num,K,H ⟨HJ5.out,by rw[jK,HLK.out];rfl,by rw[HY2.out];simp[HXE.out]⟩⟩
    case measure=>simp[kC];omega
   .have t0:(r'.f !=0)=R:=by simp[hf]
    have Sc:jI (ab=(L.map qA.tree,r',l')):=H (by
     rw[HLY.2,HST.out,As λh=>hf h.2];simp)
    clear hf HFD;obtain⟨x0,x1,x2⟩:=SC.xb.a3;obtain⟨y0,y1,y2,z0,z1,z2⟩:=SC.rs.b3;go_wp2_with fail;rw[qy];obtain⟨hb,hl,hs,hu⟩:=SB SC.out;obtain⟨d0,d1,d2⟩:=hb.a3;refine jO (v:=nI #[G ⟨#[]⟩,nH R,u xo L.length xc]) (by simp[kF,Tryz.results249,go_sem,d0,d1,d2]) rfl ?_;rw[Sc.out];exact⟨xo,xc,nX,hl,by rw[hg];simpa using hs,hu⟩
 .have Sc:jI (ab=(L.map qA.tree,r',l')):=H (by
   rw[HJ.2.2,List.drop_eq_nil_of_le (by rw[HN.out];omega)];simp[pR])
  have SC:=H HJ.1;clear HJ;obtain⟨x0,x1,x2⟩:=SC.xb.a3;obtain⟨y0,y1,y2,z0,z1,z2⟩:=SC.rs.b3;go_wp2_with fail;rw[qy];obtain⟨hb,hl,hs,hu⟩:=SB SC.out;obtain⟨d0,d1,d2⟩:=hb.a3;refine jO (v:=nI #[G ⟨#[]⟩,nH R,u xo L.length xc]) (by simp[kF,Tryz.results249,go_sem,d0,d1,d2]) rfl ?_;rw[Sc.out];exact⟨xo,xc,nX,hl,by rw[hg];simpa using hs,hu⟩):p:=h
def Xg(cb lb fb tb rb:Nat)(r:RS)(l:Nat)(ts:List (nS TL×Bool))(f:nS TL->RS->Nat->RdV)(w:M)(hI:Cz cb lb fb r l w)(hn:ts.length<=65536)(aa:cb<w.heap.size/\lb<w.heap.size/\fb<w.heap.size)(E:∀W r' l',oW cb lb w W->Cz cb lb fb r' l' W->∀(i:Nat) (t:nS TL×Bool),ts[i]? =U t->jG jy 250 #[Y X (i:Nat),nG (U (Z tb 0 V))] W (FC (Xe cb lb) t.1 (t.2||At (r'.p<r'.t.size)) W))(hval:∀t,t∈ts->∀W r' l' ou cu,oW cb lb w W->Cz cb lb fb r' l' W->oD.om W (Xe cb lb) (u ou t.1.sub.length cu) t.1.sub->jG jy 211 #[nI #[Cx cb,El cb,EU cb,DJ cb,Cy fb,nG (U (Z lb 0 V))],nI #[Y X t.1.lab.kind,Y X t.1.lab.size,u ou t.1.sub.length cu,Y X t.1.lab.tail]] W (Qb cb lb fb (f t.1 r' l') W))(I:∀t r l,r.t.size<=100000->(f t r l).1.lab.text.length<=jN):
  jG jy 249 #[nI #[Cx cb,El cb,EU cb,DJ cb,Cy fb,nG (U (Z lb 0 V))],Y X (ts.length:Nat),.func (.func 250) #[] #[nG (U (Z tb 0 V))]] w (a5v cb lb fb (pR f ts r l) w):=by
 obtain⟨g,hg⟩:=og w.heap.size;have A:jI (∀W,((w.alloc (nL #[Cx cb,El cb,EU cb,DJ cb,Cy fb,nG (U (Z lb 0 V))] G9)).alloc (nL #[G ⟨#[]⟩,nH O,u V 0 0] IT)).alloc (nL #[G ⟨#[]⟩,nH R,u V 0 0] IT)=W->Xf g cb lb fb r l w V 0 [] W):=H λW hW=>by
  exact Z8
 have HOF:=H E;have a6J:=H hval;have HTX:=H I;obtain⟨n,C⟩:=og ts.length;have HN:=H C;rw[C]at hn|-;obtain⟨ab,N⟩:=og (pR f ts r l);have af:=H N;rw[N];clear hI E hval I C aa N;unfold Cx El EU DJ Cy at A;unfold Cx El EU DJ Cy;go_in;go_upto_region 2 with fail;have J:=A.out _ rfl;generalize ((w.alloc _).alloc _).alloc _=w1 at*;have ae:=H J;clear A J;go_wp2_with fail;go_loopw [13] (λkv ag=>∃(k:Nat) (r':RS) (l':Nat) (xo:Option kW) (xc:Nat) (L:List (qA IL)),kv=Y X k/\k<=n/\jI (Xf g cb lb fb r' l' w xo xc L ag/\L.length=k/\ab=(L.map qA.tree++(pR f (ts.drop k) r' l').1,(pR f (ts.drop k) r' l').2))) (λkv _=>n -(kC kv).toNat);case atStart=>exact⟨0,r,l,V,0,[],rfl,K,H ⟨ae.out,rfl,by rw[<-af.out];simp⟩⟩
 case round=>
  exact a5w
def Xh(cb lb fb tb rb:Nat)(r:RS)(l:Nat)(ts:List (nS TL×Bool))(f:nS TL->RS->Nat->RdV)(w:M)(hI:Cz cb lb fb r l w)(hn:ts.length<=65536)(aa:cb<w.heap.size/\lb<w.heap.size/\fb<w.heap.size)(E:∀W r' l',oW cb lb w W->Cz cb lb fb r' l' W->∀(i:Nat) (t:nS TL×Bool),ts[i]? =U t->jG jy 251 #[Y X (i:Nat),nG (U (Z tb 0 V)),nG (U (Z rb 0 V))] W (FC (Xe cb lb) t.1 (t.2||At (r'.p<r'.t.size)) W))(hval:∀t,t∈ts->∀W r' l' ou cu,oW cb lb w W->Cz cb lb fb r' l' W->oD.om W (Xe cb lb) (u ou t.1.sub.length cu) t.1.sub->jG jy 211 #[nI #[Cx cb,El cb,EU cb,DJ cb,Cy fb,nG (U (Z lb 0 V))],nI #[Y X t.1.lab.kind,Y X t.1.lab.size,u ou t.1.sub.length cu,Y X t.1.lab.tail]] W (Qb cb lb fb (f t.1 r' l') W))(I:∀t r l,r.t.size<=100000->(f t r l).1.lab.text.length<=jN):
  jG jy 249 #[nI #[Cx cb,El cb,EU cb,DJ cb,Cy fb,nG (U (Z lb 0 V))],Y X (ts.length:Nat),.func (.func 251) #[] #[nG (U (Z tb 0 V)),nG (U (Z rb 0 V))]] w (a5v cb lb fb (pR f ts r l) w):=by
 obtain⟨g,hg⟩:=og w.heap.size;have A:jI (∀W,((w.alloc (nL #[Cx cb,El cb,EU cb,DJ cb,Cy fb,nG (U (Z lb 0 V))] G9)).alloc (nL #[G ⟨#[]⟩,nH O,u V 0 0] IT)).alloc (nL #[G ⟨#[]⟩,nH R,u V 0 0] IT)=W->Xf g cb lb fb r l w V 0 [] W):=H λW hW=>by
  exact Z8
 have HOF:=H E;have a6J:=H hval;have HTX:=H I;obtain⟨n,C⟩:=og ts.length;have HN:=H C;rw[C]at hn|-;obtain⟨ab,N⟩:=og (pR f ts r l);have af:=H N;rw[N];clear hI E hval I C aa N;unfold Cx El EU DJ Cy at A;unfold Cx El EU DJ Cy;go_in;go_upto_region 2 with fail;have J:=A.out _ rfl;generalize ((w.alloc _).alloc _).alloc _=w1 at*;have ae:=H J;clear A J;go_wp2_with fail;go_loopw [13] (λkv ag=>∃(k:Nat) (r':RS) (l':Nat) (xo:Option kW) (xc:Nat) (L:List (qA IL)),kv=Y X k/\k<=n/\jI (Xf g cb lb fb r' l' w xo xc L ag/\L.length=k/\ab=(L.map qA.tree++(pR f (ts.drop k) r' l').1,(pR f (ts.drop k) r' l').2))) (λkv _=>n -(kC kv).toNat);case atStart=>exact⟨0,r,l,V,0,[],rfl,K,H ⟨ae.out,rfl,by rw[<-af.out];simp⟩⟩
 case round=>
  exact a5w
structure GD(g cb lb fb:Nat)(r:RS)(l:Nat)(k z:Int)(ou:Option kW)(nu cu:Nat)(tl:Int)(s:List (nS TL))(w0:M)(rc:Array jC)(W:M):Prop where
 ly:Cz cb lb fb r l W
 rb:nU W g (Gz cb lb fb) G9
 tb:nU W (g+1) #[Y X k,Y X z,u ou nu cu,Y X tl] sN
 rs:nU W (g+2) rc IT
 sub:oD.om W (λc=>Xe cb lb c/\c<g) (u ou nu cu) s
 up:oW cb lb w0 W
 lt:cb<g/\lb<g/\fb<g/\w0.heap.size=g/\0<g
def Ck:Array jC:=#[G ⟨#[]⟩,nH O,u V 0 0]
section
variable {g cb lb fb:Nat}{r r':RS}{l l':Nat}{k z:Int}{ou:Option kW}{nu cu:Nat}{tl:Int}{s:List (nS TL)}{w0 W W':M}{rc:Array jC}
def GD.SE(h:GD g cb lb fb r l k z ou nu cu tl s w0 rc W)(hl:Cz cb lb fb r' l' W')(A:oW cb lb W W'):GD g cb lb fb r' l' k z ou nu cu tl s w0 rc W':=by
 have E:=h.lt;exact⟨hl,A.blk h.rb K K,A.blk h.tb K K,A.blk h.rs K K,Shape.om.keep h.sub A.size (λ_ _ h=>h) λc hc C=>A.block c hc C.1.1 C.1.2,h.up.trans A,h.lt⟩
def GD.below(h:GD g cb lb fb r l k z ou nu cu tl s w0 rc W)(hb:jD W.heap.size W W'):GD g cb lb fb r l k z ou nu cu tl s w0 rc W':=h.SE (h.ly.below hb) (oW.of hb)
def GD.turn(h:GD g cb lb fb r l k z ou nu cu tl s w0 rc W)(A:pX cb W W')(C:xg W' cb r')(hk:QX r r'):GD g cb lb fb r' l k z ou nu cu tl s w0 rc W':=
 h.SE (h.ly.turn A C ⟨hk.ok h.ly.ok.1.1,by rw[hk.t];exact h.ly.ok.1.2⟩) (yG A)
def GD.C8(h:GD g cb lb fb r l k z ou nu cu tl s w0 rc W)(m:Nat)(A:m<=1024):GD g cb lb fb r m k z ou nu cu tl s w0 rc (W.setCell (Z lb 0 V) (Y X (m:Nat))):=h.SE (h.ly.C8 m A) ((oW.refl cb lb W).Q6 0 _)
def GD.put(h:GD g cb lb fb r l k z ou nu cu tl s w0 Ck W)(a b c:jC):GD g cb lb fb r l k z ou nu cu tl s w0 #[a,b,c] (qa W (g+2) a b c):=by
 have I:=h.lt;have C:∀d,d≠g+2->(qa W (g+2) a b c).heap[d]? =W.heap[d]? :=λd hd=>by simp[qa,j5,kU,nz hd]
 have hs:(qa W (g+2) a b c).heap.size=W.heap.size:=by simp[qa,j5]
 have o:∀{d:Nat}{cs:Array jC}{t:jX},nU W d cs t->d≠g+2->nU (qa W (g+2) a b c) d cs t:=λh hn=>by unfold nU at*;rw[C _ hn];exact h
 have A:=h.ly;have key:∀i,(qa W (g+2) a b c).cell? (Z 0 i V)=W.cell? (Z 0 i V):=λi=>by
  simp only[mV,C 0 K]
 refine⟨⟨o A.rd K,A.ok,o A.lf K,o A.fr K,⟨(key 0).trans A.tab.a,(key 1).trans A.tab.b,(key 2).trans A.tab.c⟩,A.ne⟩,o h.rb K,o h.tb K,((h.rs.set 0 a).set 1 b).set 2 c,?_,?_,h.lt⟩;.exact Shape.om.keep h.sub (lZ hs.symm) (λ_ _ h=>h) λc _ E=>C c (by have:=E.2;omega)
 .exact⟨h.up.os,h.up.tape,h.up.output,by rw[hs];exact h.up.size,λd hd hb E=>(C d K).trans (h.up.block d hd hb E)⟩
def GD.drew(h:GD g cb lb fb r l k z ou nu cu tl s w0 rc W):GD g cb lb fb r l k z ou nu cu tl s w0 rc W.drew:=h.below (oM W)
end
def a3L(s:An)(w:M):jG jy 93 #[G s] w λe w'=>∃er:Int,e=nK (nJ #[Y nN (Bi s),Y X er])/\w=w':=by
 unfold Bi;by_cases h0:s.size=0
 .rw[As K]
  exact(xJ s w h0).mono λe w' h=>⟨1,h⟩
 .by_cases A:s.size<=8
  .rw[AC K]
   exact(um s w K A).mono λe w' h=>⟨0,h⟩
  .rw[As K]
   exact(Db s w K).mono λe w' h=>⟨5,h⟩
def a6L(b:An):(⟨b.data.toList.toArray⟩:An)=b:=by cases b;simp
noncomputable def H5:List lJ:=cO (cL (cL (cR (cR (cR (cR (cR (cL (cR (cL (cR (cR (cR (cB Tryz.f211))))))))))))))
section
variable (g cb lb fb:Nat)(r r1 r2:RS)(l:Nat)(k:Int)(m n1:Nat)(T:An)(ou:Option kW)(nu cu:Nat)(tl:Int)(s:List (nS TL))(w0:M)
def uE:Nat->jC
 |0=> nG (U (Z g 0 V))
 |1=>Cx cb
 |2=> nG (U (Z g 4 V))
 |3=>Cy fb
 |4=> nG (U (Z (g+1) 1 V))
 |5=> Y X m
 |6=> Y X n1
 |7=> G T
 |8=> nI #[G T,nH O,u V 0 0]
 |_=>ku
structure Z9(D:Nat->Bool)(vs:Nat->jC)(w:M):Prop where
 oU:GD g cb lb fb (if(D 7)=R then r2 else if(D 6)=R then r1 else r) l k m ou nu cu tl s w0 (if(D 9)=R then#[G T,nH O,u V 0 0]else Ck) w
 val:∀j,(R)=R->D j=R->vs j=uE g cb fb m n1 T j
variable {g cb lb fb r r1 r2 l k m n1 T ou nu cu tl s w0}
def a0a{D:Nat->Bool}{vs:Nat->jC}{w w':M}(h:Z9 g cb lb fb r r1 r2 l k m n1 T ou nu cu tl s w0 D vs w){i:Nat}(hi:i≠6/\i≠7/\i≠9)(A:GD g cb lb fb (if(D 7)=R then r2 else if(D 6)=R then r1 else r) l k m ou nu cu tl s w0 (if(D 9)=R then#[G T,nH O,u V 0 0]else Ck) w->GD g cb lb fb (if(D 7)=R then r2 else if(D 6)=R then r1 else r) l k m ou nu cu tl s w0 (if(D 9)=R then#[G T,nH O,u V 0 0]else Ck) w'):Z9 g cb lb fb r r1 r2 l k m n1 T ou nu cu tl s w0 (Aw D i) (Ay vs i (uE g cb fb m n1 T i)) w':=by
 refine⟨?_,vM h.val⟩;rw[nZ D (show 6≠i by omega)];rw[nZ D (show 7≠i by omega)];rw[nZ D (show 9≠i by omega)];exact A h.oU
def a3M{id:Nat}{Q:Exit->Act->M->Prop}{ai:M}(ht2:a0.tmps.getD 2 ku=nG (U (Z g 0 V)))(ht3:a0.tmps.getD 3 ku=nG (U (Z (g+1) 0 V)))(FI:∀W,Cz cb lb fb r l W->jG jy 209 #[Y X m,nG (U (Z fb 0 V))] W λe w'=>e=nK (Y X n1)/\Cz cb lb fb r1 l w'/\pX cb W w')(htake:∀W,xg W cb r1->jG jy 145 #[nG (U (Z cb 0 V)),Y X n1] W (AO cb W r2 (G T)))(hk2:QX r1 r2)(GZ:a0.tmps.getD 4 ku=nG (U (Z (g+2) 0 V)))(hsz:a0.tmps.size=74)(hI0:∀vs:Nat->jC,(λw=>GD g cb lb fb (if O=R then r2 else if O=R then r1 else r) l k m ou nu cu tl s w0 (if O=R then#[G T,nH O,u V 0 0]else Ck) w) ai.drew)(aj:∀(vs:Nat->jC) (w:M),GD g cb lb fb (if R=R then r2 else if R=R then r1 else r) l k m ou nu cu tl s w0 (if R=R then#[G T,nH O,u V 0 0]else Ck) w->Q .normal {a0 with tmps:=(((((((((a0.tmps.setIfInBounds 48 (nG (U (Z g 0 V)))).setIfInBounds 49 (Cx cb)).setIfInBounds 50 (nG (U (Z g 4 V)))).setIfInBounds 51 (Cy fb)).setIfInBounds 52 (nG (U (Z (g+1) 1 V)))).setIfInBounds 53 (Y X m)).setIfInBounds 54 (Y X n1)).setIfInBounds 55 (G T)).setIfInBounds 56 (nI #[G T,nH O,u V 0 0]))} w):
  (kT id H5.toArray R).wp jy Q a0 ai:=by
 refine oF 10 74 (Z9 g cb lb fb r r1 r2 l k m n1 T ou nu cu tl s w0) nV hsz nV (.inl rfl) nV ?_ ?_ ?_;.exact q9
 .refine sM λA aC=> ?_
  clear hI0 aj hsz;replace ht2:=H ht2;replace ht3:=H ht3;replace FI:=H FI;replace htake:=H htake;replace hk2:=H hk2;replace GZ:=H GZ;dsimp+instances only[H5,cO,cL,cR,cB,Tryz.f211];simp only[jY,kJ,rZ];refine⟨?_,?_,?_,?_,?_,?_,?_,?_,?_,?_,trivial⟩<;>(intro D vs a w am hI hd E J C N;subst aC;dsimp+instances only[H5,cO,cL,cR,cB,Tryz.f211]);have e2:=(C 2 nT).trans ht2.out;rotate_left;have ak:=fe C hI.val E 48 0;simp only[uE]at ak;have hB:=hI.oU.rb;have c0:=hB.cell 0;simp only[Gz,jV,jS,jT]at c0;clear hB;rotate_left;have e2:=(C 2 nT).trans ht2.out;rotate_left;have au:=fe C hI.val E 50 2;simp only[uE]at au;have hB:=hI.oU.rb;have c0:=hB.cell 4;simp only[Gz,jV,jS,jT]at c0;clear hB;rotate_left;have e3:=(C 3 nT).trans ht3.out;rotate_left;have av:=fe C hI.val E 52 4;simp only[uE]at av;have hB:=hI.oU.tb;have c0:=hB.c1;clear hB;rotate_left
  .have FI:=FI.out
   have ae:=fe C hI.val E 51 3;have ax:=fe C hI.val E 53 5;simp only[uE]at ae ax;have I:=hI.oU;rw[hd,J 7 nT nV,J 9 nT nV]at I;have aD:=FI w I.ly;clear FI;unfold Cy at ae;rw[AC (by rfl)];go_simp;refine aD.mono ?_;rintro e ay ⟨rfl,hl,ag⟩;refine N (uE g cb fb m n1 T 6) _ _ rfl ⟨?_,vM hI.val⟩;rw[oH,nZ D (show 7≠6 by decide),nZ D (show 9≠6 by decide),J 7 nT nV,J 9 nT nV];exact I.SE hl (yG ag)
  .have htake:=htake.out
   have hk2:=hk2.out;have af:=fe C hI.val E 49 1;have az:=fe C hI.val E 54 6;simp only[uE]at af az;have I:=hI.oU;rw[hd,E 6 nT nV,J 9 nT nV]at I;have ah:=htake w I.ly.rd;clear htake;unfold Cx at af;rw[AC (by rfl)];go_simp;refine ah.mono ?_;rintro e ay ⟨rfl,ag,aF⟩;refine N (uE g cb fb m n1 T 7) _ _ rfl ⟨?_,vM hI.val⟩;rw[oH,nZ D (show 6≠7 by decide),nZ D (show 9≠7 by decide),J 9 nT nV];exact I.turn ag aF hk2
  .have aA:=fe C hI.val E 55 7
   simp only[uE]at aA;have ah:=FB T w;rw[AC (by rfl)];go_simp;refine ah.mono ?_;rintro e ay ⟨rfl,hb⟩;exact N (uE g cb fb m n1 T 8) _ _ rfl (a0a hI (i:=8) nT λh=>h.below hb)
  .have e4:=(C 4 nT).trans GZ.out
   have aB:=fe C hI.val E 56 8;simp only[uE]at aB;have I:=hI.oU;rw[hd,E 7 nT nV]at I;have hB:=I.rs;have z0:=hB.cell 0;have aG:=hB.cell 1;have aH:=hB.cell 2;obtain⟨aI,f1,f2⟩:=hB.f3;simp only[Ck,lS,if_false,jV,jS,jT]at z0 aG aH;clear hB;go_simp;rw[qy];refine N ku _ _ rfl ⟨?_,vM hI.val⟩;rw[oH,nZ D (show 6≠9 by decide),nZ D (show 7≠9 by decide),E 7 nT nV];exact GD.put I _ _ _
  all_goals
   go_simp;exact N _ _ _ rfl ⟨hI.oU,vM hI.val⟩
 .intro D vs w aa hI
  have E:=hI.oU;rw[aa 6 nT]at E;rw[aa 7 nT]at E;rw[aa 9 nT]at E;have q:=aj vs w E;rw[pE hI.val aa];dsimp+instances only[H5,cO,cL,cR,cB,Tryz.f211];exact q8
end
def wK(w:M)(Q:Nat->Prop):oo w Q (u V 0 0) []:=⟨V,0,rfl,jB _,ko _,λh=>absurd h nX⟩
def U6(r:RS)(n:Int):(r.take n).2.size<=r.t.size:=by
 unfold RS.take;split
 .split
  .exact ko _
  .split
   .exact ko _
   .simp only[jP];omega
 .exact ko _
def JD:∀(d:Nat)(t:nS TL)(r:RS)(l:Nat),r.t.size<=100000->(pJ d t r l).1.lab.text.length<=jN
 |0,t,r,l,h=>by show([]:List Ax).length<=jN;decide
 |d+1,.node a s,r,l,h=>by
  have A:(100000:Nat)<=jN:=nT;have ht:∀b:An,b.size<=100000->(uy b).lab.text.length<=jN:=λb hb=>by
   show b.data.toList.length<=jN;have:b.data.toList.length=b.size:=nX;omega
  have h0:(uy ⟨#[]⟩).lab.text.length<=jN:=nT;unfold pJ;split;.exact h0
  .split
   .show(AB _).reverse.length<=jN
    have:=AX 8 _ (jZ (Ho (r.take a.size).2) nT);rw[List.length_reverse];omega
   .split
    .exact ht _ (jM (U6 _ _) h)
    .split
     .exact ht _ (jM (U6 _ _) (by rw[Sk];exact h))
     .split
      .cases s with
       |nil=>exact h0
       |cons t ts=>show([]:List Ax).length<=jN;decide
      .show([]:List Ax).length<=jN;decide
def a3N(d:Nat)(a:TL)(s:List (nS TL))(r:RS):pJ (d+1) (.node a s) r 0=(uy ⟨#[]⟩,r.fail 4,0):=by unfold pJ;rw[AC rfl]
def a3O(d m:Nat)(a:TL)(s:List (nS TL))(r:RS)(h:a.kind=1):pJ (d+1) (.node a s) r (m+1)=(zS (Bi (r.take a.size).2),(r.take a.size).1,m):=by unfold pJ;rw[As K,AC h];rfl
def a3P(d m:Nat)(a:TL)(s:List (nS TL))(r:RS)(h:a.kind=2):pJ (d+1) (.node a s) r (m+1)=(uy (r.take a.size).2,(r.take a.size).1,m):=by unfold pJ;rw[As K,As K,AC h];rfl
def a3Q(d m:Nat)(a:TL)(s:List (nS TL))(r:RS)(h:a.kind=3):pJ (d+1) (.node a s) r (m+1)=(uy ((r.comp a.size.toNat).1.take (r.comp a.size.toNat).2).2,((r.comp a.size.toNat).1.take (r.comp a.size.toNat).2).1,m):=by
 unfold pJ;rw[As K,As K,As K,AC h];rfl
def a3R(d m:Nat)(a:TL)(t:nS TL)(r:RS)(h:a.kind=4):pJ (d+1) (.node a [t]) r (m+1)=(sG (pR (pJ d) (ky (r.comp a.size.toNat).2 (t,R)) (r.comp a.size.toNat).1 m).1,(pR (pJ d) (ky (r.comp a.size.toNat).2 (t,R)) (r.comp a.size.toNat).1 m).2):=by
 unfold pJ;rw[As K,As K,As K,As K,AC h];rfl
def a3S(d m:Nat)(a:TL)(s:List (nS TL))(r:RS)(h:a.kind=5):pJ (d+1) (.node a s) r (m+1)=(sG (pR (pJ d) (uV s a.tail) r m).1,(pR (pJ d) (uV s a.tail) r m).2):=by
 unfold pJ;rw[As K,As K,As K,As K,As K];rfl
def Bn{g cb lb fb:Nat}{r:RS}{l:Nat}{k z:Int}{ou:Option kW}{nu cu:Nat}{tl:Int}{s:List (nS TL)}{w0 W:M}{a b c:jC}(h:GD g cb lb fb r l k z ou nu cu tl s w0 #[a,b,c] W):
  (W.cell? (Z (g+2) 0 V)=U a/\W.cell? (Z (g+2) 1 V)=U b/\W.cell? (Z (g+2) 2 V)=U c)/\W.frozen? (Z (g+2) 0 V)=O/\W.frozen? (Z (g+2) 1 V)=O/\W.frozen? (Z (g+2) 2 V)=O:=
 ⟨⟨h.rs.cell 0,h.rs.cell 1,h.rs.cell 2⟩,h.rs.free 0,h.rs.free 1,h.rs.free 2⟩
def a3T(r:RS)(m:Nat)(A:m<=65536):(r.comp m).2<=65536:=by
 by_cases hf:(r.comp m).1.f=0;.have:=BN hf;omega
 .exact ZI
def a0b(h:p:=by
 have b0t:=H hs;clear hl hu hs CL;dsimp only at*;obtain⟨⟨y0,y1,y2⟩,f0,f1,f2⟩:=Bn U7.out;go_wp2_with fail;rw[qy];have hF:=U7.put (G ⟨#[]⟩) (nH R) (u ov ys.length cv);obtain⟨⟨d0,d1,d2⟩,_⟩:=Bn hF;refine jO (v:=nI #[G ⟨#[]⟩,nH R,u ov ys.length cv]) (by simp[kF,Tryz.results211,go_sem,d0,d1,d2]) rfl ?_;rw[HYE.out];refine⟨ov,cv,rfl,hF.ly,?_,hF.up⟩;refine Shape.om.keep b0t (by simp[qa,j5]) (λc _ hc=>by have:=HS.out c hc;show w.heap.size<=c;omega) λc _ hc=> ?_
 have:=HS.out c hc;simp[qa,j5,kU,show g+2≠c by omega,show¬g+2=c by omega]):p:=h
def a0c(h:p:=by
 obtain⟨⟨d0,d1,d2⟩,_⟩:=Bn hF;refine jO (v:=nI #[G T,nH O,u V 0 0]) (by simp[kF,Tryz.results211,go_sem,d0,d1,d2]) rfl ?_;rw[HYE.out];exact⟨V,0,by show _=kZ (nI #[G (⟨T.data.toList.toArray⟩:An),nH O,u V 0 0]);rw[a6L],hF.ly,wK _ _,hF.up⟩):p:=h
def Xi:∀(d:Nat)(t:nS TL)(cb lb fb:Nat)(r:RS)(l:Nat)(w:M)(ou:Option kW)(cu:Nat),t.deep<=d->t.all oJ=R->Cz cb lb fb r l w->(cb<w.heap.size/\lb<w.heap.size/\fb<w.heap.size)->oD.om w (Xe cb lb) (u ou t.sub.length cu) t.sub->
  jG jy 211 #[nI #[Cx cb,El cb,EU cb,DJ cb,Cy fb,nG (U (Z lb 0 V))],nI #[Y X t.lab.kind,Y X t.lab.size,u ou t.sub.length cu,Y X t.lab.tail]] w (Qb cb lb fb (pJ d t r l) w):=by
 intro d;induction d with
 |zero=>intro t cb lb fb r l w ou cu hd;exact absurd (nS.IY t) K
 |succ d aX=>
  intro t cb lb fb r l w ou cu hd I hI aY ax;obtain⟨⟨k,z,tl⟩,s⟩:=t;simp only[nS.o9,nS.rE]at*;have aK:nS.pz s<=d:=by simp only[nS.deep]at hd;omega
  simp only[nS.all,jJ]at I;obtain⟨aL,aM⟩:=I;unfold oJ qo at aL;simp only[decide_eq_true_eq]at aL;obtain⟨g,hg⟩:=og w.heap.size;obtain⟨n,hn⟩:=og s.length;have ay:jI (∀W,((w.alloc (nL #[Cx cb,El cb,EU cb,DJ cb,Cy fb,nG (U (Z lb 0 V))] G9)).alloc (nL #[Y X k,Y X z,u ou n cu,Y X tl] sN)).alloc (nL #[G ⟨#[]⟩,nH O,u V 0 0] IT)=W->GD g cb lb fb r l k z ou n cu tl s w Ck W):=H λW bF=>by
   subst bF;have ah:=(jE w.heap.size w).alloc (jB _) (nL (Gz cb lb fb) G9);have a2:=ah.alloc nX (nL #[Y X k,Y X z,u ou n cu,Y X tl] sN);have a3:=a2.alloc nY (nL #[G ⟨#[]⟩,nH O,u V 0 0] IT);have aZ:=nU.new w (Gz cb lb fb) G9;have bg:=nU.new (w.alloc (nL (Gz cb lb fb) G9)) #[Y X k,Y X z,u ou n cu,Y X tl] sN;have bq:=nU.new ((w.alloc (nL (Gz cb lb fb) G9)).alloc (nL #[Y X k,Y X z,u ou n cu,Y X tl] sN)) #[G ⟨#[]⟩,nH O,u V 0 0] IT;rw[show(w.alloc (nL (Gz cb lb fb) G9)).heap.size=g+1 by simp[hg]]at bg;rw[show((w.alloc (nL (Gz cb lb fb) G9)).alloc (nL #[Y X k,Y X z,u ou n cu,Y X tl] sN)).heap.size=g+2 by simp[hg]]at bq;rw[hg]at aZ;rw[hn]at ax;exact⟨hI.below a3,(aZ.alloc _).alloc _,bg.alloc _,bq,Shape.om.keep ax a3.size (λc hc ai=>⟨ai,hg▸hc⟩) λc hc _=>a3.block c hc,oW.of a3,⟨K,K,K,hg,hg▸hI.tab.lt⟩⟩
  obtain⟨ab,aV⟩:∃ab,pJ (d+1) (.node ⟨k,z,tl⟩ s) r l=ab:=⟨_,rfl⟩;have J:=H aV;rw[aV,hn];have aj:=H aX;have aN:=H aM;have aO:=H aK;have bu:=H hn;have aP:=H (λW I=>uO cb r 4 W I);have bN:=hI.ok.2;clear hI ax aV aX hd aM aK aY;unfold Cx El EU DJ Cy at ay;unfold Cx El EU DJ Cy;obtain⟨au,af⟩:∃au:Int,(l:Int)=au:=⟨_,rfl⟩;go_in;go_upto_region 1 with fail;have ae:=ay.out _ rfl;generalize ((w.alloc _).alloc _).alloc _=w1 at*;have ag:=H ae;have c5:w1.cell? (Z g 5 V)=U (nG (U (Z lb 0 V))):=ae.rb.cell 5;have c1:w1.cell? (Z g 1 V)=U (El cb):=ae.rb.cell 1;have cl:w1.cell? (Z lb 0 V)=U (Y X au):=af▸ae.ly.lf.cell 0;have bG:=ae.ly.lf.free 0;unfold El at c1;clear ay ae;cases l with
  |zero=>
   have t0:At (au<=0)=R:=by rw[<-af];rfl
   have HYE:jI (ab=(uy ⟨#[]⟩,r.fail 4,0)):=H (by rw[<-J.out];exact a3N _ _ _ _);clear af J;go_wp2_with fail;refine(aP _ ag.ly.rd).mono ?_;rintro e w2 ⟨rfl,hu,I⟩;have A:=H (ag.turn hu I (Ef r 4));clear hu I ag;obtain⟨⟨y0,y1,y2⟩,f0,f1,f2⟩:=Bn A.out;go_wp2_with fail;rw[qy];have hF:=A.put (G ⟨#[]⟩) (nH O) (u V 0 0);obtain⟨⟨d0,d1,d2⟩,_⟩:=Bn hF;refine jO (v:=nI #[G ⟨#[]⟩,nH O,u V 0 0]) (by simp[kF,Tryz.results211,go_sem,d0,d1,d2]) rfl ?_;rw[HYE.out];exact⟨V,0,rfl,hF.ly,wK _ _,hF.up⟩
  |succ m=>
   have t0:At (au<=0)=O:=by rw[<-af];simp
   have bz:IntKind.i64.wrap (au - 1)=(m:Int):=by rw[IntWalk.i64_in _ K];omega
   clear af;go_upto_region 5 with fail;have aQ:=ag.C8 m K;generalize w1.setCell _ _=w2 at*;have A:=H aQ;clear aQ ag t0 bz c5 c1 cl bG aP;have b0:w2.cell? (Z g 0 V)=U (Cx cb):=A.rb.cell 0;have b4:w2.cell? (Z g 4 V)=U (Cy fb):=A.rb.cell 4;have a0:w2.cell? (Z (g+1) 0 V)=U (Y X k):=A.tb.cell 0;have ah:w2.cell? (Z (g+1) 1 V)=U (Y X z):=A.tb.cell 1;unfold Cx at b0;unfold Cy at b4;have hk:k=1\/k=2\/k=3\/k=4\/k=5:=K;rcases hk with rfl|rfl|rfl|rfl|rfl
   .have HYE:jI (ab=(zS (Bi (r.take z).2),(r.take z).1,m)):=H (by rw[<-J.out];exact a3O _ _ _ _ _ rfl)
    have az:=H (λW I=>qJ cb r z W A.ly.ok.1.1 I);have aA:=H (wI r z);have bA:=H (Ho (r.take z).2);clear J;go_wp2_with fail;refine(az _ A.ly.rd).mono ?_;rintro e w3 ⟨rfl,hu,I⟩;have C:=H (A.turn hu I aA);clear hu I A az aA b0 b4 a0 ah;generalize r.take z=y at*;obtain⟨r2,T⟩:=y;dsimp only at*;have bB:=H (a3L T);go_wp2_with fail;refine(bB _).mono ?_;rintro e w4 ⟨er,rfl,rfl⟩;have aB:=H (λW=>Nc (Bi T) W ⟨(AB (Bi T)).reverse.toArray⟩ λbH=>Lr (Bi T) bH bA);clear bB;generalize Bi T=bI at*;go_wp2_with fail;refine(aB _).mono ?_;rintro e w5 ⟨rfl,hb⟩;have U7:=H (C.below hb);clear hb C aB;obtain⟨aI,aC⟩:∃aI,(⟨(AB bI).reverse.toArray⟩:An)=aI:=⟨_,rfl⟩;rw[aC];have aR:=H aC;clear aC;obtain⟨⟨y0,y1,y2⟩,f0,f1,f2⟩:=Bn U7.out;go_wp2_with fail;rw[qy];have hF:=U7.put (G aI) (nH O) (u V 0 0);obtain⟨⟨d0,d1,d2⟩,_⟩:=Bn hF;refine jO (v:=nI #[G aI,nH O,u V 0 0]) (by simp[kF,Tryz.results211,go_sem,d0,d1,d2]) rfl ?_;rw[HYE.out];rw[<-aR.out];rw[<-aR.out]at hF;exact⟨V,0,rfl,hF.ly,wK _ _,hF.up⟩
   .have HYE:jI (ab=(uy (r.take z).2,(r.take z).1,m)):=H (by rw[<-J.out];exact a3P _ _ _ _ _ rfl)
    have az:=H (λW I=>qJ cb r z W A.ly.ok.1.1 I);have aA:=H (wI r z);clear J;go_wp2_with fail;refine(az _ A.ly.rd).mono ?_;rintro e w3 ⟨rfl,hu,I⟩;have C:=H (A.turn hu I aA);clear hu I A az aA b0 b4 a0 ah;generalize r.take z=y at*;obtain⟨r2,T⟩:=y;dsimp only at*;have aB:=H (FB T);go_wp2_with fail;refine(aB _).mono ?_;rintro e w5 ⟨rfl,hb⟩;have U7:=H (C.below hb);clear hb C aB;obtain⟨⟨y0,y1,y2⟩,f0,f1,f2⟩:=Bn U7.out;go_wp2_with fail;rw[qy];have hF:=U7.put (G T) (nH O) (u V 0 0);exact a0c
   .obtain⟨E,rfl⟩:∃E:Nat,z=E:=⟨z.toNat,K⟩
    have HYE:jI (ab=(uy ((r.comp E).1.take (r.comp E).2).2,((r.comp E).1.take (r.comp E).2).1,m)):=H (by rw[<-J.out];exact a3Q _ _ _ _ _ rfl);have FI:=λW h=>Ju cb lb fb m r E W h K
    have htake:=λW I=>qJ cb (r.comp E).1 (r.comp E).2 W (A.ly.ok.1.1.comp E) I
    have hk2:=wI (r.comp E).1 (r.comp E).2;clear J b0 b4 a0 ah;generalize r.comp E=y1 at*;obtain⟨r1,n1⟩:=y1;dsimp only at*;generalize r1.take n1=y at*;obtain⟨r2,T⟩:=y;dsimp only at*;have N:=H FI;have ak:=H htake;have aS:=H hk2;clear FI htake hk2;have a0:w2.cell? (Z (g+1) 0 V)=U (Y X 3):=A.tb.cell 0;go_upto_region 12 with fail;refine a3M (g:=g) (cb:=cb) (lb:=lb) (fb:=fb) (r:=r) (r1:=r1) (r2:=r2) (l:=m) (k:=3) (m:=E) (n1:=n1) (T:=T) (ou:=ou) (nu:=n) (cu:=cu) (tl:=tl) (s:=s) (w0:=w) (ht2:=by rfl) (ht3:=by rfl) (GZ:=by rfl) (hsz:=by rfl) (FI:=N.out) (htake:=ak.out) (hk2:=aS.out) (hI0:=λ_=>A.drew) ?_;intro vs W hF;simp only[if_true]at hF;simp only[jH,jQ,jR];have bJ:=H hF;clear hF A N ak aS a0;go_wp2_with fail;have hF:=bJ.out;exact a0c
   .have aT:s.length=1:=K
    obtain⟨aa,rfl⟩:=List.length_eq_one_iff.1 aT;clear aT;obtain⟨E,rfl⟩:∃E:Nat,z=E:=⟨z.toNat,K⟩;have HYE:jI (ab=(sG (pR (pJ d) (ky (r.comp E).2 (aa,R)) (r.comp E).1 m).1,(pR (pJ d) (ky (r.comp E).2 (aa,R)) (r.comp E).1 m).2)):=H (by rw[<-J.out];exact a3R _ _ _ _ _ rfl);have FI:=λW h=>Ju cb lb fb m r E W h K
    have N:=H FI;have aU:(r.comp E).2<=65536:=a3T r E K;clear J FI;generalize r.comp E=y1 at*;obtain⟨r1,n1⟩:=y1;dsimp only at*;have ht1:aa.all oJ=R/\aa.deep<=d:=by
     have av:=aN.out;have bK:=aO.out;simp only[nS.pF,Bool.and_true]at av;simp only[nS.pz]at bK;exact⟨av,K⟩
    have bC:=H aU;clear aU;go_wp2_with fail;refine(N _ A.ly).mono ?_;rintro e w3 ⟨rfl,hl,hu⟩;have C:=H (A.SE hl (yG hu));clear hl hu A N b0 b4 a0 ah;have aW:w3.cell? (Z g 0 V)=U (Cx cb):=C.rb.cell 0;have e1:w3.cell? (Z g 1 V)=U (El cb):=C.rb.cell 1;have e2:w3.cell? (Z g 2 V)=U (EU cb):=C.rb.cell 2;have e3:w3.cell? (Z g 3 V)=U (DJ cb):=C.rb.cell 3;have e4:w3.cell? (Z g 4 V)=U (Cy fb):=C.rb.cell 4;have e5:w3.cell? (Z g 5 V)=U (nG (U (Z lb 0 V))):=C.rb.cell 5;have hsz:g+3<=w3.heap.size:=C.rs.lt;have av:=C.lt;have hlen:(ky n1 (aa,R)).length=n1:=List.length_replicate
    have CL:=Xg cb lb fb (g+1) 0 r1 m (ky n1 (aa,R)) (pJ d) w3 C.ly (by rw[hlen];exact bC) ⟨K,K,K⟩
     (λW r' aD hu hl i t ht=>by
      obtain⟨_,rfl⟩:=List.mem_replicate.1 (kE ht);have hb:=hu.blk C.tb K K;have hs:oD.om W (Xe cb lb) (u ou n cu) [aa]:=Shape.om.keep C.sub hu.size (λ_ _ h=>h.1) λc hc ai=>hu.block c hc ai.1.1 ai.1.2
      exact a3y (g+1) i ⟨4,E,tl⟩ aa ou n cu [aa] (Xe cb lb) W hb hs rfl)
     (λt ht W r' aD aF aG hu hl hs=>by
      obtain⟨_,rfl⟩:=List.mem_replicate.1 ht;exact aj aa cb lb fb r' aD W aF aG ht1.2 ht1.1 hl ⟨by have:=hu.size;omega,by have:=hu.size;omega,by have:=hu.size;omega⟩ hs)
     (λt r l h=>JD d t r l h)
    rw[hlen]at CL;have CL:=H CL;clear hlen av hsz aj ht1;generalize pR (pJ d) (ky n1 (aa,R)) r1 m=y at*;obtain⟨ys,r2,l2⟩:=y;unfold Cx El EU DJ Cy at CL;unfold Cx at aW;unfold El at e1;unfold EU at e2;unfold DJ at e3;unfold Cy at e4;go_wp2_with fail;refine CL.mono ?_;rintro e w4 ⟨ov,cv,rfl,hl,hs,hu⟩;have U7:=H (C.SE hl hu);have HS:jI (∀c,w3.heap.size<=c->g+3<=c):=H λc hc=>by have:=C.rs.lt;omega
    exact a0b
   .have HYE:jI (ab=(sG (pR (pJ d) (uV s tl) r m).1,(pR (pJ d) (uV s tl) r m).2)):=H (by rw[<-J.out];exact a3S _ _ _ _ _ rfl)
    clear J b0 b4 ah;have aW:w2.cell? (Z g 0 V)=U (Cx cb):=A.rb.cell 0;have e1:w2.cell? (Z g 1 V)=U (El cb):=A.rb.cell 1;have e2:w2.cell? (Z g 2 V)=U (EU cb):=A.rb.cell 2;have e3:w2.cell? (Z g 3 V)=U (DJ cb):=A.rb.cell 3;have e4:w2.cell? (Z g 4 V)=U (Cy fb):=A.rb.cell 4;have e5:w2.cell? (Z g 5 V)=U (nG (U (Z lb 0 V))):=A.rb.cell 5;have bO:w2.cell? (Z (g+1) 2 V)=U (u ou n cu):=A.tb.cell 2;have hsz:g+3<=w2.heap.size:=A.rs.lt;have av:=A.lt;have hlen:(uV s tl).length=n:=by simp[uV,bu.out]
    have aH:∀{k:Nat}{aJ:nS TL×Bool},(uV s tl)[k]? =U aJ->s[k]? =U aJ.1/\aJ.2=At ((k:Int)<s.length - tl):=by
     intro k aJ hk';exact UQ
    have CL:=Xh cb lb fb (g+1) g r m (uV s tl) (pJ d) w2 A.ly (by rw[hlen];omega) ⟨K,K,K⟩
     (λW r' aD hu hl i t ht=>by
      obtain⟨bL,bM⟩:=aH ht;have hb:=hu.blk A.tb K K;have bD:=hu.blk A.rb K K;have hs:oD.om W (Xe cb lb) (u ou n cu) s:=Shape.om.keep A.sub hu.size (λ_ _ h=>h.1) λc hc ai=>hu.block c hc ai.1.1 ai.1.2
      rw[bM];exact a3B (g+1) g cb lb fb i r' ⟨5,z,tl⟩ t.1 ou n cu s (Xe cb lb) W hb bD hl.rd hl.ok.1.1 hs bL (by have:=bu.out;omega) (by dsimp only;omega))
     (λt ht W r' aD aF aG hu hl hs=>by
      obtain⟨i,hi⟩:=List.getElem?_of_mem ht;have bE:=kE (aH hi).1;exact aj t.1 cb lb fb r' aD W aF aG (jM (BO bE) aO) (zh aN bE) hl ⟨by have:=hu.size;omega,by have:=hu.size;omega,by have:=hu.size;omega⟩ hs)
     (λt r l h=>JD d t r l h)
    rw[hlen]at CL;have CL:=H CL;clear hlen av hsz aj aH;generalize pR (pJ d) (uV s tl) r m=y at*;obtain⟨ys,r2,l2⟩:=y;unfold Cx El EU DJ Cy at CL;unfold Cx at aW;unfold El at e1;unfold EU at e2;unfold DJ at e3;unfold Cy at e4;go_wp2_with fail;refine CL.mono ?_;rintro e w4 ⟨ov,cv,rfl,hl,hs,hu⟩;have U7:=H (A.SE hl hu);have HS:jI (∀c,w2.heap.size<=c->g+3<=c):=H λc hc=>by have:=A.rs.lt;omega
    exact a0b
structure LnI(g cb fb xb:Nat)(r:RS)(T:An)(li:Bool)(ov:Option kW)(n cv:Nat)(s:List (nS IL))(w0:M)(rc:Array jC)(W:M):Prop where
 rd:xg W cb r
 fr:nU W fb #[nG (U (Z cb 0 V))] 193
 xk:nU W xb #[G T,nH li,u ov n cv] IT
 rs:nU W (g+1) rc IT
 sub:oo W (λc=>g+2<=c) (u ov n cv) s
 ql:jD g w0 W
 lt:g+1<cb/\g+1<fb/\g+1<xb
section
variable {g cb fb xb:Nat}{r:RS}{T:An}{li:Bool}{ov:Option kW}{n cv:Nat}{s:List (nS IL)}{w0 W W':M}{rc:Array jC}
def LnI.drew(h:LnI g cb fb xb r T li ov n cv s w0 rc W):LnI g cb fb xb r T li ov n cv s w0 rc W.drew:=
 ⟨h.rd,h.fr,h.xk,h.rs,Shape.om.below h.sub (oM W),h.ql.trans ((oM W).mono (by have:=h.rs.lt;omega)),h.lt⟩
def LnI.put(h:LnI g cb fb xb r T li ov n cv s w0 Ck W)(a b c:jC):LnI g cb fb xb r T li ov n cv s w0 #[a,b,c] (qa W (g+1) a b c):=by
 have C:=h.lt;have A:∀d,d≠g+1->(qa W (g+1) a b c).heap[d]? =W.heap[d]? :=λd hd=>by simp[qa,j5,kU,nz hd]
 have hs:(qa W (g+1) a b c).heap.size=W.heap.size:=by simp[qa,j5]
 have o:∀{d:Nat}{cs:Array jC}{t:jX},nU W d cs t->d≠g+1->nU (qa W (g+1) a b c) d cs t:=λh hn=>by unfold nU at*;rw[A _ hn];exact h
 exact⟨o h.rd K,o h.fr K,o h.xk K,((h.rs.set 0 a).set 1 b).set 2 c,Shape.om.keep h.sub (lZ hs.symm) (λ_ _ h=>h) (λd _ hd=>A d (by have:g+2<=d:=hd;omega)),
  ((h.ql.setCell (p:=(Z (g+1) 0 V)) (kR g) _).setCell (p:=(Z (g+1) 1 V)) (kR g) _).setCell (p:=(Z (g+1) 2 V)) (kR g) _,h.lt⟩
end
noncomputable def Er:List lJ:=cO (cL (cR (cR (cR (cR (cR (cR (cR (cB Tryz.f170)))))))))
section
variable (g cb fb xb:Nat)(r:RS)(T:An)(li:Bool)(ov:Option kW)(n cv:Nat)(s:List (nS IL))(w0:M)
def Bo:Nat->jC
 |0=> nI #[G T,nH li,u ov n cv]
 |1=> nG (U (Z cb 0 V))
 |2=> Y X r.p
 |4=> Y X r.p
 |5=> Y X 0
 |_=>ku
structure a6M(D:Nat->Bool)(vs:Nat->jC)(w:M):Prop where
 oU:LnI g cb fb xb r T li ov n cv s w0 (if(D 3)=R then#[G T,nH li,u ov n cv]else Ck) w
 val:∀j,(R)=R->D j=R->vs j=Bo cb r T li ov n cv j
variable {g cb fb xb r T li ov n cv s w0}
def a0e{id:Nat}{Q:Exit->Act->M->Prop}{N:M}(a3V:a0.tmps.getD 12 ku=nG (U (Z xb 0 V)))(LG:a0.tmps.getD 9 ku=nG (U (Z fb 0 V)))(BR:a0.tmps.getD 6 ku=nG (U (Z (g+1) 0 V)))(hsz:a0.tmps.size=44)(hI0:∀vs:Nat->jC,(λw=>LnI g cb fb xb r T li ov n cv s w0 (if O=R then#[G T,nH li,u ov n cv]else Ck) w) N.drew)(aa:∀(vs:Nat->jC) (w:M),LnI g cb fb xb r T li ov n cv s w0 (if R=R then#[G T,nH li,u ov n cv]else Ck) w->Q .normal {a0 with tmps:=(((((a0.tmps.setIfInBounds 41 (nI #[G T,nH li,u ov n cv])).setIfInBounds 42 (nG (U (Z cb 0 V)))).setIfInBounds 43 (Y X r.p)).setIfInBounds 7 (Y X r.p)).setIfInBounds 8 (Y X 0))} w):
  (kT id Er.toArray R).wp jy Q a0 N:=by
 refine oF 6 44 (a6M g cb fb xb r T li ov n cv s w0) nV hsz nV (.inl rfl) nV ?_ ?_ ?_;.exact q9
 .refine sM λA ah=> ?_
  clear hI0 aa hsz;replace a3V:=H a3V;replace LG:=H LG;replace BR:=H BR;dsimp+instances only[Er,cO,cL,cR,cB,Tryz.f170];simp only[jY,kJ,rZ];refine⟨?_,?_,?_,?_,?_,?_,trivial⟩<;>(intro D vs a w am hI hd E au C I;subst ah;dsimp+instances only[Er,cO,cL,cR,cB,Tryz.f170]);have av:=(C 12 nT).trans a3V.out;have hB:=hI.oU.xk;obtain⟨c0,c1,c2⟩:=hB.a3;clear hB;rotate_left;have ay:=(C 9 nT).trans LG.out;have hB:=hI.oU.fr;have c0:=hB.c0;clear hB;rotate_left
  .have ae:=fe C hI.val E 42 1
   simp only[Bo]at ae;have ai:=VW cb r w hI.oU.rd;rw[AC (by rfl)];go_simp;refine ai.mono ?_;rintro e az ⟨rfl,rfl⟩;exact I (Bo cb r T li ov n cv 2) _ _ rfl ⟨hI.oU,vM hI.val⟩
  .have aA:=(C 6 nT).trans BR.out
   have af:=fe C hI.val E 41 0;simp only[Bo]at af;have J:=hI.oU;rw[hd]at J;have hB:=J.rs;have z0:=hB.cell 0;have aj:=hB.cell 1;have ak:=hB.cell 2;obtain⟨aB,f1,f2⟩:=hB.f3;simp only[Ck,lS,if_false,jV,jS,jT]at z0 aj ak;clear hB;go_simp;rw[qy];refine I ku _ _ rfl ⟨?_,vM hI.val⟩;rw[oH];exact LnI.put J _ _ _
  have ax:=fe C hI.val E 43 2;rotate_left;rotate_left
  all_goals
   try simp only[Bo]at*
   go_simp;exact I _ _ _ rfl ⟨hI.oU,vM hI.val⟩
 .intro D vs w ag hI
  have E:=hI.oU;rw[ag 3 nT]at E;have q:=aa vs w E;rw[pE hI.val ag];dsimp+instances only[Er,cO,cL,cR,cB,Tryz.f170];exact q8
end
def SF{B b q:Nat}{w0 w w':M}(h:jD B w0 w)(ao:oW b q w w')(hb:B<=b)(A:B<=q)(hB:B<=w.heap.size):jD B w0 w':=
 ⟨ao.os.trans h.os,ao.tape.trans h.tape,ao.output.trans h.output,jM h.size ao.size,λk hk=>(ao.block k K K K).trans (h.block k hk)⟩
def Np(ar:Except Nat (nS IL×Nat))(w:M)(e:Ending)(w':M):Prop:=jD w.heap.size w w'/\match ar with
 | .error er=>e=nK (nJ #[nI #[G ⟨#[]⟩,nH O,u V 0 0],Y X 0,Y X (er:Nat)])
 | .ok y=>∃ov cv,e=nK (nJ #[nI #[G (txt y.1.lab),nH y.1.lab.list,u ov y.1.sub.length cv],Y X (y.2:Nat),Y X 0])/\oo w' (λc=>w.heap.size+2<=c) (u ov y.1.sub.length cv) y.1.sub
def a5x{r r':RS}(h:0<=r.f):∀n x m,0<=(r.take n).1.f/\(0<=x->0<=(r.fail x).f)/\0<=(r.comp m).1.f:=by
 intro n x m;refine⟨RS.wo r n h,λA=>RS.zH r A h,?_⟩;unfold RS.comp;split
 .generalize rQ (r.t.data.toList.drop r.p)=q
  dsimp only;split;.exact Int.le_refl _
  .exact Int.natCast_nonneg _
 .exact h
def JE{f:nS TL->RS->Nat->RdV}(A:∀t r l,0<=r.f->0<=(f t r l).2.1.f):∀(ts:List (nS TL×Bool))(r:RS)(l:Nat),0<=r.f->0<=(pR f ts r l).2.1.f
 |[],r,l,h=>h
 |t::ts,r,l,h=>by
  unfold pR;split;.exact JE A ts _ _ (A _ _ _ h)
  .exact h
def Bp:∀(d:Nat)(t:nS TL)(r:RS)(l:Nat),0<=r.f->0<=(pJ d t r l).2.1.f
 |0,_,r,l,h=>RS.zH r nT h
 |d+1,.node a s,r,l,h=>by
  unfold pJ;split;.exact RS.zH r nT h
  .split
   .exact RS.wo _ _ h
   .split
    .exact RS.wo _ _ h
    .split
     .exact RS.wo _ _ (a5x (r':=r) h 0 0 _).2.2
     .split
      .cases s with
       |nil=>exact RS.zH r nT h
       |cons t ts=>exact JE (Bp d) _ _ _ (a5x (r':=r) h 0 0 _).2.2
      .exact JE (Bp d) _ _ _ h
def a0f(h:p:=by
 subst hW;have a1:=(jE w.heap.size w).alloc (jB _) (nL #[Y X t.lab.kind,Y X t.lab.size,u ou t.sub.length cu,Y X t.lab.tail] sN);have a2:=a1.alloc nX (nL #[G ⟨#[]⟩,nH O,u V 0 0] IT);have k1:=nU.new w #[Y X t.lab.kind,Y X t.lab.size,u ou t.sub.length cu,Y X t.lab.tail] sN;have k2:=nU.new (w.alloc (nL #[Y X t.lab.kind,Y X t.lab.size,u ou t.sub.length cu,Y X t.lab.tail] sN)) #[G ⟨#[]⟩,nH O,u V 0 0] IT;rw[show(w.alloc (nL #[Y X t.lab.kind,Y X t.lab.size,u ou t.sub.length cu,Y X t.lab.tail] sN)).heap.size=g+1 by simp[hg]]at k2;rw[hg]at k1;exact⟨k1.alloc _,k2,hg▸a2,by simp[hg]⟩):p:=h
def a0g(t:nS TL)(s:An)(items:Int)(w:M)(ou:Option kW)(cu:Nat)(ay:o6 w (u ou t.sub.length cu) t.sub)(bB:qK w)(az:xW w)(ak:(nS.pF p0 t.sub&&qc t)=R)(hs:s.size<=100000)(hi:0<=items/\items<=1024):
  jG jy 170 #[nI #[Y X t.lab.kind,Y X t.lab.size,u ou t.sub.length cu,Y X t.lab.tail],G s,Y X items] w (Np (Jn t s items) w):=by
 have aA:qc t=R:=by simp only[jJ]at ak;exact ak.2
 have A:=aA;unfold qc at A;simp only[jJ,decide_eq_true_eq]at A;obtain⟨g,hg⟩:=og w.heap.size;have aR:=bB.lt;have bC:jI (∀W,jD g w W->_):=H λW h=>Fz t W (u ou t.sub.length cu) (Shape.om.below ay (hg.symm▸h)) (bB.below (hg.symm▸h) aR)
 rw[ak]at bC;obtain⟨left,au⟩:∃left:Nat,items=left:=⟨items.toNat,K⟩;have aB:(min items 1024).toNat=left:=K;obtain⟨ab,aP⟩:=og (pJ 8 t (RS.of s) left);have aC:jI (Jn t s items=if ab.2.1.f≠0 then .error ab.2.1.f.toNat else .ok (ab.1,ab.2.1.p)):=H (by unfold Jn;rw[aB,aP]);have bK:jI (0<=ab.2.1.f):=H (aP▸Bp 8 t (RS.of s) left (Int.le_refl _));have aS:jI (∀W cb lb fb,jD g w W->Cz cb lb fb (RS.of s) left W->(cb<W.heap.size/\lb<W.heap.size/\fb<W.heap.size)->g<=cb->g<=lb->jG jy 211 #[nI #[Cx cb,El cb,EU cb,DJ cb,Cy fb,nG (U (Z lb 0 V))],nI #[Y X t.lab.kind,Y X t.lab.size,u ou t.sub.length cu,Y X t.lab.tail]] W (Qb cb lb fb ab W)):=H λW cb lb fb hb hl hc aQ av=>by
  rw[<-aP];exact Xi 8 t cb lb fb (RS.of s) left W ou cu A.1.2 A.2 hl hc (Shape.om.keep ay (hg▸hb.size:w.heap.size<=W.heap.size) (λc bL _=>⟨K,K⟩) λc bL _=>hb.block c K)
 have aT:jI (∀W,jD g w W->xW W):=H λW hb=>xY az (oW.of (b:=g) (q:=g) (hg.symm▸hb)) (by have:=az.lt;omega) (by have:=az.lt;omega)
 have bM:jI (0<g):=H (hg▸az.lt);have aU:jI (∀W,(w.alloc (nL #[Y X t.lab.kind,Y X t.lab.size,u ou t.sub.length cu,Y X t.lab.tail] sN)).alloc (nL #[G ⟨#[]⟩,nH O,u V 0 0] IT)=W->nU W g #[Y X t.lab.kind,Y X t.lab.size,u ou t.sub.length cu,Y X t.lab.tail] sN/\nU W (g+1) Ck IT/\jD g w W/\W.heap.size=g+2):=H λW hW=>by
  exact a0f
 have aV:jI (∀W,jG jy 144 #[G s] W λe w'=>e=nK (nG (U (Z W.heap.size 0 V)))/\jD W.heap.size W w'/\W.heap.size<w'.heap.size/\xg w' W.heap.size (RS.of s)):=H (AP s);have aW:jI (((RS.of s).Ok/\(RS.of s).t.size<=100000)/\left<=1024):=H ⟨⟨RS.Ok.of K,hs⟩,K⟩;have dh:(if items<=1024 then items else 1024)=(left:Int):=by rw[AC hi.2,au]
 have bV:min items 1024=(left:Int):=K;obtain⟨bD,aX⟩:=og (Jn t s items);rw[aX]at aC|-;obtain⟨bW,bE⟩:=og (Np bD w);have bN:=H bE;rw[bE];clear bE;subst au;clear ay bB az ak hs hi aA A aR aB aP aX;generalize t.lab.kind=k at*;generalize t.lab.size=z at*;generalize t.lab.tail=tl at*;generalize t.sub.length=n at*;go_in;go_upto_region 1 with fail;obtain⟨aD,aY,aZ,bg⟩:=aU.out _ rfl;generalize (w.alloc _).alloc _=w1 at*;obtain⟨⟨t0,bO,bP,t3⟩,_⟩:=oN aD;have J:=H (jF aD (jF aY (jF aZ bg)));clear aU aD aY aZ bg;go_wp2_with fail;refine(bC _ J.2.2.1).mono ?_;rintro e w2 ⟨rfl,aa⟩;have C:jI (nU w2 g #[Y X k,Y X z,u ou n cu,Y X tl] sN/\nU w2 (g+1) Ck IT/\jD g w w2/\g+2<=w2.heap.size):=H ⟨Below.blk aa J.1 J.1.lt,Below.blk aa J.2.1 J.2.1.lt,J.2.2.1.trans (aa.mono (by have:=J.2.2.2;omega)),by have:=aa.size;have:=J.2.2.2;omega⟩;clear aa J t0 bO bP t3 bC;go_wp2_with fail;refine(aV _).mono ?_;rintro e w3 ⟨rfl,ae,ai,aF⟩;obtain⟨cb,af⟩:=og w2.heap.size;rw[af]at ae ai aF|-;have aG:jI (nU w3 g #[Y X k,Y X z,u ou n cu,Y X tl] sN/\nU w3 (g+1) Ck IT/\jD g w w3/\g+2<=cb/\cb<w3.heap.size/\xg w3 cb (RS.of s)):=H ⟨Below.blk (af.symm▸ae) C.1 C.1.lt,Below.blk (af.symm▸ae) C.2.1 C.2.1.lt,C.2.2.1.trans (ae.mono (by have:=C.2.2.2;omega)),af▸C.2.2.2,ai,aF⟩;clear ae ai aF C af;obtain⟨q,ag⟩:=og w3.heap.size;have aH:jI (∀W,((w3.alloc (nL #[nG (U (Z cb 0 V))] 193)).alloc (nL #[Y X (left:Nat)] 3)).alloc (nL #[.func (.func 145) #[nG (U (Z cb 0 V))] #[],.func (.func 191) #[nG (U (Z cb 0 V))] #[],.func (.func 146) #[nG (U (Z cb 0 V))] #[],.func (.func 189) #[nG (U (Z cb 0 V))] #[],.func (.func 209) #[] #[nG (U (Z w3.heap.size 0 V))],nG (U (Z (w3.heap.size+1) 0 V))] G9)=W->Cz cb (q+1) q (RS.of s) left W/\nU W (q+2) (Gz cb (q+1) q) G9/\nU W g #[Y X k,Y X z,u ou n cu,Y X tl] sN/\nU W (g+1) Ck IT/\jD g w W/\W.heap.size=q+3):=H λW hW=>by
  subst hW;rw[ag];obtain⟨aQ,av,bF,bX,dx,bQ⟩:=aG.out;have a1:=(jE w3.heap.size w3).alloc (jB _) (nL #[nG (U (Z cb 0 V))] 193);have a2:=a1.alloc nX (nL #[Y X (left:Nat)] 3);have a3:=a2.alloc nY (nL (Gz cb (q+1) q) G9);have k1:=nU.new w3 #[nG (U (Z cb 0 V))] 193;have k2:=nU.new (w3.alloc (nL #[nG (U (Z cb 0 V))] 193)) #[Y X (left:Nat)] 3;have bR:=nU.new ((w3.alloc (nL #[nG (U (Z cb 0 V))] 193)).alloc (nL #[Y X (left:Nat)] 3)) (Gz cb (q+1) q) G9;rw[show(w3.alloc (nL #[nG (U (Z cb 0 V))] 193)).heap.size=q+1 by simp[ag]]at k2;rw[show((w3.alloc (nL #[nG (U (Z cb 0 V))] 193)).alloc (nL #[Y X (left:Nat)] 3)).heap.size=q+2 by simp[ag]]at bR;rw[ag]at k1;have dw:=bM.out;have aI:jD g w (((w3.alloc (nL #[nG (U (Z cb 0 V))] 193)).alloc (nL #[Y X (left:Nat)] 3)).alloc (nL (Gz cb (q+1) q) G9)):=bF.trans (a3.mono K);exact⟨⟨Below.blk a3 bQ (nU.lt bQ),aW.out,(k2.alloc _),(k1.alloc _).alloc _,aT _ aI,K⟩,bR,Below.blk a3 aQ aQ.lt,Below.blk a3 av av.lt,aI,by simp[ag]⟩
 rw[ag]at aH;go_upto_region 6 with fail;obtain⟨aJ,E,bq,aK,aL,bu⟩:=aH.out _ rfl;generalize ((w3.alloc _).alloc _).alloc _=w4 at*;have bz:=aG.out;rw[ag]at bz;obtain⟨_,_,_,aM,aN,_⟩:=bz;obtain⟨⟨t0,bO,bP,t3⟩,_⟩:=oN bq;have bY:w4.cell? (Z (q+2) 0 V)=U (Cx cb):=E.cell 0;have e1:w4.cell? (Z (q+2) 1 V)=U (El cb):=E.cell 1;have e2:w4.cell? (Z (q+2) 2 V)=U (EU cb):=E.cell 2;have e3:w4.cell? (Z (q+2) 3 V)=U (DJ cb):=E.cell 3;have e4:w4.cell? (Z (q+2) 4 V)=U (Cy q):=E.cell 4;have e5:w4.cell? (Z (q+2) 5 V)=U (nG (U (Z (q+1) 0 V))):=E.cell 5;have N:=aS.out w4 cb (q+1) q aL aJ K K K;unfold Cx at bY N;unfold El at e1 N;unfold EU at e2 N;unfold DJ at e3 N;unfold Cy at e4 N;have N:=H N;have bS:=H (jF aJ (jF aK (jF aL bu)));have bT:jI (g+2<=cb/\cb<q):=H ⟨aM,aN⟩;clear aH aS aT aW aG aV aJ E bq aK aL bu ag aM aN;obtain⟨x,r2,l2⟩:=ab;dsimp only at*;go_wp2_with fail;refine N.mono ?_;rintro e w5 ⟨ov,cv,rfl,I,aO,ah⟩;dsimp only at I aO;have bA:jI (∀W,w5.alloc (nL #[G (txt x.lab),nH x.lab.list,u ov x.sub.length cv] IT)=W->LnI g cb q w5.heap.size r2 (txt x.lab) x.lab.list ov x.sub.length cv x.sub w Ck W):=H λW hW=>by
  subst hW;obtain⟨aQ,av,bF,bX⟩:=bS.out;obtain⟨dz,dA⟩:=bT.out;have a:=(jE w5.heap.size w5).alloc (jB _) (nL #[G (txt x.lab),nH x.lab.list,u ov x.sub.length cv] IT);have dB:=ah.size;refine⟨Below.blk a I.rd (nU.lt I.rd),Below.blk a I.fr I.fr.lt,nU.new w5 _ _,Below.blk a (ah.blk av K K) (ah.blk av K K).lt,Shape.om.keep (Shape.om.below aO a) (jB _) (λc _ hc=>by have:w4.heap.size<=c:=hc;show g+2<=c;omega) λ_ _ _=>rfl,(SF bF ah K K K).trans (a.mono K),K⟩
 clear I aO ah bS bT N;go_upto_region 7 with fail;have hL:=bA.out _ rfl;generalize w5.alloc _=bZ at*;generalize w5.heap.size=xb at*;have aj:=H hL;have dD:=hL.fr.c0;have bU:=H (qD cb r2 bZ hL.rd);clear hL bA;go_wp2_with fail;refine bU.mono ?_;rintro e dE ⟨rfl,rfl⟩;clear bU;by_cases ax:r2.f=0
 .have cz:(r2.f !=0)=O:=by simp[ax]
  have bG:jI (bD=.ok (x,r2.p)):=H (by rw[aC.out,As (by simpa using ax)]);clear ax aC;go_upto_region 10 with fail;refine a0e (g:=g) (cb:=cb) (fb:=q) (xb:=xb) (r:=r2) (T:=txt x.lab) (li:=x.lab.list) (ov:=ov) (n:=x.sub.length) (cv:=cv) (s:=x.sub) (w0:=w) (a3V:=by rfl) (LG:=by rfl) (BR:=by rfl) (hsz:=by rfl) (hI0:=λ_=>aj.drew) ?_;intro vs W hF;simp only[if_true]at hF;simp only[jH,jQ,jR];have cK:=H hF;clear hF aj;go_wp2_with fail;have hF:=cK.out;obtain⟨bH,bI,bJ⟩:=hF.rs.a3;refine jO (v:=nJ #[nI #[G (txt x.lab),nH x.lab.list,u ov x.sub.length cv],Y X (r2.p:Nat),Y X 0]) (by simp[kF,Tryz.results170,go_sem,bH,bI,bJ]) rfl ?_;rw[<-bN.out,bG.out];exact⟨hg.symm▸hF.ql,ov,cv,rfl,hg.symm▸hF.sub⟩
 .have cz:(r2.f !=0)=R:=by simp[ax]
  have bG:jI (bD=.error r2.f.toNat):=H (by rw[aC.out,AC ax]);clear ax aC;have cZ:=aj.rs.cell 0;have df:=aj.rs.cell 1;have y2:=aj.rs.cell 2;obtain⟨z0,dF,dG⟩:=aj.rs.f3;simp only[Ck,jV,jS,jT]at cZ df y2;go_wp2_with fail;rw[qy];have hF:=aj.put (G ⟨#[]⟩) (nH O) (u V 0 0);obtain⟨bH,bI,bJ⟩:=hF.rs.a3;refine jO (v:=nJ #[nI #[G ⟨#[]⟩,nH O,u V 0 0],Y X 0,Y X r2.f]) (by simp[kF,Tryz.results170,go_sem,bH,bI,bJ]) rfl ?_;rw[<-bN.out,bG.out];have:((r2.f.toNat:Nat):Int)=r2.f:=ny bK.out;exact⟨hg.symm▸hF.ql,by show _=kZ (nJ #[nI #[G ⟨#[]⟩,nH O,u V 0 0],Y X 0,Y X ((r2.f.toNat:Nat):Int)]);rw[this]⟩
def a8W(ar:Except Nat (nS IL×Nat))(n:Nat):Except Nat (nS IL):=match ar with
 | .error er=> .error er
 | .ok y=>if y.2<n then .error 3 else .ok y.1
def a3W(t:nS TL)(s:An)(items:Int)(w:M)(ou:Option kW)(cu:Nat)(aF:o6 w (u ou t.sub.length cu) t.sub)(aN:qK w)(aA:xW w)(aG:(nS.pF p0 t.sub&&qc t)=R)(hs:s.size<=100000)(hi:0<=items/\items<=1024):
  jG jy 119 #[nI #[Y X t.lab.kind,Y X t.lab.size,u ou t.sub.length cu,Y X t.lab.tail],G s,Y X items] w (Cj (KH t s items) w):=by
 obtain⟨g,hg⟩:=og w.heap.size;have aH:=aN.lt;have aO:jI (∀W,jD g w W->jG _ _ _ W (Np (Jn t s items) W)):=H λW h=>a0g t s items W ou cu (Shape.om.below aF (hg.symm▸h)) (aN.below (hg.symm▸h) aH) (xY aA (oW.of (b:=g) (q:=g) (hg.symm▸h)) (by have:=aA.lt;omega) (by have:=aA.lt;omega)) aG hs hi
 have aI:jI (∀W,(w.alloc (nL #[Y X t.lab.kind,Y X t.lab.size,u ou t.sub.length cu,Y X t.lab.tail] sN)).alloc (nL #[G ⟨#[]⟩,nH O,u V 0 0] IT)=W->nU W g #[Y X t.lab.kind,Y X t.lab.size,u ou t.sub.length cu,Y X t.lab.tail] sN/\nU W (g+1) Ck IT/\jD g w W/\W.heap.size=g+2):=H λW hW=>by
  exact a0f
 obtain⟨ar,aB⟩:=og (Jn t s items);have af:jI (KH t s items=a8W ar s.size):=H (by rw[<-aB];rfl);have ag:jI (∀er,ar=.error er->1<=er):=H λer h=>by
  have bA:=Bp 8 t (RS.of s) (min items 1024).toNat (Int.le_refl _);rw[<-aB]at h;unfold Jn at h;split at h;.cases h;omega
  .cases h
 rw[aB]at aO;obtain⟨ah,aJ⟩:=og (KH t s items);rw[aJ]at af|-;obtain⟨aW,aP⟩:=og (Cj ah w);have aQ:=H aP;rw[aP];clear aF aN aA aG hi aH aB aJ aP;generalize t.lab.kind=k at*;generalize t.lab.size=z at*;generalize t.lab.tail=tl at*;generalize t.sub.length=n at*;go_in;go_upto_region 1 with fail;obtain⟨aK,aL,ai,aM⟩:=aI.out _ rfl;generalize (w.alloc _).alloc _=w1 at*;obtain⟨⟨t0,bB,bC,t3⟩,_⟩:=oN aK;have N:=H (jF aL (jF ai aM));have aj:=H (aO _ ai);clear aI aK aL ai aM aO;go_wp2_with fail;refine aj.mono ?_;intro e w2 A;unfold Np at A;have I:jI (∀(bD:Ending)(T:An)(li:Bool)(sv:jC),jD g w w2/\nU w2 (g+1) Ck IT):=H λ_ _ _ _=>⟨N.2.1.trans (A.1.mono (by have:=N.2.2;omega)),Below.blk A.1 N.1 N.1.lt⟩
 have aX:g+2<=w2.heap.size:=by have:=A.1.size;have:=N.2.2;omega
 cases ar with
 |error er=>
  obtain⟨hb,rfl⟩:=A;have aV:=ag.out er rfl;have aY:((er:Int) !=0)=R:=nY;have aa:jI (ah=.error er):=af;have ak:jI (∀W,w2.alloc (nL #[G ⟨#[]⟩,nH O,u V 0 0] IT)=W->nU W (g+1) Ck IT/\jD g w W):=H λW hW=>by
   subst hW;have al:=(jE w2.heap.size w2).alloc (jB _) (nL #[G ⟨#[]⟩,nH O,u V 0 0] IT);obtain⟨aR,au⟩:=I.out (nK (Y X 0)) ⟨#[]⟩ O (Y X 0);exact⟨Below.blk al au au.lt,aR.trans (al.mono K)⟩
  clear hb N aj I aV ag af;go_upto_region 2 with fail;obtain⟨hB,E⟩:=ak.out _ rfl;generalize w2.alloc _=w3 at*;have aS:=hB.cell 0;have aT:=hB.cell 1;have y2:=hB.cell 2;obtain⟨z0,aZ,bg⟩:=hB.f3;simp only[Ck,jV,jS,jT]at aS aT y2;have aC:=H hB;have J:=H E;clear hB E ak;go_wp2_with fail;rw[qy];obtain⟨hB,hb⟩:=zU (a:=G ⟨#[]⟩) (b:=nH O) (c:=u V 0 0) ⟨_,_,_,aC.out⟩ (g:=g+1) (w:=w3) (W:=w3) (jE _ _);obtain⟨av,ax,ay⟩:=hB.a3;refine jO (v:=nJ #[nI #[G ⟨#[]⟩,nH O,u V 0 0],Y X (er:Nat)]) (by simp[kF,Tryz.results119,go_sem,av,ax,ay]) rfl ?_;rw[<-aQ.out,aa.out];exact⟨rfl,hg.symm▸J.trans (hb.mono (kR g))⟩
 |ok y=>
  obtain⟨x,m⟩:=y;obtain⟨hb,ov,cv,rfl,C⟩:=A;dsimp only at C;have aa:jI (ah=if m<s.size then .error 3 else .ok x):=af;have ak:jI (∀W,w2.alloc (nL #[G (txt x.lab),nH x.lab.list,u ov x.sub.length cv] IT)=W->nU W (g+1) Ck IT/\jD g w W/\nU W w2.heap.size #[G (txt x.lab),nH x.lab.list,u ov x.sub.length cv] IT/\oo W (λc=>g+2<=c) (u ov x.sub.length cv) x.sub):=H λW hW=>by
   subst hW;have al:=(jE w2.heap.size w2).alloc (jB _) (nL #[G (txt x.lab),nH x.lab.list,u ov x.sub.length cv] IT);obtain⟨aR,au⟩:=I.out (nK (Y X 0)) ⟨#[]⟩ O (Y X 0);exact⟨Below.blk al au au.lt,aR.trans (al.mono K),nU.new w2 _ _,Shape.om.keep (Shape.om.below C al) (jB _) (λc _ hc=>by have:w1.heap.size+2<=c:=hc;have:=N.2.2;show g+2<=c;omega) λ_ _ _=>rfl⟩
  clear hb C aj I ag af;go_upto_region 2 with fail;obtain⟨hB,E,aD,C⟩:=ak.out _ rfl;generalize w2.alloc _=w3 at*;generalize w2.heap.size=xb at*;have aS:=hB.cell 0;have aT:=hB.cell 1;have y2:=hB.cell 2;obtain⟨z0,aZ,bg⟩:=hB.f3;have bq:=aD.cell 0;have bu:=aD.cell 1;have bz:=aD.cell 2;simp only[Ck,jV,jS,jT]at aS aT y2 bq bu bz;have aC:=H hB;have J:=H E;have aU:=H C;clear hB E ak aD C N;by_cases ae:m<s.size
  .have t0:At (m<s.size)=R:=by simp[ae]
   have az:jI (ah=.error 3):=H (by rw[aa.out,AC ae]);clear aa ae;go_wp2_with fail;rw[qy];obtain⟨hB,hb⟩:=zU (a:=G ⟨#[]⟩) (b:=nH O) (c:=u V 0 0) ⟨_,_,_,aC.out⟩ (g:=g+1) (w:=w3) (W:=w3) (jE _ _);obtain⟨av,ax,ay⟩:=hB.a3;refine jO (v:=nJ #[nI #[G ⟨#[]⟩,nH O,u V 0 0],Y X 3]) (by simp[kF,Tryz.results119,go_sem,av,ax,ay]) rfl ?_;rw[<-aQ.out,az.out];exact⟨rfl,hg.symm▸J.trans (hb.mono (kR g))⟩
  .have t0:At (m<s.size)=O:=by simp[ae]
   have az:jI (ah=.ok x):=H (by rw[aa.out,As ae]);clear aa ae;go_wp2_with fail;rw[qy];obtain⟨hB,hb⟩:=zU (a:=G (txt x.lab)) (b:=nH x.lab.list) (c:=u ov x.sub.length cv) ⟨_,_,_,aC.out⟩ (g:=g+1) (w:=w3) (W:=w3) (jE _ _);obtain⟨av,ax,ay⟩:=hB.a3;refine jO (v:=nJ #[nI #[G (txt x.lab),nH x.lab.list,u ov x.sub.length cv],Y X 0]) (by simp[kF,Tryz.results119,go_sem,av,ax,ay]) rfl ?_;rw[<-aQ.out,az.out];refine⟨_,rfl,Shape.om.keep aU (by simp[qa,j5]) (λc _ hc=>by have:g+2<=c:=hc;show w.heap.size<=c;omega) λc _ hc=> ?_,hg.symm▸J.trans (hb.mono (kR g))⟩;have:g+2<=c:=hc;simp[qa,j5,kU,show g+1≠c by omega,show¬g+1=c by omega]
def U9(h:p:=by
 have e1:((x.e:Int)==(p2:Int))=R:=Ot;obtain⟨ML,hML⟩:=og x.L.length;obtain⟨ov,cv,hv,b1V,b0v⟩:=a3K JF hML;rw[hv]at r0;have HSL:=H (Nk JF.CE);have HE:=H he;have HV:=H hv;have LH:=H hN;have HML:=H hML;clear he hv hN hML b0v;cases xs with
 |nil=>
  obtain rfl:N=0:=LH.symm;have CA:=H (KI JF HE HV HML);go_upto_region 26 with fail;generalize wr.setCell (Z (g+1) 0 V) (u (U (Z go 0 V)) 0 cr)=w4 at*;clear JF r0 r1 o0 zo;go_wp2_with fail;refine CA.mono ?_;rintro e w5 ⟨rfl,hn5⟩;have HN5:=H hn5;clear hn5 CA;go_wp2;go_roundw;case rel=>exact⟨_,_,HN5⟩
  case measure=>(rw[Nk HN5.CE,HSL.out];simp)
 |cons x2 xs=>
  obtain⟨N2,rfl⟩:∃N2,N=N2+1:=⟨xs.length,LH.symm⟩;have CA:=H (P9 JF HE HV HML LH K a0i);go_upto_region 26 with fail;generalize wr.setCell (Z (g+1) 0 V) (u (U (Z go 0 V)) (N2+1) cr)=w4 at*;clear JF r0 r1 o0 zo;go_wp2_with fail;refine CA.mono ?_;rintro e w5 ⟨rfl,v5,hn5⟩;have HN5:=H hn5;clear hn5 CA;go_wp2;go_roundw;case rel=>exact⟨_,_,HN5⟩
  case measure=>(rw[Nk HN5.CE,HSL.out];simp)):p:=h
def a0j(h:p:=by
 have e1:((x.e:Int)==(p2:Int))=O:=vo;have HE:jI (Opn p2 (x::xs)):=H (U4 JF he);clear he;go_wp2;go_roundw;case rel=>exact .inr ⟨p2,c+1,_,x::xs,rfl,by go_num,rfl,H ⟨JF.out,HE.out⟩⟩
 case measure=>(have:=HMS.out;simp[kC,Z6];omega)):p:=h
def a0k(h:p:=by
 have p0:=JF.CE.ho.c0;obtain⟨oa,cr,hv3⟩:∃oa cr,vr3=u oa 0 cr:=JF.CE.row.slice;rw[hv3]at p0;go_wp2;go_roundw;case rel=>exact .inr ⟨p2,c+1,vr3,[],rfl,by go_num,rfl,H ⟨JF.out,trivial⟩⟩
 case measure=>(have:=HMS.out;simp[kC,Z6];omega)):p:=h
def a0l(h:p:=by
 have e1:((x.e:Int)==(p2:Int))=O:=vo;have HE:jI (Opn p2 (x::xs)):=H (U4 JF he);clear he;go_wp2;go_roundw;case rel=>exact .inr ⟨p2,1,_,x::xs,rfl,rfl,rfl,H ⟨JF.out,HE.out⟩⟩
 case measure=>(have:=HMS.out;simp[kC,Z6];omega)):p:=h
def a0m(h:p:=by
 have p0:=JF.CE.ho.c0;obtain⟨oa,cr,hv3⟩:∃oa cr,vr3=u oa 0 cr:=JF.CE.row.slice;rw[hv3]at p0;go_wp2;go_roundw;case rel=>exact .inr ⟨p2,1,vr3,[],rfl,rfl,rfl,H ⟨JF.out,trivial⟩⟩
 case measure=>(have:=HMS.out;simp[kC,Z6];omega)):p:=h
def a0n(s:An)(aC items:Int)(w:M)(hs:s.size<=100000)(dE:(kY X aC).wf=R)(dF:(kY X items).wf=R):
  jG jy 204 #[G s,Y X aC,Y X items] w (P5 (xS (min aC 16).toNat s.data.toList (min items 1024).toNat) w):=by
 obtain⟨D,cz⟩:=og (min aC 16);obtain⟨bC,hI⟩:=og (min items 1024);have bD:∀n:Nat,At (D<=(n:Int))=At (D.toNat<=n):=λn=>by rw[decide_eq_decide];omega
 have bE:∀n:Nat,At (bC<=(n:Int))=At (bC.toNat<=n):=λn=>by rw[decide_eq_decide];omega
 have bJ:D.toNat<=16:=K;have a0i:bC.toNat<=1024:=K;rw[cz,hI];have aR:=H bD;have aJ:=H bE;obtain⟨am,bQ⟩:=og D.toNat;obtain⟨aq,bR⟩:=og bC.toNat;rw[bQ]at aR bJ|-;rw[bR]at aJ a0i|-;obtain⟨l,hl⟩:=og s.data.toList;have bF:l.length=s.size:=by rw[<-hl];simp
 obtain⟨g,hg⟩:=og w.heap.size;obtain⟨ar,ax⟩:=og (xS am l aq);have bK:=H ax;rw[hl,ax];obtain⟨dK,aV⟩:=og (P5 ar w);have aS:=H aV;rw[aV];obtain⟨wa,aW⟩:∃wa,w.alloc (nL #[G ⟨#[]⟩,nH O,u V 0 0] IT)=wa:=⟨_,rfl⟩;obtain⟨bL,aX⟩:=og (wa.alloc (nL #[u V 0 0] OT));have aY:jI (∀W,bL.alloc (nL #[G ⟨#[]⟩,nH O,u V 0 0] IT)=W->a8T l g w wa W):=H λW h=>a8U hg aW aX h
 have bz:=H hl;have bG:=H bF;have bS:wa.heap.size=g+1:=by rw[<-aW];simp;omega
 have bT:bL.heap.size=g+2:=by rw[<-aX];simp;omega
 clear ax bQ bR bD bE aV hl bF;go_in;go_upto_region 3 with fail;generalize bL.alloc (nL #[G ⟨#[]⟩,nH O,u V 0 0] IT)=w1 at*;have C:=H (aY _ rfl);clear aY aW aX bS bT;go_upto_region 7 with fail
 go_loopw [12,13,14] (λaA cv bA wr=>(aA=Y X 0/\cv=Y X 0/\bA=nH R/\wr=w1)\/(∃(p c:Nat) (vr:jC) (st:List Fr),aA=Y X (p:Nat)/\cv=Y X (c:Nat)/\bA=nH O/\jI (wT l am aq ar (g+1) (g+1) (g+2) wa wr p c vr st/\Opn p st)))
  (λaA _ bA _=>s.size -(kC aA).toNat+Z6 bA)
 case atStart=>exact .inl ⟨rfl,rfl,rfl,rfl⟩
 case round=>
  rcases hrel with⟨rfl,rfl,rfl,rfl⟩|⟨p,c,vr,st,rfl,rfl,rfl,aB⟩
  .have p0:=C.o0
   obtain⟨ad,aL⟩:=og (Dp l (At (am<=0)) (At (aq<=0)));have ag:jI (∀x:sW wr,jG jy 242 #[G s,nH (At (D<=0)),nH (At (bC<=0))] x.at_ λe w'=>e=nK (CB ad)/\jD x.at_.heap.size x.at_ w'):=H λx=>by
    have h0:=PX s (At (D<=((0:Nat):Int))) (At (bC<=((0:Nat):Int))) x.at_ hs;rw[aR.out,aJ.out,bz.out,aL]at h0;have e1:=aR.out 0;have e2:=aJ.out 0;simp only[Int.natCast_zero]at e1 e2;rw[e1,e2];exact h0.mono λe w' aZ=>⟨aZ.1,aZ.2▸jE _ _⟩
   have aF:=H aL;have aj:jI (∀x:sW wr,sw x.at_ (g+1) (g+1) (g+2) (u V 0 0) []/\nU x.at_ (g+2) rR IT/\jD (g+1) wa x.at_):=H λx=>⟨C.CE.fut x.is,Below.blk x.is C.whole C.CE.lt,C.bw.trans (x.is.mono (by have:=C.CE.lt;omega))⟩
   have aa:∀x:sW wr,x.at_.cell? (Z (g+1) 0 V)=U (u V 0 0):=λx=>(aj x).1.ho.cell 0
   clear aL;go_upto_region 12 with fail;cases ad with
   |error er=>
    have ax:jI (ar=.error er):=H (by rw[<-bK.out];exact Xd aF);have he:=P6 aF.out;have cK:((er:Int) !=0)=R:=nY;simp only[CB]at ag;obtain⟨bU,e1⟩:=og (((er:Int)==2));refine oK nV nV ?_;repeat(go_big_quiet_step (exact Calls.after (ag _)))
    refine l7 ?_;intro x;obtain⟨ay,aG,au⟩:=aj.out x;have bB:=aa x;obtain⟨⟨c0,c1,c2⟩,⟨z0,bM,bN⟩,E⟩:=U3 C.res au;have aH:=H (LF (a:=G ⟨#[]⟩) (b:=nH O) (c:=u V 0 0) C.ba C.res.lt au E);clear ay aG au E he aa;cases bU
    all_goals
     go_wp2_with fail;rw[uf];obtain⟨aM,aN,aO⟩:=aH.1.a3;refine jO (v:=nJ #[nI rR,Y X 0,Y X (er:Nat)]) (by simp[kF,Tryz.results204,go_sem,aM,aN,aO,rR]) rfl ?_;rw[<-aS.out,ax.out];exact⟨rfl,hg.symm▸aH.2⟩
   |ok q=>
    obtain⟨li,z,n⟩:=q;obtain⟨_,_,_,_,bg,aP⟩:=Dz aF.out;simp only[bG.out]at bg aP;cases li with
    |true=>
     simp only[CB]at ag;refine oK nV nV ?_;repeat(go_big_quiet_step (exact Calls.after (ag _)))
     refine l7 ?_;intro x;obtain⟨ay,aG,au⟩:=aj.out x;have bB:=aa x;have az:=H ay;have bV:=H aG;have bW:=H au;have bX:g+1<=x.at_.heap.size:=by have:=ay.lt;omega
     clear ay aG au ag aj aa p0;go_upto_if 75 with fail
     go_cut [12] (λaA aQ=>∃(p2:Nat) (I:jC) (J:List Fr),aA=Y X (p2:Nat)/\p2<=s.size/\jI (wT l am aq ar (g+1) (g+1) (g+2) wa aQ p2 1 I J));case first=>
      go_wp2_with (at_builtin;refine uD Z5 BV rfl _ _ rfl (B:=g+1) (v:=u V 0 0) (L:=[]) (y:=⟨u V 0 0,[],z+n⟩) rfl (qd.nil _ _ _) rfl (nU.new x.at_ #[u V 0 0,Y X ((z:Int)+(n:Int))] RT) (by simp[rf2]) (by simp[rf2,Value.oneCell']) nX nY ?_;intro cZ cap w2 av ae aK hlt;obtain⟨df,dh⟩:=P8 az ((jE _ x.at_).alloc (jB _) _) ae;have bq:=H (jF av (jF ae aK));clear av ae aK hlt);go_meet;obtain⟨dw,dx,dz⟩:=PY (f:=⟨u V 0 0,[],z+n⟩) az ((jE _ x.at_).alloc (jB _) _) ⟨rfl,rfl⟩ bq.1 bq.2.1 bq.2.2;have bu:=wT.Dy aF bW dw (by unfold nU;rw[dz _ az.lt K (by simp[kz])];exact bV) dx;rw[bK.out]at bu;exact⟨z,_,_,rfl,K,H bu⟩
     case rest=>
      obtain⟨p2,I,J,rfl,ah,ai⟩:=hcut;have HMS:=H ah;go_wp2_with fail;go_loopw [20] (λ_ ak=>∃(vr:jC) (st:List Fr),jI (wT l am aq ar (g+1) (g+1) (g+2) wa ak p2 (1) vr st)) (λ_ ak=>FH ak (g+1));case atStart=>exact⟨I,J,ai⟩
      case round=>
       obtain⟨vr3,aI,JF⟩:=hrel;clear ai;cases aI with
       |nil=>
        exact a0m
       |cons x xs=>
        obtain⟨N,hN⟩:=og xs.length;obtain⟨go,cr,hv3,r0,r1,o0,zo,aT,af⟩:=zq JF hN;subst hv3;have aD:N+1<=16:=K;clear af;by_cases he:x.e=p2;.exact U9
        .exact a0l
    |false=>
     simp only[CB]at ag;refine oK nV nV ?_;repeat(go_big_quiet_step (exact Calls.after (ag _)))
     refine l7 ?_;intro x;obtain⟨ay,aG,au⟩:=aj.out x;have bB:=aa x;have CA:=H (Nl bz bK aF ay aG au);clear ay aG au ag aj aa p0;go_upto_if 75 with fail
     go_cut [12] (λaA aQ=>∃(p2:Nat) (I:jC) (J:List Fr),aA=Y X (p2:Nat)/\p2<=s.size/\jI (wT l am aq ar (g+1) (g+1) (g+2) wa aQ p2 1 I J));case first=>
      go_wp2_with fail;refine CA.mono ?_;rintro e w5 ⟨rfl,hn5⟩;have HN5:=H hn5;clear hn5 CA;go_wp2_with fail;go_meet;exact⟨z+n,_,_,by go_num,K,HN5⟩
     case rest=>
      obtain⟨p2,I,J,rfl,ah,ai⟩:=hcut;have HMS:=H ah;go_wp2_with fail;go_loopw [20] (λ_ ak=>∃(vr:jC) (st:List Fr),jI (wT l am aq ar (g+1) (g+1) (g+2) wa ak p2 (1) vr st)) (λ_ ak=>FH ak (g+1));case atStart=>exact⟨I,J,ai⟩
      case round=>
       obtain⟨vr3,aI,JF⟩:=hrel;clear ai;cases aI with
       |nil=>
        exact a0m
       |cons x xs=>
        obtain⟨N,hN⟩:=og xs.length;obtain⟨go,cr,hv3,r0,r1,o0,zo,aT,af⟩:=zq JF hN;subst hv3;have aD:N+1<=16:=K;clear af;by_cases he:x.e=p2;.exact U9
        .exact a0l
  .cases st with
   |nil=>
    have p0:=aB.1.CE.ho.c0;obtain⟨oa,cr,hv3⟩:∃oa cr,vr=u oa 0 cr:=aB.1.CE.row.slice;rw[hv3]at p0;obtain⟨y,v,dL,ax,hb,hv,bO⟩:=aB.1.res;obtain⟨ov,cv,rfl,_⟩:=oo.slice hv;obtain⟨⟨c0,c1,c2⟩,⟨z0,bM,bN⟩,E⟩:=U3 C.res aB.1.below;have aH:=H (LF (a:=G (txt y.lab)) (b:=nH y.lab.list) (c:=u ov y.sub.length cv) C.ba C.res.lt aB.1.below E);have dA:jI (oo (xw wr g 0 (G (txt y.lab)) (nH y.lab.list) (u ov y.sub.length cv)) (λc=>w.heap.size<=c) (u ov y.sub.length cv) y.sub):=H (Shape.om.keep hv (by rw[vU];exact jB _) (λc _ hc=>by
      have dB:=bO c hc;show w.heap.size<=c;have:¬c<g+1:=λh=>dB (.inl h)
      omega) λc _ hc=>ug c λe=>bO c hc (.inl K))
    obtain⟨dM,dN,y2⟩:=hb.a3;have bY:=H ax;clear hb hv bO ax E;go_wp2_with fail;rw[uf];obtain⟨aM,aN,aO⟩:=aH.1.a3;refine jO (v:=nJ #[nI #[G (txt y.lab),nH y.lab.list,u ov y.sub.length cv],Y X (p:Nat),Y X 0]) (by simp[kF,Tryz.results204,go_sem,aM,aN,aO]) rfl ?_;rw[<-aS.out,bY.out];exact⟨_,rfl,dA.out,hg.symm▸aH.2⟩
   |cons x xs=>
    obtain⟨N,hN⟩:=og xs.length;obtain⟨go,cr,hv3,r0,r1,o0,zo,aT,af⟩:=zq aB.1 hN;subst hv3;have aD:N+1<=16:=K;have aU:p<x.e:=aB.2;have dG:x.e<=s.size:=by have:=Ends.le aB.1.ends.2;rw[bG.out]at this;exact this
    have dH:c<=1024:=by have:=aB.1.hc;omega
    obtain⟨ad,aL⟩:=og (Dp (AJ l p x.e) (At (am<=(x::xs).length)) (At (aq<=c)));have ag:jI (∀A:sW wr,jG jy 242 #[G (s.extract p x.e),nH (At (D<=(N:Int)+1)),nH (At (bC<=(c:Int)))] A.at_ λe w'=>e=nK (CB ad)/\jD A.at_.heap.size A.at_ w'):=H λA=>by
     have h0:=PX (s.extract p x.e) (At (D<=((N+1:Nat):Int))) (At (bC<=(c:Int))) A.at_ (by simp[jP];omega);have e1:=aR.out (N+1);rw[e1,aJ.out,Nj bz.out,show N+1=(x::xs).length by simp[hN],aL]at h0;rw[show((N:Int)+1)=((N+1:Nat):Int)by omega,e1,aJ.out,show N+1=(x::xs).length by simp[hN]];exact h0.mono λe w' aZ=>⟨aZ.1,aZ.2▸jE _ _⟩
    have aF:=H aL;have aj:jI (∀A:sW wr,wT l am aq ar (g+1) (g+1) (g+2) wa A.at_ p c (u (U (Z go 0 V)) (N+1) cr) (x::xs)):=H λA=>aB.1.fut A.is
    have aa:∀A:sW wr,A.at_.cell? (Z (g+1) 0 V)=U (u (U (Z go 0 V)) (N+1) cr):=λA=>(aj A).CE.ho.cell 0
    have LH:=H hN;have dD:=H aU;clear aL hN r0 zo af;go_upto_region 12 with fail;cases ad with
    |error er=>
     have ax:=H (aB.1.err aU aF);have he:=P6 aF.out;simp only[CB]at ag;by_cases e2:er=2
     .have e1:((er:Int)==2)=R:=by simp[e2]
      rw[AC e2]at ax;clear e2;refine oK nV nV ?_;repeat(go_big_quiet_step (exact Calls.after (ag _)))
      refine l7 ?_;intro A;obtain⟨⟨c0,c1,c2⟩,⟨z0,bM,bN⟩,E⟩:=U3 C.res (aj A).below;have aH:=H (LF (a:=G ⟨#[]⟩) (b:=nH O) (c:=u V 0 0) C.ba C.res.lt (aj A).below E);clear E he aa;go_wp2_with fail;rw[uf];obtain⟨aM,aN,aO⟩:=aH.1.a3;refine jO (v:=nJ #[nI rR,Y X 0,Y X 3]) (by simp[kF,Tryz.results204,go_sem,aM,aN,aO,rR]) rfl ?_;rw[<-aS.out,ax.out];exact⟨rfl,hg.symm▸aH.2⟩
     .have e1:((er:Int)==2)=O:=vo
      have cK:((er:Int) !=0)=R:=nY;rw[As e2]at ax;clear e2;refine oK nV nV ?_;repeat(go_big_quiet_step (exact Calls.after (ag _)))
      refine l7 ?_;intro A;obtain⟨⟨c0,c1,c2⟩,⟨z0,bM,bN⟩,E⟩:=U3 C.res (aj A).below;have aH:=H (LF (a:=G ⟨#[]⟩) (b:=nH O) (c:=u V 0 0) C.ba C.res.lt (aj A).below E);clear E he aa;go_wp2_with fail;rw[uf];obtain⟨aM,aN,aO⟩:=aH.1.a3;refine jO (v:=nJ #[nI rR,Y X 0,Y X (er:Nat)]) (by simp[kF,Tryz.results204,go_sem,aM,aN,aO,rR]) rfl ?_;rw[<-aS.out,ax.out];exact⟨rfl,hg.symm▸aH.2⟩
    |ok q=>
     obtain⟨li,z,n⟩:=q;obtain⟨_,_,bH,bg,aP,_⟩:=aB.1.head aU aF.out;have bZ:=H bH;clear bH;simp only at bg aP;cases li with
     |true=>
      have dI:=P7 bZ.out;simp only[CB]at ag;refine oK nV nV ?_;repeat(go_big_quiet_step (exact Calls.after (ag _)))
      refine l7 ?_;intro A;have bB:=aa A;have az:=H (aj A);have bX:g+2<=A.at_.heap.size:=by have:=az.CE.lt;omega
      clear ag aj aa o0 r1;go_upto_if 75 with fail
      go_cut [12] (λaA aQ=>∃(p2:Nat) (I:jC) (J:List Fr),aA=Y X (p2:Nat)/\(p<p2/\p2<=s.size)/\jI (wT l am aq ar (g+1) (g+1) (g+2) wa aQ p2 (c+1) I J));case first=>
       have bI:jI ((x::xs).reverse.length=N+1):=H (by simp[LH.out]);go_wp2_with (at_builtin;go_loud (refine uD Z5 BV rfl _ _ rfl (B:=g+1) (v:=u (U (Z go 0 V)) (N+1) cr) (L:=(x::xs).reverse) (y:=⟨u V 0 0,[],p+z+n⟩) rfl (az.CE.row.below ((jE _ A.at_).alloc (jB _) _)) rfl (nU.new A.at_ #[u V 0 0,Y X ((p:Int)+(z:Int)+(n:Int))] RT) (by simp[rf2]) (by simp[rf2,Value.oneCell']) (by rw[bI.out];omega) nY ?_);intro cZ cap w2 av ae aK hlt;obtain⟨df,dh⟩:=P8 az.CE ((jE _ A.at_).alloc (jB _) _) ae;have bq:=H (a6H az dD LH aF ((jE _ A.at_).alloc (jB _) _) rfl av ae aK);rw[bI.out];clear av ae aK hlt);go_meet;exact⟨p+z,_,_,by go_num,⟨K,K⟩,bq⟩
      case rest=>
       obtain⟨p2,I,J,rfl,ah,ai⟩:=hcut;have HMS:=H ah;have bP:=ah.2;clear ah;go_wp2_with fail;go_loopw [20] (λ_ ak=>∃(vr:jC) (st:List Fr),jI (wT l am aq ar (g+1) (g+1) (g+2) wa ak p2 (c+1) vr st)) (λ_ ak=>FH ak (g+1));case atStart=>exact⟨I,J,ai⟩
       case round=>
        obtain⟨vr3,aI,JF⟩:=hrel;clear ai;cases aI with
        |nil=>
         exact a0k
        |cons x xs=>
         obtain⟨N,hN⟩:=og xs.length;obtain⟨go,cr,hv3,r0,r1,o0,zo,aT,af⟩:=zq JF hN;subst hv3;have aD:N+1<=16:=K;clear af;by_cases he:x.e=p2;.exact U9
         .exact a0j
     |false=>
      simp only[CB]at ag;refine oK nV nV ?_;repeat(go_big_quiet_step (exact Calls.after (ag _)))
      refine l7 ?_;intro A;have bB:=aa A;have CA:=H (a6G bz hs (aj A) aU K K aF);clear ag aj aa o0 r1;go_upto_if 75 with fail
      go_cut [12] (λaA aQ=>∃(p2:Nat) (I:jC) (J:List Fr),aA=Y X (p2:Nat)/\(p<p2/\p2<=s.size)/\jI (wT l am aq ar (g+1) (g+1) (g+2) wa aQ p2 (c+1) I J));case first=>
       go_wp2_with fail;refine CA.mono ?_;rintro e w5 ⟨rfl,dO,dJ,hn5⟩;have HN5:=H hn5;clear hn5 CA;go_wp2_with fail;go_meet;exact⟨p+z+n,_,_,by go_num,⟨K,K⟩,HN5⟩
      case rest=>
       obtain⟨p2,I,J,rfl,ah,ai⟩:=hcut;have HMS:=H ah;have bP:=ah.2;clear ah;go_wp2_with fail;go_loopw [20] (λ_ ak=>∃(vr:jC) (st:List Fr),jI (wT l am aq ar (g+1) (g+1) (g+2) wa ak p2 (c+1) vr st)) (λ_ ak=>FH ak (g+1));case atStart=>exact⟨I,J,ai⟩
       case round=>
        obtain⟨vr3,aI,JF⟩:=hrel;clear ai;cases aI with
        |nil=>
         exact a0k
        |cons x xs=>
         obtain⟨N,hN⟩:=og xs.length;obtain⟨go,cr,hv3,r0,r1,o0,zo,aT,af⟩:=zq JF hN;subst hv3;have aD:N+1<=16:=K;clear af;by_cases he:x.e=p2;.exact U9
         .exact a0j
end
end Go.Proofs.YtamfcjmhnndbdaaGreatDoor


