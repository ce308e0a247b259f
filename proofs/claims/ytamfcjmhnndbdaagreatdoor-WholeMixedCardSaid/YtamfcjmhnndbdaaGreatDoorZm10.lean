/- Part 10 of the proof. -/
import Derived.Test.YtamfcjmhnndbdaaGreatDoorZm00
import Derived.Test.YtamfcjmhnndbdaaGreatDoorZm06
import Derived.Test.YtamfcjmhnndbdaaGreatDoorZm07
import Derived.OwnWalk
import Derived.Deep.AppendLies
import Derived.Deep.RegionHeld
import Derived.WalkKit
import Derived.StillTail
import Derived.Deep.RegionHeld3
open Go.Value renaming agg→nD,bool→nC,int→nk,pointer→nA,slice→ny,string→nz,tuple→nE,ownBlock→kJ,slice→kM
open Go.Obj renaming cells→nH
open Go.IntKind renaming i64→nI
open Go.Ending renaming returned→nG
open Go.Lib renaming hid→jH
open Go.Proofs.Tryz renaming prog→jI
open Go renaming World→jJ,Value→jP,Calls→jV,maxLen→j3,TypeId→ko,undef→kI,wpAnyH_take→kU,Addr→lH,wpAnyH_ready→lS,Oper→lY,Program→ma
open Nat renaming le_refl→jK,le_trans→jY,lt_of_lt_of_le→kG,zero_le→kH,add_assoc→kR,lt_or_ge→kZ,add_mul→lU
open List renaming setIfInBounds_toArray→jL,getElem?_cons_succ→jM,getElem?_cons_zero→jN,getElem?_toArray→jO,set_cons_zero→jQ,set_cons_succ→jR,getElem?_eq_getElem→jW,length_append→j5,take_succ_cons→ky,length_cons→kF,mem_of_getElem?→kK,length_drop→kX,getElem?_eq_some_iff→lF,getD_eq_getElem?_getD→lL,all_eq_true→lM,range→l5,mem_range→mf,length_take→mi,map_cons→mQ,length_eq_zero_iff→mU
open Go.RowKit renaming Below→jS,Hid→jX
open Go.RowKit.Below renaming refl→jT,heap_setCell→j6
open And renaming intro→jU
open Array renaming getElem?_eq_some_iff→ku,getElem?_modify→lu,replicate→lD,getElem?_eq_none→mZ
open Go.World renaming setCell→kz
open ByteArray renaming size_extract→kC
open Go.Act renaming put→kE
open Or renaming inl→kP
open Go.AllReadyH renaming cons→kW,nil→lq
open Go.Code renaming region→ll
open Go.Region renaming ready→lN,binds→mh
open UInt8 renaming toNat_inj→lX
open Option.some renaming inj→l8,injEq→mF
open Option renaming none→V,some→U
open Go.Addr renaming mk→Z
namespace Go.Proofs.YtamfcjmhnndbdaaGreatDoor
set_option linter.unusedVariables false
set_option linter.unusedSimpArgs false
set_option maxRecDepth 100000
set_option maxHeartbeats 8000000
variable {t t':ko}
section
open Go.RowKit
section
variable {β:Type}{f:β->List jP}{k:Nat}
def pQ(f:β->List jP)(k:Nat)(w:jJ)(B:Nat)(t:ko)(v:jP)(L:List β):Prop:=w.ownsRow B t k v L.length (L.flatMap f)
theorem Nk(hk:∀y,(f y).length=k)(L:List β):(L.flatMap f).length=L.length*k:=by
 induction L with
 |nil=>simp
 |cons y L A=>rw[List.flatMap_cons,j5,A,hk,kF,lU];omega
theorem a1d(hk:∀y,(f y).length=k){L:List β}{i:Nat}{y:β}(A:L[i]? =U y){j:Nat}(E:j<k):(L.flatMap f)[i*k+j]? =(f y)[j]? :=by
 induction L generalizing i with
 |nil=>simp at A
 |cons z L C=>
  rw[List.flatMap_cons];cases i with
  |zero=>
   simp at A;subst A;rw[List.getElem?_append_left (by rw[hk];omega)];simp
  |succ i=>
   simp at A;rw[List.getElem?_append_right (by rw[hk,lU];omega),hk,show(i+1)*k+j - k=i*k+j by rw[lU];omega];exact C A
theorem XE(hk:∀y,(f y).length=k){L:List β}{i:Nat}{y z:β}(A:L[i]? =U y){j:Nat}{x:jP}(I:j<k)(C:f z=(f y).set j x):(L.set i z).flatMap f=(L.flatMap f).set (i*k+j) x:=by
 induction L generalizing i with
 |nil=>simp at A
 |cons a L E=>
  cases i with
  |zero=>
   simp at A;subst A;rw[jQ,List.flatMap_cons,List.flatMap_cons,C,List.set_append_left _ _ (by rw[hk];omega)];simp
  |succ i=>
   simp at A;rw[jR,List.flatMap_cons,List.flatMap_cons,E A,List.set_append_right _ _ (by rw[hk,lU];omega),hk,show(i+1)*k+j - k=i*k+j by rw[lU];omega]
theorem UD(hk:∀y,(f y).length=k)(L:List β)(n:Nat):(L.take n).flatMap f=(L.flatMap f).take (n*k):=by
 induction L generalizing n with
 |nil=>simp
 |cons y L A=>
  cases n with
  |zero=>simp
  |succ n=>
   rw[ky,List.flatMap_cons,List.flatMap_cons,A,List.take_append,hk,List.take_of_length_le (l:=f y) (by rw[hk,lU];omega),show(n+1)*k - k=n*k by rw[lU];omega]
theorem pQ.nil(w:jJ)(B:Nat)(t:ko):pQ f k w B t (ny V 0 0) []:=World.ownsRow_nil w B t k
theorem pQ.form{w:jJ}{B:Nat}{v:jP}{L:List β}(h:pQ f k w B t v L):(v=ny V 0 0/\L=[])\/∃g cap A,v=ny (U (Z g 0 V)) L.length cap/\B<=g/\nP w g A t/\L.length<=cap/\cap<=j3/\A.size=cap*k/\A.toList.take (L.length*k)=L.flatMap f:=by
 rcases h.2 with⟨rfl,h0⟩|⟨g,cap,A,rfl,hb,hg,C,E,hsz,htake⟩
 .exact .inl ⟨rfl,mU.1 h0⟩
 .exact .inr ⟨g,cap,A,rfl,hb,hg,C,E,hsz,htake⟩
theorem pQ.of{w:jJ}{B:Nat}{L:List β}{g cap:Nat}{A:Array jP}(hb:B<=g)(hg:nP w g A t)(C:L.length<=cap)(E:cap<=j3)(hsz:A.size=cap*k)(hk:∀y,(f y).length=k)(htake:A.toList.take (L.length*k)=L.flatMap f):pQ f k w B t (ny (U (Z g 0 V)) L.length cap) L:=
 ⟨Nk hk L,.inr ⟨g,cap,A,rfl,hb,hg,C,E,hsz,htake⟩⟩
theorem pQ.block{w:jJ}{B:Nat}{v:jP}{L:List β}(h:pQ f k w B t v L):∀b,v.ownBlock=U b->B<=b/\b<w.heap.size/\∃cs,nP w b cs t:=by
 rcases h.form with⟨rfl,_⟩|⟨g,cap,A,rfl,hb,hg,_⟩
 .intro b h;cases h
 .intro b h;cases h;exact⟨hb,hg.lt,A,hg⟩
theorem pQ.slice{w:jJ}{B:Nat}{v:jP}{L:List β}(h:pQ f k w B t v L):∃oa cap,v=ny oa L.length cap:=by
 rcases h.form with⟨rfl,rfl⟩|⟨g,cap,A,rfl,_⟩
 .exact⟨V,0,rfl⟩
 .exact⟨_,cap,rfl⟩
theorem pQ.keep{w w':jJ}{B:Nat}{v:jP}{L:List β}(h:pQ f k w B t v L)(hk:∀b,v.ownBlock=U b->w'.heap[b]? =w.heap[b]?):pQ f k w' B t v L:=by
 refine⟨h.1,?_⟩;rcases h.2 with h2|⟨g,cap,A,C,hg,hh,r⟩
 .exact .inl h2
 .refine .inr ⟨g,cap,A,C,hg,?_,r⟩
  rw[hk g (by rw[C];rfl)];exact hh
theorem pQ.below{w w':jJ}{B:Nat}{v:jP}{L:List β}(h:pQ f k w B t v L)(hb:jS w.heap.size w w'):pQ f k w' B t v L:=
 h.keep λb A=>hb.block b (h.block b A).2.1
theorem pQ.at_{w:jJ}{B:Nat}{oa:Option lH}{n cap:Nat}{L:List β}(h:pQ f k w B t (ny oa n cap) L)(hk:∀y,(f y).length=k){i:Nat}{y:β}(C:L[i]? =U y):
  ∃g,oa=U (Z g 0 V)/\B<=g/\g<w.heap.size/\n=L.length/\n<=cap/\(∀j,j<k->w.cell? (Z g (i*k+j) V)=(f y)[j]?)/\∀j,w.frozen? (Z g j V)=false:=by
 obtain⟨hi,_⟩:=lF.1 C;rcases h.form with⟨h1,rfl⟩|⟨g,E,N,I,hb,hg,A,O,hsz,htake⟩
 .simp at hi
 .cases I
  refine⟨g,rfl,hb,hg.lt,rfl,A,λj J=> ?_,λj=>hg.free j⟩;rw[hg.cell,<-a1d hk C J,<-htake,List.getElem?_take_of_lt];.simp
  .have:(i+1)*k<=L.length*k:=Nat.mul_le_mul_right _ nL
   rw[lU]at this;omega
theorem pQ.set{w:jJ}{B:Nat}{g n cap:Nat}{L:List β}(h:pQ f k w B t (ny (U (Z g 0 V)) n cap) L)(hk:∀y,(f y).length=k){i:Nat}{y z:β}(C:L[i]? =U y){j:Nat}{x:jP}(E:j<k)(I:f z=(f y).set j x):
  pQ f k (w.setCell (Z g (i*k+j) V) x) B t (ny (U (Z g 0 V)) n cap) (L.set i z):=by
 rcases h.form with⟨h1,_⟩|⟨Y,J,Q,N,hb,hg,A,O,hsz,htake⟩
 .cases h1
 .cases N
  have:=pQ.of (f:=f) (k:=k) (L:=L.set i z) hb (hg.set (i*k+j) x) (by simpa using A) O (by simpa using hsz) hk (by
   rw[XE hk C E I,<-htake,Array.toList_setIfInBounds,List.take_set,List.length_set])
  rw[List.length_set]at this;exact this
theorem pQ.cut{w:jJ}{B:Nat}{g n cap:Nat}{L:List β}(h:pQ f k w B t (ny (U (Z g 0 V)) n cap) L)(hk:∀y,(f y).length=k){m:Nat}(C:m<=L.length):
  pQ f k w B t (ny (U (Z g 0 V)) m cap) (L.take m):=by
 rcases h.form with⟨h1,_⟩|⟨O,E,N,I,hb,hg,J,A,hsz,htake⟩
 .cases h1
 .cases I
  have hl:(L.take m).length=m:=by rw[mi];omega
  have:=pQ.of (f:=f) (k:=k) (L:=L.take m) hb hg nL A hsz hk (by
   rw[UD hk,<-htake,List.take_take,hl,Nat.min_eq_left (Nat.mul_le_mul_right _ C)])
  rw[hl]at this;exact this
theorem XF{w:jJ}{b:Nat}{cs:Array jP}(h:nP w b cs t){l:List jP}(hl:cs.toList=l):∀j u,l[j]? =U u->w.cell? (((Z b 0 V):lH).add j)=U u:=by
 subst hl;exact World.news_of_block h
end
structure wT(P:ma)(st t:ko)(k:Nat):Prop where
 ht:P.underlying st=U (.slice t)
 hi:∃z bytes i,P.info? t=U i/\i.zero=U z/\i.size=k/\i.bytes=bytes/\bytes<=1000/\z.cells.size=k
 pos:0<k
theorem Db{C:Type}{f:C->List jP}{k:Nat}{P:ma}{st ty:ko}(T:wT P st t k)(hk:∀y,(f y).length=k){w:jJ}{B b c:Nat}{v:jP}{L:List C}{x:C}{cs:Array jP}(E:pQ f k w B t v L)(hb:nP w b cs t')(I:cs.toList=f x)(h1:∀u∈f x,u.oneCell'=true)(hlen:L.length<=1000000)(hB:B<=w.heap.size):
  ∃g cap w',(Builtin.append_ #[st,st] ty #[v,ny (U (Z b 0 V)) 1 c]).run P w=.ok (ny (U (Z g 0 V)) (L.length+1) cap) w'/\
   pQ f k w' B t (ny (U (Z g 0 V)) (L.length+1) cap) (L++[x])/\w.grownBy w' v.ownBlock/\(v.ownBlock=U g\/g=w.heap.size)/\g<w'.heap.size/\B<=g:=by
 obtain⟨z,bytes,i,hi,Q,hsz,J,N,O⟩:=T.hi
 obtain⟨g,cap,w',Y,h2,aa,ae,af⟩:=run_append_lies w st ty B t i z k bytes T.ht hi Q hsz J O T.pos v L.length (L.flatMap f) E (Z b 0 V) 1 c (f x) (by rw[hk];omega) (XF hb I) h1 nO yD
  (jY (Nat.mul_le_mul_left _ N) nL) hB _ rfl
 have A:pQ f k w' B t (ny (U (Z g 0 V)) (L.length+1) cap) (L++[x]):=by
  unfold pQ;rw[j5,List.flatMap_append];simpa using h2
 exact⟨g,cap,w',Y,A,aa,ae,af,(A.block g rfl).1⟩
structure qg(α:Type) where
 lab:α
 u:jP
 sub:List (nM α)
def qg.tree{α:Type}(y:qg α):nM α:=.node y.lab y.sub
section
variable {α:Type}
def Shape.row(S:Shape α)(L:List (qg α)):List jP:=L.flatMap λy=>S.cells y.lab y.u
theorem Shape.P8(S:Shape α)(L M:List (qg α)):S.row (L++M)=S.row L++S.row M:=by simp[Shape.row]
theorem Shape.GK(S:Shape α)(L:List (qg α)):(S.row L).length=L.length*S.k:=by
 induction L with
 |nil=>simp[Shape.row]
 |cons y L A=>
  show(S.cells y.lab y.u++S.row L).length=_;rw[j5,A,S.hk,kF,lU];omega
theorem Shape.a3Z(S:Shape α){L:List (qg α)}{i:Nat}{y:qg α}(A:L[i]? =U y){j:Nat}(E:j<S.k):(S.row L)[i*S.k+j]? =(S.cells y.lab y.u)[j]? :=by
 induction L generalizing i with
 |nil=>simp at A
 |cons z L C=>
  show(S.cells z.lab z.u++S.row L)[i*S.k+j]? =_;cases i with
  |zero=>
   simp at A;subst A;rw[List.getElem?_append_left (by rw[S.hk];omega)];simp
  |succ i=>
   simp at A;rw[List.getElem?_append_right (by rw[S.hk,lU];omega),S.hk,show(i+1)*S.k+j - S.k=i*S.k+j by rw[lU];omega];exact C A
def vQ(S:Shape α)(t:ko)(w:jJ)(B:Nat)(v:jP)(L:List (qg α)):Prop:=
 w.ownsRow B t S.k v L.length (S.row L)/\∀y,y∈L->S.ok y.lab/\S.nX w (λc=>B<=c/\v.ownBlock≠U c) y.u y.sub
theorem vQ.nil(S:Shape α)(t:ko)(w:jJ)(B:Nat):vQ S t w B (ny V 0 0) []:=⟨World.ownsRow_nil w B t S.k,λy h=>by cases h⟩
theorem vQ.block{S:Shape α}{w:jJ}{B:Nat}{v:jP}{L:List (qg α)}(h:vQ S t w B v L):∀b,v.ownBlock=U b->B<=b/\b<w.heap.size:=by
 rcases h.1.2 with⟨rfl,h0⟩|⟨g,cap,A,rfl,hb,hg,_⟩
 .intro b h;cases h
 .intro b h;cases h;exact⟨hb,(ku.1 hg).1⟩
theorem vQ.slice{S:Shape α}{w:jJ}{B:Nat}{v:jP}{L:List (qg α)}(h:vQ S t w B v L):∃oa cap,v=ny oa L.length cap:=by
 rcases h.1.2 with⟨rfl,h0⟩|⟨g,cap,A,rfl,_⟩
 .exact⟨V,0,by rw[h0]⟩
 .exact⟨_,cap,rfl⟩
theorem vQ.keep{S:Shape α}{w w':jJ}{B:Nat}{v:jP}{L:List (qg α)}(h:vQ S t w B v L)(hs:w.heap.size<=w'.heap.size)(hk:∀c,B<=c->c<w.heap.size->w'.heap[c]? =w.heap[c]?):vQ S t w' B v L:=by
 refine⟨⟨h.1.1,?_⟩,λy A=>⟨(h.2 y A).1,(h.2 y A).2.keep hs (λ_ _ h=>h) λc hc E=>hk c E.1 hc⟩⟩;rcases h.1.2 with h2|⟨g,cap,C,I,hg,hh,r⟩
 .exact .inl h2
 .refine .inr ⟨g,cap,C,I,hg,?_,r⟩
  rw[hk g hg (ku.1 hh).1];exact hh
theorem vQ.below{S:Shape α}{w w':jJ}{B:Nat}{v:jP}{L:List (qg α)}(h:vQ S t w B v L)(hb:jS w.heap.size w w'):vQ S t w' B v L:=
 h.keep hb.size λc _ hc=>hb.block c hc
theorem vQ.upd{S:Shape α}{w w':jJ}{B b:Nat}{v:jP}{L:List (qg α)}(h:vQ S t w B v L)(A:pE b w w')(hb:b<B):vQ S t w' B v L:=
 h.keep A.size λc hB hc=>A.block c hc (by simpa using by omega)
theorem vQ.subs{S:Shape α}{w:jJ}{B:Nat}{v:jP}{L:List (qg α)}(h:vQ S t w B v L):S.nX w (λc=>B<=c) v (L.map qg.tree):=by
 obtain⟨h1,h2⟩:=h;rcases h1.2 with⟨rfl,h0⟩|⟨g,cap,Y,rfl,hb,hg,E,N,hsz,htake⟩
 .have:L=[]:=mU.1 h0
  subst this;exact⟨V,0,rfl,jK _,kH _,λh=>absurd h nS⟩
 .refine⟨U (Z g 0 V),cap,by rw[List.length_map],by rw[List.length_map];exact E,N,λ_=>⟨g,0,rfl,(ku.1 hg).1,hb,?_⟩⟩
  have cell:∀i y,L[i]? =U y->∀j,j<S.k->w.cell? (Z g (i*S.k+j) V)=(S.cells y.lab y.u)[j]? :=by
   intro i y A j I;obtain⟨hi,_⟩:=lF.1 A;have hlt:i*S.k+j<(S.row L).length:=by
    rw[S.GK];have:(i+1)*S.k<=L.length*S.k:=Nat.mul_le_mul_right _ nL;rw[lU]at this;omega
   have:=World.ownsRow.cells h1 (g:=g) rfl (i*S.k+j) _ (jW hlt);have e1:((Z g 0 V):lH).add (i*S.k+j)=(Z g (i*S.k+j) V):=FM;rw[e1]at this;rw[this,<-jW hlt,S.a3Z A I]
  have row:∀(M:List (qg α))(i:Nat),(∀k y,M[k]? =U y->L[i+k]? =U y)->S.qy w (λc=>B<=c) (M.map qg.tree) g (i*S.k):=by
   intro M;induction M with
   |nil=>intro i _;simp only[List.map_nil,Shape.qy]
   |cons y M O=>
    intro i J;simp only[mQ,Shape.qy];have A:=J 0 y rfl;refine⟨?_,?_⟩
    .simp only[qg.tree,Shape.rz]
     have C:=kK A;exact⟨(h2 y C).1,y.u,λj I=>cell i y A j I,(h2 y C).2.keep (jK _) (λc _ h=>h.1) λ_ _ _=>rfl⟩
    .have:=O (i+1) λk z Q=>by
      have:=J (k+1) z Q;rwa [show i+1+k=i+(k+1)by omega]
     rwa [show(i+1)*S.k=i*S.k+S.k by rw[lU,Nat.one_mul]]at this
  have:=row L 0 λk y h=>by simpa using h
  simpa using this
theorem xB{S:Shape α}{P:ma}{st:ko}{I:TypeInfo}{z:jP}{bytes:Nat}(ht:P.underlying st=U (.slice t))(hi:P.info? t=U I)(A:I.zero=U z)(N:I.size=S.k)(aj:I.bytes=bytes)(ak:z.cells.size=S.k)(ae:0<S.k)(af:∀a o n c,∀u∈S.cells a (.slice o n c),u.oneCell'=true){ops:Array lY}{rest:List lY}{o:lY}{a:Act}{Q:Exit->Act->jJ->Prop}(au:o.guard=V)(x y:Operand)(ho:o.op=.call {callee:=.builtin .append,args:=#[x,y],argTypes:=#[st,st]})(B:Nat)(v:jP)(L:List (qg α))(e:qg α)(w:jJ)(cs:Array jP)(av:cs.toList=S.cells e.lab e.u)(aA:a.eval x=v)(C:vQ S t w B v L)(aB:a.eval y=.slice (U (Z w.heap.size 0 V)) 1 1)(hlen:L.length<=100000)(J:bytes<=1000)(hB:B<=w.heap.size)(hok:S.ok e.lab)(ag:S.nX w (λc=>B<=c/\v.ownBlock≠U c) e.u e.sub)(h:∀g cap w',vQ S t w' B (.slice (U (Z g 0 V)) (L.length+1) cap) (L++[e])->jS B w w'->w.heap.size<w'.heap.size->w.grownBy w' v.ownBlock->wpList P ops Q rest (a.put o.dst (.slice (U (Z g 0 V)) (L.length+1) cap)) w'):
  wpList P ops Q (o::rest) a (w.alloc (nH cs t)):=by
 have ax:=(jT w.heap.size w).alloc (jK _) (nH cs t);obtain⟨aC,aD,aa,_⟩:=ag
 refine wpList_append_lies _ au x y st ho B t I z S.k bytes ht hi A N aj ak ae v L.length (S.row L) aA (World.ownsRow.alloc C.1 _)
  (Z w.heap.size 0 V) 1 1 (S.row [e]) aB (by rw[S.GK];rfl) ?_ ?_ nO yD ?_ nT _ rfl ?_
 .intro j u ah
  have e1:((Z w.heap.size 0 V):lH).add j=(Z w.heap.size j V):=FM;rw[e1,World.cell?_alloc_mark w cs t (0,0) j,<-ah];have:S.row [e]=cs.toList:=by simp[Shape.row,av]
  rw[this];simp
 .intro u ay
  have:S.row [e]=S.cells e.lab e.u:=by simp[Shape.row]
  rw[this,aa]at ay;exact af _ _ _ _ u ay
 .calc (L.length+1)*bytes<=100001*1000:=Nat.mul_le_mul nL J
   _<=_:=nO
 .intro g cap w' h1 h2 O aF
  have hsz:(w.alloc (nH cs t)).heap.size=w.heap.size+1:=nS;have hb:jS B w w':=by
   refine((jT B w).alloc hB _).grown h2 nL λj ah=> ?_
   exact(C.block j ah).1
  have E:w.grownBy w' v.ownBlock:=
   ⟨h2.os,h2.tape,h2.output,by have:=h2.size;omega,λc hc az=>(h2.block c nL az).trans (ax.block c hc)⟩
  refine h g cap w' ⟨by rw[j5,S.P8];exact h1,λz A=> ?_⟩ hb (by have:=h2.size;omega) E;have key:∀z:qg α,S.ok z.lab->S.nX w (λc=>B<=c/\v.ownBlock≠U c) z.u z.sub->S.ok z.lab/\S.nX w' (λc=>B<=c/\(kM (U (Z g 0 V)) (L.length+1) cap).ownBlock≠U c) z.u z.sub:=by
   intro z ho hs;refine⟨ho,hs.keep (by have:=h2.size;omega) (λc hc Y=>⟨Y.1,?_⟩) λc hc Y=> ?_⟩
   .rcases O with O|O
    .rw[<-show v.ownBlock=(kM (U (Z g 0 V)) (L.length+1) cap).ownBlock from O];exact Y.2
    .intro ai;simp[kJ]at ai;omega
   .exact E.block c hc (λai=>Y.2 ai.symm)
  rcases List.mem_append.1 A with A|A
  .exact key z (C.2 z A).1 (C.2 z A).2
  .simp at A
   subst A;exact key z hok ⟨aC,aD,aa,‹_›⟩
end
def OD(y:qg IL):List jP:=[nz (txt y.lab),nC y.lab.list,y.u]
theorem AA(y:qg IL):(OD y).length=3:=rfl
def tV(w:jJ)(Q:Nat->Prop)(v:jP)(L:List (qg IL)):Prop:=
 pQ OD 3 w 0 IT v L/\(∀b,v.ownBlock=U b->Q b)/\∀y,y∈L->y.lab.text.length<=j3/\nW w (λc=>Q c/\v.ownBlock≠U c) y.u y.sub
theorem tV.nil(w:jJ)(Q:Nat->Prop):tV w Q (ny V 0 0) []:=⟨pQ.nil w 0 IT,λb h=>by simp[kJ]at h,λy h=>by cases h⟩
theorem tV.slice{w:jJ}{Q:Nat->Prop}{v:jP}{L:List (qg IL)}(h:tV w Q v L):∃oa cap,v=ny oa L.length cap:=h.1.slice
theorem tV.keep{w w':jJ}{Q Q':Nat->Prop}{v:jP}{L:List (qg IL)}(h:tV w Q v L)(hs:w.heap.size<=w'.heap.size)(hk:∀c,c<w.heap.size->Q c->w'.heap[c]? =w.heap[c]?)(C:∀c,c<w.heap.size->Q c->Q' c):tV w' Q' v L:=by
 refine⟨h.1.keep λb hb=>hk b (h.1.block b hb).2.1 (h.2.1 b hb),λb hb=>C b (h.1.block b hb).2.1 (h.2.1 b hb),λy E=>⟨(h.2.2 y E).1,?_⟩⟩;exact Shape.nX.keep (h.2.2 y E).2 hs (λc hc A=>⟨C c hc A.1,A.2⟩) λc hc A=>hk c hc A.1
theorem tV.subs{w:jJ}{Q:Nat->Prop}{v:jP}{L:List (qg IL)}(h:tV w Q v L):nW w Q v (L.map qg.tree):=by
 obtain⟨h1,O,h2⟩:=h;rcases h1.form with⟨rfl,rfl⟩|⟨g,cap,af,rfl,hb,hg,E,Y,hsz,htake⟩
 .exact⟨V,0,rfl,jK _,kH _,λh=>absurd h nS⟩
 .refine⟨U (Z g 0 V),cap,by rw[List.length_map],by rw[List.length_map];exact E,Y,λ_=>⟨g,0,rfl,hg.lt,O g rfl,?_⟩⟩
  have cell:∀i y,L[i]? =U y->∀j,j<3->w.cell? (Z g (i*3+j) V)=(OD y)[j]? :=by
   intro i y C j I;obtain⟨ag,J,_,_,_,_,hc,_⟩:=h1.at_ AA C;cases J;exact hc j I
  have row:∀(M:List (qg IL))(i:Nat),(∀k y,M[k]? =U y->L[i+k]? =U y)->sU.qy w Q (M.map qg.tree) g (i*3):=by
   intro M;induction M with
   |nil=>intro i _;simp only[List.map_nil,Shape.qy]
   |cons y M aa=>
    intro i N;simp only[mQ,Shape.qy];have C:=N 0 y rfl;refine⟨?_,?_⟩
    .simp only[qg.tree,Shape.rz]
     have A:=kK C;exact⟨(h2 y A).1,y.u,λj I=>cell i y C j I,Shape.nX.keep (h2 y A).2 (jK _) (λc _ h=>h.1) λ_ _ _=>rfl⟩
    .have:=aa (i+1) λk z ae=>by
      have:=N (k+1) z ae;rwa [show i+1+k=i+(k+1)by omega]
     rwa [show(i+1)*3=i*3+sU.k by rw[lU,Nat.one_mul];rfl]at this
  have:=row L 0 λk y h=>by simpa using h
  simpa using this
def XG:qg IL:=⟨⟨[],false⟩,ny V 0 0,[]⟩
def wo(w:jJ)(g o:Nat)(a b c:jP):jJ:=((w.setCell (Z g o V) a).setCell (Z g (o+1) V) b).setCell (Z g (o+2) V) c
theorem sM(w:jJ)(g o:Nat)(a b c:jP):((w.setCell (Z g o V) a).setCell (Z g (o+1) V) b).setCell (Z g (o+2) V) c=wo w g o a b c:=rfl
theorem uX{w:jJ}{g o:Nat}{a b c:jP}:(wo w g o a b c).heap.size=w.heap.size:=by simp[wo,kz]
theorem sN{w:jJ}{g o:Nat}{a b c:jP}(k:Nat)(h:k≠g):(wo w g o a b c).heap[k]? =w.heap[k]? :=by
 unfold wo;rw[j6 _ _ _ _ h,j6 _ _ _ _ h,j6 _ _ _ _ h]
theorem Nl(w:jJ)(g o:Nat)(a b c:jP):pE g w (wo w g o a b c):=(((pE.refl g w).set o a).set (o+1) b).set (o+2) c
theorem pQ.wo{w:jJ}{B g cap:Nat}{L:List (qg IL)}{z x:qg IL}(h:pQ OD 3 w B IT (ny (U (Z g 0 V)) (L.length+1) cap) (L++[z])):
  pQ OD 3 (wo w g (L.length*3) (nz (txt x.lab)) (nC x.lab.list) x.u) B IT (ny (U (Z g 0 V)) (L.length+1) cap) (L++[x]):=by
 have e:∀y:qg IL,(L++[y])[L.length]? =U y:=λy=>by simp
 have A:∀y u:qg IL,(L++[y]).set L.length u=L++[u]:=λy u=>by simp
 have h1:=h.set AA (e z) (j:=0) (x:=nz (txt x.lab)) (z:=⟨⟨x.lab.text,z.lab.list⟩,z.u,z.sub⟩) nO rfl;rw[A]at h1;have h2:=h1.set AA (e _) (j:=1) (x:=nC x.lab.list) (z:=⟨⟨x.lab.text,x.lab.list⟩,z.u,z.sub⟩) nO rfl;rw[A]at h2;have C:=h2.set AA (e _) (j:=2) (x:=x.u) (z:=x) nO rfl;rw[A]at C;exact C
theorem KI{p:Prop}(h:p:=by
 intro e;simp[kJ]at e;exact hgn c hc (hxv c hq) e.symm):p:=h
theorem tV.push{w w1:jJ}{Q J:Nat->Prop}{v:jP}{L:List (qg IL)}{x:qg IL}{g cap:Nat}(h:tV w Q v L)(hrow:pQ OD 3 w1 0 IT (ny (U (Z g 0 V)) (L.length+1) cap) (L++[XG]))(hg:w.grownBy w1 v.ownBlock)(C:v.ownBlock=U g\/w.heap.size<=g)(O:nW w J x.u x.sub)(hxv:∀c,J c->v.ownBlock≠U c)(N:x.lab.text.length<=j3):
  tV (wo w1 g (L.length*3) (nz (txt x.lab)) (nC x.lab.list) x.u) (λc=>Q c\/J c\/c=g) (ny (U (Z g 0 V)) (L.length+1) cap) (L++[x]):=by
 have hgn:∀c,c<w.heap.size->v.ownBlock≠U c->c≠g:=λc hc E e=>by
  rcases C with C|C
  .exact E (by rw[C,e])
  .omega
 have hsz:w.heap.size<=(wo w1 g (L.length*3) (nz (txt x.lab)) (nC x.lab.list) x.u).heap.size:=by rw[uX];exact hg.size
 have I:∀c,c<w.heap.size->v.ownBlock≠U c->(wo w1 g (L.length*3) (nz (txt x.lab)) (nC x.lab.list) x.u).heap[c]? =w.heap[c]? :=λc hc E=>by
  rw[sN c (hgn c hc E)];exact hg.block c hc (λe=>E e.symm)
 refine⟨hrow.wo,λb hb=> ?_,λy A=> ?_⟩
 .simp[kJ]at hb
  exact .inr (.inr hb.symm)
 .rcases List.mem_append.1 A with A|A
  .refine⟨(h.2.2 y A).1,Shape.nX.keep (h.2.2 y A).2 hsz (λc hc hq=>⟨.inl hq.1,?_⟩) λc hc hq=>I c hc hq.2⟩
   intro e;simp[kJ]at e;exact hgn c hc hq.2 e.symm
  .simp at A
   subst A;refine⟨N,Shape.nX.keep O hsz (λc hc hq=>⟨.inr (.inl hq),?_⟩) λc hc hq=>I c hc (hxv c hq)⟩;exact KI
structure Fr where
 v:jP
 L:List (qg IL)
 e:Nat
def D9(w:jJ):(Nat->Prop)->List Fr->Prop
 |_,[]=>True
 |A,x::xs=>∃Q:Nat->Prop,(∀c,Q c->¬A c)/\tV w Q x.v x.L/\D9 w (λc=>A c\/Q c) xs
theorem D9.keep{w w':jJ}(hs:w.heap.size<=w'.heap.size):∀{st:List Fr}{C A:Nat->Prop},D9 w C st->(∀c,c<w.heap.size->¬C c->w'.heap[c]? =w.heap[c]?)->(∀c,c<w.heap.size->A c->C c)->D9 w' A st
 |[],_,_,_,_,_=>trivial
 |x::xs,C,A,⟨Q,I,h1,h2⟩,hk,J=>by
  refine⟨λc=>Q c/\c<w.heap.size,λc hc h=>I c hc.1 (J c hc.2 h),h1.keep hs (λc hc E=>hk c hc (I c E)) (λc hc E=>⟨E,hc⟩),?_⟩;exact D9.keep hs h2 (λc hc hn=>hk c hc λh=>hn (.inl h)) λc hc h=>h.elim (λh=> .inl (J c hc h)) λh=> .inr h.1
theorem D9.below{w w':jJ}{st:List Fr}{A:Nat->Prop}(h:D9 w A st)(hb:jS w.heap.size w w'):D9 w' A st:=h.keep hb.size (λc hc _=>hb.block c hc) λ_ _ h=>h
section
variable {P:ma}{ops:Array lY}{md:Region.Mode}{S:jJ->Prop}{Q:Exit->Act->jJ->Prop}{n:Nat}
def a4a(md:Region.Mode)(ops:Array lY)(n:Nat):Bool:=(l5 ops.size).all λt=>decide (t<n)||(l5 n).all λi=>Region.waitsFor md ops t i
theorem UE(hb:a4a md ops n=true){A:Array Bool}{i j:Nat}(hi:i∈lN md ops A)(hin:i<n)(aa:j∈lN md ops A):j<n:=by
 obtain⟨ag,ae,E,I⟩:=mem_ready.1 aa;have N:j<ops.size:=(ku.1 E).1;have h1:=lM.1 hb j (mf.2 N);simp only[Bool.or_eq_true,decide_eq_true_eq]at h1;rcases h1 with h1|h1
 .exact h1
 .have h2:=lM.1 h1 i (mf.2 hin)
  obtain⟨af,O,e,he,Q,Y⟩:=Region.waitsFor_spec h2;have:af=ae:=l8 (O.symm.trans E);subst this;have C:=I e he Q;have h0:=(mem_ready.1 hi).1;rw[Y]at C;rcases kZ i A.size with J|J
  .simp[J]at h0 C;rw[h0]at C;cases C
  .simp[mZ J]at C
def xQ(P:ma)(md:Region.Mode)(ops:Array lY)(Q:Exit->Act->jJ->Prop)(S:jJ->Prop)(n:Nat):Nat->Array Bool->Act->jJ->Prop
 |0,A,a,w=>lN md ops A=[]/\Q .normal a w
 |fuel+1,A,a,w=>
  (lN md ops A=[]->Q .normal a w)/\
  ∀i∈lN md ops A,wpOp P ops Q i (λC w'=>(i<n->S w')/\xQ P md ops Q S n fuel (A.setIfInBounds i true) C w') a w
theorem Dc:∀(fuel:Nat)(A:Array Bool)(a:Act)(w:jJ),xQ P md ops Q S n fuel A a w->wpAny P md ops Q fuel A a w
 |0,_,_,_,h=>h
 |fuel+1,_,_,_,h=>⟨h.1,λi hi=>wpOp_mono (λC w' E=>Dc fuel _ C w' E.2) (h.2 i hi)⟩
theorem KJ{i:Nat}{oi:lY}{v:jP}(hin:i<n)(hb:a4a md ops n=true)(hi:ops[i]? =U oi)(N:∀(j:Nat) (o:lY) cs b,ops[j]? =U o->o.op≠.select cs b)(aB:∀c a w,Q (.panic c) (a.put oi.dst v) w->Q (.panic c) a w):
  ∀(fuel:Nat)(A:Array Bool)(a:Act)(w:jJ),
   (∀j I,ops[j]? =U I->j≠i->A.getD j true=false->(∀e∈I.after,mh md e=true->e.on≠i)->oi.apart ops I=true)->
   i∈lN md ops A->YieldsIf P ops S oi v a->S w->
   xQ P md ops Q S n fuel (A.setIfInBounds i true) (a.put oi.dst v) w->xQ P md ops Q S n (fuel+1) A a w:=by
 intro fuel;induction fuel with
 |zero=>
  intro A a w _ E ag O H;refine⟨λh=>(by rw[h]at E;cases E),λj Y=> ?_⟩;by_cases C:j=i;.subst C;exact ag.wpOp hi O ⟨λ_=>O,H⟩
  .have:=ready_mono Y C
   rw[H.1]at this;cases this
 |succ fuel aC=>
  intro A a w J E ag O H;refine⟨λh=>(by rw[h]at E;cases E),λj Y=> ?_⟩;by_cases C:j=i;.subst C;exact ag.wpOp hi O ⟨λ_=>O,H⟩
  .have ax:=UE hb E hin Y
   have h1:=H.2 j (ready_mono Y C);obtain⟨aa,I,ae,ak⟩:=mem_ready.1 Y;have au:∀e∈I.after,mh md e=true->e.on≠i:=λe he hb ay=>by
    have h1:=ak e he hb;have h0:=(mem_ready.1 E).1;rw[ay]at h1;rcases kZ i A.size with av|av
    .simp[av]at h0 h1;rw[h0]at h1;cases h1
    .simp[mZ av]at h1
   have h2:=wpOp_putIf ae (J j I ae C aa au) (λcs b=>N i oi cs b hi) (λcs b=>N j I cs b ae) aB ag h1
   have af:∀k ok,ops[k]? =U ok->k≠i->(A.setIfInBounds j true).getD k true=false->
     (∀e∈ok.after,mh md e=true->e.on≠i)->oi.apart ops ok=true:=λk ok hk az ai aA=>by
    refine J k ok hk az ?_ aA;by_cases aj:j=k;.subst aj;exact aa
    .rw[getD_set_ne true aj]at ai;exact ai
   refine wpOp_mono (λaD w' ah=>⟨ah.2.1,aC (A.setIfInBounds j true) aD w' af (ready_mono E (Ne.symm C)) ah.1 (ah.2.1 ax) ?_⟩) h2;rw[Array.setIfInBounds_comm _ _ C];exact ah.2.2
theorem nY{i:Nat}{oi:lY}{v:jP}{fuel:Nat}{A:Array Bool}{a:Act}{w:jJ}(hi:ops[i]? =U oi)(hin:decide (i<n)=true)(hb:a4a md ops n=true)(hs:Region.noSelect ops=true)(C:Region.free md ops A i=true)(E:(lN md ops A).contains i=true)(I:∀c a w,Q (.panic c) (a.put oi.dst v) w->Q (.panic c) a w)(J:YieldsIf P ops S oi v a)(N:S w)(h:xQ P md ops Q S n fuel (A.setIfInBounds i true) (a.put oi.dst v) w):xQ P md ops Q S n (fuel+1) A a w:=
 KJ (by simpa using hin) hb hi (Region.noSelect_spec hs) I fuel A a w (Region.free_spec hi C) (by simpa using E) J N h
theorem uY{i:Nat}{o:lY}{fuel:Nat}{A:Array Bool}{a:Act}{w:jJ}(E:lN md ops A=[i])(ho:ops[i]? =U o)(h:∀C:Act->jJ->Prop,Shut (∀a w,S w->(S w->xQ P md ops Q S n fuel (A.setIfInBounds i true) a w)->C a w)->if Region.wanted o (yielded ops a.tmps)=true then Oper.wp P o a w C Q else C (a.put o.dst kI) w):
  xQ P md ops Q S n (fuel+1) A a w:=by
 refine⟨λh0=>(by rw[E]at h0;cases h0),λj I=> ?_⟩;rw[E]at I;obtain rfl:=List.mem_singleton.1 I;exact wpOp_step ho λC N=>h C λa w J O=>N a w ⟨λ_=>J,O J⟩
theorem sI:∀(fuel:Nat)(A:Array Bool)(a:Act)(w:jJ),((l5 n).all λj=>A.getD j true)=true->wpAny P md ops Q fuel A a w->xQ P md ops Q S n fuel A a w
 |0,_,_,_,_,h=>h
 |fuel+1,A,a,w,I,h=>⟨h.1,λi hi=>by
  have hin:¬i<n:=λhin=>by
   have h1:=lM.1 I i (mf.2 hin);have h0:=(mem_ready.1 hi).1;rcases kZ i A.size with C|C
   .simp[C]at h0 h1;rw[h0]at h1;cases h1
   .simp[mZ C]at h0
  refine wpOp_mono (λN w' C=>⟨λh=>absurd h hin,sI fuel _ N w' ?_ C⟩) (h.2 i hi);refine lM.2 λj J=> ?_
  have h1:=lM.1 I j J;by_cases E:i=j;.exact absurd (E▸mf.1 J) hin
  .rw[getD_set_ne true E];exact h1⟩
theorem rX{id:Nat}{a:Act}{w:jJ}(n:Nat)(A:P.follows .mixedOrders=true)(C:S w.drew)(h:S w.drew->xQ P .any ops Q S n ops.size (lD ops.size false) a w.drew):(ll id ops true).wp P Q a w:=
 wp_region_any A (Dc _ _ _ _ (h C))
end
def rf2(x:Fr):List jP:=[x.v,nk nI (x.e:Nat)]
theorem AB(x:Fr):(rf2 x).length=2:=rfl
abbrev RT:ko:=278
abbrev OT:ko:=275
def OE(B bo bw:Nat)(vr:jP):Nat->Prop:=λc=>c<B\/c=bo\/c=bw\/vr.ownBlock=U c
structure rE(w:jJ)(B bo bw:Nat)(vr:jP)(st:List Fr):Prop where
 ho:nP w bo #[vr] OT
 row:pQ rf2 2 w B RT vr st.reverse
 nbo:vr.ownBlock≠U bo
 nbw:vr.ownBlock≠U bw
 Ij:D9 w (OE B bo bw vr) st
 Ik:B<=bo
 hbw:B<=bw
 ne:bo≠bw
 lt:bw<w.heap.size
theorem XH:wT jI 45 IT 3:=⟨Tryz.underlying45,⟨.agg #[.string ⟨#[]⟩,.bool false,.slice V 0 0],48,by
 obtain⟨i,h1,h2,A,C⟩:=info_parts (show(Tryz.prog.info? IT).map (λi=>(i.zero,i.size,i.bytes))=U (U (nD #[nz ⟨#[]⟩,nC false,ny V 0 0]),3,48)by kernel_rfl);exact⟨i,h1,h2,A,C,nO,rfl⟩⟩,nO⟩
theorem yh{P:ma}{st:ko}(T:wT P st IT 3){ops:Array lY}{o:lY}{a:Act}{K:Act->jJ->Prop}{Q:Exit->Act->jJ->Prop}{E:Prop}(C:o.guard=V)(s x:Operand)(ho:o.op=.call {callee:=.builtin .append,args:=#[s,x],argTypes:=#[st,st]}){w:jJ}{B b c:Nat}{v:jP}{L:List (qg IL)}{y:qg IL}{cs:Array jP}(hs:a.eval s=v)(A:pQ OD 3 w B IT v L)(J:a.eval x=ny (U (Z b 0 V)) 1 c)(hb:nP w b cs t')(I:cs.toList=OD y)(h1:∀u∈OD y,u.oneCell'=true)(hlen:L.length<=1000000)(hB:B<=w.heap.size)(h:∀g cap w',pQ OD 3 w' B IT (ny (U (Z g 0 V)) (L.length+1) cap) (L++[y])->w.grownBy w' v.ownBlock->(v.ownBlock=U g\/g=w.heap.size)->g<w'.heap.size->K (a.put o.dst (ny (U (Z g 0 V)) (L.length+1) cap)) w'):
  if Region.wanted o (yielded ops a.tmps)=true then Oper.wp P o a w K Q else E:=by
 have N:Region.wanted o (yielded ops a.tmps)=true:=by simp[Region.wanted,C]
 rw[if_pos N];obtain⟨g,cap,w',O,h2,Y,aa,ae,_⟩:=Db (ty:=o.type) T AA A hb I h1 hlen hB;unfold Oper.wp execOp;simp only[ho,resolve,invoke,builtin,Sem.run_bind,Sem.run_pure,Result.andThen_ok,List.map_toArray,mQ,List.map_nil,hs,J];rw[O];exact h g cap w' h2 Y aa ae
theorem vD{w w':jJ}{b:Nat}(i:Nat)(v:jP)(h:w.heap[b]? =w'.heap[b]?):(w.setCell (Z b i V) v).heap[b]? =(w'.setCell (Z b i V) v).heap[b]? :=by
 simp only[kz];rw[lu,lu,if_pos rfl,if_pos rfl,h]
theorem P9{w w':jJ}{b:Nat}(o:Nat)(x y z:jP)(h:w.heap[b]? =w'.heap[b]?):(wo w b o x y z).heap[b]? =(wo w' b o x y z).heap[b]? :=
 vD _ _ (vD _ _ (vD _ _ h))
theorem a1g{w W w2 W3:jJ}{B bo bw go C aC cap N:Nat}{vr:jP}{x:Fr}{xs:List Fr}{y:qg IL}{ak:Nat->Prop}{aM:Array jP}(h:rE w B bo bw vr (x::xs))(hbw:nP w bw aM IT)(aN:vr=ny (U (Z go 0 V)) (N+1) aC)(aO:xs.length=N)(aV:nW w ak y.u y.sub)(aP:∀c,ak c->¬OE B bo bw vr c)(hL:D9 w (λc=>OE B bo bw vr c\/ak c) (x::xs))(aQ:y.lab.text.length<=j3)(aa:jS w.heap.size w W)(ax:pQ OD 3 w2 0 IT (ny (U (Z C 0 V)) (x.L.length+1) cap) (x.L++[XG]))(I:W.grownBy w2 x.v.ownBlock)(ae:x.v.ownBlock=U C\/C=W.heap.size)(aR:∀c,c≠C->c≠go->W3.heap[c]? =w2.heap[c]?)(aW:W3.heap[C]? =(wo w2 C (x.L.length*3) (nz (txt y.lab)) (nC y.lab.list) y.u).heap[C]?)(aX:W3.heap[go]? =(w2.setCell (Z go (N*2) V) (ny (U (Z C 0 V)) (x.L.length+1) cap)).heap[go]?)(aD:W3.heap.size=w2.heap.size)(aF:W3.os=w2.os/\W3.tape=w2.tape/\W3.output=w2.output):
  ∃v',rE W3 B bo bw vr (⟨v',x.L++[y],x.e⟩::xs)/\nP W3 bw aM IT/\jS B w W3:=by
 subst aN;obtain⟨Q,af,au,aS⟩:=hL;have ag:go<w.heap.size/\B<=go:=⟨(h.row.block go rfl).2.1,(h.row.block go rfl).1⟩;have ah:∀c,Q c->c≠go:=λc hc e=>af c hc (.inl (by subst e;exact .inr (.inr (.inr rfl))))
 have aG:∀c,ak c->c≠go:=λc hc e=>aP c hc (by subst e;exact .inr (.inr (.inr rfl)))
 have E:∀b,x.v.ownBlock=U b->b<w.heap.size/\Q b:=λb hb=>⟨(au.1.block b hb).2.1,au.2.1 b hb⟩
 have aH:C≠go:=by
  rintro rfl;rcases ae with ae|ae
  .exact ah _ (E _ ae).2 rfl
  .have:=aa.size;omega
 have hsz:w.heap.size<=w2.heap.size:=jY aa.size I.size;have J:w.grownBy w2 x.v.ownBlock:=⟨I.os.trans aa.os,I.tape.trans aa.tape,I.output.trans aa.output,hsz,λc hc aT=>(I.block c (kG hc aa.size) aT).trans (aa.block c hc)⟩;have O:x.v.ownBlock=U C\/w.heap.size<=C:=ae.imp id λe=>by have:=aa.size;omega
 have ay:pQ rf2 2 w2 B RT (ny (U (Z go 0 V)) (N+1) aC) (x::xs).reverse:=h.row.keep λb hb=>by
  simp[kJ]at hb;subst hb;exact J.block _ ag.1 λe=>ah _ (E _ e.symm).2 rfl
 have aI:∀z:Fr,(z::xs).reverse[N]? =U z:=λz=>by simp[<-aO]
 have aJ:∀z u:Fr,(z::xs).reverse.set N u=(u::xs).reverse:=λz u=>by simp[<-aO]
 have aj:=ay.set AB (aI x) (j:=0) (x:=ny (U (Z C 0 V)) (x.L.length+1) cap) (z:=⟨ny (U (Z C 0 V)) (x.L.length+1) cap,x.L++[y],x.e⟩) nO rfl;rw[aJ,Nat.add_zero]at aj;have az:=tV.push au ax J O aV (λc hc e=>af c (E c e).2 (.inr hc)) aQ;have ai:w.heap.size<=W3.heap.size:=by rw[aD];exact hsz
 have Y:∀c,c<w.heap.size->¬Q c->c≠go->W3.heap[c]? =w.heap[c]? :=λc hc A hn=>by
  have:c≠C:=by
   rintro rfl;rcases O with e|e
   .exact A (E _ e).2
   .omega
  rw[aR c this hn];exact J.block c hc λe=>A (E _ e.symm).2
 have av:∀c,OE B bo bw (ny (U (Z go 0 V)) (N+1) aC) c->¬Q c:=λc hc A=>af c A (.inl hc)
 have aK:=av bo (.inr (.inl rfl));have aL:=av bw (.inr (.inr (.inl rfl)));have aA:bo≠go:=λe=>h.nbo (by subst e;rfl)
 have aB:bw≠go:=λe=>h.nbw (by subst e;rfl)
 refine⟨ny (U (Z C 0 V)) (x.L.length+1) cap,⟨?_,?_,h.nbo,h.nbw,⟨λc=>Q c\/ak c\/(c=C/\C<W3.heap.size),λc hc hn=> ?_,?_,?_⟩,h.Ik,h.hbw,h.ne,kG h.lt ai⟩,?_,?_⟩
 .unfold nP
  rw[Y bo h.ho.lt aK aA];exact h.ho
 .refine aj.keep λb hb=> ?_
  simp[kJ]at hb;subst hb;exact aX
 .rcases hc with hc|hc|⟨rfl,_⟩
  .exact af c hc (.inl hn)
  .exact aP c hc hn
  .rcases O with e|e
   .exact af _ (E _ e).2 (.inl hn)
   .rcases hn with hn|rfl|rfl|hn
    .have:=ag.2;omega
    .have:=h.ho.lt;omega
    .have:=h.lt;omega
    .simp[kJ]at hn;exact aH hn.symm
 .refine az.keep (by rw[uX,aD];exact jK _) (λc hc A=> ?_) λc hc A=> ?_
  .by_cases e:c=C
   .subst e;exact aW
   .rw[sN c e]
    refine aR c e ?_;rcases A with A|A|A
    .exact ah c A
    .exact aG c A
    .exact absurd A e
  .rw[uX,<-aD]at hc
   rcases A with A|A|A
   .exact .inl A
   .exact .inr (.inl A)
   .exact .inr (.inr ⟨A,A▸hc⟩)
 .refine aS.keep ai (λc hc hn=>Y c hc (λA=>hn (.inr A)) λe=>hn (.inl (.inl (by subst e;exact .inr (.inr (.inr rfl)))))) λc hc hn=> ?_
  rcases hn with hn|hn|hn|⟨rfl,_⟩
  .exact .inl (.inl hn)
  .exact .inr hn
  .exact .inl (.inr hn)
  .rcases O with e|e
   .exact .inr (E _ e).2
   .omega
 .unfold nP
  rw[Y bw h.lt aL aB];exact hbw
 .refine⟨aF.1.trans J.os,aF.2.1.trans J.tape,aF.2.2.trans J.output,ai,λc hc=> ?_⟩
  have aU:c<w.heap.size:=by have:=ag.1;have:=ag.2;omega
  exact Y c aU (av c (.inl hc)) (by have:=ag.2;omega)
theorem De(x:Fr)(xs:List Fr)(w:jJ)(B bo bw:Nat)(vr:jP)(y:qg IL)(aT:Nat->Prop)(bu:Array jP)(h:rE w B bo bw vr (x::xs))(hn:xs.length<=100)(hl:x.L.length<=100000)(hbw:nP w bw bu IT)(ax:nW w aT y.u y.sub)(bz:∀c,aT c->¬OE B bo bw vr c)(hL:D9 w (λc=>OE B bo bw vr c\/aT c) (x::xs))(bA:y.lab.text.length<=j3):
  jV jI 241 #[nD #[nz (txt y.lab),nC y.lab.list,y.u],nA (U (Z bo 0 V)),nA (U (Z bw 0 V))] w
   λe w'=>e=nG (nE #[])/\∃v',rE w' B bo bw vr (⟨v',x.L++[y],x.e⟩::xs)/\nP w' bw bu IT/\jS B w w':=by
 obtain⟨u,aH⟩:=nV y.u;obtain⟨o,n,c,rfl,_⟩:∃o n c,u=ny o n c/\True:=by obtain⟨o,c,h1,_⟩:=nW.slice ax;exact⟨o,_,c,by rw[<-aH,h1],trivial⟩
 rw[aH]at ax⊢;obtain⟨g,hg⟩:=nV w.heap.size;obtain⟨oa,bK,aK⟩:=h.row.slice;have aL:(x::xs).reverse.length=xs.length+1:=nS;rw[aL]at aK;subst aK;obtain⟨go,rfl,bV,af,_,aU,Y,bB⟩:=pQ.at_ h.row AB (i:=xs.length) (y:=x) nS;have r0:w.cell? (Z go (xs.length*2) V)=U x.v:=Y 0 nO;have r1:w.cell? (Z go (xs.length*2+1) V)=U (nk nI (x.e:Nat)):=Y 1 nO;have o0:w.cell? (Z bo 0 V)=U (ny (U (Z go 0 V)) (xs.length+1) bK):=h.ho.cell 0;have aV:=h.ho.lt;have aW:jX (w.cell? (Z go (xs.length*2) V)=U x.v):=jH r0;have aX:=jH (rT (T:=txt y.lab) (l:=y.lab.list) (t:=IT) ax);rw[hg]at aX;have H:=jH h;have bL:=jH hL;have bC:=jH hbw;have bM:=jH ax;have bN:=jH bz;clear h hL hbw ax aL bz;obtain⟨N,aY⟩:=nV xs.length;have ay:=jH aY;rw[aY]at r0 r1 o0 hn Y aU;obtain⟨M,aI⟩:=nV x.L.length;have az:=jH aI;obtain⟨ov,cv,av⟩:∃ov cv,x.v=ny ov M cv:=by
  obtain⟨Q,_,h1,_⟩:=H.Ij;obtain⟨ov,cv,h2⟩:=h1.slice;exact⟨ov,cv,by rw[h2,aI]⟩
 rw[aI]at hl;rw[av]at r0;rw[ay.out,av]at aW;clear Y aY aI;go_in;go_upto_region 1 with fail;generalize w.alloc (nH #[nz (txt y.lab),nC y.lab.list,ny o n c] IT)=w1 at*;obtain⟨ai,aM,aZ,b0,b1,bg,aN⟩:=aX.out _ rfl;have bD:=(ai.cell (p:=(Z go (xs.length*2) V)) (hg▸af)).trans (ay.out▸r0);rw[ay.out]at bD;have p0:=(ai.cell (p:=(Z bo 0 V)) (hg▸aV)).trans o0;have bE:=jH (jU ai (jU aM aN));clear aX ai aM aN r0 r1 o0;have hw1:w1.heap.size=g+1:=by rw[aZ]
 have bO:go<w1.heap.size:=nL;have bW:(0:Int)<=(M:Int):=Int.natCast_nonneg _;have bX:(M:Int)<(M:Int)+1:=nL;have aO:∀b,(kM ov M cv).ownBlock=U b->b<g/\b≠go:=by
  obtain⟨Q,bF,aP,_⟩:=H.Ij;intro b hb;rw[<-av]at hb;refine⟨hg▸(aP.1.block b hb).2.1,λe=> ?_⟩;subst e;exact bF _ (aP.2.1 _ hb) (.inr (.inr (.inr rfl)))
 have aj:=jH aO;have aA:jX (∀W,w1.drew.alloc (nH #[nz ⟨#[]⟩,nC false,ny V 0 0] IT)=W->pQ OD 3 W 0 IT (ny ov M cv) x.L/\nP W (g+1) #[nz ⟨#[]⟩,nC false,ny V 0 0] IT/\jS g w W/\W.heap.size=g+2):=jH λW e=>by
  subst e;have ag:jS g w (w1.drew.alloc (nH #[nz ⟨#[]⟩,nC false,ny V 0 0] IT)):=bE.1.drew.alloc (by rw[show w1.drew.heap.size=w1.heap.size from rfl];omega) _;have aQ:(w1.drew.alloc (nH #[nz ⟨#[]⟩,nC false,ny V 0 0] IT)).heap.size=g+2:=by simp only[World.alloc,World.drew,Array.size_push];omega
  obtain⟨Q,_,h1,_⟩:=H.Ij;refine⟨?_,?_,ag,aQ⟩
  .rw[<-av]
   exact h1.1.keep λb hb=>ag.block b (hg▸(h1.1.block b hb).2.1)
  .have:=nP.new w1.drew #[nz ⟨#[]⟩,nC false,ny V 0 0] IT
   rwa [show w1.drew.heap.size=g+1 from hw1]at this
 have bP:jX (∀C cap (W w2:jJ),w1.drew.alloc (nH #[nz ⟨#[]⟩,nC false,ny V 0 0] IT)=W->pQ OD 3 w2 0 IT (ny (U (Z C 0 V)) (M+1) cap) (x.L++[XG])->W.grownBy w2 (kM ov M cv).ownBlock->((kM ov M cv).ownBlock=U C\/C=W.heap.size)->
   (w2.cell? (Z go (N*2) V)=U (ny ov M cv)/\w2.cell? (Z g 0 V)=U (nz (txt y.lab))/\w2.cell? (Z g 1 V)=U (nC y.lab.list)/\w2.cell? (Z g 2 V)=U (ny o n c))/\
   w2.frozen? (Z go (N*2) V)=false/\C≠go/\C≠g/\(w2.cell? (Z C (M*3) V)=U (nz ⟨#[]⟩)/\w2.cell? (Z C (M*3+1) V)=U (nC false)/\w2.cell? (Z C (M*3+2) V)=U (ny V 0 0))/\
   (w2.frozen? (Z C (M*3) V)=false/\w2.frozen? (Z C (M*3+1) V)=false/\w2.frozen? (Z C (M*3+2) V)=false)/\M+1<=cap):=jH λC cap W w2 e h1 h2 ah=>by
  obtain⟨_,_,ag,aQ⟩:=aA.out W e;have aB:go<g:=hg▸af;have f1:∀i,w2.cell? (Z go i V)=w.cell? (Z go i V):=λi=>(h2.cell_far (Z go i V) (show go<W.heap.size by omega) (λe=>(aj _ e.symm).2 rfl)).trans (ag.cell (p:=(Z go i V)) aB)
  have f2:∀i,w2.frozen? (Z go i V)=w.frozen? (Z go i V):=λi=>(h2.frozen_far (Z go i V) (show go<W.heap.size by omega) (λe=>(aj _ e.symm).2 rfl)).trans (ag.frozen (p:=(Z go i V)) aB)
  have aR:U g≠(kM ov M cv).ownBlock:=λe=>by have:=(aj _ e.symm).1;omega
  have f3:∀i,w2.cell? (Z g i V)=w1.cell? (Z g i V):=λi=>by
   subst e;exact(h2.cell_far (Z g i V) (show g<_ by omega) aR).trans ((jT w1.heap.size w1).drew.alloc (jK _) _|>.cell (p:=(Z g i V)) (show g<w1.heap.size by omega))
  obtain⟨bY,bQ,_,_,_,aJ,hc,bq⟩:=pQ.at_ h1 AA (i:=M) (y:=XG) (by rw[<-az.out];simp);cases bQ;refine⟨⟨?_,(f3 0).trans b0,(f3 1).trans b1,(f3 2).trans bg⟩,?_,?_,?_,⟨hc 0 nO,hc 1 nO,hc 2 nO⟩,⟨bq _,bq _,bq _⟩,aJ⟩;.rw[f1];exact aW
  .rw[f2];exact bB _
  .rintro rfl
   rcases ah with ah|ah
   .exact(aj _ ah).2 rfl
   .omega
  .rintro rfl
   rcases ah with ah|ah
   .exact aR ah.symm
   .omega
 clear aO;go_upto_region 4 with fail;refine rX (S:=λw'=>w'.cell? (Z go (N*2) V)=U (ny ov M cv)/\w'.cell? (Z g 0 V)=U (nz (txt y.lab))/\w'.cell? (Z g 1 V)=U (nC y.lab.list)/\w'.cell? (Z g 2 V)=U (ny o n c)) 7 nN ⟨bD,b0,b1,bg⟩ (λI=> ?_);refine nY (i:=0) (oi:= ?oi0) (v:= ?v0) ?hi0 nN nN nN nN nN ?hQ0 (kP ⟨?hw0,?hy0⟩) I ?a5R;case hi0=>simp only[jO,jM,jN]<;>rfl
 case hQ0=>exact λ_ _ _ h=>h
 case hw0=>rfl
 case hy0=>(intro w A;(try dsimp only at A);go_simp;try rfl)
 simp only[kE,jL,jQ,jR];refine nY (i:=1) (oi:= ?oi1) (v:= ?v1) ?hi1 nN nN nN nN nN ?hQ1 (kP ⟨?hw1,?hy1⟩) I ?a5S;case hi1=>simp only[jO,jM,jN]<;>rfl
 case hQ1=>exact λ_ _ _ h=>h
 case hw1=>rfl
 case hy1=>(intro w A;(try dsimp only at A);go_simp;try rfl)
 simp only[kE,jL,jQ,jR];refine nY (i:=2) (oi:= ?oi2) (v:= ?v2) ?hi2 nN nN nN nN nN ?hQ2 (kP ⟨?hw2,?hy2⟩) I ?a5T;case hi2=>simp only[jO,jM,jN]<;>rfl
 case hQ2=>exact λ_ _ _ h=>h
 case hw2=>rfl
 case hy2=>(intro w A;(try dsimp only at A);go_simp;try rfl)
 simp only[kE,jL,jQ,jR];refine nY (i:=3) (oi:= ?oi3) (v:= ?v3) ?hi3 nN nN nN nN nN ?hQ3 (kP ⟨?hw3,?hy3⟩) I ?a5U;case hi3=>simp only[jO,jM,jN]<;>rfl
 case hQ3=>exact λ_ _ _ h=>h
 case hw3=>rfl
 case hy3=>(intro w A;(try dsimp only at A);go_simp;try rfl)
 simp only[kE,jL,jQ,jR];refine nY (i:=4) (oi:= ?oi4) (v:= ?v4) ?hi4 nN nN nN nN nN ?hQ4 (kP ⟨?hw4,?hy4⟩) I ?a5V;case hi4=>simp only[jO,jM,jN]<;>rfl
 case hQ4=>exact λ_ _ _ h=>h
 case hw4=>rfl
 case hy4=>(intro w A;(try dsimp only at A);go_simp;try rfl)
 simp only[kE,jL,jQ,jR];refine nY (i:=5) (oi:= ?oi5) (v:= ?v5) ?hi5 nN nN nN nN nN ?hQ5 (kP ⟨?hw5,?hy5⟩) I ?a5W;case hi5=>simp only[jO,jM,jN]<;>rfl
 case hQ5=>exact λ_ _ _ h=>h
 case hw5=>rfl
 case hy5=>(intro w A;(try dsimp only at A);go_simp;try rfl)
 simp only[kE,jL,jQ,jR];refine uY (i:=6) (o:= ?oi6) nN ?hi6 (λK E=> ?_);case hi6=>simp only[jO,jM,jN]<;>rfl
 go_simp;obtain⟨bG,bH,aS,bI⟩:=aA.out _ rfl;have ak:∀i,(w1.drew.alloc (nH #[nz ⟨#[]⟩,nC false,ny V 0 0] IT)).cell? (Z g i V)=w1.cell? (Z g i V):=λi=>((jT w1.heap.size w1).drew.alloc (jK _) _).cell (p:=(Z g i V)) (show g<w1.heap.size by omega)
 refine E _ _ ⟨(aS.cell (p:=(Z go (N*2) V)) (hg▸af)).trans aW.out,(ak 0).trans b0,(ak 1).trans b1,(ak 2).trans bg⟩ (λaC=> ?_);clear E K ak bG bH aS bI aC;try simp only[kE,jL,jQ,jR]
 refine sI _ _ _ _ nN (wpAny_of_held (S:=λ_=>True) _ _ _ _ ?_);refine lS (rs:=[7]) nN nS ?_;refine kW (o:= ?oi7) ?hi7 (λK E=> ?_) lq;case hi7=>simp only[jO,jM,jN]<;>rfl
 refine yh XH (by rfl) _ _ (by rfl) (B:=0) (L:=x.L) (y:=XG) (by rfl) (aA _ (by rfl)).1 (by rfl) (aA _ (by rfl)).2.1 rfl nO (by rw[az.out];omega) nL ?_;intro C cap w2 O aa au hlt;have bZ:=jH (jU O (jU aa (jU au hlt)));have aD:=jH (λW3=>a1g (W3:=W3) (W:=(w1.alloc (nH #[nz ⟨#[]⟩,nC false,ny V 0 0] IT)).drew) (N:=N) H bC (by rw[ay.out]) ay (by rw[aH];exact bM) bN bL bA (hg.symm▸(aA _ (by rfl)).2.2.1) O (by rw[av];exact aa) (by rw[av];exact au));rw[az.out,aH]at aD;rw[az.out]at O;rw[az.out];obtain⟨bJ,z0,J,cz,⟨bR,bS,bT⟩,⟨dx,dz,z3⟩,cK⟩:=bP.out C cap _ w2 (by rfl) O aa au;obtain⟨bU,_⟩:=bJ;clear O aa au hlt;refine E _ _ trivial (λae=> ?_);clear E K;try simp only[kE,jL,jQ,jR]
 refine kU (i:=8) (oi:= ?oi8) (v:= ?v8) ?hi8 nN nN nN ?hQ8 (kP ⟨?hw8,?hy8⟩) ae ?a5X;case hi8=>simp only[jO,jM,jN]<;>rfl
 case hQ8=>exact λ_ _ _ h=>h
 case hw8=>rfl
 case hy8=>(intro w A;(try dsimp only at A);go_simp;try rfl)
 simp only[kE,jL,jQ,jR];refine kU (i:=10) (oi:= ?a8m) (v:= ?v10) ?a3k nN nN nN ?a3l (kP ⟨?a3m,?a3n⟩) ae ?a3o;case a3k=>simp only[jO,jM,jN]<;>rfl
 case a3l=>exact λ_ _ _ h=>h
 case a3m=>rfl
 case a3n=>(intro w A;(try dsimp only at A);go_simp;try rfl)
 simp only[kE,jL,jQ,jR];refine kU (i:=11) (oi:= ?a8n) (v:= ?v11) ?a3p nN nN nN ?a3q (kP ⟨?a3r,?a3s⟩) ae ?a3t;case a3p=>simp only[jO,jM,jN]<;>rfl
 case a3q=>exact λ_ _ _ h=>h
 case a3r=>rfl
 case a3s=>(intro w A;(try dsimp only at A);go_simp;try rfl)
 simp only[kE,jL,jQ,jR];refine lS (rs:=[9,12]) nN nS ?_;refine kW (o:= ?oi9) ?hi9 (λK E=> ?_) ?more;case hi9=>simp only[jO,jM,jN]<;>rfl
 case more=>
  refine kW (o:= ?a5Y) ?Ws (λK E=> ?_) lq;case Ws=>simp only[jO,jM,jN]<;>rfl
  go_simp;refine E _ _ trivial (λaF=> ?_);clear E K;try simp only[kE,jL,jQ,jR]
  have cZ:=(World.cell?_setCell_far w2 (Z go (N*2) V) (Z C (M*3) V) (ny (U (Z C 0 V)) (M+1) cap) (Ne.symm J)).trans bR;have df:=(World.cell?_setCell_far w2 (Z go (N*2) V) (Z C (M*3+1) V) (ny (U (Z C 0 V)) (M+1) cap) (Ne.symm J)).trans bS;have dh:=(World.cell?_setCell_far w2 (Z go (N*2) V) (Z C (M*3+2) V) (ny (U (Z C 0 V)) (M+1) cap) (Ne.symm J)).trans bT;refine lS (rs:=[9]) nN nS ?_;refine kW (o:= ?oi9) ?hi9 (λK E=> ?_) lq;case hi9=>simp only[jO,jM,jN]<;>rfl
  go_simp;refine E _ _ trivial (λaG=> ?_);clear E K;try simp only[kE,jL,jQ,jR]
  refine wpAnyH_done nN ?_ _;go_end0;refine⟨rfl,aD _ (λc h1 h2=> ?_) ?_ ?_ (by simp[kz]) ⟨rfl,rfl,rfl⟩⟩;.rw[sM,sN c h1,j6 _ _ _ _ h2]
  .rw[sM]
   exact P9 _ _ _ _ (j6 _ _ _ _ J)
  .rw[sM,sN go (Ne.symm J)]
 go_simp;refine E _ _ trivial (λaF=> ?_);clear E K;try simp only[kE,jL,jQ,jR]
 have dw:(((w2.setCell (Z C (M*3) V) (nz (txt y.lab))).setCell (Z C (M*3+1) V) (nC y.lab.list)).setCell (Z C (M*3+2) V) (ny o n c)).cell? (Z go (N*2) V)=U (ny ov M cv):=by
  rw[World.cell?_setCell_far _ _ _ _ J,World.cell?_setCell_far _ _ _ _ J,World.cell?_setCell_far _ _ _ _ J];exact bU
 refine lS (rs:=[12]) nN nS ?_;refine kW (o:= ?a5Y) ?Ws (λK E=> ?_) lq;case Ws=>simp only[jO,jM,jN]<;>rfl
 go_simp;refine E _ _ trivial (λaG=> ?_);clear E K;try simp only[kE,jL,jQ,jR]
 refine wpAnyH_done nN ?_ _;go_end0;refine⟨rfl,aD _ (λc h1 h2=> ?_) ?_ ?_ (by simp[kz]) ⟨rfl,rfl,rfl⟩⟩;.rw[sM,j6 _ _ _ _ h2,sN c h1]
 .rw[sM,j6 _ _ _ _ J]
 .rw[sM]
  exact vD _ _ (sN go (Ne.symm J))
theorem UF{w w1:jJ}{B bo bw:Nat}{vr:jP}{E:Nat->Prop}{C:Array jP}{T:ByteArray}{l:Bool}{v:jP}{s:List (nM IL)}(h:rE w B bo bw vr [])(hbw:nP w bw C IT)(J:nW w E v s)(N:∀c,E c->¬OE B bo bw vr c)(hc:C.size=3)(h1:jS w.heap.size w w1):
  rE (wo w1 bw 0 (nz T) (nC l) v) B bo bw vr []/\nP (wo w1 bw 0 (nz T) (nC l) v) bw #[nz T,nC l,v] IT/\nW (wo w1 bw 0 (nz T) (nC l) v) E v s/\jS B w (wo w1 bw 0 (nz T) (nC l) v):=by
 have I:=Below.blk h1 hbw h.lt;have hB:jS B w (wo w1 bw 0 (nz T) (nC l) v):=by
  have h2:=(h1.mono (show B<=w.heap.size by have:=h.hbw;have:=h.lt;omega));exact pE.below (Nl w1 bw 0 (nz T) (nC l) v) h2 h.hbw (by have:=h1.size;have:=h.hbw;have:=h.lt;omega)
 have A:∀c,c<w.heap.size->c≠bw->(wo w1 bw 0 (nz T) (nC l) v).heap[c]? =w.heap[c]? :=λc hc hn=>(sN c hn).trans (h1.block c hc)
 refine⟨⟨?_,h.row.keep λb hb=>A b (h.row.block b hb).2.1 (λe=>h.nbw (e▸hb)),h.nbo,h.nbw,trivial,h.Ik,h.hbw,h.ne,by rw[uX];exact kG h.lt h1.size⟩,?_,?_,hB⟩
 .unfold nP
  rw[A bo h.ho.lt h.ne];exact h.ho
 .have:=(((I.set 0 (nz T)).set 1 (nC l)).set 2 v)
  have e:((C.setIfInBounds 0 (nz T)).setIfInBounds 1 (nC l)).setIfInBounds 2 v=#[nz T,nC l,v]:=by
   obtain⟨L⟩:=C
   match L,hc with
   |[a,b,c],_=>rfl
  rw[e]at this;exact this
 .exact Shape.nX.keep J (by rw[uX];exact h1.size) (λ_ _ h=>h) λc hc O=>A c hc λe=>N c O (.inr (.inr (.inl e)))
theorem zW(w:jJ)(B bo bw:Nat)(vr:jP)(y:qg IL)(Q:Nat->Prop)(a0 a1 a2:jP)(h:rE w B bo bw vr [])(hbw:nP w bw #[a0,a1,a2] IT)(E:nW w Q y.u y.sub)(ae:∀c,Q c->¬OE B bo bw vr c):
  jV jI 241 #[nD #[nz (txt y.lab),nC y.lab.list,y.u],nA (U (Z bo 0 V)),nA (U (Z bw 0 V))] w
   λe w'=>e=nG (nE #[])/\rE w' B bo bw vr []/\nP w' bw #[nz (txt y.lab),nC y.lab.list,y.u] IT/\nW w' Q y.u y.sub/\jS B w w':=by
 obtain⟨u,af⟩:=nV y.u;obtain⟨o,n,c,rfl,_⟩:∃o n c,u=ny o n c/\True:=by obtain⟨o,c,h1,_⟩:=nW.slice E;exact⟨o,_,c,by rw[<-af,h1],trivial⟩
 rw[af]at E⊢;obtain⟨g,hg⟩:=nV w.heap.size;obtain⟨oa,ag,O⟩:=h.row.slice;have I:vr=ny oa 0 ag:=O;have o0:w.cell? (Z bo 0 V)=U (ny oa 0 ag):=by rw[<-I];exact h.ho.cell 0
 have J:=h.ho.lt;have Y:=jH (rT (T:=txt y.lab) (l:=y.lab.list) (t:=IT) E);have N:=jH (λw1 h1=>UF (w1:=w1) (T:=txt y.lab) (l:=y.lab.list) h hbw E ae rfl h1);have A:=h.lt;have c0:=hbw.cell 0;have c1:=hbw.cell 1;have c2:=hbw.cell 2;obtain⟨z0,ah,ai⟩:=hbw.f3;rw[hg]at Y N A J;clear h hbw E ae O I;go_in;go_upto_region 1 with fail;generalize w.alloc (nH #[nz (txt y.lab),nC y.lab.list,ny o n c] IT)=w1 at*;obtain⟨C,aj,au,b0,b1,av,ak⟩:=Y.out _ rfl;have p0:=(C.cell (p:=(Z bo 0 V)) J).trans o0;have ax:=(C.cell (p:=(Z bw 0 V)) A).trans c0;have ay:=(C.cell (p:=(Z bw 1 V)) A).trans c1;have d2:=(C.cell (p:=(Z bw 2 V)) A).trans c2;have az:=(C.frozen (p:=(Z bw 0 V)) A).trans z0;have aA:=(C.frozen (p:=(Z bw 1 V)) A).trans ah;have y2:=(C.frozen (p:=(Z bw 2 V)) A).trans ai;have aa:=jH (N _ C);clear Y C aj ak N c0 c1 c2 z0 ah ai;go_wp2_with fail;go_returns;exact⟨rfl,aa.out⟩
end
section
theorem Fs{k:Nat}{l:List UInt8}{m:Nat}{y:nM IL×Nat×Nat}(h:wO k l m=.ok y):0<y.2.1/\y.2.1<=l.length:=⟨(MQ k l m y h).1,(MQ k l m y h).2.1⟩
theorem XI{k:Nat}:∀(f A:Nat)(l:List UInt8)(m:Nat)(sub:List (nM IL)),l.length<f->l.length<A->MP (wO k) f l m sub=MP (wO k) A l m sub:=by
 intro f;induction f with
 |zero=>intro A l m sub h;omega
 |succ f C=>
  intro A l m sub h I;cases A with
  |zero=>omega
  |succ A=>
   simp only[MP];split;.rfl
   .split
    .rfl
    .rename_i y E
     obtain⟨h1,h2⟩:=Fs E;exact C A _ _ _ nT nT
def zw(s:List UInt8)(at_ A:Nat):List UInt8:=(s.drop at_).take (A - at_)
def XJ(k:Nat)(l:List UInt8)(m:Nat)(sub:List (nM IL)):Except Nat (List (nM IL)×Nat):=MP (wO k) (l.length+1) l m sub
def fin(s:List UInt8):List (List (nM IL)×Nat)->Nat->nM IL->Nat->Nat->Except Nat (nM IL×Nat×Nat)
 |[],_,x,p,m=> .ok (x,p,m)
 |(sub,e)::st,k,x,p,m=>match XJ k (zw s p e) m (sub++[x])with
  | .error er=> .error er
  | .ok y=>fin s st (k+1) (.node ⟨[],true⟩ y.1) e y.2
def cont(s:List UInt8)(sub:List (nM IL))(e:Nat)(st:List (List (nM IL)×Nat))(k p m:Nat):Except Nat (nM IL×Nat×Nat):=match XJ k (zw s p e) m sub with
  | .error er=> .error er
  | .ok y=>fin s st (k+1) (.node ⟨[],true⟩ y.1) e y.2
theorem XK(s:List UInt8)(sub:List (nM IL))(e:Nat)(st:List (List (nM IL)×Nat))(k:Nat)(x:nM IL)(p m:Nat):fin s ((sub,e)::st) k x p m=cont s (sub++[x]) e st k p m:=rfl
theorem XL(s:List UInt8)(e:Nat):zw s e e=[]:=by simp[zw]
theorem a1h(k m:Nat)(sub:List (nM IL)):XJ k [] m sub=.ok (sub,m):=by simp[XJ,MP]
theorem GL{s:List UInt8}{sub:List (nM IL)}{e:Nat}{st:List (List (nM IL)×Nat)}{k m:Nat}:cont s sub e st k e m=fin s st (k+1) (.node ⟨[],true⟩ sub) e m:=by
 unfold cont;rw[XL,a1h]
theorem GM{k:Nat}{l:List UInt8}{m:Nat}{sub:List (nM IL)}(h:l≠[]):XJ k l m sub=match wO k l m with
  | .error e=> .error (if e=2 then 3 else e)
  | .ok y=>XJ k (l.drop y.2.1) y.2.2 (sub++[y.1]):=by
 unfold XJ;conv=>lhs;rw[MP]
 rw[if_neg h];cases A:wO k l m with
 |error e=>rfl
 |ok y=>
  obtain⟨h1,h2⟩:=Fs A;exact XI _ _ _ _ _ nT nS
theorem seg_length(s:List UInt8){p e:Nat}(h1:p<=e)(h2:e<=s.length):(zw s p e).length=e - p:=by simp[zw];omega
theorem GN(s:List UInt8){p e:Nat}(h1:p<e)(h2:e<=s.length):zw s p e≠[]:=λh=>by
 have:=congrArg List.length h;rw[seg_length s nL h2]at this;simp at this;omega
theorem Df(s:List UInt8){p e n:Nat}(h:p+n<=e):(zw s p e).drop n=zw s (p+n) e:=by
 unfold zw;rw[List.drop_take,List.drop_drop,show e - p - n=e -(p+n)by omega]
theorem Nn(s:List UInt8){p e n:Nat}(h:p+n<=e):(zw s p e).take n=zw s p (p+n):=by
 unfold zw;rw[List.take_take,Nat.min_eq_left nL,show p+n - p=n by omega]
theorem XM{s:List UInt8}{sub:List (nM IL)}{e:Nat}{st:List (List (nM IL)×Nat)}{k p m er:Nat}(hp:p<e)(he:e<=s.length)(h:wO k (zw s p e) m=.error er):
  cont s sub e st k p m=.error (if er=2 then 3 else er):=by
 unfold cont;rw[GM (GN s hp he),h]
theorem a1i{k:Nat}:∀(f:Nat)(l:List UInt8)(m:Nat)(sub:List (nM IL))(er:Nat),MP (wO k) f l m sub=.error er->er≠2:=by
 intro f;induction f with
 |zero=>intro l m sub er h;simp only[MP]at h;cases h;decide
 |succ f A=>
  intro l m sub er h;simp only[MP]at h;split at h;.cases h
  .split at h
   .cases h;split<;>omega
   .exact A _ _ _ _ h
theorem XN{l:List UInt8}{m:Nat}(h:l≠[]):wO 0 l m=.error 6:=by simp[wO,h]
theorem a1j{k m:Nat}:wO k [] m=.error 2:=by cases k<;>simp[wO]
theorem XO{k:Nat}{l:List UInt8}(h:l≠[]):wO (k+1) l 0=.error 4:=by simp[wO,h]
theorem XP{k:Nat}{l:List UInt8}{m er:Nat}(h:l≠[])(A:hd l=.error er):wO (k+1) l (m+1)=.error er:=by simp[wO,h,A]
theorem Np{k:Nat}{l:List UInt8}{m z n:Nat}(h:l≠[])(A:hd l=.ok (false,z,n)):wO (k+1) l (m+1)=.ok (.node ⟨(l.drop z).take n,false⟩ [],z+n,m):=by simp[wO,h,A]
theorem Nq{k:Nat}{l:List UInt8}{m z n:Nat}(h:l≠[])(A:hd l=.ok (true,z,n))(C:z+n<=l.length):wO (k+1) l (m+1)=match XJ k ((l.drop z).take n) m []with
  | .error e=> .error e
  | .ok y=> .ok (.node ⟨[],true⟩ y.1,z+n,y.2):=by
 simp only[wO,h,if_false,A,Nat.add_sub_cancel,if_true];rw[if_neg nL];have:((l.drop z).take n).length=n:=nT;unfold XJ;rw[this];cases MP (wO k) (n+1) ((l.drop z).take n) m []<;>rfl
theorem UG{s:List UInt8}{sub:List (nM IL)}{e:Nat}{st:List (List (nM IL)×Nat)}{k p m z n:Nat}(hp:p<e)(he:e<=s.length)(h:hd (zw s p e)=.ok (false,z,n))(A:z+n<=e - p):
  cont s sub e st (k+1) p (m+1)=cont s (sub++[.node ⟨zw s (p+z) (p+z+n),false⟩ []]) e st (k+1) (p+z+n) m:=by
 unfold cont;rw[GM (GN s hp he),Np (GN s hp he) h];simp only;rw[Df s nL,Df s nL,Nn s nL,<-kR]
theorem UH{s:List UInt8}{sub:List (nM IL)}{e:Nat}{st:List (List (nM IL)×Nat)}{k p m z n:Nat}(hp:p<e)(he:e<=s.length)(h:hd (zw s p e)=.ok (true,z,n))(C:z+n<=e - p):
  cont s sub e st (k+1) p (m+1)=cont s [] (p+z+n) ((sub,e)::st) k (p+z) m:=by
 unfold cont;rw[GM (GN s hp he),Nq (GN s hp he) h (by rw[seg_length s nL he];omega)];rw[Df s nL,Nn s nL];cases A:XJ k (zw s (p+z) (p+z+n)) m []with
 |error er=>
  simp only;rw[if_neg (a1i _ _ _ _ _ A)]
 |ok y=>
  simp only[fin];rw[Df s nL,<-kR]
theorem BZ{s:List UInt8}{k m z n:Nat}(h:hd s=.ok (true,z,n))(hs:s≠[])(A:z+n<=s.length):wO (k+1) s (m+1)=cont s [] (z+n) [] k z m:=by
 rw[Nq hs h A];unfold cont;have:(s.drop z).take n=zw s z (z+n):=by unfold zw;rw[show z+n - z=n by omega]
 rw[this];cases XJ k (zw s z (z+n)) m []<;>rfl
end
section
open Go.RowKit
def Bp:Except Nat (Bool×Nat×Nat)->jP
 | .error e=> nE #[nC false,nk nI 0,nk nI 0,nk nI (e:Nat)]
 | .ok q=> nE #[nC q.1,nk nI (q.2.1:Nat),nk nI (q.2.2:Nat),nk nI 0]
def BP(l:List UInt8)(deep A:Bool):Except Nat (Bool×Nat×Nat):=if l=[]then .error 2 else if deep then .error 6 else if A then .error 4 else hd l
theorem R5{l:List UInt8}{k m e:Nat}(h:BP l (decide (k=0)) (decide (m=0))=.error e):wO k l m=.error e:=by
 unfold BP at h;split at h;.rename_i h0;subst h0;cases h;exact a1j
 rename_i h0;split at h;.rename_i h1;simp at h1;subst h1;cases h;exact XN h0
 rename_i h1;obtain⟨k,rfl⟩:∃A,k=A+1:=⟨k - 1,by simp at h1;omega⟩;split at h;.rename_i h2;simp at h2;subst h2;cases h;exact XO h0
 rename_i h2;obtain⟨m,rfl⟩:∃C,m=C+1:=⟨m - 1,by simp at h2;omega⟩;exact XP h0 h
theorem XQ{l:List UInt8}{k m:Nat}{q:Bool×Nat×Nat}(h:BP l (decide (k=0)) (decide (m=0))=.ok q):l≠[]/\0<k/\0<m/\hd l=.ok q:=by
 unfold BP at h;split at h;.cases h
 rename_i h0;split at h;.cases h
 rename_i h1;split at h;.cases h
 rename_i h2;exact⟨h0,by simp at h1;omega,by simp at h2;omega,h⟩
theorem a4b{s:ByteArray}(h0:0<s.size){by' t:Nat}{L:Bool}(hL:decide (192<=s[0].toNat)=L)(hb:by'=if L then 192 else 128)(ht:s[0].toNat=by'+t):
  (t<=55->hd s.data.toList=hd2 s.data.toList L 1 t)/\
  (∀k,t=55+k->0<k->(s.size<1+k->hd s.data.toList=.error 2)/\(1+k<=s.size->
   (s.extract 1 (1+k)).data.toList=(s.data.toList.drop 1).take k/\
   (((s.data.toList.drop 1).head? =U 0\/uO ((s.data.toList.drop 1).take k)<56)->hd s.data.toList=.error 3)/\
   (¬((s.data.toList.drop 1).head? =U 0\/uO ((s.data.toList.drop 1).take k)<56)->hd s.data.toList=hd2 s.data.toList L (1+k) (uO ((s.data.toList.drop 1).take k))))):=by
 have hl:=sK s h0;have hlen:s.data.toList.length=s.size:=nS;have C:by'=if 192<=s[0].toNat then 192 else 128:=by rw[hb,<-hL];simp
 have A:¬s[0].toNat<128:=by
  rw[hb]at ht;split at ht<;>omega
 generalize E:s.data.toList.drop 1=r at*;have key:hd s.data.toList=if t<=55 then hd2 s.data.toList L 1 t else if s.data.toList.length<1+(t - 55)then .error 2 else if(r.head? =U 0\/uO (r.take (t - 55))<56)then .error 3 else hd2 s.data.toList L (1+(t - 55)) (uO (r.take (t - 55))):=by
  conv=>lhs;rw[hl]
  simp only[hd];rw[if_neg A,<-C,ht,hL.symm,ht,Nat.add_sub_cancel_left,<-hl]
 refine⟨λh=>by rw[key,if_pos h],?_⟩;rintro k rfl hk;rw[show 55+k - 55=k by omega,if_neg nL,hlen]at key;refine⟨λh=>by rw[key,if_pos h],λh=>⟨?_,λh2=>by rw[key,if_neg nL,if_pos h2],λh2=>by rw[key,if_neg nL,if_neg h2]⟩⟩;rw[<-E];simp only[ByteArray.data_extract,Array.toList_extract,List.extract];rw[show 1+k - 1=k by omega]
theorem Qa{l:List UInt8}{k:Nat}(hk:0<k)(I:k<=8)(hl:k<=l.length):
  ((l.head? =U 0\/uO (l.take k)<56)/\(pK (l.take k)=(0,3)\/∃v,v<=55/\pK (l.take k)=(v,0)))\/
   (¬(l.head? =U 0\/uO (l.take k)<56)/\pK (l.take k)=(uO (l.take k),0)/\56<=uO (l.take k)/\uO (l.take k)<18446744073709551616):=by
 cases l with
 |nil=>simp at hl;omega
 |cons b r=>
  obtain⟨j,rfl⟩:∃j,k=j+1:=⟨k - 1,nL⟩;rw[ky];have C:(r.take j).length=j:=by simp at hl⊢;omega
  have J:=J6 (b::r.take j);rw[kF,C]at J;have hp:=Ma (j+1) I;simp only[List.head?_cons,mF];by_cases hb:b=0
  .left
   refine⟨.inl hb,.inl ?_⟩;rw[pK,if_neg nL,if_pos (by rw[hb];rfl)]
  .have E:¬b.toNat=0:=λh=>hb (lX.1 h)
   have e:pK (b::r.take j)=(uO (b::r.take j),0):=by rw[pK,if_neg nL,if_neg E]
   by_cases A:uO (b::r.take j)<56;.exact .inl ⟨.inr A,.inr ⟨_,nL,e⟩⟩
   .exact .inr ⟨λh=>h.elim hb A,e,nL,nL⟩
theorem UI{l:List UInt8}{L:Bool}{z n:Nat}(h:l.length - z<n):hd2 l L z n=.error 2:=by unfold hd2;rw[if_pos h]
theorem R6{p:Prop}(h:p:=by
 have hq:=jH (HT.1 c);go_wp2_with fail;go_meet;exact⟨1,t,by first|rfl|(simp;omega),rfl,by congr 1;have:=HE.out;omega,nL,nL,nL,hq,rfl⟩):p:=h
theorem Ea{p:Prop}(h:p:=by
 go_wp2_with fail;go_returns;exact⟨by rw[hq.out,hE.out];rfl,rfl⟩):p:=h
theorem a2H{p:Prop}(h:p:=by
 go_upto_region 16 with fail;simp only[show(1+(k:Int))=((1+k:Nat):Int)by omega];by_cases c2:s.size<1+k
 .have hR:=jH (HK.1 c2)
  have d3:decide (s.size<1+k)=true:=nT;go_wp2_with fail;go_returns;exact⟨by rw[hR.out];rfl,rfl⟩
 .have d3:decide (s.size<1+k)=false:=nT
  have hk1:1+k<=s.size:=nL;have CG:=jH (yM (s.extract 1 (1+k)) w (by simp[kC];unfold j3;omega));obtain⟨hx1,hx2,hx3⟩:=HK.2 hk1;rw[hx1]at CG;have HX2:=jH hx2;have HX3:=jH hx3;have hg:=HG.out k hk0 hk8 (by rw[kX,HL.out];omega);clear hx1 hx2 hx3 HK HG HT c2 c hk;generalize pK ((s.data.toList.drop 1).take k)=G at*;generalize (s.data.toList.drop 1).take k=tk at*;rcases hg with⟨hbad,hg⟩|⟨hgood,rfl,hv1,hv2⟩
  .have hR:=jH (HX2 hbad)
   clear HX2 HX3 hbad;rcases hg with rfl|⟨v,hv,rfl⟩
   .go_wp2_with fail
    refine CG.mono ?_;rintro e w1 ⟨rfl,rfl⟩;simp only[n2];go_wp2_with fail;go_returns;exact⟨by rw[hR.out];rfl,rfl⟩
   .have d4:decide (v<=55)=true:=nT
    go_wp2_with fail;refine CG.mono ?_;rintro e w1 ⟨rfl,rfl⟩;simp only[n2];go_wp2_with fail;go_returns;exact⟨by rw[hR.out];rfl,rfl⟩
  .have hR:=jH (HX3 hgood)
   clear HX2 HX3 hgood;generalize uO tk=v at*;have d4:decide (v<=55)=false:=nT;by_cases c5:s.size<v
   .have d5:decide (s.size<v)=true:=nT
    have hE:=jH (HS (1+k) v (by rw[HL.out];omega));go_wp2_with fail;refine CG.mono ?_;rintro e w1 ⟨rfl,rfl⟩;simp only[n2];go_wp2_with fail;go_returns;exact⟨by rw[hR.out,hE.out];rfl,rfl⟩
   .have d5:decide (s.size<v)=false:=nT
    have hvs:v<=100000:=nL;go_wp2_with fail;refine CG.mono ?_;rintro e w1 ⟨rfl,rfl⟩;simp only[n2];go_wp2_with fail;go_meet;exact⟨1+k,v,by first|rfl|(simp;omega),rfl,rfl,nL,hk1,hvs,hR,rfl⟩):p:=h
theorem KL(s:ByteArray)(w:jJ)(hs:s.size<=100000)(h0:0<s.size)(hb:128<=s[0].toNat):
  jV jI 242 #[nz s,nC false,nC false] w λe w'=>e=nG (Bp (hd s.data.toList))/\w'=w:=by
 have av:=zS s h0;have E:s[0].toNat<=255:=by have:=s[0].toNat_lt;omega
 have hlen:s.data.toList.length=s.size:=nS;obtain⟨L,hL⟩:=nV (decide (192<=s[0].toNat));obtain⟨R,hR⟩:=nV (hd s.data.toList);have O:=jH (λt by'=>a4b h0 (by':=by') (t:=t) hL);have HG:=jH (λk=>Qa (l:=s.data.toList.drop 1) (k:=k));have HS:=jH (λz n (h:s.data.toList.length - z<n)=>UI (l:=s.data.toList) (L:=L) (z:=z) (n:=n) h);have HL:=jH hlen;rw[hR]at O⊢;clear hR hlen;have ah:decide (s[0].toNat<128)=false:=nT;obtain⟨b,hb0⟩:=nV (s[0].toNat);rw[hb0]at ah;obtain⟨t,by',C,ht⟩:∃t by',(by'=if L then 192 else 128)/\b=by'+t:=by
  cases L with
  |true=>exact⟨b - 192,192,rfl,by simp at hL;omega⟩
  |false=>exact⟨b - 128,128,rfl,nL⟩
 have HT:=jH (O t by' C (hb0.trans ht));have HE:=jH ht;have I:=jH C;have ai:decide (192<=b)=L:=by rw[<-hL,hb0]
 clear O hL ht C;go_in;cases L with
 |true=>
  obtain rfl:by'=192:=I.out;have Y:192<=b:=by have:=HE.out;omega
  have aa:b<=255:=nL;clear E;go_upto_if 38 with(fail)
  go_cut [6,7,8] (λa b c Q=>∃A N:Nat,a=nC true/\b=nk nI (A:Int)/\c=nk nI (N:Int)/\1<=A/\A<=s.size/\N<=100000/\jX (R=hd2 s.data.toList true A N)/\Q=w);case first=>
   by_cases c:t<=55
   .have d2:b<=247:=by have:=HE.out;omega
    exact R6
   .obtain⟨k,hk⟩:∃k,t=55+k:=⟨t - 55,nL⟩
    have hk0:0<k:=nL;have hk8:k<=8:=by have:=HE.out;omega
    have HK:=jH (HT.2 k hk hk0);have d2:247<b:=by have:=HE.out;omega
    have aj:(1+((b:Int) - 192 - 55))=((1+k:Nat):Int):=by have:=HE.out;omega
    exact a2H
  case rest=>
   obtain⟨A,N,rfl,rfl,rfl,ae,ak,au,hq,rfl⟩:=hcut;by_cases c1:s.size - A<N
   .have hE:=jH (HS A N (by rw[HL.out];omega))
    have d2:decide ((s.size:Int) -(A:Int)<(N:Int))=true:=nT;clear c1;exact Ea
   .have d2:decide ((s.size:Int) -(A:Int)<(N:Int))=false:=nT
    have af:N<=s.size - A:=nL;clear c1;have hE:jX (hd2 s.data.toList true A N=.ok (true,A,N)):=jH (by unfold hd2;rw[if_neg (by rw[HL.out];omega),if_neg nS]);exact Ea
 |false=>
  obtain rfl:by'=128:=I.out;have Y:128<=b:=by have:=HE.out;omega
  have ax:b<192:=by simpa using ai
  have aa:b<=255:=nL;clear E;go_upto_if 38 with(fail)
  go_cut [6,7,8] (λa b c Q=>∃A N:Nat,a=nC false/\b=nk nI (A:Int)/\c=nk nI (N:Int)/\1<=A/\A<=s.size/\N<=100000/\jX (R=hd2 s.data.toList false A N)/\Q=w);case first=>
   by_cases c:t<=55
   .have d2:b<=183:=by have:=HE.out;omega
    exact R6
   .obtain⟨k,hk⟩:∃k,t=55+k:=⟨t - 55,nL⟩
    have hk0:0<k:=nL;have hk8:k<=8:=by have:=HE.out;omega
    have HK:=jH (HT.2 k hk hk0);have d2:183<b:=by have:=HE.out;omega
    have aj:(1+((b:Int) - 128 - 55))=((1+k:Nat):Int):=by have:=HE.out;omega
    exact a2H
  case rest=>
   obtain⟨A,N,rfl,rfl,rfl,ae,ak,au,hq,rfl⟩:=hcut;by_cases c1:s.size - A<N
   .have hE:=jH (HS A N (by rw[HL.out];omega))
    have d2:decide ((s.size:Int) -(A:Int)<(N:Int))=true:=nT;clear c1;exact Ea
   .have d2:decide ((s.size:Int) -(A:Int)<(N:Int))=false:=nT
    have af:N<=s.size - A:=nL;clear c1;by_cases c2:N=1
    .subst c2
     have ag:A<s.size:=nL;have J:jX (s.data.toList.getD A 0=s[A]):=jH (by rw[lL,jW (by rw[HL.out];exact ag)];rfl);by_cases c3:s[A].toNat<128
     .have hE:jX (hd2 s.data.toList false A 1=.error 3):=jH (by unfold hd2;rw[if_neg (by rw[HL.out];omega),if_pos ⟨rfl,rfl,by rw[J.out];exact c3⟩])
      have d3:decide (s[A].toNat<128)=true:=nT;exact Ea
     .have hE:jX (hd2 s.data.toList false A 1=.ok (false,A,1)):=jH (by unfold hd2;rw[if_neg (by rw[HL.out];omega),if_neg (by rw[J.out];intro h;exact c3 h.2.2)])
      have d3:decide (s[A].toNat<128)=false:=nT;exact Ea
    .have hE:jX (hd2 s.data.toList false A N=.ok (false,A,N)):=jH (by unfold hd2;rw[if_neg (by rw[HL.out];omega),if_neg (λh=>c2 h.2.1)])
     have d3:((N:Int)==1)=false:=wG;clear c2;exact Ea
theorem KM{p:Prop}(h:p:=by
 go_in;go_wp2_with fail;go_returns;exact⟨by rw[hR.out];rfl,rfl⟩):p:=h
theorem Nr(s:ByteArray)(deep A:Bool)(w:jJ)(hs:s.size<=100000):
  jV jI 242 #[nz s,nC deep,nC A] w λe w'=>e=nG (Bp (BP s.data.toList deep A))/\w'=w:=by
 by_cases h0:s.size=0
 .have e:s=⟨#[]⟩:=Uq (mU.1 (by simpa using h0))
  subst e;have hR:jX (BP (⟨#[]⟩:ByteArray).data.toList deep A=.error 2):=jH rfl;exact KM
 have hp:0<s.size:=nL;have C:s.data.toList≠[]:=λh=>h0 (by have:=congrArg List.length h;simpa using this)
 have I:=zS s hp;cases deep with
 |true=>
  have hR:jX (BP s.data.toList true A=.error 6):=jH (by simp[BP,C]);clear C;exact KM
 |false=>
  cases A with
  |true=>
   have hR:jX (BP s.data.toList false true=.error 4):=jH (by simp[BP,C]);clear C;exact KM
  |false=>
   have hR:jX (BP s.data.toList false false=hd s.data.toList):=jH (by simp[BP,C]);rw[hR.out];by_cases hb:s[0].toNat<128
   .have E:jX (hd s.data.toList=.ok (false,0,1)):=jH (by rw[sK s hp];simp only[hd];rw[if_pos hb])
    have J:decide (s[0].toNat<128)=true:=by simpa using hb
    clear C hR;go_in;go_wp2_with fail;go_returns;exact⟨by rw[E.out];rfl,rfl⟩
   .exact KL s w hs hp nL
def lvl(x:Fr):List (nM IL)×Nat:=(x.L.map qg.tree,x.e)
def Ends:Nat->List Fr->Nat->Prop
 |p,[],S=>p<=S
 |p,x::xs,S=>p<=x.e/\Ends x.e xs S
theorem Ends.le:∀{st:List Fr}{p S:Nat},Ends p st S->p<=S
 |[],_,_,h=>h
 |x::xs,_,_,h=>jY h.1 (Ends.le h.2)
def qX:Array jP:=#[nz ⟨#[]⟩,nC false,ny V 0 0]
abbrev RdR:Type:=Except Nat (nM IL×Nat×Nat)
def a8W(s:List UInt8)(K M:Nat)(R:RdR)(B bo bw:Nat)(vr:jP)(w:jJ)(p c:Nat):List Fr->Prop
 |[]=>∃(x:nM IL) (v:jP) (A:Nat->Prop),R=.ok (x,p,M - c)/\nP w bw #[nz (txt x.lab),nC x.lab.list,v] IT/\nW w A v x.sub/\(∀c,A c->¬OE B bo bw vr c)
 |x::xs=>nP w bw qX IT/\R=cont s (x.L.map qg.tree) x.e (xs.map lvl) (K -(xs.length+1)) p (M - c)
structure vR(s:List UInt8)(K M:Nat)(R:RdR)(B bo bw:Nat)(w0 w:jJ)(p c:Nat)(vr:jP)(st:List Fr):Prop where
 Bq:rE w B bo bw vr st
 below:jS B w0 w
 hc:c<=M
 len:st.length<=K
 Ls:(st.map λx=>x.L.length).sum+st.length<=c
 ends:Ends p st s.length
 res:a8W s K M R B bo bw vr w p c st
theorem XR:wT jI 275 RT 2:=⟨Tryz.underlying275,⟨.agg #[.slice V 0 0,.int .i64 0],32,by
 obtain⟨i,h1,h2,A,C⟩:=info_parts (show(Tryz.prog.info? RT).map (λi=>(i.zero,i.size,i.bytes))=U (U (nD #[ny V 0 0,nk nI 0]),2,32)by kernel_rfl);exact⟨i,h1,h2,A,C,nO,rfl⟩⟩,nO⟩
theorem Ns{w w1 w2:jJ}{B bo bw g cap:Nat}{vr:jP}{st:List Fr}{f:Fr}(h:rE w B bo bw vr st)(E:jS w.heap.size w w1)(Q:f.v=ny V 0 0/\f.L=[])(hrow:pQ rf2 2 w2 B RT (ny (U (Z g 0 V)) (st.length+1) cap) (st.reverse++[f]))(hg:w1.grownBy w2 vr.ownBlock)(I:vr.ownBlock=U g\/g=w1.heap.size):
  rE (w2.setCell (Z bo 0 V) (ny (U (Z g 0 V)) (st.length+1) cap)) B bo bw (ny (U (Z g 0 V)) (st.length+1) cap) (f::st)/\
   jS B w (w2.setCell (Z bo 0 V) (ny (U (Z g 0 V)) (st.length+1) cap))/\
   ∀c,c<w.heap.size->c≠bo->vr.ownBlock≠U c->(w2.setCell (Z bo 0 V) (ny (U (Z g 0 V)) (st.length+1) cap)).heap[c]? =w.heap[c]? :=by
 have aa:=E.size;have ae:=hg.size;have A:∀c,c<w.heap.size->c≠bo->vr.ownBlock≠U c->(w2.setCell (Z bo 0 V) (ny (U (Z g 0 V)) (st.length+1) cap)).heap[c]? =w.heap[c]? :=λc hc hn af=>
  (j6 _ _ _ _ hn).trans ((hg.block c nL (λe=>af e.symm)).trans (E.block c hc))
 have C:nP w1 bo #[vr] OT:=Below.blk E h.ho h.ho.lt;have N:nP w2 bo #[vr] OT:=by
  unfold nP;rw[hg.block bo C.lt (λe=>h.nbo e.symm)];exact C
 have J:g≠bo:=by
  rintro rfl;rcases I with e|e
  .exact h.nbo e
  .have:=C.lt;omega
 have O:g≠bw:=by
  rintro rfl;rcases I with e|e
  .exact h.nbw e
  .have:=h.lt;omega
 have hsz:(w2.setCell (Z bo 0 V) (ny (U (Z g 0 V)) (st.length+1) cap)).heap.size=w2.heap.size:=by simp[kz]
 refine⟨⟨N.set 0 _,?_,?_,?_,⟨λ_=>False,λc hc=>hc.elim,?_,?_⟩,h.Ik,h.hbw,h.ne,by rw[hsz];exact kG h.lt nL⟩,?_,A⟩
 .rw[List.reverse_cons]
  exact hrow.keep λb hb=>by
   simp[kJ]at hb;exact j6 _ _ _ _ (by show b≠bo;exact hb▸J)
 .intro e;simp[kJ]at e;exact J e
 .intro e;simp[kJ]at e;exact O e
 .rw[Q.1,Q.2];exact tV.nil _ _
 .refine h.Ij.keep (by rw[hsz];omega) (λc hc hn=>A c hc (λe=>hn (.inr (.inl e))) λe=>hn (.inr (.inr (.inr e)))) λc hc hn=> ?_
  rcases hn with(hn|hn|hn|hn)|hn
  .exact .inl hn
  .exact .inr (.inl hn)
  .exact .inr (.inr (.inl hn))
  .simp[kJ]at hn
   subst hn;rcases I with e|e
   .exact .inr (.inr (.inr e))
   .omega
  .exact hn.elim
 .refine⟨?_,?_,?_,by rw[hsz];omega,λc hc=> ?_⟩
  .exact hg.os.trans E.os
  .exact hg.tape.trans E.tape
  .exact hg.output.trans E.output
  .have Y:c<w.heap.size:=by have:=h.Ik;have:=h.ho.lt;omega
   refine A c Y (by have:=h.Ik;omega) λe=> ?_
   have:=(h.row.block c e).1;omega
theorem XT{p:Prop}(h:p:=by
 have e:(x::xs).reverse.take N=xs.reverse:=by
  rw[List.reverse_cons,List.take_append_of_le_length (by simp[hN]),List.take_of_length_le (by simp[hN])]
 rwa [e]at this):p:=h
theorem R7{w:jJ}{B bo bw go A N:Nat}{x:Fr}{xs:List Fr}(h:rE w B bo bw (ny (U (Z go 0 V)) (N+1) A) (x::xs))(hN:xs.length=N):
  ∃Q:Nat->Prop,rE (w.setCell (Z bo 0 V) (ny (U (Z go 0 V)) N A)) B bo bw (ny (U (Z go 0 V)) N A) xs/\tV (w.setCell (Z bo 0 V) (ny (U (Z go 0 V)) N A)) Q x.v x.L/\
   (∀c,Q c->¬OE B bo bw (ny (U (Z go 0 V)) N A) c)/\D9 (w.setCell (Z bo 0 V) (ny (U (Z go 0 V)) N A)) (λc=>OE B bo bw (ny (U (Z go 0 V)) N A) c\/Q c) xs/\
   jS B w (w.setCell (Z bo 0 V) (ny (U (Z go 0 V)) N A))/\(∀c,c≠bo->(w.setCell (Z bo 0 V) (ny (U (Z go 0 V)) N A)).heap[c]? =w.heap[c]?):=by
 obtain⟨Q,I,O,Y⟩:=h.Ij;have hsz:(w.setCell (Z bo 0 V) (ny (U (Z go 0 V)) N A)).heap.size=w.heap.size:=by simp[kz]
 have C:∀c,c≠bo->(w.setCell (Z bo 0 V) (ny (U (Z go 0 V)) N A)).heap[c]? =w.heap[c]? :=λc hn=>j6 _ _ _ _ hn
 have ae:∀c,OE B bo bw (ny (U (Z go 0 V)) N A) c<->OE B bo bw (ny (U (Z go 0 V)) (N+1) A) c:=λc=>Iff.rfl
 have J:∀c,Q c->c≠bo:=λc hc e=>I c hc (.inr (.inl e))
 have E:D9 (w.setCell (Z bo 0 V) (ny (U (Z go 0 V)) N A)) (λc=>OE B bo bw (ny (U (Z go 0 V)) N A) c\/Q c) xs:=
  Y.keep (by rw[hsz];exact jK _) (λc _ hn=>C c λe=>hn (.inl (.inr (.inl e)))) λc _ hn=>hn
 have aa:go≠bo:=λe=>h.nbo (by subst e;rfl)
 refine⟨Q,⟨h.ho.set 0 _,?_,h.nbo,h.nbw,E.keep (jK _) (λ_ _ _=>rfl) λc _ hn=> .inl hn,h.Ik,h.hbw,h.ne,by rw[hsz];exact h.lt⟩,?_,λc hc=>I c hc,E,?_,C⟩
 .have:=(pQ.cut h.row AB (m:=N) (by simp[hN])).keep (w':=w.setCell (Z bo 0 V) (ny (U (Z go 0 V)) N A)) λb hb=>by
   simp[kJ]at hb;exact C b (by rw[<-hb];exact aa)
  exact XT
 .exact O.keep (by rw[hsz];exact jK _) (λc _ hc=>C c (J c hc)) λc _ hc=>hc
 .exact⟨rfl,rfl,rfl,by rw[hsz];exact jK _,λc hc=>C c (by have:=h.Ik;omega)⟩
theorem Nt{w:jJ}{Q:Nat->Prop}{o:Option lH}{n c:Nat}{s:List (nM IL)}(h:nW w Q (ny o n c) s):nW w Q (ny o n n) s:=by
 obtain⟨oa,cap,e,h1,h2,A⟩:=h;cases e;exact⟨_,_,rfl,jK _,jY h1 h2,A⟩
section
variable {s:List UInt8}{K M:Nat}{R:RdR}{B bo bw:Nat}{w0 w w':jJ}{p c:Nat}{vr:jP}
theorem vR.err{x:Fr}{xs:List Fr}(h:vR s K M R B bo bw w0 w p c vr (x::xs))(hp:p<x.e){er:Nat}(A:BP (zw s p x.e) (decide (K<=(x::xs).length)) (decide (M<=c))=.error er):R=.error (if er=2 then 3 else er):=by
 rw[h.res.2];refine XM hp (Ends.le h.ends.2) (R5 ?_);rw[<-A];congr 1;.rw[decide_eq_decide];have:=h.len;simp at this⊢;omega
 .rw[decide_eq_decide];have:=h.hc;omega
theorem vR.head{x:Fr}{xs:List Fr}(h:vR s K M R B bo bw w0 w p c vr (x::xs))(hp:p<x.e){q:Bool×Nat×Nat}(A:BP (zw s p x.e) (decide (K<=(x::xs).length)) (decide (M<=c))=.ok q):
  (x::xs).length<K/\c<M/\hd (zw s p x.e)=.ok q/\q.2.1+q.2.2<=x.e - p/\0<q.2.1+q.2.2/\x.e<=s.length:=by
 have he:=Ends.le h.ends.2;have e1:decide (K<=(x::xs).length)=decide (K -(x::xs).length=0):=by rw[decide_eq_decide];omega
 have e2:decide (M<=c)=decide (M - c=0):=by rw[decide_eq_decide];omega
 rw[e1,e2]at A;obtain⟨h1,h2,J,C⟩:=XQ A;obtain⟨E,I,_⟩:=Ku C;rw[seg_length s nL he]at E;exact⟨nL,nL,C,E,I,he⟩
theorem vR.text{x:Fr}{xs:List Fr}(h:vR s K M R B bo bw w0 w p c vr (x::xs))(hp:p<x.e){z n:Nat}(A:BP (zw s p x.e) (decide (K<=(x::xs).length)) (decide (M<=c))=.ok (false,z,n)){v':jP}{y:qg IL}(E:y.tree=.node ⟨zw s (p+z) (p+z+n),false⟩ [])(hs:rE w' B bo bw vr (⟨v',x.L++[y],x.e⟩::xs))(hb:nP w' bw qX IT)(I:jS B w w'):
  vR s K M R B bo bw w0 w' (p+z+n) (c+1) vr (⟨v',x.L++[y],x.e⟩::xs):=by
 obtain⟨h1,h2,J,C,N,O⟩:=h.head hp A;simp only at C N;refine⟨hs,h.below.trans I,nL,h.len,by have:=h.Ls;simp at this⊢;omega,⟨by show p+z+n<=x.e;omega,h.ends.2⟩,hb,?_⟩
 .rw[h.res.2]
  simp only[kF]at h1;obtain⟨k,hk⟩:∃k,K -(xs.length+1)=k+1:=⟨K -(xs.length+1) - 1,nL⟩;obtain⟨m,Q⟩:∃m,M - c=m+1:=⟨M - c - 1,nL⟩;rw[hk,Q,UG hp O J C,show M -(c+1)=m by omega];simp[E]
theorem vR.list{x:Fr}{xs:List Fr}(h:vR s K M R B bo bw w0 w p c vr (x::xs))(hp:p<x.e){z n:Nat}(C:BP (zw s p x.e) (decide (K<=(x::xs).length)) (decide (M<=c))=.ok (true,z,n)){v' A:jP}(hs:rE w' B bo bw A (⟨v',[],p+z+n⟩::x::xs))(hb:nP w' bw qX IT)(I:jS B w w'):
  vR s K M R B bo bw w0 w' (p+z) (c+1) A (⟨v',[],p+z+n⟩::x::xs):=by
 obtain⟨h1,h2,J,E,N,O⟩:=h.head hp C;simp only at E N;refine⟨hs,h.below.trans I,nL,by simp only[kF]at h1⊢;omega,by have:=h.Ls;simp at this⊢;omega,⟨by show p+z<=p+z+n;omega,by show p+z+n<=x.e;omega,h.ends.2⟩,hb,?_⟩
 .rw[h.res.2]
  simp only[kF]at h1;obtain⟨k,hk⟩:∃k,K -(xs.length+1)=k+1:=⟨K -(xs.length+1) - 1,nL⟩;obtain⟨m,Q⟩:∃m,M - c=m+1:=⟨M - c - 1,nL⟩;rw[hk,Q,UH hp O J E,show M -(c+1)=m by omega,show K -((x::xs).length+1)=k by simp;omega];rfl
theorem vR.close{x x2:Fr}{xs:List Fr}(h:vR s K M R B bo bw w0 w p c vr (x::x2::xs))(hp:x.e=p){v' A:jP}{y:qg IL}(C:y.tree=.node ⟨[],true⟩ (x.L.map qg.tree))(hs:rE w' B bo bw A (⟨v',x2.L++[y],x2.e⟩::xs))(hb:nP w' bw qX IT)(E:jS B w w'):vR s K M R B bo bw w0 w' p c A (⟨v',x2.L++[y],x2.e⟩::xs):=by
 subst hp;refine⟨hs,h.below.trans E,h.hc,by have:=h.len;simp at this⊢;omega,by have:=h.Ls;simp at this⊢;omega,⟨h.ends.2.1,h.ends.2.2⟩,hb,?_⟩
 .rw[h.res.2,GL]
  show fin s ((x2.L.map qg.tree,x2.e)::xs.map lvl) _ _ _ _=_;rw[XK];have:=h.len;simp only[kF]at this⊢;rw[show K -(xs.length+1+1)+1=K -(xs.length+1)by omega];simp[C]
theorem vR.whole{x:Fr}(h:vR s K M R B bo bw w0 w p c vr [x])(hp:x.e=p){A v:jP}{C:Nat->Prop}(hs:rE w' B bo bw A [])(hb:nP w' bw #[nz ⟨#[]⟩,nC true,v] IT)(E:nW w' C v (x.L.map qg.tree))(I:∀c,C c->¬OE B bo bw A c)(J:jS B w w'):vR s K M R B bo bw w0 w' p c A []:=by
 subst hp;refine⟨hs,h.below.trans J,h.hc,nS,nS,Ends.le h.ends.2,?_⟩;refine⟨nM.node ⟨[],true⟩ (x.L.map qg.tree),v,C,?_,hb,E,I⟩;rw[h.res.2,GL];rfl
end
end
end Go.Proofs.YtamfcjmhnndbdaaGreatDoor


