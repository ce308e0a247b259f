/- Part 6 of the proof. -/
import Derived.Test.YtamfcjmhnndbdaaGreatDoorZu05
import Derived.Test.YtamfcjmhnndbdaaGreatDoorZu00
import Derived.Test.YtamfcjmhnndbdaaGreatDoorZu03
import Derived.WalkKit
import Derived.Deep.Slices
import Derived.Deep.Fields
import Derived.ChangeSame
import Derived.Handy
import Derived.Test.YtamfcjmhnndbdaaGreatDoorRows
import Derived.WalkSpells
import Derived.OwnWalk
import Derived.IntWalk
import Derived.Lib.Strings
import Derived.Deep.CutBlock
import Derived.Deep.DeepCutAuto
import Derived.Laws.EntriesVeiled
open Go.Value renaming agg→nC,bool→nA,int→ng,pointer→nz,slice→nk,string→ny,tuple→nD
open Go.Obj renaming cells→nG
open Go.IntKind renaming i64→nH
open Go.Ending renaming returned→nE
open Go.Lib renaming hid→jH
open Go.Proofs.Tryz renaming prog→jI
open Go renaming World→jJ,Value→jP,Calls→jV,bodyPost_ret→j4,maxLen→j5,TypeId→ko,results→kK,Addr→l5,wpQuiet_nil→mJ,Program→mK
open Nat renaming le_refl→jL,le_trans→kg,zero_le→kI,add_assoc→kP,lt_or_ge→lh,lt_succ_self→lM,add_mul→lS
open List renaming getElem?_cons_zero→jN,getElem?_toArray→jO,getElem?_eq_getElem→jX,length_append→jY,take_succ_cons→ky,length_cons→kD,mem_of_getElem?→kT,getElem?_eq_some_iff→ll,append_assoc→lD,getD_eq_getElem?_getD→lN,take_length→l9,length_eq_zero_iff→mf,mem_cons→mD,getElem?_take→mM,size_toArray→mP,take_append_drop→mQ,cons_append→mU
open Go.RowKit renaming Below→jS,Hid→jW,intOf→kW
open Go.RowKit.Below renaming refl→jT
open And renaming intro→jU
open UInt8 renaming ofNat→jZ,toNat_inj→lU
open Bool renaming and_eq_true→j3,false_eq_true→lF
open Option renaming bind_eq_some_iff→kr
open Go.World renaming setCell→kC,cell?→mW
open Go.Sem renaming run→mi
open Option.some renaming injEq→mI
namespace Go.Proofs.YtamfcjmhnndbdaaGreatDoor
set_option linter.unusedVariables false
set_option linter.unusedSimpArgs false
set_option maxRecDepth 100000
set_option maxHeartbeats 8000000
variable {i n k:Nat}{p:Prop}{w w':jJ}{Q Q':Nat->Prop}{v:jP}{list:Bool}{l:List UInt8}{q:Bool×Nat×Nat}{fe:FuncId}
section
open Go.RowKit Go.ChangeShapes Go.WideShapes Go.Deep
inductive nL(α:Type) where
 |node (a:α) (sub:List (nL α))
section
variable {α:Type}
mutual
def nL.count:nL α->Nat
 | .node _ s=>1+nL.nW s
def nL.nW:List (nL α)->Nat
 |[]=>0
 |x::xs=>nL.count x+nL.nW xs
end
mutual
def nL.deep:nL α->Nat
 | .node _ s=>nL.o6 s+1
def nL.o6:List (nL α)->Nat
 |[]=>0
 |x::xs=>max (nL.deep x) (nL.o6 xs)
end
mutual
def nL.all(p:α->List (nL α)->Bool):nL α->Bool
 | .node a s=>p a s&&nL.o7 p s
def nL.o7(p:α->List (nL α)->Bool):List (nL α)->Bool
 |[]=>true
 |x::xs=>nL.all p x&&nL.o7 p xs
end
mutual
def nL.same(A:α->α->Bool):nL α->nL α->Bool
 | .node a s,.node b t=>A a b&&nL.rT A s t
def nL.rT(A:α->α->Bool):List (nL α)->List (nL α)->Bool
 |[],[]=>true
 |x::xs,y::ys=>nL.same A x y&&nL.rT A xs ys
 |_,_=>false
end
def nL.lab:nL α->α| .node a _=>a
def nL.sub:nL α->List (nL α)| .node _ s=>s
@[simp] theorem nL.oQ (a:α) (s:List (nL α)):(nL.node a s).lab=a:=rfl
@[simp] theorem nL.qx (a:α) (s:List (nL α)):(nL.node a s).sub=s:=rfl
theorem nL.eta(x:nL α): .node x.lab x.sub=x:=by cases x;rfl
mutual
theorem nL.a5L{P:nL α->Prop}(h:∀a s,(∀x,x∈s->P x)->P (.node a s)):∀x,P x
 | .node a s=>h a s (nL.a5M h s)
theorem nL.a5M{P:nL α->Prop}(h:∀a s,(∀x,x∈s->P x)->P (.node a s)):∀(s:List (nL α))(x:nL α),x∈s->P x
 |[],_,A=>by cases A
 |y::ys,x,A=>by
  rcases mD.1 A with C|C
  .exact C▸nL.a5L h y
  .exact nL.a5M h ys x C
end
theorem nL.ind{P:nL α->Prop}(h:∀a s,(∀x,x∈s->P x)->P (.node a s))(x:nL α):P x:=nL.a5L h x
theorem nL.wH(x:nL α):0<x.count:=by cases x;simp only[nL.count];omega
theorem nL.MW(x:nL α):0<x.deep:=by cases x;simp only[nL.deep];omega
theorem nL.rZ(s t:List (nL α)):nL.nW (s++t)=nL.nW s+nL.nW t:=by
 induction s with
 |nil=>simp[nL.nW]
 |cons x xs A=>simp[nL.nW,A,kP]
theorem nL.BJ{s:List (nL α)}{x:nL α}(h:x∈s):x.count<=nL.nW s:=by
 induction s with
 |nil=>cases h
 |cons y ys C=>
  simp only[nL.nW];rcases mD.1 h with A|A
  .subst A;omega
  .have:=C A;omega
theorem nL.vO{s:List (nL α)}{x:nL α}(h:s[i]? =some x):nL.nW (s.take (i+1))=nL.nW (s.take i)+x.count:=by
 rw[List.take_add_one,h];simp[nL.rZ,nL.nW]
theorem nL.uL(s:List (nL α))(i:Nat):nL.nW (s.take i)<=nL.nW s:=by
 conv=>rhs;rw[<-mQ i s,nL.rZ]
 omega
theorem nL.sO(s:List (nL α)):s.length<=nL.nW s:=by
 induction s with
 |nil=>simp
 |cons x xs A=>simp only[nL.nW,kD];have:=nL.wH x;omega
theorem nL.wB(s t:List (nL α)):nL.o6 (s++t)=max (nL.o6 s) (nL.o6 t):=by
 induction s with
 |nil=>simp[nL.o6]
 |cons x xs A=>simp[nL.o6,A,Nat.max_assoc]
theorem nL.yM{s:List (nL α)}{x:nL α}(h:s[i]? =some x):nL.o6 (s.take (i+1))=max (nL.o6 (s.take i)) x.deep:=by
 rw[List.take_add_one,h];simp[nL.wB,nL.o6]
theorem nL.zK(p:α->List (nL α)->Bool)(s t:List (nL α)):nL.o7 p (s++t)=(nL.o7 p s&&nL.o7 p t):=by
 induction s with
 |nil=>simp[nL.o7]
 |cons x xs A=>simp[nL.o7,A,Bool.and_assoc]
theorem nL.wI{p:α->List (nL α)->Bool}{s:List (nL α)}{x:nL α}(h:s[i]? =some x):nL.o7 p (s.take (i+1))=(nL.o7 p (s.take i)&&x.all p):=by
 rw[List.take_add_one,h];simp[nL.zK,nL.o7]
theorem nL.sG{p:α->List (nL α)->Bool}{s:List (nL α)}{x:nL α}(h:s[i]? =some x)(A:x.all p=false):nL.o7 p s=false:=by
 induction s generalizing i with
 |nil=>simp at h
 |cons y ys C=>
  cases i with
  |zero=>simp at h;subst h;simp[nL.o7,A]
  |succ i=>simp at h;simp[nL.o7,C h]
theorem nL.Ku{A:α->α->Bool}{s t:List (nL α)}(h:s.length≠t.length):nL.rT A s t=false:=by
 induction s generalizing t with
 |nil=>cases t<;>simp_all [nL.rT]
 |cons x xs C=>cases t with
  |nil=>simp[nL.rT]
  |cons y ys=>simp only[nL.rT];rw[C (by simpa using h)];simp
theorem nL.PK{E:α->α->Bool}{s t:List (nL α)}{x y:nL α}(A:s[i]? =some x)(C:t[i]? =some y):
  nL.rT E (s.take (i+1)) (t.take (i+1))=(nL.rT E (s.take i) (t.take i)&&x.same E y):=by
 induction s generalizing t i with
 |nil=>simp at A
 |cons a us I=>
  cases t with
  |nil=>simp at C
  |cons b bs=>
   cases i with
   |zero=>simp at A C;subst A;subst C;simp[nL.rT]
   |succ i=>
    simp at A C;simp only[ky,nL.rT];rw[I A C,Bool.and_assoc]
theorem nL.MX{E:α->α->Bool}{s t:List (nL α)}{x y:nL α}(A:s[i]? =some x)(C:t[i]? =some y)(h:x.same E y=false):nL.rT E s t=false:=by
 induction s generalizing t i with
 |nil=>simp at A
 |cons a us I=>
  cases t with
  |nil=>simp at C
  |cons b bs=>
   cases i with
   |zero=>simp at A C;subst A;subst C;simp[nL.rT,h]
   |succ i=>
    simp at A C;simp[nL.rT,I A C]
structure Shape(α:Type) where
 k:Nat
 cells:α->jP->List jP
 ok:α->Prop
 hk:∀a v,(cells a v).length=k
def SliceOf(w:jJ)(Q:Nat->Prop)(v:jP)(n:Nat)(R:Nat->Nat->Prop):Prop:=
 ∃oa cap,v=nk oa n cap/\n<=cap/\cap<=j5/\(0<n->∃b off,oa=some ⟨b,off,none⟩/\b<w.heap.size/\Q b/\R b off)
mutual
def Shape.rA(S:Shape α)(w:jJ)(Q:Nat->Prop):nL α->Nat->Nat->Prop
 | .node a s,b,off=>S.ok a/\∃v,(∀j,j<S.k->w.cell? ⟨b,off+j,none⟩=(S.cells a v)[j]?)/\SliceOf w Q v s.length (Shape.qy S w Q s)
def Shape.qy(S:Shape α)(w:jJ)(Q:Nat->Prop):List (nL α)->Nat->Nat->Prop
 |[],_,_=>True
 |x::xs,b,off=>Shape.rA S w Q x b off/\Shape.qy S w Q xs b (off+S.k)
end
def Shape.nX(S:Shape α)(w:jJ)(Q:Nat->Prop)(v:jP)(s:List (nL α)):Prop:=SliceOf w Q v s.length (Shape.qy S w Q s)
theorem SliceOf.mono{R A:Nat->Nat->Prop}(h:SliceOf w Q v n R)(hs:w.heap.size<=w'.heap.size)(E:∀b,b<w.heap.size->Q b->Q' b)(I:∀b o,Q b->b<w.heap.size->R b o->A b o):SliceOf w' Q' v n A:=by
 obtain⟨oa,cap,J,N,O,U⟩:=h;refine⟨oa,cap,J,N,O,λhn=> ?_⟩;obtain⟨b,off,e,hb,C,V⟩:=U hn;exact⟨b,off,e,nK,E b hb C,I b off C hb V⟩
mutual
theorem Shape.rA.keep{S:Shape α}(hs:w.heap.size<=w'.heap.size)(C:∀b,b<w.heap.size->Q b->Q' b)(hk:∀b,b<w.heap.size->Q b->w'.heap[b]? =w.heap[b]?):
  ∀(x:nL α)(b off:Nat),b<w.heap.size->Q b->S.rA w Q x b off->S.rA w' Q' x b off
 | .node a s,b,off,hb,I,h=>by
  simp only[Shape.rA]at h⊢;obtain⟨ho,v,hc,A⟩:=h;refine⟨ho,v,λj J=> ?_,A.mono hs C λb' N O E U=>Shape.qy.keep hs C hk s b' N E O U⟩;rw[World.cell?_of_block (w:=w) (a:=⟨b,off+j,none⟩) (hk b hb I)];exact hc j J
theorem Shape.qy.keep{S:Shape α}(hs:w.heap.size<=w'.heap.size)(A:∀b,b<w.heap.size->Q b->Q' b)(hk:∀b,b<w.heap.size->Q b->w'.heap[b]? =w.heap[b]?):
  ∀(s:List (nL α))(b off:Nat),b<w.heap.size->Q b->S.qy w Q s b off->S.qy w' Q' s b off
 |[],_,_,_,_,_=>by simp only[Shape.qy]
 |x::xs,b,off,hb,C,h=>by
  simp only[Shape.qy]at h⊢;exact⟨Shape.rA.keep hs A hk x b off hb C h.1,Shape.qy.keep hs A hk xs b _ hb C h.2⟩
end
theorem Shape.nX.keep{S:Shape α}{s:List (nL α)}(h:S.nX w Q v s)(hs:w.heap.size<=w'.heap.size)(A:∀b,b<w.heap.size->Q b->Q' b)(hk:∀b,b<w.heap.size->Q b->w'.heap[b]? =w.heap[b]?):S.nX w' Q' v s:=
 SliceOf.mono h hs A λb o q hb C=>Shape.qy.keep hs A hk s b o hb q C
theorem Shape.nX.below{S:Shape α}{s:List (nL α)}(h:S.nX w Q v s)(hb:jS w.heap.size w w'):S.nX w' Q v s:=
 h.keep hb.size (λ_ _ h=>h) λb hl _=>hb.block b hl
theorem Shape.qy.get{S:Shape α}:∀{s:List (nL α)}{b off:Nat},S.qy w Q s b off->∀{i:Nat}{x:nL α},s[i]? =some x->S.rA w Q x b (off+i*S.k)
 |[],_,_,_,_,_,A=>by simp at A
 |y::ys,b,off,h,i,x,A=>by
  simp only[Shape.qy]at h;cases i with
  |zero=>simp at A;subst A;simpa using h.1
  |succ i=>
   have:=Shape.qy.get h.2 (i:=i) (x:=x) (by simpa using A);rwa [show off+S.k+i*S.k=off+(i+1)*S.k by rw[lS];omega]at this
theorem Shape.nX.get{S:Shape α}{s:List (nL α)}(h:S.nX w Q v s):
  ∃oa cap,v=nk oa s.length cap/\s.length<=cap/\cap<=j5/\∀i x,s[i]? =some x->∃b off u,oa=some ⟨b,off,none⟩/\b<w.heap.size/\Q b/\S.ok x.lab/\
   (∀j,j<S.k->w.cell? ⟨b,off+(i*S.k+j),none⟩=(S.cells x.lab u)[j]?)/\S.nX w Q u x.sub:=by
 obtain⟨oa,cap,C,E,I,J⟩:=h;refine⟨oa,cap,C,E,I,λi x A=> ?_⟩;obtain⟨hi,_⟩:=ll.1 A;obtain⟨b,off,e,hb,N,O⟩:=J nK;have:=O.get A;cases x with
 |node a Y=>
  simp only[Shape.rA]at this;obtain⟨ho,u,hc,U⟩:=this;exact⟨b,off,u,e,hb,N,ho,λj V=>by rw[<-kP];exact hc j V,U⟩
structure WH(S:Shape α)(P:mK)(t st:ko)(H:Type)(enc:ko×jP->H):Prop where
 hst:P.underlying st=some (.slice t)
 hk:P.cellsOf t=S.k
 pos:0<S.k
 hop:∀(w:jJ)(base:Nat)(spare:Nat->Bool)(held:Bool)(fuel:Nat)(cs:List jP)(x:DataW H×List MemPlace),DataW.trod enc P w base spare held fuel t cs=some x->
  ∃a v n y,n<fuel/\cs=S.cells a v/\S.ok a/\DataW.trod enc P w base spare held n st [v]=some y
theorem WH.subs{S:Shape α}{P:mK}{t st:ko}{H:Type}{enc:ko×jP->H}(ak:WH S P t st H enc){base:Nat}{spare:Nat->Bool}{held:Bool}:
  ∀(fuel:Nat)(v:jP)(x:DataW H×List MemPlace),DataW.trod enc P w base spare held fuel st [v]=some x->∃s,S.nX w (λ_=>True) v s:=by
 intro fuel;induction fuel using Nat.strongRecOn with
 |_ fuel aB=>
  intro v x h;rcases DataW.trod_slice ak.hst h with⟨h0,_⟩|⟨a,len,cap,A,rest,n,hn,aa,_,hb,hl,au,hlen,hel,_,_⟩
  .simp at h0
   subst h0;exact⟨[],none,0,rfl,jL _,kI _,λh=>absurd h nR⟩
  .simp at aa
   subst aa;have V:∀i,i<len->∃J,w.cells? base (a.add (i*P.cellsOf t)) (P.cellsOf t)=some J:=by
    intro i hi;have N:=hel i hi;have af:A[i]? =some (A[i]' nK):=jX nK;rw[af,kr]at N;obtain⟨J,hc,_⟩:=N;exact⟨J,hc⟩
   have node:∀i,i<len->∃y:nL α,∃b off,a=⟨b,off,none⟩/\b<w.heap.size/\S.rA w (λ_=>True) y b (off+i*S.k):=by
    intro i hi;obtain⟨c0,av⟩:=V 0 nK;have N:=hel i hi;have af:A[i]? =some (A[i]' nK):=jX nK;rw[af,kr]at N;obtain⟨J,hc,ht⟩:=N;obtain⟨lab,u,m,y,aI,ag,hok,aC⟩:=ak.hop _ _ _ _ _ _ _ ht;obtain⟨aD,ax⟩:=aB m nK u y aC;obtain⟨_,ay,ae⟩:=World.cells?_some hc;rw[ak.hk]at ae ay;obtain⟨b,off,C⟩:=a;obtain⟨_,O,Q⟩:=World.cells?_some av;rw[ak.hk]at Q O;have h0:=Q 0 ak.pos;have Y:0<c0.length:=by rw[O];exact ak.pos
    rw[jX Y]at h0;have Z:C=none:=by
     have:=World.cell?_spot h0;simpa [Addr.add]using this
    subst Z;have E:∀k,(⟨b,off,none⟩:l5).add k=⟨b,off+k,none⟩:=λk=>by unfold Addr.add;split<;>simp_all
    have U:b<w.heap.size:=by
     rcases lh b w.heap.size with ah|ah
     .exact ah
     .rw[E]at h0
      simp[mW,E,Array.getElem?_eq_none ah]at h0
    refine⟨.node lab aD,b,off,rfl,U,?_⟩;simp only[Shape.rA];refine⟨hok,u,λj aF=> ?_,ax⟩;have:=ae j aF;rw[Go.Deep.add_add,E,ag,<-kP]at this;exact this
   obtain⟨b,off,C⟩:=a;by_cases aG:len=0
   .subst aG
    exact⟨[],some ⟨b,off,C⟩,cap,rfl,hl,au,λh=>absurd h nR⟩
   .obtain⟨_,b',aH,e,U,_⟩:=node 0 nK
    cases e;have row:∀k I,(∀i,i<k->∃y:nL α,S.rA w (λ_=>True) y b (I+i*S.k))->∃s:List (nL α),s.length=k/\S.qy w (λ_=>True) s b I:=by
     intro k;induction k with
     |zero=>intro I _;exact⟨[],rfl,by simp only[Shape.qy]⟩
     |succ k az=>
      intro I aA;obtain⟨y,ai⟩:=aA 0 nK;obtain⟨s,hs,aj⟩:=az (I+S.k) λi hi=>by
       obtain⟨z,aJ⟩:=aA (i+1) nK;exact⟨z,by rwa [show I+S.k+i*S.k=I+(i+1)*S.k by rw[lS];omega]⟩
      exact⟨y::s,by simp[hs],by simp only[Shape.qy];exact⟨by simpa using ai,aj⟩⟩
    obtain⟨s,hs,aj⟩:=row len off λi hi=>by
     obtain⟨y,aK,aL,e2,_,ai⟩:=node i hi;cases e2;exact⟨y,ai⟩
    exact⟨s,some ⟨b,off,none⟩,cap,by rw[hs],nK,au,λ_=>⟨b,off,rfl,U,trivial,aj⟩⟩
end
end
section
structure IL where
 text:List UInt8
 list:Bool
 deriving DecidableEq
def sZ:Shape IL:=⟨3,λa v=>[ny ⟨a.text.toArray⟩,nA a.list,v],λa=>a.text.length<=j5,λ_ _=>rfl⟩
def Gg(a b:IL):Bool:=a.list==b.list&&a.text==b.text
def uM(a:IL)(n:Nat):Bool:=if a.list then a.text.isEmpty else decide (n=0)
def qb(a:IL)(s:List (nL IL)):Bool:=uM a s.length
def qZ(x:nL IL):Bool:=x.all qb&&decide (x.deep<=16)&&decide (x.count<=1024)
def hdr(by' n:Nat):List UInt8:=if n<=55 then [jZ (by'+n)]else jZ (by'+55+(xh n).length)::(xh n).reverse
def single(t:List UInt8):Bool:=match t with
 |[b]=>decide (b.toNat<128)
 |_=>false
mutual
def enc:nL IL->List UInt8
 | .node a s=>if a.list then hdr 192 (q8 s).length++q8 s else if single a.text then a.text else hdr 128 a.text.length++a.text
def q8:List (nL IL)->List UInt8
 |[]=>[]
 |x::xs=>enc x++q8 xs
end
mutual
def Z6:nL IL->Nat
 | .node a s=>a.text.length+zk s
def zk:List (nL IL)->Nat
 |[]=>0
 |x::xs=>Z6 x+zk xs
end
def hd2(l:List UInt8)(list:Bool)(size n:Nat):Except Nat (Bool×Nat×Nat):=
 if l.length - size<n then .error 2 else if list=false/\n=1/\(l.getD size 0).toNat<128 then .error 3 else .ok (list,size,n)
def hd(l:List UInt8):Except Nat (Bool×Nat×Nat):=match l with
 |[]=> .error 2
 |b::r=>
  if b.toNat<128 then .ok (false,0,1)
  else if b.toNat -(if 192<=b.toNat then 192 else 128)<=55 then hd2 l (decide (192<=b.toNat)) 1 (b.toNat -(if 192<=b.toNat then 192 else 128))
  else if l.length<1+(b.toNat -(if 192<=b.toNat then 192 else 128) - 55)then .error 2
  else if(r.head? =some 0\/uE (r.take (b.toNat -(if 192<=b.toNat then 192 else 128) - 55))<56)then .error 3
  else hd2 l (decide (192<=b.toNat)) (1+(b.toNat -(if 192<=b.toNat then 192 else 128) - 55)) (uE (r.take (b.toNat -(if 192<=b.toNat then 192 else 128) - 55)))
def Jm(Gh:List UInt8->Nat->Except Nat (nL IL×Nat×Nat)):Nat->List UInt8->Nat->List (nL IL)->Except Nat (List (nL IL)×Nat)
 |0,_,_,_=> .error 0
 |f+1,l,m,sub=>if l=[]then .ok (sub,m)else match Gh l m with
  | .error e=> .error (if e=2 then 3 else e)
  | .ok y=>Jm Gh f (l.drop y.2.1) y.2.2 (sub++[y.1])
def vU:Nat->List UInt8->Nat->Except Nat (nL IL×Nat×Nat)
 |0,l,_=>if l=[]then .error 2 else .error 6
 |k+1,l,m=>if l=[]then .error 2 else if m=0 then .error 4 else match hd l with
  | .error e=> .error e
  | .ok q=>if q.1 then(match Jm (vU k) (q.2.2+1) ((l.drop q.2.1).take q.2.2) (m - 1) []with
    | .error e=> .error e
    | .ok y=> .ok (.node ⟨[],true⟩ y.1,q.2.1+q.2.2,y.2))
   else .ok (.node ⟨(l.drop q.2.1).take q.2.2,false⟩ [],q.2.1+q.2.2,m - 1)
theorem RD(h:n<2^64):(xh n).length<=8:=DF 8 n (by simpa using h)
theorem Gi(h:0<n):0<(xh n).length:=by rw[vD n h];simp
theorem Kv(by' n:Nat):0<(hdr by' n).length:=by unfold hdr;split<;>simp
theorem Kw(by' n:Nat)(h:n<2^64):(hdr by' n).length<=9:=by
 unfold hdr;split;.simp
 .simp;exact RD h
theorem WI{body r:List UInt8}(hn:n<2^64)(hb:body.length=n)(O:list=false->single body=false):
  hd (hdr (if list then 192 else 128) n++(body++r))=.ok (list,(hdr (if list then 192 else 128) n).length,n):=by
 have A:(if list then(192:Nat)else 128)=128\/(if list then(192:Nat)else 128)=192:=by cases list<;>simp
 have C:decide ((if list then(192:Nat)else 128)=192)=list:=by cases list<;>simp
 generalize (if list then(192:Nat)else 128)=by' at*;have E:∀sz (I:List UInt8),I.length=sz->hd2 (I++(body++r)) list sz n=.ok (list,sz,n):=by
  intro sz I hp;unfold hd2;rw[if_neg nQ,if_neg];rintro⟨e1,e2,e3⟩;have:=O e1;cases body with
  |nil=>simp at hb;omega
  |cons b t=>
   cases t with
   |nil=>
    simp only[single,decide_eq_false_iff_not]at this;rw[lN,List.getElem?_append_right nK,hp,Nat.sub_self]at e3;simp at e3;omega
   |cons c t=>simp at hb;omega
 unfold hdr;split
 .rename_i U
  have e:(jZ (by'+n)).toNat=by'+n:=u8n _ nK;simp only[mU,List.nil_append,hd,e];have J:(if 192<=by'+n then(192:Nat)else 128)=by':=by rcases A with h|h<;>simp[h]<;>omega
  have hdec:decide (192<=by'+n)=list:=by rw[<-C];rcases A with h|h<;>simp[h]<;>omega
  rw[if_neg nK,J,if_pos nK,hdec,Nat.add_sub_cancel_left];exact E 1 [jZ (by'+n)] rfl
 .rename_i V
  have Y:=RD hn;have h0:=Gi (n:=n) nK;have e:(jZ (by'+55+(xh n).length)).toNat=by'+55+(xh n).length:=u8n _ nK;simp only[mU,hd,e];have J:(if 192<=by'+55+(xh n).length then(192:Nat)else 128)=by':=by rcases A with h|h<;>simp[h]<;>omega
  have hdec:decide (192<=by'+55+(xh n).length)=list:=by rw[<-C];rcases A with h|h<;>simp[h]<;>omega
  have hk:by'+55+(xh n).length - by' - 55=(xh n).length:=nK;have N:((xh n).reverse++(body++r)).take (xh n).length=(xh n).reverse:=List.take_left' nR;have Q:uE (xh n).reverse=n:=by unfold uE;rw[List.reverse_reverse,Me]
  rw[if_neg nK,J,if_neg nK,hdec,hk,N,Q,if_neg nQ,if_neg]
  .have:=E (1+(xh n).length) (jZ (by'+55+(xh n).length)::(xh n).reverse) nQ
   simp only[mU]at this;rw[this];simp[Nat.add_comm]
  .rintro(h|h)
   .obtain⟨l,b,e1,e2⟩:=VY n nK
    rw[e1]at h;simp at h;rw[h]at e2;exact e2 rfl
   .omega
theorem RF{size:Nat}(h:hd2 l list size n=.ok q):
  q=(list,size,n)/\n<=l.length - size/\(list=false->n=1->¬(l.getD size 0).toNat<128):=by
 unfold hd2 at h;split at h;.cases h
 split at h;.cases h
 .rename_i C A
  cases h;exact⟨rfl,nK,λa b c=>A ⟨a,b,c⟩⟩
theorem EE{size:Nat}(hn:size+n<=l.length)(h:n=1->¬(l.getD size 0).toNat<128):single ((l.drop size).take n)=false:=by
 cases e:(l.drop size).take n with
 |nil=>rfl
 |cons b t=>
  cases t with
  |cons c t=>rfl
  |nil=>
   have A:n=1:=by
    have:=congrArg List.length e;simp at this;omega
   have C:l[size]? =some b:=by
    have:=congrArg (λl=>l[0]?) e;simpa [A,mM]using this
   have:=h A;simp[List.getD,C]at this;simp[single];omega
theorem Ky(h:hd l=.ok q):
  q.2.1+q.2.2<=l.length/\0<q.2.1+q.2.2/\q.2.2<=l.length/\
  ((q.1=false/\q.2.1=0/\q.2.2=1/\single ((l.drop q.2.1).take q.2.2)=true)\/
   (l.take q.2.1=hdr (if q.1 then 192 else 128) q.2.2/\(q.1=false->single ((l.drop q.2.1).take q.2.2)=false)/\0<q.2.1)):=by
 cases l with
 |nil=>simp[hd]at h
 |cons b r=>
  simp only[hd]at h;have Z:=b.toNat_lt;split at h
  .rename_i c
   cases h;exact⟨nR,nR,nR,.inl ⟨rfl,rfl,rfl,by simp[single];omega⟩⟩
  rename_i c;have C:(if 192<=b.toNat then(192:Nat)else 128)=(if decide (192<=b.toNat)then 192 else 128):=nR;have V:(if 192<=b.toNat then(192:Nat)else 128)<=b.toNat:=by split<;>omega
  have Y:(if 192<=b.toNat then(192:Nat)else 128)=128\/(if 192<=b.toNat then(192:Nat)else 128)=192:=by split<;>simp
  generalize decide (192<=b.toNat)=list at*;generalize hB:(if 192<=b.toNat then(192:Nat)else 128)=by' at*;split at h
  .rename_i c1
   obtain⟨rfl,E,I⟩:=RF h;simp only[kD]at E⊢;refine⟨nK,nK,nK,.inr ⟨?_,λe=>EE nQ (λJ=>I e J),nK⟩⟩;unfold hdr;rw[if_pos c1,<-C];have e:jZ (by'+(b.toNat - by'))=b:=by rw[show by'+(b.toNat - by')=b.toNat by omega];simp
   rw[e];simp
  rename_i c1;split at h;.cases h
  rename_i c2;split at h;.cases h
  rename_i c3;obtain⟨rfl,E,I⟩:=RF h;simp only[kD]at E c2⊢;refine⟨nK,nK,nK,.inr ⟨?_,λe=>EE nQ (λJ=>I e J),nK⟩⟩;have hk:(r.take (b.toNat - by' - 55)).length=b.toNat - by' - 55:=nQ;cases A:r.take (b.toNat - by' - 55)with
  |nil=>rw[A]at hk;simp at hk;omega
  |cons c0 t=>
   have N:r.head? =some c0:=by
    cases r with
    |nil=>simp at A
    |cons c1 aa=>rw[show b.toNat - by' - 55=(b.toNat - by' - 56)+1 by omega,ky]at A;simp at A⊢;exact A.1
   have O:c0.toNat≠0:=by
    intro e;apply c3;left;rw[N];congr 1;exact lU.1 e
   have Q:xh (uE (c0::t))=(c0::t).reverse:=by
    unfold uE;rw[List.reverse_cons,Mf _ _ O]
   rw[A]at hk c3;unfold hdr;have U:¬uE (c0::t)<=55:=λh=>c3 (.inr nK)
   rw[if_neg U,Q,List.reverse_reverse,List.length_reverse,hk,<-C];have e:jZ (by'+55+(b.toNat - by' - 55))=b:=by rw[show by'+55+(b.toNat - by' - 55)=b.toNat by omega];simp
   rw[e,show 1+(b.toNat - by' - 55)=(b.toNat - by' - 55)+1 by omega,ky,A]
theorem WJ(h:∀l m y,vU k l m=.ok y->0<y.2.1/\y.2.1<=l.length/\y.2.2+y.1.count=m/\y.1.deep<=k/\y.1.all qb=true/\l.take y.2.1=enc y.1):
  ∀(f:Nat)(l:List UInt8)(m:Nat)(sub:List (nL IL))(y:List (nL IL)×Nat),Jm (vU k) f l m sub=.ok y->
   ∃s,y.1=sub++s/\l=q8 s/\y.2+nL.nW s=m/\nL.o6 s<=k/\nL.o7 qb s=true:=by
 intro f;induction f with
 |zero=>intro l m sub y A;simp[Jm]at A
 |succ f C=>
  intro l m sub y A;simp only[Jm]at A;split at A
  .rename_i e
   cases A;exact⟨[],nR,by simp[e,q8],by simp[nL.nW],by simp[nL.o6],by simp[nL.o7]⟩
  .split at A
   .cases A
   .rename_i x E
    obtain⟨N,O,Q,U,I,J⟩:=h _ _ _ E;obtain⟨s,e1,e2,e3,e4,e5⟩:=C _ _ _ _ A;refine⟨x.1::s,by rw[e1];simp,?_,?_,?_,?_⟩;.simp only[q8];rw[<-J,<-e2,mQ]
    .simp only[nL.nW];omega
    .simp only[nL.o6];omega
    .simp only[nL.o7,I,e5];rfl
theorem MZ:∀(k:Nat)(l:List UInt8)(m:Nat)(y:nL IL×Nat×Nat),vU k l m=.ok y->
  0<y.2.1/\y.2.1<=l.length/\y.2.2+y.1.count=m/\y.1.deep<=k/\y.1.all qb=true/\l.take y.2.1=enc y.1:=by
 intro k;induction k with
 |zero=>intro l m y h;simp only[vU]at h;split at h<;>cases h
 |succ k N=>
  intro l m y h;simp only[vU]at h;split at h;.cases h
  split at h;.cases h
  rename_i hl Y;split at h;.cases h
  rename_i q O;obtain⟨J,a2,a3,a4⟩:=Ky O;split at h
  .rename_i A
   split at h;.cases h
   rename_i z Q;obtain⟨s,e1,e2,e3,e4,e5⟩:=WJ N _ _ _ _ _ Q;cases h;simp only[List.nil_append]at e1;refine⟨a2,J,?_,?_,?_,?_⟩;.simp only[nL.count,e1];omega
   .simp only[nL.deep,e1];omega
   .simp only[nL.all,e1,e5,qb,uM];rfl
   .rcases a4 with⟨C,_⟩|⟨C,_,_⟩
    .rw[A]at C;cases C
    .simp only[enc,if_true,e1,<-e2]
     rw[A,if_pos rfl]at C;rw[show((l.drop q.2.1).take q.2.2).length=q.2.2 by simp;omega,<-C,List.take_add]
  .rename_i A
   have E:q.1=false:=by simpa using A
   cases h;refine⟨a2,J,?_,?_,?_,?_⟩;.simp only[nL.count,nL.nW];omega
   .simp only[nL.deep,nL.o6];omega
   .simp[nL.all,qb,uM,nL.o7]
   .rcases a4 with⟨C,I,U,V⟩|⟨C,I,U⟩
    .simp only[enc,lF,if_false,V,if_true]
     simp[I]
    .simp only[enc,lF,if_false,I E]
     rw[E]at C;simp only[lF,if_false]at C;rw[show((l.drop q.2.1).take q.2.2).length=q.2.2 by simp;omega,<-C,List.take_add]
theorem Gj{t:List UInt8}(h:single t=true):∃b,t=[b]/\b.toNat<128:=by
 cases t with
 |nil=>cases h
 |cons b t=>cases t with
  |nil=>exact⟨b,rfl,by simpa [single]using h⟩
  |cons c t=>cases h
theorem RG(x:nL IL):0<(enc x).length:=by
 cases x with
 |node a s=>
  simp only[enc];split;.have:=Kv 192 (q8 s).length;simp;omega
  split;.rename_i h;obtain⟨b,e,_⟩:=Gj h;rw[e];simp
  .have:=Kv 128 a.text.length;simp;omega
theorem M0(s t:List (nL IL)):q8 (s++t)=q8 s++q8 t:=by
 induction s with
 |nil=>simp[q8]
 |cons x xs A=>simp[q8,A]
theorem a0H:∀(s:List (nL IL))(f m:Nat)(sub:List (nL IL)),
  (∀x,x∈s->∀(m:Nat)(r:List UInt8),x.deep<=k->x.count<=m->vU k (enc x++r) m=.ok (x,(enc x).length,m - x.count))->
  (q8 s).length<f->nL.o6 s<=k->nL.nW s<=m->Jm (vU k) f (q8 s) m sub=.ok (sub++s,m - nL.nW s):=by
 intro s;induction s with
 |nil=>
  intro f m sub _ A _ _;cases f with
  |zero=>omega
  |succ f=>simp[Jm,q8,nL.nW]
 |cons x xs C=>
  intro f m sub h A hd hc;cases f with
  |zero=>omega
  |succ f=>
   simp only[q8,jY]at A;simp only[nL.o6]at hd;simp only[nL.nW]at hc;have hp:=RG x;rw[show q8 (x::xs)=enc x++q8 xs from rfl];simp only[Jm];rw[if_neg (by intro e;have:=congrArg List.length e;rw[jY,List.length_nil]at this;omega),h x (List.mem_cons_self ..) m _ nK nK];simp only;rw[List.drop_left' rfl,C f (m - x.count) (sub++[x]) (λz E=>h z (List.mem_cons_of_mem _ E)) nK nK nK];simp[nL.nW,Nat.sub_sub]
theorem RH:∀(k:Nat)(x:nL IL)(m:Nat)(r:List UInt8),x.all qb=true->(enc x).length<2^64->x.deep<=k->x.count<=m->
  vU k (enc x++r) m=.ok (x,(enc x).length,m - x.count):=by
 intro k;induction k with
 |zero=>intro x m r _ _ h;have:=nL.MW x;omega
 |succ k N=>
  intro x m r A hl E hc;have Y:=nL.wH x;have hp:=RG x;simp only[vU];rw[if_neg (by intro e;have:=congrArg List.length e;rw[jY,List.length_nil]at this;omega),if_neg nK];cases x with
  |node a s=>
   obtain⟨t,li⟩:=a;simp only[nL.all,j3,qb,uM]at A;simp only[nL.deep]at E;simp only[nL.count]at hc;cases li with
   |true=>
    simp only[if_true,List.isEmpty_iff]at A;obtain⟨rfl,C⟩:=A;simp only[enc,if_true]at hl⊢;rw[jY]at hl;have key:=WI (list:=true) (n:=(q8 s).length) (body:=q8 s) (r:=r) nK rfl (λh=>by cases h);simp only[if_true]at key;rw[lD,key];simp only[if_true];rw[List.drop_left' rfl,List.take_left' rfl,a0H s ((q8 s).length+1) (m - 1) [] (λz O Q r' U V=> ?_) nK nK nK];.simp[nL.count,Nat.sub_sub]
    .obtain⟨i,hi⟩:=List.mem_iff_getElem?.1 O
     refine N z Q r' ?_ ?_ U V
     .cases I:z.all qb with
      |true=>rfl
      |false=>rw[nL.sG hi I]at C;cases C
     .have e:q8 s=q8 (s.take i)++(enc z++q8 (s.drop (i+1))):=by
       have J:=(ll.1 hi);obtain⟨hi1,hi2⟩:=J;conv=>lhs;rw[<-mQ i s,List.drop_eq_getElem_cons hi1,hi2,M0]
       simp[q8]
      have:=congrArg List.length e;simp at this;omega
   |false=>
    simp only[lF,if_false,decide_eq_true_eq,mf]at A;obtain⟨rfl,_⟩:=A;simp only[enc,lF,if_false]at hl⊢;by_cases hs:single t=true
    .obtain⟨b,rfl,hb⟩:=Gj hs
     simp[single,hd,hb,nL.count,nL.nW]
    .rw[if_neg hs,jY]at hl
     simp only[if_neg hs];have key:=WI (list:=false) (n:=t.length) (body:=t) (r:=r) nK rfl (λ_=>by simpa using hs);simp only[lF,if_false]at key;rw[lD,key];simp only[lF,if_false];rw[List.drop_left' rfl,List.take_left' rfl];simp[nL.count,nL.nW]
mutual
theorem WK(x:nL IL)(h:Z6 x+9*x.count<2^64):(enc x).length<=Z6 x+9*x.count:=by
 cases x with
 |node a s=>
  simp only[Z6,nL.count]at h⊢;have A:=RI s nK;simp only[enc];split
  .have:=Kw 192 (q8 s).length nK
   simp;omega
  split;.omega
  .have:=Kw 128 a.text.length nK
   simp;omega
theorem RI(s:List (nL IL))(h:zk s+9*nL.nW s<2^64):(q8 s).length<=zk s+9*nL.nW s:=by
 cases s with
 |nil=>simp[q8]
 |cons x xs=>
  simp only[zk,nL.nW]at h⊢;have A:=WK x nK;have C:=RI xs nK;simp only[q8,jY];omega
end
end
section
open Go.RowKit
abbrev IT:ko:=47
def anyI:Nat->Prop:=λ_=>True
abbrev nV(w:jJ)(Q:Nat->Prop)(v:jP)(s:List (nL IL)):Prop:=sZ.nX w Q v s
abbrev pM(w:jJ)(v:jP)(s:List (nL IL)):Prop:=sZ.nX w anyI v s
def txt(a:IL):ByteArray:=⟨a.text.toArray⟩
theorem Cv(a:IL):(txt a).data.toList=a.text:=rfl
theorem sH(a:IL):(txt a).size=a.text.length:=mP
theorem nV.slice{s:List (nL IL)}(h:nV w Q v s):∃oa cap,v=nk oa s.length cap/\s.length<=cap/\cap<=j5:=by
 obtain⟨oa,cap,A,C,E,_⟩:=h;exact⟨oa,cap,A,C,E⟩
theorem nV.at_{oa:Option l5}{cap:Nat}{s:List (nL IL)}(h:nV w Q (nk oa n cap) s){x:nL IL}(A:s[i]? =some x):
  ∃b off u,oa=some ⟨b,off,none⟩/\b<w.heap.size/\Q b/\w.cell? ⟨b,off+i*3,none⟩=some (ny (txt x.lab))/\w.cell? ⟨b,off+i*3+1,none⟩=some (nA x.lab.list)/\
   w.cell? ⟨b,off+i*3+2,none⟩=some u/\nV w Q u x.sub/\x.lab.text.length<=j5:=by
 obtain⟨N,C,E,O,U,I⟩:=Shape.nX.get h;cases E;obtain⟨b,off,u,e,hb,J,ho,hc,hs⟩:=I i x A;exact⟨b,off,u,e,hb,J,by simpa [sZ,txt,kP]using hc 0 nN,by simpa [sZ,kP]using hc 1 nN,by simpa [sZ,kP]using hc 2 nN,hs,ho⟩
theorem rU{t:ko}{T:ByteArray}{l:Bool}{s:List (nL IL)}(h:nV w Q v s):
  ∀W,w.alloc (nG #[ny T,nA l,v] t)=W->jS w.heap.size w W/\nV W Q v s/\W.heap.size=w.heap.size+1/\
   W.cell? ⟨w.heap.size,0,none⟩=some (ny T)/\W.cell? ⟨w.heap.size,1,none⟩=some (nA l)/\W.cell? ⟨w.heap.size,2,none⟩=some v/\nO W w.heap.size #[ny T,nA l,v] t:=by
 rintro W rfl;have A:=(jT w.heap.size w).alloc (jL _) (nG #[ny T,nA l,v] t);have hB:=nO.new w #[ny T,nA l,v] t;exact⟨A,Shape.nX.below h A,nR,hB.cell 0,hB.cell 1,hB.cell 2,hB⟩
theorem Uk{t:ko}{T T2:ByteArray}{l l2:Bool}{v2:jP}{s A:List (nL IL)}(h:pM w v s)(I:pM w v2 A):
  ∀W,(w.alloc (nG #[ny T,nA l,v] t)).alloc (nG #[ny T2,nA l2,v2] t)=W->jS w.heap.size w W/\pM W v s/\pM W v2 A/\W.heap.size=w.heap.size+2/\
   (W.cell? ⟨w.heap.size,0,none⟩=some (ny T)/\W.cell? ⟨w.heap.size,1,none⟩=some (nA l)/\W.cell? ⟨w.heap.size,2,none⟩=some v)/\
   (W.cell? ⟨w.heap.size+1,0,none⟩=some (ny T2)/\W.cell? ⟨w.heap.size+1,1,none⟩=some (nA l2)/\W.cell? ⟨w.heap.size+1,2,none⟩=some v2):=by
 rintro W rfl;obtain⟨C,a2,a3,a4,a5,a6,_⟩:=rU (T:=T) (l:=l) (t:=t) h _ rfl;obtain⟨b1,J,b3,b4,E,b6,_⟩:=rU (w:=w.alloc (nG #[ny T,nA l,v] t)) (T:=T2) (l:=l2) (t:=t) (Shape.nX.below I C) _ rfl;rw[a3]at b1 b3 b4 E b6;have hlt:w.heap.size<w.heap.size+1:=lM _;exact⟨C.trans (b1.mono nK),Shape.nX.below a2 (a3▸b1),J,b3,⟨(b1.cell (p:=⟨w.heap.size,0,none⟩) hlt).trans a4,(b1.cell (p:=⟨w.heap.size,1,none⟩) hlt).trans a5,(b1.cell (p:=⟨w.heap.size,2,none⟩) hlt).trans a6⟩,b4,E,b6⟩
theorem Kz(h:p:=by
 by_cases h:z=c;.exact .inl ⟨by simp[h],h⟩
 .exact .inr ⟨by simp[h],h⟩):p:=h
theorem a5N(z c:Int):((z !=c)=false/\jW (z=c))\/((z !=c)=true/\jW (z≠c)):=by
 exact Kz
theorem str_eq{a b:ByteArray}(h:a=b):(a.toList==b.toList)=true:=by subst h;simp
theorem WL{a b:ByteArray}(h:a≠b):(a.toList==b.toList)=false:=by rw[Lib.toList_data,Lib.toList_data,beq_eq_false_iff_ne];exact λe=>h (Go.WideShapes.bytes_inj e)
theorem a0I{a b:IL}(h:txt a=txt b):a.text=b.text:=by rw[<-Cv a,<-Cv b,h]
theorem a5O.vF{α:Type}(s:List (nL α))(i:Nat):nL.o6 (s.take i)<=nL.o6 s:=by
 conv=>rhs;rw[<-mQ i s,nL.wB]
 exact Nat.le_max_left _ _
theorem Fe(T:ByteArray):(T.toList==([]:List UInt8))=decide (T.size=0):=by
 rw[Lib.toList_data];by_cases h:T.size=0
 .rw[decide_eq_true h]
  have:T.data.toList=[]:=mf.1 (by simpa using h);rw[this];rfl
 .rw[decide_eq_false h,beq_eq_false_iff_ne]
  intro e;apply h;have:=congrArg List.length e;simpa using this
theorem WM(a:IL):decide ((txt a).size=0)=a.text.isEmpty:=by
 rw[sH];cases a.text<;>simp
theorem Gl(a b:IL)(s t:List (nL IL)):(nL.node a s).same Gg (.node b t)=(Gg a b&&nL.rT Gg s t):=rfl
theorem Ff(h:p:=by
 go_wp2_with fail;go_returns;exact⟨by rw[HE.out];rfl,HF.out⟩):p:=h
theorem Ul(x:nL IL):∀(y:nL IL)(w:jJ)(v v2:jP),pM w v x.sub->pM w v2 y.sub->
  jV jI 43 #[nC #[ny (txt x.lab),nA x.lab.list,v],nC #[ny (txt y.lab),nA y.lab.list,v2]] w
   λe w'=>e=nE (nA (x.same Gg y))/\jS w.heap.size w w':=by
 induction x using nL.ind with
 |h a s aK=>
  intro y w v v2 af O;obtain⟨a2,E⟩:=y;simp only[nL.qx,nL.oQ]at af O⊢;obtain⟨oa,cap,rfl,aA,aj⟩:=nV.slice af;obtain⟨aL,V,rfl,ag,aB⟩:=nV.slice O;obtain⟨g,hg⟩:=nT w.heap.size;have Y:=jH (Uk (T:=txt a) (l:=a.list) (T2:=txt a2) (l2:=a2.list) (t:=IT) af O);have aM:s.length<=9223372036854775807:=by unfold j5 at aj;omega
  have I:jW ((nL.node a s).same Gg (.node a2 E)=(decide (a.list=a2.list)&&decide (txt a=txt a2)&&nL.rT Gg s E)):=jH (by
   have e1:decide (txt a=txt a2)=decide (a.text=a2.text):=decide_eq_decide.2 ⟨a0I,λh=>by unfold txt;rw[h]⟩;rw[Gl,e1];unfold Gg;by_cases aC:a.list=a2.list<;>by_cases aD:a.text=a2.text<;>simp[aC,aD])
  generalize (nL.node a s).same Gg (.node a2 E)=R at*;obtain⟨M,aF⟩:=nT s.length;have aG:=jH aF;obtain⟨aH,Z⟩:=nT E.length;have aa:=jH Z;have bq:=jH aK;rw[hg]at Y⊢;rw[aF]at Y aM⊢;rw[Z]at Y⊢;clear af O aA aj ag aB aK aF Z;have ah:=a5N (M:Int) (aH:Int);go_in;go_upto_region 1 with fail;generalize (w.alloc (nG #[ny (txt a),nA a.list,nk oa M cap] IT)).alloc (nG #[ny (txt a2),nA a2.list,nk aL aH V] IT)=w1 at*;obtain⟨ak,ht1,ht2,hsz,⟨c0,c1,c2⟩,bu,e1,e2⟩:=Y.out _ rfl;have Q:=jH (jU ak (jU ht1 ht2));clear Y ak ht1 ht2;generalize txt a=T at*;generalize txt a2=T2 at*;generalize a.list=L at*;generalize a2.list=aN at*;by_cases hL:L=aN;case neg=>
   have HE:jW (R=false):=jH (by rw[I.out];simp[hL]);clear I;rcases L with _|_<;>rcases aN with _|_<;>first|exact absurd rfl hL|skip
   all_goals
    clear hL;go_wp2_with fail;go_returns;exact⟨by rw[HE.out];rfl,Q.1⟩
  subst hL;by_cases J:T=T2;case neg=>
   have HE:jW (R=false):=jH (by rw[I.out];simp[J]);have aO:=WL J;clear I J;rcases L with _|_
   all_goals
    go_wp2_with fail;go_returns;exact⟨by rw[HE.out];rfl,Q.1⟩
  have aO:=str_eq J;rcases ah with⟨ah,aI⟩|⟨ah,aI⟩
  case inr=>
   have HE:jW (R=false):=jH (by
    have q:=aI.out;rw[I.out,nL.Ku (by rw[aG.out,aa.out];omega),Bool.and_false])
   clear I J;rcases L with _|_
   all_goals
    go_wp2_with fail;go_returns;exact⟨by rw[HE.out];rfl,Q.1⟩
  obtain rfl:M=aH:=by have:=aI.out;omega
  have au:jW (R=nL.rT Gg s E):=jH (by rw[I.out];simp[J]);clear I J;rcases L with _|_
  all_goals
   go_wp2_with fail;clear ah c0 c1 bu e1 aO;go_loopw [5] (λiv bz=>∃k:Nat,iv=ng nH k/\k<=M/\jW (nL.rT Gg (s.take k) (E.take k)=true)/\jW (jS (g+2) w1 bz)) (λiv _=>M -(kW iv).toNat);case atStart=>exact⟨0,rfl,nK,by simp[jW,nL.rT],jH (jT _ _)⟩
   case round=>
    obtain⟨k,rfl,hk,aP,C⟩:=hrel;have aQ:wr.cell? ⟨g,2,none⟩=some (nk oa M cap):=(C.cell (p:=⟨g,2,none⟩) (show g<g+2 by omega)).trans c2;have HF:jW (jS g w wr):=jH (Q.1.trans (C.mono nK));by_cases c:k<M
    .obtain⟨y,ai⟩:∃y,s[k]? =some y:=⟨_,jX (by rw[aG.out];exact c)⟩
     obtain⟨U,ae⟩:∃y,E[k]? =some y:=⟨_,jX (by rw[aa.out];exact c)⟩;obtain⟨b,off,u,rfl,hlt,_,aR,aS,y2,aT,aU⟩:=nV.at_ (Shape.nX.below Q.2.1 (hsz▸C.out)) ai;obtain⟨b',A,aV,rfl,N,_,av,ax,ay,az,aJ⟩:=nV.at_ (Shape.nX.below Q.2.2 (hsz▸C.out)) ae;have aW:g+2<=wr.heap.size:=by have:=C.size;omega
     have bG:∀x:sM wr,x.at_.cell? ⟨g,2,none⟩=some (nk (some ⟨b,off,none⟩) M cap):=λx=>(x.is.cell (p:=⟨g,2,none⟩) (show g<wr.heap.size by omega)).trans aQ
     have bC:∀x:sM wr,x.at_.cell? ⟨g+1,2,none⟩=some (nk (some ⟨b',A,none⟩) M V):=λx=>(x.is.cell (p:=⟨g+1,2,none⟩) (show g+1<wr.heap.size by omega)).trans ((C.cell (p:=⟨g+1,2,none⟩) (show g+1<g+2 by omega)).trans e2)
     have bH:∀x:sM wr,x.at_.cell? ⟨b,off+k*3,none⟩=some (ny (txt y.lab)):=λx=>(x.is.cell (p:=⟨b,off+k*3,none⟩) hlt).trans aR
     have bI:∀x:sM wr,x.at_.cell? ⟨b,off+k*3+1,none⟩=some (nA y.lab.list):=λx=>(x.is.cell (p:=⟨b,off+k*3+1,none⟩) hlt).trans aS
     have bJ:∀x:sM wr,x.at_.cell? ⟨b,off+k*3+2,none⟩=some u:=λx=>(x.is.cell (p:=⟨b,off+k*3+2,none⟩) hlt).trans y2
     have bD:∀x:sM wr,x.at_.cell? ⟨b',A+k*3,none⟩=some (ny (txt U.lab)):=λx=>(x.is.cell (p:=⟨b',A+k*3,none⟩) N).trans av
     have bE:∀x:sM wr,x.at_.cell? ⟨b',A+k*3+1,none⟩=some (nA U.lab.list):=λx=>(x.is.cell (p:=⟨b',A+k*3+1,none⟩) N).trans ax
     have bF:∀x:sM wr,x.at_.cell? ⟨b',A+k*3+2,none⟩=some aV:=λx=>(x.is.cell (p:=⟨b',A+k*3+2,none⟩) N).trans ay
     have bA:=jH (λx:sM wr=>bq.out y (kT ai) U x.at_ u aV (Shape.nX.below aT x.is) (Shape.nX.below az x.is));have aX:jW (nL.rT Gg (s.take (k+1)) (E.take (k+1))=y.same Gg U):=by
      unfold jW;rw[nL.PK ai ae,aP.out];rfl
     have aY:jW (y.same Gg U=false->R=false):=jH λh=>by rw[au.out];exact nL.MX ai ae h
     have aZ:jW (∀x:sM wr,jS (g+2) w1 x.at_):=jH λx=>C.trans (x.is.mono aW)
     have hbf:jW (∀x:sM wr,jS g w x.at_):=jH λx=>HF.trans (x.is.mono nK)
     clear aT aU az aJ aR aS y2 av ax ay;generalize y.same Gg U=bB at*;go_upto_region 6 with fail;refine oC nM nM ?_;repeat(go_big_quiet_step (exact Calls.after (bA _)))
     refine mJ ?_;intro x;cases bB with
     |true=>
      go_wp2_with fail;exact⟨⟨k+1,by go_num,nK,aX,jH (aZ x)⟩,by simp[kW];omega⟩
     |false=>
      have HE:=jH (aY rfl);go_wp2_with fail;go_returns;exact⟨by rw[HE.out];rfl,hbf x⟩
    .obtain rfl:k=M:=nK
     have HE:jW (R=true):=by
      unfold jW;have aC:s.take k=s:=by rw[<-aG.out,l9]
      have aD:E.take k=E:=by rw[<-aa.out,l9]
      have bg:=aP.out;rw[aC,aD]at bg;rw[au.out,bg]
     exact Ff
theorem WN(a:IL):Gg a a=true:=by simp[Gg]
mutual
theorem Gm(x:nL IL):x.same Gg x=true:=by
 cases x with
 |node a s=>simp only[nL.same,WN,EF s,Bool.and_self]
theorem EF(s:List (nL IL)):nL.rT Gg s s=true:=by
 cases s with
 |nil=>rfl
 |cons x xs=>simp only[nL.rT,Gm x,EF xs,Bool.and_self]
end
theorem M3(a:IL)(oa:Option l5)(n cap:Nat)(w:jJ)(hn:n<=9223372036854775807):
  jV jI 200 #[nC #[ny (txt a),nA a.list,nk oa n cap]] w λe w'=>e=nE (nA (uM a n))/\jS w.heap.size w w':=by
 obtain⟨g,hg⟩:=nT w.heap.size;have I:jW (∀W,w.alloc (nG #[ny (txt a),nA a.list,nk oa n cap] IT)=W->jS g w W/\nO W g #[ny (txt a),nA a.list,nk oa n cap] IT):=jH λW h=>by
  subst h;exact⟨hg▸(jT _ w).alloc (jL _) _,hg▸nO.new w _ _⟩
 have A:jW (uM a n=if a.list then decide ((txt a).size=0)else decide (n=0)):=jH (by rw[WM];rfl);have C:=jH (Fe (txt a));rw[hg];generalize uM a n=K at*;generalize txt a=T at*;generalize a.list=L at*;go_in;go_upto_region 1 with fail;generalize w.alloc (nG #[ny T,nA L,nk oa n cap] IT)=w1 at*;obtain⟨hb,hB⟩:=I.out _ rfl;obtain⟨c0,c1,c2⟩:=hB.a3;have HB:=jH hb;clear I hb hB;cases L with
 |true=>
  obtain⟨q,E⟩:=nT ((T.toList==([]:List UInt8)));have HE:jW (K=q):=jH (by rw[A.out,<-E,C.out];rfl);clear A C;exact DY
 |false=>
  obtain⟨q,E⟩:=nT (((n:Int)==0));have HE:jW (K=q):=jH (by
   rw[A.out,<-E];by_cases h:n=0;.simp[h]
   .simp[h])
  clear A C;exact DY
def NB(w:jJ)(b n:Nat):Prop:=nO w b #[ng nH (n:Int)] 3
abbrev Cw(b q:Nat)(w:jJ)(v:jP)(s:List (nL IL)):Prop:=sZ.nX w (λc=>c≠b/\c≠q) v s
theorem Cw.upd{b q:Nat}{s:List (nL IL)}(h:Cw b q w v s)(A:oN b q w w'):Cw b q w' v s:=
 Shape.nX.keep h A.size (λ_ _ h=>h) λc hc C=>A.block c hc C.1 C.2
theorem oN.of{b q:Nat}(h:jS w.heap.size w w'):oN b q w w':=⟨h.os,h.tape,h.output,h.size,λi hi _ _=>h.block i hi⟩
theorem IP(T:ByteArray)(l:Bool)(o:Option l5)(n c:Nat)(w:jJ):jV jI 205 #[nC #[ny T,nA l,nk o n c]] w λe w'=>e=nE (nA true)/\jS w.heap.size w w':=by
 have A:=jH ((jT _ w).alloc (jL _) (nG #[ny T,nA l,nk o n c] IT));go_in;go_wp2_with fail;go_returns;exact⟨rfl,A.out⟩
def zL(fe:FuncId)(x:nL IL):Prop:=fe=200\/(fe=205/\x.all qb=true)
theorem zL.cf{x:nL IL}(h:zL fe x):∀a W,mi jI (callFunc fe #[a]) W=.ok (.enter fe #[a]) W:=by
 rcases h with rfl|⟨rfl,_⟩
 .exact λ_ _=>rfl
 .exact λ_ _=>rfl
theorem zL.sub{a:IL}{s:List (nL IL)}(h:zL fe (.node a s)){y:nL IL}(E:s[k]? =some y):zL fe y:=by
 rcases h with h|⟨h,A⟩
 .exact .inl h
 .refine .inr ⟨h,?_⟩
  cases C:y.all qb with
  |true=>rfl
  |false=>
   simp only[nL.all,j3]at A;rw[nL.sG E C]at A;cases A.2
theorem a0J{a:IL}{s:List (nL IL)}(h:zL fe (.node a s))(oa:Option l5)(cap:Nat)(w:jJ)(hn:s.length<=9223372036854775807):
  jV jI fe #[nC #[ny (txt a),nA a.list,nk oa s.length cap]] w λe w'=>e=nE (nA (uM a s.length))/\jS w.heap.size w w':=by
 rcases h with rfl|⟨rfl,A⟩
 .exact M3 a oa s.length cap w hn
 .simp only[nL.all,j3,qb]at A
  rw[A.1];exact IP _ _ _ _ _ w
structure zM(fe:FuncId)(w:jJ)(bc be bd bv:Nat):Prop where
 each:nO w be #[.func (.func fe) #[] #[]] 56
 visit:nO w bv #[.func (.func 238) #[] #[nz (some ⟨bc,0,none⟩),nz (some ⟨be,0,none⟩),nz (some ⟨bd,0,none⟩),nz (some ⟨bv,0,none⟩)]] 273
 e1:be≠bc
 e2:be≠bd
 v1:bv≠bc
 v2:bv≠bd
 cd:bc≠bd
theorem zM.upd{bc be bd bv:Nat}(h:zM fe w bc be bd bv)(A:oN bc bd w w'):zM fe w' bc be bd bv:=⟨A.blk h.each h.e1 h.e2,A.blk h.visit h.v1 h.v2,h.e1,h.e2,h.v1,h.v2,h.cd⟩
theorem zM.below{bc be bd bv:Nat}(h:zM fe w bc be bd bv)(hb:jS w.heap.size w w'):zM fe w' bc be bd bv:=h.upd (oN.of hb)
theorem NB.below{b:Nat}(h:NB w b n)(hb:jS w.heap.size w w'):NB w' b n:=Below.blk hb h (nO.lt h)
def IQ(x:nL IL)(d n:Nat):Bool:=decide (d+x.deep<=17)&&decide (n+x.count<=1024)&&x.all qb
theorem Um(x:nL IL):IQ x 1 0=qZ x:=by
 unfold IQ qZ;rw[show decide (1+x.deep<=17)=decide (x.deep<=16)by rw[decide_eq_decide];omega,show decide (0+x.count<=1024)=decide (x.count<=1024)by rw[decide_eq_decide];omega];cases x.all qb<;>cases decide (x.deep<=16)<;>cases decide (x.count<=1024)<;>rfl
abbrev PL(g:Nat):jP:=.func (.func 238) #[] #[nz (some ⟨g+2,0,none⟩),nz (some ⟨g+1,0,none⟩),nz (some ⟨g+3,0,none⟩),nz (some ⟨g+4,0,none⟩)]
structure a5P(fe:FuncId)(g:Nat)(w w1 w2 w3 w4 w5:jJ)(a:IL)(v:jP):Prop where
 e1:w.alloc (nG #[ny (txt a),nA a.list,v] IT)=w1
 e2:w1.alloc (nG #[.func (.func fe) #[] #[]] 56)=w2
 e3:w2.alloc (nG #[ng nH 0] 3)=w3
 e4:w3.alloc (nG #[ng nH 0] 3)=w4
 e5:w4.alloc (nG #[.nilFunc] 273)=w5
structure RJ(fe:FuncId)(g:Nat)(w W:jJ)(a:IL)(v:jP)(s:List (nL IL)):Prop where
 qa:jS g w W
 item:nO W g #[ny (txt a),nA a.list,v] IT
 off:Cw (g+2) (g+3) W v s
 c:NB W (g+2) 0
 d:NB W (g+3) 0
 vis:zM fe W (g+2) (g+1) (g+3) (g+4)
 size:W.heap.size=g+5
theorem WO{g:Nat}{w1 w2 w3 w4 w5 W:jJ}{a:IL}{s:List (nL IL)}(hg:w.heap.size=g)(Y:pM w v s)(Z:a5P fe g w w1 w2 w3 w4 w5 a v)(h:w5.setCell ⟨g+4,0,none⟩ (PL g)=W):
  RJ fe g w W a v s/\w1.heap.size=g+1/\w2.heap.size=g+2/\w3.heap.size=g+3/\w4.heap.size=g+4/\w5.cell? ⟨g+4,0,none⟩=some .nilFunc/\w5.frozen? ⟨g+4,0,none⟩=false:=by
 obtain⟨e1,e2,e3,e4,e5⟩:=Z;have J:w1.heap.size=g+1:=by rw[<-e1];simp;omega
 have N:w2.heap.size=g+2:=by rw[<-e2];simp;omega
 have O:w3.heap.size=g+3:=by rw[<-e3];simp;omega
 have Q:w4.heap.size=g+4:=by rw[<-e4];simp;omega
 have aa:w5.heap.size=g+5:=by rw[<-e5];simp;omega
 have b1:jS g w w1:=by rw[<-e1,<-hg];exact(jT _ w).alloc (jL _) _
 have ae:jS (g+1) w1 w2:=by rw[<-e2,<-J];exact(jT _ w1).alloc (jL _) _
 have b3:jS (g+2) w2 w3:=by rw[<-e3,<-N];exact(jT _ w2).alloc (jL _) _
 have b4:jS (g+3) w3 w4:=by rw[<-e4,<-O];exact(jT _ w3).alloc (jL _) _
 have af:jS (g+4) w4 w5:=by rw[<-e5,<-Q];exact(jT _ w4).alloc (jL _) _
 have ag:nO w1 g #[ny (txt a),nA a.list,v] IT:=by have:=nO.new w #[ny (txt a),nA a.list,v] IT;rw[e1,hg]at this;exact this
 have ah:nO w2 (g+1) #[.func (.func fe) #[] #[]] 56:=by have:=nO.new w1 #[.func (.func fe) #[] #[]] 56;rw[e2,J]at this;exact this
 have ai:nO w3 (g+2) #[ng nH 0] 3:=by have:=nO.new w2 #[ng nH 0] 3;rw[e3,N]at this;exact this
 have aj:nO w4 (g+3) #[ng nH 0] 3:=by have:=nO.new w3 #[ng nH 0] 3;rw[e4,O]at this;exact this
 have U:nO w5 (g+4) #[.nilFunc] 273:=by have:=nO.new w4 #[.nilFunc] 273;rw[e5,Q]at this;exact this
 have V:jS (g+4) w4 W:=by
  rw[<-h];exact pE.below ((pE.refl (g+4) w5).set 0 _) af (jL _) nK
 have C:jS (g+3) w3 W:=b4.trans (V.mono nK);have E:jS (g+2) w2 W:=b3.trans (C.mono nK);have I:jS (g+1) w1 W:=ae.trans (E.mono nK);have A:jS g w W:=b1.trans (I.mono nK);refine⟨?_,J,N,O,Q,U.cell 0,U.free 0⟩;refine⟨A,Below.blk I ag nK,?_,Below.blk C ai nK,Below.blk V aj nK,⟨Below.blk E ah nK,?_,nK,nK,nK,nK,nK⟩,by rw[<-h];simp[kC,aa]⟩;.exact Shape.nX.keep Y A.size (λc hc _=>by omega) λc hc _=>A.block c nK
 .rw[<-h]
  exact U.set 0 (PL g)
def Cx(x:nL IL)(d n A bc bd:Nat)(w:jJ)(e:Ending)(w':jJ):Prop:=
 e=nE (nA (IQ x d n))/\oN bc bd w w'/\(∃C,C<=1024/\NB w' bc C)/\(∃A,A<=16/\NB w' bd A)/\(IQ x d n=true->NB w' bc (n+x.count)/\NB w' bd (max A (d+x.deep - 1)))
theorem RL(h:p:=by
 go_wp2_with fail;exact HP _ _ ⟨by rw[HE.out];rfl,HU1.out,⟨n,hn,Z7.2.1⟩,⟨dd,hdd,Z7.2.2.1⟩,λh=>by rw[HE.out]at h;cases h⟩):p:=h
theorem M4(fe:FuncId)(x:nL IL):zL fe x->∀(w:jJ)(v:jP)(d n dd bc be bd bv:Nat),Cw bc bd w v x.sub->NB w bc n->NB w bd dd->zM fe w bc be bd bv->d<=17->n<=1024->dd<=16->
  jV jI 238 #[nC #[ny (txt x.lab),nA x.lab.list,v],ng nH d,nz (some ⟨bc,0,none⟩),nz (some ⟨be,0,none⟩),nz (some ⟨bd,0,none⟩),nz (some ⟨bv,0,none⟩)] w (Cx x d n dd bc bd w):=by
 induction x using nL.ind with
 |h a s bW=>
  intro av w v d n dd bc be bd bv aM bK bL bX hd hn hdd;have bY:=jH av;have hcf:=av.cf;simp only[nL.qx,nL.oQ]at aM⊢;obtain⟨oa,cap,rfl,bM,aR⟩:=nV.slice aM;obtain⟨g,hg⟩:=nT w.heap.size;have aS:s.length<=9223372036854775807:=by unfold j5 at aR;omega
  have HP:jW (∀e w',(e=nE (nA (IQ (.node a s) d n))/\oN bc bd w w'/\(∃bZ,bZ<=1024/\NB w' bc bZ)/\(∃dd,dd<=16/\NB w' bd dd)/\(IQ (.node a s) d n=true->NB w' bc (n+(1+nL.nW s))/\NB w' bd (max dd (d+(nL.o6 s+1) - 1))))->Cx (.node a s) d n dd bc bd w e w'):=jH λ_ _ h=>h
  generalize cz:Cx (.node a s) d n dd bc bd w=dL at HP⊢;have I:jW (IQ (.node a s) d n=(decide (d+(nL.o6 s+1)<=17)&&decide (n+(1+nL.nW s)<=1024)&&(uM a s.length&&nL.o7 qb s))):=jH rfl;have eP:bc<g:=hg▸nO.lt bK;have eQ:bd<g:=hg▸nO.lt bL
  have bN:jW (∀W,w.alloc (nG #[ny (txt a),nA a.list,nk oa s.length cap] IT)=W->oN bc bd w W/\Cw bc bd W (nk oa s.length cap) s/\NB W bc n/\NB W bd dd/\zM fe W bc be bd bv/\W.heap.size=g+1/\
    nO W g #[ny (txt a),nA a.list,nk oa s.length cap] IT):=jH λW h=>by
   subst h;have E:=(jT w.heap.size w).alloc (jL _) (nG #[ny (txt a),nA a.list,nk oa s.length cap] IT);exact⟨oN.of E,aM.upd (oN.of E),bK.below E,bL.below E,bX.below E,nQ,hg▸nO.new w _ _⟩
  generalize IQ (.node a s) d n=R at*;obtain⟨M,bO⟩:=nT s.length;have aN:=jH bO;have dM:=jH bW;obtain⟨C,V⟩:=nT (nL.nW s);have cK:=jH V;obtain⟨D,Y⟩:=nT (nL.o6 s);have cZ:=jH Y;rw[bO]at bN aS I⊢;rw[V,Y]at I;rw[V,Y]at HP;clear aM bM aR bW bO bK bL V Y cz bX;go_in;go_upto_region 1 with fail;generalize w.alloc (nG #[ny (txt a),nA a.list,nk oa M cap] IT)=w1 at*;obtain⟨aT,aU,ax,aV,ay,hsz,hB⟩:=bN.out _ rfl;obtain⟨dN,df,g2⟩:=hB.a3;have dO:w1.cell? ⟨bc,0,none⟩=some (ng nH n):=ax.cell 0;have dP:w1.cell? ⟨be,0,none⟩=some (.func (.func fe) #[] #[]):=ay.each.cell 0;have HU1:=jH aT;have Z7:=jH (jU aU (jU ax (jU aV (jU ay hB))));have aO:=jH (a0J av oa cap w1 (aN.out▸aS));rw[aN.out]at aO;clear bN aT aU ax aV ay hB;by_cases cd:16<d
  .have dQ:decide (16<(d:Int))=true:=nQ
   have HE:jW (R=false):=jH (by rw[I.out,decide_eq_false nK];rfl);clear cd;exact RL
  have dQ:decide (16<(d:Int))=false:=nQ;have dR:d<=16:=nK;clear cd;by_cases bP:n=1024
  .have dS:((n:Int)==1024)=true:=by simp[bP]
   have HE:jW (R=false):=jH (by rw[I.out,decide_eq_false (by omega:¬n+(1+C)<=1024),Bool.and_false];rfl);clear bP;exact RL
  have dS:((n:Int)==1024)=false:=wL;have eT:n<=1023:=nK;clear bP;generalize uM a M=q at*;cases q with
  |false=>
   have HE:jW (R=false):=jH (by rw[I.out];simp);go_wp2_with fail;refine aO.mono ?_;rintro e w2 ⟨rfl,A⟩;have Z:=jH (HU1.trans (oN.of A));have dh:=jH (Z7.2.1.below A);have dw:=jH (Z7.2.2.1.below A);clear A;go_wp2_with fail;exact HP _ _ ⟨by rw[HE.out];rfl,Z.out,⟨n,hn,dh.out⟩,⟨dd,hdd,dw.out⟩,λh=>by rw[HE.out]at h;cases h⟩
  |true=>
   have dx:jW (R=(decide (d+(D+1)<=17)&&decide (n+(1+C)<=1024)&&nL.o7 qb s)):=jH (by rw[I.out];simp);clear I;obtain⟨dm,az⟩:=nT (max dd d);have dU:(if dd<d then(d:Int)else(dd:Int))=(dm:Int):=by split<;>omega
   have aA:max (dd:Int) (d:Int)=(dm:Int):=nK;have aA:dm<=16:=nK;have aW:=jH az;clear az;go_wp2_with fail;refine aO.mono ?_;rintro e w2 ⟨rfl,A⟩;have aa:=Z7.2.1.below A;have hd2:=Z7.2.2.1.below A;have a0:w2.cell? ⟨bc,0,none⟩=some (ng nH n):=aa.cell 0;have dV:w2.frozen? ⟨bc,0,none⟩=false:=aa.free 0;have b0:w2.cell? ⟨bd,0,none⟩=some (ng nH dd):=hd2.cell 0;have b1:w2.frozen? ⟨bd,0,none⟩=false:=hd2.free 0;have aX:bc≠bd:=Z7.2.2.2.1.cd;have dz:=(A.cell (p:=⟨g,2,none⟩) (show g<w1.heap.size by omega)).trans g2;have dA:g≠bc:=nK;have dB:g≠bd:=nK;have Z:=jH (HU1.trans (oN.of A));have dW:=jH (jU aa (jU hd2 (jU (Z7.1.upd (oN.of A)) (jU (Z7.2.2.2.1.below A) (Below.blk A Z7.2.2.2.2 nK)))));clear A aa hd2 aO dN df g2 dP dO;have hst:jW (∀W,(w2.setCell ⟨bc,0,none⟩ (ng nH ((n:Int)+1))).setCell ⟨bd,0,none⟩ (ng nH dm)=W->oN bc bd w2 W/\NB W bc (n+1)/\NB W bd dm/\nO W g #[ny (txt a),nA a.list,nk oa M cap] IT/\Cw bc bd W (nk oa M cap) s/\zM fe W bc be bd bv):=jH λW h=>by
    subst h;obtain⟨dX,dY,dZ,ed,ek⟩:=dW.out;have J:oN bc bd w2 ((w2.setCell ⟨bc,0,none⟩ (ng nH ((n:Int)+1))).setCell ⟨bd,0,none⟩ (ng nH dm)):=((oN.refl bc bd w2).Bq 0 _).OX 0 _;refine⟨J,?_,?_,J.blk ek dA dB,dZ.upd J,ed.upd J⟩
    .have:=(nO.set dX 0 (ng nH ((n:Int)+1))).setOther (a:=⟨bd,0,none⟩) aX (ng nH dm)
     exact this
    .have:=(nO.setOther dY (a:=⟨bc,0,none⟩) (Ne.symm aX) (ng nH ((n:Int)+1))).set 0 (ng nH dm)
     exact this
   go_upto_region 5 with fail;generalize (w2.setCell ⟨bc,0,none⟩ (ng nH ((n:Int)+1))).setCell ⟨bd,0,none⟩ (ng nH dm)=w3 at*;obtain⟨aY,aZ,bg,aB,bq,bu⟩:=hst.out _ rfl;have eX:w3.cell? ⟨g,2,none⟩=some (nk oa M cap):=aB.cell 2;have eU:g+1<=w3.heap.size:=nO.lt aB;have ak:=jH (jU aY (jU aZ (jU bg (jU bq bu))));clear hst aY aZ bg aB bq bu a0 dV b0 b1 dz;go_wp2_with fail
   go_loopw [10,31] (λ_ iv bQ=>∃k:Nat,iv=ng nH k/\k<=M/\jW (oN bc bd w3 bQ)/\jW (NB bQ bc (n+1+nL.nW (s.take k))/\n+1+nL.nW (s.take k)<=1024)/\jW (∃e,e<=16/\NB bQ bd e/\e=max dm (d+nL.o6 (s.take k)))/\
    jW (d+1+nL.o6 (s.take k)<=17/\nL.o7 qb (s.take k)=true)) (λ_ iv _=>M -(kW iv).toNat)
   case atStart=>exact⟨0,rfl,nK,jH (oN.refl _ _ _),jH (by simpa [nL.nW]using⟨ak.2.1,nK⟩),jH ⟨dm,aA,ak.2.2.1,by have:=aW.out;simp[nL.o6];omega⟩,jH ⟨by simp[nL.o6];omega,by simp[nL.o7]⟩⟩
   case round=>
    obtain⟨k,rfl,hk,aP,ae,af,aQ⟩:=hrel;have eu:jW (oN bc bd w wr):=jH (Z.trans (ak.1.trans aP));by_cases c:k<M
    .obtain⟨y,N⟩:∃y,s[k]? =some y:=⟨_,jX (by rw[aN.out];exact c)⟩
     have bz:=ak.2.2.2.1.upd aP.out;obtain⟨b,off,u,rfl,hlt,bR,eY,eZ,y2,J,dC⟩:=nV.at_ bz N;have bA:=ak.2.2.2.2.upd aP.out;obtain⟨ou,cu,rfl,_,_⟩:=nV.slice J;obtain⟨O,bB⟩:=nT y.sub.length;rw[bB]at J y2;obtain⟨e,he,bC,aC⟩:=af.out;have dD:=jH aC;clear aC;obtain⟨U,aD⟩:=nT (n+1+nL.nW (s.take k));have ag:=ae.out;rw[aD]at ag
     have dE:jW (∀W,wr.alloc (nG #[ny (txt y.lab),nA y.lab.list,nk ou O cu] IT)=W->oN bc bd w3 W/\Cw bc bd W (nk ou O cu) y.sub/\NB W bc U/\NB W bd e/\zM fe W bc be bd bv/\
       nO W wr.heap.size #[ny (txt y.lab),nA y.lab.list,nk ou O cu] IT):=jH λW h=>by
      subst h;have E:=(jT wr.heap.size wr).alloc (jL _) (nG #[ny (txt y.lab),nA y.lab.list,nk ou O cu] IT);exact⟨aP.trans (oN.of E),Cw.upd J (oN.of E),ag.1.below E,bC.below E,bA.below E,nO.new wr _ _⟩
     have dF:=jH ag.2;have bD:=jH aD;clear J dC bB bC bz bA ag aD bR;go_upto_region 8 with fail;generalize wr.alloc (nG #[ny (txt y.lab),nA y.lab.list,nk ou O cu] IT)=w4 at*;obtain⟨aF,bE,bF,bG,aG,ah⟩:=dE.out _ rfl;have b0:w4.cell? ⟨wr.heap.size,0,none⟩=some (ny (txt y.lab)):=ah.cell 0;have b1:w4.cell? ⟨wr.heap.size,1,none⟩=some (nA y.lab.list):=ah.cell 1;have fq:w4.cell? ⟨wr.heap.size,2,none⟩=some (nk ou O cu):=ah.cell 2;have v0:w4.cell? ⟨bv,0,none⟩=some (.func (.func 238) #[] #[nz (some ⟨bc,0,none⟩),nz (some ⟨be,0,none⟩),nz (some ⟨bd,0,none⟩),nz (some ⟨bv,0,none⟩)]):=aG.visit.cell 0
     have dG:jW (jV jI 238 #[nC #[ny (txt y.lab),nA y.lab.list,nk ou O cu],ng nH ((d:Int)+1),nz (some ⟨bc,0,none⟩),nz (some ⟨be,0,none⟩),nz (some ⟨bd,0,none⟩),nz (some ⟨bv,0,none⟩)] w4
       (Cx y (d+1) U e bc bd w4)):=jH (dM y (kT N) (bY.sub N) w4 (nk ou O cu) (d+1) U e bc be bd bv bE bF bG aG nK dF he)
     have dH:=jH (Z.trans (ak.1.trans aF));have bS:=jH aF;have aH:jW (IQ y (d+1) U=(decide (d+1+y.deep<=17)&&decide (U+y.count<=1024)&&y.all qb)):=jH rfl;clear dE aF bE bF bG aG ah;obtain⟨r,bT⟩:=nT (IQ y (d+1) U);rw[bT]at aH;have bH:=jH bT;clear bT;cases r with
     |true=>
      go_wp2_with fail;refine(dG).mono ?_;rintro e2 w5 ⟨rfl,Q,ai,aj,hok⟩;rw[bH.out]at hok⊢;have aI:=jH (bS.trans Q);have aJ:=jH (hok rfl).1;have aK:=jH (hok rfl).2;clear Q ai aj hok;go_wp2_with fail;have aL:=aH.out;have bU:=nL.vO N;have bV:=nL.yM N;have eB:=nL.wI (p:=qb) N;have eD:=bD.out;have au:=aQ.out;simp only[Bool.true_eq,j3,decide_eq_true_eq]at aL;go_roundw;case rel=>
       refine⟨k+1,by go_num,nK,jH aI.out,jH ⟨?_,by rw[bU];omega⟩,jH ⟨_,?_,aK.out,?_⟩,jH ⟨by rw[bV];omega,by rw[eB,au.2,aL.2];rfl⟩⟩
       .rw[bU,show n+1+(nL.nW (s.take k)+y.count)=U+y.count by omega]
        exact aJ
       .omega
       .have:=dD.out
        rw[bV];omega
      case measure=>simp[kW];omega
     |false=>
      go_wp2_with fail;refine(dG).mono ?_;rintro e2 w5 ⟨rfl,Q,ai,aj,hok⟩;rw[bH.out];have aI:=jH (dH.trans Q);have aJ:=jH ai;have aK:=jH aj;clear Q ai aj hok;go_wp2_with fail;have bI:R=false:=by
       have aL:=aH.out;have bU:=nL.vO N;have bV:=nL.yM N;have eD:=bD.out;have eF:=nL.uL s (k+1);have eG:=a5O.vF s (k+1);rw[cK.out]at eF;rw[cZ.out]at eG;have eH:¬(d+(D+1)<=17/\n+(1+C)<=1024/\nL.o7 qb s=true):=by
        rintro⟨df,g2,g3⟩;have e3:y.all qb=true:=by
         cases dI:y.all qb with
         |true=>rfl
         |false=>rw[nL.sG N dI]at g3;cases g3
        rw[decide_eq_true nK,decide_eq_true nK,e3]at aL;cases aL
       rw[dx.out];cases au:(decide (d+(D+1)<=17)&&decide (n+(1+C)<=1024)&&nL.o7 qb s)with
       |false=>rfl
       |true=>
        exfalso;simp only[j3,decide_eq_true_eq]at au;exact eH ⟨au.1.1,au.1.2,au.2⟩
      exact HP _ _ ⟨by rw[bI];rfl,aI.out,aJ.out,aK.out,λh=>by rw[bI]at h;cases h⟩
    .obtain rfl:k=M:=nK
     have dJ:s.take k=s:=by rw[<-aN.out,l9]
     rw[dJ]at ae aQ af;rw[cK.out]at ae;rw[cZ.out]at aQ af;go_wp2_with fail;have eO:=aQ.out;have hc:=ae.out;have dK:R=true:=by rw[dx.out,decide_eq_true nK,decide_eq_true nK,eO.2];rfl
     obtain⟨e,he,bJ,aC⟩:=af.out;have az:=aW.out;refine HP _ _ ⟨by rw[dK];rfl,eu.out,⟨_,hc.2,hc.1⟩,⟨e,he,bJ⟩,λ_=>⟨by rw[show n+(1+C)=n+1+C by omega];exact hc.1,?_⟩⟩;rw[show max dd (d+(D+1) - 1)=e by omega];exact bJ
def EG(x:nL IL):Int:=if qZ x=true then(x.count:Int)else 0
def M5(x:nL IL):Int:=if qZ x=true then(x.deep:Int)else 0
theorem Gn(fe:FuncId)(x:nL IL)(w:jJ)(v:jP)(aj:pM w v x.sub)(aG:zL fe x):
  jV jI 199 #[nC #[ny (txt x.lab),nA x.lab.list,v],.func (.func fe) #[] #[]] w λe w'=>e=nE (nD #[ng nH (EG x),ng nH (M5 x),nA (qZ x)])/\jS w.heap.size w w':=by
 obtain⟨g,hg⟩:=nT w.heap.size;obtain⟨oa,cap,rfl,ak,aA⟩:=nV.slice aj;obtain⟨w1,e1⟩:=nT (w.alloc (nG #[ny (txt x.lab),nA x.lab.list,nk oa x.sub.length cap] IT));obtain⟨w2,e2⟩:=nT (w1.alloc (nG #[.func (.func fe) #[] #[]] 56));obtain⟨w3,e3⟩:=nT (w2.alloc (nG #[ng nH 0] 3));obtain⟨w4,e4⟩:=nT (w3.alloc (nG #[ng nH 0] 3));obtain⟨w5,e5⟩:=nT (w4.alloc (nG #[.nilFunc] 273));have au:=WO (W:=w5.setCell ⟨g+4,0,none⟩ (PL g)) hg aj ⟨e1,e2,e3,e4,e5⟩ rfl;obtain⟨hI,aH,aI,aJ,aK,aL,av⟩:=au;obtain⟨R,J⟩:=nT (qZ x);have aM:=jH J;obtain⟨sn,N⟩:=nT (EG x);obtain⟨aN,O⟩:=nT (M5 x);have aa:jW (sn=(if R=true then(x.count:Int)else 0)/\aN=(if R=true then(x.deep:Int)else 0)):=jH ⟨by rw[<-N,<-J];rfl,by rw[<-O,<-J];rfl⟩;rw[N,O];have I:=jH hI;have aB:=jH (λ(h:RJ fe g w (w5.setCell ⟨g+4,0,none⟩ (PL g)) x.lab (nk oa x.sub.length cap) x.sub)=>M4 fe x aG (w5.setCell ⟨g+4,0,none⟩ (PL g)) (nk oa x.sub.length cap) 1 0 0 (g+2) (g+1) (g+3) (g+4) h.off h.c h.d h.vis nN nN nN);rw[hg,J];clear aj ak aA J hI N O;generalize x.sub.length=M at*;go_in;go_upto_region 3 with fail;generalize w5.setCell ⟨g+4,0,none⟩ (PL g)=Q at*;have v0:Q.cell? ⟨g+4,0,none⟩=some (PL g):=I.vis.visit.cell 0;have aU:Q.cell? ⟨g,0,none⟩=some (ny (txt x.lab)):=I.item.cell 0;have aV:Q.cell? ⟨g,1,none⟩=some (nA x.lab.list):=I.item.cell 1;have aW:Q.cell? ⟨g,2,none⟩=some (nk oa M cap):=I.item.cell 2;have aC:=jH (aB I);clear aB e1 e2 e3 e4 e5 aL av aH aI aJ aK;go_wp2_with fail;refine(aC).mono ?_;rintro e A ⟨rfl,ae,⟨U,aS,C⟩,⟨V,aT,E⟩,hok⟩;rw[Um,aM.out]at hok⊢;have aD:jW (R=true->U=x.count/\V=x.deep):=jH λh=>by
  obtain⟨Y,aO⟩:=hok h;have av:=(Eq.symm (C.cell 0)).trans (Y.cell 0);have aP:=(Eq.symm (E.cell 0)).trans (aO.cell 0);simp only[jO,jN,mI,Value.int.injEq,true_and]at av aP;omega
 clear hok;have a0:A.cell? ⟨g+2,0,none⟩=some (ng nH U):=C.cell 0;have aX:A.frozen? ⟨g+2,0,none⟩=false:=C.free 0;have b0:A.cell? ⟨g+3,0,none⟩=some (ng nH V):=E.cell 0;have b1:A.frozen? ⟨g+3,0,none⟩=false:=E.free 0;have af:g+2≠g+3:=nK;have ag:jW (∀u v:jP,jS g w ((A.setCell ⟨g+2,0,none⟩ u).setCell ⟨g+3,0,none⟩ v)):=jH λu v=>by
  have Z:oN (g+2) (g+3) Q ((A.setCell ⟨g+2,0,none⟩ u).setCell ⟨g+3,0,none⟩ v):=(ae.Bq 0 u).OX 0 v;have h0:=I.qa;refine⟨Z.os.trans h0.os,Z.tape.trans h0.tape,Z.output.trans h0.output,kg h0.size Z.size,λc hc=> ?_⟩;exact(Z.block c (by have:=I.size;omega) nK nK).trans (h0.block c hc)
 have ah:jW (∀u v:jP,((A.setCell ⟨g+2,0,none⟩ u).setCell ⟨g+3,0,none⟩ v).cell? ⟨g+2,0,none⟩=some u/\((A.setCell ⟨g+2,0,none⟩ u).setCell ⟨g+3,0,none⟩ v).cell? ⟨g+3,0,none⟩=some v):=jH λu v=>
  ⟨((nO.set C 0 u).setOther (a:=⟨g+3,0,none⟩) af v).cell 0,((nO.setOther E (a:=⟨g+2,0,none⟩) (Ne.symm af) u).set 0 v).cell 0⟩
 clear ae C E;cases R with
 |false=>
  go_wp2_with fail;obtain⟨ax,Y⟩:=ah.out (ng nH 0) (ng nH 0);refine j4 (v:=nD #[ng nH 0,ng nH 0,nA false]) (by simp[kK,Tryz.results199,go_sem,ax,Y]) rfl ?_;obtain⟨ay,az⟩:=aa.out;subst ay az;exact⟨rfl,ag _ _⟩
 |true=>
  go_wp2_with fail;go_big_region;obtain⟨ax,Y⟩:=ah.out (ng nH U) (ng nH V);have ai:=(ag (ng nH U) (ng nH V)).drew;have aF:=jH ai;clear ai;go_wp2_with fail;refine j4 (v:=nD #[ng nH U,ng nH V,nA true]) (by simp[kK,Tryz.results199,go_sem,ax,Y]) rfl ?_;obtain⟨ay,az⟩:=aa.out;obtain⟨aQ,aR⟩:=aD.out (by first|trivial|rfl);subst ay az aQ aR;exact⟨rfl,aF.out⟩
theorem Gp(x:nL IL)(w:jJ)(v:jP)(A:pM w v x.sub):
  jV jI 199 #[nC #[ny (txt x.lab),nA x.lab.list,v],.func (.func 200) #[] #[]] w λe w'=>e=nE (nD #[ng nH (EG x),ng nH (M5 x),nA (qZ x)])/\jS w.heap.size w w':=Gn _ x w v A (.inl rfl)
def zN(x:nL IL)(deep most:Int):Int:=if qZ x=true then if deep<(x.deep:Int)then 6 else if most<(x.count:Int)then 4 else 0 else 1
theorem PM(h:p:=by
 go_wp2_with fail;refine CS1.mono ?_;rintro e w2 ⟨rfl,hb2⟩;have HB2:=jH (HB.trans (hb2.mono (by have:=HS.out;omega)));clear hb2;go_wp2_with fail;go_returns;exact⟨by rw[HE2.out];rfl,HB2.out⟩):p:=h
theorem Un(x:nL IL)(deep most:Int)(w:jJ)(v:jP)(U:pM w v x.sub):
  jV jI 159 #[nC #[ny (txt x.lab),nA x.lab.list,v],ng nH deep,ng nH most] w λe w'=>e=nE (ng nH (zN x deep most))/\jS w.heap.size w w':=by
 have V:=jH (rU (T:=txt x.lab) (l:=x.lab.list) (t:=IT) U);obtain⟨oa,cap,rfl,Y,aa⟩:=nV.slice U;obtain⟨g,hg⟩:=nT w.heap.size;have C:=jH (λ(W:jJ) (h:pM W (nk oa x.sub.length cap) x.sub)=>Gp x W _ h);obtain⟨E,Z⟩:=nT (zN x deep most);have N:jW (E=if qZ x=true then if deep<(x.deep:Int)then 6 else if most<(x.count:Int)then 4 else 0 else 1):=jH (by rw[<-Z];rfl);rw[hg]at V⊢;rw[Z];unfold EG M5 at C;clear U Y aa Z;generalize qZ x=R at*;generalize x.sub.length=M at*;obtain⟨I,BK⟩:∃I:Int,(x.deep:Int)=I:=⟨_,rfl⟩;obtain⟨nx,O⟩:∃nx:Int,(x.count:Int)=nx:=⟨_,rfl⟩;rw[BK,O]at C N;clear BK O;go_in;go_upto_region 1 with fail;generalize w.alloc (nG #[ny (txt x.lab),nA x.lab.list,nk oa M cap] IT)=w1 at*;obtain⟨Q,ht1,hsz,c0,c1,c2,_⟩:=V.out _ rfl;have ae:=jH ht1;have HB:=jH Q;have HS:=jH hsz;clear V ht1 Q hsz;cases R with
 |false=>
  have CS1:=jH (C _ ae);have A:jW (E=1):=jH (by rw[N.out];rfl);clear C N;go_wp2_with fail;refine CS1.mono ?_;rintro e w2 ⟨rfl,hb2⟩;have HB2:=jH (HB.trans (hb2.mono (by have:=HS.out;omega)));clear hb2;go_wp2_with fail;go_returns;exact⟨by rw[A.out];rfl,HB2.out⟩
 |true=>
  have CS1:=jH (C _ ae);simp only[if_true]at CS1;have A:jW (E=if deep<I then 6 else if most<nx then 4 else 0):=jH (by rw[N.out];rfl);clear C N;by_cases cd:deep<I
  .have HE2:jW (E=6):=jH (by rw[A.out,if_pos cd])
   have af:decide (deep<I)=true:=decide_eq_true cd;clear A cd;exact PM
  have af:decide (deep<I)=false:=decide_eq_false cd;by_cases J:most<nx
  .have HE2:jW (E=4):=jH (by rw[A.out,if_neg cd,if_pos J])
   have ag:decide (most<nx)=true:=decide_eq_true J;clear A cd J;exact PM
  .have HE2:jW (E=0):=jH (by rw[A.out,if_neg cd,if_neg J])
   have ag:decide (most<nx)=false:=decide_eq_false J;clear A cd J;exact PM
theorem WQ(h:p:=by
 have CC:=jH (H3 HQ.2.1 HQ.2.2 _ HQ.1);go_wp2_with fail;refine CC.mono ?_;rintro e w2 ⟨rfl,hp⟩;have HP2:=jH hp;have HK1:=jH HQ.2;clear hp c0 CC HQ;by_cases c:k3=0
 .have HC:=jH c
  subst c;go_wp2_with fail;go_roundw;case rel=>exact .inr (.inr (.inr ⟨by go_num,jH ⟨HP2.out,HK1.1,HK1.2,by first|trivial|rfl⟩⟩))
  case measure=>simp[kW]
 .have n0:(k3 !=0)=true:=by simp[c]
  have HC:=jH c;clear c;go_wp2_with fail;go_returns;have he:=HE.out;have hn:=HN.out;rw[if_neg (λh=>h HK1.1),if_neg (λh=>h HK1.2)]at he hn;subst he hn;exact⟨rfl,HP2.out⟩):p:=h
theorem WR(h:p:=by
 have CC:=jH (H2 HQ.2 _ HQ.1);go_wp2_with fail;refine CC.mono ?_;rintro e w2 ⟨rfl,hp⟩;have HP2:=jH hp;have HK1:=jH HQ.2;clear hp c0 CC HQ;by_cases c:k2=0
 .have HC:=jH c
  subst c;go_wp2_with fail;go_roundw;case rel=>exact .inr (.inr (.inl ⟨by go_num,jH ⟨HP2.out,HK1.out,by first|trivial|rfl⟩⟩))
  case measure=>simp[kW]
 .have n0:(k2 !=0)=true:=by simp[c]
  have HC:=jH c;clear c;go_wp2_with fail;go_returns;have he:=HE.out;have hn:=HN.out;rw[if_neg (λh=>h HK1.out),if_pos HC.out]at he hn;subst he hn;exact⟨rfl,HP2.out⟩):p:=h
theorem WS(h:p:=by
 have CC:=jH (H1 _ HQ);go_wp2_with fail;refine CC.mono ?_;rintro e w2 ⟨rfl,hp⟩;have HP2:=jH hp;clear hp c0 CC;by_cases c:k1=0
 .have HC:=jH c
  subst c;go_wp2_with fail;go_roundw;case rel=>exact .inr (.inl ⟨by go_num,jH ⟨HP2.out,by first|trivial|rfl⟩⟩)
  case measure=>simp[kW]
 .have n0:(k1 !=0)=true:=by simp[c]
  have HC:=jH c;clear c;go_wp2_with fail;go_returns;have he:=HE.out;have hn:=HN.out;rw[if_pos HC.out]at he hn;subst he hn;exact⟨rfl,HP2.out⟩):p:=h
theorem WT(h:p:=by
 go_wp2_with fail;go_returns;have he:=HE.out;have hn:=HN.out;rw[if_neg (λh=>h HQ.2.1),if_neg (λh=>h HQ.2.2.1)]at he hn;subst hn;rw[HQ.2.2.2]at he;subst he;exact⟨rfl,HQ.1⟩):p:=h
theorem M6(w:jJ)(I cb J:Array jP)(b:Nat)(T:ko)(k1 k2 k3:Int)(P:Nat->jJ->Prop)(Q:∀k W,P k W->nO W b #[.func (.func 156) #[] I,.func (.func 158) #[] cb,.func (.func 160) #[] J] T)(h0:P 0 w)(U:∀W,P 0 W->jV jI 156 I W λe A=>e=nE (ng nH k1)/\P 1 A)(V:k1=0->∀W,P 1 W->jV jI 158 cb W λe A=>e=nE (ng nH k2)/\P 2 A)(Y:k1=0->k2=0->∀W,P 2 W->jV jI 160 J W λe A=>e=nE (ng nH k3)/\P 3 A):
  jV jI 155 #[nk (some ⟨b,0,none⟩) 3 3] w λe A=>e=nE (ng nH (if k1≠0 then k1 else if k2≠0 then k2 else k3))/\P (if k1≠0 then 1 else if k2≠0 then 2 else 3) A:=by
 have N:=jH Q;have H1:=jH U;have Z:=jH h0;obtain⟨E,O⟩:=nT ((if k1≠0 then k1 else if k2≠0 then k2 else k3));obtain⟨n,hn⟩:=nT ((if k1≠0 then 1 else if k2≠0 then 2 else 3));have HE:=jH O;have HN:=jH hn;have H2:=jH V;have H3:=jH Y;rw[O,hn];clear Q h0 U V Y O hn;go_in;go_wp2_with fail;go_loopw [8] (λkv C=>(kv=ng nH 0/\jW (P 0 C))\/(kv=ng nH 1/\jW (P 1 C/\k1=0))\/(kv=ng nH 2/\jW (P 2 C/\k1=0/\k2=0))\/(kv=ng nH 3/\jW (P 3 C/\k1=0/\k2=0/\k3=0))) (λkv _=>3 -(kW kv).toNat);case atStart=>exact .inl ⟨rfl,Z⟩
 case round=>
  rcases hrel with⟨rfl,HQ⟩|⟨rfl,HQ⟩|⟨rfl,HQ⟩|⟨rfl,HQ⟩
  .have c0:wr.cell? ⟨b,0,none⟩=some (.func (.func 156) #[] I):=(N _ _ HQ).cell 0
   exact WS
  .have c0:wr.cell? ⟨b,1,none⟩=some (.func (.func 158) #[] cb):=(N _ _ HQ.1).cell 1
   exact WR
  .have c0:wr.cell? ⟨b,2,none⟩=some (.func (.func 160) #[] J):=(N _ _ HQ.1).cell 2
   exact WQ
  .exact WT
theorem M7(w:jJ)(I cb J:Array jP)(b:Nat)(T:ko)(k1 k2 k3:Int)(P:Nat->jJ->Prop)(Q:∀k W,P k W->nO W b #[.func (.func 162) #[] I,.func (.func 164) #[] cb,.func (.func 166) #[] J] T)(h0:P 0 w)(U:∀W,P 0 W->jV jI 162 I W λe A=>e=nE (ng nH k1)/\P 1 A)(V:k1=0->∀W,P 1 W->jV jI 164 cb W λe A=>e=nE (ng nH k2)/\P 2 A)(Y:k1=0->k2=0->∀W,P 2 W->jV jI 166 J W λe A=>e=nE (ng nH k3)/\P 3 A):
  jV jI 155 #[nk (some ⟨b,0,none⟩) 3 3] w λe A=>e=nE (ng nH (if k1≠0 then k1 else if k2≠0 then k2 else k3))/\P (if k1≠0 then 1 else if k2≠0 then 2 else 3) A:=by
 have N:=jH Q;have H1:=jH U;have Z:=jH h0;obtain⟨E,O⟩:=nT ((if k1≠0 then k1 else if k2≠0 then k2 else k3));obtain⟨n,hn⟩:=nT ((if k1≠0 then 1 else if k2≠0 then 2 else 3));have HE:=jH O;have HN:=jH hn;have H2:=jH V;have H3:=jH Y;rw[O,hn];clear Q h0 U V Y O hn;go_in;go_wp2_with fail;go_loopw [8] (λkv C=>(kv=ng nH 0/\jW (P 0 C))\/(kv=ng nH 1/\jW (P 1 C/\k1=0))\/(kv=ng nH 2/\jW (P 2 C/\k1=0/\k2=0))\/(kv=ng nH 3/\jW (P 3 C/\k1=0/\k2=0/\k3=0))) (λkv _=>3 -(kW kv).toNat);case atStart=>exact .inl ⟨rfl,Z⟩
 case round=>
  rcases hrel with⟨rfl,HQ⟩|⟨rfl,HQ⟩|⟨rfl,HQ⟩|⟨rfl,HQ⟩
  .have c0:wr.cell? ⟨b,0,none⟩=some (.func (.func 162) #[] I):=(N _ _ HQ).cell 0
   exact WS
  .have c0:wr.cell? ⟨b,1,none⟩=some (.func (.func 164) #[] cb):=(N _ _ HQ.1).cell 1
   exact WR
  .have c0:wr.cell? ⟨b,2,none⟩=some (.func (.func 166) #[] J):=(N _ _ HQ.1).cell 2
   exact WQ
  .exact WT
theorem Uo(x:nL IL)(w:jJ)(v:jP)(A:pM w v x.sub):
  jV jI 199 #[nC #[ny (txt x.lab),nA x.lab.list,v],.func (.func 200) #[] #[]] w λe w'=>(∃a b:Int,e=nE (nD #[ng nH a,ng nH b,nA (qZ x)]))/\jS w.heap.size w w':=(Gp x w v A).mono λ_ _ h=>⟨⟨_,_,h.1⟩,h.2⟩
theorem Gq(x:nL IL)(w:jJ)(v:jP)(E:pM w v x.sub):
  jV jI 195 #[nC #[ny (txt x.lab),nA x.lab.list,v]] w λe w'=>e=nE (nA (qZ x))/\jS w.heap.size w w':=by
 have I:=jH (rU (T:=txt x.lab) (l:=x.lab.list) (t:=IT) E);obtain⟨oa,cap,rfl,J,N⟩:=nV.slice E;obtain⟨g,hg⟩:=nT w.heap.size;have Q:=jH (λ(W:jJ) (h:pM W (nk oa x.sub.length cap) x.sub)=>Uo x W _ h);rw[hg]at I⊢;clear E J N;generalize qZ x=R at*;generalize x.sub.length=M at*;go_in;go_upto_region 1 with fail;generalize w.alloc (nG #[ny (txt x.lab),nA x.lab.list,nk oa M cap] IT)=w1 at*;obtain⟨A,ht1,hsz,c0,c1,c2,_⟩:=I.out _ rfl;have U:=jH ht1;have V:=jH A;have Y:=jH hsz;clear I ht1 A hsz;go_wp2_with fail;refine(Q _ U).mono ?_;rintro e w2 ⟨⟨a,b,rfl⟩,C⟩;have O:=jH (V.trans (C.mono (by have:=Y.out;omega)));clear C;go_wp2_with fail;go_returns;exact⟨rfl,O.out⟩
end
end Go.Proofs.YtamfcjmhnndbdaaGreatDoor


