/- Part 6 of the proof. -/
import Derived.Test.YtamfcjmhnndbdaaGreatDoorZm05
import Derived.Test.YtamfcjmhnndbdaaGreatDoorZm00
import Derived.Test.YtamfcjmhnndbdaaGreatDoorZm03
import Derived.WalkKit
import Derived.Deep.Slices
import Derived.Deep.Fields
import Derived.ChangeSame
import Derived.Handy
import Derived.Test.YtamfcjmhnndbdaaGreatDoorRows
import Derived.WalkSpells
import Derived.OwnWalk
import Derived.IntWalk
import Derived.Lib.Strings
import Derived.Deep.CutBlock
import Derived.Deep.DeepCutAuto
import Derived.Laws.EntriesVeiled
open Go.Value renaming agg→nD,bool→nC,int→nk,pointer→nA,slice→ny,string→nz,tuple→nE
open Go.Obj renaming cells→nH
open Go.IntKind renaming i64→nI
open Go.Ending renaming returned→nG
open Go.Lib renaming hid→jH
open Go.Proofs.Tryz renaming prog→jI
open Go renaming World→jJ,Value→jP,Calls→jV,bodyPost_ret→jZ,maxLen→j3,TypeId→ko,results→kQ,Addr→lH,Program→ma,wpQuiet_nil→mK
open Nat renaming le_refl→jK,le_trans→jY,zero_le→kH,add_assoc→kR,lt_or_ge→kZ,lt_succ_self→lK,add_mul→lU
open List renaming getElem?_cons_zero→jN,getElem?_toArray→jO,getElem?_eq_getElem→jW,length_append→j5,take_succ_cons→ky,length_cons→kF,mem_of_getElem?→kK,getElem?_eq_some_iff→lF,take_length→l9,mem_cons→mM,size_toArray→mP,length_eq_zero_iff→mU,take_add_one→mY,take_append_drop→ng
open Go.RowKit renaming Below→jS,Hid→jX,intOf→kT
open Go.RowKit.Below renaming refl→jT
open And renaming intro→jU
open Bool renaming and_eq_true→j4,false_eq_true→lV
open UInt8 renaming ofNat→kg,toNat_inj→lX
open Option renaming bind_eq_some_iff→kr,bind_some→kD
open Go.World renaming setCell→kz,cell?→mI
open Go.Lit renaming int→lI
open Go.DataW renaming trod→lT
open Go.Sem renaming run→l7
open Option.some renaming injEq→mF
open Array renaming getElem?_eq_none→mZ
open Option renaming none→V,some→U
open Go.Addr renaming mk→Z
namespace Go.Proofs.YtamfcjmhnndbdaaGreatDoor
set_option linter.unusedVariables false
set_option linter.unusedSimpArgs false
set_option maxRecDepth 100000
set_option maxHeartbeats 8000000
variable {i n most:Nat}{p:Prop}{w w':jJ}{Q Q':Nat->Prop}{v:jP}{l:List UInt8}{q:Nat×List UInt8}{oa:Option lH}{fe:FuncId}
section
open Go.RowKit Go.ChangeShapes Go.WideShapes Go.Deep
inductive nM(α:Type) where
 |node (a:α) (sub:List (nM α))
section
variable {α:Type}
mutual
def nM.count:nM α->Nat
 | .node _ s=>1+nM.nZ s
def nM.nZ:List (nM α)->Nat
 |[]=>0
 |x::xs=>nM.count x+nM.nZ xs
end
mutual
def nM.deep:nM α->Nat
 | .node _ s=>nM.o9 s+1
def nM.o9:List (nM α)->Nat
 |[]=>0
 |x::xs=>max (nM.deep x) (nM.o9 xs)
end
mutual
def nM.all(p:α->List (nM α)->Bool):nM α->Bool
 | .node a s=>p a s&&nM.o7 p s
def nM.o7(p:α->List (nM α)->Bool):List (nM α)->Bool
 |[]=>true
 |x::xs=>nM.all p x&&nM.o7 p xs
end
mutual
def nM.same(A:α->α->Bool):nM α->nM α->Bool
 | .node a s,.node b t=>A a b&&nM.sZ A s t
def nM.sZ(A:α->α->Bool):List (nM α)->List (nM α)->Bool
 |[],[]=>true
 |x::xs,y::ys=>nM.same A x y&&nM.sZ A xs ys
 |_,_=>false
end
def nM.lab:nM α->α| .node a _=>a
def nM.sub:nM α->List (nM α)| .node _ s=>s
@[simp] theorem nM.oZ (a:α) (s:List (nM α)):(nM.node a s).lab=a:=rfl
@[simp] theorem nM.qx (a:α) (s:List (nM α)):(nM.node a s).sub=s:=rfl
theorem nM.eta(x:nM α): .node x.lab x.sub=x:=by cases x;rfl
mutual
theorem nM.a5Z{P:nM α->Prop}(h:∀a s,(∀x,x∈s->P x)->P (.node a s)):∀x,P x
 | .node a s=>h a s (nM.a6a h s)
theorem nM.a6a{P:nM α->Prop}(h:∀a s,(∀x,x∈s->P x)->P (.node a s)):∀(s:List (nM α))(x:nM α),x∈s->P x
 |[],_,A=>by cases A
 |y::ys,x,A=>by
  rcases mM.1 A with C|C
  .exact C▸nM.a5Z h y
  .exact nM.a6a h ys x C
end
theorem nM.ind{P:nM α->Prop}(h:∀a s,(∀x,x∈s->P x)->P (.node a s))(x:nM α):P x:=nM.a5Z h x
theorem nM.x8(x:nM α):0<x.count:=by cases x;simp only[nM.count];omega
theorem nM.WG(x:nM α):0<x.deep:=by cases x;simp only[nM.deep];omega
theorem nM.rW(s t:List (nM α)):nM.nZ (s++t)=nM.nZ s+nM.nZ t:=by
 induction s with
 |nil=>simp[nM.nZ]
 |cons x xs A=>simp[nM.nZ,A,kR]
theorem nM.BO{s:List (nM α)}{x:nM α}(h:x∈s):x.count<=nM.nZ s:=by
 induction s with
 |nil=>cases h
 |cons y ys C=>
  simp only[nM.nZ];rcases mM.1 h with A|A
  .subst A;omega
  .have:=C A;omega
theorem nM.vI{s:List (nM α)}{x:nM α}(h:s[i]? =U x):nM.nZ (s.take (i+1))=nM.nZ (s.take i)+x.count:=by
 rw[mY,h];simp[nM.rW,nM.nZ]
theorem nM.uG(s:List (nM α))(i:Nat):nM.nZ (s.take i)<=nM.nZ s:=by
 conv=>rhs;rw[<-ng i s,nM.rW]
 omega
theorem nM.sJ(s:List (nM α)):s.length<=nM.nZ s:=by
 induction s with
 |nil=>simp
 |cons x xs A=>simp only[nM.nZ,kF];have:=nM.x8 x;omega
theorem nM.vZ(s t:List (nM α)):nM.o9 (s++t)=max (nM.o9 s) (nM.o9 t):=by
 induction s with
 |nil=>simp[nM.o9]
 |cons x xs A=>simp[nM.o9,A,Nat.max_assoc]
theorem nM.yK{s:List (nM α)}{x:nM α}(h:s[i]? =U x):nM.o9 (s.take (i+1))=max (nM.o9 (s.take i)) x.deep:=by
 rw[mY,h];simp[nM.vZ,nM.o9]
theorem nM.zK(p:α->List (nM α)->Bool)(s t:List (nM α)):nM.o7 p (s++t)=(nM.o7 p s&&nM.o7 p t):=by
 induction s with
 |nil=>simp[nM.o7]
 |cons x xs A=>simp[nM.o7,A,Bool.and_assoc]
theorem nM.wD{p:α->List (nM α)->Bool}{s:List (nM α)}{x:nM α}(h:s[i]? =U x):nM.o7 p (s.take (i+1))=(nM.o7 p (s.take i)&&x.all p):=by
 rw[mY,h];simp[nM.zK,nM.o7]
theorem nM.tO{p:α->List (nM α)->Bool}{s:List (nM α)}{x:nM α}(h:s[i]? =U x)(A:x.all p=false):nM.o7 p s=false:=by
 induction s generalizing i with
 |nil=>simp at h
 |cons y ys C=>
  cases i with
  |zero=>simp at h;subst h;simp[nM.o7,A]
  |succ i=>simp at h;simp[nM.o7,C h]
theorem nM.Kr{A:α->α->Bool}{s t:List (nM α)}(h:s.length≠t.length):nM.sZ A s t=false:=by
 induction s generalizing t with
 |nil=>cases t<;>simp_all [nM.sZ]
 |cons x xs C=>cases t with
  |nil=>simp[nM.sZ]
  |cons y ys=>simp only[nM.sZ];rw[C (by simpa using h)];simp
theorem nM.Px{E:α->α->Bool}{s t:List (nM α)}{x y:nM α}(A:s[i]? =U x)(C:t[i]? =U y):
  nM.sZ E (s.take (i+1)) (t.take (i+1))=(nM.sZ E (s.take i) (t.take i)&&x.same E y):=by
 induction s generalizing t i with
 |nil=>simp at A
 |cons a us I=>
  cases t with
  |nil=>simp at C
  |cons b bs=>
   cases i with
   |zero=>simp at A C;subst A;subst C;simp[nM.sZ]
   |succ i=>
    simp at A C;simp only[ky,nM.sZ];rw[I A C,Bool.and_assoc]
theorem nM.MO{E:α->α->Bool}{s t:List (nM α)}{x y:nM α}(A:s[i]? =U x)(C:t[i]? =U y)(h:x.same E y=false):nM.sZ E s t=false:=by
 induction s generalizing t i with
 |nil=>simp at A
 |cons a us I=>
  cases t with
  |nil=>simp at C
  |cons b bs=>
   cases i with
   |zero=>simp at A C;subst A;subst C;simp[nM.sZ,h]
   |succ i=>
    simp at A C;simp[nM.sZ,I A C]
structure Shape(α:Type) where
 k:Nat
 cells:α->jP->List jP
 ok:α->Prop
 hk:∀a v,(cells a v).length=k
def SliceOf(w:jJ)(Q:Nat->Prop)(v:jP)(n:Nat)(R:Nat->Nat->Prop):Prop:=
 ∃oa cap,v=ny oa n cap/\n<=cap/\cap<=j3/\(0<n->∃b off,oa=U (Z b off V)/\b<w.heap.size/\Q b/\R b off)
mutual
def Shape.rz(S:Shape α)(w:jJ)(Q:Nat->Prop):nM α->Nat->Nat->Prop
 | .node a s,b,off=>S.ok a/\∃v,(∀j,j<S.k->w.cell? (Z b (off+j) V)=(S.cells a v)[j]?)/\SliceOf w Q v s.length (Shape.qy S w Q s)
def Shape.qy(S:Shape α)(w:jJ)(Q:Nat->Prop):List (nM α)->Nat->Nat->Prop
 |[],_,_=>True
 |x::xs,b,off=>Shape.rz S w Q x b off/\Shape.qy S w Q xs b (off+S.k)
end
def Shape.nX(S:Shape α)(w:jJ)(Q:Nat->Prop)(v:jP)(s:List (nM α)):Prop:=SliceOf w Q v s.length (Shape.qy S w Q s)
theorem SliceOf.mono{R A:Nat->Nat->Prop}(h:SliceOf w Q v n R)(hs:w.heap.size<=w'.heap.size)(E:∀b,b<w.heap.size->Q b->Q' b)(I:∀b o,Q b->b<w.heap.size->R b o->A b o):SliceOf w' Q' v n A:=by
 obtain⟨oa,cap,J,h1,h2,N⟩:=h;refine⟨oa,cap,J,h1,h2,λhn=> ?_⟩;obtain⟨b,off,e,hb,C,O⟩:=N hn;exact⟨b,off,e,nL,E b hb C,I b off C hb O⟩
mutual
theorem Shape.rz.keep{S:Shape α}(hs:w.heap.size<=w'.heap.size)(C:∀b,b<w.heap.size->Q b->Q' b)(hk:∀b,b<w.heap.size->Q b->w'.heap[b]? =w.heap[b]?):
  ∀(x:nM α)(b off:Nat),b<w.heap.size->Q b->S.rz w Q x b off->S.rz w' Q' x b off
 | .node a s,b,off,hb,I,h=>by
  simp only[Shape.rz]at h⊢;obtain⟨ho,v,hc,A⟩:=h;refine⟨ho,v,λj J=> ?_,A.mono hs C λb' N O E Y=>Shape.qy.keep hs C hk s b' N E O Y⟩;rw[World.cell?_of_block (w:=w) (a:=(Z b (off+j) V)) (hk b hb I)];exact hc j J
theorem Shape.qy.keep{S:Shape α}(hs:w.heap.size<=w'.heap.size)(A:∀b,b<w.heap.size->Q b->Q' b)(hk:∀b,b<w.heap.size->Q b->w'.heap[b]? =w.heap[b]?):
  ∀(s:List (nM α))(b off:Nat),b<w.heap.size->Q b->S.qy w Q s b off->S.qy w' Q' s b off
 |[],_,_,_,_,_=>by simp only[Shape.qy]
 |x::xs,b,off,hb,C,h=>by
  simp only[Shape.qy]at h⊢;exact⟨Shape.rz.keep hs A hk x b off hb C h.1,Shape.qy.keep hs A hk xs b _ hb C h.2⟩
end
theorem Shape.nX.keep{S:Shape α}{s:List (nM α)}(h:S.nX w Q v s)(hs:w.heap.size<=w'.heap.size)(A:∀b,b<w.heap.size->Q b->Q' b)(hk:∀b,b<w.heap.size->Q b->w'.heap[b]? =w.heap[b]?):S.nX w' Q' v s:=
 SliceOf.mono h hs A λb o q hb C=>Shape.qy.keep hs A hk s b o hb q C
theorem Shape.nX.below{S:Shape α}{s:List (nM α)}(h:S.nX w Q v s)(hb:jS w.heap.size w w'):S.nX w' Q v s:=
 h.keep hb.size (λ_ _ h=>h) λb hl _=>hb.block b hl
theorem Shape.qy.get{S:Shape α}:∀{s:List (nM α)}{b off:Nat},S.qy w Q s b off->∀{i:Nat}{x:nM α},s[i]? =U x->S.rz w Q x b (off+i*S.k)
 |[],_,_,_,_,_,A=>by simp at A
 |y::ys,b,off,h,i,x,A=>by
  simp only[Shape.qy]at h;cases i with
  |zero=>simp at A;subst A;simpa using h.1
  |succ i=>
   have:=Shape.qy.get h.2 (i:=i) (x:=x) (by simpa using A);rwa [show off+S.k+i*S.k=off+(i+1)*S.k by rw[lU];omega]at this
theorem Shape.nX.get{S:Shape α}{s:List (nM α)}(h:S.nX w Q v s):
  ∃oa cap,v=ny oa s.length cap/\s.length<=cap/\cap<=j3/\∀i x,s[i]? =U x->∃b off u,oa=U (Z b off V)/\b<w.heap.size/\Q b/\S.ok x.lab/\
   (∀j,j<S.k->w.cell? (Z b (off+(i*S.k+j)) V)=(S.cells x.lab u)[j]?)/\S.nX w Q u x.sub:=by
 obtain⟨oa,cap,C,h1,h2,E⟩:=h;refine⟨oa,cap,C,h1,h2,λi x A=> ?_⟩;obtain⟨hi,_⟩:=lF.1 A;obtain⟨b,off,e,hb,I,J⟩:=E nL;have:=J.get A;cases x with
 |node a Y=>
  simp only[Shape.rz]at this;obtain⟨ho,u,hc,N⟩:=this;exact⟨b,off,u,e,hb,I,ho,λj O=>by rw[<-kR];exact hc j O,N⟩
structure WH(S:Shape α)(P:ma)(t st:ko)(H:Type)(enc:ko×jP->H):Prop where
 hst:P.underlying st=U (.slice t)
 hk:P.cellsOf t=S.k
 pos:0<S.k
 hop:∀(w:jJ)(base:Nat)(spare:Nat->Bool)(held:Bool)(fuel:Nat)(cs:List jP)(x:DataW H×List MemPlace),lT enc P w base spare held fuel t cs=U x->
  ∃a v n y,n<fuel/\cs=S.cells a v/\S.ok a/\lT enc P w base spare held n st [v]=U y
theorem WH.subs{S:Shape α}{P:ma}{t st:ko}{H:Type}{enc:ko×jP->H}(au:WH S P t st H enc){base:Nat}{spare:Nat->Bool}{held:Bool}:
  ∀(fuel:Nat)(v:jP)(x:DataW H×List MemPlace),lT enc P w base spare held fuel st [v]=U x->∃s,S.nX w (λ_=>True) v s:=by
 intro fuel;induction fuel using Nat.strongRecOn with
 |_ fuel aB=>
  intro v x h;rcases DataW.trod_slice au.hst h with⟨h0,_⟩|⟨a,len,cap,A,rest,n,hn,af,_,hb,hl,av,hlen,hel,_,_⟩
  .simp at h0
   subst h0;exact⟨[],V,0,rfl,jK _,kH _,λh=>absurd h nS⟩
  .simp at af
   subst af;have Y:∀i,i<len->∃J,w.cells? base (a.add (i*P.cellsOf t)) (P.cellsOf t)=U J:=by
    intro i hi;have h1:=hel i hi;have h2:A[i]? =U (A[i]' nL):=jW nL;rw[h2,kr]at h1;obtain⟨J,hc,_⟩:=h1;exact⟨J,hc⟩
   have node:∀i,i<len->∃y:nM α,∃b off,a=(Z b off V)/\b<w.heap.size/\S.rz w (λ_=>True) y b (off+i*S.k):=by
    intro i hi;obtain⟨c0,ax⟩:=Y 0 nL;have h1:=hel i hi;have h2:A[i]? =U (A[i]' nL):=jW nL;rw[h2,kr]at h1;obtain⟨J,hc,ht⟩:=h1;obtain⟨lab,u,m,y,aI,ah,hok,aC⟩:=au.hop _ _ _ _ _ _ _ ht;obtain⟨aD,ay⟩:=aB m nL u y aC;obtain⟨_,az,ag⟩:=World.cells?_some hc;rw[au.hk]at ag az;obtain⟨b,off,C⟩:=a;obtain⟨_,N,O⟩:=World.cells?_some ax;rw[au.hk]at O N;have h0:=O 0 au.pos;have aa:0<c0.length:=by rw[N];exact au.pos
    rw[jW aa]at h0;have ae:C=V:=by
     have:=World.cell?_spot h0;simpa [Addr.add]using this
    subst ae;have E:∀k,((Z b off V):lH).add k=(Z b (off+k) V):=λk=>by unfold Addr.add;split<;>simp_all
    have Q:b<w.heap.size:=by
     rcases kZ b w.heap.size with ai|ai
     .exact ai
     .rw[E]at h0
      simp[mI,E,mZ ai]at h0
    refine⟨.node lab aD,b,off,rfl,Q,?_⟩;simp only[Shape.rz];refine⟨hok,u,λj aF=> ?_,ay⟩;have:=ag j aF;rw[Go.Deep.add_add,E,ah,<-kR]at this;exact this
   obtain⟨b,off,C⟩:=a;by_cases aG:len=0
   .subst aG
    exact⟨[],U ⟨b,off,C⟩,cap,rfl,hl,av,λh=>absurd h nS⟩
   .obtain⟨_,b',aH,e,Q,_⟩:=node 0 nL
    cases e;have row:∀k I,(∀i,i<k->∃y:nM α,S.rz w (λ_=>True) y b (I+i*S.k))->∃s:List (nM α),s.length=k/\S.qy w (λ_=>True) s b I:=by
     intro k;induction k with
     |zero=>intro I _;exact⟨[],rfl,by simp only[Shape.qy]⟩
     |succ k aA=>
      intro I hh;obtain⟨y,aj⟩:=hh 0 nL;obtain⟨s,hs,ak⟩:=aA (I+S.k) λi hi=>by
       obtain⟨z,aJ⟩:=hh (i+1) nL;exact⟨z,by rwa [show I+S.k+i*S.k=I+(i+1)*S.k by rw[lU];omega]⟩
      exact⟨y::s,by simp[hs],by simp only[Shape.qy];exact⟨by simpa using aj,ak⟩⟩
    obtain⟨s,hs,ak⟩:=row len off λi hi=>by
     obtain⟨y,aK,aL,e2,_,aj⟩:=node i hi;cases e2;exact⟨y,aj⟩
    exact⟨s,U (Z b off V),cap,by rw[hs],nL,av,λ_=>⟨b,off,rfl,Q,trivial,ak⟩⟩
end
end
section
structure IL where
 text:List UInt8
 list:Bool
 deriving DecidableEq
def sU:Shape IL:=⟨3,λa v=>[nz ⟨a.text.toArray⟩,nC a.list,v],λa=>a.text.length<=j3,λ_ _=>rfl⟩
def Je(a b:IL):Bool:=a.list==b.list&&a.text==b.text
def vB(a:IL)(n:Nat):Bool:=if a.list then a.text.isEmpty else decide (n=0)
def qz(a:IL)(s:List (nM IL)):Bool:=vB a s.length
def rZ(x:nM IL):Bool:=x.all qz&&decide (x.deep<=16)&&decide (x.count<=1024)
def hdr(by' n:Nat):List UInt8:=if n<=55 then [kg (by'+n)]else kg (by'+55+(BB n).length)::(BB n).reverse
def single(t:List UInt8):Bool:=match t with
 |[b]=>decide (b.toNat<128)
 |_=>false
mutual
def enc:nM IL->List UInt8
 | .node a s=>if a.list then hdr 192 (wh s).length++wh s else if single a.text then a.text else hdr 128 a.text.length++a.text
def wh:List (nM IL)->List UInt8
 |[]=>[]
 |x::xs=>enc x++wh xs
end
mutual
def tsz:nM IL->Nat
 | .node a s=>a.text.length+zk s
def zk:List (nM IL)->Nat
 |[]=>0
 |x::xs=>tsz x+zk xs
end
def hd2(l:List UInt8)(list:Bool)(size n:Nat):Except Nat (Bool×Nat×Nat):=
 if l.length - size<n then .error 2 else if list=false/\n=1/\(l.getD size 0).toNat<128 then .error 3 else .ok (list,size,n)
def hd(l:List UInt8):Except Nat (Bool×Nat×Nat):=match l with
 |[]=> .error 2
 |b::r=>
  if b.toNat<128 then .ok (false,0,1)
  else if b.toNat -(if 192<=b.toNat then 192 else 128)<=55 then hd2 l (decide (192<=b.toNat)) 1 (b.toNat -(if 192<=b.toNat then 192 else 128))
  else if l.length<1+(b.toNat -(if 192<=b.toNat then 192 else 128) - 55)then .error 2
  else if(r.head? =U 0\/uO (r.take (b.toNat -(if 192<=b.toNat then 192 else 128) - 55))<56)then .error 3
  else hd2 l (decide (192<=b.toNat)) (1+(b.toNat -(if 192<=b.toNat then 192 else 128) - 55)) (uO (r.take (b.toNat -(if 192<=b.toNat then 192 else 128) - 55)))
def MP(Gg:List UInt8->Nat->Except Nat (nM IL×Nat×Nat)):Nat->List UInt8->Nat->List (nM IL)->Except Nat (List (nM IL)×Nat)
 |0,_,_,_=> .error 0
 |f+1,l,m,sub=>if l=[]then .ok (sub,m)else match Gg l m with
  | .error e=> .error (if e=2 then 3 else e)
  | .ok y=>MP Gg f (l.drop y.2.1) y.2.2 (sub++[y.1])
def wO:Nat->List UInt8->Nat->Except Nat (nM IL×Nat×Nat)
 |0,l,_=>if l=[]then .error 2 else .error 6
 |k+1,l,m=>if l=[]then .error 2 else if m=0 then .error 4 else match hd l with
  | .error e=> .error e
  | .ok q=>if q.1 then(match MP (wO k) (q.2.2+1) ((l.drop q.2.1).take q.2.2) (m - 1) []with
    | .error e=> .error e
    | .ok y=> .ok (.node ⟨[],true⟩ y.1,q.2.1+q.2.2,y.2))
   else .ok (.node ⟨(l.drop q.2.1).take q.2.2,false⟩ [],q.2.1+q.2.2,m - 1)
theorem a0N(h:n<2^64):(BB n).length<=8:=DC 8 n (by simpa using h)
theorem a0O(by' n:Nat):0<(hdr by' n).length:=by unfold hdr;split<;>simp
theorem Kt(by' n:Nat)(h:n<2^64):(hdr by' n).length<=9:=by
 unfold hdr;split;.simp
 .simp;exact a0N h
theorem Rz{list:Bool}{size:Nat}{q:Bool×Nat×Nat}(h:hd2 l list size n=.ok q):
  q=(list,size,n)/\n<=l.length - size/\(list=false->n=1->¬(l.getD size 0).toNat<128):=by
 unfold hd2 at h;split at h;.cases h
 split at h;.cases h
 .rename_i h1 h2
  cases h;exact⟨rfl,nL,λa b c=>h2 ⟨a,b,c⟩⟩
theorem EE{size:Nat}(hn:size+n<=l.length)(h:n=1->¬(l.getD size 0).toNat<128):single ((l.drop size).take n)=false:=by
 cases e:(l.drop size).take n with
 |nil=>rfl
 |cons b t=>
  cases t with
  |cons c t=>rfl
  |nil=>
   have h1:n=1:=by
    have:=congrArg List.length e;simp at this;omega
   have h2:l[size]? =U b:=by
    have:=congrArg (λl=>l[0]?) e;simpa [h1,List.getElem?_take]using this
   have:=h h1;simp[List.getD,h2]at this;simp[single];omega
theorem Ku{q:Bool×Nat×Nat}(h:hd l=.ok q):
  q.2.1+q.2.2<=l.length/\0<q.2.1+q.2.2/\q.2.2<=l.length/\
  ((q.1=false/\q.2.1=0/\q.2.2=1/\single ((l.drop q.2.1).take q.2.2)=true)\/
   (l.take q.2.1=hdr (if q.1 then 192 else 128) q.2.2/\(q.1=false->single ((l.drop q.2.1).take q.2.2)=false)/\0<q.2.1)):=by
 cases l with
 |nil=>simp[hd]at h
 |cons b r=>
  simp only[hd]at h;have aa:=b.toNat_lt;split at h
  .rename_i c
   cases h;exact⟨nS,nS,nS,.inl ⟨rfl,rfl,rfl,by simp[single];omega⟩⟩
  rename_i c;have C:(if 192<=b.toNat then(192:Nat)else 128)=(if decide (192<=b.toNat)then 192 else 128):=nS;have Q:(if 192<=b.toNat then(192:Nat)else 128)<=b.toNat:=by split<;>omega
  have Y:(if 192<=b.toNat then(192:Nat)else 128)=128\/(if 192<=b.toNat then(192:Nat)else 128)=192:=by split<;>simp
  generalize decide (192<=b.toNat)=list at*;generalize hB:(if 192<=b.toNat then(192:Nat)else 128)=by' at*;split at h
  .rename_i c1
   obtain⟨rfl,h2,E⟩:=Rz h;simp only[kF]at h2⊢;refine⟨nL,nL,nL,.inr ⟨?_,λe=>EE nT (λh1=>E e h1),nL⟩⟩;unfold hdr;rw[if_pos c1,<-C];have e:kg (by'+(b.toNat - by'))=b:=by rw[show by'+(b.toNat - by')=b.toNat by omega];simp
   rw[e];simp
  rename_i c1;split at h;.cases h
  rename_i c2;split at h;.cases h
  rename_i c3;obtain⟨rfl,h2,E⟩:=Rz h;simp only[kF]at h2 c2⊢;refine⟨nL,nL,nL,.inr ⟨?_,λe=>EE nT (λh1=>E e h1),nL⟩⟩;have hk:(r.take (b.toNat - by' - 55)).length=b.toNat - by' - 55:=nT;cases A:r.take (b.toNat - by' - 55)with
  |nil=>rw[A]at hk;simp at hk;omega
  |cons c0 t=>
   have I:r.head? =U c0:=by
    cases r with
    |nil=>simp at A
    |cons c1 ae=>rw[show b.toNat - by' - 55=(b.toNat - by' - 56)+1 by omega,ky]at A;simp at A⊢;exact A.1
   have J:c0.toNat≠0:=by
    intro e;apply c3;left;rw[I];congr 1;exact lX.1 e
   have N:BB (uO (c0::t))=(c0::t).reverse:=by
    unfold uO;rw[List.reverse_cons,L6 _ _ J]
   rw[A]at hk c3;unfold hdr;have O:¬uO (c0::t)<=55:=λh=>c3 (.inr nL)
   rw[if_neg O,N,List.reverse_reverse,List.length_reverse,hk,<-C];have e:kg (by'+55+(b.toNat - by' - 55))=b:=by rw[show by'+55+(b.toNat - by' - 55)=b.toNat by omega];simp
   rw[e,show 1+(b.toNat - by' - 55)=(b.toNat - by' - 55)+1 by omega,ky,A]
theorem WI{k:Nat}(h:∀l m y,wO k l m=.ok y->0<y.2.1/\y.2.1<=l.length/\y.2.2+y.1.count=m/\y.1.deep<=k/\y.1.all qz=true/\l.take y.2.1=enc y.1):
  ∀(f:Nat)(l:List UInt8)(m:Nat)(sub:List (nM IL))(y:List (nM IL)×Nat),MP (wO k) f l m sub=.ok y->
   ∃s,y.1=sub++s/\l=wh s/\y.2+nM.nZ s=m/\nM.o9 s<=k/\nM.o7 qz s=true:=by
 intro f;induction f with
 |zero=>intro l m sub y A;simp[MP]at A
 |succ f C=>
  intro l m sub y A;simp only[MP]at A;split at A
  .rename_i e
   cases A;exact⟨[],nS,by simp[e,wh],by simp[nM.nZ],by simp[nM.o9],by simp[nM.o7]⟩
  .split at A
   .cases A
   .rename_i x E
    obtain⟨h1,h2,N,O,I,J⟩:=h _ _ _ E;obtain⟨s,e1,e2,e3,e4,e5⟩:=C _ _ _ _ A;refine⟨x.1::s,by rw[e1];simp,?_,?_,?_,?_⟩;.simp only[wh];rw[<-J,<-e2,ng]
    .simp only[nM.nZ];omega
    .simp only[nM.o9];omega
    .simp only[nM.o7,I,e5];rfl
theorem MQ:∀(k:Nat)(l:List UInt8)(m:Nat)(y:nM IL×Nat×Nat),wO k l m=.ok y->
  0<y.2.1/\y.2.1<=l.length/\y.2.2+y.1.count=m/\y.1.deep<=k/\y.1.all qz=true/\l.take y.2.1=enc y.1:=by
 intro k;induction k with
 |zero=>intro l m y h;simp only[wO]at h;split at h<;>cases h
 |succ k E=>
  intro l m y h;simp only[wO]at h;split at h;.cases h
  split at h;.cases h
  rename_i hl Q;split at h;.cases h
  rename_i q I;obtain⟨a1,a2,a3,a4⟩:=Ku I;split at h
  .rename_i A
   split at h;.cases h
   rename_i z J;obtain⟨s,e1,e2,e3,e4,e5⟩:=WI E _ _ _ _ _ J;cases h;simp only[List.nil_append]at e1;refine⟨a2,a1,?_,?_,?_,?_⟩;.simp only[nM.count,e1];omega
   .simp only[nM.deep,e1];omega
   .simp only[nM.all,e1,e5,qz,vB];rfl
   .rcases a4 with⟨h1,_⟩|⟨h1,_,_⟩
    .rw[A]at h1;cases h1
    .simp only[enc,if_true,e1,<-e2]
     rw[A,if_pos rfl]at h1;rw[show((l.drop q.2.1).take q.2.2).length=q.2.2 by simp;omega,<-h1,List.take_add]
  .rename_i A
   have C:q.1=false:=by simpa using A
   cases h;refine⟨a2,a1,?_,?_,?_,?_⟩;.simp only[nM.count,nM.nZ];omega
   .simp only[nM.deep,nM.o9];omega
   .simp[nM.all,qz,vB,nM.o7]
   .rcases a4 with⟨h1,h2,N,O⟩|⟨h1,h2,N⟩
    .simp only[enc,lV,if_false,O,if_true]
     simp[h2]
    .simp only[enc,lV,if_false,h2 C]
     rw[C]at h1;simp only[lV,if_false]at h1;rw[show((l.drop q.2.1).take q.2.2).length=q.2.2 by simp;omega,<-h1,List.take_add]
mutual
theorem WJ(x:nM IL)(h:tsz x+9*x.count<2^64):(enc x).length<=tsz x+9*x.count:=by
 cases x with
 |node a s=>
  simp only[tsz,nM.count]at h⊢;have h1:=RA s nL;simp only[enc];split
  .have:=Kt 192 (wh s).length nL
   simp;omega
  split;.omega
  .have:=Kt 128 a.text.length nL
   simp;omega
theorem RA(s:List (nM IL))(h:zk s+9*nM.nZ s<2^64):(wh s).length<=zk s+9*nM.nZ s:=by
 cases s with
 |nil=>simp[wh]
 |cons x xs=>
  simp only[zk,nM.nZ]at h⊢;have h1:=WJ x nL;have h2:=RA xs nL;simp only[wh,j5];omega
end
end
section
open Go.RowKit
abbrev IT:ko:=47
def anyI:Nat->Prop:=λ_=>True
abbrev nW(w:jJ)(Q:Nat->Prop)(v:jP)(s:List (nM IL)):Prop:=sU.nX w Q v s
abbrev pJ(w:jJ)(v:jP)(s:List (nM IL)):Prop:=sU.nX w anyI v s
def txt(a:IL):ByteArray:=⟨a.text.toArray⟩
theorem Cx(a:IL):(txt a).data.toList=a.text:=rfl
theorem sF(a:IL):(txt a).size=a.text.length:=mP
theorem nW.slice{s:List (nM IL)}(h:nW w Q v s):∃oa cap,v=ny oa s.length cap/\s.length<=cap/\cap<=j3:=by
 obtain⟨oa,cap,h1,h2,A,_⟩:=h;exact⟨oa,cap,h1,h2,A⟩
theorem nW.at_{cap:Nat}{s:List (nM IL)}(h:nW w Q (ny oa n cap) s){x:nM IL}(A:s[i]? =U x):
  ∃b off u,oa=U (Z b off V)/\b<w.heap.size/\Q b/\w.cell? (Z b (off+i*3) V)=U (nz (txt x.lab))/\w.cell? (Z b (off+i*3+1) V)=U (nC x.lab.list)/\
   w.cell? (Z b (off+i*3+2) V)=U u/\nW w Q u x.sub/\x.lab.text.length<=j3:=by
 obtain⟨N,C,E,h1,h2,I⟩:=Shape.nX.get h;cases E;obtain⟨b,off,u,e,hb,J,ho,hc,hs⟩:=I i x A;exact⟨b,off,u,e,hb,J,by simpa [sU,txt,kR]using hc 0 nO,by simpa [sU,kR]using hc 1 nO,by simpa [sU,kR]using hc 2 nO,hs,ho⟩
theorem rT{t:ko}{T:ByteArray}{l:Bool}{s:List (nM IL)}(h:nW w Q v s):
  ∀W,w.alloc (nH #[nz T,nC l,v] t)=W->jS w.heap.size w W/\nW W Q v s/\W.heap.size=w.heap.size+1/\
   W.cell? (Z w.heap.size 0 V)=U (nz T)/\W.cell? (Z w.heap.size 1 V)=U (nC l)/\W.cell? (Z w.heap.size 2 V)=U v/\nP W w.heap.size #[nz T,nC l,v] t:=by
 rintro W rfl;have A:=(jT w.heap.size w).alloc (jK _) (nH #[nz T,nC l,v] t);have hB:=nP.new w #[nz T,nC l,v] t;exact⟨A,Shape.nX.below h A,nS,hB.cell 0,hB.cell 1,hB.cell 2,hB⟩
theorem Ue{t:ko}{T T2:ByteArray}{l l2:Bool}{v2:jP}{s A:List (nM IL)}(h:pJ w v s)(h2:pJ w v2 A):
  ∀W,(w.alloc (nH #[nz T,nC l,v] t)).alloc (nH #[nz T2,nC l2,v2] t)=W->jS w.heap.size w W/\pJ W v s/\pJ W v2 A/\W.heap.size=w.heap.size+2/\
   (W.cell? (Z w.heap.size 0 V)=U (nz T)/\W.cell? (Z w.heap.size 1 V)=U (nC l)/\W.cell? (Z w.heap.size 2 V)=U v)/\
   (W.cell? (Z (w.heap.size+1) 0 V)=U (nz T2)/\W.cell? (Z (w.heap.size+1) 1 V)=U (nC l2)/\W.cell? (Z (w.heap.size+1) 2 V)=U v2):=by
 rintro W rfl;obtain⟨a1,a2,a3,a4,a5,a6,_⟩:=rT (T:=T) (l:=l) (t:=t) h _ rfl;obtain⟨b1,E,b3,b4,C,b6,_⟩:=rT (w:=w.alloc (nH #[nz T,nC l,v] t)) (T:=T2) (l:=l2) (t:=t) (Shape.nX.below h2 a1) _ rfl;rw[a3]at b1 b3 b4 C b6;have hlt:w.heap.size<w.heap.size+1:=lK _;exact⟨a1.trans (b1.mono nL),Shape.nX.below a2 (a3▸b1),E,b3,⟨(b1.cell (p:=(Z w.heap.size 0 V)) hlt).trans a4,(b1.cell (p:=(Z w.heap.size 1 V)) hlt).trans a5,(b1.cell (p:=(Z w.heap.size 2 V)) hlt).trans a6⟩,b4,C,b6⟩
theorem Kv(h:p:=by
 by_cases h:z=c;.exact .inl ⟨by simp[h],h⟩
 .exact .inr ⟨by simp[h],h⟩):p:=h
theorem a6b(z c:Int):((z !=c)=false/\jX (z=c))\/((z !=c)=true/\jX (z≠c)):=by
 exact Kv
theorem str_eq{a b:ByteArray}(h:a=b):(a.toList==b.toList)=true:=by subst h;simp
theorem WK{a b:ByteArray}(h:a≠b):(a.toList==b.toList)=false:=by rw[Lib.toList_data,Lib.toList_data,beq_eq_false_iff_ne];exact λe=>h (Go.WideShapes.bytes_inj e)
theorem a0P{a b:IL}(h:txt a=txt b):a.text=b.text:=by rw[<-Cx a,<-Cx b,h]
theorem a6c.vC{α:Type}(s:List (nM α))(i:Nat):nM.o9 (s.take i)<=nM.o9 s:=by
 conv=>rhs;rw[<-ng i s,nM.vZ]
 exact Nat.le_max_left _ _
theorem Fe(T:ByteArray):(T.toList==([]:List UInt8))=decide (T.size=0):=by
 rw[Lib.toList_data];by_cases h:T.size=0
 .rw[decide_eq_true h]
  have:T.data.toList=[]:=mU.1 (by simpa using h);rw[this];rfl
 .rw[decide_eq_false h,beq_eq_false_iff_ne]
  intro e;apply h;have:=congrArg List.length e;simpa using this
theorem WL(a:IL):decide ((txt a).size=0)=a.text.isEmpty:=by
 rw[sF];cases a.text<;>simp
theorem Py(a b:IL)(s t:List (nM IL)):(nM.node a s).same Je (.node b t)=(Je a b&&nM.sZ Je s t):=rfl
theorem Ff(h:p:=by
 go_wp2_with fail;go_returns;exact⟨by rw[HE.out];rfl,HF.out⟩):p:=h
theorem Uf(x:nM IL):∀(y:nM IL)(w:jJ)(v v2:jP),pJ w v x.sub->pJ w v2 y.sub->
  jV jI 43 #[nD #[nz (txt x.lab),nC x.lab.list,v],nD #[nz (txt y.lab),nC y.lab.list,v2]] w
   λe w'=>e=nG (nC (x.same Je y))/\jS w.heap.size w w':=by
 induction x using nM.ind with
 |h a s aL=>
  intro y w v v2 ai O;obtain⟨a2,E⟩:=y;simp only[nM.qx,nM.oZ]at ai O⊢;obtain⟨oa,cap,rfl,aD,av⟩:=nW.slice ai;obtain⟨aM,aa,rfl,aj,aF⟩:=nW.slice O;obtain⟨g,hg⟩:=nV w.heap.size;have ae:=jH (Ue (T:=txt a) (l:=a.list) (T2:=txt a2) (l2:=a2.list) (t:=IT) ai O);have aN:s.length<=9223372036854775807:=by unfold j3 at av;omega
  have I:jX ((nM.node a s).same Je (.node a2 E)=(decide (a.list=a2.list)&&decide (txt a=txt a2)&&nM.sZ Je s E)):=jH (by
   have e1:decide (txt a=txt a2)=decide (a.text=a2.text):=decide_eq_decide.2 ⟨a0P,λh=>by unfold txt;rw[h]⟩;rw[Py,e1];unfold Je;by_cases h1:a.list=a2.list<;>by_cases h2:a.text=a2.text<;>simp[h1,h2])
  generalize (nM.node a s).same Je (.node a2 E)=R at*;obtain⟨M,aG⟩:=nV s.length;have aH:=jH aG;obtain⟨aI,af⟩:=nV E.length;have ag:=jH af;have bu:=jH aL;rw[hg]at ae⊢;rw[aG]at ae aN⊢;rw[af]at ae⊢;clear ai O aD av aj aF aL aG af;have ak:=a6b (M:Int) (aI:Int);go_in;go_upto_region 1 with fail;generalize (w.alloc (nH #[nz (txt a),nC a.list,ny oa M cap] IT)).alloc (nH #[nz (txt a2),nC a2.list,ny aM aI aa] IT)=w1 at*;obtain⟨ax,ht1,ht2,hsz,⟨c0,c1,c2⟩,bz,e1,e2⟩:=ae.out _ rfl;have Q:=jH (jU ax (jU ht1 ht2));clear ae ax ht1 ht2;generalize txt a=T at*;generalize txt a2=T2 at*;generalize a.list=L at*;generalize a2.list=aO at*;by_cases hL:L=aO;case neg=>
   have HE:jX (R=false):=jH (by rw[I.out];simp[hL]);clear I;rcases L with _|_<;>rcases aO with _|_<;>first|exact absurd rfl hL|skip
   all_goals
    clear hL;go_wp2_with fail;go_returns;exact⟨by rw[HE.out];rfl,Q.1⟩
  subst hL;by_cases J:T=T2;case neg=>
   have HE:jX (R=false):=jH (by rw[I.out];simp[J]);have aP:=WK J;clear I J;rcases L with _|_
   all_goals
    go_wp2_with fail;go_returns;exact⟨by rw[HE.out];rfl,Q.1⟩
  have aP:=str_eq J;rcases ak with⟨ak,aJ⟩|⟨ak,aJ⟩
  case inr=>
   have HE:jX (R=false):=jH (by
    have q:=aJ.out;rw[I.out,nM.Kr (by rw[aH.out,ag.out];omega),Bool.and_false])
   clear I J;rcases L with _|_
   all_goals
    go_wp2_with fail;go_returns;exact⟨by rw[HE.out];rfl,Q.1⟩
  obtain rfl:M=aI:=by have:=aJ.out;omega
  have ay:jX (R=nM.sZ Je s E):=jH (by rw[I.out];simp[J]);clear I J;rcases L with _|_
  all_goals
   go_wp2_with fail;clear ak c0 c1 bz e1 aP;go_loopw [5] (λiv bA=>∃k:Nat,iv=nk nI k/\k<=M/\jX (nM.sZ Je (s.take k) (E.take k)=true)/\jX (jS (g+2) w1 bA)) (λiv _=>M -(kT iv).toNat);case atStart=>exact⟨0,rfl,nL,by simp[jX,nM.sZ],jH (jT _ _)⟩
   case round=>
    obtain⟨k,rfl,hk,aQ,C⟩:=hrel;have aR:wr.cell? (Z g 2 V)=U (ny oa M cap):=(C.cell (p:=(Z g 2 V)) (show g<g+2 by omega)).trans c2;have HF:jX (jS g w wr):=jH (Q.1.trans (C.mono nL));by_cases c:k<M
    .obtain⟨y,au⟩:∃y,s[k]? =U y:=⟨_,jW (by rw[aH.out];exact c)⟩
     obtain⟨Y,ah⟩:∃y,E[k]? =U y:=⟨_,jW (by rw[ag.out];exact c)⟩;obtain⟨b,off,u,rfl,hlt,_,aS,aT,y2,aU,aV⟩:=nW.at_ (Shape.nX.below Q.2.1 (hsz▸C.out)) au;obtain⟨b',A,aW,rfl,N,_,az,aA,aB,aC,aK⟩:=nW.at_ (Shape.nX.below Q.2.2 (hsz▸C.out)) ah;have aX:g+2<=wr.heap.size:=by have:=C.size;omega
     have bH:∀x:rP wr,x.at_.cell? (Z g 2 V)=U (ny (U (Z b off V)) M cap):=λx=>(x.is.cell (p:=(Z g 2 V)) (show g<wr.heap.size by omega)).trans aR
     have bD:∀x:rP wr,x.at_.cell? (Z (g+1) 2 V)=U (ny (U (Z b' A V)) M aa):=λx=>(x.is.cell (p:=(Z (g+1) 2 V)) (show g+1<wr.heap.size by omega)).trans ((C.cell (p:=(Z (g+1) 2 V)) (show g+1<g+2 by omega)).trans e2)
     have bI:∀x:rP wr,x.at_.cell? (Z b (off+k*3) V)=U (nz (txt y.lab)):=λx=>(x.is.cell (p:=(Z b (off+k*3) V)) hlt).trans aS
     have x1:∀x:rP wr,x.at_.cell? (Z b (off+k*3+1) V)=U (nC y.lab.list):=λx=>(x.is.cell (p:=(Z b (off+k*3+1) V)) hlt).trans aT
     have x2:∀x:rP wr,x.at_.cell? (Z b (off+k*3+2) V)=U u:=λx=>(x.is.cell (p:=(Z b (off+k*3+2) V)) hlt).trans y2
     have bE:∀x:rP wr,x.at_.cell? (Z b' (A+k*3) V)=U (nz (txt Y.lab)):=λx=>(x.is.cell (p:=(Z b' (A+k*3) V)) N).trans az
     have bF:∀x:rP wr,x.at_.cell? (Z b' (A+k*3+1) V)=U (nC Y.lab.list):=λx=>(x.is.cell (p:=(Z b' (A+k*3+1) V)) N).trans aA
     have bG:∀x:rP wr,x.at_.cell? (Z b' (A+k*3+2) V)=U aW:=λx=>(x.is.cell (p:=(Z b' (A+k*3+2) V)) N).trans aB
     have bB:=jH (λx:rP wr=>bu.out y (kK au) Y x.at_ u aW (Shape.nX.below aU x.is) (Shape.nX.below aC x.is));have aY:jX (nM.sZ Je (s.take (k+1)) (E.take (k+1))=y.same Je Y):=by
      unfold jX;rw[nM.Px au ah,aQ.out];rfl
     have aZ:jX (y.same Je Y=false->R=false):=jH λh=>by rw[ay.out];exact nM.MO au ah h
     have bg:jX (∀x:rP wr,jS (g+2) w1 x.at_):=jH λx=>C.trans (x.is.mono aX)
     have hbf:jX (∀x:rP wr,jS g w x.at_):=jH λx=>HF.trans (x.is.mono nL)
     clear aU aV aC aK aS aT y2 az aA aB;generalize y.same Je Y=bC at*;go_upto_region 6 with fail;refine oz nN nN ?_;repeat(go_big_quiet_step (exact Calls.after (bB _)))
     refine mK ?_;intro x;cases bC with
     |true=>
      go_wp2_with fail;exact⟨⟨k+1,by go_num,nL,aY,jH (bg x)⟩,by simp[kT];omega⟩
     |false=>
      have HE:=jH (aZ rfl);go_wp2_with fail;go_returns;exact⟨by rw[HE.out];rfl,hbf x⟩
    .obtain rfl:k=M:=nL
     have HE:jX (R=true):=by
      unfold jX;have h1:s.take k=s:=by rw[<-aH.out,l9]
      have h2:E.take k=E:=by rw[<-ag.out,l9]
      have bq:=aQ.out;rw[h1,h2]at bq;rw[ay.out,bq]
     exact Ff
theorem WM(a:IL):Je a a=true:=by simp[Je]
mutual
theorem Gh(x:nM IL):x.same Je x=true:=by
 cases x with
 |node a s=>simp only[nM.same,WM,EF s,Bool.and_self]
theorem EF(s:List (nM IL)):nM.sZ Je s s=true:=by
 cases s with
 |nil=>rfl
 |cons x xs=>simp only[nM.sZ,Gh x,EF xs,Bool.and_self]
end
theorem MR(a:IL)(oa:Option lH)(n cap:Nat)(w:jJ)(hn:n<=9223372036854775807):
  jV jI 200 #[nD #[nz (txt a),nC a.list,ny oa n cap]] w λe w'=>e=nG (nC (vB a n))/\jS w.heap.size w w':=by
 obtain⟨g,hg⟩:=nV w.heap.size;have I:jX (∀W,w.alloc (nH #[nz (txt a),nC a.list,ny oa n cap] IT)=W->jS g w W/\nP W g #[nz (txt a),nC a.list,ny oa n cap] IT):=jH λW h=>by
  subst h;exact⟨hg▸(jT _ w).alloc (jK _) _,hg▸nP.new w _ _⟩
 have A:jX (vB a n=if a.list then decide ((txt a).size=0)else decide (n=0)):=jH (by rw[WL];rfl);have C:=jH (Fe (txt a));rw[hg];generalize vB a n=K at*;generalize txt a=T at*;generalize a.list=L at*;go_in;go_upto_region 1 with fail;generalize w.alloc (nH #[nz T,nC L,ny oa n cap] IT)=w1 at*;obtain⟨hb,hB⟩:=I.out _ rfl;obtain⟨c0,c1,c2⟩:=hB.a3;have HB:=jH hb;clear I hb hB;cases L with
 |true=>
  obtain⟨q,E⟩:=nV ((T.toList==([]:List UInt8)));have HE:jX (K=q):=jH (by rw[A.out,<-E,C.out];rfl);clear A C;exact DW
 |false=>
  obtain⟨q,E⟩:=nV (((n:Int)==0));have HE:jX (K=q):=jH (by
   rw[A.out,<-E];by_cases h:n=0;.simp[h]
   .simp[h])
  clear A C;exact DW
def NB(w:jJ)(b n:Nat):Prop:=nP w b #[nk nI (n:Int)] 3
abbrev Cy(b q:Nat)(w:jJ)(v:jP)(s:List (nM IL)):Prop:=sU.nX w (λc=>c≠b/\c≠q) v s
theorem Cy.upd{b q:Nat}{s:List (nM IL)}(h:Cy b q w v s)(A:oN b q w w'):Cy b q w' v s:=
 Shape.nX.keep h A.size (λ_ _ h=>h) λc hc C=>A.block c hc C.1 C.2
theorem oN.of{b q:Nat}(h:jS w.heap.size w w'):oN b q w w':=⟨h.os,h.tape,h.output,h.size,λi hi _ _=>h.block i hi⟩
theorem IB(T:ByteArray)(l:Bool)(o:Option lH)(n c:Nat)(w:jJ):jV jI 205 #[nD #[nz T,nC l,ny o n c]] w λe w'=>e=nG (nC true)/\jS w.heap.size w w':=by
 have A:=jH ((jT _ w).alloc (jK _) (nH #[nz T,nC l,ny o n c] IT));go_in;go_wp2_with fail;go_returns;exact⟨rfl,A.out⟩
def zL(fe:FuncId)(x:nM IL):Prop:=fe=200\/(fe=205/\x.all qz=true)
theorem zL.cf{x:nM IL}(h:zL fe x):∀a W,l7 jI (callFunc fe #[a]) W=.ok (.enter fe #[a]) W:=by
 rcases h with rfl|⟨rfl,_⟩
 .exact λ_ _=>rfl
 .exact λ_ _=>rfl
theorem zL.sub{a:IL}{s:List (nM IL)}(h:zL fe (.node a s)){y:nM IL}{k:Nat}(E:s[k]? =U y):zL fe y:=by
 rcases h with h|⟨h,A⟩
 .exact .inl h
 .refine .inr ⟨h,?_⟩
  cases C:y.all qz with
  |true=>rfl
  |false=>
   simp only[nM.all,j4]at A;rw[nM.tO E C]at A;cases A.2
theorem a0Q{a:IL}{s:List (nM IL)}(h:zL fe (.node a s))(oa:Option lH)(cap:Nat)(w:jJ)(hn:s.length<=9223372036854775807):
  jV jI fe #[nD #[nz (txt a),nC a.list,ny oa s.length cap]] w λe w'=>e=nG (nC (vB a s.length))/\jS w.heap.size w w':=by
 rcases h with rfl|⟨rfl,A⟩
 .exact MR a oa s.length cap w hn
 .simp only[nM.all,j4,qz]at A
  rw[A.1];exact IB _ _ _ _ _ w
structure zM(fe:FuncId)(w:jJ)(bc be bd bv:Nat):Prop where
 each:nP w be #[.func (.func fe) #[] #[]] 56
 visit:nP w bv #[.func (.func 238) #[] #[nA (U (Z bc 0 V)),nA (U (Z be 0 V)),nA (U (Z bd 0 V)),nA (U (Z bv 0 V))]] 273
 e1:be≠bc
 e2:be≠bd
 v1:bv≠bc
 v2:bv≠bd
 cd:bc≠bd
theorem zM.upd{bc be bd bv:Nat}(h:zM fe w bc be bd bv)(A:oN bc bd w w'):zM fe w' bc be bd bv:=⟨A.blk h.each h.e1 h.e2,A.blk h.visit h.v1 h.v2,h.e1,h.e2,h.v1,h.v2,h.cd⟩
theorem zM.below{bc be bd bv:Nat}(h:zM fe w bc be bd bv)(hb:jS w.heap.size w w'):zM fe w' bc be bd bv:=h.upd (oN.of hb)
theorem NB.below{b:Nat}(h:NB w b n)(hb:jS w.heap.size w w'):NB w' b n:=Below.blk hb h (nP.lt h)
def IC(x:nM IL)(d n:Nat):Bool:=decide (d+x.deep<=17)&&decide (n+x.count<=1024)&&x.all qz
theorem Ug(x:nM IL):IC x 1 0=rZ x:=by
 unfold IC rZ;rw[show decide (1+x.deep<=17)=decide (x.deep<=16)by rw[decide_eq_decide];omega,show decide (0+x.count<=1024)=decide (x.count<=1024)by rw[decide_eq_decide];omega];cases x.all qz<;>cases decide (x.deep<=16)<;>cases decide (x.count<=1024)<;>rfl
abbrev Pz(g:Nat):jP:=.func (.func 238) #[] #[nA (U (Z (g+2) 0 V)),nA (U (Z (g+1) 0 V)),nA (U (Z (g+3) 0 V)),nA (U (Z (g+4) 0 V))]
structure a6d(fe:FuncId)(g:Nat)(w w1 w2 w3 w4 w5:jJ)(a:IL)(v:jP):Prop where
 e1:w.alloc (nH #[nz (txt a),nC a.list,v] IT)=w1
 e2:w1.alloc (nH #[.func (.func fe) #[] #[]] 56)=w2
 e3:w2.alloc (nH #[nk nI 0] 3)=w3
 e4:w3.alloc (nH #[nk nI 0] 3)=w4
 e5:w4.alloc (nH #[.nilFunc] 273)=w5
structure RB(fe:FuncId)(g:Nat)(w W:jJ)(a:IL)(v:jP)(s:List (nM IL)):Prop where
 pR:jS g w W
 item:nP W g #[nz (txt a),nC a.list,v] IT
 off:Cy (g+2) (g+3) W v s
 c:NB W (g+2) 0
 d:NB W (g+3) 0
 vis:zM fe W (g+2) (g+1) (g+3) (g+4)
 size:W.heap.size=g+5
theorem WN{g:Nat}{w1 w2 w3 w4 w5 W:jJ}{a:IL}{s:List (nM IL)}(hg:w.heap.size=g)(ae:pJ w v s)(af:a6d fe g w w1 w2 w3 w4 w5 a v)(h:w5.setCell (Z (g+4) 0 V) (Pz g)=W):
  RB fe g w W a v s/\w1.heap.size=g+1/\w2.heap.size=g+2/\w3.heap.size=g+3/\w4.heap.size=g+4/\w5.cell? (Z (g+4) 0 V)=U .nilFunc/\w5.frozen? (Z (g+4) 0 V)=false:=by
 obtain⟨e1,e2,e3,e4,e5⟩:=af;have J:w1.heap.size=g+1:=by rw[<-e1];simp;omega
 have N:w2.heap.size=g+2:=by rw[<-e2];simp;omega
 have O:w3.heap.size=g+3:=by rw[<-e3];simp;omega
 have Q:w4.heap.size=g+4:=by rw[<-e4];simp;omega
 have ag:w5.heap.size=g+5:=by rw[<-e5];simp;omega
 have b1:jS g w w1:=by rw[<-e1,<-hg];exact(jT _ w).alloc (jK _) _
 have ah:jS (g+1) w1 w2:=by rw[<-e2,<-J];exact(jT _ w1).alloc (jK _) _
 have b3:jS (g+2) w2 w3:=by rw[<-e3,<-N];exact(jT _ w2).alloc (jK _) _
 have b4:jS (g+3) w3 w4:=by rw[<-e4,<-O];exact(jT _ w3).alloc (jK _) _
 have ai:jS (g+4) w4 w5:=by rw[<-e5,<-Q];exact(jT _ w4).alloc (jK _) _
 have aj:nP w1 g #[nz (txt a),nC a.list,v] IT:=by have:=nP.new w #[nz (txt a),nC a.list,v] IT;rw[e1,hg]at this;exact this
 have ak:nP w2 (g+1) #[.func (.func fe) #[] #[]] 56:=by have:=nP.new w1 #[.func (.func fe) #[] #[]] 56;rw[e2,J]at this;exact this
 have au:nP w3 (g+2) #[nk nI 0] 3:=by have:=nP.new w2 #[nk nI 0] 3;rw[e3,N]at this;exact this
 have av:nP w4 (g+3) #[nk nI 0] 3:=by have:=nP.new w3 #[nk nI 0] 3;rw[e4,O]at this;exact this
 have Y:nP w5 (g+4) #[.nilFunc] 273:=by have:=nP.new w4 #[.nilFunc] 273;rw[e5,Q]at this;exact this
 have aa:jS (g+4) w4 W:=by
  rw[<-h];exact pE.below ((pE.refl (g+4) w5).set 0 _) ai (jK _) nL
 have C:jS (g+3) w3 W:=b4.trans (aa.mono nL);have E:jS (g+2) w2 W:=b3.trans (C.mono nL);have I:jS (g+1) w1 W:=ah.trans (E.mono nL);have A:jS g w W:=b1.trans (I.mono nL);refine⟨?_,J,N,O,Q,Y.cell 0,Y.free 0⟩;refine⟨A,Below.blk I aj nL,?_,Below.blk C au nL,Below.blk aa av nL,⟨Below.blk E ak nL,?_,nL,nL,nL,nL,nL⟩,by rw[<-h];simp[kz,ag]⟩;.exact Shape.nX.keep ae A.size (λc hc _=>by omega) λc hc _=>A.block c nL
 .rw[<-h]
  exact Y.set 0 (Pz g)
def Cz(x:nM IL)(d n A bc bd:Nat)(w:jJ)(e:Ending)(w':jJ):Prop:=
 e=nG (nC (IC x d n))/\oN bc bd w w'/\(∃C,C<=1024/\NB w' bc C)/\(∃A,A<=16/\NB w' bd A)/\(IC x d n=true->NB w' bc (n+x.count)/\NB w' bd (max A (d+x.deep - 1)))
theorem RD(h:p:=by
 go_wp2_with fail;exact HP _ _ ⟨by rw[HE.out];rfl,HU1.out,⟨n,hn,HX1.2.1⟩,⟨dd,hdd,HX1.2.2.1⟩,λh=>by rw[HE.out]at h;cases h⟩):p:=h
theorem MU(fe:FuncId)(x:nM IL):zL fe x->∀(w:jJ)(v:jP)(d n dd bc be bd bv:Nat),Cy bc bd w v x.sub->NB w bc n->NB w bd dd->zM fe w bc be bd bv->d<=17->n<=1024->dd<=16->
  jV jI 238 #[nD #[nz (txt x.lab),nC x.lab.list,v],nk nI d,nA (U (Z bc 0 V)),nA (U (Z be 0 V)),nA (U (Z bd 0 V)),nA (U (Z bv 0 V))] w (Cz x d n dd bc bd w):=by
 induction x using nM.ind with
 |h a s bX=>
  intro az w v d n dd bc be bd bv aO bM bN bY hd hn hdd;have bZ:=jH az;have hcf:=az.cf;simp only[nM.qx,nM.oZ]at aO⊢;obtain⟨oa,cap,rfl,bO,aT⟩:=nW.slice aO;obtain⟨g,hg⟩:=nV w.heap.size;have aU:s.length<=9223372036854775807:=by unfold j3 at aT;omega
  have HP:jX (∀e w',(e=nG (nC (IC (.node a s) d n))/\oN bc bd w w'/\(∃cz,cz<=1024/\NB w' bc cz)/\(∃dd,dd<=16/\NB w' bd dd)/\(IC (.node a s) d n=true->NB w' bc (n+(1+nM.nZ s))/\NB w' bd (max dd (d+(nM.o9 s+1) - 1))))->Cz (.node a s) d n dd bc bd w e w'):=jH λ_ _ h=>h
  generalize cK:Cz (.node a s) d n dd bc bd w=dM at HP⊢;have I:jX (IC (.node a s) d n=(decide (d+(nM.o9 s+1)<=17)&&decide (n+(1+nM.nZ s)<=1024)&&(vB a s.length&&nM.o7 qz s))):=jH rfl;have eP:bc<g:=hg▸nP.lt bM;have eQ:bd<g:=hg▸nP.lt bN
  have bP:jX (∀W,w.alloc (nH #[nz (txt a),nC a.list,ny oa s.length cap] IT)=W->oN bc bd w W/\Cy bc bd W (ny oa s.length cap) s/\NB W bc n/\NB W bd dd/\zM fe W bc be bd bv/\W.heap.size=g+1/\
    nP W g #[nz (txt a),nC a.list,ny oa s.length cap] IT):=jH λW h=>by
   subst h;have E:=(jT w.heap.size w).alloc (jK _) (nH #[nz (txt a),nC a.list,ny oa s.length cap] IT);exact⟨oN.of E,aO.upd (oN.of E),bM.below E,bN.below E,bY.below E,nT,hg▸nP.new w _ _⟩
  generalize IC (.node a s) d n=R at*;obtain⟨M,bQ⟩:=nV s.length;have aP:=jH bQ;have dN:=jH bX;obtain⟨C,aa⟩:=nV (nM.nZ s);have cZ:=jH aa;obtain⟨D,ae⟩:=nV (nM.o9 s);have df:=jH ae;rw[bQ]at bP aU I⊢;rw[aa,ae]at I;rw[aa,ae]at HP;clear aO bO aT bX bQ bM bN aa ae cK bY;go_in;go_upto_region 1 with fail;generalize w.alloc (nH #[nz (txt a),nC a.list,ny oa M cap] IT)=w1 at*;obtain⟨aV,aW,aA,aX,aB,hsz,hB⟩:=bP.out _ rfl;obtain⟨dO,dh,g2⟩:=hB.a3;have dP:w1.cell? (Z bc 0 V)=U (nk nI n):=aA.cell 0;have dQ:w1.cell? (Z be 0 V)=U (.func (.func fe) #[] #[]):=aB.each.cell 0;have HU1:=jH aV;have HX1:=jH (jU aW (jU aA (jU aX (jU aB hB))));have aQ:=jH (a0Q az oa cap w1 (aP.out▸aU));rw[aP.out]at aQ;clear bP aV aW aA aX aB hB;by_cases cd:16<d
  .have dR:decide (16<(d:Int))=true:=nT
   have HE:jX (R=false):=jH (by rw[I.out,decide_eq_false nL];rfl);clear cd;exact RD
  have dR:decide (16<(d:Int))=false:=nT;have dS:d<=16:=nL;clear cd;by_cases bR:n=1024
  .have dU:((n:Int)==1024)=true:=by simp[bR]
   have HE:jX (R=false):=jH (by rw[I.out,decide_eq_false (by omega:¬n+(1+C)<=1024),Bool.and_false];rfl);clear bR;exact RD
  have dU:((n:Int)==1024)=false:=wG;have eT:n<=1023:=nL;clear bR;generalize vB a M=q at*;cases q with
  |false=>
   have HE:jX (R=false):=jH (by rw[I.out];simp);go_wp2_with fail;refine aQ.mono ?_;rintro e w2 ⟨rfl,A⟩;have af:=jH (HU1.trans (oN.of A));have dw:=jH (HX1.2.1.below A);have dx:=jH (HX1.2.2.1.below A);clear A;go_wp2_with fail;exact HP _ _ ⟨by rw[HE.out];rfl,af.out,⟨n,hn,dw.out⟩,⟨dd,hdd,dx.out⟩,λh=>by rw[HE.out]at h;cases h⟩
  |true=>
   have dz:jX (R=(decide (d+(D+1)<=17)&&decide (n+(1+C)<=1024)&&nM.o7 qz s)):=jH (by rw[I.out];simp);clear I;obtain⟨dm,aC⟩:=nV (max dd d);have dV:(if dd<d then(d:Int)else(dd:Int))=(dm:Int):=by split<;>omega
   have aD:max (dd:Int) (d:Int)=(dm:Int):=nL;have aD:dm<=16:=nL;have aY:=jH aC;clear aC;go_wp2_with fail;refine aQ.mono ?_;rintro e w2 ⟨rfl,A⟩;have ag:=HX1.2.1.below A;have hd2:=HX1.2.2.1.below A;have a0:w2.cell? (Z bc 0 V)=U (nk nI n):=ag.cell 0;have a1:w2.frozen? (Z bc 0 V)=false:=ag.free 0;have b0:w2.cell? (Z bd 0 V)=U (nk nI dd):=hd2.cell 0;have b1:w2.frozen? (Z bd 0 V)=false:=hd2.free 0;have aZ:bc≠bd:=HX1.2.2.2.1.cd;have dA:=(A.cell (p:=(Z g 2 V)) (show g<w1.heap.size by omega)).trans g2;have dB:g≠bc:=nL;have dC:g≠bd:=nL;have af:=jH (HU1.trans (oN.of A));have dW:=jH (jU ag (jU hd2 (jU (HX1.1.upd (oN.of A)) (jU (HX1.2.2.2.1.below A) (Below.blk A HX1.2.2.2.2 nL)))));clear A ag hd2 aQ dO dh g2 dQ dP;have hst:jX (∀W,(w2.setCell (Z bc 0 V) (nk nI ((n:Int)+1))).setCell (Z bd 0 V) (nk nI dm)=W->oN bc bd w2 W/\NB W bc (n+1)/\NB W bd dm/\nP W g #[nz (txt a),nC a.list,ny oa M cap] IT/\Cy bc bd W (ny oa M cap) s/\zM fe W bc be bd bv):=jH λW h=>by
    subst h;obtain⟨dX,dY,dZ,ed,ek⟩:=dW.out;have J:oN bc bd w2 ((w2.setCell (Z bc 0 V) (nk nI ((n:Int)+1))).setCell (Z bd 0 V) (nk nI dm)):=((oN.refl bc bd w2).Bv 0 _).OJ 0 _;refine⟨J,?_,?_,J.blk ek dB dC,dZ.upd J,ed.upd J⟩
    .have:=(nP.set dX 0 (nk nI ((n:Int)+1))).setOther (a:=(Z bd 0 V)) aZ (nk nI dm)
     exact this
    .have:=(nP.setOther dY (a:=(Z bc 0 V)) (Ne.symm aZ) (nk nI ((n:Int)+1))).set 0 (nk nI dm)
     exact this
   go_upto_region 5 with fail;generalize (w2.setCell (Z bc 0 V) (nk nI ((n:Int)+1))).setCell (Z bd 0 V) (nk nI dm)=w3 at*;obtain⟨bg,bq,bu,aF,bz,bA⟩:=hst.out _ rfl;have eX:w3.cell? (Z g 2 V)=U (ny oa M cap):=aF.cell 2;have eU:g+1<=w3.heap.size:=nP.lt aF;have ax:=jH (jU bg (jU bq (jU bu (jU bz bA))));clear hst bg bq bu aF bz bA a0 a1 b0 b1 dA;go_wp2_with fail
   go_loopw [10,31] (λ_ iv bS=>∃k:Nat,iv=nk nI k/\k<=M/\jX (oN bc bd w3 bS)/\jX (NB bS bc (n+1+nM.nZ (s.take k))/\n+1+nM.nZ (s.take k)<=1024)/\jX (∃e,e<=16/\NB bS bd e/\e=max dm (d+nM.o9 (s.take k)))/\
    jX (d+1+nM.o9 (s.take k)<=17/\nM.o7 qz (s.take k)=true)) (λ_ iv _=>M -(kT iv).toNat)
   case atStart=>exact⟨0,rfl,nL,jH (oN.refl _ _ _),jH (by simpa [nM.nZ]using⟨ax.2.1,nL⟩),jH ⟨dm,aD,ax.2.2.1,by have:=aY.out;simp[nM.o9];omega⟩,jH ⟨by simp[nM.o9];omega,by simp[nM.o7]⟩⟩
   case round=>
    obtain⟨k,rfl,hk,aR,ah,ai,aS⟩:=hrel;have eu:jX (oN bc bd w wr):=jH (af.trans (ax.1.trans aR));by_cases c:k<M
    .obtain⟨y,N⟩:∃y,s[k]? =U y:=⟨_,jW (by rw[aP.out];exact c)⟩
     have bB:=ax.2.2.2.1.upd aR.out;obtain⟨b,off,u,rfl,hlt,bT,eY,eZ,y2,J,dD⟩:=nW.at_ bB N;have bC:=ax.2.2.2.2.upd aR.out;obtain⟨ou,cu,rfl,_,_⟩:=nW.slice J;obtain⟨O,bD⟩:=nV y.sub.length;rw[bD]at J y2;obtain⟨e,he,bE,aG⟩:=ai.out;have dE:=jH aG;clear aG;obtain⟨Y,aH⟩:=nV (n+1+nM.nZ (s.take k));have aj:=ah.out;rw[aH]at aj
     have dF:jX (∀W,wr.alloc (nH #[nz (txt y.lab),nC y.lab.list,ny ou O cu] IT)=W->oN bc bd w3 W/\Cy bc bd W (ny ou O cu) y.sub/\NB W bc Y/\NB W bd e/\zM fe W bc be bd bv/\
       nP W wr.heap.size #[nz (txt y.lab),nC y.lab.list,ny ou O cu] IT):=jH λW h=>by
      subst h;have E:=(jT wr.heap.size wr).alloc (jK _) (nH #[nz (txt y.lab),nC y.lab.list,ny ou O cu] IT);exact⟨aR.trans (oN.of E),Cy.upd J (oN.of E),aj.1.below E,bE.below E,bC.below E,nP.new wr _ _⟩
     have dG:=jH aj.2;have bF:=jH aH;clear J dD bD bE bB bC aj aH bT;go_upto_region 8 with fail;generalize wr.alloc (nH #[nz (txt y.lab),nC y.lab.list,ny ou O cu] IT)=w4 at*;obtain⟨aI,bG,bH,bI,aJ,ak⟩:=dF.out _ rfl;have b0:w4.cell? (Z wr.heap.size 0 V)=U (nz (txt y.lab)):=ak.cell 0;have b1:w4.cell? (Z wr.heap.size 1 V)=U (nC y.lab.list):=ak.cell 1;have fq:w4.cell? (Z wr.heap.size 2 V)=U (ny ou O cu):=ak.cell 2;have v0:w4.cell? (Z bv 0 V)=U (.func (.func 238) #[] #[nA (U (Z bc 0 V)),nA (U (Z be 0 V)),nA (U (Z bd 0 V)),nA (U (Z bv 0 V))]):=aJ.visit.cell 0
     have dH:jX (jV jI 238 #[nD #[nz (txt y.lab),nC y.lab.list,ny ou O cu],nk nI ((d:Int)+1),nA (U (Z bc 0 V)),nA (U (Z be 0 V)),nA (U (Z bd 0 V)),nA (U (Z bv 0 V))] w4
       (Cz y (d+1) Y e bc bd w4)):=jH (dN y (kK N) (bZ.sub N) w4 (ny ou O cu) (d+1) Y e bc be bd bv bG bH bI aJ nL dG he)
     have dI:=jH (af.trans (ax.1.trans aI));have bU:=jH aI;have aK:jX (IC y (d+1) Y=(decide (d+1+y.deep<=17)&&decide (Y+y.count<=1024)&&y.all qz)):=jH rfl;clear dF aI bG bH bI aJ ak;obtain⟨r,bV⟩:=nV (IC y (d+1) Y);rw[bV]at aK;have bJ:=jH bV;clear bV;cases r with
     |true=>
      go_wp2_with fail;refine(dH).mono ?_;rintro e2 w5 ⟨rfl,Q,au,av,hok⟩;rw[bJ.out]at hok⊢;have aL:=jH (bU.trans Q);have aM:=jH (hok rfl).1;have aN:=jH (hok rfl).2;clear Q au av hok;go_wp2_with fail;have h1:=aK.out;have h2:=nM.vI N;have bW:=nM.yK N;have eB:=nM.wD (p:=qz) N;have eD:=bF.out;have ay:=aS.out;simp only[Bool.true_eq,j4,decide_eq_true_eq]at h1;go_roundw;case rel=>
       refine⟨k+1,by go_num,nL,jH aL.out,jH ⟨?_,by rw[h2];omega⟩,jH ⟨_,?_,aN.out,?_⟩,jH ⟨by rw[bW];omega,by rw[eB,ay.2,h1.2];rfl⟩⟩
       .rw[h2,show n+1+(nM.nZ (s.take k)+y.count)=Y+y.count by omega]
        exact aM
       .omega
       .have:=dE.out
        rw[bW];omega
      case measure=>simp[kT];omega
     |false=>
      go_wp2_with fail;refine(dH).mono ?_;rintro e2 w5 ⟨rfl,Q,au,av,hok⟩;rw[bJ.out];have aL:=jH (dI.trans Q);have aM:=jH au;have aN:=jH av;clear Q au av hok;go_wp2_with fail;have bK:R=false:=by
       have h1:=aK.out;have h2:=nM.vI N;have bW:=nM.yK N;have eD:=bF.out;have eF:=nM.uG s (k+1);have eG:=a6c.vC s (k+1);rw[cZ.out]at eF;rw[df.out]at eG;have eH:¬(d+(D+1)<=17/\n+(1+C)<=1024/\nM.o7 qz s=true):=by
        rintro⟨dh,g2,g3⟩;have e3:y.all qz=true:=by
         cases dJ:y.all qz with
         |true=>rfl
         |false=>rw[nM.tO N dJ]at g3;cases g3
        rw[decide_eq_true nL,decide_eq_true nL,e3]at h1;cases h1
       rw[dz.out];cases ay:(decide (d+(D+1)<=17)&&decide (n+(1+C)<=1024)&&nM.o7 qz s)with
       |false=>rfl
       |true=>
        exfalso;simp only[j4,decide_eq_true_eq]at ay;exact eH ⟨ay.1.1,ay.1.2,ay.2⟩
      exact HP _ _ ⟨by rw[bK];rfl,aL.out,aM.out,aN.out,λh=>by rw[bK]at h;cases h⟩
    .obtain rfl:k=M:=nL
     have dK:s.take k=s:=by rw[<-aP.out,l9]
     rw[dK]at ah aS ai;rw[cZ.out]at ah;rw[df.out]at aS ai;go_wp2_with fail;have eO:=aS.out;have hc:=ah.out;have dL:R=true:=by rw[dz.out,decide_eq_true nL,decide_eq_true nL,eO.2];rfl
     obtain⟨e,he,bL,aG⟩:=ai.out;have aC:=aY.out;refine HP _ _ ⟨by rw[dL];rfl,eu.out,⟨_,hc.2,hc.1⟩,⟨e,he,bL⟩,λ_=>⟨by rw[show n+(1+C)=n+1+C by omega];exact hc.1,?_⟩⟩;rw[show max dd (d+(D+1) - 1)=e by omega];exact bL
def EG(x:nM IL):Int:=if rZ x=true then(x.count:Int)else 0
def MV(x:nM IL):Int:=if rZ x=true then(x.deep:Int)else 0
theorem Gi(fe:FuncId)(x:nM IL)(w:jJ)(v:jP)(au:pJ w v x.sub)(aI:zL fe x):
  jV jI 199 #[nD #[nz (txt x.lab),nC x.lab.list,v],.func (.func fe) #[] #[]] w λe w'=>e=nG (nE #[nk nI (EG x),nk nI (MV x),nC (rZ x)])/\jS w.heap.size w w':=by
 obtain⟨g,hg⟩:=nV w.heap.size;obtain⟨oa,cap,rfl,av,aC⟩:=nW.slice au;obtain⟨w1,e1⟩:=nV (w.alloc (nH #[nz (txt x.lab),nC x.lab.list,ny oa x.sub.length cap] IT));obtain⟨w2,e2⟩:=nV (w1.alloc (nH #[.func (.func fe) #[] #[]] 56));obtain⟨w3,e3⟩:=nV (w2.alloc (nH #[nk nI 0] 3));obtain⟨w4,e4⟩:=nV (w3.alloc (nH #[nk nI 0] 3));obtain⟨w5,e5⟩:=nV (w4.alloc (nH #[.nilFunc] 273));have ax:=WN (W:=w5.setCell (Z (g+4) 0 V) (Pz g)) hg au ⟨e1,e2,e3,e4,e5⟩ rfl;obtain⟨hI,aJ,aK,aL,aM,aN,ay⟩:=ax;obtain⟨R,J⟩:=nV (rZ x);have aO:=jH J;obtain⟨sn,N⟩:=nV (EG x);obtain⟨aP,O⟩:=nV (MV x);have af:jX (sn=(if R=true then(x.count:Int)else 0)/\aP=(if R=true then(x.deep:Int)else 0)):=jH ⟨by rw[<-N,<-J];rfl,by rw[<-O,<-J];rfl⟩;rw[N,O];have I:=jH hI;have aD:=jH (λ(h:RB fe g w (w5.setCell (Z (g+4) 0 V) (Pz g)) x.lab (ny oa x.sub.length cap) x.sub)=>MU fe x aI (w5.setCell (Z (g+4) 0 V) (Pz g)) (ny oa x.sub.length cap) 1 0 0 (g+2) (g+1) (g+3) (g+4) h.off h.c h.d h.vis nO nO nO);rw[hg,J];clear au av aC J hI N O;generalize x.sub.length=M at*;go_in;go_upto_region 3 with fail;generalize w5.setCell (Z (g+4) 0 V) (Pz g)=Q at*;have v0:Q.cell? (Z (g+4) 0 V)=U (Pz g):=I.vis.visit.cell 0;have aW:Q.cell? (Z g 0 V)=U (nz (txt x.lab)):=I.item.cell 0;have aX:Q.cell? (Z g 1 V)=U (nC x.lab.list):=I.item.cell 1;have aY:Q.cell? (Z g 2 V)=U (ny oa M cap):=I.item.cell 2;have aF:=jH (aD I);clear aD e1 e2 e3 e4 e5 aN ay aJ aK aL aM;go_wp2_with fail;refine(aF).mono ?_;rintro e A ⟨rfl,ag,⟨Y,aU,C⟩,⟨aa,aV,E⟩,hok⟩;rw[Ug,aO.out]at hok⊢;have aG:jX (R=true->Y=x.count/\aa=x.deep):=jH λh=>by
  obtain⟨ae,aQ⟩:=hok h;have ay:=(Eq.symm (C.cell 0)).trans (ae.cell 0);have aR:=(Eq.symm (E.cell 0)).trans (aQ.cell 0);simp only[jO,jN,mF,Value.int.injEq,true_and]at ay aR;omega
 clear hok;have a0:A.cell? (Z (g+2) 0 V)=U (nk nI Y):=C.cell 0;have a1:A.frozen? (Z (g+2) 0 V)=false:=C.free 0;have b0:A.cell? (Z (g+3) 0 V)=U (nk nI aa):=E.cell 0;have b1:A.frozen? (Z (g+3) 0 V)=false:=E.free 0;have ah:g+2≠g+3:=nL;have ai:jX (∀u v:jP,jS g w ((A.setCell (Z (g+2) 0 V) u).setCell (Z (g+3) 0 V) v)):=jH λu v=>by
  have h1:oN (g+2) (g+3) Q ((A.setCell (Z (g+2) 0 V) u).setCell (Z (g+3) 0 V) v):=(ag.Bv 0 u).OJ 0 v;have h0:=I.pR;refine⟨h1.os.trans h0.os,h1.tape.trans h0.tape,h1.output.trans h0.output,jY h0.size h1.size,λc hc=> ?_⟩;exact(h1.block c (by have:=I.size;omega) nL nL).trans (h0.block c hc)
 have aj:jX (∀u v:jP,((A.setCell (Z (g+2) 0 V) u).setCell (Z (g+3) 0 V) v).cell? (Z (g+2) 0 V)=U u/\((A.setCell (Z (g+2) 0 V) u).setCell (Z (g+3) 0 V) v).cell? (Z (g+3) 0 V)=U v):=jH λu v=>
  ⟨((nP.set C 0 u).setOther (a:=(Z (g+3) 0 V)) ah v).cell 0,((nP.setOther E (a:=(Z (g+2) 0 V)) (Ne.symm ah) u).set 0 v).cell 0⟩
 clear ag C E;cases R with
 |false=>
  go_wp2_with fail;obtain⟨az,ae⟩:=aj.out (nk nI 0) (nk nI 0);refine jZ (v:=nE #[nk nI 0,nk nI 0,nC false]) (by simp[kQ,Tryz.results199,go_sem,az,ae]) rfl ?_;obtain⟨aA,aB⟩:=af.out;subst aA aB;exact⟨rfl,ai _ _⟩
 |true=>
  go_wp2_with fail;go_big_region;obtain⟨az,ae⟩:=aj.out (nk nI Y) (nk nI aa);have ak:=(ai (nk nI Y) (nk nI aa)).drew;have aH:=jH ak;clear ak;go_wp2_with fail;refine jZ (v:=nE #[nk nI Y,nk nI aa,nC true]) (by simp[kQ,Tryz.results199,go_sem,az,ae]) rfl ?_;obtain⟨aA,aB⟩:=af.out;obtain⟨aS,aT⟩:=aG.out (by first|trivial|rfl);subst aA aB aS aT;exact⟨rfl,aH.out⟩
theorem Gj(x:nM IL)(w:jJ)(v:jP)(A:pJ w v x.sub):
  jV jI 199 #[nD #[nz (txt x.lab),nC x.lab.list,v],.func (.func 200) #[] #[]] w λe w'=>e=nG (nE #[nk nI (EG x),nk nI (MV x),nC (rZ x)])/\jS w.heap.size w w':=Gi _ x w v A (.inl rfl)
def zN(x:nM IL)(deep most:Int):Int:=if rZ x=true then if deep<(x.deep:Int)then 6 else if most<(x.count:Int)then 4 else 0 else 1
theorem PD(h:p:=by
 go_wp2_with fail;refine CS1.mono ?_;rintro e w2 ⟨rfl,hb2⟩;have HB2:=jH (HB.trans (hb2.mono (by have:=HS.out;omega)));clear hb2;go_wp2_with fail;go_returns;exact⟨by rw[HE2.out];rfl,HB2.out⟩):p:=h
theorem Uh(x:nM IL)(deep most:Int)(w:jJ)(v:jP)(Y:pJ w v x.sub):
  jV jI 159 #[nD #[nz (txt x.lab),nC x.lab.list,v],nk nI deep,nk nI most] w λe w'=>e=nG (nk nI (zN x deep most))/\jS w.heap.size w w':=by
 have aa:=jH (rT (T:=txt x.lab) (l:=x.lab.list) (t:=IT) Y);obtain⟨oa,cap,rfl,ae,ag⟩:=nW.slice Y;obtain⟨g,hg⟩:=nV w.heap.size;have C:=jH (λ(W:jJ) (h:pJ W (ny oa x.sub.length cap) x.sub)=>Gj x W _ h);obtain⟨E,af⟩:=nV (zN x deep most);have N:jX (E=if rZ x=true then if deep<(x.deep:Int)then 6 else if most<(x.count:Int)then 4 else 0 else 1):=jH (by rw[<-af];rfl);rw[hg]at aa⊢;rw[af];unfold EG MV at C;clear Y ae ag af;generalize rZ x=R at*;generalize x.sub.length=M at*;obtain⟨I,BP⟩:∃I:Int,(x.deep:Int)=I:=⟨_,rfl⟩;obtain⟨nx,O⟩:∃nx:Int,(x.count:Int)=nx:=⟨_,rfl⟩;rw[BP,O]at C N;clear BP O;go_in;go_upto_region 1 with fail;generalize w.alloc (nH #[nz (txt x.lab),nC x.lab.list,ny oa M cap] IT)=w1 at*;obtain⟨Q,ht1,hsz,c0,c1,c2,_⟩:=aa.out _ rfl;have ah:=jH ht1;have HB:=jH Q;have HS:=jH hsz;clear aa ht1 Q hsz;cases R with
 |false=>
  have CS1:=jH (C _ ah);have A:jX (E=1):=jH (by rw[N.out];rfl);clear C N;go_wp2_with fail;refine CS1.mono ?_;rintro e w2 ⟨rfl,hb2⟩;have HB2:=jH (HB.trans (hb2.mono (by have:=HS.out;omega)));clear hb2;go_wp2_with fail;go_returns;exact⟨by rw[A.out];rfl,HB2.out⟩
 |true=>
  have CS1:=jH (C _ ah);simp only[if_true]at CS1;have A:jX (E=if deep<I then 6 else if most<nx then 4 else 0):=jH (by rw[N.out];rfl);clear C N;by_cases cd:deep<I
  .have HE2:jX (E=6):=jH (by rw[A.out,if_pos cd])
   have ai:decide (deep<I)=true:=decide_eq_true cd;clear A cd;exact PD
  have ai:decide (deep<I)=false:=decide_eq_false cd;by_cases J:most<nx
  .have HE2:jX (E=4):=jH (by rw[A.out,if_neg cd,if_pos J])
   have aj:decide (most<nx)=true:=decide_eq_true J;clear A cd J;exact PD
  .have HE2:jX (E=0):=jH (by rw[A.out,if_neg cd,if_neg J])
   have aj:decide (most<nx)=false:=decide_eq_false J;clear A cd J;exact PD
theorem WO(h:p:=by
 have CC:=jH (H3 HQ.2.1 HQ.2.2 _ HQ.1);go_wp2_with fail;refine CC.mono ?_;rintro e w2 ⟨rfl,hp⟩;have HP2:=jH hp;have HK1:=jH HQ.2;clear hp c0 CC HQ;by_cases c:k3=0
 .have HC:=jH c
  subst c;go_wp2_with fail;go_roundw;case rel=>exact .inr (.inr (.inr ⟨by go_num,jH ⟨HP2.out,HK1.1,HK1.2,by first|trivial|rfl⟩⟩))
  case measure=>simp[kT]
 .have n0:(k3 !=0)=true:=by simp[c]
  have HC:=jH c;clear c;go_wp2_with fail;go_returns;have he:=HE.out;have hn:=HN.out;rw[if_neg (λh=>h HK1.1),if_neg (λh=>h HK1.2)]at he hn;subst he hn;exact⟨rfl,HP2.out⟩):p:=h
theorem WQ(h:p:=by
 have CC:=jH (H2 HQ.2 _ HQ.1);go_wp2_with fail;refine CC.mono ?_;rintro e w2 ⟨rfl,hp⟩;have HP2:=jH hp;have HK1:=jH HQ.2;clear hp c0 CC HQ;by_cases c:k2=0
 .have HC:=jH c
  subst c;go_wp2_with fail;go_roundw;case rel=>exact .inr (.inr (.inl ⟨by go_num,jH ⟨HP2.out,HK1.out,by first|trivial|rfl⟩⟩))
  case measure=>simp[kT]
 .have n0:(k2 !=0)=true:=by simp[c]
  have HC:=jH c;clear c;go_wp2_with fail;go_returns;have he:=HE.out;have hn:=HN.out;rw[if_neg (λh=>h HK1.out),if_pos HC.out]at he hn;subst he hn;exact⟨rfl,HP2.out⟩):p:=h
theorem WR(h:p:=by
 have CC:=jH (H1 _ HQ);go_wp2_with fail;refine CC.mono ?_;rintro e w2 ⟨rfl,hp⟩;have HP2:=jH hp;clear hp c0 CC;by_cases c:k1=0
 .have HC:=jH c
  subst c;go_wp2_with fail;go_roundw;case rel=>exact .inr (.inl ⟨by go_num,jH ⟨HP2.out,by first|trivial|rfl⟩⟩)
  case measure=>simp[kT]
 .have n0:(k1 !=0)=true:=by simp[c]
  have HC:=jH c;clear c;go_wp2_with fail;go_returns;have he:=HE.out;have hn:=HN.out;rw[if_pos HC.out]at he hn;subst he hn;exact⟨rfl,HP2.out⟩):p:=h
theorem WS(h:p:=by
 go_wp2_with fail;go_returns;have he:=HE.out;have hn:=HN.out;rw[if_neg (λh=>h HQ.2.1),if_neg (λh=>h HQ.2.2.1)]at he hn;subst hn;rw[HQ.2.2.2]at he;subst he;exact⟨rfl,HQ.1⟩):p:=h
theorem MW(w:jJ)(I cb J:Array jP)(b:Nat)(T:ko)(k1 k2 k3:Int)(P:Nat->jJ->Prop)(Q:∀k W,P k W->nP W b #[.func (.func 156) #[] I,.func (.func 158) #[] cb,.func (.func 160) #[] J] T)(h0:P 0 w)(h1:∀W,P 0 W->jV jI 156 I W λe A=>e=nG (nk nI k1)/\P 1 A)(h2:k1=0->∀W,P 1 W->jV jI 158 cb W λe A=>e=nG (nk nI k2)/\P 2 A)(Y:k1=0->k2=0->∀W,P 2 W->jV jI 160 J W λe A=>e=nG (nk nI k3)/\P 3 A):
  jV jI 155 #[ny (U (Z b 0 V)) 3 3] w λe A=>e=nG (nk nI (if k1≠0 then k1 else if k2≠0 then k2 else k3))/\P (if k1≠0 then 1 else if k2≠0 then 2 else 3) A:=by
 have N:=jH Q;have H1:=jH h1;have aa:=jH h0;obtain⟨E,O⟩:=nV ((if k1≠0 then k1 else if k2≠0 then k2 else k3));obtain⟨n,hn⟩:=nV ((if k1≠0 then 1 else if k2≠0 then 2 else 3));have HE:=jH O;have HN:=jH hn;have H2:=jH h2;have H3:=jH Y;rw[O,hn];clear Q h0 h1 h2 Y O hn;go_in;go_wp2_with fail;go_loopw [8] (λkv C=>(kv=nk nI 0/\jX (P 0 C))\/(kv=nk nI 1/\jX (P 1 C/\k1=0))\/(kv=nk nI 2/\jX (P 2 C/\k1=0/\k2=0))\/(kv=nk nI 3/\jX (P 3 C/\k1=0/\k2=0/\k3=0))) (λkv _=>3 -(kT kv).toNat);case atStart=>exact .inl ⟨rfl,aa⟩
 case round=>
  rcases hrel with⟨rfl,HQ⟩|⟨rfl,HQ⟩|⟨rfl,HQ⟩|⟨rfl,HQ⟩
  .have c0:wr.cell? (Z b 0 V)=U (.func (.func 156) #[] I):=(N _ _ HQ).cell 0
   exact WR
  .have c0:wr.cell? (Z b 1 V)=U (.func (.func 158) #[] cb):=(N _ _ HQ.1).cell 1
   exact WQ
  .have c0:wr.cell? (Z b 2 V)=U (.func (.func 160) #[] J):=(N _ _ HQ.1).cell 2
   exact WO
  .exact WS
theorem MX(w:jJ)(I cb J:Array jP)(b:Nat)(T:ko)(k1 k2 k3:Int)(P:Nat->jJ->Prop)(Q:∀k W,P k W->nP W b #[.func (.func 162) #[] I,.func (.func 164) #[] cb,.func (.func 166) #[] J] T)(h0:P 0 w)(h1:∀W,P 0 W->jV jI 162 I W λe A=>e=nG (nk nI k1)/\P 1 A)(h2:k1=0->∀W,P 1 W->jV jI 164 cb W λe A=>e=nG (nk nI k2)/\P 2 A)(Y:k1=0->k2=0->∀W,P 2 W->jV jI 166 J W λe A=>e=nG (nk nI k3)/\P 3 A):
  jV jI 155 #[ny (U (Z b 0 V)) 3 3] w λe A=>e=nG (nk nI (if k1≠0 then k1 else if k2≠0 then k2 else k3))/\P (if k1≠0 then 1 else if k2≠0 then 2 else 3) A:=by
 have N:=jH Q;have H1:=jH h1;have aa:=jH h0;obtain⟨E,O⟩:=nV ((if k1≠0 then k1 else if k2≠0 then k2 else k3));obtain⟨n,hn⟩:=nV ((if k1≠0 then 1 else if k2≠0 then 2 else 3));have HE:=jH O;have HN:=jH hn;have H2:=jH h2;have H3:=jH Y;rw[O,hn];clear Q h0 h1 h2 Y O hn;go_in;go_wp2_with fail;go_loopw [8] (λkv C=>(kv=nk nI 0/\jX (P 0 C))\/(kv=nk nI 1/\jX (P 1 C/\k1=0))\/(kv=nk nI 2/\jX (P 2 C/\k1=0/\k2=0))\/(kv=nk nI 3/\jX (P 3 C/\k1=0/\k2=0/\k3=0))) (λkv _=>3 -(kT kv).toNat);case atStart=>exact .inl ⟨rfl,aa⟩
 case round=>
  rcases hrel with⟨rfl,HQ⟩|⟨rfl,HQ⟩|⟨rfl,HQ⟩|⟨rfl,HQ⟩
  .have c0:wr.cell? (Z b 0 V)=U (.func (.func 162) #[] I):=(N _ _ HQ).cell 0
   exact WR
  .have c0:wr.cell? (Z b 1 V)=U (.func (.func 164) #[] cb):=(N _ _ HQ.1).cell 1
   exact WQ
  .have c0:wr.cell? (Z b 2 V)=U (.func (.func 166) #[] J):=(N _ _ HQ.1).cell 2
   exact WO
  .exact WS
theorem Ui(x:nM IL)(w:jJ)(v:jP)(A:pJ w v x.sub):
  jV jI 199 #[nD #[nz (txt x.lab),nC x.lab.list,v],.func (.func 200) #[] #[]] w λe w'=>(∃a b:Int,e=nG (nE #[nk nI a,nk nI b,nC (rZ x)]))/\jS w.heap.size w w':=(Gj x w v A).mono λ_ _ h=>⟨⟨_,_,h.1⟩,h.2⟩
theorem Gl(x:nM IL)(w:jJ)(v:jP)(E:pJ w v x.sub):
  jV jI 195 #[nD #[nz (txt x.lab),nC x.lab.list,v]] w λe w'=>e=nG (nC (rZ x))/\jS w.heap.size w w':=by
 have I:=jH (rT (T:=txt x.lab) (l:=x.lab.list) (t:=IT) E);obtain⟨oa,cap,rfl,J,N⟩:=nW.slice E;obtain⟨g,hg⟩:=nV w.heap.size;have Q:=jH (λ(W:jJ) (h:pJ W (ny oa x.sub.length cap) x.sub)=>Ui x W _ h);rw[hg]at I⊢;clear E J N;generalize rZ x=R at*;generalize x.sub.length=M at*;go_in;go_upto_region 1 with fail;generalize w.alloc (nH #[nz (txt x.lab),nC x.lab.list,ny oa M cap] IT)=w1 at*;obtain⟨A,ht1,hsz,c0,c1,c2,_⟩:=I.out _ rfl;have Y:=jH ht1;have aa:=jH A;have ae:=jH hsz;clear I ht1 A hsz;go_wp2_with fail;refine(Q _ Y).mono ?_;rintro e w2 ⟨⟨a,b,rfl⟩,C⟩;have O:=jH (aa.trans (C.mono (by have:=ae.out;omega)));clear C;go_wp2_with fail;go_returns;exact⟨rfl,O.out⟩
end
section
structure TL where
 kind:Int
 size:Int
 tail:Int
 deriving DecidableEq
def TL.wf(a:TL):Prop:=(lI nI a.kind).wf=true/\(lI nI a.size).wf=true/\(lI nI a.tail).wf=true
def oh:Shape TL:=⟨4,λa v=>[nk nI a.kind,nk nI a.size,v,nk nI a.tail],TL.wf,λ_ _=>rfl⟩
def qA(a:TL)(n:Nat):Bool:=
 decide ((a.kind=1/\(a.size=1\/a.size=2\/a.size=4\/a.size=8)/\n=0/\a.tail=0)\/(a.kind=2/\1<=a.size/\a.size<=65536/\n=0/\a.tail=0)\/
  (a.kind=3/\0<=a.size/\a.size<=65536/\n=0/\a.tail=0)\/(a.kind=4/\0<=a.size/\a.size<=1024/\n=1/\a.tail=0)\/(a.kind=5/\a.size=0/\n<=16/\0<=a.tail/\a.tail<=n))
def oK(a:TL)(s:List (nM TL)):Bool:=qA a s.length
def p9(x:nM TL):Bool:=decide (x.count<=64)&&decide (x.deep<=8)&&x.all oK
def uQ(b:UInt8):Bool:=decide (48<=b.toNat)&&decide (b.toNat<=57)
def qa:List UInt8->List UInt8
 |[]=>[]
 |b::r=>if uQ b then b::qa r else []
def past:List UInt8->List UInt8
 |[]=>[]
 |b::r=>if uQ b then past r else b::r
def yL(ds:List UInt8):Nat:=ds.foldl (λn b=>10*n+(b.toNat - 48)) 0
def zO(ds:List UInt8):Bool:=match ds with
 |[]=>false
 |[_]=>true
 |b::_=>decide (b.toNat≠48)
def num(most:Nat)(l:List UInt8):Option (Nat×List UInt8):=if zO (qa l)&&decide (yL (qa l)<=most)then U (yL (qa l),past l)else V
def zP(ds:List UInt8):Nat:=ds.foldl (λn b=>if n<1000000 then 10*n+(b.toNat - 48)else n) 0
def xO(l:List UInt8):Option (Nat×List UInt8):=if zO (qa l)then U (zP (qa l),past l)else V
def mark(l:List UInt8)(tail:Nat):Option (List UInt8×Nat):=match l with
 |63::r=>U (r,tail+1)
 |l=>if 0<tail then V else U (l,tail)
def wP(Gg:List UInt8->Nat->Option (nM TL×List UInt8×Nat)):Nat->List UInt8->Nat->List (nM TL)->Nat->Option (nM TL×List UInt8×Nat)
 |0,_,_,_,_=>V
 |f+1,l,n,sub,tail=>(mark l tail).bind λq=>(Gg q.1 n).bind λy=>match y.2.1 with
  |125::r=>U (.node ⟨5,0,q.2⟩ (sub++[y.1]),r,y.2.2)
  |44::r=>wP Gg f r y.2.2 (sub++[y.1]) q.2
  |_=>V
def rd:Nat->List UInt8->Nat->Option (nM TL×List UInt8×Nat)
 |0,_,_=>V
 |d+1,l,n=>if n=0 then V else match l with
  |[]=>V
  |b::r=>
   if b=117 then(num 64 r).bind λq=>if q.1 % 8=0 then U (.node ⟨1,(q.1/8:Nat),0⟩ [],q.2,n - 1)else V
   else if b=98 then(num 65536 r).bind λq=>U (.node ⟨2,q.1,0⟩ [],q.2,n - 1)
   else if b=115 then(num 65536 r).bind λq=>U (.node ⟨3,q.1,0⟩ [],q.2,n - 1)
   else if b=91 then(rd d r (n - 1)).bind λy=>match y.2.1 with
    |58::r2=>(num 1024 r2).bind λq=>match q.2 with
     |93::r4=>U (.node ⟨4,q.1,0⟩ [y.1],r4,y.2.2)
     |_=>V
    |_=>V
   else if b=123 then match r with
    |125::r1=>U (.node ⟨5,0,0⟩ [],r1,n - 1)
    |_=>wP (rd d) (n+1) r (n - 1) [] 0
   else V
def pz(pf:List UInt8->Option (nM TL×List UInt8)):Nat->List UInt8->List (nM TL)->Nat->Option (nM TL×List UInt8)
 |0,_,_,_=>V
 |f+1,l,sub,tail=>match l with
  |[]=>V
  |b::r=>if b=125 then U (.node ⟨5,0,tail⟩ sub,r)else
   (if sub.isEmpty then U l else if b=44 then U r else V).bind λA=>(mark A tail).bind λq=>(pf q.1).bind λy=>pz pf f y.2 (sub++[y.1]) q.2
def ps:Nat->List UInt8->Option (nM TL×List UInt8)
 |0,_=>V
 |d+1,l=>match l with
  |[]=>V
  |b::r=>
   if b=117 then(xO r).bind λq=>if q.1 % 8=0 then U (.node ⟨1,(q.1/8:Nat),0⟩ [],q.2)else V
   else if b=98 then(xO r).bind λq=>U (.node ⟨2,q.1,0⟩ [],q.2)
   else if b=115 then(xO r).bind λq=>U (.node ⟨3,q.1,0⟩ [],q.2)
   else if b=91 then(ps d r).bind λy=>match y.2 with
    |58::r2=>(xO r2).bind λq=>match q.2 with
     |93::r4=>U (.node ⟨4,q.1,0⟩ [y.1],r4)
     |_=>V
    |_=>V
   else if b=123 then pz (ps d) (r.length+1) r [] 0
   else V
theorem MZ(ds:List UInt8)(a:Nat):a<=ds.foldl (λn b=>10*n+(b.toNat - 48)) a:=by
 induction ds generalizing a with
 |nil=>simp
 |cons b r A=>simp only[List.foldl_cons];exact jY nL (A _)
theorem PE(ds:List UInt8)(a:Nat)(h:1000000<=a):ds.foldl (λn b=>if n<1000000 then 10*n+(b.toNat - 48)else n) a=a:=by
 induction ds generalizing a with
 |nil=>rfl
 |cons b r A=>simp only[List.foldl_cons];rw[if_neg nL];exact A a h
theorem M0(ds:List UInt8)(a:Nat)(h:ds.foldl (λn b=>10*n+(b.toNat - 48)) a<1000000):
  ds.foldl (λn b=>if n<1000000 then 10*n+(b.toNat - 48)else n) a=ds.foldl (λn b=>10*n+(b.toNat - 48)) a:=by
 induction ds generalizing a with
 |nil=>rfl
 |cons b r A=>
  simp only[List.foldl_cons]at h⊢;have h1:=MZ r (10*a+(b.toNat - 48));rw[if_pos nL];exact A _ h
theorem Uj(ds:List UInt8)(a:Nat)(h:1000000<=ds.foldl (λn b=>10*n+(b.toNat - 48)) a):
  1000000<=ds.foldl (λn b=>if n<1000000 then 10*n+(b.toNat - 48)else n) a:=by
 induction ds generalizing a with
 |nil=>exact h
 |cons b r A=>
  simp only[List.foldl_cons]at h⊢;by_cases c:a<1000000;.rw[if_pos c];exact A _ h
  .rw[if_neg c,PE _ _ nL];omega
theorem Gm(A:most<1000000)(h:num most l=U q):xO l=U q/\q.1<=most:=by
 unfold num at h;split at h
 .rename_i c
  simp only[j4,decide_eq_true_eq]at c;have e:=M0 (qa l) 0 (show yL (qa l)<1000000 by omega);cases h;unfold xO;rw[if_pos c.1];exact⟨by rw[show zP (qa l)=yL (qa l)from e],c.2⟩
 .cases h
theorem Gn(I:most<1000000)(h:xO l=U q)(A:q.1<=most):num most l=U q:=by
 unfold xO at h;split at h
 .rename_i c
  cases h;have E:yL (qa l)<1000000:=by
   rcases kZ (yL (qa l)) 1000000 with C|C
   .exact C
   .have:=Uj (qa l) 0 C
    simp only[zP]at A;omega
  have e:zP (qa l)=yL (qa l):=M0 (qa l) 0 E;simp only[e]at A⊢;unfold num;rw[if_pos (by simp[c,A])]
 .cases h
theorem zQ{tail:Nat}{q:List UInt8×Nat}(h:mark l tail=U q):q.1.length<=l.length:=by
 unfold mark at h;split at h;.cases h;simp
 .split at h
  .cases h
  .cases h;exact jK _
theorem PG{Gg:List UInt8->Nat->Option (nM TL×List UInt8×Nat)}{pf:List UInt8->Option (nM TL×List UInt8)}{d:Nat}(hl:∀l y,pf l=U y->y.2.length<l.length)(h:∀l n y,Gg l n=U y->pf l=U (y.1,y.2.1)/\y.2.2+y.1.count=n/\y.1.deep<=d):
  ∀(f g:Nat)(l:List UInt8)(n:Nat)(sub:List (nM TL))(tail:Nat)(y:nM TL×List UInt8×Nat),wP Gg f l n sub tail=U y->(if sub.isEmpty then l else 44::l).length<g->nM.o9 sub<=d->
   (sub=[]->l≠[]/\l.head?≠U 125)->
   pz pf g (if sub.isEmpty then l else 44::l) sub tail=U (y.1,y.2.1)/\y.2.2+y.1.count=n+1+nM.nZ sub/\y.1.deep<=d+1:=by
 intro f;induction f with
 |zero=>intro g l n sub tail y A;simp[wP]at A
 |succ f O=>
  intro g l n sub tail y A hg hd h0;cases g with
  |zero=>omega
  |succ g=>
   simp only[wP,kr]at A;obtain⟨q,J,x,Q,A⟩:=A;obtain⟨hp,hc,BP⟩:=h _ _ _ Q;have hlen:=hl _ _ hp;have Y:=zQ J;simp only at hlen;have C:pz pf (g+1) (if sub.isEmpty then l else 44::l) sub tail=pz pf g x.2.1 (sub++[x.1]) q.2:=by
    cases hs:sub.isEmpty with
    |true=>
     have:=h0 (List.isEmpty_iff.1 hs);cases l with
     |nil=>simp at this
     |cons b r=>
      have hb:b≠125:=by simpa using this.2
      simp only[if_true,pz,if_neg hb,hs,kD,J,hp]
    |false=>simp[pz,hs,J,hp]
   have aa:l.length<=g:=by split at hg<;>simp_all<;>omega
   rw[C];have E:nM.nZ (sub++[x.1])=nM.nZ sub+x.1.count:=by simp[nM.rW,nM.nZ]
   have N:nM.o9 (sub++[x.1])<=d:=by rw[nM.vZ];simp[nM.o9];omega
   split at A
   .rename_i r e
    cases A;rw[e]at hlen⊢;simp only[kF]at hlen;cases g with
    |zero=>omega
    |succ g=>
     refine⟨by simp[pz],?_,?_⟩;.simp only[nM.count,E];omega
     .simp only[nM.deep];omega
   .rename_i r e
    rw[e]at hlen⊢;simp only[kF]at hlen;have I:(sub++[x.1]).isEmpty=false:=nS;have:=O g r x.2.2 (sub++[x.1]) q.2 y A (by rw[I];simp;omega) N (λe=>by simp at e);rw[I]at this;simp only[lV,if_false]at this;refine⟨this.1,?_,this.2.2⟩;rw[this.2.1,E];omega
   .cases A
theorem M3(l:List UInt8):(past l).length<=l.length:=by
 induction l with
 |nil=>simp[past]
 |cons b r A=>simp only[past];split<;>simp_all;omega
theorem sG(h:xO l=U q):q.2.length<=l.length:=by
 unfold xO at h;split at h;.cases h;exact M3 l
 .cases h
theorem Kw{pf:List UInt8->Option (nM TL×List UInt8)}(hl:∀l y,pf l=U y->y.2.length<l.length):
  ∀(g:Nat)(l:List UInt8)(sub:List (nM TL))(tail:Nat)(y:nM TL×List UInt8),pz pf g l sub tail=U y->y.2.length<l.length:=by
 intro g;induction g with
 |zero=>intro l sub tail y h;simp[pz]at h
 |succ g A=>
  intro l sub tail y h;cases l with
  |nil=>simp[pz]at h
  |cons b r=>
   simp only[pz]at h;split at h;.cases h;simp
   .simp only[kr]at h
    obtain⟨C,h1,q,h2,x,E,I⟩:=h;have a1:=A _ _ _ _ I;have a2:=hl _ _ E;have a3:=zQ h2;have a4:C.length<=(b::r).length:=by
     split at h1;.cases h1;exact jK _
     .split at h1
      .cases h1;simp
      .cases h1
    omega
theorem DY:∀(d:Nat)(l:List UInt8)(y:nM TL×List UInt8),ps d l=U y->y.2.length<l.length:=by
 intro d;induction d with
 |zero=>intro l y h;simp[ps]at h
 |succ d C=>
  intro l y h;cases l with
  |nil=>simp[ps]at h
  |cons b r=>
   simp only[ps]at h;split at h
   .simp only[kr]at h
    obtain⟨q,h1,h2⟩:=h;have:=sG h1;split at h2;.cases h2;simp;omega
    .cases h2
   split at h
   .simp only[kr]at h
    obtain⟨q,h1,h2⟩:=h;have:=sG h1;cases h2;simp;omega
   split at h
   .simp only[kr]at h
    obtain⟨q,h1,h2⟩:=h;have:=sG h1;cases h2;simp;omega
   split at h
   .simp only[kr]at h
    obtain⟨x,h1,h2⟩:=h;have a1:=C _ _ h1;split at h2
    .rename_i r2 e
     simp only[kr]at h2;obtain⟨q,E,A⟩:=h2;have a2:=sG E;rw[e]at a1;split at A
     .rename_i r4 e4
      cases A;rw[e4]at a2;simp only[kF]at a1 a2⊢;omega
     .cases A
    .cases h2
   split at h
   .have:=Kw C _ _ _ _ _ h
    simp only[kF];omega
   .cases h
theorem WT(h:p:=by
 rename_i e;rw[if_pos e];simp only[kr]at h;obtain⟨q,h1,h2⟩:=h;obtain⟨h3,_⟩:=Gm nO h1;cases h2;rw[h3];refine⟨rfl,?_,?_⟩<;>simp[nM.count,nM.nZ,nM.deep,nM.o9];omega):p:=h
theorem WU:∀(d:Nat)(l:List UInt8)(n:Nat)(y:nM TL×List UInt8×Nat),rd d l n=U y->ps d l=U (y.1,y.2.1)/\y.2.2+y.1.count=n/\y.1.deep<=d:=by
 intro d;induction d with
 |zero=>intro l n y h;simp[rd]at h
 |succ d A=>
  intro l n y h;simp only[rd]at h;split at h;.cases h
  rename_i hn;cases l with
  |nil=>simp at h
  |cons b r=>
   simp only at h;simp only[ps];split at h
   .rename_i e
    rw[if_pos e];simp only[kr]at h;obtain⟨q,h1,h2⟩:=h;obtain⟨h3,_⟩:=Gm nO h1;rw[h3];split at h2
    .rename_i c
     cases h2;simp only[kD,if_pos c];refine⟨by first|trivial|rfl,?_,?_⟩<;>simp[nM.count,nM.nZ,nM.deep,nM.o9];omega
    .cases h2
   rename_i e1;rw[if_neg e1];split at h;.exact WT
   rename_i e2;rw[if_neg e2];split at h;.exact WT
   rename_i e3;rw[if_neg e3];split at h
   .rename_i e
    rw[if_pos e];simp only[kr]at h;obtain⟨x,h1,h2⟩:=h;obtain⟨J,Q,Y⟩:=A _ _ _ h1;rw[J];simp only[kD];split at h2
    .rename_i r2 e2
     simp only[kr]at h2;obtain⟨q,h3,C⟩:=h2;obtain⟨N,_⟩:=Gm nO h3;simp only[N,kD];split at C
     .rename_i r4 e4
      cases C;refine⟨by first|trivial|rfl,?_,?_⟩;.simp[nM.count,nM.nZ];omega
      .simp[nM.deep,nM.o9];omega
     .cases C
    .cases h2
   rename_i e4;rw[if_neg e4];split at h
   .rename_i e
    rw[if_pos e];split at h
    .rename_i r1
     cases h;refine⟨by simp[pz],?_,?_⟩<;>simp[nM.count,nM.nZ,nM.deep,nM.o9];omega
    .rename_i I
     have O:r≠[]:=by
      rintro rfl;simp only[wP,mark,Nat.lt_irrefl,if_false,kD,kr]at h;obtain⟨x,h1,_⟩:=h;have:=DY _ _ _ (A _ _ _ h1).1;simp at this
     have:=PG (DY d) (λl n y=>A l n y) (n+1) (r.length+1) r (n - 1) [] 0 y h nS (by simp[nM.o9]) (λ_=>⟨O,λE=>by
      cases r with
      |nil=>simp at E
      |cons c t=>simp at E;exact I t (by rw[E])⟩)
     simp only[List.isEmpty_nil,if_true]at this;refine⟨this.1,?_,this.2.2⟩;have:=this.2.1;simp only[nM.nZ]at this;omega
   .cases h
theorem Uk{pf:List UInt8->Option (nM TL×List UInt8)}:∀(g:Nat)(l:List UInt8)(sub:List (nM TL))(tail:Nat)(y:nM TL×List UInt8),pz pf g l sub tail=U y->
  ∃s t,y.1=.node ⟨5,0,t⟩ (sub++s):=by
 intro g;induction g with
 |zero=>intro l sub tail y h;simp[pz]at h
 |succ g A=>
  intro l sub tail y h;cases l with
  |nil=>simp[pz]at h
  |cons b r=>
   simp only[pz]at h;split at h;.cases h;exact⟨[],tail,nS⟩
   .simp only[kr]at h
    obtain⟨E,h1,q,h2,x,I,C⟩:=h;obtain⟨s,t,e⟩:=A _ _ _ _ C;exact⟨x.1::s,t,by rw[e];simp⟩
theorem PH{Gg:List UInt8->Nat->Option (nM TL×List UInt8×Nat)}{pf:List UInt8->Option (nM TL×List UInt8)}(h:∀l n y,pf l=U y->y.1.all oK=true->y.1.count<=n->Gg l n=U (y.1,y.2,n - y.1.count)):
  ∀(g f:Nat)(l:List UInt8)(n:Nat)(sub:List (nM TL))(tail:Nat)(y:nM TL×List UInt8),pz pf g (if sub.isEmpty then l else 44::l) sub tail=U y->
   y.1.all oK=true->y.1.count<=n+1+nM.nZ sub->n<f->(sub=[]->l.head?≠U 125)->wP Gg f l n sub tail=U (y.1,y.2,n+1+nM.nZ sub - y.1.count):=by
 intro g;induction g with
 |zero=>intro f l n sub tail y A;simp[pz]at A
 |succ g Y=>
  intro f l n sub tail y A E hc ai h0;cases f with
  |zero=>omega
  |succ f=>
   obtain⟨q,aa,x,ae,hy2⟩:∃q,mark l tail=U q/\∃x,pf q.1=U x/\pz pf g x.2 (sub++[x.1]) q.2=U y:=by
    cases hs:sub.isEmpty with
    |true=>
     have hh:=h0 (List.isEmpty_iff.1 hs);rw[hs]at A;simp only[if_true]at A;cases l with
     |nil=>simp[pz]at A
     |cons b r=>
      have hb:b≠125:=by simpa using hh
      simp only[pz,if_neg hb,hs,if_true,kD,kr]at A;exact A
    |false=>
     rw[hs]at A;simp only[lV,if_false,pz,hs,if_true,kr,if_neg (show(44:UInt8)≠125 by decide)]at A;obtain⟨af,e1,A⟩:=A;cases e1;exact A
   obtain⟨s,t,I⟩:=Uk _ _ _ _ _ hy2;have C:nM.nZ (sub++[x.1])=nM.nZ sub+x.1.count:=by simp[nM.rW,nM.nZ]
   have O:x.1.all oK=true:=by
    rw[I]at E;simp only[nM.all,j4,nM.zK,nM.o7]at E;exact E.2.1.2.1
   have ag:y.1.count=1+(nM.nZ sub+x.1.count+nM.nZ s):=by rw[I];simp only[nM.count,nM.rW,C]
   have ah:=nM.x8 x.1;have Q:=h _ n _ ae O nL;simp only[wP,aa,kD,Q];cases g with
   |zero=>simp[pz]at hy2
   |succ g=>
    cases J:x.2 with
    |nil=>rw[J]at hy2;simp[pz]at hy2
    |cons b r=>
     rw[J]at hy2;by_cases c:b=125
     .subst c
      simp only[pz,if_true]at hy2;cases hy2;simp only[nM.count,C];have e:n - x.1.count=n+1+nM.nZ sub -(1+(nM.nZ sub+x.1.count)):=nL;rw[e]
     .have N:(sub++[x.1]).isEmpty=false:=nS
      have hb:b=44:=by
       simp only[pz,if_neg c,N,lV,if_false,kr]at hy2;obtain⟨af,e1,_⟩:=hy2;split at e1;.assumption
       .cases e1
      subst hb;have:=Y f r (n - x.1.count) (sub++[x.1]) q.2 y (by rw[N];exact hy2) E (by rw[C];omega) nL (λe=>by simp at e);simp only[this,C];have e:n - x.1.count+1+(nM.nZ sub+x.1.count) - y.1.count=n+1+nM.nZ sub - y.1.count:=nL;rw[e]
theorem BQ{k:Int}{m:Nat}{t:Int}{s:List (nM TL)}(h:(nM.node ⟨k,m,t⟩ s).all oK=true):m<=65536/\(k=1->m<=8)/\(k=4->m<=1024):=by
 simp only[nM.all,oK,qA,j4,decide_eq_true_eq]at h;omega
theorem WV(h:p:=by
 rename_i e;rw[if_pos e];simp only[kr]at h;obtain⟨q,h1,h2⟩:=h;cases h2;rw[Gn (most:=65536) nO h1 (BQ hr).1];simp[nM.count,nM.nZ]):p:=h
theorem a6e:∀(d:Nat)(l:List UInt8)(n:Nat)(y:nM TL×List UInt8),ps d l=U y->y.1.all oK=true->y.1.count<=n->rd d l n=U (y.1,y.2,n - y.1.count):=by
 intro d;induction d with
 |zero=>intro l n y h;simp[ps]at h
 |succ d I=>
  intro l n y h hr hc;have hy1:=nM.x8 y.1;simp only[rd];rw[if_neg nL];cases l with
  |nil=>simp[ps]at h
  |cons b r=>
   simp only;simp only[ps]at h;split at h
   .rename_i e
    rw[if_pos e];simp only[kr]at h;obtain⟨q,h1,h2⟩:=h;split at h2
    .rename_i c
     cases h2;have:=(BQ hr).2.1 rfl;rw[Gn (most:=64) nO h1 nL];simp only[kD,if_pos c];simp[nM.count,nM.nZ]
    .cases h2
   rename_i e1;rw[if_neg e1];split at h;.exact WV
   rename_i e2;rw[if_neg e2];split at h;.exact WV
   rename_i e3;rw[if_neg e3];split at h
   .rename_i e
    rw[if_pos e];simp only[kr]at h;obtain⟨x,h1,h2⟩:=h;split at h2
    .rename_i r2 e2
     simp only[kr]at h2;obtain⟨q,C,E⟩:=h2;split at E
     .rename_i r4 e4
      cases E;have J:x.1.all oK=true:=by
       simp only[nM.all,nM.o7,j4]at hr;exact hr.2.1
      simp only[nM.count,nM.nZ]at hc;rw[I _ (n - 1) _ h1 J nL];simp only[kD,e2,Gn (most:=1024) nO C ((BQ hr).2.2 rfl),e4];simp only[nM.count,nM.nZ];have e:n - 1 - x.1.count=n -(1+(x.1.count+0)):=nL;rw[e]
     .cases E
    .cases h2
   rename_i e4;rw[if_neg e4];split at h
   .rename_i e
    rw[if_pos e];cases r with
    |nil=>simp[pz]at h
    |cons c r=>
     by_cases A:c=125
     .subst A
      simp only[pz,if_true]at h;cases h;simp[nM.count,nM.nZ]
     .have:=PH (Gg:=rd d) (pf:=ps d) (λl n y h1 h2 C=>I l n y h1 h2 C) ((c::r).length+1) (n+1) (c::r) (n - 1) [] 0 y h hr (by simp only[nM.nZ];omega) nL (λ_=>by simpa using A)
      have e5:n - 1+1+nM.nZ ([]:List (nM TL)) - y.1.count=n - y.1.count:=by simp only[nM.nZ];omega
      rw[e5]at this;split
      .rename_i r1 N
       simp at N;exact absurd N.1 A
      .exact this
   .cases h
def xh(l:List UInt8):Option (nM TL):=match rd 8 l 64 with
 |some (x,[],_)=>if p9 x then U x else V
 |_=>V
def BR(l:List UInt8):Option (nM TL):=match ps 8 l with
 |some (x,[])=>if p9 x then U x else V
 |_=>V
theorem Jf(l:List UInt8):xh l=BR l:=by
 unfold xh BR;cases h:rd 8 l 64 with
 |some y=>
  obtain⟨x,r,n⟩:=y;rw[(WU _ _ _ _ h).1];cases r<;>rfl
 |none=>
  cases h2:ps 8 l with
  |none=>rfl
  |some y=>
   obtain⟨x,r⟩:=y;cases r with
   |cons _ _=>rfl
   |nil=>
    simp only;cases A:p9 x with
    |false=>rfl
    |true=>
     simp only[p9,j4,decide_eq_true_eq]at A;rw[a6e _ _ 64 _ h2 A.2 A.1.1]at h;cases h
end
section
open Go.RowKit
def a8S:Nat->Prop:=λ_=>True
abbrev oQ(w:jJ)(v:jP)(s:List (nM TL)):Prop:=oh.nX w a8S v s
theorem oQ.slice{s:List (nM TL)}(h:oQ w v s):∃oa cap,v=ny oa s.length cap/\s.length<=cap/\cap<=j3:=by
 obtain⟨oa,cap,h1,h2,A,_⟩:=h;exact⟨oa,cap,h1,h2,A⟩
theorem oQ.at_{cap:Nat}{s:List (nM TL)}(h:oQ w (ny oa n cap) s){x:nM TL}(A:s[i]? =U x):
  ∃b off u,oa=U (Z b off V)/\b<w.heap.size/\w.cell? (Z b (off+i*4) V)=U (nk nI x.lab.kind)/\w.cell? (Z b (off+i*4+1) V)=U (nk nI x.lab.size)/\
   w.cell? (Z b (off+i*4+2) V)=U u/\w.cell? (Z b (off+i*4+3) V)=U (nk nI x.lab.tail)/\oQ w u x.sub/\TL.wf x.lab:=by
 obtain⟨J,C,E,h1,h2,I⟩:=h.get;cases E;obtain⟨b,off,u,e,hb,_,ho,hc,hs⟩:=I i x A;exact⟨b,off,u,e,hb,by simpa [oh,kR]using hc 0 nO,by simpa [oh,kR]using hc 1 nO,by simpa [oh,kR]using hc 2 nO,by simpa [oh,kR]using hc 3 nO,hs,ho⟩
end
end Go.Proofs.YtamfcjmhnndbdaaGreatDoor


