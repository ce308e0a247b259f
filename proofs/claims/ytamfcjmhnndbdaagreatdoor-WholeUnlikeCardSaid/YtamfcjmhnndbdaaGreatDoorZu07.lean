/- Part 7 of the proof. -/
import Derived.Test.YtamfcjmhnndbdaaGreatDoorZu00
import Derived.Test.YtamfcjmhnndbdaaGreatDoorZu02
import Derived.Test.YtamfcjmhnndbdaaGreatDoorZu03
import Derived.Test.YtamfcjmhnndbdaaGreatDoorZu06
import Derived.Test.YtamfcjmhnndbdaaGreatDoorRows
import Derived.WalkSpells
import Derived.OwnWalk
import Derived.IntWalk
import Derived.Lib.Strings
import Derived.Deep.CutBlock
import Derived.Deep.DeepCutAuto
import Derived.RegionTactic
import Derived.ChangeAlike
open Go.Value renaming agg→nC,bool→nA,int→ng,pointer→nz,slice→nk,string→ny,tuple→nD
open Go.Obj renaming cells→nG
open Go.IntKind renaming i64→nH,u64→nI
open Go.Ending renaming returned→nE,returned→lH
open Go.Lib renaming hid→jH
open Go.Proofs.Tryz renaming prog→jI
open Go renaming World→jJ,Value→jP,Calls→jV,maxLen→j5,TypeId→ko,Addr→l5
open Nat renaming le_refl→jL,le_trans→kg,lt_of_lt_of_le→kG,add_assoc→kP,lt_or_ge→lh,pow_le_pow_right→lq,lt_succ_self→lM,pow_succ→l6,two_pow_add_eq_or_of_lt→mO
open Go.RowKit renaming Below→jS,Hid→jW,intOf→kW
open Go.RowKit.Below renaming refl→jT
open And renaming intro→jU
open List renaming getElem?_eq_getElem→jX,length_cons→kD,length_drop→kS,mem_of_getElem?→kT,length_take→kY,take_length→l9,length_eq_zero_iff→mf,take_append_drop→mQ
open Bool renaming and_eq_true→j3,false_eq_true→lF
open Option renaming bind_eq_some_iff→kr,bind_some→kF
open Go.Instr renaming index→kR
open Go.Lit renaming int→lJ
open Go.Sem renaming run→mi
open Go.World renaming cell?→mW
namespace Go.Proofs.YtamfcjmhnndbdaaGreatDoor
set_option linter.unusedVariables false
set_option linter.unusedSimpArgs false
set_option maxRecDepth 100000
set_option maxHeartbeats 8000000
variable {most i b:Nat}{l:List UInt8}{q:Nat×List UInt8}{p:Prop}{w w':jJ}{v:jP}{oa:Option l5}{α:Type}{r:Option Nat}
section
structure TL where
 kind:Int
 size:Int
 tail:Int
 deriving DecidableEq
def TL.wf(a:TL):Prop:=(lJ nH a.kind).wf=true/\(lJ nH a.size).wf=true/\(lJ nH a.tail).wf=true
def oh:Shape TL:=⟨4,λa v=>[ng nH a.kind,ng nH a.size,v,ng nH a.tail],TL.wf,λ_ _=>rfl⟩
def qz(a:TL)(n:Nat):Bool:=
 decide ((a.kind=1/\(a.size=1\/a.size=2\/a.size=4\/a.size=8)/\n=0/\a.tail=0)\/(a.kind=2/\1<=a.size/\a.size<=65536/\n=0/\a.tail=0)\/
  (a.kind=3/\0<=a.size/\a.size<=65536/\n=0/\a.tail=0)\/(a.kind=4/\0<=a.size/\a.size<=1024/\n=1/\a.tail=0)\/(a.kind=5/\a.size=0/\n<=16/\0<=a.tail/\a.tail<=n))
def oG(a:TL)(s:List (nL TL)):Bool:=qz a s.length
def pX(x:nL TL):Bool:=decide (x.count<=64)&&decide (x.deep<=8)&&x.all oG
def uT(b:UInt8):Bool:=decide (48<=b.toNat)&&decide (b.toNat<=57)
def pY:List UInt8->List UInt8
 |[]=>[]
 |b::r=>if uT b then b::pY r else []
def past:List UInt8->List UInt8
 |[]=>[]
 |b::r=>if uT b then past r else b::r
def yN(ds:List UInt8):Nat:=ds.foldl (λn b=>10*n+(b.toNat - 48)) 0
def zO(ds:List UInt8):Bool:=match ds with
 |[]=>false
 |[_]=>true
 |b::_=>decide (b.toNat≠48)
def num(most:Nat)(l:List UInt8):Option (Nat×List UInt8):=if zO (pY l)&&decide (yN (pY l)<=most)then some (yN (pY l),past l)else none
def zP(ds:List UInt8):Nat:=ds.foldl (λn b=>if n<1000000 then 10*n+(b.toNat - 48)else n) 0
def xV(l:List UInt8):Option (Nat×List UInt8):=if zO (pY l)then some (zP (pY l),past l)else none
def mark(l:List UInt8)(tail:Nat):Option (List UInt8×Nat):=match l with
 |63::r=>some (r,tail+1)
 |l=>if 0<tail then none else some (l,tail)
def wV(Gh:List UInt8->Nat->Option (nL TL×List UInt8×Nat)):Nat->List UInt8->Nat->List (nL TL)->Nat->Option (nL TL×List UInt8×Nat)
 |0,_,_,_,_=>none
 |f+1,l,n,sub,tail=>(mark l tail).bind λq=>(Gh q.1 n).bind λy=>match y.2.1 with
  |125::r=>some (.node ⟨5,0,q.2⟩ (sub++[y.1]),r,y.2.2)
  |44::r=>wV Gh f r y.2.2 (sub++[y.1]) q.2
  |_=>none
def rd:Nat->List UInt8->Nat->Option (nL TL×List UInt8×Nat)
 |0,_,_=>none
 |d+1,l,n=>if n=0 then none else match l with
  |[]=>none
  |b::r=>
   if b=117 then(num 64 r).bind λq=>if q.1 % 8=0 then some (.node ⟨1,(q.1/8:Nat),0⟩ [],q.2,n - 1)else none
   else if b=98 then(num 65536 r).bind λq=>some (.node ⟨2,q.1,0⟩ [],q.2,n - 1)
   else if b=115 then(num 65536 r).bind λq=>some (.node ⟨3,q.1,0⟩ [],q.2,n - 1)
   else if b=91 then(rd d r (n - 1)).bind λy=>match y.2.1 with
    |58::r2=>(num 1024 r2).bind λq=>match q.2 with
     |93::r4=>some (.node ⟨4,q.1,0⟩ [y.1],r4,y.2.2)
     |_=>none
    |_=>none
   else if b=123 then match r with
    |125::r1=>some (.node ⟨5,0,0⟩ [],r1,n - 1)
    |_=>wV (rd d) (n+1) r (n - 1) [] 0
   else none
def pz(pf:List UInt8->Option (nL TL×List UInt8)):Nat->List UInt8->List (nL TL)->Nat->Option (nL TL×List UInt8)
 |0,_,_,_=>none
 |f+1,l,sub,tail=>match l with
  |[]=>none
  |b::r=>if b=125 then some (.node ⟨5,0,tail⟩ sub,r)else
   (if sub.isEmpty then some l else if b=44 then some r else none).bind λA=>(mark A tail).bind λq=>(pf q.1).bind λy=>pz pf f y.2 (sub++[y.1]) q.2
def ps:Nat->List UInt8->Option (nL TL×List UInt8)
 |0,_=>none
 |d+1,l=>match l with
  |[]=>none
  |b::r=>
   if b=117 then(xV r).bind λq=>if q.1 % 8=0 then some (.node ⟨1,(q.1/8:Nat),0⟩ [],q.2)else none
   else if b=98 then(xV r).bind λq=>some (.node ⟨2,q.1,0⟩ [],q.2)
   else if b=115 then(xV r).bind λq=>some (.node ⟨3,q.1,0⟩ [],q.2)
   else if b=91 then(ps d r).bind λy=>match y.2 with
    |58::r2=>(xV r2).bind λq=>match q.2 with
     |93::r4=>some (.node ⟨4,q.1,0⟩ [y.1],r4)
     |_=>none
    |_=>none
   else if b=123 then pz (ps d) (r.length+1) r [] 0
   else none
theorem M8(ds:List UInt8)(a:Nat):a<=ds.foldl (λn b=>10*n+(b.toNat - 48)) a:=by
 induction ds generalizing a with
 |nil=>simp
 |cons b r A=>simp only[List.foldl_cons];exact kg nK (A _)
theorem PN(ds:List UInt8)(a:Nat)(h:1000000<=a):ds.foldl (λn b=>if n<1000000 then 10*n+(b.toNat - 48)else n) a=a:=by
 induction ds generalizing a with
 |nil=>rfl
 |cons b r A=>simp only[List.foldl_cons];rw[if_neg nK];exact A a h
theorem M9(ds:List UInt8)(a:Nat)(h:ds.foldl (λn b=>10*n+(b.toNat - 48)) a<1000000):
  ds.foldl (λn b=>if n<1000000 then 10*n+(b.toNat - 48)else n) a=ds.foldl (λn b=>10*n+(b.toNat - 48)) a:=by
 induction ds generalizing a with
 |nil=>rfl
 |cons b r A=>
  simp only[List.foldl_cons]at h⊢;have C:=M8 r (10*a+(b.toNat - 48));rw[if_pos nK];exact A _ h
theorem Uq(ds:List UInt8)(a:Nat)(h:1000000<=ds.foldl (λn b=>10*n+(b.toNat - 48)) a):
  1000000<=ds.foldl (λn b=>if n<1000000 then 10*n+(b.toNat - 48)else n) a:=by
 induction ds generalizing a with
 |nil=>exact h
 |cons b r A=>
  simp only[List.foldl_cons]at h⊢;by_cases c:a<1000000;.rw[if_pos c];exact A _ h
  .rw[if_neg c,PN _ _ nK];omega
theorem Gr(A:most<1000000)(h:num most l=some q):xV l=some q/\q.1<=most:=by
 unfold num at h;split at h
 .rename_i c
  simp only[j3,decide_eq_true_eq]at c;have e:=M9 (pY l) 0 (show yN (pY l)<1000000 by omega);cases h;unfold xV;rw[if_pos c.1];exact⟨by rw[show zP (pY l)=yN (pY l)from e],c.2⟩
 .cases h
theorem Gs(I:most<1000000)(h:xV l=some q)(A:q.1<=most):num most l=some q:=by
 unfold xV at h;split at h
 .rename_i c
  cases h;have E:yN (pY l)<1000000:=by
   rcases lh (yN (pY l)) 1000000 with C|C
   .exact C
   .have:=Uq (pY l) 0 C
    simp only[zP]at A;omega
  have e:zP (pY l)=yN (pY l):=M9 (pY l) 0 E;simp only[e]at A⊢;unfold num;rw[if_pos (by simp[c,A])]
 .cases h
theorem zQ{tail:Nat}{q:List UInt8×Nat}(h:mark l tail=some q):q.1.length<=l.length:=by
 unfold mark at h;split at h;.cases h;simp
 .split at h
  .cases h
  .cases h;exact jL _
theorem PO{Gh:List UInt8->Nat->Option (nL TL×List UInt8×Nat)}{pf:List UInt8->Option (nL TL×List UInt8)}{d:Nat}(hl:∀l y,pf l=some y->y.2.length<l.length)(h:∀l n y,Gh l n=some y->pf l=some (y.1,y.2.1)/\y.2.2+y.1.count=n/\y.1.deep<=d):
  ∀(f g:Nat)(l:List UInt8)(n:Nat)(sub:List (nL TL))(tail:Nat)(y:nL TL×List UInt8×Nat),wV Gh f l n sub tail=some y->(if sub.isEmpty then l else 44::l).length<g->nL.o6 sub<=d->
   (sub=[]->l≠[]/\l.head?≠some 125)->
   pz pf g (if sub.isEmpty then l else 44::l) sub tail=some (y.1,y.2.1)/\y.2.2+y.1.count=n+1+nL.nW sub/\y.1.deep<=d+1:=by
 intro f;induction f with
 |zero=>intro g l n sub tail y A;simp[wV]at A
 |succ f O=>
  intro g l n sub tail y A hg hd h0;cases g with
  |zero=>omega
  |succ g=>
   simp only[wV,kr]at A;obtain⟨q,J,x,Q,A⟩:=A;obtain⟨hp,hc,BK⟩:=h _ _ _ Q;have hlen:=hl _ _ hp;have U:=zQ J;simp only at hlen;have C:pz pf (g+1) (if sub.isEmpty then l else 44::l) sub tail=pz pf g x.2.1 (sub++[x.1]) q.2:=by
    cases hs:sub.isEmpty with
    |true=>
     have:=h0 (List.isEmpty_iff.1 hs);cases l with
     |nil=>simp at this
     |cons b r=>
      have hb:b≠125:=by simpa using this.2
      simp only[if_true,pz,if_neg hb,hs,kF,J,hp]
    |false=>simp[pz,hs,J,hp]
   have V:l.length<=g:=by split at hg<;>simp_all<;>omega
   rw[C];have E:nL.nW (sub++[x.1])=nL.nW sub+x.1.count:=by simp[nL.rZ,nL.nW]
   have N:nL.o6 (sub++[x.1])<=d:=by rw[nL.wB];simp[nL.o6];omega
   split at A
   .rename_i r e
    cases A;rw[e]at hlen⊢;simp only[kD]at hlen;cases g with
    |zero=>omega
    |succ g=>
     refine⟨by simp[pz],?_,?_⟩;.simp only[nL.count,E];omega
     .simp only[nL.deep];omega
   .rename_i r e
    rw[e]at hlen⊢;simp only[kD]at hlen;have I:(sub++[x.1]).isEmpty=false:=nR;have:=O g r x.2.2 (sub++[x.1]) q.2 y A (by rw[I];simp;omega) N (λe=>by simp at e);rw[I]at this;simp only[lF,if_false]at this;refine⟨this.1,?_,this.2.2⟩;rw[this.2.1,E];omega
   .cases A
theorem Na(l:List UInt8):(past l).length<=l.length:=by
 induction l with
 |nil=>simp[past]
 |cons b r A=>simp only[past];split<;>simp_all;omega
theorem sI(h:xV l=some q):q.2.length<=l.length:=by
 unfold xV at h;split at h;.cases h;exact Na l
 .cases h
theorem KA{pf:List UInt8->Option (nL TL×List UInt8)}(hl:∀l y,pf l=some y->y.2.length<l.length):
  ∀(g:Nat)(l:List UInt8)(sub:List (nL TL))(tail:Nat)(y:nL TL×List UInt8),pz pf g l sub tail=some y->y.2.length<l.length:=by
 intro g;induction g with
 |zero=>intro l sub tail y h;simp[pz]at h
 |succ g C=>
  intro l sub tail y h;cases l with
  |nil=>simp[pz]at h
  |cons b r=>
   simp only[pz]at h;split at h;.cases h;simp
   .simp only[kr]at h
    obtain⟨E,A,q,I,x,J,N⟩:=h;have O:=C _ _ _ _ N;have a2:=hl _ _ J;have a3:=zQ I;have a4:E.length<=(b::r).length:=by
     split at A;.cases A;exact jL _
     .split at A
      .cases A;simp
      .cases A
    omega
theorem D5:∀(d:Nat)(l:List UInt8)(y:nL TL×List UInt8),ps d l=some y->y.2.length<l.length:=by
 intro d;induction d with
 |zero=>intro l y h;simp[ps]at h
 |succ d I=>
  intro l y h;cases l with
  |nil=>simp[ps]at h
  |cons b r=>
   simp only[ps]at h;split at h
   .simp only[kr]at h
    obtain⟨q,C,A⟩:=h;have:=sI C;split at A;.cases A;simp;omega
    .cases A
   split at h
   .simp only[kr]at h
    obtain⟨q,C,A⟩:=h;have:=sI C;cases A;simp;omega
   split at h
   .simp only[kr]at h
    obtain⟨q,C,A⟩:=h;have:=sI C;cases A;simp;omega
   split at h
   .simp only[kr]at h
    obtain⟨x,C,A⟩:=h;have J:=I _ _ C;split at A
    .rename_i r2 e
     simp only[kr]at A;obtain⟨q,N,E⟩:=A;have a2:=sI N;rw[e]at J;split at E
     .rename_i r4 e4
      cases E;rw[e4]at a2;simp only[kD]at J a2⊢;omega
     .cases E
    .cases A
   split at h
   .have:=KA I _ _ _ _ _ h
    simp only[kD];omega
   .cases h
theorem WU(h:p:=by
 rename_i e;rw[if_pos e];simp only[kr]at h;obtain⟨q,h1,h2⟩:=h;obtain⟨h3,_⟩:=Gr nN h1;cases h2;rw[h3];refine⟨rfl,?_,?_⟩<;>simp[nL.count,nL.nW,nL.deep,nL.o6];omega):p:=h
theorem WV:∀(d:Nat)(l:List UInt8)(n:Nat)(y:nL TL×List UInt8×Nat),rd d l n=some y->ps d l=some (y.1,y.2.1)/\y.2.2+y.1.count=n/\y.1.deep<=d:=by
 intro d;induction d with
 |zero=>intro l n y h;simp[rd]at h
 |succ d A=>
  intro l n y h;simp only[rd]at h;split at h;.cases h
  rename_i hn;cases l with
  |nil=>simp at h
  |cons b r=>
   simp only at h;simp only[ps];split at h
   .rename_i e
    rw[if_pos e];simp only[kr]at h;obtain⟨q,h1,h2⟩:=h;obtain⟨h3,_⟩:=Gr nN h1;rw[h3];split at h2
    .rename_i c
     cases h2;simp only[kF,if_pos c];refine⟨by first|trivial|rfl,?_,?_⟩<;>simp[nL.count,nL.nW,nL.deep,nL.o6];omega
    .cases h2
   rename_i e1;rw[if_neg e1];split at h;.exact WU
   rename_i e2;rw[if_neg e2];split at h;.exact WU
   rename_i e3;rw[if_neg e3];split at h
   .rename_i e
    rw[if_pos e];simp only[kr]at h;obtain⟨x,h1,h2⟩:=h;obtain⟨J,Q,U⟩:=A _ _ _ h1;rw[J];simp only[kF];split at h2
    .rename_i r2 e2
     simp only[kr]at h2;obtain⟨q,h3,C⟩:=h2;obtain⟨N,_⟩:=Gr nN h3;simp only[N,kF];split at C
     .rename_i r4 e4
      cases C;refine⟨by first|trivial|rfl,?_,?_⟩;.simp[nL.count,nL.nW];omega
      .simp[nL.deep,nL.o6];omega
     .cases C
    .cases h2
   rename_i e4;rw[if_neg e4];split at h
   .rename_i e
    rw[if_pos e];split at h
    .rename_i r1
     cases h;refine⟨by simp[pz],?_,?_⟩<;>simp[nL.count,nL.nW,nL.deep,nL.o6];omega
    .rename_i I
     have O:r≠[]:=by
      rintro rfl;simp only[wV,mark,Nat.lt_irrefl,if_false,kF,kr]at h;obtain⟨x,h1,_⟩:=h;have:=D5 _ _ _ (A _ _ _ h1).1;simp at this
     have:=PO (D5 d) (λl n y=>A l n y) (n+1) (r.length+1) r (n - 1) [] 0 y h nR (by simp[nL.o6]) (λ_=>⟨O,λE=>by
      cases r with
      |nil=>simp at E
      |cons c t=>simp at E;exact I t (by rw[E])⟩)
     simp only[List.isEmpty_nil,if_true]at this;refine⟨this.1,?_,this.2.2⟩;have:=this.2.1;simp only[nL.nW]at this;omega
   .cases h
theorem Ur{pf:List UInt8->Option (nL TL×List UInt8)}:∀(g:Nat)(l:List UInt8)(sub:List (nL TL))(tail:Nat)(y:nL TL×List UInt8),pz pf g l sub tail=some y->
  ∃s t,y.1=.node ⟨5,0,t⟩ (sub++s):=by
 intro g;induction g with
 |zero=>intro l sub tail y h;simp[pz]at h
 |succ g A=>
  intro l sub tail y h;cases l with
  |nil=>simp[pz]at h
  |cons b r=>
   simp only[pz]at h;split at h;.cases h;exact⟨[],tail,nR⟩
   .simp only[kr]at h
    obtain⟨E,I,q,J,x,N,C⟩:=h;obtain⟨s,t,e⟩:=A _ _ _ _ C;exact⟨x.1::s,t,by rw[e];simp⟩
theorem PQ{Gh:List UInt8->Nat->Option (nL TL×List UInt8×Nat)}{pf:List UInt8->Option (nL TL×List UInt8)}(h:∀l n y,pf l=some y->y.1.all oG=true->y.1.count<=n->Gh l n=some (y.1,y.2,n - y.1.count)):
  ∀(g f:Nat)(l:List UInt8)(n:Nat)(sub:List (nL TL))(tail:Nat)(y:nL TL×List UInt8),pz pf g (if sub.isEmpty then l else 44::l) sub tail=some y->
   y.1.all oG=true->y.1.count<=n+1+nL.nW sub->n<f->(sub=[]->l.head?≠some 125)->wV Gh f l n sub tail=some (y.1,y.2,n+1+nL.nW sub - y.1.count):=by
 intro g;induction g with
 |zero=>intro f l n sub tail y A;simp[pz]at A
 |succ g U=>
  intro f l n sub tail y A E hc ag h0;cases f with
  |zero=>omega
  |succ f=>
   obtain⟨q,V,x,Y,hy2⟩:∃q,mark l tail=some q/\∃x,pf q.1=some x/\pz pf g x.2 (sub++[x.1]) q.2=some y:=by
    cases hs:sub.isEmpty with
    |true=>
     have Z:=h0 (List.isEmpty_iff.1 hs);rw[hs]at A;simp only[if_true]at A;cases l with
     |nil=>simp[pz]at A
     |cons b r=>
      have hb:b≠125:=by simpa using Z
      simp only[pz,if_neg hb,hs,if_true,kF,kr]at A;exact A
    |false=>
     rw[hs]at A;simp only[lF,if_false,pz,hs,if_true,kr,if_neg (show(44:UInt8)≠125 by decide)]at A;obtain⟨aa,e1,A⟩:=A;cases e1;exact A
   obtain⟨s,t,I⟩:=Ur _ _ _ _ _ hy2;have C:nL.nW (sub++[x.1])=nL.nW sub+x.1.count:=by simp[nL.rZ,nL.nW]
   have O:x.1.all oG=true:=by
    rw[I]at E;simp only[nL.all,j3,nL.zK,nL.o7]at E;exact E.2.1.2.1
   have ae:y.1.count=1+(nL.nW sub+x.1.count+nL.nW s):=by rw[I];simp only[nL.count,nL.rZ,C]
   have af:=nL.wH x.1;have Q:=h _ n _ Y O nK;simp only[wV,V,kF,Q];cases g with
   |zero=>simp[pz]at hy2
   |succ g=>
    cases J:x.2 with
    |nil=>rw[J]at hy2;simp[pz]at hy2
    |cons b r=>
     rw[J]at hy2;by_cases c:b=125
     .subst c
      simp only[pz,if_true]at hy2;cases hy2;simp only[nL.count,C];have e:n - x.1.count=n+1+nL.nW sub -(1+(nL.nW sub+x.1.count)):=nK;rw[e]
     .have N:(sub++[x.1]).isEmpty=false:=nR
      have hb:b=44:=by
       simp only[pz,if_neg c,N,lF,if_false,kr]at hy2;obtain⟨aa,e1,_⟩:=hy2;split at e1;.assumption
       .cases e1
      subst hb;have:=U f r (n - x.1.count) (sub++[x.1]) q.2 y (by rw[N];exact hy2) E (by rw[C];omega) nK (λe=>by simp at e);simp only[this,C];have e:n - x.1.count+1+(nL.nW sub+x.1.count) - y.1.count=n+1+nL.nW sub - y.1.count:=nK;rw[e]
theorem BL{k:Int}{m:Nat}{t:Int}{s:List (nL TL)}(h:(nL.node ⟨k,m,t⟩ s).all oG=true):m<=65536/\(k=1->m<=8)/\(k=4->m<=1024):=by
 simp only[nL.all,oG,qz,j3,decide_eq_true_eq]at h;omega
theorem WW(h:p:=by
 rename_i e;rw[if_pos e];simp only[kr]at h;obtain⟨q,h1,h2⟩:=h;cases h2;rw[Gs (most:=65536) nN h1 (BL hr).1];simp[nL.count,nL.nW]):p:=h
theorem a5Q:∀(d:Nat)(l:List UInt8)(n:Nat)(y:nL TL×List UInt8),ps d l=some y->y.1.all oG=true->y.1.count<=n->rd d l n=some (y.1,y.2,n - y.1.count):=by
 intro d;induction d with
 |zero=>intro l n y h;simp[ps]at h
 |succ d I=>
  intro l n y h hr hc;have hy1:=nL.wH y.1;simp only[rd];rw[if_neg nK];cases l with
  |nil=>simp[ps]at h
  |cons b r=>
   simp only;simp only[ps]at h;split at h
   .rename_i e
    rw[if_pos e];simp only[kr]at h;obtain⟨q,h1,h2⟩:=h;split at h2
    .rename_i c
     cases h2;have:=(BL hr).2.1 rfl;rw[Gs (most:=64) nN h1 nK];simp only[kF,if_pos c];simp[nL.count,nL.nW]
    .cases h2
   rename_i e1;rw[if_neg e1];split at h;.exact WW
   rename_i e2;rw[if_neg e2];split at h;.exact WW
   rename_i e3;rw[if_neg e3];split at h
   .rename_i e
    rw[if_pos e];simp only[kr]at h;obtain⟨x,h1,h2⟩:=h;split at h2
    .rename_i r2 e2
     simp only[kr]at h2;obtain⟨q,C,E⟩:=h2;split at E
     .rename_i r4 e4
      cases E;have J:x.1.all oG=true:=by
       simp only[nL.all,nL.o7,j3]at hr;exact hr.2.1
      simp only[nL.count,nL.nW]at hc;rw[I _ (n - 1) _ h1 J nK];simp only[kF,e2,Gs (most:=1024) nN C ((BL hr).2.2 rfl),e4];simp only[nL.count,nL.nW];have e:n - 1 - x.1.count=n -(1+(x.1.count+0)):=nK;rw[e]
     .cases E
    .cases h2
   rename_i e4;rw[if_neg e4];split at h
   .rename_i e
    rw[if_pos e];cases r with
    |nil=>simp[pz]at h
    |cons c r=>
     by_cases A:c=125
     .subst A
      simp only[pz,if_true]at h;cases h;simp[nL.count,nL.nW]
     .have:=PQ (Gh:=rd d) (pf:=ps d) (λl n y h1 h2 C=>I l n y h1 h2 C) ((c::r).length+1) (n+1) (c::r) (n - 1) [] 0 y h hr (by simp only[nL.nW];omega) nK (λ_=>by simpa using A)
      have e5:n - 1+1+nL.nW ([]:List (nL TL)) - y.1.count=n - y.1.count:=by simp only[nL.nW];omega
      rw[e5]at this;split
      .rename_i r1 N
       simp at N;exact absurd N.1 A
      .exact this
   .cases h
def xu(l:List UInt8):Option (nL TL):=match rd 8 l 64 with
 |some (x,[],_)=>if pX x then some x else none
 |_=>none
def BM(l:List UInt8):Option (nL TL):=match ps 8 l with
 |some (x,[])=>if pX x then some x else none
 |_=>none
theorem Jn(l:List UInt8):xu l=BM l:=by
 unfold xu BM;cases h:rd 8 l 64 with
 |some y=>
  obtain⟨x,r,n⟩:=y;rw[(WV _ _ _ _ h).1];cases r<;>rfl
 |none=>
  cases C:ps 8 l with
  |none=>rfl
  |some y=>
   obtain⟨x,r⟩:=y;cases r with
   |cons _ _=>rfl
   |nil=>
    simp only;cases A:pX x with
    |false=>rfl
    |true=>
     simp only[pX,j3,decide_eq_true_eq]at A;rw[a5Q _ _ 64 _ C A.2 A.1.1]at h;cases h
end
section
open Go.RowKit
def a8z:Nat->Prop:=λ_=>True
abbrev oL(w:jJ)(v:jP)(s:List (nL TL)):Prop:=oh.nX w a8z v s
theorem oL.slice{s:List (nL TL)}(h:oL w v s):∃oa cap,v=nk oa s.length cap/\s.length<=cap/\cap<=j5:=by
 obtain⟨oa,cap,A,C,E,_⟩:=h;exact⟨oa,cap,A,C,E⟩
theorem oL.at_{n cap:Nat}{s:List (nL TL)}(h:oL w (nk oa n cap) s){x:nL TL}(A:s[i]? =some x):
  ∃b off u,oa=some ⟨b,off,none⟩/\b<w.heap.size/\w.cell? ⟨b,off+i*4,none⟩=some (ng nH x.lab.kind)/\w.cell? ⟨b,off+i*4+1,none⟩=some (ng nH x.lab.size)/\
   w.cell? ⟨b,off+i*4+2,none⟩=some u/\w.cell? ⟨b,off+i*4+3,none⟩=some (ng nH x.lab.tail)/\oL w u x.sub/\TL.wf x.lab:=by
 obtain⟨J,C,E,N,O,I⟩:=h.get;cases E;obtain⟨b,off,u,e,hb,_,ho,hc,hs⟩:=I i x A;exact⟨b,off,u,e,hb,by simpa [oh,kP]using hc 0 nN,by simpa [oh,kP]using hc 1 nN,by simpa [oh,kP]using hc 2 nN,by simpa [oh,kP]using hc 3 nN,hs,ho⟩
theorem uN{t:ko}{k z l:Int}{s:List (nL TL)}(h:oL w v s):
  ∀W,w.alloc (nG #[ng nH k,ng nH z,v,ng nH l] t)=W->jS w.heap.size w W/\oL W v s/\W.heap.size=w.heap.size+1/\
   W.cell? ⟨w.heap.size,0,none⟩=some (ng nH k)/\W.cell? ⟨w.heap.size,1,none⟩=some (ng nH z)/\W.cell? ⟨w.heap.size,2,none⟩=some v/\W.cell? ⟨w.heap.size,3,none⟩=some (ng nH l):=by
 rintro W rfl;have A:=(jT w.heap.size w).alloc (jL _) (nG #[ng nH k,ng nH z,v,ng nH l] t);have hB:=nO.new w #[ng nH k,ng nH z,v,ng nH l] t;exact⟨A,h.below A,nR,hB.cell 0,hB.cell 1,hB.cell 2,hB.cell 3⟩
theorem RN(h:p:=by
 have HF:jW (jS g w wr):=jH (H1.1.trans (hbe.mono nK));go_wp2_with fail;go_returns;exact⟨rfl,HF.out⟩):p:=h
theorem Us(x:nL TL):∀(w:jJ)(v:jP),oL w v x.sub->x.count<=1000->
  jV jI 79 #[nC #[ng nH x.lab.kind,ng nH x.lab.size,v,ng nH x.lab.tail]] w λe w'=>e=nE (ng nH (x.count:Nat))/\jS w.heap.size w w':=by
 induction x using nL.ind with
 |h a s aa=>
  intro w v E hc;simp only[nL.qx,nL.oQ,nL.count]at E hc⊢;obtain⟨oa,cap,rfl,Q,ae⟩:=oL.slice E;obtain⟨g,hg⟩:=nT w.heap.size;have I:=jH (uN (k:=a.kind) (z:=a.size) (l:=a.tail) (t:=63) E);have J:=nL.sO s;obtain⟨M,U⟩:=nT s.length;have V:=jH U;have au:=jH aa;obtain⟨C,Y⟩:=nT (nL.nW s);have af:=jH Y;rw[hg]at I⊢;rw[U]at I J⊢;rw[Y]at hc J⊢;clear E Q ae aa U Y;go_in;go_upto_region 1 with fail;generalize w.alloc (nG #[ng nH a.kind,ng nH a.size,nk oa M cap,ng nH a.tail] 63)=w1 at*;obtain⟨N,ht1,hsz,c0,c1,c2,c3⟩:=I.out _ rfl;have H1:=jH (jU N ht1);clear I N ht1 c0 c1 c3;go_wp2_with fail;go_loopw [3,4] (λav iv ax=>∃k:Nat,iv=ng nH k/\k<=M/\av=ng nH ((1+nL.nW (s.take k):Nat):Int)/\jW (jS (g+1) w1 ax)) (λ_ iv _=>M -(kW iv).toNat);case atStart=>exact⟨0,rfl,nK,by simp[nL.nW],jH (jT _ _)⟩
  case round=>
   obtain⟨k,rfl,hk,rfl,hbe⟩:=hrel;have az:wr.cell? ⟨g,2,none⟩=some (nk oa M cap):=(hbe.cell (p:=⟨g,2,none⟩) (lM g)).trans c2;by_cases c:k<M
   .obtain⟨aA,y,Z⟩:∃h:k<s.length,∃y,s[k]? =some y:=⟨by rw[V.out];exact c,_,jX (by rw[V.out];exact c)⟩
    obtain⟨b,off,u,rfl,hlt,aB,aC,y2,aD,ag,ah⟩:=oL.at_ (Shape.nX.below H1.2 (hsz▸hbe.out)) Z;have ay:=jH (au y (kT Z) wr u ag);have A:nL.nW (s.take (k+1))=nL.nW (s.take k)+y.count:=nL.vO Z;have O:=nL.uL s (k+1);rw[af.out]at O;have ai:=jH A;rw[A]at O;generalize nL.nW (s.take k)=aF at*;clear ag ah A;go_wp2_with fail;refine(ay nK).mono ?_;rintro e w2 ⟨rfl,aj⟩;go_wp2_with fail;go_roundw;case rel=>exact⟨k+1,by go_num,nK,by rw[ai.out];go_num,jH (hbe.trans (aj.mono (by have:=hbe.size;omega)))⟩
    case measure=>simp[kW];omega
   .obtain rfl:k=M:=nK
    have ak:s.take k=s:=by rw[<-V.out,l9]
    rw[ak,af.out];exact RN
theorem nL.uO:∀ x:nL α,x.deep<=x.count:=by
 intro x;induction x using nL.ind with
 |h a s C=>
  simp only[nL.deep,nL.count];have:∀t:List (nL α),(∀x,x∈t->x.deep<=x.count)->nL.o6 t<=nL.nW t:=by
   intro t;induction t with
   |nil=>intro _;simp[nL.o6]
   |cons y ys A=>
    intro h;have I:=h y (List.mem_cons_self ..);have J:=A λz E=>h z (List.mem_cons_of_mem _ E)
    simp only[nL.o6,nL.nW];omega
  have:=this s C;omega
theorem nL.WX(s:List (nL α)):nL.o6 s<=nL.nW s:=by
 have:=nL.uO (nL.node (α:=Unit) () []);induction s with
 |nil=>simp[nL.o6]
 |cons y ys A=>
  have:=nL.uO y;simp only[nL.o6,nL.nW];omega
theorem nL.vF(s:List (nL α))(i:Nat):nL.o6 (s.take i)<=nL.o6 s:=by
 conv=>rhs;rw[<-mQ i s,nL.wB]
 exact Nat.le_max_left _ _
theorem WY(x:nL TL):∀(w:jJ)(v:jP),oL w v x.sub->x.count<=1000->
  jV jI 80 #[nC #[ng nH x.lab.kind,ng nH x.lab.size,v,ng nH x.lab.tail]] w λe w'=>e=nE (ng nH (x.deep:Nat))/\jS w.heap.size w w':=by
 induction x using nL.ind with
 |h a s aj=>
  intro w v I hc;simp only[nL.qx,nL.oQ,nL.count,nL.deep]at I hc⊢;obtain⟨oa,cap,rfl,Z,ak⟩:=oL.slice I;obtain⟨g,hg⟩:=nT w.heap.size;have J:=jH (uN (k:=a.kind) (z:=a.size) (l:=a.tail) (t:=63) I);have O:=nL.sO s;obtain⟨M,aa⟩:=nT s.length;have ae:=jH aa;have aC:=jH aj;obtain⟨C,af⟩:=nT (nL.nW s);have aD:=jH af;obtain⟨D,ag⟩:=nT (nL.o6 s);have au:=jH ag;have Q:=nL.WX s;rw[hg]at J⊢;rw[aa]at J O⊢;rw[af]at hc O Q;rw[ag]at Q⊢;clear I Z ak aj aa af ag;go_in;go_upto_region 1 with fail;generalize w.alloc (nG #[ng nH a.kind,ng nH a.size,nk oa M cap,ng nH a.tail] 63)=w1 at*;obtain⟨U,ht1,hsz,c0,c1,c2,c3⟩:=J.out _ rfl;have H1:=jH (jU U ht1);clear J U ht1 c0 c1 c3;go_wp2_with fail;go_loopw [3,4,5] (λaF iv aK aG=>∃k:Nat,iv=ng nH k/\k<=M/\aF=ng nH (nL.o6 (s.take k):Nat)/\jW (jS (g+1) w1 aG)) (λ_ iv _ _=>M -(kW iv).toNat);case atStart=>exact⟨0,rfl,nK,by simp[nL.o6],jH (jT _ _)⟩
  case round=>
   obtain⟨k,rfl,hk,rfl,hbe⟩:=hrel;have aI:wr.cell? ⟨g,2,none⟩=some (nk oa M cap):=(hbe.cell (p:=⟨g,2,none⟩) (lM g)).trans c2;by_cases c:k<M
   .obtain⟨aJ,y,N⟩:∃h:k<s.length,∃y,s[k]? =some y:=⟨by rw[ae.out];exact c,_,jX (by rw[ae.out];exact c)⟩
    obtain⟨b,off,u,rfl,hlt,aL,aM,y2,aN,av,ax⟩:=oL.at_ (Shape.nX.below H1.2 (hsz▸hbe.out)) N;have ay:=nL.BJ (kT N);rw[aD.out]at ay;have az:=jH (aC y (kT N) wr u av nK);have E:nL.o6 (s.take (k+1))=max (nL.o6 (s.take k)) y.deep:=nL.yM N;have aA:=nL.vF s (k+1);rw[au.out,E]at aA;have V:=jH E;generalize nL.o6 (s.take k)=ah at*;generalize y.deep=ai at*;have Y:jW (∀w2,jS wr.heap.size wr w2->jS (g+1) w1 w2):=jH λw2 A=>hbe.trans (A.mono (by have:=hbe.size;omega))
    clear av ax E;by_cases cd:ah<ai
    .have aH:decide ((ah:Int)<ai)=true:=nQ
     go_wp2_with fail;refine(az).mono ?_;rintro e w2 ⟨rfl,A⟩;go_wp2_with fail;go_roundw;case rel=>exact⟨k+1,by go_num,nK,by rw[V.out,Nat.max_eq_right nK],jH (Y _ A)⟩
     case measure=>simp[kW];omega
    .have aH:decide ((ah:Int)<ai)=false:=nQ
     go_wp2_with fail;refine(az).mono ?_;rintro e w2 ⟨rfl,A⟩;go_wp2_with fail;go_roundw;case rel=>exact⟨k+1,by go_num,nK,by rw[V.out,Nat.max_eq_left nK],jH (Y _ A)⟩
     case measure=>simp[kW];omega
   .obtain rfl:k=M:=nK
    have aB:s.take k=s:=by rw[<-ae.out,l9]
    rw[aB,au.out];exact RN
theorem ET(z c:Int):((z==c)=true/\jW (z=c))\/((z==c)=false/\jW (z≠c)):=by
 exact Kz
theorem AP(a b:Int):(decide (a<=b)=true/\jW (a<=b))\/(decide (a<=b)=false/\jW (b<a)):=by
 by_cases h:a<=b;.exact .inl ⟨by simp[h],h⟩
 .exact .inr ⟨by simp[h],by unfold jW;omega⟩
theorem WZ(k:Int):k=1\/k=2\/k=3\/k=4\/k=5\/((k==1)=false/\(k==2)=false/\(k==3)=false/\(k==4)=false/\(k==5)=false/\jW (k≠1/\k≠2/\k≠3/\k≠4/\k≠5)):=by
 by_cases A:k=1;.exact .inl A
 by_cases C:k=2;.exact .inr (.inl C)
 by_cases E:k=3;.exact .inr (.inr (.inl E))
 by_cases I:k=4;.exact .inr (.inr (.inr (.inl I)))
 by_cases J:k=5;.exact .inr (.inr (.inr (.inr (.inl J))))
 .exact .inr (.inr (.inr (.inr (.inr ⟨by simp[A],by simp[C],by simp[E],by simp[I],by simp[J],A,C,E,I,J⟩))))
theorem a3v(z:Int):z=1\/z=2\/z=4\/z=8\/((z==1)=false/\(z==2)=false/\(z==4)=false/\(z==8)=false/\jW (z≠1/\z≠2/\z≠4/\z≠8)):=by
 by_cases A:z=1;.exact .inl A
 by_cases C:z=2;.exact .inr (.inl C)
 by_cases E:z=4;.exact .inr (.inr (.inl E))
 by_cases I:z=8;.exact .inr (.inr (.inr (.inl I)))
 .exact .inr (.inr (.inr (.inr ⟨by simp[A],by simp[C],by simp[E],by simp[I],A,C,E,I⟩)))
theorem Ut(x:nL TL):∀(w:jJ)(v:jP),oL w v x.sub->x.count<=1000->
  jV jI 81 #[nC #[ng nH x.lab.kind,ng nH x.lab.size,v,ng nH x.lab.tail]] w λe w'=>e=nE (nA (x.all oG))/\jS w.heap.size w w':=by
 induction x using nL.ind with
 |h a s aK=>
  intro w v af hc;obtain⟨kind,size,tail⟩:=a;simp only[nL.qx,nL.oQ,nL.count]at af hc⊢;obtain⟨oa,cap,rfl,aA,aL⟩:=oL.slice af;obtain⟨g,hg⟩:=nT w.heap.size;have ag:=jH (uN (k:=kind) (z:=size) (l:=tail) (t:=63) af);have au:=nL.sO s;have aM:jW ((nL.node ⟨kind,size,tail⟩ s).all oG=(qz ⟨kind,size,tail⟩ s.length&&nL.o7 oG s)):=jH rfl;obtain⟨M,aB⟩:=nT s.length;have aC:=jH aB;have aZ:=jH aK;obtain⟨C,aD⟩:=nT (nL.nW s);have bg:=jH aD;obtain⟨A,aF⟩:=nT (nL.o7 oG s);have aN:=jH aF;rw[aM.out];clear aM;rw[hg]at ag⊢;rw[aB]at ag au⊢;rw[aD]at hc au;rw[aF];clear af aA aL aK aB aD aF;go_in;go_upto_region 1 with fail;generalize w.alloc (nG #[ng nH kind,ng nH size,nk oa M cap,ng nH tail] 63)=w1 at*;obtain⟨av,ht1,hsz,c0,c1,c2,c3⟩:=ag.out _ rfl;have aO:=jH (jU av ht1);clear ag av ht1;go_upto_block 0 with fail;go_cut [3] (λsv bq=>sv=nA (qz ⟨kind,size,tail⟩ M)/\bq=w1);case first=>
   have E:=ET (M:Int) 0;have e1:=ET (M:Int) 1;have t0:=ET tail 0;have V:=AP (M:Int) 16;have aG:=AP 0 tail;have tl:=AP tail (M:Int);rcases WZ kind with rfl|rfl|rfl|rfl|rfl|⟨bF,bG,bH,bI,bJ,bu⟩
   .rcases a3v size with rfl|rfl|rfl|rfl|⟨bK,bL,z3,z4,bz⟩<;>rcases E with⟨E,I⟩|⟨E,I⟩<;>rcases t0 with⟨t0,J⟩|⟨t0,J⟩
    all_goals (go_wp2_with fail;go_meet;refine⟨congrArg Value.bool ?_,rfl⟩;have ah:=I.out;have ai:=J.out;(try (have aj:=bz.out));unfold qz;symm;first|(apply decide_eq_true;dsimp only;omega)|(apply decide_eq_false;dsimp only;omega))
   .rcases AP 1 size with⟨Y,N⟩|⟨Y,N⟩<;>rcases AP size 65536 with⟨Z,O⟩|⟨Z,O⟩<;>rcases E with⟨E,I⟩|⟨E,I⟩<;>rcases t0 with⟨t0,J⟩|⟨t0,J⟩
    all_goals (go_wp2_with fail;go_meet;refine⟨congrArg Value.bool ?_,rfl⟩;have ah:=I.out;have ai:=J.out;have aj:=N.out;have aH:=O.out;unfold qz;symm;first|(apply decide_eq_true;dsimp only;omega)|(apply decide_eq_false;dsimp only;omega))
   .rcases AP 0 size with⟨Y,N⟩|⟨Y,N⟩<;>rcases AP size 65536 with⟨Z,O⟩|⟨Z,O⟩<;>rcases E with⟨E,I⟩|⟨E,I⟩<;>rcases t0 with⟨t0,J⟩|⟨t0,J⟩
    all_goals (go_wp2_with fail;go_meet;refine⟨congrArg Value.bool ?_,rfl⟩;have ah:=I.out;have ai:=J.out;have aj:=N.out;have aH:=O.out;unfold qz;symm;first|(apply decide_eq_true;dsimp only;omega)|(apply decide_eq_false;dsimp only;omega))
   .rcases AP 0 size with⟨Y,N⟩|⟨Y,N⟩<;>rcases AP size 1024 with⟨Z,O⟩|⟨Z,O⟩<;>rcases e1 with⟨E,I⟩|⟨E,I⟩<;>rcases t0 with⟨t0,J⟩|⟨t0,J⟩
    all_goals (go_wp2_with fail;go_meet;refine⟨congrArg Value.bool ?_,rfl⟩;have ah:=I.out;have ai:=J.out;have aj:=N.out;have aH:=O.out;unfold qz;symm;first|(apply decide_eq_true;dsimp only;omega)|(apply decide_eq_false;dsimp only;omega))
   .rcases ET size 0 with⟨z0,aP⟩|⟨z0,aP⟩<;>rcases V with⟨V,ax⟩|⟨V,ax⟩<;>rcases aG with⟨aG,aQ⟩|⟨aG,aQ⟩<;>rcases tl with⟨tl,ay⟩|⟨tl,ay⟩
    all_goals (go_wp2_with fail;go_meet;refine⟨congrArg Value.bool ?_,rfl⟩;have ah:=aP.out;have ai:=ax.out;have aj:=aQ.out;have aH:=ay.out;unfold qz;symm;first|(apply decide_eq_true;dsimp only;omega)|(apply decide_eq_false;dsimp only;omega))
   .go_wp2_with fail
    go_meet;exact⟨congrArg Value.bool (by have:=bu.out;simp[qz];omega),rfl⟩
  case rest=>
   obtain⟨rfl,rfl⟩:=hcut;clear c0 c1 c3;obtain⟨R,aI⟩:∃R,qz ⟨kind,size,tail⟩ M=R:=⟨_,rfl⟩;have az:=jH aI;rw[aI];clear aI;go_wp2_with fail;go_loopw [3,5] (λbv iv bA=>∃(k:Nat) (b:Bool),iv=ng nH k/\k<=M/\bv=nA b/\jW (b=(R&&nL.o7 oG (s.take k)))/\jW (jS (g+1) wc bA)) (λ_ iv _=>M -(kW iv).toNat);case atStart=>exact⟨0,R,rfl,nK,rfl,by simp[jW,nL.o7],jH (jT _ _)⟩
   case round=>
    obtain⟨k,b,rfl,hk,rfl,aR,Q⟩:=hrel;have bD:wr.cell? ⟨g,2,none⟩=some (nk oa M cap):=(Q.cell (p:=⟨g,2,none⟩) (lM g)).trans c2;have aS:jW (jS g w wr):=jH (aO.1.trans (Q.mono nK));have aa:jW (k=M\/b=false->b=(R&&A)):=jH λh=>by
     have U:=aR.out;rcases h with h|h
     .have aT:s.take k=s:=by rw[h,<-aC.out,l9]
      rw[aT,aN.out]at U;exact U
     .have bB:nL.o7 oG s=(nL.o7 oG (s.take k)&&nL.o7 oG (s.drop k)):=by
       rw[<-nL.zK,mQ]
      rw[<-aN.out,bB,h];rw[h]at U;revert U;cases R<;>cases nL.o7 oG (s.take k)<;>simp
    by_cases c:k<M
    .cases b with
     |true=>
      obtain⟨bE,y,ak⟩:∃h:k<s.length,∃y,s[k]? =some y:=⟨by rw[aC.out];exact c,_,jX (by rw[aC.out];exact c)⟩;obtain⟨bM,off,u,rfl,hlt,bN,bO,y2,bP,aU,aV⟩:=oL.at_ (Shape.nX.below aO.2 (hsz▸Q.out)) ak;have aW:=nL.BJ (kT ak);rw[bg.out]at aW;have bC:=jH (aZ y (kT ak) wr u aU nK);have aX:jW (y.all oG=(R&&nL.o7 oG (s.take (k+1)))):=by
       have U:=aR.out;unfold jW;rw[nL.wI ak,<-Bool.and_assoc,<-U];rfl
      have aY:jW (∀w2,jS wr.heap.size wr w2->jS (g+1) wc w2):=jH λw2 ae=>Q.trans (ae.mono (by have:=Q.size;omega))
      clear aU aV;go_wp2_with fail;refine(bC).mono ?_;rintro e w2 ⟨rfl,ae⟩;go_wp2_with fail;go_roundw;case rel=>exact⟨k+1,_,by go_num,nK,rfl,aX,jH (aY _ ae)⟩
      case measure=>simp[kW];omega
     |false=>
      have aJ:=jH (aa (.inr rfl));go_wp2_with fail;go_returns;rw[az.out,<-aJ.out];exact⟨rfl,aS.out⟩
    .obtain rfl:k=M:=nK
     have aJ:=jH (aa (.inl rfl));go_wp2_with fail;go_returns;rw[az.out,<-aJ.out];exact⟨rfl,aS.out⟩
theorem a0K(x:nL TL):pX x=(decide (x.count<=64)&&decide (x.deep<=8)&&x.all oG):=rfl
theorem RO(x:nL TL)(w:jJ)(v:jP)(Y:oL w v x.sub)(hc:x.count<=1000):
  jV jI 47 #[nC #[ng nH x.lab.kind,ng nH x.lab.size,v,ng nH x.lab.tail]] w λe w'=>e=nE (nA (pX x))/\jS w.heap.size w w':=by
 have Z:=jH (uN (k:=x.lab.kind) (z:=x.lab.size) (l:=x.lab.tail) (t:=63) Y);obtain⟨oa,cap,rfl,aa,aj⟩:=oL.slice Y;obtain⟨g,hg⟩:=nT w.heap.size;have ak:=jH (λ(W:jJ) (h:oL W (nk oa x.sub.length cap) x.sub)=>Us x W _ h hc);have aA:=jH (λ(W:jJ) (h:oL W (nk oa x.sub.length cap) x.sub)=>WY x W _ h hc);have aB:=jH (λ(W:jJ) (h:oL W (nk oa x.sub.length cap) x.sub)=>Ut x W _ h hc);have ae:=jH (a0K x);have hd:=nL.uO x;rw[hg]at Z⊢;clear Y aa aj;generalize pX x=R at*;generalize x.count=af at*;generalize x.deep=dn at*;generalize x.all oG=aK at*;generalize x.sub.length=M at*;have O:=AP (af:Int) 64;have d8:=AP (dn:Int) 8;go_in;go_upto_region 1 with fail;generalize w.alloc (nG #[ng nH x.lab.kind,ng nH x.lab.size,nk oa M cap,ng nH x.lab.tail] 63)=w1 at*;obtain⟨U,ht1,hsz,c0,c1,c2,c3⟩:=Z.out _ rfl;have ag:=jH ht1;have aC:=jH U;have au:=jH hsz;clear Z ht1 U hsz;have N:∀w2,jS w1.heap.size w1 w2->jW (jS g w w2/\oL w2 (nk oa M cap) x.sub):=λw2 h=>⟨aC.trans (h.mono (by have:=au.out;omega)),Shape.nX.below ag h⟩
 have N:=jH N;have hlt:g<w1.heap.size:=by have:=au.out;omega
 rcases O with⟨O,Q⟩|⟨O,Q⟩
 .rcases d8 with⟨d8,ah⟩|⟨d8,ah⟩
  all_goals
   go_wp2_with fail;refine(ak _ ag).mono ?_;rintro e w2 ⟨rfl,A⟩;have f2:=N.out _ A;have E:=jH A;have av:=(A.cell (p:=⟨g,0,none⟩) hlt).trans c0;have ax:=(A.cell (p:=⟨g,1,none⟩) hlt).trans c1;have ay:=(A.cell (p:=⟨g,2,none⟩) hlt).trans c2;have az:=(A.cell (p:=⟨g,3,none⟩) hlt).trans c3;have I:g<w2.heap.size:=by have:=A.size;omega
   clear A;go_wp2_with fail;refine(aA _ f2.2).mono ?_;rintro e w3 ⟨rfl,C⟩
  .have J:=jH (E.trans (C.mono E.size))
   have f3:=N.out _ J.out;have aD:=(C.cell (p:=⟨g,0,none⟩) I).trans av;have aF:=(C.cell (p:=⟨g,1,none⟩) I).trans ax;have aG:=(C.cell (p:=⟨g,2,none⟩) I).trans ay;have aH:=(C.cell (p:=⟨g,3,none⟩) I).trans az;clear C;go_wp2_with fail;refine(aB _ f3.2).mono ?_;rintro e w4 ⟨rfl,V⟩;have ai:=jH (f3.1.trans (V.mono (by have:=f3.1.size;omega)));clear V;go_wp2_with fail;go_returns;refine⟨?_,ai.out⟩;have aI:=Q.out;have aJ:=ah.out;rw[ae.out,decide_eq_true (by omega:af<=64),decide_eq_true (by omega:dn<=8)];rfl
  .have J:=jH (E.trans (C.mono E.size))
   have f3:=N.out _ J.out;clear C;go_wp2_with fail;go_returns;refine⟨?_,f3.1⟩;have aJ:=ah.out;rw[ae.out,decide_eq_false (by omega:¬dn<=8),Bool.and_false];rfl
 .go_wp2_with fail
  refine(ak _ ag).mono ?_;rintro e w2 ⟨rfl,A⟩;have f2:=N.out _ A;clear A;go_wp2_with fail;go_returns;refine⟨?_,f2.1⟩;have aI:=Q.out;rw[ae.out,decide_eq_false (by omega:¬af<=64)];rfl
theorem a5R(z c:Int):((z !=c)=false/\jW (z=c))\/((z !=c)=true/\jW (z≠c)):=by
 exact Kz
def RP:Nat->Nat:=λi=>[1,2,4,8].getD i 0
def qo(w:jJ):Prop:=∀i,i<4->w.cell? ⟨1,i,none⟩=some (ng nH (RP i:Nat))
theorem qo.lt(h:qo w):1<w.heap.size:=by
 rcases lh 1 w.heap.size with A|A
 .exact A
 .have:=h 0 nN
  simp[mW,Array.getElem?_eq_none A]at this
theorem qo.below{B:Nat}(h:qo w)(hb:jS B w w')(hB:1<B):qo w':=λi hi=>(hb.cell (p:=⟨_,i,none⟩) hB).trans (h i hi)
theorem qo.upd(h:qo w)(hb:pE b w w')(hB:1≠b):qo w':=λi hi=>by
 rw[World.cell?_of_block (w:=w) (hb.block _ h.lt (by simpa using hB))];exact h i hi
theorem a0L(W:jJ):mi jI (kR 312 (nC #[ng nH 1,ng nH 2,ng nH 4,ng nH 8]) (ng nH 0)) W=.ok (ng nH 1) W:=rfl
theorem a0M(W:jJ):mi jI (kR 312 (nC #[ng nH 1,ng nH 2,ng nH 4,ng nH 8]) (ng nH 1)) W=.ok (ng nH 2) W:=rfl
theorem a0N(W:jJ):mi jI (kR 312 (nC #[ng nH 1,ng nH 2,ng nH 4,ng nH 8]) (ng nH 2)) W=.ok (ng nH 4) W:=rfl
theorem a0O(W:jJ):mi jI (kR 312 (nC #[ng nH 1,ng nH 2,ng nH 4,ng nH 8]) (ng nH 3)) W=.ok (ng nH 8) W:=rfl
theorem KC(h:p:=by
 go_wp2_with fail;go_returns;refine⟨?_,rfl⟩;rw[decide_eq_true (by have:=Z0.out;omega)];rfl):p:=h
theorem PR(z:Int)(w:jJ)(A:qo w):
  jV jI 267 #[ng nH z] w λe w'=>e=nE (nA (decide (z=1\/z=2\/z=4\/z=8)))/\w=w':=by
 have t0:=A 0 nN;have I:=A 1 nN;have J:=A 2 nN;have t3:=A 3 nN;simp only[RP]at t0 I J t3;clear A;go_in;go_wp2_with fail;go_loopw [4,6] (λ_ iv N=>∃k:Nat,iv=ng nH k/\k<=4/\jW (∀i,i<k->z≠(RP i:Nat))/\N=w) (λ_ iv _=>4 -(kW iv).toNat);case atStart=>exact⟨0,rfl,nK,jH (λi hi=>by omega),rfl⟩
 case round=>
  obtain⟨k,rfl,hk,C,rfl⟩:=hrel;have E:k=0\/k=1\/k=2\/k=3\/k=4:=nK;rcases E with rfl|rfl|rfl|rfl|rfl
  case inr.inr.inr.inr=>
   go_wp2_with fail;go_returns;refine⟨?_,rfl⟩;have q:=C.out;have O:=q 0 nN;have Q:=q 1 nN;have U:=q 2 nN;have V:=q 3 nN;simp[RP]at O Q U V;rw[decide_eq_false nK];rfl
  .have hix:=a0L wr
   rcases ET z 1 with⟨z0,Z0⟩|⟨z0,Z0⟩
   .exact KC
   .go_wp2_with fail
    go_roundw;case rel=>exact⟨1,rfl,nK,jH (λi hi=>by
     rcases lh i 0 with h|h
     .exact C i h
     .obtain rfl:i=0:=nK
      exact Z0),by first|trivial|rfl⟩
    case measure=>simp[kW]
  .have hix:=a0M wr
   rcases ET z 2 with⟨z0,Z0⟩|⟨z0,Z0⟩
   .exact KC
   .go_wp2_with fail
    go_roundw;case rel=>exact⟨2,rfl,nK,jH (λi hi=>by
     rcases lh i 1 with h|h
     .exact C i h
     .obtain rfl:i=1:=nK
      exact Z0),by first|trivial|rfl⟩
    case measure=>simp[kW]
  .have hix:=a0N wr
   rcases ET z 4 with⟨z0,Z0⟩|⟨z0,Z0⟩
   .exact KC
   .go_wp2_with fail
    go_roundw;case rel=>exact⟨3,rfl,nK,jH (λi hi=>by
     rcases lh i 2 with h|h
     .exact C i h
     .obtain rfl:i=2:=nK
      exact Z0),by first|trivial|rfl⟩
    case measure=>simp[kW]
  .have hix:=a0O wr
   rcases ET z 8 with⟨z0,Z0⟩|⟨z0,Z0⟩
   .exact KC
   .go_wp2_with fail
    go_roundw;case rel=>exact⟨4,rfl,nK,jH (λi hi=>by
     rcases lh i 3 with h|h
     .exact C i h
     .obtain rfl:i=3:=nK
      exact Z0),by first|trivial|rfl⟩
    case measure=>simp[kW]
theorem PS(A hi z:Int)(g:Nat)(w:jJ)(c1:w.cell? ⟨g,1,none⟩=some (ng nH z)):
  jV jI 266 #[ng nH A,ng nH hi,nz (some ⟨g,0,none⟩)] w λe w'=>e=nE (nA (decide (A<=z/\z<=hi)))/\w=w':=by
 have C:=AP A z;have a2:=AP z hi;rcases C with⟨C,E⟩|⟨C,E⟩<;>rcases a2 with⟨a2,I⟩|⟨a2,I⟩
 all_goals
  go_in;go_wp2_with fail;go_returns;refine⟨?_,rfl⟩;have J:=E.out;have N:=I.out
  first
   |(rw[decide_eq_true (show A<=z/\z<=hi by omega)];rfl)
   |(rw[decide_eq_false (show¬(A<=z/\z<=hi)by omega)];rfl)
theorem RQ(h:p:=by
 unfold qz;symm;first|(apply decide_eq_true;dsimp only;omega)|(apply decide_eq_false;dsimp only;omega)):p:=h
theorem PT(h:p:=by
 rintro e w2 ⟨rfl,rfl⟩;go_wp2_with fail;go_returns;refine⟨congrArg (λb=>lH (nA b)) ?_,H1.out⟩;have q1:=HPT.out (by trivial);unfold qz;dsimp only;rw[Bool.eq_iff_iff];simp only[j3,Bool.or_eq_true,decide_eq_true_eq,false_and,true_and,false_or,or_false];omega):p:=h
theorem PU(h:p:=by
 go_wp2_with fail;go_returns;refine⟨congrArg (λb=>lH (nA b)) ?_,H1.out⟩;have q1:=HPF.out (by trivial);unfold qz;symm;first|(apply decide_eq_true;dsimp only;omega)|(apply decide_eq_false;dsimp only;omega)):p:=h
theorem Uu(a:TL)(oa:Option l5)(M cap:Nat)(w:jJ)(aa:qo w):
  jV jI 240 #[nC #[ng nH a.kind,ng nH a.size,nk oa M cap,ng nH a.tail]] w λe w'=>e=nE (nA (qz a M))/\jS w.heap.size w w':=by
 obtain⟨kind,size,tail⟩:=a;obtain⟨g,hg⟩:=nT w.heap.size;have ag:jW (∀W,w.alloc (nG #[ng nH kind,ng nH size,nk oa M cap,ng nH tail] 63)=W->jS g w W/\qo W/\nO W g #[ng nH kind,ng nH size,nk oa M cap,ng nH tail] 63):=jH λW h=>by
  subst h;have U:=(jT w.heap.size w).alloc (jL _) (nG #[ng nH kind,ng nH size,nk oa M cap,ng nH tail] 63);exact⟨hg▸U,aa.below U aa.lt,hg▸nO.new w _ _⟩
 rw[hg];clear aa;simp only;go_in;go_upto_region 1 with fail;generalize w.alloc (nG #[ng nH kind,ng nH size,nk oa M cap,ng nH tail] 63)=w1 at*;obtain⟨V,ht1,hB⟩:=ag.out _ rfl;have c0:w1.cell? ⟨g,0,none⟩=some (ng nH kind):=hB.cell 0;have c1:w1.cell? ⟨g,1,none⟩=some (ng nH size):=hB.cell 1;have c2:w1.cell? ⟨g,2,none⟩=some (nk oa M cap):=hB.cell 2;have c3:w1.cell? ⟨g,3,none⟩=some (ng nH tail):=hB.cell 3;have H1:=jH V;have ax:=jH ht1;have aj:=jH (PR size w1 ht1);clear ag V ht1 hB;have O:=ET (M:Int) 0;have e1:=ET (M:Int) 1;have t0:=ET tail 0;have C:=AP (M:Int) 16;have Q:=AP 0 tail;have tl:=AP tail (M:Int);have I:=jH (λak hi=>PS ak hi size g w1 c1);go_upto_region 2 with fail;go_cut [4] (λpv au=>pv=nA (decide ((M:Int)=0/\tail=0))/\au=w1);case first=>
  clear C Q tl e1;rcases O with⟨O,ah⟩|⟨O,ah⟩<;>rcases t0 with⟨t0,E⟩|⟨t0,E⟩
  all_goals
   go_wp2_with fail;go_meet;refine⟨congrArg Value.bool ?_,rfl⟩;have q1:=ah.out;have ae:=E.out
   first
    |(rw[decide_eq_true (show(M:Int)=0/\tail=0 by omega)])
    |(rw[decide_eq_false (show¬((M:Int)=0/\tail=0)by omega)])
 case rest=>
 obtain⟨rfl,rfl⟩:=hcut;clear O;obtain⟨p,hp⟩:=nT (decide ((M:Int)=0/\tail=0));have HPT:jW (p=true->(M:Int)=0/\tail=0):=jH λh=>by rw[h]at hp;exact of_decide_eq_true hp
 have HPF:jW (p=false->¬((M:Int)=0/\tail=0)):=jH λh=>by rw[h]at hp;exact of_decide_eq_false hp
 rw[hp];clear hp;rcases WZ kind with rfl|rfl|rfl|rfl|rfl|⟨ay,az,aA,aB,aC,av⟩
 .cases p
  .exact PU
  .go_wp2_with fail
   refine(aj).mono ?_;exact PT
 .have A:=jH (I 1 65536)
  cases p;.exact PU
  .go_wp2_with fail
   refine(A).mono ?_;exact PT
 .have A:=jH (I 0 65536)
  cases p;.exact PU
  .go_wp2_with fail
   refine(A).mono ?_;exact PT
 .have A:=jH (I 0 1024)
  rcases e1 with⟨e1,af⟩|⟨e1,af⟩<;>rcases t0 with⟨t0,E⟩|⟨t0,E⟩
  .go_wp2_with fail
   refine(A).mono ?_;rintro e w2 ⟨rfl,rfl⟩;go_wp2_with fail;go_returns;refine⟨congrArg (λb=>lH (nA b)) ?_,H1.out⟩;have q1:=af.out;have ae:=E.out;unfold qz;dsimp only;rw[Bool.eq_iff_iff];simp only[j3,Bool.or_eq_true,decide_eq_true_eq,false_and,true_and,false_or,or_false];omega
  all_goals
   go_wp2_with fail;go_returns;refine⟨congrArg (λb=>lH (nA b)) ?_,H1.out⟩;have q1:=af.out;have ae:=E.out;unfold qz;symm;first|(apply decide_eq_true;dsimp only;omega)|(apply decide_eq_false;dsimp only;omega)
 .rcases ET size 0 with⟨z0,J⟩|⟨z0,J⟩
  .have N:jW (jV jI 266 #[ng nH 0,ng nH 0,nz (some ⟨g,0,none⟩)] wc λe w'=>e=nE (nA true)/\wc=w'):=jH (by
    have h:=I.out 0 0;rwa [decide_eq_true (show 0<=size/\size<=0 by have:=J.out;omega)]at h)
   rcases C with⟨C,Y⟩|⟨C,Y⟩<;>rcases Q with⟨Q,ai⟩|⟨Q,ai⟩<;>rcases tl with⟨tl,Z⟩|⟨tl,Z⟩
   all_goals
    go_wp2_with fail;refine(N).mono ?_;rintro e w2 ⟨rfl,rfl⟩;go_wp2_with fail;go_returns;refine⟨congrArg (λb=>lH (nA b)) ?_,H1.out⟩;have q1:=J.out;have ae:=Y.out;have aD:=ai.out;have aF:=Z.out;unfold qz;symm;first|(apply decide_eq_true;dsimp only;omega)|(apply decide_eq_false;dsimp only;omega)
  .have N:jW (jV jI 266 #[ng nH 0,ng nH 0,nz (some ⟨g,0,none⟩)] wc λe w'=>e=nE (nA false)/\wc=w'):=jH (by
    have h:=I.out 0 0;rwa [decide_eq_false (show¬(0<=size/\size<=0)by have:=J.out;omega)]at h)
   go_wp2_with fail;refine(N).mono ?_;rintro e w2 ⟨rfl,rfl⟩;go_wp2_with fail;go_returns;refine⟨congrArg (λb=>lH (nA b)) ?_,H1.out⟩;have q1:=J.out;exact RQ
 .go_wp2_with fail
  go_returns;refine⟨congrArg (λb=>lH (nA b)) ?_,H1.out⟩;have q1:=av.out;exact RQ
abbrev zl(b:Nat)(w:jJ)(v:jP)(s:List (nL TL)):Prop:=oh.nX w (λc=>c≠b) v s
theorem zl.upd{s:List (nL TL)}(h:zl b w v s)(A:pE b w w'):zl b w' v s:=
 Shape.nX.keep h A.size (λ_ _ h=>h) λc hc C=>A.block c hc (by simpa using λe=>C (by rw[e]))
theorem zl.of{s:List (nL TL)}(h:oL w v s)(hb:jS w.heap.size w w')(A:w.heap.size<=b):zl b w' v s:=
 Shape.nX.keep h hb.size (λc hc _=>by omega) λc hc _=>hb.block c hc
theorem zl.any{s:List (nL TL)}(h:zl b w v s):oL w v s:=
 Shape.nX.keep h (jL _) (λ_ _ _=>trivial) λ_ _ _=>rfl
theorem zl.at_{bo:Nat}{n cap:Nat}{s:List (nL TL)}(h:zl bo w (nk oa n cap) s){x:nL TL}(A:s[i]? =some x):
  ∃b off u,oa=some ⟨b,off,none⟩/\b<w.heap.size/\b≠bo/\w.cell? ⟨b,off+i*4,none⟩=some (ng nH x.lab.kind)/\w.cell? ⟨b,off+i*4+1,none⟩=some (ng nH x.lab.size)/\
   w.cell? ⟨b,off+i*4+2,none⟩=some u/\w.cell? ⟨b,off+i*4+3,none⟩=some (ng nH x.lab.tail)/\zl bo w u x.sub/\TL.wf x.lab:=by
 obtain⟨N,C,E,O,Q,I⟩:=Shape.nX.get h;cases E;obtain⟨b,off,u,e,hb,J,ho,hc,hs⟩:=I i x A;exact⟨b,off,u,e,hb,J,by simpa [oh,kP]using hc 0 nN,by simpa [oh,kP]using hc 1 nN,by simpa [oh,kP]using hc 2 nN,by simpa [oh,kP]using hc 3 nN,hs,ho⟩
def zR(w:jJ)(b l:Nat):Prop:=nO w b #[ng nH (l:Int)] 3
theorem zR.upd{c l:Nat}(h:zR w b l)(C:pE c w w')(A:b≠c):zR w' b l:=C.blk h A
def Cy(x:nL TL)(d l:Nat):Bool:=decide (d+x.deep<=9)&&decide (x.count<=l)&&x.all oG
def KD(x:nL TL)(d l b:Nat)(w:jJ)(e:Ending)(w':jJ):Prop:=
 e=nE (nA (Cy x d l))/\pE b w w'/\(∃A,A<=64/\zR w' b A)/\(Cy x d l=true->zR w' b (l - x.count))
theorem Xa(x:nL TL):∀(w:jJ)(v:jP)(d l bl:Nat),zl bl w v x.sub->zR w bl l->qo w->1≠bl->1<=d->d<=9->l<=64->
  jV jI 203 #[nC #[ng nH x.lab.kind,ng nH x.lab.size,v,ng nH x.lab.tail],ng nH d,nz (some ⟨bl,0,none⟩)] w (KD x d l bl w):=by
 induction x using nL.ind with
 |h a s bD=>
  intro w v d l bl aF hI aZ aj dB dC hl;simp only[nL.qx,nL.oQ]at aF⊢;obtain⟨oa,cap,rfl,bg,aL⟩:=oL.slice aF.any;obtain⟨g,hg⟩:=nT w.heap.size;have bX:bl<g:=hg▸hI.lt;have bE:s.length<=9223372036854775807:=by unfold j5 at aL;omega
  have A:jW (Cy (.node a s) d l=(decide (d+(nL.o6 s+1)<=9)&&decide (1+nL.nW s<=l)&&(qz a s.length&&nL.o7 oG s))):=jH rfl;have Z:jW (∀e w',e=nE (nA (Cy (.node a s) d l))/\pE bl w w'/\(∃Q,Q<=64/\zR w' bl Q)/\(Cy (.node a s) d l=true->zR w' bl (l -(1+nL.nW s)))->KD (.node a s) d l bl w e w'):=jH λe w' h=>h
  have bq:jW (∀W,w.alloc (nG #[ng nH a.kind,ng nH a.size,nk oa s.length cap,ng nH a.tail] 63)=W->pE bl w W/\zl bl W (nk oa s.length cap) s/\zR W bl l/\qo W/\W.heap.size=g+1/\
    nO W g #[ng nH a.kind,ng nH a.size,nk oa s.length cap,ng nH a.tail] 63):=jH λW h=>by
   subst h;have J:=(jT w.heap.size w).alloc (jL _) (nG #[ng nH a.kind,ng nH a.size,nk oa s.length cap,ng nH a.tail] 63);exact⟨pE.of J,aF.upd (pE.of J),Below.blk J hI hI.lt,aZ.below J aZ.lt,nQ,hg▸nO.new w _ _⟩
  generalize Cy (.node a s) d l=R at*;obtain⟨M,bu⟩:=nT s.length;have bF:=jH bu;have bY:=jH bD;obtain⟨C,bz⟩:=nT (nL.nW s);have bA:=jH bz;obtain⟨D,bB⟩:=nT (nL.o6 s);have bG:=jH bB;rw[bu]at bq bE A⊢;rw[bz]at A Z;rw[bB]at A;clear aF bg aL bD bu bz bB hI aZ;generalize bH:KD (.node a s) d l bl w=bZ at Z⊢;clear bH;go_in;go_upto_region 1 with fail;generalize w.alloc (nG #[ng nH a.kind,ng nH a.size,nk oa M cap,ng nH a.tail] 63)=w1 at*;obtain⟨aM,ht1,ak,au,hsz,hB⟩:=bq.out _ rfl;obtain⟨c0,c1,c2,c3⟩:=hB.a4;have dG:w1.cell? ⟨bl,0,none⟩=some (ng nH l):=ak.cell 0;have bI:=jH hB;clear hB bq;have E:=jH (jU aM (jU ht1 (jU ak au)));have bC:=jH (Uu a oa M cap w1 au);clear aM ht1 ak au;by_cases cd:8<d
  .have cz:decide (8<(d:Int))=true:=nQ
   go_wp2_with fail;refine Z _ _ ⟨?_,E.1,⟨l,hl,E.2.2.1⟩,λh=> ?_⟩;.rw[A.out,decide_eq_false nK];rfl
   .rw[A.out,decide_eq_false nK]at h;simp at h
  have cz:decide (8<(d:Int))=false:=nQ;by_cases cl:l=0
  .have cK:((l:Int)==0)=true:=by simp[cl]
   have bJ:=jH cl;clear cl;go_wp2_with fail;refine Z _ _ ⟨?_,E.1,⟨l,hl,E.2.2.1⟩,λh=> ?_⟩;.rw[A.out,decide_eq_false (by have:=bJ.out;omega:¬1+C<=l),Bool.and_false];rfl
   .rw[A.out,decide_eq_false (by have:=bJ.out;omega:¬1+C<=l),Bool.and_false]at h;simp at h
  have cK:((l:Int)==0)=false:=nQ;have dD:1<=l:=nK;have dE:d<=8:=nK;clear cl cd;generalize qz a M=K at*;cases K with
  |false=>
   go_wp2_with fail;refine(bC).mono ?_;rintro e w2 ⟨rfl,I⟩;have bK:=jH (E.1.trans (pE.of I));have bL:=jH (E.2.2.1.upd (pE.of I) (c:=g) nK);clear I;go_wp2_with fail;refine Z _ _ ⟨?_,bK.out,⟨l,hl,bL.out⟩,λh=> ?_⟩;.rw[A.out];simp
   .rw[A.out]at h;simp at h
  |true=>
   go_wp2_with fail;refine(bC).mono ?_;rintro e w2 ⟨rfl,I⟩;have aN:pE bl w1 w2:=pE.of I;have l2:w2.cell? ⟨bl,0,none⟩=some (ng nH l):=(E.2.2.1.upd (pE.of I) (c:=g) nK).cell 0;have cZ:w2.frozen? ⟨bl,0,none⟩=false:=nO.free (E.2.2.1.upd (pE.of I) (c:=g) nK) 0;have hst:jW (∀W,w2.setCell ⟨bl,0,none⟩ (ng nH ((l:Int) - 1))=W->pE bl w1 W/\zR W bl (l - 1)/\nO W g #[ng nH a.kind,ng nH a.size,nk oa M cap,ng nH a.tail] 63):=jH λW h=>by
    subst h;have aa:zR w2 bl l:=E.2.2.1.upd (pE.of I) (c:=g) nK;have N:=nO.set aa 0 (ng nH ((l:Int) - 1));refine⟨aN.set 0 _,?_,?_⟩
    .unfold zR
     rw[show((l - 1:Nat):Int)=(l:Int) - 1 by omega];exact N
    .exact nO.setOther ((pE.of (b:=bl) I).blk bI nK) nQ _
   clear I aN;have ae:=jH E.2;have av:=jH E.1;clear E bC;go_upto_region 4 with fail;generalize w2.setCell ⟨bl,0,none⟩ (ng nH ((l:Int) - 1))=w3 at*;obtain⟨ax,aO,ay⟩:=hst.out _ rfl;have g2:w3.cell? ⟨g,2,none⟩=some (nk oa M cap):=ay.cell 2;have dF:g+1<=w3.heap.size:=by have:=ax.size;omega
   have bM:=jH (jU ax (jU aO ay));clear hst ax aO ay l2 cZ;go_wp2_with fail
   go_loopw [8,30] (λ_ iv bN=>∃k:Nat,iv=ng nH k/\k<=M/\jW (pE bl w1 bN)/\jW (zR bN bl (l - 1 - nL.nW (s.take k)))/\
    jW (nL.nW (s.take k)<=l - 1/\d+1+nL.o6 (s.take k)<=9/\nL.o7 oG (s.take k)=true)) (λ_ iv _=>M -(kW iv).toNat)
   case atStart=>exact⟨0,rfl,nK,jH bM.1,jH (by simpa [nL.nW]using bM.2.1),jH ⟨by simp[nL.nW],by simp[nL.o6];omega,by simp[nL.o7]⟩⟩
   case round=>
    obtain⟨k,rfl,hk,az,af,aG⟩:=hrel;have df:jW (pE bl w wr):=jH (av.trans az);by_cases c:k<M
    .obtain⟨y,ai⟩:∃y,s[k]? =some y:=⟨_,jX (by rw[bF.out];exact c)⟩
     obtain⟨b,off,u,rfl,hlt,dh,dH,dI,y2,dJ,aH,bO⟩:=zl.at_ (zl.upd ae.1 az) ai;obtain⟨ou,cu,rfl,_,_⟩:=oL.slice (zl.any aH);obtain⟨U,aP⟩:=nT y.sub.length;rw[aP]at aH y2;clear aP;have aQ:=nL.vO ai;have aR:=nL.yM ai;have aS:=nL.wI (p:=oG) ai;have aA:=nL.uL s (k+1);have aB:=nL.vF s (k+1);rw[bA.out]at aA;rw[bG.out]at aB;have bP:jW (y.all oG=false->nL.o7 oG s=false):=jH λh=>nL.sG ai h
     have bQ:=jH (jU aQ (jU aR (jU aS (jU aA aB))));obtain⟨O,aC⟩:=nT (l - 1 - nL.nW (s.take k));have aT:=jH aC;have aI:O<=64:=nK;rw[aC]at af
     have bR:jW (∀W,wr.alloc (nG #[ng nH y.lab.kind,ng nH y.lab.size,nk ou U cu,ng nH y.lab.tail] 63)=W->pE bl w1 W/\zl bl W (nk ou U cu) y.sub/\zR W bl O/\qo W/\
       nO W wr.heap.size #[ng nH y.lab.kind,ng nH y.lab.size,nk ou U cu,ng nH y.lab.tail] 63):=jH λW h=>by
      subst h;have J:=(jT wr.heap.size wr).alloc (jL _) (nG #[ng nH y.lab.kind,ng nH y.lab.size,nk ou U cu,ng nH y.lab.tail] 63);exact⟨az.trans (pE.of J),zl.upd aH (pE.of J),Below.blk J af af.lt,(qo.upd ae.2.2 az aj).below J (qo.upd ae.2.2 az aj).lt,nO.new wr _ _⟩
     clear aH bO aQ aR aS aA aB aC;go_upto_region 7 with fail;generalize wr.alloc (nG #[ng nH y.lab.kind,ng nH y.lab.size,nk ou U cu,ng nH y.lab.tail] 63)=w4 at*;obtain⟨aU,EU,aV,aW,V⟩:=bR.out _ rfl;have b0:w4.cell? ⟨wr.heap.size,0,none⟩=some (ng nH y.lab.kind):=V.cell 0;have b1:w4.cell? ⟨wr.heap.size,1,none⟩=some (ng nH y.lab.size):=V.cell 1;have dK:w4.cell? ⟨wr.heap.size,2,none⟩=some (nk ou U cu):=V.cell 2;have b3:w4.cell? ⟨wr.heap.size,3,none⟩=some (ng nH y.lab.tail):=V.cell 3
     have bS:jW (jV jI 203 #[nC #[ng nH y.lab.kind,ng nH y.lab.size,nk ou U cu,ng nH y.lab.tail],ng nH ((d:Int)+1),nz (some ⟨bl,0,none⟩)] w4
       λe w'=>e=nE (nA (Cy y (d+1) O))/\pE bl w1 w'/\(∃Q,Q<=64/\zR w' bl Q)/\(Cy y (d+1) O=true->zR w' bl (O - y.count))):=
      jH ((bY y (kT ai) w4 (nk ou U cu) (d+1) O bl EU aV aW aj nK nK aI).mono λe w' h=>⟨h.1,aU.trans h.2.1,h.2.2⟩)
     have aX:jW (Cy y (d+1) O=(decide (d+1+y.deep<=9)&&decide (y.count<=O)&&y.all oG)):=jH rfl;clear bR aU EU aV aW V;generalize Cy y (d+1) O=r at*;cases r with
     |true=>
      go_wp2_with fail;refine(bS).mono ?_;rintro e w5 ⟨rfl,Y,⟨Q,aY,ag⟩,ah⟩;have aD:=jH Y;have bT:=jH (ah (by trivial));clear Y ag ah;go_wp2_with fail;have aa:=aX.out;have N:=bQ.out;have dw:=aT.out;have dx:=aG.out;simp only[Bool.true_eq,j3,decide_eq_true_eq]at aa;go_roundw;case rel=>
       refine⟨k+1,by go_num,nK,jH aD.out,jH ?_,jH ⟨by rw[N.1];omega,by rw[N.2.1];omega,by rw[N.2.2.1,dx.2.2,aa.2];rfl⟩⟩;rw[N.1,show l - 1 -(nL.nW (s.take k)+y.count)=O - y.count by omega];exact bT
      case measure=>simp[kW];omega
     |false=>
      go_wp2_with fail;refine(bS).mono ?_;rintro e w5 ⟨rfl,Y,⟨Q,aY,ag⟩,ah⟩;have aD:=jH (av.trans Y);have bU:=jH ag;clear Y ag ah;go_wp2_with fail;have aJ:R=false:=by
       have aa:=aX.out;have N:=bQ.out;have dw:=aT.out;rw[A.out];have dz:¬(d+(D+1)<=9/\1+C<=l/\nL.o7 oG s=true):=by
        rintro⟨dL,g2,g3⟩;have e1:d+1+y.deep<=9:=by have:=N.2.1;have:=N.2.2.2.2;omega
        have e2:y.count<=O:=by have:=N.1;have:=N.2.2.2.1;omega
        have e3:y.all oG=true:=by
         cases bV:y.all oG with
         |true=>rfl
         |false=>rw[bP.out bV]at g3;cases g3
        rw[decide_eq_true e1,decide_eq_true e2,e3]at aa;cases aa
       cases aK:(decide (d+(D+1)<=9)&&decide (1+C<=l)&&(true&&nL.o7 oG s))with
       |false=>rfl
       |true=>
        exfalso;simp only[Bool.true_and,j3,decide_eq_true_eq]at aK;exact dz ⟨aK.1.1,aK.1.2,aK.2⟩
      exact Z _ _ ⟨by rw[aJ];rfl,aD.out,⟨Q,aY,bU.out⟩,λh=>by rw[aJ]at h;cases h⟩
    .obtain rfl:k=M:=nK
     have bW:s.take k=s:=by rw[<-bF.out,l9]
     rw[bW]at af aG;rw[bA.out,bG.out]at aG;rw[bA.out]at af;go_wp2_with fail;have dA:=aG.out;have aJ:R=true:=by
      rw[A.out,decide_eq_true nK,decide_eq_true nK,dA.2.2];rfl
     refine Z _ _ ⟨by rw[aJ];rfl,df.out,⟨l - 1 - C,nK,af.out⟩,λ_=> ?_⟩;rw[show l -(1+C)=l - 1 - C by omega];exact af
theorem Uv(x:nL TL):Cy x 1 64=pX x:=by
 unfold Cy pX;rw[show decide (1+x.deep<=9)=decide (x.deep<=8)by rw[decide_eq_decide];omega,Bool.and_comm (decide (x.deep<=8))]
theorem Cz(x:nL TL)(w:jJ)(v:jP)(O:oL w v x.sub)(I:qo w):
  jV jI 163 #[nC #[ng nH x.lab.kind,ng nH x.lab.size,v,ng nH x.lab.tail]] w λe w'=>e=nE (nA (pX x))/\jS w.heap.size w w':=by
 rw[<-Uv];have Q:=I.lt;have E:=jH (uN (k:=x.lab.kind) (z:=x.lab.size) (l:=x.lab.tail) (t:=63) O);obtain⟨g,hg⟩:=nT w.heap.size;rw[hg]at E Q⊢
 have U:jW (∀W A,w.alloc (nG #[ng nH x.lab.kind,ng nH x.lab.size,v,ng nH x.lab.tail] 63)=W->W.alloc (nG #[ng nH 64] 3)=A->
   jV jI 203 #[nC #[ng nH x.lab.kind,ng nH x.lab.size,v,ng nH x.lab.tail],ng nH 1,nz (some ⟨g+1,0,none⟩)] A λe w'=>e=nE (nA (Cy x 1 64))/\jS g w w'):=jH λW A h V=>by
  obtain⟨Y,a2,a3,_⟩:=E.out W h;have b1:=(jT W.heap.size W).alloc (jL _) (nG #[ng nH 64] 3);rw[V]at b1;have hI:zR A (g+1) 64:=by
   subst V;have:=nO.new W #[ng nH 64] 3;rw[a3]at this;exact this
  have Z:qo A:=(I.below (hg▸Y:jS w.heap.size w W) I.lt).below b1 nK;refine(Xa x A v 1 64 (g+1) (zl.of a2 b1 nK) hI Z nK nN nN nN).mono λe w' h=>⟨h.1,?_⟩
  have ae:jS g w A:=Y.trans (b1.mono nK);exact h.2.1.below ae nK (by have:=b1.size;omega)
 clear O I;generalize Cy x 1 64=R at*;go_in;go_upto_region 1 with fail;have af:jW ((w.alloc (nG #[ng nH x.lab.kind,ng nH x.lab.size,v,ng nH x.lab.tail] 63)).heap.size=g+1):=jH (E _ rfl).2.2.1;have J:=jH (λA=>U.out _ A rfl);obtain⟨c0,c1,c2,c3⟩:=(E _ rfl).2.2.2;generalize w.alloc (nG #[ng nH x.lab.kind,ng nH x.lab.size,v,ng nH x.lab.tail] 63)=w1 at*;have hs:=af.out;have hB:jW (∀A,w1.alloc (nG #[ng nH 64] 3)=A->jS (g+1) w1 A):=jH λA h=>by
  subst h;have:=(jT w1.heap.size w1).alloc (jL _) (nG #[ng nH 64] 3);rwa [hs]at this
 clear E U;go_upto_region 2 with fail;generalize w1.alloc (nG #[ng nH 64] 3)=w2 at*;have C:=hB.out _ rfl;have ag:=jH (J _ rfl);have ah:=(C.cell (p:=⟨g,0,none⟩) (lM g)).trans c0;have ai:=(C.cell (p:=⟨g,1,none⟩) (lM g)).trans c1;have aj:=(C.cell (p:=⟨g,2,none⟩) (lM g)).trans c2;have ak:=(C.cell (p:=⟨g,3,none⟩) (lM g)).trans c3;clear C hB J c0 c1 c2 c3;go_wp2_with fail;refine(ag).mono ?_;rintro e w3 ⟨rfl,N⟩;have aa:=jH N;clear N;go_wp2_with fail;go_returns;exact⟨rfl,aa.out⟩
def CB(l A:List UInt8)(i:Nat):Prop:=A.length=l.length/\∀m,m<l.length->A[m]? =if m<i\/l.length - i<=m then l[l.length - 1 - m]? else l[m]?
theorem CB.start(l:List UInt8):CB l l 0:=⟨rfl,λm h=>by rw[if_neg nK]⟩
theorem CB.done{A:List UInt8}(h:CB l A i)(hi:l.length<=i+i+1):A=l.reverse:=by
 apply List.ext_getElem?;intro m;by_cases C:m<l.length
 .rw[h.2 m C,List.getElem?_reverse C]
  split;.rfl
  .rw[show l.length - 1 - m=m by omega]
 .rw[List.getElem?_eq_none (by rw[h.1];omega),List.getElem?_eq_none nQ]
theorem CB.step{A:List UInt8}{j:Nat}(h:CB l A i)(O:j+i+1=l.length)(N:i<j)(a b:UInt8)(I:A[i]? =some a)(hb:A[j]? =some b):CB l ((A.set i b).set j a) (i+1):=by
 refine⟨by simp[h.1],λm J=> ?_⟩;have C:=h.2 i nK;have E:=h.2 j nK;rw[if_neg nK]at C E;by_cases c:m=j
 .subst c
  rw[List.getElem?_set_self (by simp[h.1];omega),if_pos nK,<-I,C];congr 1;omega
 .rw[List.getElem?_set_ne nK]
  by_cases d:m=i
  .subst d
   rw[List.getElem?_set_self (by rw[h.1];omega),if_pos nK,<-hb,E];congr 1;omega
  .rw[List.getElem?_set_ne nK,h.2 m J]
   by_cases e:m<i\/l.length - i<=m;.rw[if_pos e,if_pos nK]
   .rw[if_neg e,if_neg nK]
theorem Gt(l:List UInt8)(i:Nat)(b:UInt8):(nU l).set i (ng .u8 (b.toNat:Int))=nU (l.set i b):=by simp[nU]
theorem Gu(l:List UInt8)(i:Nat)(b:UInt8)(h:l[i]? =some b):(nU l)[i]? =some (ng .u8 (b.toNat:Int)):=by simp[nU,h]
theorem Gv{u v:jJ}(h:u.grownBy v r)(k:v.grownBy w r):u.grownBy w r:=
 ⟨k.os.trans h.os,k.tape.trans h.tape,k.output.trans h.output,kg h.size k.size,λi hi A=>(k.block i (kG hi h.size) A).trans (h.block i hi A)⟩
theorem PV{u v:jJ}(h:u.grownBy v r):u.grownBy v.drew r:=⟨h.os,h.tape,h.output,h.size,h.block⟩
theorem Gw(B g:Nat)(l:List UInt8)(k:Nat)(w:jJ)(hk:k<=140737488355328)(hl:l.length=k)(ho:oD w B 5 (nk (some ⟨g,0,none⟩) k k) l):
  jV jI 265 #[nk (some ⟨g,0,none⟩) k k] w λe w'=>e=nE (nD #[])/\oD w' B 5 (nk (some ⟨g,0,none⟩) k k) l.reverse/\w.grownBy w' (some g):=by
 have ak:=CB.start l;have J:=jH hl;clear hl;go_in;go_wp2_with fail;go_loopw [2,3] (λiv au wr=>∃(i:Nat) (V:Int) (C:List UInt8),iv=ng nH i/\au=ng nH V/\V=(k:Int) - 1 - i/\i<=k/\CB l C i/\oD wr B 5 (nk (some ⟨g,0,none⟩) k k) C/\w.grownBy wr (some g)) (λiv _ _=>k -(kW iv).toNat);case atStart=>exact⟨0,_,l,rfl,rfl,nK,nK,ak,ho,World.grownBy.refl _ _⟩
 case round=>
  obtain⟨i,V,C,rfl,rfl,Y,hi,I,A,hg⟩:=hrel;by_cases c:(i:Int)<V
  .obtain⟨j,rfl⟩:∃j:Nat,V=j:=⟨V.toNat,nK⟩
   have Z:i<j:=nK;have ay:j<k:=nK;have E:C.length=k:=I.1.trans J.out;obtain⟨a,O⟩:∃a,C[i]? =some a:=⟨_,jX nK⟩;obtain⟨b,hb⟩:∃b,C[j]? =some b:=⟨_,jX nK⟩;have aa:=jH (I.step (by have:=J.out;omega) Z a b O hb);unfold oD at A;rw[E]at A;have ae:wr.cell? ⟨g,i,none⟩=some (ng .u8 (a.toNat:Int)):=by rw[A.cellAt i nK,Gu _ _ _ O]
   have af:wr.cell? ⟨g,j,none⟩=some (ng .u8 (b.toNat:Int)):=by rw[A.cellAt j nK,Gu _ _ _ hb]
   have ag:=A.frozenAt i;have ah:=A.frozenAt j;have Q:=jH E;have ai:=jH Y;clear Y I E O hb;go_wp2_with fail;go_region;have U:=A.stored i (ng .u8 (b.toNat:Int));have N:=U.1.stored j (ng .u8 (a.toNat:Int));rw[Gt,Gt]at N;have aj:oD ((wr.setCell ⟨g,i,none⟩ (ng .u8 (b.toNat:Int))).setCell ⟨g,j,none⟩ (ng .u8 (a.toNat:Int))).drew B 5 (nk (some ⟨g,0,none⟩) k k) ((C.set i b).set j a):=by
    have:=World.ownsRow.drew N.1;unfold oD;rw[List.length_set,List.length_set,Q.out];exact this
   have g3:w.grownBy ((wr.setCell ⟨g,i,none⟩ (ng .u8 (b.toNat:Int))).setCell ⟨g,j,none⟩ (ng .u8 (a.toNat:Int))).drew (some g):=PV (Gv (Gv hg U.2) N.2);have av:=jH aj;have ax:=jH g3;clear U N aj g3 ae af ag ah A hg;generalize ((wr.setCell ⟨g,i,none⟩ (ng .u8 (b.toNat:Int))).setCell ⟨g,j,none⟩ (ng .u8 (a.toNat:Int))).drew=W at*;go_wp2_with fail;go_roundw;case rel=>exact⟨i+1,(j:Int) - 1,_,by go_num,rfl,by have:=ai.out;omega,nK,aa.out,av.out,ax.out⟩
   case measure=>simp[kW];omega
  .have E:C.length=k:=I.1.trans J.out
   have hd:=I.done (by have:=J.out;omega);subst hd;go_wp2_with fail;go_end0;exact⟨rfl,A,hg⟩
theorem Uw{a b:ByteArray}(h:a.data.toList=b.data.toList):a=b:=by
 apply ByteArray.ext;exact Array.toList_inj.1 h
theorem Below.row{B g:Nat}{w0:jJ}(hb:jS B w0 w)(hg:w.grownBy w' (some g))(h:B<=g)(A:B<=w.heap.size):jS B w0 w':=
 hb.grown hg A λk hk=>by simp at hk;omega
theorem PW(B g:Nat)(l:List UInt8)(k:Nat)(w:jJ)(hk:k<=140737488355328)(hl:l.length=k)(ho:oD w B 5 (nk (some ⟨g,0,none⟩) k k) l):
  jV jI 239 #[nk (some ⟨g,0,none⟩) k k] w λe w'=>e=nE (ny ⟨l.reverse.toArray⟩)/\w.grownBy w' (some g):=by
 have c1:=jH (Gw B g l k w hk hl ho);go_in;go_wp2_with fail;refine c1.mono ?_;rintro e w' ⟨rfl,A,hg⟩;have hst:=A.string Ch;go_wp2_with fail;go_returns;exact⟨rfl,hg⟩
theorem Nb:∀ k n:Nat,n<256^k->n<18446744073709551616->(xh n).length=(Lib.bitLen n+7)/8
 |0,n,hk,h=>by simp at hk;subst hk;rw[tu];rfl
 |k+1,n,hk,h=>by
  by_cases c:n=0;.subst c;rw[tu];rfl
  .by_cases c2:n<256
   .rw[vD n nK,show n/256=0 by omega,tu]
    have A:=Lib.bitLen_le n 8 nK c2;have C:1<=Lib.bitLen n:=by rw[Lib.bitLen_half n nK nK];omega
    simp;omega
   .rw[vD n nK,kD,Nb k (n/256) (by rw[l6]at hk;omega) nK,Lib.bitLen_shift 8 n nK h]
    have:n/2^8=n/256:=rfl;rw[this];omega
theorem Jo(n:Nat)(w:jJ)(hn:n<18446744073709551616):
  jV jI 202 #[ng nI n] w λe w'=>e=nE (ny ⟨(xh n).reverse.toArray⟩)/\jS w.heap.size w w':=by
 have hlen:=Nb 8 n (kG hn nN) hn;have A:=DF 8 n (kG hn nN);have hb:Lib.bitLen n<=64:=Lib.bitLen_le n 64 nK hn;have c0:=λw=>Tryz.bits_Len64 n w nK nK
 rw[Int.toNat_natCast]at c0;have c2:=λw=>FQ n ((Lib.bitLen n+7)/8) w hn nK
 have c4:=λB g w ho=>PW B g (vJ ((Lib.bitLen n+7)/8) n) ((Lib.bitLen n+7)/8) w nK (pF _ n) ho
 rw[a2J n,hlen];clear hlen A;generalize Lib.bitLen n=m at*;have C:=jH c0;have E:=jH c2;have I:=jH c4;clear c0 c2 c4;have J:jW ((((m:Nat):Int)+7)/8=(((m+7)/8:Nat):Int)):=by unfold jW;omega
 go_in;go_wp2_with fail;refine(C _).mono ?_;rintro e w' ⟨rfl,rfl⟩;go_wp2_with fail;rw[J.out];refine(E _).mono ?_;rintro e w1 ⟨rfl,ho,hb⟩;go_wp2_with fail;refine(I _ _ _ ho).mono ?_;rintro e w2 ⟨rfl,hg⟩;go_wp2_with fail;go_returns;exact⟨rfl,Below.row hb hg (jL _) hb.size⟩
theorem a0P(n b:Nat)(hn:n<72057594037927936)(hb:b<256):
  bits BinOp.or IntKind.u64 (IntKind.u64.wrap ((n:Int)*256)) (b:Int)=((256*n+b:Nat):Int):=by
 rw[show((n:Int)*256)=((n*256:Nat):Int)from by simp,IntWalk.u64_in _ ⟨nK,nK⟩,u64_or_nat (n*256) b nK nK];congr 1;have:=mO (show b<2^8 by omega) n;rw[Nat.mul_comm n 256,show(256:Nat)=2^8 from rfl,<-this]
theorem PX(s:ByteArray)(w:jJ)(A:1<=s.size)(C:s.size<=8):
  jV jI 268 #[ny s] w λe w'=>e=nE (nD #[ng nI (uE s.data.toList),ng nH 0])/\w=w':=by
 have c1:=jH (Eu s.size w A C);go_in;go_wp2_with fail;refine c1.mono ?_;rintro e w' ⟨rfl,rfl⟩;go_wp2_with fail;go_loop [5,15] (λacc i=>∃k n:Nat,k<=s.size/\i=ng nH k/\acc=ng nI n/\jW (n=uE (s.data.toList.take k))) (λ_ i=>s.size -(kW i).toNat);case atStart=>exact⟨0,0,nK,rfl,rfl,rfl⟩
 case round=>
  obtain⟨k,n,hk,rfl,rfl,hv⟩:=hrel;by_cases c:k<s.size
  .have hb:s[k].toNat<=255:=by have:=s[k].toNat_lt;omega
   have hn:n<72057594037927936:=by
    have A:=J8 (s.data.toList.take k);have E:(s.data.toList.take k).length<=7:=by rw[kY];omega
    rw[hv.out];exact kG A (kg (lq nN E) nN)
   have hor:=jH (a0P n s[k].toNat hn nK);have hnx:jW (256*n+s[k].toNat=uE (s.data.toList.take (k+1))):=by unfold jW;rw[VZ s k c,TF,hv.out]
   clear hn;exact Rm
  .exact Rn
def pG(l:List UInt8):Nat×Nat:=match l with
 |[]=>(0,0)
 |b::r=>if 8<r.length+1 then(0,5)else if b.toNat=0 then(0,3)else(uE (b::r),0)
def n2(t:Nat×Nat):jP:=nD #[ng nI t.1,ng nH t.2]
theorem RU(h:p:=by
 have h':0<s.data.toList.length:=by simpa using h
 have:=List.drop_eq_getElem_cons h';rw[List.drop_zero]at this;exact this):p:=h
theorem sP(s:ByteArray)(h:0<s.size):s.data.toList=s[0]::s.data.toList.drop 1:=by
 exact RU
theorem zS(s:ByteArray)(h:0<s.size):s.toList.isEmpty=false:=by
 rw[Lib.toList_data,sP s h];rfl
theorem xW(h:p:=by
 go_wp2_with fail;go_returns;exact⟨by rw[e.out];rfl,rfl⟩):p:=h
theorem yO(s:ByteArray)(w:jJ)(hs:s.size<=j5):
  jV jI 243 #[ny s] w λe w'=>e=nE (n2 (pG s.data.toList))/\w=w':=by
 unfold j5 at hs;by_cases h0:s.size=0
 .have e:s=⟨#[]⟩:=Uw (mf.1 (by simpa using h0))
  subst e;exact Bu
 .have hp:0<s.size:=nK
  have E:=zS s hp;have hl:(s.data.toList.drop 1).length+1=s.size:=by rw[kS];simp;omega
  clear h0;have hb:s[0].toNat<=255:=by have:=s[0].toNat_lt;omega
  by_cases I:8<s.size
  .have e:jW (pG s.data.toList=(0,5)):=by unfold jW;rw[sP s hp,pG,if_pos nK]
   clear hl;go_in;exact xW
  .by_cases A:s[0].toNat=0
   .have e:jW (pG s.data.toList=(0,3)):=by unfold jW;rw[sP s hp,pG,if_neg nK,if_pos A]
    have C:((s[0].toNat:Int)==0)=true:=Ty;clear hl A;go_in;exact xW
   .have e:jW (pG s.data.toList=(uE s.data.toList,0)):=by unfold jW;rw[sP s hp,pG,if_neg nK,if_neg A]
    have C:((s[0].toNat:Int)==0)=false:=wL;have c1:=jH (PX s w nK nK);generalize uE s.data.toList=v at*;clear hl A;go_in;go_wp2_with fail;refine c1.mono ?_;rintro e w' ⟨rfl,rfl⟩;exact xW
abbrev EW:ko:=63
def okL(l:List UInt8):Bool:=(pG l).2==0
def zT(a:TL)(x:IL):Bool:= !x.list&&okL x.text&&decide ((x.text.length:Int)<=a.size)
def A9(a:TL)(x:IL):Bool:= !x.list&&decide ((x.text.length:Int)=a.size)
def Ba(a:TL)(x:IL):Bool:= !x.list&&decide ((x.text.length:Int)<=a.size)
def CE(a:TL)(x:IL)(m:Nat):Bool:=x.list&&decide ((m:Int)<=a.size)
def zU(a:TL)(n:Nat)(x:IL)(m:Nat):Bool:=x.list&&decide (m<=n)&&decide ((n:Int) - a.tail<=(m:Int))
theorem BN(k z tl:Int)(tv:jP)(tx:ByteArray)(li:Bool)(iv:jP):∀W,(w.alloc (nG #[ng nH k,ng nH z,tv,ng nH tl] EW)).alloc (nG #[ny tx,nA li,iv] IT)=W->
  jS w.heap.size w W/\(W.cell? ⟨w.heap.size,0,none⟩=some (ng nH k)/\W.cell? ⟨w.heap.size,1,none⟩=some (ng nH z)/\W.cell? ⟨w.heap.size,2,none⟩=some tv/\W.cell? ⟨w.heap.size,3,none⟩=some (ng nH tl))/\
   (W.cell? ⟨w.heap.size+1,0,none⟩=some (ny tx)/\W.cell? ⟨w.heap.size+1,1,none⟩=some (nA li)/\W.cell? ⟨w.heap.size+1,2,none⟩=some iv)/\W.heap.size=w.heap.size+2:=by
 rintro W rfl;have A:=(nO.new w #[ng nH k,ng nH z,tv,ng nH tl] EW).alloc (nG #[ny tx,nA li,iv] IT);have C:=nO.new (w.alloc (nG #[ng nH k,ng nH z,tv,ng nH tl] EW)) #[ny tx,nA li,iv] IT;have E:(w.alloc (nG #[ng nH k,ng nH z,tv,ng nH tl] EW)).heap.size=w.heap.size+1:=nR;rw[E]at C;exact⟨((jT _ w).alloc (jL _) _).alloc nR _,⟨A.cell 0,A.cell 1,A.cell 2,A.cell 3⟩,⟨C.cell 0,C.cell 1,C.cell 2⟩,nR⟩
theorem Xb(x:IL)(iv:jP)(w:jJ)(I:x.text.length<=j5):
  jV jI 206 #[nC #[ny (txt x),nA x.list,iv]] w λe w'=>(∃n:Nat,e=nE (nD #[ng nI n,ng nH (if x.list then 12 else((pG x.text).2:Nat):Int)]))/\jS w.heap.size w w':=by
 have hb:=nO.new w #[ny (txt x),nA x.list,iv] IT;have C:=(jT w.heap.size w).alloc (jL _) (nG #[ny (txt x),nA x.list,iv] IT);obtain⟨g,hg⟩:=nT w.heap.size;rw[hg]at hb C⊢;have A:=λW=>yO (txt x) W (by rw[sH];exact I)
 rw[Cv]at A;unfold n2 at A;have A:=jH A;have E:=jH C;obtain⟨tx,li⟩:=x;dsimp only at*;generalize txt ⟨tx,li⟩=N at*;generalize pG tx=G at*;obtain⟨J,ge⟩:=G;dsimp only at A;obtain⟨c0,c1⟩:=hb.a2;clear hb C I;cases li with
 |true=>
  go_in;go_upto_region 1 with fail;generalize w.alloc _=w1 at*;go_wp2_with fail;go_returns;exact⟨⟨0,rfl⟩,E.out⟩
 |false=>
  go_in;go_upto_region 1 with fail;generalize w.alloc _=w1 at*;go_wp2_with fail;refine(A _).mono ?_;rintro e w2 ⟨rfl,rfl⟩;go_wp2_with fail;go_returns;exact⟨⟨J,rfl⟩,E.out⟩
theorem ym(h:p:=by
 clear HR;go_in;go_upto_region 1 with fail;generalize (w.alloc _).alloc _=w1 at*;obtain⟨hb1,⟨t0,t1,t2,t3⟩,⟨i0,i1,i2⟩,hsz⟩:=HW.out _ rfl;have HB:=jH hb1;clear HW hb1;go_wp2_with fail;go_returns;exact⟨by rw[HE.out];rfl,HB.out⟩):p:=h
theorem Xc(a:TL)(x:IL)(tv iv:jP)(w:jJ)(E:x.text.length<=j5):
  jV jI 229 #[nC #[ng nH a.kind,ng nH a.size,tv,ng nH a.tail],nC #[ny (txt x),nA x.list,iv]] w λe w'=>e=nE (nA (A9 a x))/\jS w.heap.size w w':=by
 have HW:=jH (BN (w:=w) a.kind a.size a.tail tv (txt x) x.list iv);have I:=sH x;obtain⟨g,hg⟩:=nT w.heap.size;have J:x.text.length<=9223372036854775807:=by unfold j5 at E;omega
 obtain⟨R,A⟩:=nT (A9 a x);have HR:=jH A;rw[A];rw[hg]at HW⊢;obtain⟨tx,li⟩:=x;obtain⟨k,z,tl⟩:=a;dsimp only at*;generalize txt ⟨tx,li⟩=N at*;obtain⟨L,hL⟩:=nT tx.length;have C:=jH hL;rw[hL]at I J;clear A E hL;cases li with
 |true=>
  have HE:jW (R=false):=jH (by rw[<-HR.out];unfold A9;dsimp only;simp only[C.out];simp;first|done|omega);exact ym
 |false=>
  by_cases c:(L:Int)=z
  .skip
   have HE:jW (R=true):=jH (by rw[<-HR.out];unfold A9;dsimp only;simp only[C.out];simp;first|done|omega);have e1:((L:Int)==z)=true:=nQ;exact ym
  .skip
   have HE:jW (R=false):=jH (by rw[<-HR.out];unfold A9;dsimp only;simp only[C.out];simp;first|done|omega);have e1:((L:Int)==z)=false:=nQ;exact ym
theorem Xd(a:TL)(x:IL)(tv iv:jP)(w:jJ)(E:x.text.length<=j5):
  jV jI 232 #[nC #[ng nH a.kind,ng nH a.size,tv,ng nH a.tail],nC #[ny (txt x),nA x.list,iv]] w λe w'=>e=nE (nA (Ba a x))/\jS w.heap.size w w':=by
 have HW:=jH (BN (w:=w) a.kind a.size a.tail tv (txt x) x.list iv);have I:=sH x;obtain⟨g,hg⟩:=nT w.heap.size;have J:x.text.length<=9223372036854775807:=by unfold j5 at E;omega
 obtain⟨R,A⟩:=nT (Ba a x);have HR:=jH A;rw[A];rw[hg]at HW⊢;obtain⟨tx,li⟩:=x;obtain⟨k,z,tl⟩:=a;dsimp only at*;generalize txt ⟨tx,li⟩=N at*;obtain⟨L,hL⟩:=nT tx.length;have C:=jH hL;rw[hL]at I J;clear A E hL;cases li with
 |true=>
  have HE:jW (R=false):=jH (by rw[<-HR.out];unfold Ba;dsimp only;simp only[C.out];simp;first|done|omega);exact ym
 |false=>
  by_cases c:(L:Int)<=z
  .skip
   have HE:jW (R=true):=jH (by rw[<-HR.out];unfold Ba;dsimp only;simp only[C.out];simp;first|done|omega);have e1:decide ((L:Int)<=z)=true:=nQ;exact ym
  .skip
   have HE:jW (R=false):=jH (by rw[<-HR.out];unfold Ba;dsimp only;simp only[C.out];simp;first|done|omega);have e1:decide ((L:Int)<=z)=false:=nQ;exact ym
theorem Xe(a:TL)(x:IL)(ot oi:Option l5)(n m ct ci:Nat)(w:jJ)(hn:n<=100000)(I:m<=100000)(htl:0<=a.tail/\a.tail<=100000):
  jV jI 233 #[nC #[ng nH a.kind,ng nH a.size,nk ot n ct,ng nH a.tail],nC #[ny (txt x),nA x.list,nk oi m ci]] w λe w'=>e=nE (nA (CE a x m))/\jS w.heap.size w w':=by
 have HW:=jH (BN (w:=w) a.kind a.size a.tail (nk ot n ct) (txt x) x.list (nk oi m ci));obtain⟨g,hg⟩:=nT w.heap.size;obtain⟨R,A⟩:=nT (CE a x m);have HR:=jH A;rw[A];rw[hg]at HW⊢;obtain⟨tx,li⟩:=x;obtain⟨k,z,tl⟩:=a;dsimp only at*;generalize txt ⟨tx,li⟩=J at*;clear A;obtain⟨C,E⟩:=htl;cases li with
 |false=>
  have HE:jW (R=false):=jH (by rw[<-HR.out];unfold CE;dsimp only;simp;first|done|omega);exact ym
 |true=>
  by_cases c:(m:Int)<=z
  .have e1:decide ((m:Int)<=z)=true:=nQ
   have HE:jW (R=true):=jH (by rw[<-HR.out];unfold CE;dsimp only;simp;first|done|omega);exact ym
  .have e1:decide ((m:Int)<=z)=false:=nQ
   have HE:jW (R=false):=jH (by rw[<-HR.out];unfold CE;dsimp only;simp;first|done|omega);exact ym
theorem Xf(a:TL)(x:IL)(ot oi:Option l5)(n m ct ci:Nat)(w:jJ)(hn:n<=100000)(I:m<=100000)(htl:0<=a.tail/\a.tail<=100000):
  jV jI 236 #[nC #[ng nH a.kind,ng nH a.size,nk ot n ct,ng nH a.tail],nC #[ny (txt x),nA x.list,nk oi m ci]] w λe w'=>e=nE (nA (zU a n x m))/\jS w.heap.size w w':=by
 have HW:=jH (BN (w:=w) a.kind a.size a.tail (nk ot n ct) (txt x) x.list (nk oi m ci));obtain⟨g,hg⟩:=nT w.heap.size;obtain⟨R,A⟩:=nT (zU a n x m);have HR:=jH A;rw[A];rw[hg]at HW⊢;obtain⟨tx,li⟩:=x;obtain⟨k,z,tl⟩:=a;dsimp only at*;generalize txt ⟨tx,li⟩=J at*;clear A;obtain⟨C,E⟩:=htl;cases li with
 |false=>
  have HE:jW (R=false):=jH (by rw[<-HR.out];unfold zU;dsimp only;simp;first|done|omega);exact ym
 |true=>
  by_cases c:m<=n
  .have e1:decide (m<=n)=true:=nQ
   by_cases c2:(n:Int) - tl<=(m:Int)
   .have e2:decide ((n:Int) - tl<=(m:Int))=true:=nQ
    have HE:jW (R=true):=jH (by rw[<-HR.out];unfold zU;dsimp only;simp;first|done|omega);exact ym
   .have e2:decide ((n:Int) - tl<=(m:Int))=false:=nQ
    have HE:jW (R=false):=jH (by rw[<-HR.out];unfold zU;dsimp only;simp;first|done|omega);exact ym
  .have e1:decide (m<=n)=false:=nQ
   have HE:jW (R=false):=jH (by rw[<-HR.out];unfold zU;dsimp only;simp;first|done|omega);exact ym
theorem KE(h:p:=by
 clear HR;go_in;go_upto_region 1 with fail;generalize (w.alloc _).alloc _=w1 at*;obtain⟨hb1,⟨t0,t1,t2,t3⟩,⟨i0,i1,i2⟩,hsz⟩:=HW.out _ rfl;have HB:=jH hb1;clear HW hb1;go_wp2_with fail;refine(CO _).mono ?_;rintro e w2 ⟨⟨nn,rfl⟩,hb2⟩;have HB2:=jH (HB.trans (hb2.mono nK));have x1:=(hb2.cell (p:=⟨g+1,0,none⟩) (by show g+1<_;omega)).trans i0;have x2:=(hb2.cell (p:=⟨g,1,none⟩) (by show g<_;omega)).trans t1;clear hb2 i0 i1 i2 t0 t1 t2 t3;go_wp2_with fail;go_returns;exact⟨by rw[HE.out];rfl,HB2.out⟩):p:=h
theorem Xg(a:TL)(x:IL)(tv iv:jP)(w:jJ)(E:x.text.length<=j5):
  jV jI 228 #[nC #[ng nH a.kind,ng nH a.size,tv,ng nH a.tail],nC #[ny (txt x),nA x.list,iv]] w λe w'=>e=nE (nA (zT a x))/\jS w.heap.size w w':=by
 have HW:=jH (BN (w:=w) a.kind a.size a.tail tv (txt x) x.list iv);have N:=sH x;obtain⟨g,hg⟩:=nT w.heap.size;have O:x.text.length<=9223372036854775807:=by unfold j5 at E;omega
 have CO:=λ(W:jJ)=>Xb x iv W E
 obtain⟨R,I⟩:=nT (zT a x);have HR:=jH I;rw[I];rw[hg]at HW⊢;obtain⟨tx,li⟩:=x;obtain⟨k,z,tl⟩:=a;dsimp only at*;generalize txt ⟨tx,li⟩=J at*;obtain⟨L,hL⟩:=nT tx.length;have C:=jH hL;rw[hL]at N O;clear I E hL;have CO:∀W,jV jI 206 #[nC #[ny J,nA li,iv]] W λe w'=>(∃n:Nat,e=nE (nD #[ng nI n,ng nH (if li then 12 else((pG tx).2:Nat):Int)]))/\jS W.heap.size W w':=CO
 have CO:=jH CO;cases li with
 |true=>
  have CO:jW (∀W,jV jI 206 #[nC #[ny J,nA true,iv]] W λe w'=>(∃n:Nat,e=nE (nD #[ng nI n,ng nH 12]))/\jS W.heap.size W w'):=CO;have HE:jW (R=false):=jH (by rw[<-HR.out];unfold zT;dsimp only;first|rfl|(rw[A.out,C.out];simp;first|done|omega));exact KE
 |false=>
  have CO:jW (∀W,jV jI 206 #[nC #[ny J,nA false,iv]] W λe w'=>(∃n:Nat,e=nE (nD #[ng nI n,ng nH ((pG tx).2:Nat)]))/\jS W.heap.size W w'):=CO;have A:jW (okL tx=((pG tx).2==0)):=jH rfl;generalize (pG tx).2=GE at*;by_cases c0:GE=0
  .subst c0
   by_cases c:(L:Int)<=z
   .have e1:decide ((L:Int)<=z)=true:=nQ
    have HE:jW (R=true):=jH (by rw[<-HR.out];unfold zT;dsimp only;first|rfl|(rw[A.out,C.out];simp;first|done|omega));exact KE
   .have e1:decide ((L:Int)<=z)=false:=nQ
    have HE:jW (R=false):=jH (by rw[<-HR.out];unfold zT;dsimp only;first|rfl|(rw[A.out,C.out];simp;first|done|omega));exact KE
  .have Q:((GE:Int)==0)=false:=nQ
   have HE:jW (R=false):=jH (by rw[<-HR.out];unfold zT;dsimp only;first|rfl|(rw[A.out,C.out];simp;first|done|omega));exact KE
end
end Go.Proofs.YtamfcjmhnndbdaaGreatDoor


