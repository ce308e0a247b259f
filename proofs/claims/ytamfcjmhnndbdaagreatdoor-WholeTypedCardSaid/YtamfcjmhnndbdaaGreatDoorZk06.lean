/- Part 6 of the proof. -/
import Derived.Test.YtamfcjmhnndbdaaGreatDoorZk00
import Derived.Test.YtamfcjmhnndbdaaGreatDoorZk03
import Derived.Test.YtamfcjmhnndbdaaGreatDoorZk05
import Derived.Test.YtamfcjmhnndbdaaGreatDoorRows
import Derived.WalkSpells
import Derived.OwnWalk
import Derived.IntWalk
import Derived.Lib.Strings
import Derived.Deep.CutBlock
import Derived.Deep.DeepCutAuto
import Derived.Laws.EntriesVeiled
open Go.Value renaming agg→lC,bool→lu,int→lg,pointer→lq,slice→lh,string→ll,tuple→lD
open Go.Obj renaming cells→lG
open Go.IntKind renaming i64→lH
open Go.Ending renaming returned→lF
open Go.Lib renaming hid→iF
open Go.Proofs.Tryz renaming prog→iG
open Go renaming World→iH,Value→iJ,Calls→iU,bodyPost_ret→iV,maxLen→jb,TypeId→jg,results→jr,Addr→kr
open Nat renaming le_refl→iI,le_trans→je,lt_succ_self→jE,lt_or_ge→jG,add_assoc→jI
open Go.RowKit renaming Below→iK,Hid→iW,intOf→jA
open Go.RowKit.Below renaming refl→iL
open List renaming getElem?_cons_zero→iO,getElem?_toArray→iP,getElem?_eq_getElem→iZ,mem_of_getElem?→jc,take_succ_cons→ji,length_cons→jm,take_length→kz,length_eq_zero_iff→kR,size_toArray→kV
open And renaming intro→iQ
open Bool renaming and_eq_true→iY,false_eq_true→j4
open Option renaming bind_eq_some_iff→jd,bind_some→jh
open Go.World renaming setCell→jf
open UInt8 renaming ofNat→jl,toNat_inj→jX
open Option.some renaming injEq→kM
open Go.Lit renaming int→kP
namespace Go.Proofs.YtamfcjmhnndbdaaGreatDoor
set_option linter.unusedVariables false
set_option linter.unusedSimpArgs false
set_option maxRecDepth 100000
set_option maxHeartbeats 8000000
variable {l:List UInt8}{n most:Nat}{q:Nat×List UInt8}{w w':iH}{Q:Nat->Prop}{v:iJ}{oa:Option kr}{t:jg}{p:Prop}{α:Type}
section
structure IL where
 text:List UInt8
 list:Bool
 deriving DecidableEq
def xD:Shape IL:=⟨3,λa v=>[ll ⟨a.text.toArray⟩,lu a.list,v],λa=>a.text.length<=jb,λ_ _=>rfl⟩
def oW(a:IL)(n:Nat):Bool:=if a.list then a.text.isEmpty else decide (n=0)
def mO(a:IL)(s:List (lL IL)):Bool:=oW a s.length
def rO(x:lL IL):Bool:=x.all mO&&decide (x.deep<=16)&&decide (x.count<=1024)
def hdr(by' n:Nat):List UInt8:=if n<=55 then [jl (by'+n)]else jl (by'+55+(zH n).length)::(zH n).reverse
def single(t:List UInt8):Bool:=match t with
 |[b]=>decide (b.toNat<128)
 |_=>false
mutual
def enc:lL IL->List UInt8
 | .node a s=>if a.list then hdr 192 (JR s).length++JR s else if single a.text then a.text else hdr 128 a.text.length++a.text
def JR:List (lL IL)->List UInt8
 |[]=>[]
 |x::A=>enc x++JR A
end
def hd2(l:List UInt8)(list:Bool)(size n:Nat):Except Nat (Bool×Nat×Nat):=
 if l.length - size<n then .error 2 else if list=false/\n=1/\(l.getD size 0).toNat<128 then .error 3 else .ok (list,size,n)
def hd(l:List UInt8):Except Nat (Bool×Nat×Nat):=match l with
 |[]=> .error 2
 |b::r=>
  if b.toNat<128 then .ok (false,0,1)
  else if b.toNat -(if 192<=b.toNat then 192 else 128)<=55 then hd2 l (decide (192<=b.toNat)) 1 (b.toNat -(if 192<=b.toNat then 192 else 128))
  else if l.length<1+(b.toNat -(if 192<=b.toNat then 192 else 128) - 55)then .error 2
  else if(r.head? =some 0\/ql (r.take (b.toNat -(if 192<=b.toNat then 192 else 128) - 55))<56)then .error 3
  else hd2 l (decide (192<=b.toNat)) (1+(b.toNat -(if 192<=b.toNat then 192 else 128) - 55)) (ql (r.take (b.toNat -(if 192<=b.toNat then 192 else 128) - 55)))
def JS(DN:List UInt8->Nat->Except Nat (lL IL×Nat×Nat)):Nat->List UInt8->Nat->List (lL IL)->Except Nat (List (lL IL)×Nat)
 |0,_,_,_=> .error 0
 |f+1,l,m,sub=>if l=[]then .ok (sub,m)else match DN l m with
  | .error e=> .error (if e=2 then 3 else e)
  | .ok y=>JS DN f (l.drop y.2.1) y.2.2 (sub++[y.1])
def rU:Nat->List UInt8->Nat->Except Nat (lL IL×Nat×Nat)
 |0,l,_=>if l=[]then .error 2 else .error 6
 |k+1,l,m=>if l=[]then .error 2 else if m=0 then .error 4 else match hd l with
  | .error e=> .error e
  | .ok q=>if q.1 then(match JS (rU k) (q.2.2+1) ((l.drop q.2.1).take q.2.2) (m - 1) []with
    | .error e=> .error e
    | .ok y=> .ok (.node ⟨[],true⟩ y.1,q.2.1+q.2.2,y.2))
   else .ok (.node ⟨(l.drop q.2.1).take q.2.2,false⟩ [],q.2.1+q.2.2,m - 1)
theorem Oz{list:Bool}{size:Nat}{q:Bool×Nat×Nat}(h:hd2 l list size n=.ok q):
  q=(list,size,n)/\n<=l.length - size/\(list=false->n=1->¬(l.getD size 0).toNat<128):=by
 unfold hd2 at h;split at h;.cases h
 split at h;.cases h
 .rename_i C A
  cases h;exact⟨rfl,lK,λa b c=>A ⟨a,b,c⟩⟩
theorem BZ{size:Nat}(hn:size+n<=l.length)(h:n=1->¬(l.getD size 0).toNat<128):single ((l.drop size).take n)=false:=by
 cases e:(l.drop size).take n with
 |nil=>rfl
 |cons b t=>
  cases t with
  |cons c t=>rfl
  |nil=>
   have A:n=1:=by
    have:=congrArg List.length e;simp at this;omega
   have C:l[size]? =some b:=by
    have:=congrArg (λl=>l[0]?) e;simpa [A,List.getElem?_take]using this
   have:=h A;simp[List.getD,C]at this;simp[single];omega
theorem DR{q:Bool×Nat×Nat}(h:hd l=.ok q):
  q.2.1+q.2.2<=l.length/\0<q.2.1+q.2.2/\q.2.2<=l.length/\
  ((q.1=false/\q.2.1=0/\q.2.2=1/\single ((l.drop q.2.1).take q.2.2)=true)\/
   (l.take q.2.1=hdr (if q.1 then 192 else 128) q.2.2/\(q.1=false->single ((l.drop q.2.1).take q.2.2)=false)/\0<q.2.1)):=by
 cases l with
 |nil=>simp[hd]at h
 |cons b r=>
  simp only[hd]at h;have aa:=b.toNat_lt;split at h
  .rename_i c
   cases h;exact⟨lU,lU,lU,.inl ⟨rfl,rfl,rfl,by simp[single];omega⟩⟩
  rename_i c;have C:(if 192<=b.toNat then(192:Nat)else 128)=(if decide (192<=b.toNat)then 192 else 128):=lU;have Y:(if 192<=b.toNat then(192:Nat)else 128)<=b.toNat:=by split<;>omega
  have Z:(if 192<=b.toNat then(192:Nat)else 128)=128\/(if 192<=b.toNat then(192:Nat)else 128)=192:=by split<;>simp
  generalize decide (192<=b.toNat)=list at*;generalize hB:(if 192<=b.toNat then(192:Nat)else 128)=by' at*;split at h
  .rename_i c1
   obtain⟨rfl,E,J⟩:=Oz h;simp only[jm]at E⊢;refine⟨lK,lK,lK,.inr ⟨?_,λe=>BZ lW (λN=>J e N),lK⟩⟩;unfold hdr;rw[if_pos c1,<-C];have e:jl (by'+(b.toNat - by'))=b:=by rw[show by'+(b.toNat - by')=b.toNat by omega];simp
   rw[e];simp
  rename_i c1;split at h;.cases h
  rename_i c2;split at h;.cases h
  rename_i c3;obtain⟨rfl,E,J⟩:=Oz h;simp only[jm]at E c2⊢;refine⟨lK,lK,lK,.inr ⟨?_,λe=>BZ lW (λN=>J e N),lK⟩⟩;have hk:(r.take (b.toNat - by' - 55)).length=b.toNat - by' - 55:=lW;cases A:r.take (b.toNat - by' - 55)with
  |nil=>rw[A]at hk;simp at hk;omega
  |cons c0 t=>
   have O:r.head? =some c0:=by
    cases r with
    |nil=>simp at A
    |cons c1 ae=>rw[show b.toNat - by' - 55=(b.toNat - by' - 56)+1 by omega,ji]at A;simp at A⊢;exact A.1
   have Q:c0.toNat≠0:=by
    intro e;apply c3;left;rw[O];congr 1;exact jX.1 e
   have U:zH (ql (c0::t))=(c0::t).reverse:=by
    unfold ql;rw[List.reverse_cons,Jl _ _ Q]
   rw[A]at hk c3;unfold hdr;have V:¬ql (c0::t)<=55:=λh=>c3 (.inr lK)
   rw[if_neg V,U,List.reverse_reverse,List.length_reverse,hk,<-C];have e:jl (by'+55+(b.toNat - by' - 55))=b:=by rw[show by'+55+(b.toNat - by' - 55)=b.toNat by omega];simp
   rw[e,show 1+(b.toNat - by' - 55)=(b.toNat - by' - 55)+1 by omega,ji,A]
theorem SS{k:Nat}(h:∀l m y,rU k l m=.ok y->0<y.2.1/\y.2.1<=l.length/\y.2.2+y.1.count=m/\y.1.deep<=k/\y.1.all mO=true/\l.take y.2.1=enc y.1):
  ∀(f:Nat)(l:List UInt8)(m:Nat)(sub:List (lL IL))(y:List (lL IL)×Nat),JS (rU k) f l m sub=.ok y->
   ∃s,y.1=sub++s/\l=JR s/\y.2+lL.lZ s=m/\lL.mG s<=k/\lL.mR mO s=true:=by
 intro f;induction f with
 |zero=>intro l m sub y A;simp[JS]at A
 |succ f C=>
  intro l m sub y A;simp only[JS]at A;split at A
  .rename_i e
   cases A;exact⟨[],lU,by simp[e,JR],by simp[lL.lZ],by simp[lL.mG],by simp[lL.mR]⟩
  .split at A
   .cases A
   .rename_i x E
    obtain⟨O,Q,U,V,J,N⟩:=h _ _ _ E;obtain⟨s,e1,e2,e3,e4,e5⟩:=C _ _ _ _ A;refine⟨x.1::s,by rw[e1];simp,?_,?_,?_,?_⟩;.simp only[JR];rw[<-N,<-e2,List.take_append_drop]
    .simp only[lL.lZ];omega
    .simp only[lL.mG];omega
    .simp only[lL.mR,J,e5];rfl
theorem xE:∀(k:Nat)(l:List UInt8)(m:Nat)(y:lL IL×Nat×Nat),rU k l m=.ok y->
  0<y.2.1/\y.2.1<=l.length/\y.2.2+y.1.count=m/\y.1.deep<=k/\y.1.all mO=true/\l.take y.2.1=enc y.1:=by
 intro k;induction k with
 |zero=>intro l m y h;simp only[rU]at h;split at h<;>cases h
 |succ k O=>
  intro l m y h;simp only[rU]at h;split at h;.cases h
  split at h;.cases h
  rename_i hl Z;split at h;.cases h
  rename_i q Q;obtain⟨N,a2,a3,a4⟩:=DR Q;split at h
  .rename_i A
   split at h;.cases h
   rename_i z U;obtain⟨s,e1,e2,e3,e4,e5⟩:=SS O _ _ _ _ _ U;cases h;simp only[List.nil_append]at e1;refine⟨a2,N,?_,?_,?_,?_⟩;.simp only[lL.count,e1];omega
   .simp only[lL.deep,e1];omega
   .simp only[lL.all,e1,e5,mO,oW];rfl
   .rcases a4 with⟨C,_⟩|⟨C,_,_⟩
    .rw[A]at C;cases C
    .simp only[enc,if_true,e1,<-e2]
     rw[A,if_pos rfl]at C;rw[show((l.drop q.2.1).take q.2.2).length=q.2.2 by simp;omega,<-C,List.take_add]
  .rename_i A
   have E:q.1=false:=by simpa using A
   cases h;refine⟨a2,N,?_,?_,?_,?_⟩;.simp only[lL.count,lL.lZ];omega
   .simp only[lL.deep,lL.mG];omega
   .simp[lL.all,mO,oW,lL.mR]
   .rcases a4 with⟨C,J,V,Y⟩|⟨C,J,V⟩
    .simp only[enc,j4,if_false,Y,if_true]
     simp[J]
    .simp only[enc,j4,if_false,J E]
     rw[E]at C;simp only[j4,if_false]at C;rw[show((l.drop q.2.1).take q.2.2).length=q.2.2 by simp;omega,<-C,List.take_add]
end
section
open Go.RowKit
abbrev IT:jg:=47
def anyI:Nat->Prop:=λ_=>True
abbrev lX(w:iH)(Q:Nat->Prop)(v:iJ)(s:List (lL IL)):Prop:=xD.lY w Q v s
abbrev oZ(w:iH)(v:iJ)(s:List (lL IL)):Prop:=xD.lY w anyI v s
def txt(a:IL):ByteArray:=⟨a.text.toArray⟩
theorem JU(a:IL):(txt a).data.toList=a.text:=rfl
theorem vG(a:IL):(txt a).size=a.text.length:=kV
theorem lX.slice{s:List (lL IL)}(h:lX w Q v s):∃oa cap,v=lh oa s.length cap/\s.length<=cap/\cap<=jb:=by
 obtain⟨oa,cap,A,C,E,_⟩:=h;exact⟨oa,cap,A,C,E⟩
theorem lX.any{s:List (lL IL)}(h:lX w Q v s):oZ w v s:=
 Shape.lY.keep h (iI _) (λ_ _ _=>trivial) λ_ _ _=>rfl
theorem lX.at_{cap:Nat}{s:List (lL IL)}(h:lX w Q (lh oa n cap) s){i:Nat}{x:lL IL}(A:s[i]? =some x):
  ∃b off u,oa=some ⟨b,off,none⟩/\b<w.heap.size/\Q b/\w.cell? ⟨b,off+i*3,none⟩=some (ll (txt x.lab))/\w.cell? ⟨b,off+i*3+1,none⟩=some (lu x.lab.list)/\
   w.cell? ⟨b,off+i*3+2,none⟩=some u/\lX w Q u x.sub/\x.lab.text.length<=jb:=by
 obtain⟨O,C,E,U,V,J⟩:=Shape.lY.get h;cases E;obtain⟨b,off,u,e,hb,N,ho,hc,hs⟩:=J i x A;exact⟨b,off,u,e,hb,N,by simpa [xD,txt,jI]using hc 0 lM,by simpa [xD,jI]using hc 1 lM,by simpa [xD,jI]using hc 2 lM,hs,ho⟩
theorem qD{T:ByteArray}{l:Bool}{s:List (lL IL)}(h:lX w Q v s):
  ∀W,w.alloc (lG #[ll T,lu l,v] t)=W->iK w.heap.size w W/\lX W Q v s/\W.heap.size=w.heap.size+1/\
   W.cell? ⟨w.heap.size,0,none⟩=some (ll T)/\W.cell? ⟨w.heap.size,1,none⟩=some (lu l)/\W.cell? ⟨w.heap.size,2,none⟩=some v/\lN W w.heap.size #[ll T,lu l,v] t:=by
 rintro W rfl;have A:=(iL w.heap.size w).alloc (iI _) (lG #[ll T,lu l,v] t);have hB:=lN.new w #[ll T,lu l,v] t;exact⟨A,Shape.lY.below h A,lU,hB.cell 0,hB.cell 1,hB.cell 2,hB⟩
theorem Yk(a b:Int):(decide (a<=b)=true/\iW (a<=b))\/(decide (a<=b)=false/\iW (b<a)):=by
 by_cases h:a<=b;.exact .inl ⟨by simp[h],h⟩
 .exact .inr ⟨by simp[h],by unfold iW;omega⟩
theorem str_eq{a b:ByteArray}(h:a=b):(a.toList==b.toList)=true:=by subst h;simp
theorem SV{a b:ByteArray}(h:a≠b):(a.toList==b.toList)=false:=by rw[Lib.toList_data,Lib.toList_data,beq_eq_false_iff_ne];exact λe=>h (Go.WideShapes.bytes_inj e)
theorem SX(h:p:=by
 intro x;induction x using lL.ind with
 |h a s ih=>
  simp only[lL.deep,lL.count];have:∀t:List (lL α),(∀x,x∈t->x.deep<=x.count)->lL.mG t<=lL.lZ t:=by
   intro t;induction t with
   |nil=>intro _;simp[lL.mG]
   |cons y ys ih2=>
    intro h;have h1:=h y (List.mem_cons_self ..);have h2:=ih2 λz hz=>h z (List.mem_cons_of_mem _ hz)
    simp only[lL.mG,lL.lZ];omega
  have:=this s ih;omega):p:=h
theorem JV.zR(s:List (lL α)):lL.mG s<=lL.lZ s/\∀x:lL α,x∈s->x.deep<=x.count:=by
 have key:∀x:lL α,x.deep<=x.count:=by
  exact SX
 refine⟨?_,λx _=>key x⟩;induction s with
 |nil=>simp[lL.mG]
 |cons y ys ih=>
  have:=key y;simp only[lL.mG,lL.lZ];omega
theorem JV.qF(s:List (lL α))(i:Nat):lL.mG (s.take i)<=lL.mG s:=by
 conv=>rhs;rw[<-List.take_append_drop i s,lL.tY]
 exact Nat.le_max_left _ _
theorem uU(T:ByteArray):(T.toList==([]:List UInt8))=decide (T.size=0):=by
 rw[Lib.toList_data];by_cases h:T.size=0
 .rw[decide_eq_true h]
  have:T.data.toList=[]:=kR.1 (by simpa using h);rw[this];rfl
 .rw[decide_eq_false h,beq_eq_false_iff_ne]
  intro e;apply h;have:=congrArg List.length e;simpa using this
theorem JW(a:IL):decide ((txt a).size=0)=a.text.isEmpty:=by
 rw[vG];cases a.text<;>simp
theorem SY(h:p:=by
 have CY:=iF (IH.out y (jc hy) wr u hu);have hct:lL.lZ (s.take (k+1))=lL.lZ (s.take k)+y.count:=lL.uT hy;have hle:=lL.uD s (k+1);rw[HC.out]at hle;have HCT:=iF hct;rw[hct]at hle;generalize lL.lZ (s.take k)=ck at*;clear hu hwf hct;go_wp2_with fail;refine(CY.out lK).mono ?_;rintro e w2 ⟨rfl,hb2⟩;go_wp2_with fail;go_roundw;case rel=>exact⟨k+1,by go_num,lK,by rw[HCT.out];go_num,iF (hbe.out.trans (hb2.mono (by have:=hbe.out.size;omega)))⟩
 case measure=>simp[jA];omega):p:=h
theorem Hd(h:p:=by
 have HF:iW (iK g w wr):=iF (H1.out.1.trans (hbe.out.mono lK));go_wp2_with fail;go_returns;exact⟨rfl,HF.out⟩):p:=h
theorem DT(x:lL IL):∀(w:iH)(v:iJ),oZ w v x.sub->x.count<=100000->
  iU iG 51 #[lC #[ll (txt x.lab),lu x.lab.list,v]] w λe w'=>e=lF (lg lH (x.count:Nat))/\iK w.heap.size w w':=by
 induction x using lL.ind with
 |h a s Y=>
  intro w v A hc;simp only[lL.oD,lL.nk,lL.count]at A hc⊢;obtain⟨oa,cap,rfl,O,Z⟩:=lX.slice A;obtain⟨g,hg⟩:=lV w.heap.size;have E:=iF (qD (T:=txt a) (l:=a.list) (t:=IT) A);have J:=lL.og s;obtain⟨M,Q⟩:=lV s.length;have U:=iF Q;have IH:=iF Y;obtain⟨C,V⟩:=lV (lL.lZ s);have HC:=iF V;rw[hg]at E⊢;rw[Q]at E J⊢;rw[V]at hc J⊢;clear A O Z Y Q V;go_in;go_upto_region 1 with fail;generalize w.alloc (lG #[ll (txt a),lu a.list,lh oa M cap] IT)=w1 at*;obtain⟨N,ht1,hsz,c0,c1,c2,_⟩:=E.out _ rfl;have H1:=iF (iQ N ht1);clear E N ht1 c0 c1;go_wp2_with fail;go_loopw [3,4] (λae iv af=>∃k:Nat,iv=lg lH k/\k<=M/\ae=lg lH ((1+lL.lZ (s.take k):Nat):Int)/\iW (iK (g+1) w1 af)) (λ_ iv _=>M -(jA iv).toNat);case atStart=>exact⟨0,rfl,lK,by simp[lL.lZ],iF (iL _ _)⟩
  case round=>
   obtain⟨k,rfl,hk,rfl,hbe⟩:=hrel;have ag:wr.cell? ⟨g,2,none⟩=some (lh oa M cap):=(hbe.out.cell (p:=⟨g,2,none⟩) (jE g)).trans c2;by_cases c:k<M
   .obtain⟨ah,y,hy⟩:∃h:k<s.length,∃y,s[k]? =some y:=⟨by rw[U.out];exact c,_,iZ (by rw[U.out];exact c)⟩
    obtain⟨b,off,u,rfl,hlt,_,ai,aj,ak,hu,hwf⟩:=lX.at_ (Shape.lY.below H1.out.2 (hsz▸hbe.out)) hy;exact SY
   .obtain rfl:k=M:=lK
    have aa:s.take k=s:=by rw[<-U.out,kz]
    rw[aa,HC.out];exact Hd
theorem S9(h:p:=by
 rw[HD.out,hct]at hl1;have HCT:=iF hct;generalize lL.mG (s.take k)=ck at*;generalize y.deep=yd at*;have hbk:iW (∀w2,iK wr.heap.size wr w2->iK (g+1) w1 w2):=iF λw2 hb2=>hbe.out.trans (hb2.mono (by have:=hbe.out.size;omega))
 clear hu hwf hct;by_cases cd:ck<yd
 .have d1:decide ((ck:Int)<yd)=true:=lW
  go_wp2_with fail;refine(CY.out).mono ?_;rintro e w2 ⟨rfl,hb2⟩;go_wp2_with fail;go_roundw;case rel=>exact⟨k+1,by go_num,lK,by rw[HCT.out,Nat.max_eq_right lK],iF (hbk.out _ hb2)⟩
  case measure=>simp[jA];omega
 .have d1:decide ((ck:Int)<yd)=false:=lW
  go_wp2_with fail;refine(CY.out).mono ?_;rintro e w2 ⟨rfl,hb2⟩;go_wp2_with fail;go_roundw;case rel=>exact⟨k+1,by go_num,lK,by rw[HCT.out,Nat.max_eq_left lK],iF (hbk.out _ hb2)⟩
  case measure=>simp[jA];omega):p:=h
theorem FW(x:lL IL):∀(w:iH)(v:iJ),oZ w v x.sub->x.count<=100000->
  iU iG 50 #[lC #[ll (txt x.lab),lu x.lab.list,v]] w λe w'=>e=lF (lg lH (x.deep:Nat))/\iK w.heap.size w w':=by
 induction x using lL.ind with
 |h a s ae=>
  intro w v A hc;simp only[lL.oD,lL.nk,lL.count,lL.deep]at A hc⊢;obtain⟨oa,cap,rfl,U,af⟩:=lX.slice A;obtain⟨g,hg⟩:=lV w.heap.size;have E:=iF (qD (T:=txt a) (l:=a.list) (t:=IT) A);have N:=lL.og s;obtain⟨M,V⟩:=lV s.length;have Y:=iF V;have ai:=iF ae;obtain⟨C,Z⟩:=lV (lL.lZ s);have aj:=iF Z;obtain⟨D,aa⟩:=lV (lL.mG s);have HD:=iF aa;have O:=(JV.zR s).1;rw[hg]at E⊢;rw[V]at E N⊢;rw[Z]at hc N O;rw[aa]at O⊢;clear A U af ae V Z aa;go_in;go_upto_region 1 with fail;generalize w.alloc (lG #[ll (txt a),lu a.list,lh oa M cap] IT)=w1 at*;obtain⟨Q,ht1,hsz,c0,c1,c2,_⟩:=E.out _ rfl;have H1:=iF (iQ Q ht1);clear E Q ht1 c0 c1;go_wp2_with fail;go_loopw [3,4,5] (λak iv ay au=>∃k:Nat,iv=lg lH k/\k<=M/\ak=lg lH (lL.mG (s.take k):Nat)/\iW (iK (g+1) w1 au)) (λ_ iv _ _=>M -(jA iv).toNat);case atStart=>exact⟨0,rfl,lK,by simp[lL.mG],iF (iL _ _)⟩
  case round=>
   obtain⟨k,rfl,hk,rfl,hbe⟩:=hrel;have av:wr.cell? ⟨g,2,none⟩=some (lh oa M cap):=(hbe.out.cell (p:=⟨g,2,none⟩) (jE g)).trans c2;by_cases c:k<M
   .obtain⟨ax,y,J⟩:∃h:k<s.length,∃y,s[k]? =some y:=⟨by rw[Y.out];exact c,_,iZ (by rw[Y.out];exact c)⟩
    obtain⟨b,off,u,rfl,hlt,_,az,aA,aB,hu,hwf⟩:=lX.at_ (Shape.lY.below H1.out.2 (hsz▸hbe.out)) J;have ag:=lL.uC (jc J);rw[aj.out]at ag;have CY:=iF (ai.out y (jc J) wr u hu lK);have hct:lL.mG (s.take (k+1))=max (lL.mG (s.take k)) y.deep:=lL.uE J;have hl1:=JV.qF s (k+1);exact S9
   .obtain rfl:k=M:=lK
    have ah:s.take k=s:=by rw[<-Y.out,kz]
    rw[ah,HD.out];exact Hd
theorem JX(a:IL)(s:List (lL IL)):(lL.node a s).all mO=(oW a s.length&&lL.mR mO s):=rfl
theorem CQ(h:p:=by
 go_wp2_with fail;go_returns;exact⟨by rw[HE.out];rfl,HF.out⟩):p:=h
theorem Mo(h:p:=by
 go_wp2_with fail;refine(CY.out).mono ?_;rintro e w5 ⟨rfl,hb5⟩;have Zh:=iF (hbe.out.trans (hb5.mono hgr));clear hb5;go_wp2_with fail;go_roundw;case rel=>exact⟨k+1,by go_num,lK,HT,Zh⟩
 case measure=>simp[jA];omega):p:=h
theorem Ta(h:p:=by
 clear HFa;go_wp2_with fail;refine(CY.out).mono ?_;rintro e w5 ⟨rfl,hb5⟩;have Zh:=iF (HF.out.trans (hb5.mono lK));clear hb5;go_wp2_with fail;go_returns;exact⟨by rw[HE.out];rfl,Zh.out⟩):p:=h
theorem Mq(x:lL IL):∀(w:iH)(v:iJ),oZ w v x.sub->
  iU iG 82 #[lC #[ll (txt x.lab),lu x.lab.list,v]] w λe w'=>e=lF (lu (x.all mO))/\iK w.heap.size w w':=by
 induction x using lL.ind with
 |h a s au=>
  intro w v Q;simp only[lL.oD,lL.nk]at Q⊢;have C:=iF (JX a s);obtain⟨oa,cap,rfl,aa,Y⟩:=lX.slice Q;obtain⟨g,hg⟩:=lV w.heap.size;have U:=iF (qD (T:=txt a) (l:=a.list) (t:=IT) Q);have av:s.length<=9223372036854775807:=by unfold jb at Y;omega
  obtain⟨M,ae⟩:=lV s.length;have af:=iF ae;have ax:=iF au;obtain⟨R,ag⟩:=lV (lL.mR mO s);have ah:=iF ag;have E:iW (oW a M=if a.list then decide ((txt a).size=0)else decide (M=0)):=iF (by rw[JW];rfl);have N:=iF (uU (txt a));rw[hg]at U⊢;rw[ae]at U av C⊢;rw[ag]at C;generalize (lL.node a s).all mO=ai at*;generalize oW a M=K at*;clear Q aa Y au ae ag;go_in;go_upto_region 1 with fail;generalize w.alloc (lG #[ll (txt a),lu a.list,lh oa M cap] IT)=w1 at*;obtain⟨Z,ht1,hsz,c0,c1,c2,_⟩:=U.out _ rfl;have O:=iF (iQ Z ht1);clear U Z ht1;generalize txt a=T at*;generalize a.list=L at*;cases L with
  |true=>
   by_cases A:T.size=0
   .have J:iW (ai=R):=iF (by rw[C.out,E.out];simp[A])
    have ay:(T.toList==([]:List UInt8))=true:=by rw[N.out];simp[A]
    clear A E N C;go_wp2_with fail;clear c0 c1 ay;go_loopw [3] (λiv aj=>∃k:Nat,iv=lg lH k/\k<=M/\iW (lL.mR mO (s.take k)=true)/\iW (iK (g+1) w1 aj)) (λiv _=>M -(jA iv).toNat);case atStart=>exact⟨0,rfl,lK,by simp[iW,lL.mR],iF (iL _ _)⟩
    case round=>
     obtain⟨k,rfl,hk,ak,hbe⟩:=hrel;have az:wr.cell? ⟨g,2,none⟩=some (lh oa M cap):=(hbe.out.cell (p:=⟨g,2,none⟩) (jE g)).trans c2;have HF:iW (iK g w wr):=iF (O.out.1.trans (hbe.out.mono lK));have hgr:g+1<=wr.heap.size:=by have:=hbe.out.size;omega
     by_cases c:k<M
     .obtain⟨y,V⟩:∃y,s[k]? =some y:=⟨_,iZ (by rw[af.out];exact c)⟩
      obtain⟨b,off,u,rfl,hlt,_,aH,aI,aJ,aA,aB⟩:=lX.at_ (Shape.lY.below O.out.2 (hsz▸hbe.out)) V;have HT:iW (lL.mR mO (s.take (k+1))=y.all mO):=iF (by rw[lL.sD V,ak.out];rfl);have HFa:iW (y.all mO=false->R=false):=iF λh=>by rw[<-ah.out];exact lL.sF V h
      have CY:=iF (ax.out y (jc V) wr u aA);clear aA aB;generalize y.all mO=q at*;cases q with
      |true=>
       exact Mo
      |false=>
       have HE:iW (ai=false):=iF (by rw[J.out,HFa.out rfl]);exact Ta
     .obtain rfl:k=M:=lK
      have HE:iW (ai=true):=by
       unfold iW;have aG:s.take k=s:=by rw[<-af.out,kz]
       have aC:=ak.out;rw[aG]at aC;rw[J.out,<-ah.out,aC]
      exact CQ
   .have J:iW (ai=false):=iF (by rw[C.out,E.out];simp[A])
    have ay:(T.toList==([]:List UInt8))=false:=by rw[N.out];simp[A]
    clear A E N C;go_wp2_with fail;go_returns;exact⟨by rw[J.out];rfl,O.out.1⟩
  |false=>
   by_cases A:M=0
   .have J:iW (ai=R):=iF (by rw[C.out,E.out];simp[A])
    have aD:iW (R=true):=iF (by
     have:s=[]:=kR.1 (af.out.trans A);rw[<-ah.out,this];rfl)
    have aF:decide (0<M)=false:=by simp[A]
    subst A;clear E N C ax;go_wp2_with fail;clear c0 c1 aF;go_loopw [3] (λiv aj=>∃k:Nat,iv=lg lH k/\k<=0/\iW (lL.mR mO (s.take k)=true)/\iW (iK (g+1) w1 aj)) (λiv _=>0 -(jA iv).toNat);case atStart=>exact⟨0,rfl,lK,by simp[iW,lL.mR],iF (iL _ _)⟩
    case round=>
     obtain⟨k,rfl,hk,ak,hbe⟩:=hrel;have az:wr.cell? ⟨g,2,none⟩=some (lh oa 0 cap):=(hbe.out.cell (p:=⟨g,2,none⟩) (jE g)).trans c2;have HF:iW (iK g w wr):=iF (O.out.1.trans (hbe.out.mono lK));have hgr:g+1<=wr.heap.size:=by have:=hbe.out.size;omega
     obtain rfl:k=0:=lK;have HE:iW (ai=true):=iF (by rw[J.out,aD.out]);exact CQ
   .have J:iW (ai=false):=iF (by rw[C.out,E.out];simp[A])
    have aF:decide (0<M)=true:=lW;clear E N C;go_wp2_with fail;go_returns;exact⟨by rw[J.out];rfl,O.out.1⟩
theorem WI(x:lL IL):rO x=(x.all mO&&decide (x.deep<=16)&&decide (x.count<=1024)):=rfl
theorem JY(x:lL IL)(w:iH)(v:iJ)(Z:oZ w v x.sub)(hc:x.count<=100000):
  iU iG 48 #[lC #[ll (txt x.lab),lu x.lab.list,v]] w λe w'=>e=lF (lu (rO x))/\iK w.heap.size w w':=by
 have aa:=iF (qD (T:=txt x.lab) (l:=x.lab.list) (t:=IT) Z);obtain⟨oa,cap,rfl,ae,ak⟩:=lX.slice Z;obtain⟨g,hg⟩:=lV w.heap.size;have au:=iF (λ(W:iH) (h:oZ W (lh oa x.sub.length cap) x.sub)=>Mq x W _ h);have av:=iF (λ(W:iH) (h:oZ W (lh oa x.sub.length cap) x.sub)=>FW x W _ h hc);have aB:=iF (λ(W:iH) (h:oZ W (lh oa x.sub.length cap) x.sub)=>DT x W _ h hc);have af:=iF (WI x);have hd:=(JV.zR [x]).2 x lU;rw[hg]at aa⊢;clear Z ae ak;generalize rO x=R at*;generalize x.count=ag at*;generalize x.deep=dn at*;generalize x.all mO=aC at*;generalize x.sub.length=M at*;have Q:=Yk (ag:Int) 1024;have d8:=Yk (dn:Int) 16;go_in;go_upto_region 1 with fail;generalize w.alloc (lG #[ll (txt x.lab),lu x.lab.list,lh oa M cap] IT)=w1 at*;obtain⟨U,ht1,hsz,c0,c1,c2,_⟩:=aa.out _ rfl;have ah:=iF ht1;have aD:=iF U;have ax:=iF hsz;clear aa ht1 U hsz;have O:∀w2,iK w1.heap.size w1 w2->iW (iK g w w2/\oZ w2 (lh oa M cap) x.sub):=λw2 h=>⟨aD.out.trans (h.mono (by have:=ax.out;omega)),Shape.lY.below ah.out h⟩
 have O:=iF O;have hlt:g<w1.heap.size:=by have:=ax.out;omega
 cases aC with
 |false=>
  go_wp2_with fail;refine(au.out _ ah.out).mono ?_;rintro e w2 ⟨rfl,A⟩;have f2:=O.out _ A;clear A;go_wp2_with fail;go_returns;exact⟨by rw[af.out];rfl,f2.out.1⟩
 |true=>
  go_wp2_with fail;refine(au.out _ ah.out).mono ?_;rintro e w2 ⟨rfl,A⟩;have f2:=O.out _ A;have E:=iF A;have ay:=(A.cell (p:=⟨g,0,none⟩) hlt).trans c0;have az:=(A.cell (p:=⟨g,1,none⟩) hlt).trans c1;have aA:=(A.cell (p:=⟨g,2,none⟩) hlt).trans c2;have J:g<w2.heap.size:=by have:=A.size;omega
  clear A;rcases d8 with⟨d8,ai⟩|⟨d8,ai⟩
  .go_wp2_with fail
   refine(av.out _ f2.out.2).mono ?_;rintro e w3 ⟨rfl,C⟩;have N:=iF (E.out.trans (C.mono E.out.size));have f3:=O.out _ N.out;have aF:=(C.cell (p:=⟨g,0,none⟩) J).trans ay;have aG:=(C.cell (p:=⟨g,1,none⟩) J).trans az;have aH:=(C.cell (p:=⟨g,2,none⟩) J).trans aA;clear C;rcases Q with⟨Q,V⟩|⟨Q,V⟩
   all_goals
    go_wp2_with fail;refine(aB.out _ f3.out.2).mono ?_;rintro e w4 ⟨rfl,Y⟩;have aj:=iF (f3.out.1.trans (Y.mono (by have:=f3.out.1.size;omega)));clear Y;go_wp2_with fail;go_returns;refine⟨?_,aj.out⟩;have aJ:=V.out;have aI:=ai.out;rw[af.out];first|(rw[decide_eq_true (by omega:ag<=1024),decide_eq_true (by omega:dn<=16)];rfl)|(rw[decide_eq_false (by omega:¬ag<=1024),decide_eq_true (by omega:dn<=16)];rfl)
  .go_wp2_with fail
   refine(av.out _ f2.out.2).mono ?_;rintro e w3 ⟨rfl,C⟩;have N:=iF (E.out.trans (C.mono E.out.size));have f3:=O.out _ N.out;clear C;go_wp2_with fail;go_returns;refine⟨?_,f3.out.1⟩;have aI:=ai.out;rw[af.out,decide_eq_false (by omega:¬dn<=16)];rfl
theorem JZ(a:IL)(oa:Option kr)(n cap:Nat)(w:iH)(hn:n<=9223372036854775807):
  iU iG 200 #[lC #[ll (txt a),lu a.list,lh oa n cap]] w λe w'=>e=lF (lu (oW a n))/\iK w.heap.size w w':=by
 obtain⟨g,hg⟩:=lV w.heap.size;have J:iW (∀W,w.alloc (lG #[ll (txt a),lu a.list,lh oa n cap] IT)=W->iK g w W/\lN W g #[ll (txt a),lu a.list,lh oa n cap] IT):=iF λW h=>by
  subst h;exact⟨hg▸(iL _ w).alloc (iI _) _,hg▸lN.new w _ _⟩
 have A:iW (oW a n=if a.list then decide ((txt a).size=0)else decide (n=0)):=iF (by rw[JW];rfl);have C:=iF (uU (txt a));rw[hg];generalize oW a n=K at*;generalize txt a=T at*;generalize a.list=L at*;go_in;go_upto_region 1 with fail;generalize w.alloc (lG #[ll T,lu L,lh oa n cap] IT)=w1 at*;obtain⟨hb,hB⟩:=J.out _ rfl;obtain⟨c0,c1,c2⟩:=hB.a3;have HB:=iF hb;clear J hb hB;cases L with
 |true=>
  obtain⟨q,E⟩:=lV ((T.toList==([]:List UInt8)));have HE:iW (K=q):=iF (by rw[A.out,<-E,C.out];rfl);clear A C;exact Bg
 |false=>
  obtain⟨q,E⟩:=lV (((n:Int)==0));have HE:iW (K=q):=iF (by
   rw[A.out,<-E];by_cases h:n=0;.simp[h]
   .simp[h])
  clear A C;exact Bg
def NB(w:iH)(b n:Nat):Prop:=lN w b #[lg lH (n:Int)] 3
abbrev zS(b q:Nat)(w:iH)(v:iJ)(s:List (lL IL)):Prop:=xD.lY w (λc=>c≠b/\c≠q) v s
theorem zS.upd{b q:Nat}{s:List (lL IL)}(h:zS b q w v s)(A:mH b q w w'):zS b q w' v s:=
 Shape.lY.keep h A.size (λ_ _ h=>h) λc hc C=>A.block c hc C.1 C.2
theorem mH.of{b q:Nat}(h:iK w.heap.size w w'):mH b q w w':=⟨h.os,h.tape,h.output,h.size,λi hi _ _=>h.block i hi⟩
structure xG(w:iH)(bc be bd bv:Nat):Prop where
 each:lN w be #[.func (.func 200) #[] #[]] 56
 visit:lN w bv #[.func (.func 238) #[] #[lq (some ⟨bc,0,none⟩),lq (some ⟨be,0,none⟩),lq (some ⟨bd,0,none⟩),lq (some ⟨bv,0,none⟩)]] 273
 e1:be≠bc
 e2:be≠bd
 v1:bv≠bc
 v2:bv≠bd
 cd:bc≠bd
theorem xG.upd{bc be bd bv:Nat}(h:xG w bc be bd bv)(A:mH bc bd w w'):xG w' bc be bd bv:=⟨A.blk h.each h.e1 h.e2,A.blk h.visit h.v1 h.v2,h.e1,h.e2,h.v1,h.v2,h.cd⟩
theorem xG.below{bc be bd bv:Nat}(h:xG w bc be bd bv)(hb:iK w.heap.size w w'):xG w' bc be bd bv:=h.upd (mH.of hb)
theorem NB.below{b:Nat}(h:NB w b n)(hb:iK w.heap.size w w'):NB w' b n:=Below.blk hb h (lN.lt h)
def Fp(x:lL IL)(d n:Nat):Bool:=decide (d+x.deep<=17)&&decide (n+x.count<=1024)&&x.all mO
theorem Qw(x:lL IL):Fp x 1 0=rO x:=by
 unfold Fp rO;rw[show decide (1+x.deep<=17)=decide (x.deep<=16)by rw[decide_eq_decide];omega,show decide (0+x.count<=1024)=decide (x.count<=1024)by rw[decide_eq_decide];omega];cases x.all mO<;>cases decide (x.deep<=16)<;>cases decide (x.count<=1024)<;>rfl
abbrev Mr(g:Nat):iJ:=.func (.func 238) #[] #[lq (some ⟨g+2,0,none⟩),lq (some ⟨g+1,0,none⟩),lq (some ⟨g+3,0,none⟩),lq (some ⟨g+4,0,none⟩)]
structure a09(g:Nat)(w w1 w2 w3 w4 w5:iH)(a:IL)(v:iJ):Prop where
 e1:w.alloc (lG #[ll (txt a),lu a.list,v] IT)=w1
 e2:w1.alloc (lG #[.func (.func 200) #[] #[]] 56)=w2
 e3:w2.alloc (lG #[lg lH 0] 3)=w3
 e4:w3.alloc (lG #[lg lH 0] 3)=w4
 e5:w4.alloc (lG #[.nilFunc] 273)=w5
structure OA(g:Nat)(w W:iH)(a:IL)(v:iJ)(s:List (lL IL)):Prop where
 nV:iK g w W
 item:lN W g #[ll (txt a),lu a.list,v] IT
 off:zS (g+2) (g+3) W v s
 c:NB W (g+2) 0
 d:NB W (g+3) 0
 vis:xG W (g+2) (g+1) (g+3) (g+4)
 size:W.heap.size=g+5
theorem Tc{g:Nat}{w1 w2 w3 w4 w5 W:iH}{a:IL}{s:List (lL IL)}(hg:w.heap.size=g)(Z:oZ w v s)(aa:a09 g w w1 w2 w3 w4 w5 a v)(h:w5.setCell ⟨g+4,0,none⟩ (Mr g)=W):
  OA g w W a v s/\w1.heap.size=g+1/\w2.heap.size=g+2/\w3.heap.size=g+3/\w4.heap.size=g+4/\w5.cell? ⟨g+4,0,none⟩=some .nilFunc/\w5.frozen? ⟨g+4,0,none⟩=false:=by
 obtain⟨e1,e2,e3,e4,e5⟩:=aa;have N:w1.heap.size=g+1:=by rw[<-e1];simp;omega
 have O:w2.heap.size=g+2:=by rw[<-e2];simp;omega
 have Q:w3.heap.size=g+3:=by rw[<-e3];simp;omega
 have U:w4.heap.size=g+4:=by rw[<-e4];simp;omega
 have ae:w5.heap.size=g+5:=by rw[<-e5];simp;omega
 have b1:iK g w w1:=by rw[<-e1,<-hg];exact(iL _ w).alloc (iI _) _
 have af:iK (g+1) w1 w2:=by rw[<-e2,<-N];exact(iL _ w1).alloc (iI _) _
 have b3:iK (g+2) w2 w3:=by rw[<-e3,<-O];exact(iL _ w2).alloc (iI _) _
 have b4:iK (g+3) w3 w4:=by rw[<-e4,<-Q];exact(iL _ w3).alloc (iI _) _
 have ag:iK (g+4) w4 w5:=by rw[<-e5,<-U];exact(iL _ w4).alloc (iI _) _
 have ah:lN w1 g #[ll (txt a),lu a.list,v] IT:=by have:=lN.new w #[ll (txt a),lu a.list,v] IT;rw[e1,hg]at this;exact this
 have ai:lN w2 (g+1) #[.func (.func 200) #[] #[]] 56:=by have:=lN.new w1 #[.func (.func 200) #[] #[]] 56;rw[e2,N]at this;exact this
 have aj:lN w3 (g+2) #[lg lH 0] 3:=by have:=lN.new w2 #[lg lH 0] 3;rw[e3,O]at this;exact this
 have ak:lN w4 (g+3) #[lg lH 0] 3:=by have:=lN.new w3 #[lg lH 0] 3;rw[e4,Q]at this;exact this
 have V:lN w5 (g+4) #[.nilFunc] 273:=by have:=lN.new w4 #[.nilFunc] 273;rw[e5,U]at this;exact this
 have Y:iK (g+4) w4 W:=by
  rw[<-h];exact ng.below ((ng.refl (g+4) w5).set 0 _) ag (iI _) lK
 have C:iK (g+3) w3 W:=b4.trans (Y.mono lK);have E:iK (g+2) w2 W:=b3.trans (C.mono lK);have J:iK (g+1) w1 W:=af.trans (E.mono lK);have A:iK g w W:=b1.trans (J.mono lK);refine⟨?_,N,O,Q,U,V.cell 0,V.free 0⟩;refine⟨A,Below.blk J ah lK,?_,Below.blk C aj lK,Below.blk Y ak lK,⟨Below.blk E ai lK,?_,lK,lK,lK,lK,lK⟩,by rw[<-h];simp[jf,ae]⟩;.exact Shape.lY.keep Z A.size (λc hc _=>by omega) λc hc _=>A.block c lK
 .rw[<-h]
  exact V.set 0 (Mr g)
def zT(x:lL IL)(d n A bc bd:Nat)(w:iH)(e:Ending)(w':iH):Prop:=
 e=lF (lu (Fp x d n))/\mH bc bd w w'/\(∃C,C<=1024/\NB w' bc C)/\(∃A,A<=16/\NB w' bd A)/\(Fp x d n=true->NB w' bc (n+x.count)/\NB w' bd (max A (d+x.deep - 1)))
theorem OB(h:p:=by
 go_wp2_with fail;exact HP.out _ _ ⟨by rw[HE.out];rfl,HU1.out,⟨n,hn,VU.out.2.1⟩,⟨dd,hdd,VU.out.2.2.1⟩,λh=>by rw[HE.out]at h;cases h⟩):p:=h
theorem J2(x:lL IL):∀(w:iH)(v:iJ)(d n dd bc be bd bv:Nat),zS bc bd w v x.sub->NB w bc n->NB w bd dd->xG w bc be bd bv->d<=17->n<=1024->dd<=16->
  iU iG 238 #[lC #[ll (txt x.lab),lu x.lab.list,v],lg lH d,lq (some ⟨bc,0,none⟩),lq (some ⟨be,0,none⟩),lq (some ⟨bd,0,none⟩),lq (some ⟨bv,0,none⟩)] w (zT x d n dd bc bd w):=by
 induction x using lL.ind with
 |h a s bW=>
  intro w v d n dd bc be bd bv aM bJ bK bX hd hn hdd;simp only[lL.oD,lL.nk]at aM⊢;obtain⟨oa,cap,rfl,bL,aP⟩:=lX.slice aM;obtain⟨g,hg⟩:=lV w.heap.size;have aQ:s.length<=9223372036854775807:=by unfold jb at aP;omega
  have HP:iW (∀e w',(e=lF (lu (Fp (.node a s) d n))/\mH bc bd w w'/\(∃bY,bY<=1024/\NB w' bc bY)/\(∃dd,dd<=16/\NB w' bd dd)/\(Fp (.node a s) d n=true->NB w' bc (n+(1+lL.lZ s))/\NB w' bd (max dd (d+(lL.mG s+1) - 1))))->zT (.node a s) d n dd bc bd w e w'):=iF λ_ _ h=>h
  generalize bZ:zT (.node a s) d n dd bc bd w=dJ at HP⊢;have J:iW (Fp (.node a s) d n=(decide (d+(lL.mG s+1)<=17)&&decide (n+(1+lL.lZ s)<=1024)&&(oW a s.length&&lL.mR mO s))):=iF rfl;have eH:bc<g:=hg▸lN.lt bJ;have eO:bd<g:=hg▸lN.lt bK
  have bM:iW (∀W,w.alloc (lG #[ll (txt a),lu a.list,lh oa s.length cap] IT)=W->mH bc bd w W/\zS bc bd W (lh oa s.length cap) s/\NB W bc n/\NB W bd dd/\xG W bc be bd bv/\W.heap.size=g+1/\
    lN W g #[ll (txt a),lu a.list,lh oa s.length cap] IT):=iF λW h=>by
   subst h;have E:=(iL w.heap.size w).alloc (iI _) (lG #[ll (txt a),lu a.list,lh oa s.length cap] IT);exact⟨mH.of E,aM.upd (mH.of E),bJ.below E,bK.below E,bX.below E,lW,hg▸lN.new w _ _⟩
  generalize Fp (.node a s) d n=R at*;obtain⟨M,bN⟩:=lV s.length;have cz:=iF bN;have dK:=iF bW;obtain⟨C,Y⟩:=lV (lL.lZ s);have cB:=iF Y;obtain⟨D,Z⟩:=lV (lL.mG s);have cK:=iF Z;rw[bN]at bM aQ J⊢;rw[Y,Z]at J;rw[Y,Z]at HP;clear aM bL aP bW bN bJ bK Y Z bZ bX;go_in;go_upto_region 1 with fail;generalize w.alloc (lG #[ll (txt a),lu a.list,lh oa M cap] IT)=w1 at*;obtain⟨aR,aS,ax,aT,ay,hsz,hB⟩:=bM.out _ rfl;obtain⟨dL,cO,g2⟩:=hB.a3;have l0:w1.cell? ⟨bc,0,none⟩=some (lg lH n):=ax.cell 0;have dM:w1.cell? ⟨be,0,none⟩=some (.func (.func 200) #[] #[]):=ay.each.cell 0;have HU1:=iF aR;have VU:=iF (iQ aS (iQ ax (iQ aT (iQ ay hB))));have bO:=iF (JZ a oa M cap w1 aQ);clear bM aR aS ax aT ay hB;by_cases cd:16<d
  .have dN:decide (16<(d:Int))=true:=lW
   have HE:iW (R=false):=iF (by rw[J.out,decide_eq_false lK];rfl);clear cd;exact OB
  have dN:decide (16<(d:Int))=false:=lW;have dO:d<=16:=lK;clear cd;by_cases bP:n=1024
  .have dP:((n:Int)==1024)=true:=by simp[bP]
   have HE:iW (R=false):=iF (by rw[J.out,decide_eq_false (by omega:¬n+(1+C)<=1024),Bool.and_false];rfl);clear bP;exact OB
  have dP:((n:Int)==1024)=false:=sQ;have eP:n<=1023:=lK;clear bP;generalize oW a M=q at*;cases q with
  |false=>
   have HE:iW (R=false):=iF (by rw[J.out];simp);go_wp2_with fail;refine bO.out.mono ?_;rintro e w2 ⟨rfl,A⟩;have aa:=iF (HU1.out.trans (mH.of A));have cZ:=iF (VU.out.2.1.below A);have df:=iF (VU.out.2.2.1.below A);clear A;go_wp2_with fail;exact HP.out _ _ ⟨by rw[HE.out];rfl,aa.out,⟨n,hn,cZ.out⟩,⟨dd,hdd,df.out⟩,λh=>by rw[HE.out]at h;cases h⟩
  |true=>
   have dh:iW (R=(decide (d+(D+1)<=17)&&decide (n+(1+C)<=1024)&&lL.mR mO s)):=iF (by rw[J.out];simp);clear J;obtain⟨dm,az⟩:=lV (max dd d);have dQ:(if dd<d then(d:Int)else(dd:Int))=(dm:Int):=by split<;>omega
   have aA:max (dd:Int) (d:Int)=(dm:Int):=lK;have aA:dm<=16:=lK;have aU:=iF az;clear az;go_wp2_with fail;refine bO.out.mono ?_;rintro e w2 ⟨rfl,A⟩;have ae:=VU.out.2.1.below A;have hd2:=VU.out.2.2.1.below A;have a0:w2.cell? ⟨bc,0,none⟩=some (lg lH n):=ae.cell 0;have dR:w2.frozen? ⟨bc,0,none⟩=false:=ae.free 0;have b0:w2.cell? ⟨bd,0,none⟩=some (lg lH dd):=hd2.cell 0;have b1:w2.frozen? ⟨bd,0,none⟩=false:=hd2.free 0;have aV:bc≠bd:=VU.out.2.2.2.1.cd;have dw:=(A.cell (p:=⟨g,2,none⟩) (show g<w1.heap.size by omega)).trans g2;have dx:g≠bc:=lK;have dz:g≠bd:=lK;have aa:=iF (HU1.out.trans (mH.of A));have dS:=iF (iQ ae (iQ hd2 (iQ (VU.out.1.upd (mH.of A)) (iQ (VU.out.2.2.2.1.below A) (Below.blk A VU.out.2.2.2.2 lK)))));clear A ae hd2 bO dL cO g2 dM l0;have aW:iW (∀W,(w2.setCell ⟨bc,0,none⟩ (lg lH ((n:Int)+1))).setCell ⟨bd,0,none⟩ (lg lH dm)=W->mH bc bd w2 W/\NB W bc (n+1)/\NB W bd dm/\lN W g #[ll (txt a),lu a.list,lh oa M cap] IT/\zS bc bd W (lh oa M cap) s/\xG W bc be bd bv):=iF λW h=>by
    subst h;obtain⟨dU,dV,dW,dX,dY⟩:=dS.out;have N:mH bc bd w2 ((w2.setCell ⟨bc,0,none⟩ (lg lH ((n:Int)+1))).setCell ⟨bd,0,none⟩ (lg lH dm)):=((mH.refl bc bd w2).y7 0 _).Lu 0 _;refine⟨N,?_,?_,N.blk dY dx dz,dW.upd N,dX.upd N⟩
    .have:=(lN.set dU 0 (lg lH ((n:Int)+1))).setOther (a:=⟨bd,0,none⟩) aV (lg lH dm)
     exact this
    .have:=(lN.setOther dV (a:=⟨bc,0,none⟩) (Ne.symm aV) (lg lH ((n:Int)+1))).set 0 (lg lH dm)
     exact this
   go_upto_region 5 with fail;generalize (w2.setCell ⟨bc,0,none⟩ (lg lH ((n:Int)+1))).setCell ⟨bd,0,none⟩ (lg lH dm)=w3 at*;obtain⟨aX,aY,aZ,aB,bg,bq⟩:=aW.out _ rfl;have eT:w3.cell? ⟨g,2,none⟩=some (lh oa M cap):=aB.cell 2;have eQ:g+1<=w3.heap.size:=lN.lt aB;have au:=iF (iQ aX (iQ aY (iQ aZ (iQ bg bq))));clear aW aX aY aZ aB bg bq a0 dR b0 b1 dw;go_wp2_with fail
   go_loopw [10,31] (λ_ iv bQ=>∃k:Nat,iv=lg lH k/\k<=M/\iW (mH bc bd w3 bQ)/\iW (NB bQ bc (n+1+lL.lZ (s.take k))/\n+1+lL.lZ (s.take k)<=1024)/\iW (∃e,e<=16/\NB bQ bd e/\e=max dm (d+lL.mG (s.take k)))/\
    iW (d+1+lL.mG (s.take k)<=17/\lL.mR mO (s.take k)=true)) (λ_ iv _=>M -(jA iv).toNat)
   case atStart=>exact⟨0,rfl,lK,iF (mH.refl _ _ _),iF (by simpa [lL.lZ]using⟨au.out.2.1,lK⟩),iF ⟨dm,aA,au.out.2.2.1,by have:=aU.out;simp[lL.mG];omega⟩,iF ⟨by simp[lL.mG];omega,by simp[lL.mR]⟩⟩
   case round=>
    obtain⟨k,rfl,hk,aN,af,ag,aO⟩:=hrel;have dZ:iW (mH bc bd w wr):=iF (aa.out.trans (au.out.1.trans aN.out));by_cases c:k<M
    .obtain⟨y,O⟩:∃y,s[k]? =some y:=⟨_,iZ (by rw[cz.out];exact c)⟩
     have bu:=au.out.2.2.2.1.upd aN.out;obtain⟨b,off,u,rfl,hlt,bR,eU,eX,ed,N,dA⟩:=lX.at_ bu O;have bz:=au.out.2.2.2.2.upd aN.out;obtain⟨ou,cu,rfl,_,_⟩:=lX.slice N;obtain⟨Q,bA⟩:=lV y.sub.length;rw[bA]at N ed;obtain⟨e,he,bB,aC⟩:=ag.out;have dB:=iF aC;clear aC;obtain⟨V,aD⟩:=lV (n+1+lL.lZ (s.take k));have ah:=af.out;rw[aD]at ah
     have dC:iW (∀W,wr.alloc (lG #[ll (txt y.lab),lu y.lab.list,lh ou Q cu] IT)=W->mH bc bd w3 W/\zS bc bd W (lh ou Q cu) y.sub/\NB W bc V/\NB W bd e/\xG W bc be bd bv/\
       lN W wr.heap.size #[ll (txt y.lab),lu y.lab.list,lh ou Q cu] IT):=iF λW h=>by
      subst h;have E:=(iL wr.heap.size wr).alloc (iI _) (lG #[ll (txt y.lab),lu y.lab.list,lh ou Q cu] IT);exact⟨aN.out.trans (mH.of E),zS.upd N (mH.of E),ah.1.below E,bB.below E,bz.below E,lN.new wr _ _⟩
     have dD:=iF ah.2;have bC:=iF aD;clear N dA bA bB bu bz ah aD bR;go_upto_region 8 with fail;generalize wr.alloc (lG #[ll (txt y.lab),lu y.lab.list,lh ou Q cu] IT)=w4 at*;obtain⟨aF,bD,bE,bF,aG,ai⟩:=dC.out _ rfl;have b0:w4.cell? ⟨wr.heap.size,0,none⟩=some (ll (txt y.lab)):=ai.cell 0;have b1:w4.cell? ⟨wr.heap.size,1,none⟩=some (lu y.lab.list):=ai.cell 1;have eY:w4.cell? ⟨wr.heap.size,2,none⟩=some (lh ou Q cu):=ai.cell 2;have v0:w4.cell? ⟨bv,0,none⟩=some (.func (.func 238) #[] #[lq (some ⟨bc,0,none⟩),lq (some ⟨be,0,none⟩),lq (some ⟨bd,0,none⟩),lq (some ⟨bv,0,none⟩)]):=aG.visit.cell 0
     have dE:iW (iU iG 238 #[lC #[ll (txt y.lab),lu y.lab.list,lh ou Q cu],lg lH ((d:Int)+1),lq (some ⟨bc,0,none⟩),lq (some ⟨be,0,none⟩),lq (some ⟨bd,0,none⟩),lq (some ⟨bv,0,none⟩)] w4
       (zT y (d+1) V e bc bd w4)):=iF (dK.out y (jc O) w4 (lh ou Q cu) (d+1) V e bc be bd bv bD bE bF aG lK dD.out he)
     have dF:=iF (aa.out.trans (au.out.1.trans aF));have bS:=iF aF;have aH:iW (Fp y (d+1) V=(decide (d+1+y.deep<=17)&&decide (V+y.count<=1024)&&y.all mO)):=iF rfl;clear dC aF bD bE bF aG ai;obtain⟨r,bT⟩:=lV (Fp y (d+1) V);rw[bT]at aH;have bG:=iF bT;clear bT;cases r with
     |true=>
      go_wp2_with fail;refine(dE.out).mono ?_;rintro e2 w5 ⟨rfl,U,aj,ak,hok⟩;rw[bG.out]at hok⊢;have aI:=iF (bS.out.trans U);have aJ:=iF (hok rfl).1;have aK:=iF (hok rfl).2;clear U aj ak hok;go_wp2_with fail;have aL:=aH.out;have bU:=lL.uT O;have bV:=lL.uE O;have ek:=lL.sD (p:=mO) O;have eu:=bC.out;have av:=aO.out;simp only[Bool.true_eq,iY,decide_eq_true_eq]at aL;go_roundw;case rel=>
       refine⟨k+1,by go_num,lK,iF aI.out,iF ⟨?_,by rw[bU];omega⟩,iF ⟨_,?_,aK.out,?_⟩,iF ⟨by rw[bV];omega,by rw[ek,av.2,aL.2];rfl⟩⟩
       .rw[bU,show n+1+(lL.lZ (s.take k)+y.count)=V+y.count by omega]
        exact aJ.out
       .omega
       .have:=dB.out
        rw[bV];omega
      case measure=>simp[jA];omega
     |false=>
      go_wp2_with fail;refine(dE.out).mono ?_;rintro e2 w5 ⟨rfl,U,aj,ak,hok⟩;rw[bG.out];have aI:=iF (dF.out.trans U);have aJ:=iF aj;have aK:=iF ak;clear U aj ak hok;go_wp2_with fail;have bH:R=false:=by
       have aL:=aH.out;have bU:=lL.uT O;have bV:=lL.uE O;have eu:=bC.out;have eB:=lL.uD s (k+1);have eD:=JV.qF s (k+1);rw[cB.out]at eB;rw[cK.out]at eD;have eF:¬(d+(D+1)<=17/\n+(1+C)<=1024/\lL.mR mO s=true):=by
        rintro⟨cO,g2,g3⟩;have e3:y.all mO=true:=by
         cases dG:y.all mO with
         |true=>rfl
         |false=>rw[lL.sF O dG]at g3;cases g3
        rw[decide_eq_true lK,decide_eq_true lK,e3]at aL;cases aL
       rw[dh.out];cases av:(decide (d+(D+1)<=17)&&decide (n+(1+C)<=1024)&&lL.mR mO s)with
       |false=>rfl
       |true=>
        exfalso;simp only[iY,decide_eq_true_eq]at av;exact eF ⟨av.1.1,av.1.2,av.2⟩
      exact HP.out _ _ ⟨by rw[bH];rfl,aI.out,aJ.out,aK.out,λh=>by rw[bH]at h;cases h⟩
    .obtain rfl:k=M:=lK
     have dH:s.take k=s:=by rw[<-cz.out,kz]
     rw[dH]at af aO ag;rw[cB.out]at af;rw[cK.out]at aO ag;go_wp2_with fail;have eG:=aO.out;have hc:=af.out;have dI:R=true:=by rw[dh.out,decide_eq_true lK,decide_eq_true lK,eG.2];rfl
     obtain⟨e,he,bI,aC⟩:=ag.out;have az:=aU.out;refine HP.out _ _ ⟨by rw[dI];rfl,dZ.out,⟨_,hc.2,hc.1⟩,⟨e,he,bI⟩,λ_=>⟨by rw[show n+(1+C)=n+1+C by omega];exact hc.1,?_⟩⟩;rw[show max dd (d+(D+1) - 1)=e by omega];exact bI
def Td(x:lL IL):Int:=if rO x=true then(x.count:Int)else 0
def Te(x:lL IL):Int:=if rO x=true then(x.deep:Int)else 0
theorem DU(x:lL IL)(w:iH)(v:iJ)(ak:oZ w v x.sub):
  iU iG 199 #[lC #[ll (txt x.lab),lu x.lab.list,v],.func (.func 200) #[] #[]] w λe w'=>e=lF (lD #[lg lH (Td x),lg lH (Te x),lu (rO x)])/\iK w.heap.size w w':=by
 obtain⟨g,hg⟩:=lV w.heap.size;obtain⟨oa,cap,rfl,au,aB⟩:=lX.slice ak;obtain⟨w1,e1⟩:=lV (w.alloc (lG #[ll (txt x.lab),lu x.lab.list,lh oa x.sub.length cap] IT));obtain⟨w2,e2⟩:=lV (w1.alloc (lG #[.func (.func 200) #[] #[]] 56));obtain⟨w3,e3⟩:=lV (w2.alloc (lG #[lg lH 0] 3));obtain⟨w4,e4⟩:=lV (w3.alloc (lG #[lg lH 0] 3));obtain⟨w5,e5⟩:=lV (w4.alloc (lG #[.nilFunc] 273));have av:=Tc (W:=w5.setCell ⟨g+4,0,none⟩ (Mr g)) hg ak ⟨e1,e2,e3,e4,e5⟩ rfl;obtain⟨hI,aH,aI,aJ,aK,aL,ax⟩:=av;obtain⟨R,N⟩:=lV (rO x);have aM:=iF N;obtain⟨sn,O⟩:=lV (Td x);obtain⟨aN,Q⟩:=lV (Te x);have ae:iW (sn=(if R=true then(x.count:Int)else 0)/\aN=(if R=true then(x.deep:Int)else 0)):=iF ⟨by rw[<-O,<-N];rfl,by rw[<-Q,<-N];rfl⟩;rw[O,Q];have J:=iF hI;have aC:=iF (λ(h:OA g w (w5.setCell ⟨g+4,0,none⟩ (Mr g)) x.lab (lh oa x.sub.length cap) x.sub)=>J2 x (w5.setCell ⟨g+4,0,none⟩ (Mr g)) (lh oa x.sub.length cap) 1 0 0 (g+2) (g+1) (g+3) (g+4) h.off h.c h.d h.vis lM lM lM);rw[hg,N];clear ak au aB N hI O Q;generalize x.sub.length=M at*;go_in;go_upto_region 3 with fail;generalize w5.setCell ⟨g+4,0,none⟩ (Mr g)=U at*;have v0:U.cell? ⟨g+4,0,none⟩=some (Mr g):=J.out.vis.visit.cell 0;have aU:U.cell? ⟨g,0,none⟩=some (ll (txt x.lab)):=J.out.item.cell 0;have aV:U.cell? ⟨g,1,none⟩=some (lu x.lab.list):=J.out.item.cell 1;have aW:U.cell? ⟨g,2,none⟩=some (lh oa M cap):=J.out.item.cell 2;have aD:=iF (aC.out J.out);clear aC e1 e2 e3 e4 e5 aL ax aH aI aJ aK;go_wp2_with fail;refine(aD.out).mono ?_;rintro e A ⟨rfl,af,⟨V,aS,C⟩,⟨Y,aT,E⟩,hok⟩;rw[Qw,aM.out]at hok⊢;have aF:iW (R=true->V=x.count/\Y=x.deep):=iF λh=>by
  obtain⟨Z,aO⟩:=hok h;have ax:=(Eq.symm (C.cell 0)).trans (Z.cell 0);have aP:=(Eq.symm (E.cell 0)).trans (aO.cell 0);simp only[iP,iO,kM,Value.int.injEq,true_and]at ax aP;omega
 clear hok;have a0:A.cell? ⟨g+2,0,none⟩=some (lg lH V):=C.cell 0;have aX:A.frozen? ⟨g+2,0,none⟩=false:=C.free 0;have b0:A.cell? ⟨g+3,0,none⟩=some (lg lH Y):=E.cell 0;have b1:A.frozen? ⟨g+3,0,none⟩=false:=E.free 0;have ag:g+2≠g+3:=lK;have ah:iW (∀u v:iJ,iK g w ((A.setCell ⟨g+2,0,none⟩ u).setCell ⟨g+3,0,none⟩ v)):=iF λu v=>by
  have aa:mH (g+2) (g+3) U ((A.setCell ⟨g+2,0,none⟩ u).setCell ⟨g+3,0,none⟩ v):=(af.y7 0 u).Lu 0 v;have h0:=J.out.nV;refine⟨aa.os.trans h0.os,aa.tape.trans h0.tape,aa.output.trans h0.output,je h0.size aa.size,λc hc=> ?_⟩;exact(aa.block c (by have:=J.out.size;omega) lK lK).trans (h0.block c hc)
 have ai:iW (∀u v:iJ,((A.setCell ⟨g+2,0,none⟩ u).setCell ⟨g+3,0,none⟩ v).cell? ⟨g+2,0,none⟩=some u/\((A.setCell ⟨g+2,0,none⟩ u).setCell ⟨g+3,0,none⟩ v).cell? ⟨g+3,0,none⟩=some v):=iF λu v=>
  ⟨((lN.set C 0 u).setOther (a:=⟨g+3,0,none⟩) ag v).cell 0,((lN.setOther E (a:=⟨g+2,0,none⟩) (Ne.symm ag) u).set 0 v).cell 0⟩
 clear af C E;cases R with
 |false=>
  go_wp2_with fail;obtain⟨ay,Z⟩:=ai.out (lg lH 0) (lg lH 0);refine iV (v:=lD #[lg lH 0,lg lH 0,lu false]) (by simp[jr,Tryz.results199,go_sem,ay,Z]) rfl ?_;obtain⟨az,aA⟩:=ae.out;subst az aA;exact⟨rfl,ah.out _ _⟩
 |true=>
  go_wp2_with fail;go_big_region;obtain⟨ay,Z⟩:=ai.out (lg lH V) (lg lH Y);have aj:=(ah.out (lg lH V) (lg lH Y)).drew;have aG:=iF aj;clear aj;go_wp2_with fail;refine iV (v:=lD #[lg lH V,lg lH Y,lu true]) (by simp[jr,Tryz.results199,go_sem,ay,Z]) rfl ?_;obtain⟨az,aA⟩:=ae.out;obtain⟨aQ,aR⟩:=aF.out (by first|trivial|rfl);subst az aA aQ aR;exact⟨rfl,aG.out⟩
def rX(x:lL IL)(deep most:Int):Int:=if rO x=true then if deep<(x.deep:Int)then 6 else if most<(x.count:Int)then 4 else 0 else 1
theorem Ms(h:p:=by
 go_wp2_with fail;refine CS1.out.mono ?_;rintro e w2 ⟨rfl,hb2⟩;have HB2:=iF (HB.out.trans (hb2.mono (by have:=HS.out;omega)));clear hb2;go_wp2_with fail;go_returns;exact⟨by rw[HE2.out];rfl,HB2.out⟩):p:=h
theorem Qx(x:lL IL)(deep most:Int)(w:iH)(v:iJ)(V:oZ w v x.sub):
  iU iG 159 #[lC #[ll (txt x.lab),lu x.lab.list,v],lg lH deep,lg lH most] w λe w'=>e=lF (lg lH (rX x deep most))/\iK w.heap.size w w':=by
 have Y:=iF (qD (T:=txt x.lab) (l:=x.lab.list) (t:=IT) V);obtain⟨oa,cap,rfl,Z,ae⟩:=lX.slice V;obtain⟨g,hg⟩:=lV w.heap.size;have C:=iF (λ(W:iH) (h:oZ W (lh oa x.sub.length cap) x.sub)=>DU x W _ h);obtain⟨E,aa⟩:=lV (rX x deep most);have O:iW (E=if rO x=true then if deep<(x.deep:Int)then 6 else if most<(x.count:Int)then 4 else 0 else 1):=iF (by rw[<-aa];rfl);rw[hg]at Y⊢;rw[aa];unfold Td Te at C;clear V Z ae aa;generalize rO x=R at*;generalize x.sub.length=M at*;obtain⟨J,zn⟩:∃J:Int,(x.deep:Int)=J:=⟨_,rfl⟩;obtain⟨nx,Q⟩:∃nx:Int,(x.count:Int)=nx:=⟨_,rfl⟩;rw[zn,Q]at C O;clear zn Q;go_in;go_upto_region 1 with fail;generalize w.alloc (lG #[ll (txt x.lab),lu x.lab.list,lh oa M cap] IT)=w1 at*;obtain⟨U,ht1,hsz,c0,c1,c2,_⟩:=Y.out _ rfl;have af:=iF ht1;have HB:=iF U;have HS:=iF hsz;clear Y ht1 U hsz;cases R with
 |false=>
  have CS1:=iF (C.out _ af.out);have A:iW (E=1):=iF (by rw[O.out];rfl);clear C O;go_wp2_with fail;refine CS1.out.mono ?_;rintro e w2 ⟨rfl,hb2⟩;have HB2:=iF (HB.out.trans (hb2.mono (by have:=HS.out;omega)));clear hb2;go_wp2_with fail;go_returns;exact⟨by rw[A.out];rfl,HB2.out⟩
 |true=>
  have CS1:=iF (C.out _ af.out);simp only[if_true]at CS1;have A:iW (E=if deep<J then 6 else if most<nx then 4 else 0):=iF (by rw[O.out];rfl);clear C O;by_cases cd:deep<J
  .have HE2:iW (E=6):=iF (by rw[A.out,if_pos cd])
   have ag:decide (deep<J)=true:=decide_eq_true cd;clear A cd;exact Ms
  have ag:decide (deep<J)=false:=decide_eq_false cd;by_cases N:most<nx
  .have HE2:iW (E=4):=iF (by rw[A.out,if_neg cd,if_pos N])
   have ah:decide (most<nx)=true:=decide_eq_true N;clear A cd N;exact Ms
  .have HE2:iW (E=0):=iF (by rw[A.out,if_neg cd,if_neg N])
   have ah:decide (most<nx)=false:=decide_eq_false N;clear A cd N;exact Ms
theorem Tf(h:p:=by
 have CC:=iF (H3.out HQ.out.2.1 HQ.out.2.2 _ HQ.out.1);go_wp2_with fail;refine CC.out.mono ?_;rintro e w2 ⟨rfl,hp⟩;have Yl:=iF hp;have Zi:=iF HQ.out.2;clear hp c0 CC HQ;by_cases c:k3=0
 .have HC:=iF c
  subst c;go_wp2_with fail;go_roundw;case rel=>exact .inr (.inr (.inr ⟨by go_num,iF ⟨Yl.out,Zi.out.1,Zi.out.2,by first|trivial|rfl⟩⟩))
  case measure=>simp[jA]
 .have n0:(k3 !=0)=true:=by simp[c]
  have HC:=iF c;clear c;go_wp2_with fail;go_returns;have he:=HE.out;have hn:=HN.out;rw[if_neg (λh=>h Zi.out.1),if_neg (λh=>h Zi.out.2)]at he hn;subst he hn;exact⟨rfl,Yl.out⟩):p:=h
theorem Tg(h:p:=by
 have CC:=iF (H2.out HQ.out.2 _ HQ.out.1);go_wp2_with fail;refine CC.out.mono ?_;rintro e w2 ⟨rfl,hp⟩;have Yl:=iF hp;have Zi:=iF HQ.out.2;clear hp c0 CC HQ;by_cases c:k2=0
 .have HC:=iF c
  subst c;go_wp2_with fail;go_roundw;case rel=>exact .inr (.inr (.inl ⟨by go_num,iF ⟨Yl.out,Zi.out,by first|trivial|rfl⟩⟩))
  case measure=>simp[jA]
 .have n0:(k2 !=0)=true:=by simp[c]
  have HC:=iF c;clear c;go_wp2_with fail;go_returns;have he:=HE.out;have hn:=HN.out;rw[if_neg (λh=>h Zi.out),if_pos HC.out]at he hn;subst he hn;exact⟨rfl,Yl.out⟩):p:=h
theorem Ti(h:p:=by
 have CC:=iF (H1.out _ HQ.out);go_wp2_with fail;refine CC.out.mono ?_;rintro e w2 ⟨rfl,hp⟩;have Yl:=iF hp;clear hp c0 CC;by_cases c:k1=0
 .have HC:=iF c
  subst c;go_wp2_with fail;go_roundw;case rel=>exact .inr (.inl ⟨by go_num,iF ⟨Yl.out,by first|trivial|rfl⟩⟩)
  case measure=>simp[jA]
 .have n0:(k1 !=0)=true:=by simp[c]
  have HC:=iF c;clear c;go_wp2_with fail;go_returns;have he:=HE.out;have hn:=HN.out;rw[if_pos HC.out]at he hn;subst he hn;exact⟨rfl,Yl.out⟩):p:=h
theorem Tj(h:p:=by
 go_wp2_with fail;go_returns;have he:=HE.out;have hn:=HN.out;rw[if_neg (λh=>h HQ.out.2.1),if_neg (λh=>h HQ.out.2.2.1)]at he hn;subst hn;rw[HQ.out.2.2.2]at he;subst he;exact⟨rfl,HQ.out.1⟩):p:=h
theorem J3(w:iH)(J cb N:Array iJ)(b:Nat)(T:jg)(k1 k2 k3:Int)(P:Nat->iH->Prop)(U:∀k W,P k W->lN W b #[.func (.func 156) #[] J,.func (.func 158) #[] cb,.func (.func 160) #[] N] T)(h0:P 0 w)(V:∀W,P 0 W->iU iG 156 J W λe A=>e=lF (lg lH k1)/\P 1 A)(Y:k1=0->∀W,P 1 W->iU iG 158 cb W λe A=>e=lF (lg lH k2)/\P 2 A)(Z:k1=0->k2=0->∀W,P 2 W->iU iG 160 N W λe A=>e=lF (lg lH k3)/\P 3 A):
  iU iG 155 #[lh (some ⟨b,0,none⟩) 3 3] w λe A=>e=lF (lg lH (if k1≠0 then k1 else if k2≠0 then k2 else k3))/\P (if k1≠0 then 1 else if k2≠0 then 2 else 3) A:=by
 have O:=iF U;have H1:=iF V;have aa:=iF h0;obtain⟨E,Q⟩:=lV ((if k1≠0 then k1 else if k2≠0 then k2 else k3));obtain⟨n,hn⟩:=lV ((if k1≠0 then 1 else if k2≠0 then 2 else 3));have HE:=iF Q;have HN:=iF hn;have H2:=iF Y;have H3:=iF Z;rw[Q,hn];clear U h0 V Y Z Q hn;go_in;go_wp2_with fail;go_loopw [8] (λkv C=>(kv=lg lH 0/\iW (P 0 C))\/(kv=lg lH 1/\iW (P 1 C/\k1=0))\/(kv=lg lH 2/\iW (P 2 C/\k1=0/\k2=0))\/(kv=lg lH 3/\iW (P 3 C/\k1=0/\k2=0/\k3=0))) (λkv _=>3 -(jA kv).toNat);case atStart=>exact .inl ⟨rfl,aa⟩
 case round=>
  rcases hrel with⟨rfl,HQ⟩|⟨rfl,HQ⟩|⟨rfl,HQ⟩|⟨rfl,HQ⟩
  .have c0:wr.cell? ⟨b,0,none⟩=some (.func (.func 156) #[] J):=(O.out _ _ HQ.out).cell 0
   exact Ti
  .have c0:wr.cell? ⟨b,1,none⟩=some (.func (.func 158) #[] cb):=(O.out _ _ HQ.out.1).cell 1
   exact Tg
  .have c0:wr.cell? ⟨b,2,none⟩=some (.func (.func 160) #[] N):=(O.out _ _ HQ.out.1).cell 2
   exact Tf
  .exact Tj
theorem J4(w:iH)(J cb N:Array iJ)(b:Nat)(T:jg)(k1 k2 k3:Int)(P:Nat->iH->Prop)(U:∀k W,P k W->lN W b #[.func (.func 162) #[] J,.func (.func 164) #[] cb,.func (.func 166) #[] N] T)(h0:P 0 w)(V:∀W,P 0 W->iU iG 162 J W λe A=>e=lF (lg lH k1)/\P 1 A)(Y:k1=0->∀W,P 1 W->iU iG 164 cb W λe A=>e=lF (lg lH k2)/\P 2 A)(Z:k1=0->k2=0->∀W,P 2 W->iU iG 166 N W λe A=>e=lF (lg lH k3)/\P 3 A):
  iU iG 155 #[lh (some ⟨b,0,none⟩) 3 3] w λe A=>e=lF (lg lH (if k1≠0 then k1 else if k2≠0 then k2 else k3))/\P (if k1≠0 then 1 else if k2≠0 then 2 else 3) A:=by
 have O:=iF U;have H1:=iF V;have aa:=iF h0;obtain⟨E,Q⟩:=lV ((if k1≠0 then k1 else if k2≠0 then k2 else k3));obtain⟨n,hn⟩:=lV ((if k1≠0 then 1 else if k2≠0 then 2 else 3));have HE:=iF Q;have HN:=iF hn;have H2:=iF Y;have H3:=iF Z;rw[Q,hn];clear U h0 V Y Z Q hn;go_in;go_wp2_with fail;go_loopw [8] (λkv C=>(kv=lg lH 0/\iW (P 0 C))\/(kv=lg lH 1/\iW (P 1 C/\k1=0))\/(kv=lg lH 2/\iW (P 2 C/\k1=0/\k2=0))\/(kv=lg lH 3/\iW (P 3 C/\k1=0/\k2=0/\k3=0))) (λkv _=>3 -(jA kv).toNat);case atStart=>exact .inl ⟨rfl,aa⟩
 case round=>
  rcases hrel with⟨rfl,HQ⟩|⟨rfl,HQ⟩|⟨rfl,HQ⟩|⟨rfl,HQ⟩
  .have c0:wr.cell? ⟨b,0,none⟩=some (.func (.func 162) #[] J):=(O.out _ _ HQ.out).cell 0
   exact Ti
  .have c0:wr.cell? ⟨b,1,none⟩=some (.func (.func 164) #[] cb):=(O.out _ _ HQ.out.1).cell 1
   exact Tg
  .have c0:wr.cell? ⟨b,2,none⟩=some (.func (.func 166) #[] N):=(O.out _ _ HQ.out.1).cell 2
   exact Tf
  .exact Tj
theorem Qy(x:lL IL)(w:iH)(v:iJ)(A:oZ w v x.sub):
  iU iG 199 #[lC #[ll (txt x.lab),lu x.lab.list,v],.func (.func 200) #[] #[]] w λe w'=>(∃a b:Int,e=lF (lD #[lg lH a,lg lH b,lu (rO x)]))/\iK w.heap.size w w':=(DU x w v A).mono λ_ _ h=>⟨⟨_,_,h.1⟩,h.2⟩
theorem J5(x:lL IL)(w:iH)(v:iJ)(E:oZ w v x.sub):
  iU iG 195 #[lC #[ll (txt x.lab),lu x.lab.list,v]] w λe w'=>e=lF (lu (rO x))/\iK w.heap.size w w':=by
 have J:=iF (qD (T:=txt x.lab) (l:=x.lab.list) (t:=IT) E);obtain⟨oa,cap,rfl,N,O⟩:=lX.slice E;obtain⟨g,hg⟩:=lV w.heap.size;have U:=iF (λ(W:iH) (h:oZ W (lh oa x.sub.length cap) x.sub)=>Qy x W _ h);rw[hg]at J⊢;clear E N O;generalize rO x=R at*;generalize x.sub.length=M at*;go_in;go_upto_region 1 with fail;generalize w.alloc (lG #[ll (txt x.lab),lu x.lab.list,lh oa M cap] IT)=w1 at*;obtain⟨A,ht1,hsz,c0,c1,c2,_⟩:=J.out _ rfl;have V:=iF ht1;have Y:=iF A;have Z:=iF hsz;clear J ht1 A hsz;go_wp2_with fail;refine(U.out _ V.out).mono ?_;rintro e w2 ⟨⟨a,b,rfl⟩,C⟩;have Q:=iF (Y.out.trans (C.mono (by have:=Z.out;omega)));clear C;go_wp2_with fail;go_returns;exact⟨rfl,Q.out⟩
end
section
structure TL where
 kind:Int
 size:Int
 tail:Int
 deriving DecidableEq
def TL.wf(a:TL):Prop:=(kP lH a.kind).wf=true/\(kP lH a.size).wf=true/\(kP lH a.tail).wf=true
def l9:Shape TL:=⟨4,λa v=>[lg lH a.kind,lg lH a.size,v,lg lH a.tail],TL.wf,λ_ _=>rfl⟩
def nX(a:TL)(n:Nat):Bool:=
 decide ((a.kind=1/\(a.size=1\/a.size=2\/a.size=4\/a.size=8)/\n=0/\a.tail=0)\/(a.kind=2/\1<=a.size/\a.size<=65536/\n=0/\a.tail=0)\/
  (a.kind=3/\0<=a.size/\a.size<=65536/\n=0/\a.tail=0)\/(a.kind=4/\0<=a.size/\a.size<=1024/\n=1/\a.tail=0)\/(a.kind=5/\a.size=0/\n<=16/\0<=a.tail/\a.tail<=n))
def mi(a:TL)(s:List (lL TL)):Bool:=nX a s.length
def nG(x:lL TL):Bool:=decide (x.count<=64)&&decide (x.deep<=8)&&x.all mi
def rY(b:UInt8):Bool:=decide (48<=b.toNat)&&decide (b.toNat<=57)
def nN:List UInt8->List UInt8
 |[]=>[]
 |b::r=>if rY b then b::nN r else []
def past:List UInt8->List UInt8
 |[]=>[]
 |b::r=>if rY b then past r else b::r
def wh(ds:List UInt8):Nat:=ds.foldl (λn b=>10*n+(b.toNat - 48)) 0
def xH(ds:List UInt8):Bool:=match ds with
 |[]=>false
 |[_]=>true
 |b::_=>decide (b.toNat≠48)
def num(most:Nat)(l:List UInt8):Option (Nat×List UInt8):=if xH (nN l)&&decide (wh (nN l)<=most)then some (wh (nN l),past l)else none
def xI(ds:List UInt8):Nat:=ds.foldl (λn b=>if n<1000000 then 10*n+(b.toNat - 48)else n) 0
def vw(l:List UInt8):Option (Nat×List UInt8):=if xH (nN l)then some (xI (nN l),past l)else none
def mark(l:List UInt8)(tail:Nat):Option (List UInt8×Nat):=match l with
 |63::r=>some (r,tail+1)
 |l=>if 0<tail then none else some (l,tail)
def uF(DN:List UInt8->Nat->Option (lL TL×List UInt8×Nat)):Nat->List UInt8->Nat->List (lL TL)->Nat->Option (lL TL×List UInt8×Nat)
 |0,_,_,_,_=>none
 |f+1,l,n,sub,tail=>(mark l tail).bind λq=>(DN q.1 n).bind λy=>match y.2.1 with
  |125::r=>some (.node ⟨5,0,q.2⟩ (sub++[y.1]),r,y.2.2)
  |44::r=>uF DN f r y.2.2 (sub++[y.1]) q.2
  |_=>none
def rd:Nat->List UInt8->Nat->Option (lL TL×List UInt8×Nat)
 |0,_,_=>none
 |d+1,l,n=>if n=0 then none else match l with
  |[]=>none
  |b::r=>
   if b=117 then(num 64 r).bind λq=>if q.1 % 8=0 then some (.node ⟨1,(q.1/8:Nat),0⟩ [],q.2,n - 1)else none
   else if b=98 then(num 65536 r).bind λq=>some (.node ⟨2,q.1,0⟩ [],q.2,n - 1)
   else if b=115 then(num 65536 r).bind λq=>some (.node ⟨3,q.1,0⟩ [],q.2,n - 1)
   else if b=91 then(rd d r (n - 1)).bind λy=>match y.2.1 with
    |58::r2=>(num 1024 r2).bind λq=>match q.2 with
     |93::r4=>some (.node ⟨4,q.1,0⟩ [y.1],r4,y.2.2)
     |_=>none
    |_=>none
   else if b=123 then match r with
    |125::r1=>some (.node ⟨5,0,0⟩ [],r1,n - 1)
    |_=>uF (rd d) (n+1) r (n - 1) [] 0
   else none
def ny(pf:List UInt8->Option (lL TL×List UInt8)):Nat->List UInt8->List (lL TL)->Nat->Option (lL TL×List UInt8)
 |0,_,_,_=>none
 |f+1,l,sub,tail=>match l with
  |[]=>none
  |b::r=>if b=125 then some (.node ⟨5,0,tail⟩ sub,r)else
   (if sub.isEmpty then some l else if b=44 then some r else none).bind λA=>(mark A tail).bind λq=>(pf q.1).bind λy=>ny pf f y.2 (sub++[y.1]) q.2
def ps:Nat->List UInt8->Option (lL TL×List UInt8)
 |0,_=>none
 |d+1,l=>match l with
  |[]=>none
  |b::r=>
   if b=117 then(vw r).bind λq=>if q.1 % 8=0 then some (.node ⟨1,(q.1/8:Nat),0⟩ [],q.2)else none
   else if b=98 then(vw r).bind λq=>some (.node ⟨2,q.1,0⟩ [],q.2)
   else if b=115 then(vw r).bind λq=>some (.node ⟨3,q.1,0⟩ [],q.2)
   else if b=91 then(ps d r).bind λy=>match y.2 with
    |58::r2=>(vw r2).bind λq=>match q.2 with
     |93::r4=>some (.node ⟨4,q.1,0⟩ [y.1],r4)
     |_=>none
    |_=>none
   else if b=123 then ny (ps d) (r.length+1) r [] 0
   else none
theorem J6(ds:List UInt8)(a:Nat):a<=ds.foldl (λn b=>10*n+(b.toNat - 48)) a:=by
 induction ds generalizing a with
 |nil=>simp
 |cons b r A=>simp only[List.foldl_cons];exact je lK (A _)
theorem Mt(ds:List UInt8)(a:Nat)(h:1000000<=a):ds.foldl (λn b=>if n<1000000 then 10*n+(b.toNat - 48)else n) a=a:=by
 induction ds generalizing a with
 |nil=>rfl
 |cons b r A=>simp only[List.foldl_cons];rw[if_neg lK];exact A a h
theorem J7(ds:List UInt8)(a:Nat)(h:ds.foldl (λn b=>10*n+(b.toNat - 48)) a<1000000):
  ds.foldl (λn b=>if n<1000000 then 10*n+(b.toNat - 48)else n) a=ds.foldl (λn b=>10*n+(b.toNat - 48)) a:=by
 induction ds generalizing a with
 |nil=>rfl
 |cons b r A=>
  simp only[List.foldl_cons]at h⊢;have C:=J6 r (10*a+(b.toNat - 48));rw[if_pos lK];exact A _ h
theorem Qz(ds:List UInt8)(a:Nat)(h:1000000<=ds.foldl (λn b=>10*n+(b.toNat - 48)) a):
  1000000<=ds.foldl (λn b=>if n<1000000 then 10*n+(b.toNat - 48)else n) a:=by
 induction ds generalizing a with
 |nil=>exact h
 |cons b r A=>
  simp only[List.foldl_cons]at h⊢;by_cases c:a<1000000;.rw[if_pos c];exact A _ h
  .rw[if_neg c,Mt _ _ lK];omega
theorem DV(A:most<1000000)(h:num most l=some q):vw l=some q/\q.1<=most:=by
 unfold num at h;split at h
 .rename_i c
  simp only[iY,decide_eq_true_eq]at c;have e:=J7 (nN l) 0 (show wh (nN l)<1000000 by omega);cases h;unfold vw;rw[if_pos c.1];exact⟨by rw[show xI (nN l)=wh (nN l)from e],c.2⟩
 .cases h
theorem DW(J:most<1000000)(h:vw l=some q)(A:q.1<=most):num most l=some q:=by
 unfold vw at h;split at h
 .rename_i c
  cases h;have E:wh (nN l)<1000000:=by
   rcases jG (wh (nN l)) 1000000 with C|C
   .exact C
   .have:=Qz (nN l) 0 C
    simp only[xI]at A;omega
  have e:xI (nN l)=wh (nN l):=J7 (nN l) 0 E;simp only[e]at A⊢;unfold num;rw[if_pos (by simp[c,A])]
 .cases h
theorem xJ{tail:Nat}{q:List UInt8×Nat}(h:mark l tail=some q):q.1.length<=l.length:=by
 unfold mark at h;split at h;.cases h;simp
 .split at h
  .cases h
  .cases h;exact iI _
theorem Mv{DN:List UInt8->Nat->Option (lL TL×List UInt8×Nat)}{pf:List UInt8->Option (lL TL×List UInt8)}{d:Nat}(hl:∀l y,pf l=some y->y.2.length<l.length)(h:∀l n y,DN l n=some y->pf l=some (y.1,y.2.1)/\y.2.2+y.1.count=n/\y.1.deep<=d):
  ∀(f g:Nat)(l:List UInt8)(n:Nat)(sub:List (lL TL))(tail:Nat)(y:lL TL×List UInt8×Nat),uF DN f l n sub tail=some y->(if sub.isEmpty then l else 44::l).length<g->lL.mG sub<=d->
   (sub=[]->l≠[]/\l.head?≠some 125)->
   ny pf g (if sub.isEmpty then l else 44::l) sub tail=some (y.1,y.2.1)/\y.2.2+y.1.count=n+1+lL.lZ sub/\y.1.deep<=d+1:=by
 intro f;induction f with
 |zero=>intro g l n sub tail y A;simp[uF]at A
 |succ f Q=>
  intro g l n sub tail y A hg hd h0;cases g with
  |zero=>omega
  |succ g=>
   simp only[uF,jd]at A;obtain⟨q,N,x,U,A⟩:=A;obtain⟨hp,hc,zn⟩:=h _ _ _ U;have hlen:=hl _ _ hp;have V:=xJ N;simp only at hlen;have C:ny pf (g+1) (if sub.isEmpty then l else 44::l) sub tail=ny pf g x.2.1 (sub++[x.1]) q.2:=by
    cases hs:sub.isEmpty with
    |true=>
     have:=h0 (List.isEmpty_iff.1 hs);cases l with
     |nil=>simp at this
     |cons b r=>
      have hb:b≠125:=by simpa using this.2
      simp only[if_true,ny,if_neg hb,hs,jh,N,hp]
    |false=>simp[ny,hs,N,hp]
   have Y:l.length<=g:=by split at hg<;>simp_all<;>omega
   rw[C];have E:lL.lZ (sub++[x.1])=lL.lZ sub+x.1.count:=by simp[lL.pX,lL.lZ]
   have O:lL.mG (sub++[x.1])<=d:=by rw[lL.tY];simp[lL.mG];omega
   split at A
   .rename_i r e
    cases A;rw[e]at hlen⊢;simp only[jm]at hlen;cases g with
    |zero=>omega
    |succ g=>
     refine⟨by simp[ny],?_,?_⟩;.simp only[lL.count,E];omega
     .simp only[lL.deep];omega
   .rename_i r e
    rw[e]at hlen⊢;simp only[jm]at hlen;have J:(sub++[x.1]).isEmpty=false:=lU;have:=Q g r x.2.2 (sub++[x.1]) q.2 y A (by rw[J];simp;omega) O (λe=>by simp at e);rw[J]at this;simp only[j4,if_false]at this;refine⟨this.1,?_,this.2.2⟩;rw[this.2.1,E];omega
   .cases A
theorem J8(l:List UInt8):(past l).length<=l.length:=by
 induction l with
 |nil=>simp[past]
 |cons b r A=>simp only[past];split<;>simp_all;omega
theorem qi(h:vw l=some q):q.2.length<=l.length:=by
 unfold vw at h;split at h;.cases h;exact J8 l
 .cases h
theorem He{pf:List UInt8->Option (lL TL×List UInt8)}(hl:∀l y,pf l=some y->y.2.length<l.length):
  ∀(g:Nat)(l:List UInt8)(sub:List (lL TL))(tail:Nat)(y:lL TL×List UInt8),ny pf g l sub tail=some y->y.2.length<l.length:=by
 intro g;induction g with
 |zero=>intro l sub tail y h;simp[ny]at h
 |succ g C=>
  intro l sub tail y h;cases l with
  |nil=>simp[ny]at h
  |cons b r=>
   simp only[ny]at h;split at h;.cases h;simp
   .simp only[jd]at h
    obtain⟨E,A,q,J,x,N,O⟩:=h;have Q:=C _ _ _ _ O;have a2:=hl _ _ N;have a3:=xJ J;have a4:E.length<=(b::r).length:=by
     split at A;.cases A;exact iI _
     .split at A
      .cases A;simp
      .cases A
    omega
theorem Bi:∀(d:Nat)(l:List UInt8)(y:lL TL×List UInt8),ps d l=some y->y.2.length<l.length:=by
 intro d;induction d with
 |zero=>intro l y h;simp[ps]at h
 |succ d J=>
  intro l y h;cases l with
  |nil=>simp[ps]at h
  |cons b r=>
   simp only[ps]at h;split at h
   .simp only[jd]at h
    obtain⟨q,C,A⟩:=h;have:=qi C;split at A;.cases A;simp;omega
    .cases A
   split at h
   .simp only[jd]at h
    obtain⟨q,C,A⟩:=h;have:=qi C;cases A;simp;omega
   split at h
   .simp only[jd]at h
    obtain⟨q,C,A⟩:=h;have:=qi C;cases A;simp;omega
   split at h
   .simp only[jd]at h
    obtain⟨x,C,A⟩:=h;have N:=J _ _ C;split at A
    .rename_i r2 e
     simp only[jd]at A;obtain⟨q,O,E⟩:=A;have a2:=qi O;rw[e]at N;split at E
     .rename_i r4 e4
      cases E;rw[e4]at a2;simp only[jm]at N a2⊢;omega
     .cases E
    .cases A
   split at h
   .have:=He J _ _ _ _ _ h
    simp only[jm];omega
   .cases h
theorem Tk(h:p:=by
 rename_i e;rw[if_pos e];simp only[jd]at h;obtain⟨q,h1,h2⟩:=h;obtain⟨h3,_⟩:=DV lM h1;cases h2;rw[h3];refine⟨rfl,?_,?_⟩<;>simp[lL.count,lL.lZ,lL.deep,lL.mG];omega):p:=h
theorem Tm:∀(d:Nat)(l:List UInt8)(n:Nat)(y:lL TL×List UInt8×Nat),rd d l n=some y->ps d l=some (y.1,y.2.1)/\y.2.2+y.1.count=n/\y.1.deep<=d:=by
 intro d;induction d with
 |zero=>intro l n y h;simp[rd]at h
 |succ d A=>
  intro l n y h;simp only[rd]at h;split at h;.cases h
  rename_i hn;cases l with
  |nil=>simp at h
  |cons b r=>
   simp only at h;simp only[ps];split at h
   .rename_i e
    rw[if_pos e];simp only[jd]at h;obtain⟨q,h1,h2⟩:=h;obtain⟨h3,_⟩:=DV lM h1;rw[h3];split at h2
    .rename_i c
     cases h2;simp only[jh,if_pos c];refine⟨by first|trivial|rfl,?_,?_⟩<;>simp[lL.count,lL.lZ,lL.deep,lL.mG];omega
    .cases h2
   rename_i e1;rw[if_neg e1];split at h;.exact Tk
   rename_i e2;rw[if_neg e2];split at h;.exact Tk
   rename_i e3;rw[if_neg e3];split at h
   .rename_i e
    rw[if_pos e];simp only[jd]at h;obtain⟨x,h1,h2⟩:=h;obtain⟨N,U,V⟩:=A _ _ _ h1;rw[N];simp only[jh];split at h2
    .rename_i r2 e2
     simp only[jd]at h2;obtain⟨q,h3,C⟩:=h2;obtain⟨O,_⟩:=DV lM h3;simp only[O,jh];split at C
     .rename_i r4 e4
      cases C;refine⟨by first|trivial|rfl,?_,?_⟩;.simp[lL.count,lL.lZ];omega
      .simp[lL.deep,lL.mG];omega
     .cases C
    .cases h2
   rename_i e4;rw[if_neg e4];split at h
   .rename_i e
    rw[if_pos e];split at h
    .rename_i r1
     cases h;refine⟨by simp[ny],?_,?_⟩<;>simp[lL.count,lL.lZ,lL.deep,lL.mG];omega
    .rename_i J
     have Q:r≠[]:=by
      rintro rfl;simp only[uF,mark,Nat.lt_irrefl,if_false,jh,jd]at h;obtain⟨x,h1,_⟩:=h;have:=Bi _ _ _ (A _ _ _ h1).1;simp at this
     have:=Mv (Bi d) (λl n y=>A l n y) (n+1) (r.length+1) r (n - 1) [] 0 y h lU (by simp[lL.mG]) (λ_=>⟨Q,λE=>by
      cases r with
      |nil=>simp at E
      |cons c t=>simp at E;exact J t (by rw[E])⟩)
     simp only[List.isEmpty_nil,if_true]at this;refine⟨this.1,?_,this.2.2⟩;have:=this.2.1;simp only[lL.lZ]at this;omega
   .cases h
theorem QA{pf:List UInt8->Option (lL TL×List UInt8)}:∀(g:Nat)(l:List UInt8)(sub:List (lL TL))(tail:Nat)(y:lL TL×List UInt8),ny pf g l sub tail=some y->
  ∃s t,y.1=.node ⟨5,0,t⟩ (sub++s):=by
 intro g;induction g with
 |zero=>intro l sub tail y h;simp[ny]at h
 |succ g A=>
  intro l sub tail y h;cases l with
  |nil=>simp[ny]at h
  |cons b r=>
   simp only[ny]at h;split at h;.cases h;exact⟨[],tail,lU⟩
   .simp only[jd]at h
    obtain⟨E,J,q,N,x,O,C⟩:=h;obtain⟨s,t,e⟩:=A _ _ _ _ C;exact⟨x.1::s,t,by rw[e];simp⟩
theorem Mw{DN:List UInt8->Nat->Option (lL TL×List UInt8×Nat)}{pf:List UInt8->Option (lL TL×List UInt8)}(h:∀l n y,pf l=some y->y.1.all mi=true->y.1.count<=n->DN l n=some (y.1,y.2,n - y.1.count)):
  ∀(g f:Nat)(l:List UInt8)(n:Nat)(sub:List (lL TL))(tail:Nat)(y:lL TL×List UInt8),ny pf g (if sub.isEmpty then l else 44::l) sub tail=some y->
   y.1.all mi=true->y.1.count<=n+1+lL.lZ sub->n<f->(sub=[]->l.head?≠some 125)->uF DN f l n sub tail=some (y.1,y.2,n+1+lL.lZ sub - y.1.count):=by
 intro g;induction g with
 |zero=>intro f l n sub tail y A;simp[ny]at A
 |succ g V=>
  intro f l n sub tail y A E hc ah h0;cases f with
  |zero=>omega
  |succ f=>
   obtain⟨q,Y,x,Z,hy2⟩:∃q,mark l tail=some q/\∃x,pf q.1=some x/\ny pf g x.2 (sub++[x.1]) q.2=some y:=by
    cases hs:sub.isEmpty with
    |true=>
     have aa:=h0 (List.isEmpty_iff.1 hs);rw[hs]at A;simp only[if_true]at A;cases l with
     |nil=>simp[ny]at A
     |cons b r=>
      have hb:b≠125:=by simpa using aa
      simp only[ny,if_neg hb,hs,if_true,jh,jd]at A;exact A
    |false=>
     rw[hs]at A;simp only[j4,if_false,ny,hs,if_true,jd,if_neg (show(44:UInt8)≠125 by decide)]at A;obtain⟨ae,e1,A⟩:=A;cases e1;exact A
   obtain⟨s,t,J⟩:=QA _ _ _ _ _ hy2;have C:lL.lZ (sub++[x.1])=lL.lZ sub+x.1.count:=by simp[lL.pX,lL.lZ]
   have Q:x.1.all mi=true:=by
    rw[J]at E;simp only[lL.all,iY,lL.xC,lL.mR]at E;exact E.2.1.2.1
   have af:y.1.count=1+(lL.lZ sub+x.1.count+lL.lZ s):=by rw[J];simp only[lL.count,lL.pX,C]
   have ag:=lL.uj x.1;have U:=h _ n _ Z Q lK;simp only[uF,Y,jh,U];cases g with
   |zero=>simp[ny]at hy2
   |succ g=>
    cases N:x.2 with
    |nil=>rw[N]at hy2;simp[ny]at hy2
    |cons b r=>
     rw[N]at hy2;by_cases c:b=125
     .subst c
      simp only[ny,if_true]at hy2;cases hy2;simp only[lL.count,C];have e:n - x.1.count=n+1+lL.lZ sub -(1+(lL.lZ sub+x.1.count)):=lK;rw[e]
     .have O:(sub++[x.1]).isEmpty=false:=lU
      have hb:b=44:=by
       simp only[ny,if_neg c,O,j4,if_false,jd]at hy2;obtain⟨ae,e1,_⟩:=hy2;split at e1;.assumption
       .cases e1
      subst hb;have:=V f r (n - x.1.count) (sub++[x.1]) q.2 y (by rw[O];exact hy2) E (by rw[C];omega) lK (λe=>by simp at e);simp only[this,C];have e:n - x.1.count+1+(lL.lZ sub+x.1.count) - y.1.count=n+1+lL.lZ sub - y.1.count:=lK;rw[e]
theorem zq{k:Int}{m:Nat}{t:Int}{s:List (lL TL)}(h:(lL.node ⟨k,m,t⟩ s).all mi=true):m<=65536/\(k=1->m<=8)/\(k=4->m<=1024):=by
 simp only[lL.all,mi,nX,iY,decide_eq_true_eq]at h;omega
theorem OC(h:p:=by
 rename_i e;rw[if_pos e];simp only[jd]at h;obtain⟨q,h1,h2⟩:=h;cases h2;rw[DW (most:=65536) lM h1 (zq hr).1];simp[lL.count,lL.lZ]):p:=h
theorem a1a:∀(d:Nat)(l:List UInt8)(n:Nat)(y:lL TL×List UInt8),ps d l=some y->y.1.all mi=true->y.1.count<=n->rd d l n=some (y.1,y.2,n - y.1.count):=by
 intro d;induction d with
 |zero=>intro l n y h;simp[ps]at h
 |succ d J=>
  intro l n y h hr hc;have hy1:=lL.uj y.1;simp only[rd];rw[if_neg lK];cases l with
  |nil=>simp[ps]at h
  |cons b r=>
   simp only;simp only[ps]at h;split at h
   .rename_i e
    rw[if_pos e];simp only[jd]at h;obtain⟨q,h1,h2⟩:=h;split at h2
    .rename_i c
     cases h2;have:=(zq hr).2.1 rfl;rw[DW (most:=64) lM h1 lK];simp only[jh,if_pos c];simp[lL.count,lL.lZ]
    .cases h2
   rename_i e1;rw[if_neg e1];split at h;.exact OC
   rename_i e2;rw[if_neg e2];split at h;.exact OC
   rename_i e3;rw[if_neg e3];split at h
   .rename_i e
    rw[if_pos e];simp only[jd]at h;obtain⟨x,h1,h2⟩:=h;split at h2
    .rename_i r2 e2
     simp only[jd]at h2;obtain⟨q,C,E⟩:=h2;split at E
     .rename_i r4 e4
      cases E;have N:x.1.all mi=true:=by
       simp only[lL.all,lL.mR,iY]at hr;exact hr.2.1
      simp only[lL.count,lL.lZ]at hc;rw[J _ (n - 1) _ h1 N lK];simp only[jh,e2,DW (most:=1024) lM C ((zq hr).2.2 rfl),e4];simp only[lL.count,lL.lZ];have e:n - 1 - x.1.count=n -(1+(x.1.count+0)):=lK;rw[e]
     .cases E
    .cases h2
   rename_i e4;rw[if_neg e4];split at h
   .rename_i e
    rw[if_pos e];cases r with
    |nil=>simp[ny]at h
    |cons c r=>
     by_cases A:c=125
     .subst A
      simp only[ny,if_true]at h;cases h;simp[lL.count,lL.lZ]
     .have:=Mw (DN:=rd d) (pf:=ps d) (λl n y h1 h2 C=>J l n y h1 h2 C) ((c::r).length+1) (n+1) (c::r) (n - 1) [] 0 y h hr (by simp only[lL.lZ];omega) lK (λ_=>by simpa using A)
      have e5:n - 1+1+lL.lZ ([]:List (lL TL)) - y.1.count=n - y.1.count:=by simp only[lL.lZ];omega
      rw[e5]at this;split
      .rename_i r1 O
       simp at O;exact absurd O.1 A
      .exact this
   .cases h
def uG(l:List UInt8):Option (lL TL):=match rd 8 l 64 with
 |some (x,[],_)=>if nG x then some x else none
 |_=>none
def yH(l:List UInt8):Option (lL TL):=match ps 8 l with
 |some (x,[])=>if nG x then some x else none
 |_=>none
theorem Bj(l:List UInt8):uG l=yH l:=by
 unfold uG yH;cases h:rd 8 l 64 with
 |some y=>
  obtain⟨x,r,n⟩:=y;rw[(Tm _ _ _ _ h).1];cases r<;>rfl
 |none=>
  cases C:ps 8 l with
  |none=>rfl
  |some y=>
   obtain⟨x,r⟩:=y;cases r with
   |cons _ _=>rfl
   |nil=>
    simp only;cases A:nG x with
    |false=>rfl
    |true=>
     simp only[nG,iY,decide_eq_true_eq]at A;rw[a1a _ _ 64 _ C A.2 A.1.1]at h;cases h
end
section
open Go.RowKit
def a3a:Nat->Prop:=λ_=>True
abbrev mD(w:iH)(v:iJ)(s:List (lL TL)):Prop:=l9.lY w a3a v s
theorem mD.slice{s:List (lL TL)}(h:mD w v s):∃oa cap,v=lh oa s.length cap/\s.length<=cap/\cap<=jb:=by
 obtain⟨oa,cap,A,C,E,_⟩:=h;exact⟨oa,cap,A,C,E⟩
theorem mD.at_{cap:Nat}{s:List (lL TL)}(h:mD w (lh oa n cap) s){i:Nat}{x:lL TL}(A:s[i]? =some x):
  ∃b off u,oa=some ⟨b,off,none⟩/\b<w.heap.size/\w.cell? ⟨b,off+i*4,none⟩=some (lg lH x.lab.kind)/\w.cell? ⟨b,off+i*4+1,none⟩=some (lg lH x.lab.size)/\
   w.cell? ⟨b,off+i*4+2,none⟩=some u/\w.cell? ⟨b,off+i*4+3,none⟩=some (lg lH x.lab.tail)/\mD w u x.sub/\TL.wf x.lab:=by
 obtain⟨N,C,E,O,Q,J⟩:=h.get;cases E;obtain⟨b,off,u,e,hb,_,ho,hc,hs⟩:=J i x A;exact⟨b,off,u,e,hb,by simpa [l9,jI]using hc 0 lM,by simpa [l9,jI]using hc 1 lM,by simpa [l9,jI]using hc 2 lM,by simpa [l9,jI]using hc 3 lM,hs,ho⟩
theorem rP{k z l:Int}{s:List (lL TL)}(h:mD w v s):
  ∀W,w.alloc (lG #[lg lH k,lg lH z,v,lg lH l] t)=W->iK w.heap.size w W/\mD W v s/\W.heap.size=w.heap.size+1/\
   W.cell? ⟨w.heap.size,0,none⟩=some (lg lH k)/\W.cell? ⟨w.heap.size,1,none⟩=some (lg lH z)/\W.cell? ⟨w.heap.size,2,none⟩=some v/\W.cell? ⟨w.heap.size,3,none⟩=some (lg lH l):=by
 rintro W rfl;have A:=(iL w.heap.size w).alloc (iI _) (lG #[lg lH k,lg lH z,v,lg lH l] t);have hB:=lN.new w #[lg lH k,lg lH z,v,lg lH l] t;exact⟨A,h.below A,lU,hB.cell 0,hB.cell 1,hB.cell 2,hB.cell 3⟩
theorem QB(x:lL TL):∀(w:iH)(v:iJ),mD w v x.sub->x.count<=1000->
  iU iG 79 #[lC #[lg lH x.lab.kind,lg lH x.lab.size,v,lg lH x.lab.tail]] w λe w'=>e=lF (lg lH (x.count:Nat))/\iK w.heap.size w w':=by
 induction x using lL.ind with
 |h a s Y=>
  intro w v A hc;simp only[lL.oD,lL.nk,lL.count]at A hc⊢;obtain⟨oa,cap,rfl,O,Z⟩:=mD.slice A;obtain⟨g,hg⟩:=lV w.heap.size;have E:=iF (rP (k:=a.kind) (z:=a.size) (l:=a.tail) (t:=63) A);have J:=lL.og s;obtain⟨M,Q⟩:=lV s.length;have U:=iF Q;have IH:=iF Y;obtain⟨C,V⟩:=lV (lL.lZ s);have HC:=iF V;rw[hg]at E⊢;rw[Q]at E J⊢;rw[V]at hc J⊢;clear A O Z Y Q V;go_in;go_upto_region 1 with fail;generalize w.alloc (lG #[lg lH a.kind,lg lH a.size,lh oa M cap,lg lH a.tail] 63)=w1 at*;obtain⟨N,ht1,hsz,c0,c1,c2,c3⟩:=E.out _ rfl;have H1:=iF (iQ N ht1);clear E N ht1 c0 c1 c3;go_wp2_with fail;go_loopw [3,4] (λae iv af=>∃k:Nat,iv=lg lH k/\k<=M/\ae=lg lH ((1+lL.lZ (s.take k):Nat):Int)/\iW (iK (g+1) w1 af)) (λ_ iv _=>M -(jA iv).toNat);case atStart=>exact⟨0,rfl,lK,by simp[lL.lZ],iF (iL _ _)⟩
  case round=>
   obtain⟨k,rfl,hk,rfl,hbe⟩:=hrel;have ag:wr.cell? ⟨g,2,none⟩=some (lh oa M cap):=(hbe.out.cell (p:=⟨g,2,none⟩) (jE g)).trans c2;by_cases c:k<M
   .obtain⟨ah,y,hy⟩:∃h:k<s.length,∃y,s[k]? =some y:=⟨by rw[U.out];exact c,_,iZ (by rw[U.out];exact c)⟩
    obtain⟨b,off,u,rfl,hlt,ai,aj,ak,au,hu,hwf⟩:=mD.at_ (Shape.lY.below H1.out.2 (hsz▸hbe.out)) hy;exact SY
   .obtain rfl:k=M:=lK
    have aa:s.take k=s:=by rw[<-U.out,kz]
    rw[aa,HC.out];exact Hd
theorem lL.rQ:∀ x:lL α,x.deep<=x.count:=by
 exact SX
theorem lL.zR(s:List (lL α)):lL.mG s<=lL.lZ s:=by
 have:=lL.rQ (lL.node (α:=Unit) () []);induction s with
 |nil=>simp[lL.mG]
 |cons y A C=>
  have:=lL.rQ y;simp only[lL.mG,lL.lZ];omega
theorem lL.qF(s:List (lL α))(i:Nat):lL.mG (s.take i)<=lL.mG s:=by
 conv=>rhs;rw[<-List.take_append_drop i s,lL.tY]
 exact Nat.le_max_left _ _
theorem Tn(x:lL TL):∀(w:iH)(v:iJ),mD w v x.sub->x.count<=1000->
  iU iG 80 #[lC #[lg lH x.lab.kind,lg lH x.lab.size,v,lg lH x.lab.tail]] w λe w'=>e=lF (lg lH (x.deep:Nat))/\iK w.heap.size w w':=by
 induction x using lL.ind with
 |h a s ae=>
  intro w v A hc;simp only[lL.oD,lL.nk,lL.count,lL.deep]at A hc⊢;obtain⟨oa,cap,rfl,U,af⟩:=mD.slice A;obtain⟨g,hg⟩:=lV w.heap.size;have E:=iF (rP (k:=a.kind) (z:=a.size) (l:=a.tail) (t:=63) A);have N:=lL.og s;obtain⟨M,V⟩:=lV s.length;have Y:=iF V;have ai:=iF ae;obtain⟨C,Z⟩:=lV (lL.lZ s);have aj:=iF Z;obtain⟨D,aa⟩:=lV (lL.mG s);have HD:=iF aa;have O:=lL.zR s;rw[hg]at E⊢;rw[V]at E N⊢;rw[Z]at hc N O;rw[aa]at O⊢;clear A U af ae V Z aa;go_in;go_upto_region 1 with fail;generalize w.alloc (lG #[lg lH a.kind,lg lH a.size,lh oa M cap,lg lH a.tail] 63)=w1 at*;obtain⟨Q,ht1,hsz,c0,c1,c2,c3⟩:=E.out _ rfl;have H1:=iF (iQ Q ht1);clear E Q ht1 c0 c1 c3;go_wp2_with fail;go_loopw [3,4,5] (λak iv ay au=>∃k:Nat,iv=lg lH k/\k<=M/\ak=lg lH (lL.mG (s.take k):Nat)/\iW (iK (g+1) w1 au)) (λ_ iv _ _=>M -(jA iv).toNat);case atStart=>exact⟨0,rfl,lK,by simp[lL.mG],iF (iL _ _)⟩
  case round=>
   obtain⟨k,rfl,hk,rfl,hbe⟩:=hrel;have av:wr.cell? ⟨g,2,none⟩=some (lh oa M cap):=(hbe.out.cell (p:=⟨g,2,none⟩) (jE g)).trans c2;by_cases c:k<M
   .obtain⟨ax,y,J⟩:∃h:k<s.length,∃y,s[k]? =some y:=⟨by rw[Y.out];exact c,_,iZ (by rw[Y.out];exact c)⟩
    obtain⟨b,off,u,rfl,hlt,az,aA,aB,aC,hu,hwf⟩:=mD.at_ (Shape.lY.below H1.out.2 (hsz▸hbe.out)) J;have ag:=lL.uC (jc J);rw[aj.out]at ag;have CY:=iF (ai.out y (jc J) wr u hu lK);have hct:lL.mG (s.take (k+1))=max (lL.mG (s.take k)) y.deep:=lL.uE J;have hl1:=lL.qF s (k+1);exact S9
   .obtain rfl:k=M:=lK
    have ah:s.take k=s:=by rw[<-Y.out,kz]
    rw[ah,HD.out];exact Hd
end
end Go.Proofs.YtamfcjmhnndbdaaGreatDoor


