/- Part 9 of the proof. -/
import Derived.Test.YtamfcjmhnndbdaaGreatDoorZu06
import Derived.Test.YtamfcjmhnndbdaaGreatDoorZu00
import Derived.Test.YtamfcjmhnndbdaaGreatDoorZu05
import Derived.Test.YtamfcjmhnndbdaaGreatDoorZu07
import Derived.Test.YtamfcjmhnndbdaaGreatDoorZu08
open Go.Value renaming agg→nC,bool→nA,int→ng,pointer→nz,slice→nk,string→ny,tuple→nD
open Go.Obj renaming cells→nG
open Go.IntKind renaming i64→nH,u32→nJ,u64→nI
open Go.Ending renaming returned→nE
open Go.Lib renaming hid→jH
open Go.Proofs.Tryz renaming prog→jI,underlying9→mR
open Go renaming World→jJ,Value→jP,Calls→jV,bodyPost_ret→j4,maxLen→j5,TypeId→ko,undef→kH,results→kK,Oper→lX,Addr→l5,Program→mK
open List renaming setIfInBounds_toArray→jK,set_cons_zero→jQ,set_cons_succ→jR,getElem?_eq_getElem→jX,length_append→jY,take_succ_cons→ky,take_zero→kQ,length_drop→kS,mem_of_getElem?→kT,length_take→kY,getElem?_eq_some_iff→ll,all_eq_true→lY,range→l7,take_length→l9,mem_range→mg,map_cons→mH,getElem?_take→mM
open Nat renaming le_refl→jL,zero_le→kI,le_succ→kX,lt_or_ge→lh,lt_succ_self→lM,le_of_eq→mV
open Go.RowKit renaming Below→jS,Hid→jW,intOf→kW
open Go.RowKit.Below renaming refl→jT
open And renaming intro→jU
open Bool renaming and_eq_true→j3
open Array renaming getElem?_eq_some_iff→ku,replicate→lI,getD_eq_getD_getElem?→lK,getElem?_modify→lL
open Go.World renaming setCell→kC,cell?→mW
open Go.Act renaming put→kE
open Go.Instr renaming index→kR,lookup→lV
open Go.Code renaming region→lg
open Go.Lit renaming int→lJ
open Go.Region renaming ready→lQ,binds→mr
open Option.some renaming inj→ma
open Go.Sem renaming run→mi
namespace Go.Proofs.YtamfcjmhnndbdaaGreatDoor
set_option linter.unusedVariables false
set_option linter.unusedSimpArgs false
set_option maxRecDepth 100000
set_option maxHeartbeats 8000000
variable {a0:Act}{p:Prop}{κ:Type}{t:ko}
section
open Go.RowKit
def cB(f:Func):Code:=match f.body with
 |some c=>c
 |none=> .skip
def cL:Code->Code
 | .seq a _=>a
 | .cond _ a _=>a
 | .block _ a=>a
 | .loop a=>a
 | .rangeFunc _ _ a _=>a
 | .scope a=>a
 |a=>a
def cR:Code->Code
 | .seq _ a=>a
 | .cond _ _ a=>a
 | .rangeFunc _ _ _ a=>a
 |a=>a
def cO:Code->List lX
 | .region _ o _=>o.toList
 |_=>[]
def a2s(ops:Array lX)(n sz:Nat):Bool:=
 Region.noSelect ops&&uz (ops.toList.take n)&&decide (n<=ops.size)&&(l7 n).all λi=>match ops[i]? with
  |none=>false
  |some o=>(o.after.all λe=> !mr .any e||decide (e.on<i))&&((o.looksAt ops).all λt=>decide (t<sz))&&(l7 n).all λj=> !Qd ops o j||Region.waitsFor .any ops i j
section
variable {P:mK}{ops:Array lX}
def CV(P:mK)(ops:Array lX)(n:Nat)(a0:Act)(C:(Nat->Bool)->(Nat->jP)->jJ->Prop)(i:Nat)(o:lX):Prop:=
 ∀(D:Nat->Bool)(vs:Nat->jP)(a:Act)(w:jJ)(K:Act->jJ->Prop),C D vs w->D i=false->(∀j,j<n->Region.waitsFor .any ops i j=true->D j=true)->(∀j,j<n->Region.waitsFor .any ops j i=true->D j=false)->
  (∀t∈o.looksAt ops,a.tmps.getD t kH=slotL vs (ops.toList.take n) 0 t (a0.tmps.getD t kH))->
  (∀v A w',A=a.put o.dst v->C (zm D i) (zn vs i v) w'->K A w')->
  if Region.wanted o (yielded ops a.tmps)=true then o.wp P a w K (λ_ _ _=>False)else K (a.put o.dst kH) w
theorem og{id:Nat}{Q:Exit->Act->jJ->Prop}{w:jJ}{l:List lX}(n sz:Nat)(bq:(Nat->Bool)->(Nat->jP)->jJ->Prop)(ay:P.follows .mixedOrders=true)(hsz:a0.tmps.size=sz)(hB:a2s l.toArray n sz=true)(ae:n=l.length\/(Region.sinkB .any l.toArray n&&Region.chainB .any l.toArray n&&decide (n<l.length))=true)(bu:Region.seqB .any l.toArray (l.length - n) n (lI n true++lI (l.length - n) false)=true)(hI:∀vs,bq (λ_=>false) vs {w with drawn:=w.drawn+1})(hop:∀i o,i<n->l[i]? =some o->CV P l.toArray n a0 bq i o)(bz:∀(D:Nat->Bool) (vs:Nat->jP) (w':jJ),(∀j,j<n->D j=true)->bq D vs w'->wpList P l.toArray Q (l.drop n) (zb vs (l.take n) 0 a0) w'):
  (lg id l.toArray true).wp P Q a0 w:=by
 simp only[a2s,j3,decide_eq_true_eq]at hB;obtain⟨⟨⟨bA,aJ⟩,aO⟩,af⟩:=hB;have bB:n<=l.length:=by simpa using aO
 have Z:uz (l.take n)=true:=by simpa using aJ
 refine wp_region_any ay ?_
 have key:∀(f:Nat)(A:Array Bool)(a:Act)(w:jJ)(vs:Nat->jP),HeadInv .any l.toArray n A->((l7 n).filter λj=> !A.getD j false).length=f->
   a=su (λj=>A.getD j false) vs (l.take n) 0 a0->bq (λj=>A.getD j false) vs w->wpAny P .any l.toArray Q (f+(l.length - n)) A a w:=by
  intro f;induction f with
  |zero=>
   intro A a w vs inv az aA ag;have hdone:∀j,j<n->A.getD j false=true:=λj C=>by
    have h0:=List.eq_nil_of_length_eq_zero az;rw[List.filter_eq_nil_iff]at h0;have:=h0 j (mg.2 C);simpa using this
   have aB:A=lI n true++lI (l.length - n) false:=by
    have aP:=inv.size;simp at aP;apply Array.ext;.simp;omega
    .intro j N O
     by_cases C:j<n
     .have:=hdone j C
      rw[Array.getElem_append_left (by simpa using C)];simpa [N]using this
     .have:=inv.tail j nK nQ
      rw[Array.getElem_append_right nQ];simpa [N]using this
   have aC:a=zb vs (l.take n) 0 a0:=by
    rw[aA];exact Jt _ _ _ λj _ C=>hdone j (by simp at C;omega)
   rw[Nat.zero_add];have:=wpAny_of_seq (P:=P) (md:=.any) (ops:=l.toArray) (Q':=Q) (l.drop n) n A a w (λj=>by simp[List.getElem?_drop]) (by rw[kS,aB];exact bu) (by
    rw[aC];exact bz _ vs w hdone ag)
   rwa [kS]at this
  |succ f bC=>
   intro A a w vs inv az aA ag;have aG:∃j,j<n/\A.getD j false=false:=by
    have h0:(l7 n).filter (λj=> !A.getD j false)≠[]:=by intro h;rw[h]at az;simp at az
    obtain⟨j,C⟩:=List.exists_mem_of_ne_nil _ h0;rw[List.mem_filter,mg]at C;exact⟨j,C.1,by simpa using C.2⟩
   have hin:∀j,j<n->j<A.size:=λj C=>by rw[inv.size];simp;omega
   rw[show f+1+(l.length - n)=(f+(l.length - n))+1 by omega];have ah:lQ .any l.toArray A≠[]:=by
    have:∃j,(j<n/\A.getD j false=false)/\∀k,k<j->¬(k<n/\A.getD k false=false):=by
     obtain⟨j,C⟩:=aG;induction j using Nat.strongRecOn with
     |_ j aQ=>
      rcases Classical.em (∃k,k<j/\(k<n/\A.getD k false=false))with⟨k,hk,hk2⟩|h
      .exact aQ k hk hk2
      .exact⟨j,C,λk hk hk2=>h ⟨k,hk,hk2⟩⟩
    obtain⟨j,⟨I,ai⟩,aK⟩:=this;have aR:j<l.length:=nK;have U:l.toArray[j]? =some l[j]:=by simp[aR]
    have N:=lY.1 af j (mg.2 I);rw[U]at N;simp only[j3]at N;intro h0;have ay:j∈lQ .any l.toArray A:=by
     rw[mem_ready];refine⟨getD_in (hin j I) ai,l[j],U,λe he hb=> ?_⟩;have O:=Array.all_eq_true_iff_forall_mem.1 N.1.1 e he;rw[hb]at O;simp at O;cases hl:A.getD e.on false with
     |true=>rfl
     |false=>exact absurd ⟨nK,hl⟩ (aK e.on O)
    rw[h0]at ay;cases ay
   refine⟨λh0=>absurd h0 ah,λi hi=> ?_⟩;have aS:=mem_ready.1 hi;obtain⟨aa,oi,Y,aD⟩:=aS;have bG:i<l.length:=by have:=(ku.1 Y).1;simpa using this
   have E:i<n:=by
    rcases lh i n with h|h
    .exact h
    .rcases ae with ae|ae
     .omega
     .simp only[j3,decide_eq_true_eq]at ae
      obtain⟨⟨hs,hc⟩,hn⟩:=ae;obtain⟨j,I,ai⟩:=aG;exact absurd hi (tail_waits hs hc (by simpa using hn) inv _ j rfl I (getD_in (hin j I) ai) i h)
   have aj:l[i]? =some oi:=by simpa using Y
   have N:=lY.1 af i (mg.2 E);rw[Y]at N;simp only[j3]at N;obtain⟨⟨_,ak⟩,au⟩:=N;have aH:∀j,Region.waitsFor .any l.toArray i j=true->A.getD j false=true:=λj V=>by
    obtain⟨bD,aT,e,he,hb,av⟩:=Region.waitsFor_spec V;have:bD=oi:=ma (aT.symm.trans Y);subst this;rw[<-av];exact aD e he hb
   have hdone:∀j,j<n->Qd l.toArray oi j=true->A.getD j false=true:=λj C aU=>by
    have O:=lY.1 au j (mg.2 C);rw[aU]at O;simp only[Bool.not_true,Bool.false_or]at O;exact aH j O
   have aF:∀t∈oi.looksAt l.toArray,a.tmps.getD t kH=slotL vs (l.toArray.toList.take n) 0 t (a0.tmps.getD t kH):=λt ht=>by
    have O:=lY.1 ak t ht;rw[aA];exact Np (l.take n) 0 a0 Z (by rw[hsz];simpa using O) λj o C aL=>by
     rw[Nat.zero_add];have I:j<n:=by have:=(ll.1 C).1;simp at this;omega
     have U:l.toArray[j]? =some o:=by rw[mM,if_pos I]at C;simpa using C
     refine hdone j I ?_;unfold Qd;rw[U];show(match o.dst with|some d=>(oi.looksAt l.toArray).contains d|none=>false)=true;rw[aL];simpa using ht
   have ax:∀j,(A.setIfInBounds i true).getD j false=if j=i then true else A.getD j false:=λj=>by
    by_cases h:j=i;.subst h;simp[hin j E]
    .rw[if_neg h,getD_set_ne false (Ne.symm h)]
   have aI:(λj=>(A.setIfInBounds i true).getD j false)=zm (λj=>A.getD j false) i:=funext λj=>by rw[ax];rfl
   have J:=hop i oi E aj (λj=>A.getD j false) vs a w (wpAny P .any l.toArray Q (f+(l.length - n)) (A.setIfInBounds i true)) ag (getD_both aa) (λj _ V=>aH j V) (λj C V=>by
    cases hl:A.getD j false with
    |false=>rfl
    |true=>
     obtain⟨aV,U,e,he,hb,av⟩:=Region.waitsFor_spec V;have:=inv.closed j aV U hl e he hb;rw[av,getD_both aa]at this;cases this) aF (λv bE w' aW aX=>by
    refine bC (A.setIfInBounds i true) bE w' (zn vs i v) (inv.set hi E) ?_ ?_ ?_
    .have aY:((l7 n).filter λj=> !A.getD j false).length=((l7 n).filter λj=> !(A.setIfInBounds i true).getD j false).length+1:=by
      have aM:(λj=> !(A.setIfInBounds i true).getD j false)=λj=> !(if j=i then true else A.getD j false):=funext λj=>by rw[ax]
      rw[aM];have aZ:∀m,i<m->((l7 m).filter λj=> !A.getD j false).length=((l7 m).filter λj=> !(if j=i then true else A.getD j false)).length+1:=by
       intro m;induction m with
       |zero=>intro h;omega
       |succ m bg=>
        intro bH;rw[List.range_succ,List.filter_append,List.filter_append,jY,jY];by_cases h:i=m
        .subst h
         have e1:(l7 i).filter (λj=> !A.getD j false)=(l7 i).filter (λj=> !(if j=i then true else A.getD j false)):=by
          refine List.filter_congr λj C=> ?_
          have:=mg.1 C;rw[if_neg nK]
         rw[e1];have:A.getD i false=false:=getD_both aa;simp only[List.filter_cons,List.filter_nil,this,if_true];simp
        .rw[bg nK]
         simp only[List.filter_cons,List.filter_nil,if_neg (Ne.symm h)];omega
      exact aZ n E
     omega
    .rw[aW,aA]
     have bF:=Ju (D:=λj=>A.getD j false) (vs:=vs) (i:=i) (o:=oi) (v:=v) (getD_both aa) (l.take n) 0 a0 Z (kI _) (by rw[Nat.sub_zero,mM,if_pos E];exact aj);rw[bF,aI]
    .rw[aI];exact aX)
   unfold wpOp;rw[Y];show if Region.wanted oi (yielded l.toArray a.tmps)=true then _ else _
   split
   .rename_i V
    rw[if_pos V]at J;exact .inl (Oper.a3C (λ_ _ h=>h) (λ_ _ _ h=>h.elim) (λh=>by obtain⟨_,_,h⟩:=h;exact h.elim) J)
   .rename_i V
    rw[if_neg V]at J;exact J
 have aN:HeadInv .any l.toArray n (lI l.toArray.size false):=
  ⟨nR,λj aV _ hl=>(by rw[getD_replicate_false]at hl;cases hl),λt _ ht=>getD_in (by simpa using ht) (getD_replicate_false _ _)⟩
 have:=key n (lI l.toArray.size false) a0 {w with drawn:=w.drawn+1} (λ_=>kH) aN (by
  rw[List.filter_eq_self.2 (λj _=>by rw[getD_replicate_false];rfl),List.length_range]) (by
  rw[GK _ _ _ λj _ _=>getD_replicate_false _ _]) (by
  rw[show(λj=>(lI l.toArray.size false).getD j false)=λ_=>false from funext λj=>getD_replicate_false _ _];exact hI _)
 rw[show n+(l.length - n)=l.length by omega]at this;simpa using this
theorem uA{x:Array jP}{k:Nat}{b:Bool}(h:x.getD k kH=nA b):x[k]? =some (nA b):=by
 rw[lK]at h;cases A:x[k]? with
 |none=>rw[A]at h;cases h
 |some v=>rw[A]at h;exact congrArg some h
theorem ow(D:Nat->Bool)(i:Nat):zm D i i=true:=if_pos rfl
theorem nS(D:Nat->Bool){i j:Nat}(h:j≠i):zm D i j=D j:=if_neg h
theorem p9(vs:Nat->jP)(i:Nat)(v:jP):zn vs i v i=v:=if_pos rfl
theorem oo(vs:Nat->jP){i j:Nat}(v:jP)(h:j≠i):zn vs i v j=vs j:=if_neg h
end
def rz(P:mK)(A:Array lX)(n:Nat)(a0:Act)(C:(Nat->Bool)->(Nat->jP)->jJ->Prop):Nat->List lX->Prop
 |_,[]=>True
 |k,o::l=>CV P A n a0 C k o/\rz P A n a0 C (k+1) l
theorem R7{P:mK}{A:Array lX}{n:Nat}{C:(Nat->Bool)->(Nat->jP)->jJ->Prop}:∀{l:List lX}{k i:Nat}{o:lX},rz P A n a0 C k l->l[i]? =some o->CV P A n a0 C (k+i) o
 |[],_,_,_,_,h=>by simp at h
 |_::_,k,0,_,h,e=>by simp at e;subst e;exact h.1
 |_::l,k,i+1,o,h,e=>by
  have:=R7 (l:=l) (k:=k+1) (i:=i) (o:=o) h.2 (by simpa using e);rwa [show k+1+i=k+(i+1)by omega]at this
theorem rV{P:mK}{n:Nat}{C:(Nat->Bool)->(Nat->jP)->jJ->Prop}{l:List lX}(h:∀A,A=l.toArray->rz P A n a0 C 0 (l.take n)):∀i o,i<n->l[i]? =some o->CV P l.toArray n a0 C i o:=λi o hi ho=>by
 have:=R7 (h _ rfl) (i:=i) (o:=o) (by rw[List.getElem?_take_of_lt hi];exact ho);rwa [Nat.zero_add]at this
theorem fe{l:List lX}{n i:Nat}{o:lX}{vs Q:Nat->jP}{S D:Nat->Bool}{a:Act}(A:∀t∈o.looksAt l.toArray,a.tmps.getD t kH=slotL vs (l.toArray.toList.take n) 0 t (a0.tmps.getD t kH))(hI:∀j,S j=true->D j=true->vs j=Q j)(C:∀j,j<n->Region.waitsFor .any l.toArray i j=true->D j=true)(t j:Nat)(E:t∈o.looksAt l.toArray:=by decide)(I:S j=true:=by rfl)(J:j<n:=by decide)(N:Region.waitsFor .any l.toArray i j=true:=by kernel_rfl)(O:slotL vs (l.toArray.toList.take n) 0 t (a0.tmps.getD t kH)=vs j:=by rfl):a.tmps.getD t kH=Q j:=(A t E).trans (O.trans (hI j I (C j J N)))
theorem Nq{vs A:Nat->jP}:∀(l:List lX)(k:Nat)(a:Act),(∀j,j<k+l.length->vs j=A j)->zb vs l k a=zb A l k a
 |[],_,_,_=>rfl
 |o::l,k,a,h=>by
  rw[zb,zb,h k nR,Nq l (k+1) _ λj C=>h j nQ]
theorem oW{l:List lX}{n:Nat}{vs E:Nat->jP}{S D:Nat->Bool}{a:Act}(hI:∀j,S j=true->D j=true->vs j=E j)(A:∀j,j<n->D j=true):zb vs (l.take n) 0 a=zb (λj=>if S j=true then E j else vs j) (l.take n) 0 a:=
 Nq _ _ _ λj C=>by
  rw[Nat.zero_add,kY]at C;by_cases h:S j=true;.rw[if_pos h];exact hI j h (A j nK)
  .rw[if_neg h]
theorem uR{S:Nat->Bool}{C:Nat->jP}{D:Nat->Bool}{vs:Nat->jP}{i:Nat}(h:∀j,S j=true->D j=true->vs j=C j):∀j,S j=true->zm D i j=true->zn vs i (C i) j=C j:=by
 intro j hs A;by_cases e:j=i;.subst e;exact p9 _ _ _
 .rw[oo _ _ e];rw[nS _ e]at A;exact h j hs A
theorem OP{S:Nat->Bool}{C:Nat->jP}{D:Nat->Bool}{vs:Nat->jP}{i:Nat}{v:jP}(hi:S i=false)(h:∀j,S j=true->D j=true->vs j=C j):∀j,S j=true->zm D i j=true->zn vs i v j=C j:=by
 intro j hs A;have e:j≠i:=by rintro rfl;rw[hs]at hi;cases hi
 rw[oo _ _ e];rw[nS _ e]at A;exact h j hs A
structure R8 where
 id:Nat
 name:ByteArray
 body:ByteArray
 n:Nat
 e:Nat
def R8.v(y:R8):jP:=nD #[nC #[ng nI y.id,ny y.name,ny y.body],ng nH y.n,ng nH y.e]
def UD(R:Except Nat (vS×Nat)):R8:=match R with
 | .error er=>⟨0,⟨#[]⟩,⟨#[]⟩,0,er⟩
 | .ok y=>⟨y.1.id,y.1.name,y.1.body,y.2,0⟩
theorem Jw{R:Except Nat (vS×Nat)×Option (Nat×MS)}{mt:Option (Nat×MS)}{w w':jJ}{e:Ending}:zH R mt w e w'<->w.grownBy w' (oI mt)/\pJ w' R.2/\e=nE (UD R.1).v:=by
 unfold zH;obtain⟨A,m2⟩:=R;cases A with
 |error er=>exact Iff.rfl
 |ok y=>exact Iff.rfl
structure Nr(g:Nat)(c:oK)(w0:jJ)(mt m2:Option (Nat×MS))(y:R8)(d8 d13 d14:Bool)(v:jP)(w:jJ):Prop where
 wn:Jk g c w0 mt w
 mm:pJ w (if d8=true then m2 else mt)
 blk:d13=true->∃b,v=nz (some ⟨b,0,none⟩)/\g+1<b/\nO w b (if d14=true then#[ng nI y.id,ny y.name,ny y.body]else#[ng nI 0,ny ⟨#[]⟩,ny ⟨#[]⟩]) rq
section
variable {g:Nat}{c:oK}{w0 w w':jJ}{mt m2:Option (Nat×MS)}{y:R8}{d8 d13 d14:Bool}{v:jP}
theorem Nr.below(h:Nr g c w0 mt m2 y d8 d13 d14 v w)(hb:jS w.heap.size w w'):Nr g c w0 mt m2 y d8 d13 d14 v w':=
 ⟨h.wn.below hb,h.mm.grown hb,λhd=>by obtain⟨b,C,E,A⟩:=h.blk hd;exact⟨b,C,E,Below.blk hb A A.lt⟩⟩
theorem Nr.call(h:Nr g c w0 mt m2 y false d13 d14 v w)(hg:w.grownBy w' (oI mt))(A:pJ w' m2)(hlt:∀x,oI mt=some x->x<g):Nr g c w0 mt m2 y true d13 d14 v w':=
 ⟨h.wn.grow hg hlt,A,λhd=>by obtain⟨b,C,E,I⟩:=h.blk hd;exact⟨b,C,E,o8 I hg λx J=>by have:=hlt x J;omega⟩⟩
theorem Nr.made(h:Nr g c w0 mt m2 y d8 false false v w):Nr g c w0 mt m2 y d8 true false (nz (some ⟨w.heap.size,0,none⟩)) (w.alloc (nG #[ng nI 0,ny ⟨#[]⟩,ny ⟨#[]⟩] rq)):=by
 have hb:=(jT w.heap.size w).alloc (jL _) (nG #[ng nI 0,ny ⟨#[]⟩,ny ⟨#[]⟩] rq);exact⟨h.wn.below hb,h.mm.grown hb,λ_=>⟨w.heap.size,rfl,h.wn.res.lt,nO.new w _ _⟩⟩
theorem Nr.put{b:Nat}(h:Nr g c w0 mt m2 y true true false (nz (some ⟨b,0,none⟩)) w)(E:w0.heap.size<=g)(hlt:∀x,oI m2=some x->x<g)(A:g+1<b)(hB:nO w b #[ng nI 0,ny ⟨#[]⟩,ny ⟨#[]⟩] rq):Nr g c w0 mt m2 y true true true (nz (some ⟨b,0,none⟩)) (yj w b (ng nI y.id) (ny y.name) (ny y.body)):=
 have C:=a0G (a:=ng nI y.id) (b:=ny y.name) (d:=ny y.body) h.wn hB A E hlt h.mm
 ⟨C.wn,C.mm,λ_=>⟨b,rfl,A,C.fr⟩⟩
end
noncomputable def GL:List lX:=cO (cL (cR (cR (cB Tryz.f63))))
section
variable (g:Nat)(c:oK)(fn:FuncId)(row:jP)(w0:jJ)(mt m2:Option (Nat×MS))(s:ByteArray)(y:R8)
def tX:Nat->jP
 |0=> nC zi
 |1=> nz (some ⟨g,0,none⟩)
 |2=> ng nH c.fmt
 |3=>row
 |4=> .func (.func fn) #[] #[]
 |5=> nC #[ng nH c.fmt,ng nJ c.mag,ng nH c.pO,ng nH c.qj,ng nH c.dep,ng nH c.oZ]
 |6=>Ja mt
 |7=> ny s
 |8=>y.v
 |9=>y.v
 |10=> nC #[ng nI y.id,ny y.name,ny y.body]
 |11=> ng nH y.n
 |12=> ng nH y.e
 |15=> ng nH y.n
 |16=> ng nH y.e
 |_=>kH
structure a3D(D:Nat->Bool)(vs:Nat->jP)(w:jJ):Prop where
 oJ:Nr g c w0 mt m2 y (D 8) (D 13) (D 14) (vs 13) w
 val:∀j,(j !=13)=true->D j=true->vs j=tX g c fn row mt s y j
variable {g c fn row w0 mt m2 s y}
theorem a0U{D:Nat->Bool}{vs:Nat->jP}{w w':jJ}(h:a3D g c fn row w0 mt m2 s y D vs w){i:Nat}(hi:i≠8/\i≠13/\i≠14)(A:Nr g c w0 mt m2 y (D 8) (D 13) (D 14) (vs 13) w->Nr g c w0 mt m2 y (D 8) (D 13) (D 14) (vs 13) w'):a3D g c fn row w0 mt m2 s y (zm D i) (zn vs i (tX g c fn row mt s y i)) w':=by
 refine⟨?_,uR h.val⟩;rw[nS D (show 8≠i by omega)];rw[nS D (show 13≠i by omega)];rw[nS D (show 14≠i by omega)];rw[oo vs (tX g c fn row mt s y i) (show 13≠i by omega)];exact A h.oJ
theorem qD(h:p:=by
 simp only[ky,kQ,zb,kE];exact q):p:=h
theorem qF(h:p:=by
 exact λvs=>⟨hI0 vs,λj _ h=>by cases h⟩):p:=h
theorem a3E{id:Nat}{Q:Exit->Act->jJ->Prop}{Y:jJ}(ht3:a0.tmps.getD 3 kH=nz (some ⟨g,0,none⟩))(hrow:∀W,(kR 142 (nC zi) (ng nH c.fmt)).run jI W=.ok row W)(Jp:∀W,(Instr.field 141 row 2).run jI W=.ok (.func (.func fn) #[] #[]) W)(ht1:a0.tmps.getD 1 kH=Ja mt)(ht2:a0.tmps.getD 2 kH=ny s)(hlt:∀x,oI mt=some x->x<g)(hcf:∀a b d W,mi jI (callFunc fn #[a,b,d]) W=.ok (.enter fn #[a,b,d]) W)(hcall:∀W,pJ W mt->jV jI fn #[nC #[ng nH c.fmt,ng nJ c.mag,ng nH c.pO,ng nH c.qj,ng nH c.dep,ng nH c.oZ],Ja mt,ny s] W λe Z=>W.grownBy Z (oI mt)/\pJ Z m2/\e=nE y.v)(hm2:oI m2=oI mt)(hw0:w0.heap.size<=g)(hsz:a0.tmps.size=35)(hI0:∀vs:Nat->jP,(λw=>Nr g c w0 mt m2 y false false false (vs 13) w) Y.drew)(aa:∀(vs:Nat->jP) (w:jJ),Nr g c w0 mt m2 y true true true (vs 13) w->Q .normal {a0 with tmps:=((((((((((((((((a0.tmps.setIfInBounds 17 (nC zi)).setIfInBounds 18 (nz (some ⟨g,0,none⟩))).setIfInBounds 19 (ng nH c.fmt)).setIfInBounds 20 (row)).setIfInBounds 21 (.func (.func fn) #[] #[])).setIfInBounds 22 (nC #[ng nH c.fmt,ng nJ c.mag,ng nH c.pO,ng nH c.qj,ng nH c.dep,ng nH c.oZ])).setIfInBounds 23 (Ja mt)).setIfInBounds 24 (ny s)).setIfInBounds 25 (y.v)).setIfInBounds 16 (y.v)).setIfInBounds 26 (nC #[ng nI y.id,ny y.name,ny y.body])).setIfInBounds 27 (ng nH y.n)).setIfInBounds 28 (ng nH y.e)).setIfInBounds 9 (vs 13)).setIfInBounds 10 (ng nH y.n)).setIfInBounds 11 (ng nH y.e))} w):
  (lg id GL.toArray true).wp jI Q a0 Y:=by
 refine og 17 35 (a3D g c fn row w0 mt m2 s y) nM hsz nM (.inl rfl) nM ?_ ?_ ?_;.exact qF
 .refine rV λA aA=> ?_
  clear hI0 aa hsz;replace ht3:=jH ht3;replace hrow:=jH hrow;replace Jp:=jH Jp;replace ht1:=jH ht1;replace ht2:=jH ht2;replace hlt:=jH hlt;replace hcf:=jH hcf;replace hcall:=jH hcall;replace hm2:=jH hm2;replace hw0:=jH hw0;dsimp+instances only[GL,cO,cL,cR,cB,Tryz.f63];simp only[ky,kQ,rz];refine⟨?_,?_,?_,?_,?_,?_,?_,?_,?_,?_,?_,?_,?_,?_,?_,?_,?_,trivial⟩<;>(intro D vs a w K hI hd E hw2 C N;subst aA;dsimp+instances only[GL,cO,cL,cR,cB,Tryz.f63])
  .rw[if_pos (by rfl)]
   have aB:=Cu w;go_simp;refine aB.mono ?_;rintro e aC ⟨rfl,hb⟩;exact N (tX g c fn row mt s y 0) _ _ rfl (a0U hI (i:=0) nN λh=>h.below hb)
  have e3:=(C 3 nN).trans ht3.out;rotate_left;have ae:=fe C hI.val E 18 1;simp only[tX]at ae;have c0:w.cell? ⟨g,0,none⟩=some (ng nH c.fmt):=hI.oJ.wn.cf.cell 0;rotate_left;have hrow:=hrow.out;have V:=fe C hI.val E 17 0;have af:=fe C hI.val E 19 2;simp only[tX]at V af;have ag:=hrow w;unfold zi at ag V;rotate_left;have Jp:=Jp.out;have ah:=fe C hI.val E 20 3;simp only[tX]at ah;have ag:=Jp w;rotate_left;have e3:=(C 3 nN).trans ht3.out;obtain⟨c0,c1,c2,c3,c4,c5⟩:=hI.oJ.wn.cf.a6;rotate_left;have e1:=(C 1 nN).trans ht1.out;rotate_left;have e2:=(C 2 nN).trans ht2.out;rotate_left
  .have hlt:=hlt.out
   have hcf:=hcf.out;have hcall:=hcall.out;have ai:=fe C hI.val E 21 4;have aj:=fe C hI.val E 22 5;have ak:=fe C hI.val E 23 6;have au:=fe C hI.val E 24 7;simp only[tX]at ai aj ak au;have J:=hI.oJ;rw[hd]at J;have aD:=hcall w J.mm;rw[if_pos (by rfl)];go_simp;refine aD.mono ?_;rintro e aC ⟨hg,hm2,rfl⟩;refine N (tX g c fn row mt s y 8) _ _ rfl ⟨?_,uR hI.val⟩;rw[ow,nS D (show 13≠8 by decide),nS D (show 14≠8 by decide),oo vs _ (show 13≠8 by decide)];exact J.call hg hm2 hlt
  have aG:=fe C hI.val E 25 8;rotate_left;have I:=fe C hI.val E 16 9;simp only[tX]at I;unfold R8.v at I;rotate_left;have I:=fe C hI.val E 16 9;simp only[tX]at I;unfold R8.v at I;rotate_left;have I:=fe C hI.val E 16 9;simp only[tX]at I;unfold R8.v at I;rotate_left
  .have J:=hI.oJ
   rw[hd,hw2 14 nN nM]at J;go_simp;refine N (nz (some ⟨w.heap.size,0,none⟩)) _ _ rfl ⟨?_,OP rfl hI.val⟩;rw[ow,nS D (show 8≠13 by decide),nS D (show 14≠13 by decide),p9];rw[hw2 14 nN nM];exact J.made
  .have hlt:=hlt.out
   have hm2:=hm2.out;have hw0:=hw0.out;have d13:=E 13 nN nM;have av:a.tmps.getD 9 kH=vs 13:=C 9 nN;have ax:=fe C hI.val E 26 10;simp only[tX]at ax;have ay:D 8=true:=E 8 nN nM;have J:=hI.oJ;rw[hd,ay,d13]at J;obtain⟨b,O,az,hB⟩:=J.blk rfl;have av:=av.trans O;obtain⟨z0,aJ,aK,aL,f1,f2⟩:=Jl hB;go_simp;refine N kH _ _ rfl ⟨?_,uR hI.val⟩;rw[ow,nS D (show 8≠14 by decide),nS D (show 13≠14 by decide),oo vs _ (show 13≠14 by decide)];rw[ay,d13,O];rw[O]at J;exact J.put hw0 (λx aF=>hlt x (hm2▸aF)) az hB
  have aH:=fe C hI.val E 27 11;rotate_left;have aI:=fe C hI.val E 28 12;rotate_left
  all_goals
   try simp only[tX]at*
   go_simp;exact N _ _ _ rfl ⟨hI.oJ,uR hI.val⟩
 .intro D vs w U hI
  have E:=hI.oJ;rw[U 8 nN]at E;rw[U 13 nN]at E;rw[U 14 nN]at E;have q:=aa vs w E;rw[oW hI.val U];dsimp+instances only[GL,cO,cL,cR,cB,Tryz.f63];exact qD
end
theorem a0V{id:Nat}{Q:Exit->Act->jJ->Prop}{w w0:jJ}{g:Nat}{c:oK}{fn:FuncId}{row:jP}{mt m2:Option (Nat×MS)}{s:ByteArray}{y:R8}(J:a0.tmps.getD 1 kH=Ja mt)(N:a0.tmps.getD 2 kH=ny s)(O:a0.tmps.getD 3 kH=nz (some ⟨g,0,none⟩))(hsz:a0.tmps.size=35)(hrow:∀W,(kR 142 (nC zi) (ng nH c.fmt)).run jI W=.ok row W)(Jp:∀W,(Instr.field 141 row 2).run jI W=.ok (.func (.func fn) #[] #[]) W)(hI0:Jk g c w0 mt w)(A:pJ w mt)(hm2:oI m2=oI mt)(hw0:w0.heap.size<=g)(hlt:∀x,oI mt=some x->x<g)(hcf:∀a b d W,mi jI (callFunc fn #[a,b,d]) W=.ok (.enter fn #[a,b,d]) W)(hcall:∀W,pJ W mt->jV jI fn #[nC #[ng nH c.fmt,ng nJ c.mag,ng nH c.pO,ng nH c.qj,ng nH c.dep,ng nH c.oZ],Ja mt,ny s] W λe C=>W.grownBy C (oI mt)/\pJ C m2/\e=nE y.v)(U:∀(vs:Nat->jP) (b:Nat) W,WnF g c w0 mt m2 (ng nI y.id) (ny y.name) (ny y.body) b W->g+1<b->Q .normal {a0 with tmps:=(((((((((((((((a0.tmps.setIfInBounds 17 (vs 0)).setIfInBounds 18 (vs 1)).setIfInBounds 19 (vs 2)).setIfInBounds 20 (vs 3)).setIfInBounds 21 (vs 4)).setIfInBounds 22 (vs 5)).setIfInBounds 23 (vs 6)).setIfInBounds 24 (vs 7)).setIfInBounds 25 (vs 8)).setIfInBounds 16 (vs 9)).setIfInBounds 26 (vs 10)).setIfInBounds 27 (vs 11)).setIfInBounds 28 (vs 12)).setIfInBounds 9 (nz (some ⟨b,0,none⟩))).setIfInBounds 10 (ng nH y.n)).setIfInBounds 11 (ng nH y.e)} W):
  (lg id GL.toArray true).wp jI Q a0 w:=by
 refine a3E (ht3:=O) (hrow:=hrow) (Jp:=Jp) (ht1:=J) (ht2:=N) (hlt:=hlt) (hcf:=hcf) (hcall:=hcall) (hm2:=hm2) (hw0:=hw0) (hsz:=hsz) (hI0:=λ_=>⟨hI0.drew,(a0F A:pJ w.drew mt),nofun⟩) ?_;intro vs W hI;obtain⟨b,E,I,hB⟩:=hI.blk rfl;have q:=U (tX g c fn row mt s y) b W ⟨hI.wn,hB,hI.mm⟩ I;rw[<-E]at q;exact q
theorem a0W(c:oK)(s:ByteArray)(mt:Option (Nat×MS))(hs:s.size<=j5)(hc:oM c=true)(E:c.wf):∃(fn:FuncId) (row:jP),(∀W,(kR 142 (nC zi) (ng nH c.fmt)).run jI W=.ok row W)/\
  (∀W,(Instr.field 141 row 2).run jI W=.ok (.func (.func fn) #[] #[]) W)/\(∀a b d W,mi jI (callFunc fn #[a,b,d]) W=.ok (.enter fn #[a,b,d]) W)/\
  ∀W,pJ W mt->jV jI fn #[nC #[ng nH c.fmt,ng nJ c.mag,ng nH c.pO,ng nH c.qj,ng nH c.dep,ng nH c.oZ],Ja mt,ny s] W λe A=>W.grownBy A (oI mt)/\pJ A (qN c s mt).2/\e=nE (UD (qN c s mt).1).v:=by
 have N:=(qH hc).1;have key:∀k:Nat,c.fmt=k->∀f,WG k=.func (.func f) #[] #[]->∀W,pJ W mt->jV jI f #[nC #[ng nH c.fmt,ng nJ c.mag,ng nH c.pO,ng nH c.qj,ng nH c.dep,ng nH c.oZ],Ja mt,ny s] W λe A=>W.grownBy A (oI mt)/\pJ A (qN c s mt).2/\e=nE (UD (qN c s mt).1).v:=by
  intro k hk f I W J;obtain⟨O,C,hcall⟩:=MV c k hk s mt W hs hc E J;rw[I]at C;cases C;exact hcall.mono λe A h=>Jw.1 h
 have hk:c.fmt=1\/c.fmt=2\/c.fmt=3:=nK;rcases hk with hk|hk|hk
 .have hix:=Rz
  rw[<-hk]at hix;exact⟨100,_,hix,λW=>PI _ _ _ _ W,λ_ _ _ _=>rfl,key 1 hk _ rfl⟩
 .have hix:=RA
  rw[<-hk]at hix;exact⟨105,_,hix,λW=>PI _ _ _ _ W,λ_ _ _ _=>rfl,key 2 hk _ rfl⟩
 .have hix:=RB
  rw[<-hk]at hix;exact⟨110,_,hix,λW=>PI _ _ _ _ W,λ_ _ _ _=>rfl,key 3 hk _ rfl⟩
theorem UE(c:oK)(s:ByteArray)(mt:Option (Nat×MS))(w:jJ)(hs:s.size<=j5)(hc:oM c=true)(Y:c.wf)(J:pJ w mt):
  jV jI 63 #[c.v,Ja mt,ny s] w λe w'=>w.grownBy w' (oI mt)/\pJ w' (qN c s mt).2/\e=nE (UD (qN c s mt).1).v:=by
 obtain⟨fn,row,hrow,Jp,hcf,hcall⟩:=a0W c s mt hs hc Y;have C:=zJ c s mt;have N:=jH (zI J);have Z:=DZ c s mt;have aa:=jH (BH c);rw[hc]at aa;obtain⟨g,hg⟩:=nT w.heap.size;have ae:jW (∀W,(w.alloc (nG #[ng nH c.fmt,ng nJ c.mag,ng nH c.pO,ng nH c.qj,ng nH c.dep,ng nH c.oZ] tV)).alloc (nG #[ng nI 0,ny ⟨#[]⟩,ny ⟨#[]⟩] rq)=W->Jk g c w mt W/\pJ W mt):=jH λW h=>by
  subst h;have aD:=(jT w.heap.size w).alloc (jL _) (nG #[ng nH c.fmt,ng nJ c.mag,ng nH c.pO,ng nH c.qj,ng nH c.dep,ng nH c.oZ] tV);have O:=aD.alloc nR (nG #[ng nI 0,ny ⟨#[]⟩,ny ⟨#[]⟩] rq);have aR:(w.alloc (nG #[ng nH c.fmt,ng nJ c.mag,ng nH c.pO,ng nH c.qj,ng nH c.dep,ng nH c.oZ] tV)).heap.size=g+1:=by simp[hg]
  have aF:=nO.new w #[ng nH c.fmt,ng nJ c.mag,ng nH c.pO,ng nH c.qj,ng nH c.dep,ng nH c.oZ] tV;have A:=nO.new (w.alloc (nG #[ng nH c.fmt,ng nJ c.mag,ng nH c.pO,ng nH c.qj,ng nH c.dep,ng nH c.oZ] tV)) #[ng nI 0,ny ⟨#[]⟩,ny ⟨#[]⟩] rq;rw[aR]at A;exact⟨⟨hg▸aF.alloc _,A,o5 O⟩,J.grown O⟩
 rw[hg]at N;generalize (qN c s mt).2=m2 at*;obtain⟨y,ag⟩:=nT (UD (qN c s mt).1);have aS:jW ((y.e=0/\True)\/(y.e≠0/\y.id=0/\y.name=⟨#[]⟩/\y.body=⟨#[]⟩/\y.n=0)):=jH (by
  rw[<-ag];cases aT:(qN c s mt).1 with
  |error er=>
   have:=Z er aT;exact .inr ⟨by show er≠0;omega,rfl,rfl,rfl,rfl⟩
  |ok z=>exact .inl ⟨rfl,trivial⟩)
 rw[ag]at hcall⊢;clear ag Z;have U:=jH (λ(id:Nat) (Q:Exit->Act->jJ->Prop) (a0:Act) (W:jJ) (ah:a0.tmps.getD 1 kH=Ja mt) (ai:a0.tmps.getD 2 kH=ny s) (aj:a0.tmps.getD 3 kH=nz (some ⟨g,0,none⟩)) (hsz:a0.tmps.size=35) hI0 hM0 hQ=>
  a0V (id:=id) (Q:=Q) (a0:=a0) (w:=W) (w0:=w) (c:=c) (y:=y) ah ai aj hsz hrow Jp hI0 hM0 C (mV hg) N hcf hcall hQ)
 have aG:=jH C;clear hrow Jp hcf hcall Y hc hs J C;obtain⟨f,m,fr,bg,bq,bu⟩:=c;unfold oK.v oK.cs at*;dsimp only at*;go_in;go_upto_region 1 with fail;obtain⟨hI,af⟩:=ae.out _ rfl;generalize (w.alloc _).alloc _=w1 at*;have aH:=jH hI;have aI:=jH af;obtain⟨_,aJ,aK,aL,aM,aN,aO⟩:=hI.s;clear hI ae af;dsimp only at aJ aK aL aM aN aO;go_wp2_with fail;refine(aa _).mono ?_;rintro e w2 ⟨rfl,A⟩;have aP:=jH (aH.below A);have ak:=jH (aI.grown A);clear A aH aI aJ aK aL aM aN aO;go_upto_region 3 with fail;refine U _ _ _ _ rfl rfl rfl rfl aP ak ?_;intro vs b W hF aY;clear U;have I:=jH hF;generalize vs 0=v0;generalize vs 1=v1;generalize vs 2=v2;generalize vs 3=v3;generalize vs 4=v4;generalize vs 5=v5;generalize vs 6=v6;generalize vs 7=bz;generalize vs 8=bA;generalize vs 9=v9;generalize vs 10=v10;generalize vs 11=v11;generalize vs 12=aZ;obtain⟨au,av,ax,aU,ay⟩:=y;dsimp only at*;obtain⟨r0,r1,r2,z0,bB,bC⟩:=I.wn.res.b3;obtain⟨bD,bE,y2⟩:=I.fr.a3;clear hF;have aQ:=jH (λ(a b c:jP)=>qB (a:=a) (b:=b) (c:=c) I.wn.res);have V:=jH (λ(a b c:jP)=>BI (a:=a) (b:=b) (c:=c) ⟨I.wn.res,I.mm,I.wn.gr⟩ (λx aV=>N.out x (aG.out▸aV)) hg);simp only[jK,jQ,jR];rcases aS.out with⟨E,_⟩|⟨E,ah,ai,aj,aW⟩
 .subst E
  go_wp2_with fail;rw[qQ];obtain⟨e1,e2⟩:=V.out (ng nI au) (ny av) (ny ax);have az:=aQ.out (ng nI au) (ny av) (ny ax);obtain⟨aA,aB,aC⟩:=az.a3;refine j4 (v:=nD #[nC #[ng nI au,ny av,ny ax],ng nH (aU:Nat),ng nH 0]) (by simp[kK,Tryz.results63,go_sem,aA,aB,aC]) rfl ⟨e1,e2,rfl⟩
 .subst ah ai aj aW
  have aX:((ay:Int) !=0)=true:=nQ;have E:jW (ay≠0):=E;go_wp2_with fail;rw[qQ];obtain⟨e1,e2⟩:=V.out (ng nI 0) (ny ⟨#[]⟩) (ny ⟨#[]⟩);have az:=aQ.out (ng nI 0) (ny ⟨#[]⟩) (ny ⟨#[]⟩);obtain⟨aA,aB,aC⟩:=az.a3;refine j4 (v:=nD #[nC #[ng nI 0,ny ⟨#[]⟩,ny ⟨#[]⟩],ng nH 0,ng nH (ay:Nat)]) (by simp[kK,Tryz.results63,go_sem,aA,aB,aC]) rfl ⟨e1,e2,rfl⟩
def p0(a:TL)(_:List (nL TL)):Bool:=decide (a.tail=0)
theorem a3F(x:nL TL):x.all p0=(decide (x.lab.tail=0)&&nL.o7 p0 x.sub):=by
 cases x with
 |node a s=>rfl
theorem a0X(a:TL)(s:List (nL TL)):(nL.node a s).all p0=(decide (a.tail=0)&&nL.o7 p0 s):=rfl
theorem UF(x:nL TL):∀(w:jJ)(v:jP),oL w v x.sub->
  jV jI 172 #[nC #[ng nH x.lab.kind,ng nH x.lab.size,v,ng nH x.lab.tail]] w λe w'=>e=nE (nA (nL.o7 p0 x.sub))/\jS w.heap.size w w':=by
 induction x using nL.ind with
 |h a s aB=>
  intro w v V;simp only[nL.qx,nL.oQ]at V⊢;obtain⟨oa,cap,rfl,ax,ag⟩:=oL.slice V;obtain⟨g,hg⟩:=nT w.heap.size;have Y:=jH (uN (k:=a.kind) (z:=a.size) (l:=a.tail) (t:=63) V);have aC:s.length<=9223372036854775807:=by unfold j5 at ag;omega
  obtain⟨M,ay⟩:=nT s.length;have aD:=jH ay;have aN:=jH aB;obtain⟨R,az⟩:=nT (nL.o7 p0 s);have aF:=jH az;rw[hg]at Y⊢;rw[ay]at Y aC⊢;rw[az];clear V ax ag aB ay az;go_in;go_upto_region 1 with fail;generalize w.alloc (nG #[ng nH a.kind,ng nH a.size,nk oa M cap,ng nH a.tail] 63)=w1 at*;obtain⟨ah,ht1,hsz,c0,c1,c2,c3⟩:=Y.out _ rfl;have Z:=jH (jU ah ht1);clear Y ah ht1 c0 c1 c3;go_wp2_with fail;clear c2;go_loopw [4,8] (λ_ iv aO=>∃k:Nat,iv=ng nH k/\k<=M/\jW (nL.o7 p0 (s.take k)=true)/\jW (jS (g+1) w1 aO)) (λ_ iv _=>M -(kW iv).toNat);case atStart=>exact⟨0,rfl,nK,by simp[jW,nL.o7],jH (jT _ _)⟩
  case round=>
   obtain⟨k,rfl,hk,aG,I⟩:=hrel;have HF:jW (jS g w wr):=jH (Z.1.trans (I.mono nK));have aH:g+1<=wr.heap.size:=by have:=I.size;omega
   by_cases c:k<M
   .obtain⟨y,aa⟩:∃y,s[k]? =some y:=⟨_,jX (by rw[aD.out];exact c)⟩
    obtain⟨b,off,u,rfl,hlt,aP,aQ,y2,aR,ae,aI⟩:=oL.at_ (Shape.nX.below Z.2 (hsz▸I.out)) aa;obtain⟨ou,cu,rfl,_,_⟩:=oL.slice ae;obtain⟨J,ai⟩:=nT y.sub.length;rw[ai]at ae y2;clear ai;have af:jW (nL.o7 p0 (s.take (k+1))=y.all p0):=jH (by rw[nL.wI aa,aG.out];rfl);have A:jW (y.all p0=false->R=false):=jH λh=>by rw[<-aF.out];exact nL.sG aa h
    have N:=jH (a3F y);have aS:=jH ae;have aJ:=jH (aN y (kT aa))
    have aK:jW (∀W,wr.alloc (nG #[ng nH y.lab.kind,ng nH y.lab.size,nk ou J cu,ng nH y.lab.tail] 63)=W->jS wr.heap.size wr W/\oL W (nk ou J cu) y.sub/\W.heap.size=wr.heap.size+1/\
      nO W wr.heap.size #[ng nH y.lab.kind,ng nH y.lab.size,nk ou J cu,ng nH y.lab.tail] 63):=jH λW h=>by
     subst h;have aj:=(jT wr.heap.size wr).alloc (jL _) (nG #[ng nH y.lab.kind,ng nH y.lab.size,nk ou J cu,ng nH y.lab.tail] 63);exact⟨aj,Shape.nX.below aS aj,nR,nO.new wr _ _⟩
    clear ae aI;go_upto_region 4 with fail;generalize wr.alloc (nG #[ng nH y.lab.kind,ng nH y.lab.size,nk ou J cu,ng nH y.lab.tail] 63)=w4 at*;obtain⟨ak,EU,aU,au⟩:=aK.out _ rfl;obtain⟨b0,b1,aV,b3⟩:=au.a4;have av:=jH (aJ w4 (nk ou J cu) EU);have O:=jH (I.trans (ak.mono aH));have Q:g+1<=w4.heap.size:=nK;clear aK ak EU au aJ aP aQ y2 aR;generalize nL.o7 p0 y.sub=q at*;rcases a5R y.lab.tail 0 with⟨t0,aA⟩|⟨t0,aA⟩
    .cases q with
     |true=>
      have aL:jW (nL.o7 p0 (s.take (k+1))=true):=jH (by rw[af.out,N.out,decide_eq_true aA.out];rfl);clear af A N;go_wp2_with fail;refine(av).mono ?_;rintro e w5 ⟨rfl,C⟩;have E:=jH (O.trans (C.mono Q));clear C;go_wp2_with fail;go_roundw;case rel=>exact⟨k+1,by go_num,nK,aL,E⟩
      case measure=>simp[kW];omega
     |false=>
      have U:jW (R=false):=jH (A (by rw[N.out,Bool.and_false]));clear af A N;go_wp2_with fail;refine(av).mono ?_;rintro e w5 ⟨rfl,C⟩;have E:=jH (Z.1.trans ((O.trans (C.mono Q)).mono (kX g)));clear C;go_wp2_with fail;go_returns;exact⟨by rw[U.out];rfl,E.out⟩
    .have U:jW (R=false):=jH (A (by rw[N.out,decide_eq_false aA.out];rfl))
     have E:=jH (Z.1.trans (O.mono (kX g)));clear af A N;go_wp2_with fail;go_returns;exact⟨by rw[U.out];rfl,E.out⟩
   .obtain rfl:k=M:=nK
    have HE:jW (R=true):=by
     unfold jW;have aT:s.take k=s:=by rw[<-aD.out,l9]
     have aM:=aG.out;rw[aT]at aM;rw[<-aF.out,aM]
    exact Ff
theorem Xw(h:p:=by
 go_wp2_with fail;refine(CY).mono ?_;rintro e w5 ⟨rfl,hb5⟩;have HB5:=jH (hbe.trans (hb5.mono hgr));clear hb5;go_wp2_with fail;go_roundw;case rel=>exact⟨k+1,by go_num,nK,HT,HB5⟩
 case measure=>simp[kW];omega):p:=h
theorem UG(x:nL TL):∀(w:jJ)(v:jP),oL w v x.sub->
  jV jI 88 #[nC #[ng nH x.lab.kind,ng nH x.lab.size,v,ng nH x.lab.tail]] w λe w'=>e=nE (nA (!x.all p0))/\jS w.heap.size w w':=by
 induction x using nL.ind with
 |h a s aa=>
  intro w v A;simp only[nL.qx,nL.oQ]at A⊢;have C:=jH (a0X a s);obtain⟨oa,cap,rfl,U,N⟩:=oL.slice A;obtain⟨g,hg⟩:=nT w.heap.size;have E:=jH (uN (k:=a.kind) (z:=a.size) (l:=a.tail) (t:=63) A);have ae:s.length<=9223372036854775807:=by unfold j5 at N;omega
  obtain⟨M,V⟩:=nT s.length;have af:=jH V;have ax:=jH aa;obtain⟨R,Y⟩:=nT (nL.o7 p0 s);have ag:=jH Y;rw[hg]at E⊢;rw[V]at E ae⊢;rw[Y]at C;generalize (nL.node a s).all p0=av at*;clear A U N aa V Y;have t0:=a5R a.tail 0;go_in;go_upto_region 1 with fail;generalize w.alloc (nG #[ng nH a.kind,ng nH a.size,nk oa M cap,ng nH a.tail] 63)=w1 at*;obtain⟨O,ht1,hsz,c0,c1,c2,c3⟩:=E.out _ rfl;have Z:=jH (jU O ht1);clear E O ht1;rcases t0 with⟨t0,I⟩|⟨t0,I⟩
  case inr=>
   have HE:jW ((!av)=true):=jH (by rw[C.out,decide_eq_false I.out];rfl);go_wp2_with fail;go_returns;exact⟨by rw[HE.out];rfl,Z.1⟩
  have ah:jW (av=R):=jH (by rw[C.out,decide_eq_true I.out];rfl);clear C I;go_wp2_with fail;clear c0 c1 c3 t0;go_loopw [3] (λiv ay=>∃k:Nat,iv=ng nH k/\k<=M/\jW (nL.o7 p0 (s.take k)=true)/\jW (jS (g+1) w1 ay)) (λiv _=>M -(kW iv).toNat);case atStart=>exact⟨0,rfl,nK,by simp[jW,nL.o7],jH (jT _ _)⟩
  case round=>
   obtain⟨k,rfl,hk,ai,hbe⟩:=hrel;have aA:wr.cell? ⟨g,2,none⟩=some (nk oa M cap):=(hbe.cell (p:=⟨g,2,none⟩) (lM g)).trans c2;have HF:jW (jS g w wr):=jH (Z.1.trans (hbe.mono nK));have hgr:g+1<=wr.heap.size:=by have:=hbe.size;omega
   by_cases c:k<M
   .obtain⟨y,J⟩:∃y,s[k]? =some y:=⟨_,jX (by rw[af.out];exact c)⟩
    obtain⟨b,off,u,rfl,hlt,aB,aC,y2,aD,aj,ak⟩:=oL.at_ (Shape.nX.below Z.2 (hsz▸hbe.out)) J;have HT:jW (nL.o7 p0 (s.take (k+1))=y.all p0):=jH (by rw[nL.wI J,ai.out];rfl);have Q:jW (y.all p0=false->R=false):=jH λh=>by rw[<-ag.out];exact nL.sG J h
    have CY:=jH (ax y (kT J) wr u aj);clear aj ak;generalize y.all p0=q at*;cases q with
    |true=>
     exact Xw
    |false=>
     have HE:jW ((!av)=true):=jH (by rw[ah.out,Q.out rfl];rfl);clear Q;go_wp2_with fail;refine(CY).mono ?_;rintro e w5 ⟨rfl,hb5⟩;have HB5:=jH (HF.trans (hb5.mono nK));clear hb5;go_wp2_with fail;go_returns;exact⟨by rw[HE.out];rfl,HB5.out⟩
   .obtain rfl:k=M:=nK
    have HE:jW ((!av)=false):=by
     unfold jW;have az:s.take k=s:=by rw[<-af.out,l9]
     have au:=ai.out;rw[az]at au;rw[ah.out,<-ag.out,au];rfl
    exact Ff
theorem Xx(x:nL TL)(w:jJ)(v:jP)(J:oL w v x.sub)(hc:x.count<=1000):
  jV jI 54 #[nC #[ng nH x.lab.kind,ng nH x.lab.size,v,ng nH x.lab.tail]] w λe w'=>e=nE (nA (nL.o7 p0 x.sub&&pX x))/\jS w.heap.size w w':=by
 obtain⟨oa,cap,rfl,N,C⟩:=oL.slice J;obtain⟨g,hg⟩:=nT w.heap.size;have A:=jH (uN (k:=x.lab.kind) (z:=x.lab.size) (l:=x.lab.tail) (t:=63) J);have ae:x.sub.length<=9223372036854775807:=by unfold j5 at C;omega
 have O:=jH (λ(W:jJ) (h:oL W (nk oa x.sub.length cap) x.sub)=>RO x W _ h hc);obtain⟨M,Q⟩:=nT x.sub.length;have af:=jH Q;obtain⟨R,U⟩:=nT (nL.o7 p0 x.sub);have ag:=jH U;rw[hg]at A⊢;rw[Q]at A ae O⊢;rw[U];generalize pX x=mt at*;clear J N C Q U hc;go_in;go_upto_region 1 with fail;generalize w.alloc (nG #[ng nH x.lab.kind,ng nH x.lab.size,nk oa M cap,ng nH x.lab.tail] 63)=w1 at*;obtain⟨E,ht1,hsz,c0,c1,c2,c3⟩:=A.out _ rfl;have V:=jH (jU E ht1);have Y:=jH (jU c0 (jU c1 (jU c2 c3)));clear A E ht1;go_wp2_with fail;clear c0 c1 c3;go_loopw [3] (λiv ax=>∃k:Nat,iv=ng nH k/\k<=M/\jW (nL.o7 p0 (x.sub.take k)=true)/\jW (jS (g+1) w1 ax)) (λiv _=>M -(kW iv).toNat);case atStart=>exact⟨0,rfl,nK,by simp[jW,nL.o7],jH (jT _ _)⟩
 case round=>
  obtain⟨k,rfl,hk,ah,hbe⟩:=hrel;have az:wr.cell? ⟨g,2,none⟩=some (nk oa M cap):=(hbe.cell (p:=⟨g,2,none⟩) (lM g)).trans c2;have ai:jW (jS g w wr):=jH (V.1.trans (hbe.mono nK));have hgr:g+1<=wr.heap.size:=by have:=hbe.size;omega
  by_cases c:k<M
  .obtain⟨y,Z⟩:∃y,x.sub[k]? =some y:=⟨_,jX (by rw[af.out];exact c)⟩
   obtain⟨b,off,u,rfl,hlt,aA,aB,y2,aC,aj,ak⟩:=oL.at_ (Shape.nX.below V.2 (hsz▸hbe.out)) Z;have HT:jW (nL.o7 p0 (x.sub.take (k+1))=y.all p0):=jH (by rw[nL.wI Z,ah.out];rfl);have I:jW (y.all p0=false->R=false):=jH λh=>by rw[<-ag.out];exact nL.sG Z h
   have CY:=jH (UG y wr u aj);clear aj ak;generalize y.all p0=q at*;cases q with
   |true=>
    exact Xw
   |false=>
    have aa:jW (R=false):=jH (I rfl);clear I;go_wp2_with fail;refine(CY).mono ?_;rintro e w5 ⟨rfl,hb5⟩;have HB5:=jH (ai.trans (hb5.mono nK));clear hb5;go_wp2_with fail;go_returns;exact⟨by rw[aa.out,Bool.false_and];rfl,HB5.out⟩
  .obtain rfl:k=M:=nK
   have aa:jW (R=true):=by
    unfold jW;have ay:x.sub.take k=x.sub:=by rw[<-af.out,l9]
    have au:=ah.out;rw[ay]at au;rw[<-ag.out,au]
   have aD:=(hbe.cell (p:=⟨g,0,none⟩) (lM g)).trans Y.1;have aF:=(hbe.cell (p:=⟨g,1,none⟩) (lM g)).trans Y.2.1;have aG:=(hbe.cell (p:=⟨g,3,none⟩) (lM g)).trans Y.2.2.2;have av:=jH (O wr (Shape.nX.below V.2 (hsz▸hbe.out)));clear O;go_wp2_with fail;refine(av).mono ?_;rintro e w5 ⟨rfl,hb5⟩;have HB5:=jH (ai.trans (hb5.mono nK));clear hb5;go_wp2_with fail;go_returns;exact⟨by rw[aa.out,Bool.true_and];rfl,HB5.out⟩
theorem D8(x:nL TL)(w:jJ)(v:jP)(Y:oL w v x.sub)(Q:qo w):
  jV jI 122 #[nC #[ng nH x.lab.kind,ng nH x.lab.size,v,ng nH x.lab.tail]] w λe w'=>e=nE (nA (nL.o7 p0 x.sub&&pX x))/\jS w.heap.size w w':=by
 have J:=Q.lt;have U:=jH (uN (k:=x.lab.kind) (z:=x.lab.size) (l:=x.lab.tail) (t:=63) Y);obtain⟨g,hg⟩:=nT w.heap.size;rw[hg]at U J⊢;have ag:=jH (λ(W:jJ) (h:jS g w W)=>Q.below h J);clear Y Q;have C:=jH (λ(W:jJ) (h:oL W v x.sub) (ah:qo W)=>Cz x W v h ah);have Z:=jH (λ(W:jJ) (h:oL W v x.sub)=>UF x W v h);generalize pX x=mt at*;generalize nL.o7 p0 x.sub=R at*;go_in;go_upto_region 1 with fail;generalize w.alloc (nG #[ng nH x.lab.kind,ng nH x.lab.size,v,ng nH x.lab.tail] 63)=w1 at*;obtain⟨E,ht1,hsz,c0,c1,c2,c3⟩:=U.out _ rfl;have N:=jH (C w1 ht1 (ag w1 E));have V:=jH (jU E ht1);have hlt:g<w1.heap.size:=nK;have ai:=jH hsz;clear U E ht1 C hsz;cases mt with
 |false=>
  go_wp2_with fail;refine(N).mono ?_;rintro e w2 ⟨rfl,A⟩;have I:=jH (V.1.trans (A.mono nK));clear A;go_wp2_with fail;go_returns;exact⟨by rw[Bool.and_false];rfl,I.out⟩
 |true=>
  go_wp2_with fail;refine(N).mono ?_;rintro e w2 ⟨rfl,A⟩;have I:=jH (V.1.trans (A.mono nK));have aj:=(A.cell (p:=⟨g,0,none⟩) hlt).trans c0;have ak:=(A.cell (p:=⟨g,1,none⟩) hlt).trans c1;have au:=(A.cell (p:=⟨g,2,none⟩) hlt).trans c2;have av:=(A.cell (p:=⟨g,3,none⟩) hlt).trans c3;have aa:=jH (Z w2 (Shape.nX.below V.2 A));have ae:g<=w2.heap.size:=by have:=A.size;omega
  clear A c0 c1 c2 c3 Z;go_wp2_with fail;refine(aa).mono ?_;rintro e w3 ⟨rfl,O⟩;have af:=jH (I.trans (O.mono ae));clear O;go_wp2_with fail;go_returns;exact⟨by rw[Bool.and_true];rfl,af.out⟩
end
section
open Go.RowKit Go.Maps
noncomputable def strKeys{P:mK}{k:ko}(hk:P.underlying k=some .string):DX P k ByteArray where
 kv:=ny
 kl s:=.string s.data.toList
 ok s:=s.size<=j5
 K:=string_keyed hk
 lay x hx:=Go.WideMaps.keyOf_string_mk hk hx
 inv v l h:=by obtain⟨s,A,C,_⟩:=Go.WideMaps.string_of_keyOf hk h;exact⟨s,A,C⟩
 inj x y h:=Go.WideShapes.bytes_inj (by simpa using h)
 key x:=trivial
def sJ:Gd (Array jP) where
 ev a:=nC a
 R v:=match v with| nC a=>some (.held a,[])|_=>none
 lay x:=rfl
 inv v z h:=by
  cases v<;>simp at h;exact⟨_,rfl,h.symm⟩
noncomputable def NmK:DX jI 9 ByteArray:=strKeys mR
noncomputable def IdK:DX jI 50 Int:=intKeys Tryz.underlying50
abbrev RgT:ko:=137
abbrev Fg:ko:=128
structure RC where
 i:Nat
 nm:ByteArray
 tx:ByteArray
 k:Int
 z:Int
 ou:Option l5
 nu:Nat
 cu:Nat
 tl:Int
def RC.cs(x:RC):Array jP:=#[ng nI x.i,ny x.nm,ny x.tx,ng nH x.k,ng nH x.z,nk x.ou x.nu x.cu,ng nH x.tl]
def CW:RC:=⟨0,⟨#[]⟩,⟨#[]⟩,0,0,none,0,0,0⟩
structure oV where
 r:Row
 ou:Option l5
 cu:Nat
def oV.rc(x:oV):RC:=⟨x.r.id,x.r.name,x.r.text,x.r.ty.lab.kind,x.r.ty.lab.size,x.ou,x.r.ty.sub.length,x.cu,x.r.ty.lab.tail⟩
def GM(c:oK):jP:=if c.fmt=1 then .func (.func 85) #[nC #[ng nH c.dep,ng nH c.oZ]] #[]else .func (.func 83) #[nC #[ng nH c.dep,ng nH c.oZ]] #[]
def Jy(c:oK):jP:=if c.fmt=1 then .func (.func 86) #[nC #[ng nH c.dep,ng nH c.oZ]] #[]else .func (.func 84) #[nC #[ng nH c.dep,ng nH c.oZ]] #[]
structure qp(r bn bi:Nat)(c:oK)(L:List oV)(w:jJ):Prop where
 rg:nO w r #[ng nH c.fmt,ng nJ c.mag,ng nH c.pO,ng nH c.qj,ng nH c.dep,ng nH c.oZ,.map (some bn),.map (some bi),GM c,Jy c] RgT
 nm:qA NmK sJ w bn L.length (L.map λx=>(x.r.name,x.rc.cs))
 id:qA IdK sJ w bi L.length (L.map λx=>((x.r.id:Int),x.rc.cs))
 sub:∀x,x∈L->oL w (nk x.ou x.r.ty.sub.length x.cu) x.r.ty.sub
 may:∀x,x∈L->pX x.r.ty=true/\(c.fmt=1->(nL.o7 p0 x.r.ty.sub&&pX x.r.ty)=true)/\x.r.name.size<=12
theorem qp.below{r bn bi:Nat}{c:oK}{L:List oV}{w w':jJ}(h:qp r bn bi c L w)(hb:jS w.heap.size w w'):qp r bn bi c L w':=
 ⟨Below.blk hb h.rg h.rg.lt,h.nm.below hb,h.id.below hb,λx A=>Shape.nX.below (h.sub x A) hb,h.may⟩
theorem Bc[DecidableEq κ](f:oV->κ)(k:κ):∀L:List oV,uK (L.map λx=>(f x,x.rc.cs)) k=(L.find? λx=>decide (f x=k)).map λx=>x.rc.cs
 |[]=>rfl
 |x::L=>by
  have A:=Bc f k L;unfold uK at*;rw[mH,List.find?_cons,List.find?_cons];dsimp only;rw[show(f x==k)=decide (f x=k)from rfl];cases decide (f x=k)with
  |true=>rfl
  |false=>exact A
theorem row_zero(w:jJ):(zeroValue Fg).run jI w=.ok (sJ.ev CW.cs) w:=rfl
def fnd(L:List oV)(p:oV->Bool):RC:=match L.find? p with|some x=>x.rc|none=>CW
theorem Ns[DecidableEq κ](f:oV->κ)(k:κ)(L:List oV):(uK (L.map λx=>(f x,x.rc.cs)) k).getD CW.cs=(fnd L λx=>decide (f x=k)).cs/\(uK (L.map λx=>(f x,x.rc.cs)) k).isSome=(L.find? λx=>decide (f x=k)).isSome:=by
 rw[Bc];unfold fnd;cases L.find? λx=>decide (f x=k)with
 |none=>exact⟨rfl,rfl⟩
 |some x=>exact⟨rfl,rfl⟩
theorem qp.look{r bn bi:Nat}{c:oK}{L:List oV}{w:jJ}(h:qp r bn bi c L w)(s:ByteArray)(hs:s.size<=j5):
  (lV 130 (.map (some bn)) (ny s) true).run jI w=.ok (nD #[nC (fnd L λx=>decide (x.r.name=s)).cs,nA (L.find? λx=>decide (x.r.name=s)).isSome]) w:=by
 have A:=qA.look_ok (x:=s) h.nm Tryz.underlying130 row_zero hs;obtain⟨e1,e2⟩:=Ns (λx:oV=>x.r.name) s L;rw[e1,e2]at A;exact A
theorem R9{n:Nat}(hn:n<18446744073709551616):(lJ nI (n:Int)).wf=true:=by
 have:(0:Int)<=n/\(n:Int)<=18446744073709551615:=nK;simpa [Lit.wf,IntKind.min,IntKind.max,IntKind.signed,IntKind.bits]using this
theorem qp.a2t{r bn bi:Nat}{c:oK}{L:List oV}{w:jJ}(h:qp r bn bi c L w)(n:Nat)(hn:n<18446744073709551616):
  (lV 131 (.map (some bi)) (ng nI n) true).run jI w=.ok (nD #[nC (fnd L λx=>decide ((x.r.id:Int)=(n:Int))).cs,nA (L.find? λx=>decide ((x.r.id:Int)=(n:Int))).isSome]) w:=by
 have A:=qA.look_ok (x:=(n:Int)) h.id Tryz.underlying131 row_zero (R9 hn);obtain⟨e1,e2⟩:=Ns (λx:oV=>(x.r.id:Int)) (n:Int) L;rw[e1,e2]at A;exact A
def Qe(c:oK)(L:List oV)(f:vS):Option oV:=
 if c.fmt=1 then if f.id=0 then L.find? λx=>decide (x.r.name=f.name)else none else if f.name.size=0 then L.find? λx=>decide ((x.r.id:Int)=(f.id:Int))else none
def rcO:Option oV->RC
 |some x=>x.rc
 |none=>CW
theorem a0Y(c:oK)(L:List oV)(f:vS):ofF c (L.map λx=>x.r) f=(Qe c L f).map λx=>x.r:=by
 unfold ofF Qe;split
 .split
  .rw[List.find?_map];rfl
  .rfl
 .split
  .rw[List.find?_map]
   have:((λr:Row=>decide (r.id=f.id))∘λx:oV=>x.r)=λx:oV=>decide ((x.r.id:Int)=(f.id:Int)):=funext λx=>decide_eq_decide.2 (by show x.r.id=f.id<->(x.r.id:Int)=(f.id:Int);omega)
   rw[this]
  .rfl
theorem a0Z(L:List oV)(p:oV->Bool):fnd L p=rcO (L.find? p):=by
 unfold fnd;cases L.find? p<;>rfl
def C8(w:jJ)(k:Nat)(x:RC):jJ:=((((((w.setCell ⟨k,0,none⟩ (ng nI x.i)).setCell ⟨k,1,none⟩ (ny x.nm)).setCell ⟨k,2,none⟩ (ny x.tx)).setCell ⟨k,3,none⟩ (ng nH x.k)).setCell ⟨k,4,none⟩ (ng nH x.z)).setCell ⟨k,5,none⟩ (nk x.ou x.nu x.cu)).setCell ⟨k,6,none⟩ (ng nH x.tl)
theorem Ao(w:jJ)(k:Nat)(x:RC):((((((w.setCell ⟨k,0,none⟩ (ng nI x.i)).setCell ⟨k,1,none⟩ (ny x.nm)).setCell ⟨k,2,none⟩ (ny x.tx)).setCell ⟨k,3,none⟩ (ng nH x.k)).setCell ⟨k,4,none⟩ (ng nH x.z)).setCell ⟨k,5,none⟩ (nk x.ou x.nu x.cu)).setCell ⟨k,6,none⟩ (ng nH x.tl)=C8 w k x:=rfl
theorem yo{w:jJ}{k:Nat}{x y:RC}(h:nO w k y.cs t):nO (C8 w k x) k x.cs t:=by
 have q:=((((((h.set 0 (ng nI x.i)).set 1 (ny x.nm)).set 2 (ny x.tx)).set 3 (ng nH x.k)).set 4 (ng nH x.z)).set 5 (nk x.ou x.nu x.cu)).set 6 (ng nH x.tl);simp only[RC.cs,jK,jQ,jR]at q;exact q
theorem UH{w:jJ}{k c:Nat}{x:RC}(h:c≠k):(C8 w k x).heap[c]? =w.heap[c]? :=by
 unfold C8;simp[kC,lL,Ne.symm h]
theorem Jz(w:jJ)(k:Nat)(x:RC):(C8 w k x).heap.size=w.heap.size:=by simp[C8,kC]
theorem ve{B k:Nat}{w0 w:jJ}{x:RC}(h:jS B w0 w)(hk:B<=k):jS B w0 (C8 w k x):=
 ((((((h.setCell (p:=⟨k,0,none⟩) hk _).setCell (p:=⟨k,1,none⟩) hk _).setCell (p:=⟨k,2,none⟩) hk _).setCell (p:=⟨k,3,none⟩) hk _).setCell (p:=⟨k,4,none⟩) hk _).setCell (p:=⟨k,5,none⟩) hk _).setCell (p:=⟨k,6,none⟩) hk _
theorem wX{w:jJ}{k c:Nat}{x:RC}{cs:Array jP}(h:nO w c cs t)(A:c≠k):nO (C8 w k x) c cs t:=by
 unfold nO at*;rw[UH A];exact h
theorem qf{W:jJ}{k:Nat}{x:RC}(h:nO W k x.cs t):(W.cell? ⟨k,0,none⟩=some (ng nI x.i)/\W.cell? ⟨k,1,none⟩=some (ny x.nm)/\W.cell? ⟨k,2,none⟩=some (ny x.tx)/\W.cell? ⟨k,3,none⟩=some (ng nH x.k)/\W.cell? ⟨k,4,none⟩=some (ng nH x.z)/\W.cell? ⟨k,5,none⟩=some (nk x.ou x.nu x.cu)/\W.cell? ⟨k,6,none⟩=some (ng nH x.tl))/\
  W.frozen? ⟨k,0,none⟩=false/\W.frozen? ⟨k,1,none⟩=false/\W.frozen? ⟨k,2,none⟩=false/\W.frozen? ⟨k,3,none⟩=false/\W.frozen? ⟨k,4,none⟩=false/\W.frozen? ⟨k,5,none⟩=false/\W.frozen? ⟨k,6,none⟩=false:=
 ⟨⟨h.cell 0,h.cell 1,h.cell 2,h.cell 3,h.cell 4,h.cell 5,h.cell 6⟩,h.free 0,h.free 1,h.free 2,h.free 3,h.free 4,h.free 5,h.free 6⟩
structure UI(g r bn bi:Nat)(c:oK)(L:List oV)(f:vS)(w0:jJ)(x:RC)(W:jJ):Prop where
 rg:qp r bn bi c L W
 fr:nO W g #[ng nI f.id,ny f.name,ny f.body] rq
 rs:nO W (g+1) CW.cs Fg
 fo:nO W (g+2) x.cs Fg
 qa:jS g w0 W
 lt:r<g/\bn<g/\bi<g/\w0.heap.size=g
theorem oz(w:jJ):jS w.heap.size w w.drew:=⟨rfl,rfl,rfl,jL _,λ_ _=>rfl⟩
theorem UI.drew{g r bn bi:Nat}{c:oK}{L:List oV}{f:vS}{w0:jJ}{x:RC}{W:jJ}(h:UI g r bn bi c L f w0 x W):UI g r bn bi c L f w0 x W.drew:=
 ⟨h.rg.below (oz _),h.fr,h.rs,h.fo,h.qa.trans ((oz _).mono (by have:=h.fr.lt;omega)),h.lt⟩
theorem UI.put{g r bn bi:Nat}{c:oK}{L:List oV}{f:vS}{w0:jJ}{x y:RC}{W:jJ}(h:UI g r bn bi c L f w0 x W)(h0:qp r bn bi c L w0):UI g r bn bi c L f w0 y (C8 W (g+2) y):=by
 have hb:=ve (x:=y) h.qa (show g<=g+2 by omega);exact⟨h0.below (h.lt.2.2.2▸hb),wX h.fr nK,wX h.rs nK,yo h.fo,hb,h.lt⟩
noncomputable def Fh:List lX:=cO (cL (cR (cL (cL (cR (cR (cR (cB Tryz.f91))))))))
section
variable (g r bn bi:Nat)(c:oK)(L:List oV)(f:vS)(w0:jJ)(b:Bool)(x:RC)
def Ap:Nat->jP
 |0=> nz (some ⟨r,0,none⟩)
 |1=> nz (some ⟨r,0,none⟩)
 |2=> nz (some ⟨r,6,none⟩)
 |3=> .map (some bn)
 |4=> nz (some ⟨g,1,none⟩)
 |5=> ny f.name
 |6=> nD #[nC #[ng nI x.i,ny x.nm,ny x.tx,ng nH x.k,ng nH x.z,nk x.ou x.nu x.cu,ng nH x.tl],nA b]
 |7=> nD #[nC #[ng nI x.i,ny x.nm,ny x.tx,ng nH x.k,ng nH x.z,nk x.ou x.nu x.cu,ng nH x.tl],nA b]
 |8=> nC #[ng nI x.i,ny x.nm,ny x.tx,ng nH x.k,ng nH x.z,nk x.ou x.nu x.cu,ng nH x.tl]
 |9=> nA b
 |11=> nA b
 |_=>kH
structure a5W(D:Nat->Bool)(vs:Nat->jP)(w:jJ):Prop where
 oJ:UI g r bn bi c L f w0 (if(D 10)=true then x else CW) w
 val:∀j,(true)=true->D j=true->vs j=Ap g r bn f b x j
variable {g r bn bi c L f w0 b x}
theorem Xy(h:p:=by
 have hW:=hI.oJ;rw[hd]at hW;obtain⟨⟨z0,z1,z2,z3,z4,z5,z6⟩,f0,f1,f2,f3,f4,f5,f6⟩:=qf hW.fo;go_simp;rw[Ao];refine hK kH _ _ rfl ⟨?_,uR hI.val⟩;rw[ow];exact hW.put h0):p:=h
theorem a00{id:Nat}{Q:Exit->Act->jJ->Prop}{I:jJ}(ht0:a0.tmps.getD 0 kH=nz (some ⟨r,0,none⟩))(ht3:a0.tmps.getD 3 kH=nz (some ⟨g,0,none⟩))(hl:∀W,qp r bn bi c L W->(lV 130 (.map (some bn)) (ny f.name) true).run jI W=.ok (nD #[nC #[ng nI x.i,ny x.nm,ny x.tx,ng nH x.k,ng nH x.z,nk x.ou x.nu x.cu,ng nH x.tl],nA b]) W)(Aq:a0.tmps.getD 6 kH=nz (some ⟨g+2,0,none⟩))(h0:qp r bn bi c L w0)(hsz:a0.tmps.size=54)(hI0:∀vs:Nat->jP,(λw=>UI g r bn bi c L f w0 (if false=true then x else CW) w) I.drew)(J:∀(vs:Nat->jP) (w:jJ),UI g r bn bi c L f w0 (if true=true then x else CW) w->Q .normal {a0 with tmps:=(((((((((((a0.tmps.setIfInBounds 21 (nz (some ⟨r,0,none⟩))).setIfInBounds 22 (nz (some ⟨r,0,none⟩))).setIfInBounds 23 (nz (some ⟨r,6,none⟩))).setIfInBounds 24 (.map (some bn))).setIfInBounds 25 (nz (some ⟨g,1,none⟩))).setIfInBounds 26 (ny f.name)).setIfInBounds 27 (nD #[nC #[ng nI x.i,ny x.nm,ny x.tx,ng nH x.k,ng nH x.z,nk x.ou x.nu x.cu,ng nH x.tl],nA b])).setIfInBounds 20 (nD #[nC #[ng nI x.i,ny x.nm,ny x.tx,ng nH x.k,ng nH x.z,nk x.ou x.nu x.cu,ng nH x.tl],nA b])).setIfInBounds 28 (nC #[ng nI x.i,ny x.nm,ny x.tx,ng nH x.k,ng nH x.z,nk x.ou x.nu x.cu,ng nH x.tl])).setIfInBounds 29 (nA b)).setIfInBounds 7 (nA b))} w):
  (lg id Fh.toArray true).wp jI Q a0 I:=by
 refine og 12 54 (a5W g r bn bi c L f w0 b x) nM hsz nM (.inl rfl) nM ?_ ?_ ?_;.exact qF
 .refine rV λA ae=> ?_
  clear hI0 J hsz;replace ht0:=jH ht0;replace ht3:=jH ht3;replace hl:=jH hl;replace Aq:=jH Aq;replace h0:=jH h0;dsimp+instances only[Fh,cO,cL,cR,cB,Tryz.f91];simp only[ky,kQ,rz];refine⟨?_,?_,?_,?_,?_,?_,?_,?_,?_,?_,?_,?_,trivial⟩<;>(intro D vs a w K hI hd E hw2 C hK;subst ae;dsimp+instances only[Fh,cO,cL,cR,cB,Tryz.f91]);have aj:=(C 0 nN).trans ht0.out;rotate_left;have af:=fe C hI.val E 21 0;rotate_left;have ag:=fe C hI.val E 22 1;rotate_left;have N:=fe C hI.val E 23 2;simp only[Ap]at N;have c0:=hI.oJ.rg.rg.c6;rotate_left;have e3:=(C 3 nN).trans ht3.out;rotate_left;have O:=fe C hI.val E 25 4;simp only[Ap]at O;have c0:=hI.oJ.fr.c1;rotate_left;have hl:=hl.out;have U:=fe C hI.val E 24 3;have V:=fe C hI.val E 26 5;simp only[Ap]at U V;have q:=hl w hI.oJ.rg;rotate_left;have ah:=fe C hI.val E 27 6;rotate_left;have Y:=fe C hI.val E 20 7;rotate_left;have Y:=fe C hI.val E 20 7;rotate_left
  .have h0:=h0.out
   have ak:=(C 6 nN).trans Aq.out;have Z:=fe C hI.val E 28 8;simp only[Ap]at Z;exact Xy
  have ai:=fe C hI.val E 29 9;rotate_left
  all_goals
   try simp only[Ap]at*
   go_simp;exact hK _ _ _ rfl ⟨hI.oJ,uR hI.val⟩
 .intro D vs w aa hI
  have E:=hI.oJ;rw[aa 10 nN]at E;have q:=J vs w E;rw[oW hI.val aa];dsimp+instances only[Fh,cO,cL,cR,cB,Tryz.f91];exact qD
end
noncomputable def Fj:List lX:=cO (cL (cR (cR (cR (cL (cL (cR (cR (cR (cB Tryz.f91))))))))))
section
variable (g r bn bi:Nat)(c:oK)(L:List oV)(f:vS)(w0:jJ)(b:Bool)(x:RC)
def Ar:Nat->jP
 |0=> nz (some ⟨r,0,none⟩)
 |1=> nz (some ⟨r,0,none⟩)
 |2=> nz (some ⟨r,7,none⟩)
 |3=> .map (some bi)
 |4=> nz (some ⟨g,0,none⟩)
 |5=> ng nI f.id
 |6=> nD #[nC #[ng nI x.i,ny x.nm,ny x.tx,ng nH x.k,ng nH x.z,nk x.ou x.nu x.cu,ng nH x.tl],nA b]
 |7=> nD #[nC #[ng nI x.i,ny x.nm,ny x.tx,ng nH x.k,ng nH x.z,nk x.ou x.nu x.cu,ng nH x.tl],nA b]
 |8=> nC #[ng nI x.i,ny x.nm,ny x.tx,ng nH x.k,ng nH x.z,nk x.ou x.nu x.cu,ng nH x.tl]
 |9=> nA b
 |11=> nA b
 |_=>kH
structure a5X(D:Nat->Bool)(vs:Nat->jP)(w:jJ):Prop where
 oJ:UI g r bn bi c L f w0 (if(D 10)=true then x else CW) w
 val:∀j,(true)=true->D j=true->vs j=Ar g r bi f b x j
variable {g r bn bi c L f w0 b x}
theorem a01{id:Nat}{Q:Exit->Act->jJ->Prop}{I:jJ}(ht0:a0.tmps.getD 0 kH=nz (some ⟨r,0,none⟩))(ht3:a0.tmps.getD 3 kH=nz (some ⟨g,0,none⟩))(hl:∀W,qp r bn bi c L W->(lV 131 (.map (some bi)) (ng nI f.id) true).run jI W=.ok (nD #[nC #[ng nI x.i,ny x.nm,ny x.tx,ng nH x.k,ng nH x.z,nk x.ou x.nu x.cu,ng nH x.tl],nA b]) W)(Aq:a0.tmps.getD 6 kH=nz (some ⟨g+2,0,none⟩))(h0:qp r bn bi c L w0)(hsz:a0.tmps.size=54)(hI0:∀vs:Nat->jP,(λw=>UI g r bn bi c L f w0 (if false=true then x else CW) w) I.drew)(J:∀(vs:Nat->jP) (w:jJ),UI g r bn bi c L f w0 (if true=true then x else CW) w->Q .normal {a0 with tmps:=(((((((((((a0.tmps.setIfInBounds 43 (nz (some ⟨r,0,none⟩))).setIfInBounds 44 (nz (some ⟨r,0,none⟩))).setIfInBounds 45 (nz (some ⟨r,7,none⟩))).setIfInBounds 46 (.map (some bi))).setIfInBounds 47 (nz (some ⟨g,0,none⟩))).setIfInBounds 48 (ng nI f.id)).setIfInBounds 49 (nD #[nC #[ng nI x.i,ny x.nm,ny x.tx,ng nH x.k,ng nH x.z,nk x.ou x.nu x.cu,ng nH x.tl],nA b])).setIfInBounds 42 (nD #[nC #[ng nI x.i,ny x.nm,ny x.tx,ng nH x.k,ng nH x.z,nk x.ou x.nu x.cu,ng nH x.tl],nA b])).setIfInBounds 50 (nC #[ng nI x.i,ny x.nm,ny x.tx,ng nH x.k,ng nH x.z,nk x.ou x.nu x.cu,ng nH x.tl])).setIfInBounds 51 (nA b)).setIfInBounds 7 (nA b))} w):
  (lg id Fj.toArray true).wp jI Q a0 I:=by
 refine og 12 54 (a5X g r bn bi c L f w0 b x) nM hsz nM (.inl rfl) nM ?_ ?_ ?_;.exact qF
 .refine rV λA ae=> ?_
  clear hI0 J hsz;replace ht0:=jH ht0;replace ht3:=jH ht3;replace hl:=jH hl;replace Aq:=jH Aq;replace h0:=jH h0;dsimp+instances only[Fj,cO,cL,cR,cB,Tryz.f91];simp only[ky,kQ,rz];refine⟨?_,?_,?_,?_,?_,?_,?_,?_,?_,?_,?_,?_,trivial⟩<;>(intro D vs a w K hI hd E hw2 C hK;subst ae;dsimp+instances only[Fj,cO,cL,cR,cB,Tryz.f91]);have aj:=(C 0 nN).trans ht0.out;rotate_left;have af:=fe C hI.val E 43 0;rotate_left;have ag:=fe C hI.val E 44 1;rotate_left;have N:=fe C hI.val E 45 2;simp only[Ar]at N;have c0:=hI.oJ.rg.rg.c7;rotate_left;have e3:=(C 3 nN).trans ht3.out;rotate_left;have O:=fe C hI.val E 47 4;simp only[Ar]at O;have c0:=hI.oJ.fr.c0;rotate_left;have hl:=hl.out;have U:=fe C hI.val E 46 3;have V:=fe C hI.val E 48 5;simp only[Ar]at U V;have q:=hl w hI.oJ.rg;rotate_left;have ah:=fe C hI.val E 49 6;rotate_left;have Y:=fe C hI.val E 42 7;rotate_left;have Y:=fe C hI.val E 42 7;rotate_left
  .have h0:=h0.out
   have ak:=(C 6 nN).trans Aq.out;have Z:=fe C hI.val E 50 8;simp only[Ar]at Z;exact Xy
  have ai:=fe C hI.val E 51 9;rotate_left
  all_goals
   try simp only[Ar]at*
   go_simp;exact hK _ _ _ rfl ⟨hI.oJ,uR hI.val⟩
 .intro D vs w aa hI
  have E:=hI.oJ;rw[aa 10 nN]at E;have q:=J vs w E;rw[oW hI.val aa];dsimp+instances only[Fj,cO,cL,cR,cB,Tryz.f91];exact qD
end
theorem yt(L:List oV)(p:oV->Bool):∃x:RC,fnd L p=x/\x=rcO (L.find? p):=⟨_,rfl,a0Z L p⟩
theorem Xz(h:p:=by
 have hF:=HI.out;clear h2 HR HL6 HX6 HI;have HF:=jH hF;clear hF;obtain⟨⟨z0,z1,z2,z3,z4,z5,z6⟩,_⟩:=qf HF.fo;obtain⟨⟨y0,y1,y2,y3,y4,y5,y6⟩,q0,q1,q2,q3,q4,q5,q6⟩:=qf HF.rs;unfold CW at y0 y1 y2 y3 y4 y5 y6;dsimp only at y0 y1 y2 y3 y4 y5 y6;go_wp2_with fail;rw[Ao _ _ CW];obtain⟨⟨d0,d1,d2,d3,d4,d5,d6⟩,_⟩:=qf (yo (x:=CW) HF.rs);have hbel:=ve (x:=CW) HF.qa (kX g);generalize C8 _ _ CW=W9 at*;refine j4 (v:=nD #[nC CW.cs,nA false]) (by simp[kK,Tryz.results91,go_sem,d0,d1,d2,d3,d4,d5,d6,RC.cs]) rfl ⟨?_,hbel⟩;rw[HE.out];rfl):p:=h
theorem a3J(r bn bi:Nat)(c:oK)(L:List oV)(f:vS)(w:jJ)(h:qp r bn bi c L w)(hn:f.name.size<=j5)(hid:f.id<18446744073709551616)(hlt:r<w.heap.size/\bn<w.heap.size/\bi<w.heap.size):
  jV jI 91 #[nz (some ⟨r,0,none⟩),nC #[ng nI f.id,ny f.name,ny f.body]] w λe w'=>e=nE (nD #[nC (rcO (Qe c L f)).cs,nA (Qe c L f).isSome])/\jS w.heap.size w w':=by
 obtain⟨g,hg⟩:=nT w.heap.size;have V:jW (∀W,((w.alloc (nG #[ng nI f.id,ny f.name,ny f.body] rq)).alloc (nG #[ng nI 0,ny ⟨#[]⟩,ny ⟨#[]⟩,ng nH 0,ng nH 0,nk none 0 0,ng nH 0] Fg)).alloc (nG #[ng nI 0,ny ⟨#[]⟩,ny ⟨#[]⟩,ng nH 0,ng nH 0,nk none 0 0,ng nH 0] Fg)=W->UI g r bn bi c L f w CW W):=jH λW E=>by
  subst E;have aA:=(jT w.heap.size w).alloc (jL _) (nG #[ng nI f.id,ny f.name,ny f.body] rq);have a2:=aA.alloc nR (nG #[ng nI 0,ny ⟨#[]⟩,ny ⟨#[]⟩,ng nH 0,ng nH 0,nk none 0 0,ng nH 0] Fg);have a3:=a2.alloc nQ (nG #[ng nI 0,ny ⟨#[]⟩,ny ⟨#[]⟩,ng nH 0,ng nH 0,nk none 0 0,ng nH 0] Fg);have ah:=nO.new w #[ng nI f.id,ny f.name,ny f.body] rq;have ai:=nO.new (w.alloc (nG #[ng nI f.id,ny f.name,ny f.body] rq)) #[ng nI 0,ny ⟨#[]⟩,ny ⟨#[]⟩,ng nH 0,ng nH 0,nk none 0 0,ng nH 0] Fg;have aj:=nO.new ((w.alloc (nG #[ng nI f.id,ny f.name,ny f.body] rq)).alloc (nG #[ng nI 0,ny ⟨#[]⟩,ny ⟨#[]⟩,ng nH 0,ng nH 0,nk none 0 0,ng nH 0] Fg)) #[ng nI 0,ny ⟨#[]⟩,ny ⟨#[]⟩,ng nH 0,ng nH 0,nk none 0 0,ng nH 0] Fg;rw[show(w.alloc (nG #[ng nI f.id,ny f.name,ny f.body] rq)).heap.size=g+1 by simp[hg]]at ai;rw[show((w.alloc (nG #[ng nI f.id,ny f.name,ny f.body] rq)).alloc (nG #[ng nI 0,ny ⟨#[]⟩,ny ⟨#[]⟩,ng nH 0,ng nH 0,nk none 0 0,ng nH 0] Fg)).heap.size=g+2 by simp[hg]]at aj;rw[hg]at ah;exact⟨h.below a3,(ah.alloc _).alloc _,ai.alloc _,aj,hg▸a3,⟨nK,nK,nK,hg⟩⟩
 have C:jW (∀W,qp r bn bi c L W->_):=jH λW E=>E.look f.name hn
 have HL6:jW (∀W,qp r bn bi c L W->_):=jH λW E=>E.a2t f.id hid
 have ak:=jH h;have au:∀b1 af,decide (c.fmt=1)=b1->decide (f.id=0)=af->decide (f.name.size=0)=decide (f.name.size=0)->Qe c L f=if b1 then if af then L.find? λx=>decide (x.r.name=f.name)else none else if decide (f.name.size=0)then L.find? λx=>decide ((x.r.id:Int)=(f.id:Int))else none:=by
  intro b1 af A h2 _;subst A h2;unfold Qe;simp only[decide_eq_true_eq]
 have HR:=jH au;obtain⟨I,Y,J⟩:=yt L λx=>decide (x.r.name=f.name)
 obtain⟨N,Z,O⟩:=yt L λx=>decide ((x.r.id:Int)=(f.id:Int))
 rw[Y]at C;rw[Z]at HL6;unfold RC.cs at C HL6;have aa:=jH J;have HX6:=jH O;generalize av:(L.find? λx=>decide (x.r.name=f.name))=o4 at*;generalize ax:(L.find? λx=>decide ((x.r.id:Int)=(f.id:Int)))=ay at*;obtain⟨U,ae⟩:=nT (Qe c L f);rw[ae]at HR⊢;rw[hg];clear h hn hlt Y Z J O av ax au ae hid;go_in;go_upto_region 2 with fail;have hI:=V.out _ rfl;generalize ((w.alloc _).alloc _).alloc _=w1 at*;have HI:=jH hI;have c0:=hI.rg.rg.c0;obtain⟨aC,f1⟩:=hI.fr.a2;clear hI V;by_cases A:c.fmt=1
 .have aB:(c.fmt==1)=true:=by simp[A]
  have az:(c.fmt !=1)=false:=by simp[A]
  have Q:=jH A;clear A;by_cases h2:f.id=0
  .have ag:((f.id:Int)==0)=true:=by simp[h2]
   have HE:jW (U=o4):=jH (by rw[HR.out true true (by simp[Q.out]) (by simp[h2]) rfl];rfl);clear h2 HR HL6 HX6;go_upto_region 4 with fail;refine a00 (ht0:=by rfl) (ht3:=by rfl) (Aq:=by rfl) (hl:=C.out) (h0:=ak.out) (hsz:=by rfl) (hI0:=λ_=>HI.drew) ?_;intro vs W hF;clear HI;simp only[jK,jQ,jR];have HF:=jH hF;clear hF;obtain⟨⟨z0,z1,z2,z3,z4,z5,z6⟩,_⟩:=qf HF.fo;obtain⟨⟨y0,y1,y2,y3,y4,y5,y6⟩,q0,q1,q2,q3,q4,q5,q6⟩:=qf HF.rs;unfold CW at y0 y1 y2 y3 y4 y5 y6;dsimp only at y0 y1 y2 y3 y4 y5 y6;go_wp2_with fail;rw[Ao _ _ I];obtain⟨⟨d0,d1,d2,d3,d4,d5,d6⟩,_⟩:=qf (yo (x:=I) HF.rs);have hbel:=ve (x:=I) HF.qa (kX g);generalize C8 _ _ I=W9 at*;refine j4 (v:=nD #[nC I.cs,nA o4.isSome]) (by simp[kK,Tryz.results91,go_sem,d0,d1,d2,d3,d4,d5,d6,RC.cs]) rfl ⟨?_,hbel⟩;rw[HE.out,aa.out]
  .have ag:((f.id:Int)==0)=false:=nQ
   have HE:jW (U=none):=jH (by rw[HR.out true false (by simp[Q.out]) (by simp[h2]) rfl];rfl);exact Xz
 .have aB:(c.fmt==1)=false:=by simp[A]
  have az:(c.fmt !=1)=true:=by simp[A]
  have Q:=jH A;clear A;by_cases h2:f.name.size=0
  .have ag:(f.name.toList==([]:List UInt8))=true:=by rw[Fe];simp[h2]
   have HE:jW (U=ay):=jH (by rw[HR.out false _ (by simp[Q.out]) rfl rfl,decide_eq_true h2];rfl);clear h2 HR C aa;go_upto_region 6 with fail;refine a01 (ht0:=by rfl) (ht3:=by rfl) (Aq:=by rfl) (hl:=HL6.out) (h0:=ak.out) (hsz:=by rfl) (hI0:=λ_=>HI.drew) ?_;intro vs W hF;clear HI;simp only[jK,jQ,jR];have HF:=jH hF;clear hF;obtain⟨⟨z0,z1,z2,z3,z4,z5,z6⟩,_⟩:=qf HF.fo;obtain⟨⟨y0,y1,y2,y3,y4,y5,y6⟩,q0,q1,q2,q3,q4,q5,q6⟩:=qf HF.rs;unfold CW at y0 y1 y2 y3 y4 y5 y6;dsimp only at y0 y1 y2 y3 y4 y5 y6;go_wp2_with fail;rw[Ao _ _ N];obtain⟨⟨d0,d1,d2,d3,d4,d5,d6⟩,_⟩:=qf (yo (x:=N) HF.rs);have hbel:=ve (x:=N) HF.qa (kX g);generalize C8 _ _ N=W9 at*;refine j4 (v:=nD #[nC N.cs,nA ay.isSome]) (by simp[kK,Tryz.results91,go_sem,d0,d1,d2,d3,d4,d5,d6,RC.cs]) rfl ⟨?_,hbel⟩;rw[HE.out,HX6.out]
  .have ag:(f.name.toList==([]:List UInt8))=false:=by rw[Fe];simp[h2]
   have HE:jW (U=none):=jH (by rw[HR.out false _ (by simp[Q.out]) rfl rfl,decide_eq_false h2];rfl);exact Xz
end
section
open Go.RowKit
theorem yP{g:Nat}{w W:jJ}{a b c:jP}(hB:∃a0 b0 c0,nO W g #[a0,b0,c0] IT)(hb:jS g w W):nO (pI W g a b c) g #[a,b,c] IT/\jS g w (pI W g a b c):=by
 obtain⟨a0,b0,c0,h⟩:=hB;exact⟨((h.set 0 a).set 1 b).set 2 c,((hb.setCell (p:=⟨g,0,none⟩) nR _).setCell (p:=⟨g,1,none⟩) nR _).setCell (p:=⟨g,2,none⟩) nR _⟩
theorem D9(s:ByteArray)(w:jJ):
  jV jI 227 #[ny s] w λe w'=>e=nE (nC #[ny s,nA false,nk none 0 0])/\jS w.heap.size w w':=by
 obtain⟨g,hg⟩:=nT w.heap.size;have C:=nO.new w #[ny ⟨#[]⟩,nA false,nk none 0 0] IT;have E:=(jT w.heap.size w).alloc (jL _) (nG #[ny ⟨#[]⟩,nA false,nk none 0 0] IT);rw[hg]at C E⊢;have I:=jH C;have J:=jH E;clear C E;go_in;go_upto_region 1 with fail;have hw1:=I.out;have A:=J.out;generalize w.alloc _=w1 at*;obtain⟨Y,Z,y2,z0,aa,ae⟩:=hw1.b3;have N:=jH A;have O:=jH hw1;clear A hw1;go_wp2_with fail;rw[p8];obtain⟨hB,hb⟩:=yP (a:=ny s) (b:=nA false) (c:=nk none 0 0) ⟨_,_,_,O.out⟩ N.out;obtain⟨Q,U,V⟩:=hB.a3;refine j4 (v:=nC #[ny s,nA false,nk none 0 0]) (by simp[kK,Tryz.results227,go_sem,Q,U,V]) rfl ⟨rfl,hb⟩
theorem KL(n:Nat)(w:jJ)(s:ByteArray)(hL:∀W,jV jI 202 #[ng nI n] W λe w'=>e=nE (ny s)/\jS W.heap.size W w'):
  jV jI 248 #[ng nI n] w λe w'=>e=nE (nC #[ny s,nA false,nk none 0 0])/\jS w.heap.size w w':=by
 obtain⟨g,hg⟩:=nT w.heap.size;have Q:=nO.new w #[ny ⟨#[]⟩,nA false,nk none 0 0] IT;have U:=(jT w.heap.size w).alloc (jL _) (nG #[ny ⟨#[]⟩,nA false,nk none 0 0] IT);rw[hg]at Q U⊢;have Z:=jH Q;have aa:=jH U;have ae:=jH hL;have af:=jH (D9 s);clear Q U hL;go_in;go_upto_region 1 with fail;have hw1:=Z.out;have J:=aa.out;generalize w.alloc _=w1 at*;have V:=jH J;have I:=jH hw1;clear J hw1;go_wp2_with fail;refine(ae _).mono ?_;rintro e w2 ⟨rfl,C⟩;have A:=jH (Below.blk C I I.lt);have N:=jH (V.trans (C.mono (by have:=I.lt;omega)));clear C I V;go_wp2_with fail;refine(af _).mono ?_;rintro e w3 ⟨rfl,E⟩;have O:=jH (Below.blk E A A.lt);have Y:=jH (N.trans (E.mono (by have:=A.lt;omega)));obtain⟨aj,ak,y2,z0,au,av⟩:=O.b3;clear E A N;go_wp2_with fail;rw[p8];obtain⟨hB,hb⟩:=yP (a:=ny s) (b:=nA false) (c:=nk none 0 0) ⟨_,_,_,O.out⟩ Y.out;obtain⟨ag,ah,ai⟩:=hB.a3;refine j4 (v:=nC #[ny s,nA false,nk none 0 0]) (by simp[kK,Tryz.results248,go_sem,ag,ah,ai]) rfl ⟨rfl,hb⟩
abbrev EZ:ko:=258
def Bd(cb:Nat):jP:=.func (.func 145) #[nz (some ⟨cb,0,none⟩)] #[]
def C9(cb:Nat):jP:=.func (.func 191) #[nz (some ⟨cb,0,none⟩)] #[]
def Dz(cb:Nat):jP:=.func (.func 146) #[nz (some ⟨cb,0,none⟩)] #[]
def Cc(cb:Nat):jP:=.func (.func 189) #[nz (some ⟨cb,0,none⟩)] #[]
def Be(fb:Nat):jP:=.func (.func 209) #[] #[nz (some ⟨fb,0,none⟩)]
def EJ(cb lb fb:Nat):Array jP:=#[Bd cb,C9 cb,Dz cb,Cc cb,Be fb,nz (some ⟨lb,0,none⟩)]
structure Bf(cb lb fb:Nat)(r:RS)(l:Nat)(w:jJ):Prop where
 rd:wo w cb r
 ok:(r.Ok/\r.t.size<=100000)/\l<=1024
 lf:nO w lb #[ng nH (l:Nat)] 3
 fr:nO w fb #[nz (some ⟨cb,0,none⟩)] 193
 tab:xm w
 ne:cb≠lb/\fb≠cb/\fb≠lb/\0≠cb/\0≠lb
section
variable {cb lb fb l:Nat}{r:RS}{w w':jJ}
theorem vP{b q:Nat}(h:xm w)(u:oN b q w w')(A:0≠b)(C:0≠q):xm w':=by
 have hb:=u.block 0 h.lt A C;exact R4
theorem xD{b q:Nat}(h:pE b w w'):oN b q w w':=⟨h.os,h.tape,h.output,h.size,λk hk hb _=>h.block k hk (by simpa using hb)⟩
theorem Bf.below(h:Bf cb lb fb r l w)(hb:jS w.heap.size w w'):Bf cb lb fb r l w':=
 ⟨Below.blk hb h.rd (nO.lt h.rd),h.ok,Below.blk hb h.lf h.lf.lt,Below.blk hb h.fr h.fr.lt,vP h.tab (oN.of (b:=cb) (q:=lb) hb) h.ne.2.2.2.1 h.ne.2.2.2.2,h.ne⟩
theorem Bf.turn{r':RS}(h:Bf cb lb fb r l w)(A:pE cb w w')(C:wo w' cb r')(ho:r'.Ok/\r'.t.size<=100000):Bf cb lb fb r' l w':=
 have u:=xD (q:=lb) A
 ⟨C,⟨ho,h.ok.2⟩,A.blk h.lf (Ne.symm h.ne.1),A.blk h.fr h.ne.2.1,vP h.tab u h.ne.2.2.2.1 h.ne.2.2.2.2,h.ne⟩
theorem Bf.Bq(h:Bf cb lb fb r l w)(m:Nat)(A:m<=1024):Bf cb lb fb r m (w.setCell ⟨lb,0,none⟩ (ng nH (m:Nat))):=
 ⟨nO.setOther (a:=⟨lb,0,none⟩) h.rd h.ne.1 _,⟨h.ok.1,A⟩,h.lf.set 0 _,nO.setOther (a:=⟨lb,0,none⟩) h.fr h.ne.2.2.1 _,vP h.tab ((oN.refl cb lb w).OX 0 _) h.ne.2.2.2.1 h.ne.2.2.2.2,h.ne⟩
end
theorem XA(h:p:=by
 unfold RS.comp at hf⊢;split at hf
 .rename_i h0
  rw[if_pos h0];dsimp only at hf⊢;split at hf;.rename_i h1;exact absurd rfl hf
  .rename_i h1;rw[if_neg h1];exact kI _
 .rename_i h0
  rw[if_neg h0];exact kI _):p:=h
theorem GN(cb lb fb l:Nat)(r:RS)(most:Nat)(w:jJ)(h:Bf cb lb fb r l w)(N:most<=65536):
  jV jI 209 #[ng nH most,nz (some ⟨fb,0,none⟩)] w λe w'=>e=nE (ng nH (r.comp most).2)/\Bf cb lb fb (r.comp most).1 l w'/\pE cb w w':=by
 have c0:=h.fr.c0;have E:=jH (UB cb r most w h.ok.1.1 h.rd nK h.tab h.ne.2.2.2.1);have J:(r.comp most).2<=65536:=by
  by_cases hf:(r.comp most).1.f=0;.have:=Jr hf;omega
  .exact XA
 have I:=jH (λw' (A:pE cb w w') C=>h.turn A C ⟨h.ok.1.1.comp most,by rw[Xr];exact h.ok.1.2⟩);clear h;generalize r.comp most=y at*;obtain⟨r2,n⟩:=y;dsimp only at*;go_in;go_wp2_with fail;refine E.mono ?_;rintro e w2 ⟨rfl,A,C⟩;go_wp2_with fail;go_returns;exact⟨rfl,I w2 A C,A⟩
end
end Go.Proofs.YtamfcjmhnndbdaaGreatDoor


