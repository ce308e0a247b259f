/- Part 20 of the proof. -/
import Derived.Test.YtamfcjmhnndbdaaGreatDoorZu00
import Derived.Test.YtamfcjmhnndbdaaGreatDoorZu08
import Derived.Test.YtamfcjmhnndbdaaGreatDoorZu06
import Derived.Test.YtamfcjmhnndbdaaGreatDoorZu10
import Derived.Test.YtamfcjmhnndbdaaGreatDoorZu16
import Derived.Test.YtamfcjmhnndbdaaGreatDoorZu17
import Derived.Test.YtamfcjmhnndbdaaGreatDoorZu18
import Derived.Test.YtamfcjmhnndbdaaGreatDoorZu19
import Derived.Laws.OwnMore
import Derived.Laws.AppendOwnNone
open Go.Value renaming agg→nC,bool→nA,int→ng,pointer→nz,slice→nk,string→ny,tuple→nD,ownBlock→kJ,slice→kM
open Go.Obj renaming cells→nG
open Go.IntKind renaming i64→nH,u32→nJ,u64→nI
open Go.Ending renaming returned→nE
open Go.Lib renaming hid→jH
open Go.Proofs.Tryz renaming prog→jI
open Go renaming World→jJ,Value→jP,Calls→jV,maxLen→j5,TypeId→ko,wpAnyH_take→kU,wpAnyH_ready→lW,Oper→lX,Addr→l5,Program→mK
open List renaming setIfInBounds_toArray→jK,getElem?_cons_succ→jM,getElem?_cons_zero→jN,getElem?_toArray→jO,set_cons_zero→jQ,set_cons_succ→jR,getElem?_eq_getElem→jX,length_append→jY,length_cons→kD,mem_of_getElem?→kT,getElem?_eq_some_iff→ll,append_assoc→lD,all_eq_true→lY,take_length→l9,length_eq_zero_iff→mf,mem_cons→mD,map_cons→mH
open Nat renaming le_refl→jL,le_trans→kg,lt_of_lt_of_le→kG,zero_le→kI,add_assoc→kP,lt_succ_self→lM,lt_of_le_of_lt→mF
open Go.RowKit renaming Below→jS,Hid→jW,intOf→kW
open Go.RowKit.Below renaming refl→jT,heap_setCell→j6
open And renaming intro→jU
open Bool renaming and_eq_true→j3
open Go.World renaming setCell→kC
open Go.Act renaming put→kE
open Or renaming inl→kL
open Go.AllReadyH renaming cons→kZ,nil→lC
open Int renaming toNat_of_nonneg→mZ
namespace Go.Proofs.YtamfcjmhnndbdaaGreatDoor
set_option linter.unusedVariables false
set_option linter.unusedSimpArgs false
set_option maxRecDepth 100000
set_option maxHeartbeats 8000000
variable {w:jJ}{x y:nL IL}{v bv iv:jP}{xs ys:List Af}{E l:List UInt8}{a:IL}{sub s:List (nL IL)}{B2:Nat}{P:mK}{ops:Array lX}{Q:Exit->Act->jJ->Prop}{b:ByteArray}{c:oK}{L:List Row}
section
open Go.RowKit
def Ie(w4 w:jJ)(B1:Nat)(E:List UInt8)(vr:jP)(st:List Af):Prop:=st≠[]/\vR w4 w B1 vr st/\BZ st=E
theorem a15{w3 w4:jJ}{J:Nat}(V:nV w (λc=>c<J) v x.sub)(Y:x.lab.text.length<=j5)(N:J<=w.heap.size)(E:w.alloc (nG #[ny (txt x.lab),nA x.lab.list,v] IT)=w3)(C:w3.alloc (nG #[nk (some ⟨w.heap.size,0,none⟩) 1 1,nk none 0 0] LT)=w4):
  Ie w4 w4 (w.heap.size+1) (enc x) (nk (some ⟨w.heap.size+1,0,none⟩) 1 1) [⟨nk (some ⟨w.heap.size,0,none⟩) 1 1,[x],nk none 0 0,[],w.heap.size+2⟩]/\jS w.heap.size w w4:=by
 obtain⟨g,hg⟩:=nT w.heap.size;rw[hg]at C N⊢;have O:w3.heap.size=g+1:=by rw[<-E];simp;omega
 have af:w4.heap.size=g+2:=by rw[<-C];simp;omega
 have b3:jS g w w3:=by rw[<-E,<-hg];exact(jT _ w).alloc (jL _) _
 have b4:jS (g+1) w3 w4:=by rw[<-C,<-O];exact(jT _ w3).alloc (jL _) _
 have Z:nO w3 g #[ny (txt x.lab),nA x.lab.list,v] IT:=by have:=nO.new w #[ny (txt x.lab),nA x.lab.list,v] IT;rw[E,hg]at this;exact this
 have Q:=Below.blk b4 Z nK;have aa:nO w4 (g+1) #[nk (some ⟨g,0,none⟩) 1 1,nk none 0 0] LT:=by have:=nO.new w3 #[nk (some ⟨g,0,none⟩) 1 1,nk none 0 0] LT;rw[C,O]at this;exact this
 have A:jS g w w4:=b3.trans (b4.mono nK);have U:nV w4 (λc=>c<g+1) v x.sub:=Shape.nX.keep V A.size (λc _ hc=>by show c<g+1;omega) λc hc ag=>A.block c nK
 have I:nV w4 (λc=>c<g+1) (nk (some ⟨g,0,none⟩) 1 1) [x]:=by
  refine⟨some ⟨g,0,none⟩,1,rfl,jL _,nN,λ_=>⟨g,0,rfl,nK,nK,?_⟩⟩;simp only[Shape.qy];refine⟨?_,trivial⟩;cases x with
  |node a s=>
   simp only[Shape.rA];refine⟨Y,v,λj ae=> ?_,U⟩;rw[Q.cell];have:j<3:=ae
   match j,this with
   |0,_=>rfl
   |1,_=>rfl
   |2,_=>rfl
 refine⟨⟨nR,⟨?_,⟨by show g+1<=g+2;omega,by show g+2<=_;omega,oD.nil _ _ _,λb hb=>by simp[kJ]at hb,I,trivial⟩,jT _ _,nK⟩,?_⟩,A⟩;.exact pK.of (f:=Lf) (k:=2) (L:=[⟨nk (some ⟨g,0,none⟩) 1 1,[x],nk none 0 0,[],g+2⟩]) nK aa nR nN rfl AL rfl
 .simp[BZ,Tk,q8]
theorem Vl{x y:Af}(h:BZ (x::y::xs)=E)(A:x.s=[]):BZ ({y with bv:=bv,l:=y.l++hdr 192 x.l.length++x.l}::xs)=E:=by
 rw[<-h];simp[BZ,Tk,A,q8]
theorem Zz{x:Af}(h:BZ (x::xs)=E)(A:x.s=.node a sub::s)(C:a.list=false):
  BZ (⟨iv,s,bv,x.l++(if single a.text then a.text else hdr 128 a.text.length++a.text),x.B⟩::xs)=E:=by
 rw[<-h];simp[BZ,A,q8,GX,C]
theorem ZA{x:Af}(h:BZ (x::xs)=E)(A:x.s=.node a sub::s)(C:a.list=true){v2:jP}:
  BZ (⟨v2,sub,nk none 0 0,[],B2⟩::{x with iv:=iv,s:=s}::xs)=E:=by
 rw[<-h];simp[BZ,Tk,A,q8,GX,C]
theorem Vm:∀(st:List Af)(b:List UInt8),st.length<=(Tk st b).length
 |[],b=>kI _
 |x::xs,b=>by
  have key:∀(st:List Af)(b:List UInt8),b.length+st.length<=(Tk st b).length:=by
   intro st;induction st with
   |nil=>intro b;simp[Tk]
   |cons z zs A=>
    intro b;have C:=A (z.l++(hdr 192 b.length++b)++q8 z.s);have E:=Kv 192 b.length;simp only[jY]at C;simp only[Tk,kD];omega
  have:=key (x::xs) b;omega
theorem QP{x:Af}:xs.length<=(BZ (x::xs)).length:=Vm xs _
theorem QQ{t e s:ko}(T:ql P t e s){rest:List lX}{o:lX}{a:Act}(C:o.guard=none)(x y:Operand)(ho:o.op=.call {callee:=.builtin .append,args:=#[x,y],argTypes:=#[t,t]})(B aa:Nat)(v u:jP)(l m:List UInt8)(w:jJ)(E:a.eval x=v)(A:oD w B e v l)(I:oD w aa e u m)(J:a.eval y=u)(hlen:l.length+m.length<=140737488355328)(hB:B<=w.heap.size)(h:∀v' w',oD w' B e v' (l++m)->w.grownBy w' v.ownBlock->wpList P ops Q rest (a.put o.dst v') w'):
  wpList P ops Q (o::rest) a w:=by
 obtain⟨N,hi,O,U,V⟩:=info_parts T.hi;rcases I.2 with⟨hn,h0⟩|⟨g,cap,ah,Y,hb,hg,ae,ai,hsz,htake⟩
 .have Z:m=[]:=mf.1 h0
  subst Z;refine wpList_append_own_none C x y t ho B e N 1 T.ht hi v l.length (nU l) E A (by rw[J,hn]) ?_;exact h v w (by rw[List.append_nil];exact A) ⟨rfl,rfl,rfl,jL _,λ_ _ _=>rfl⟩
 .refine wpList_append_own _ C x y t ho B e N (ng .u8 0) 1 1 T.ht hi O U V rfl nN v l.length (nU l) E A ⟨g,0,none⟩ m.length cap (nU m) (by rw[J,Y]) nR
   (World.ownsRow.cells I (by rw[Y];rfl)) (rM m) zg nK hB ?_
  intro v' w' af ag _;refine h v' w' ?_ ag;show w'.ownsRow B e 1 v' (l++m).length (nU (l++m));rw[jY,pg];exact af
theorem a18{w5 A:jJ}{B:Nat}{v':jP}{J:List UInt8}(h:oD w B U8 v l)(hg:w.grownBy w5 v.ownBlock)(N:oD w5 B U8 v' J)(C:w5.grownBy A v'.ownBlock):
  ∀c,c<w.heap.size->(c<B\/∃cs,nO w c cs LT)->A.heap[c]? =w.heap[c]? :=λc hc E=>by
 have I:=h.far hg c hc E;have O:=N.far C c (kG hc hg.size) (E.imp id λ⟨cs,hb⟩=>⟨cs,by unfold nO;rw[I];exact hb⟩);rw[O,I]
theorem cell_of_heap{w':jJ}{b:Nat}(h:w'.heap[b]? =w.heap[b]?)(i:Nat):w'.cell? ⟨b,i,none⟩=w.cell? ⟨b,i,none⟩/\w'.frozen? ⟨b,i,none⟩=w.frozen? ⟨b,i,none⟩:=
 ⟨World.cell?_of_block (w:=w) (a:=⟨b,i,none⟩) h,World.frozen?_of_block (w:=w) (a:=⟨b,i,none⟩) h⟩
theorem Ov{y y2:Af}{zs:List Af}:Bo ({y2 with bv:=bv,l:=l}::zs)<Bo (y::y2::zs):=by
 simp[Bo];omega
theorem Vn{Q:Nat->Prop}{b off n c:Nat}(h:nV w Q (nk (some ⟨b,off,none⟩) (n+1) c) (y::s)):nV w Q (nk (some ⟨b,off+3,none⟩) n (c - 1)) s:=by
 obtain⟨oa,cap,e,E,N,I⟩:=h;have hl:n=s.length:=by
  injection e with _ e _
  simpa using e
 subst hl;injection e with e1 _ e3
 subst e1 e3;obtain⟨b',O,A,hb,J,C⟩:=I nR;injection A with A
 injection A with e4 e5
 subst e4 e5;simp only[Shape.qy]at C;exact⟨_,_,rfl,by simp at E;omega,nK,λhn=>⟨_,_,rfl,hb,J,C.2⟩⟩
theorem a6z{B:Nat}{L:List Af}{f A:Af}(h:pK Lf 2 w B LT v (L++[f]))(C:f.iv=A.iv)(E:f.bv=A.bv):pK Lf 2 w B LT v (L++[A]):=by
 unfold pK at*;have e:(L++[f]).flatMap Lf=(L++[A]).flatMap Lf:=by simp[Lf,C,E]
 rw[e]at h;simpa using h
theorem QR{y:Af}(A:y.s=.node a sub::s){v2:jP}:Bo (⟨v2,sub,bv,l,B2⟩::{y with iv:=iv,s:=s}::ys)<Bo (y::ys):=by
 simp[Bo,A,nL.nW,nL.count];omega
theorem Ig{y:Af}(A:y.s=.node a sub::s):Bo (⟨iv,s,bv,l,B2⟩::ys)<Bo (y::ys):=by
 simp[Bo,A,nL.nW,nL.count];omega
theorem vz{t e s:ko}(T:ql P t e s){o:lX}{a:Act}{K:Act->jJ->Prop}{E:Prop}(C:o.guard=none)(x y:Operand)(ho:o.op=.call {callee:=.builtin .append,args:=#[x,y],argTypes:=#[t,s]})(B:Nat)(v:jP)(l:List UInt8)(S:ByteArray)(w:jJ)(O:a.eval x=v)(A:oD w B e v l)(U:a.eval y=ny S)(hlen:l.length+S.size<=140737488355328)(hB:B<=w.heap.size)(h:∀v' w',oD w' B e v' (l++S.data.toList)->w.grownBy w' v.ownBlock->K (a.put o.dst v') w'):
  if Region.wanted o (yielded ops a.tmps)=true then Oper.wp P o a w K Q else E:=by
 have V:Region.wanted o (yielded ops a.tmps)=true:=by simp[Region.wanted,C]
 rw[if_pos V];obtain⟨Y,hi,I,J,N⟩:=info_parts T.hi;obtain⟨v',w',Z,aa,ae,_⟩:=Lib.run_append_own_string (P:=P) w B t s o.type e Y T.ht T.hs hi I J N v l.length (nU l) A S zg nK hB;unfold Oper.wp execOp;simp only[ho,resolve,invoke,builtin,Sem.run_bind,Sem.run_pure,Result.andThen_ok,List.map_toArray,mH,List.map_nil,O,U];rw[Z];refine h v' w' ?_ ae;have e1:Lib.strCells S=nU S.data.toList:=by simp[Lib.strCells,nU]
 show w'.ownsRow B e 1 v' (l++S.data.toList).length (nU (l++S.data.toList));rw[jY,pg,<-e1];have e2:S.data.toList.length=S.size:=nR;rw[e2];exact aa
theorem QS{Q:Nat->Prop}{b off n c:Nat}(h:nV w Q (nk (some ⟨b,off,none⟩) (n+1) c) (y::s)):
  nV w Q (nk (if c=1 then some ⟨b,off,none⟩else some ⟨b,off+3,none⟩) n (c - 1)) s:=by
 by_cases A:c=1
 .rw[if_pos A]
  obtain⟨oa,cap,e,C,E,_⟩:=h;have hl:n=s.length:=by
   injection e with _ e _
   simpa using e
  injection e with _ _ e3
  subst e3 hl;have:s.length=0:=by simp at C;omega
  exact⟨_,_,rfl,nK,nK,λhn=>by omega⟩
 .rw[if_neg A];exact Vn h
theorem ZB{p:Prop}(h:p:=by
 go_simp;refine hK _ _ trivial (λQT=> ?_);clear hK K;try simp only[kE,jK,jQ,jR]
 refine wpAnyH_done nM ?_ _;have hfin:=a6A.out (nk oA ns (ic - 1)) (nk so9 nl9 sc9);rw[show y.l++(if single a.text then a.text else hdr 128 a.text.length++a.text)=y.l++hdr 128 a.text.length++(txt a).data.toList by rw[Tm.out,lD];rfl]at hfin;have Ih:=jH (show Ie w4 _ B1 E _ _ from⟨nR,HN9.out,hfin⟩);clear hfin;go_wp2_with fail;go_roundw;case rel=>exact⟨_,Ih⟩
 case measure=>
  have h1:=(HME (_,_) _ ⟨_,Ih.out,rfl⟩).2;have h3:=Ig (ys:=ys) HYS (iv:=nk oA ns (ic - 1)) (bv:=nk so9 nl9 sc9) (l:=(y.l++hdr 128 a.text.length)++(txt a).data.toList) (B2:=y.B);rw[a19.out]at h3;exact mF h1 h3):p:=h
theorem QU(x:nL IL)(w:jJ)(v:jP)(dW:pM w v x.sub)(gF:x.lab.text.length<=j5)(gG:qZ x=true)(iO:(enc x).length<=100000):
  jV jI 161 #[nC #[ny (txt x.lab),nA x.lab.list,v]] w λe w'=>e=nE (nD #[ny ⟨(enc x).toArray⟩,ng nH 0])/\jS w.heap.size w w':=by
 have dX:=jH (rU (T:=txt x.lab) (l:=x.lab.list) (t:=IT) dW);have gH:=jH dW;obtain⟨oa,cap,rfl,fH,gI⟩:=nV.slice dW;obtain⟨g,hg⟩:=nT w.heap.size;have dY:=jH (λ(W:jJ) (h:pM W (nk oa x.sub.length cap) x.sub)=>Gq x W _ h);rw[gG]at dY;obtain⟨E,dw⟩:=nT (enc x);rw[dw]at iO⊢;have iP:=jH gF;have gJ:=jH dw;obtain⟨M,gK⟩:=nT x.sub.length;rw[hg]at dX⊢;rw[gK]at dX dY gH⊢;clear dW fH gI gF gG dw gK;go_in;go_upto_region 1 with fail;generalize w.alloc (nG #[ny (txt x.lab),nA x.lab.list,nk oa M cap] IT)=w1 at*;obtain⟨eB,ht1,hsz,c0,c1,c2,_⟩:=dX.out _ rfl;have gL:=jH ht1;have gM:=jH eB;have fI:w1.heap.size=g+1:=hsz;clear dX ht1 eB hsz;go_wp2_with fail;refine(dY _ gL).mono ?_;rintro e w2 ⟨rfl,aQ⟩;have jB:=(aQ.cell (p:=⟨g,0,none⟩) (show g<w1.heap.size by omega)).trans c0;have jC:=(aQ.cell (p:=⟨g,1,none⟩) (show g<w1.heap.size by omega)).trans c1;have jD:=(aQ.cell (p:=⟨g,2,none⟩) (show g<w1.heap.size by omega)).trans c2;have eD:jW (nV w2 (λc=>c<g) (nk oa M cap) x.sub):=jH (by
  have dx:=gM.trans (aQ.mono (show g<=w1.heap.size by omega));exact Shape.nX.keep gH dx.size (λc hc _=>by omega) λc hc _=>dx.block c nK)
 have gN:=jH (gM.trans (aQ.mono (show g<=w1.heap.size by omega)));have iQ:g+1<=w2.heap.size:=by have:=aQ.size;omega
 clear aQ dY;have bO:jW (∀w3 w4,w2.alloc (nG #[ny (txt x.lab),nA x.lab.list,nk oa M cap] IT)=w3->w3.alloc (nG #[nk (some ⟨w2.heap.size,0,none⟩) 1 1,nk none 0 0] LT)=w4->_):=jH λw3 w4 h3 iR=>a15 eD iP (by omega:g<=w2.heap.size) h3 iR
 rw[gJ.out]at bO;clear c0 c1 c2;go_wp2_with fail;have fJ:=bO.out _ _ rfl rfl;generalize (w2.alloc (nG #[ny (txt x.lab),nA x.lab.list,nk oa M cap] IT)).alloc (nG #[nk (some ⟨w2.heap.size,0,none⟩) 1 1,nk none 0 0] LT)=w4 at*;obtain⟨dz,dA⟩:=fJ;have bP:=jH dz;have fK:=jH (gN.trans (dA.mono nK));obtain⟨B1,dB⟩:=nT (w2.heap.size+1);have fM:g<=B1:=nK;rw[dB]at bP;have dC:=jH dB;clear dB;clear dz dA bO eD gL;obtain⟨fO,bW⟩:=Zy (λ(z:jP×jJ) n=>∃st,Ie w4 z.2 B1 E z.1 st/\Bo st=n);have HME:=jH bW;clear bW;go_loopw [5] (λvr fP=>∃st,jW (Ie w4 fP B1 E vr st)) (λvr fP=>fO (vr,fP));case atStart=>exact⟨_,by rw[<-dC.out];rw[<-dC.out]at bP;exact bP⟩
 case round=>
  obtain⟨gP,eF⟩:=hrel;obtain⟨⟨st,hst,dD⟩,_⟩:=HME.out (_,_) _ ⟨gP,eF.out,rfl⟩;simp only at hst;have a19:=jH dD;clear dD eF;cases st with
  |nil=>exact absurd rfl hst.1
  |cons y ys=>
   obtain⟨N,dZ⟩:=nT ys.length;obtain⟨go,fQ,gQ,r0,r1,z0,iT,ji⟩:=vw hst.2.1 dZ;subst gQ;have hlen:=a14 (x:=y) (xs:=ys);rw[hst.2.2]at hlen;obtain⟨gT,a2,a3,a4,a5,a6⟩:=hst.2.1.Iu;obtain⟨jE,ic,dE,dF,iU⟩:=nV.slice a5;obtain⟨bo,bc,dG⟩:=a3.slice;have aM:=jH hst;have af:=jH dZ;have bQ:=jH hlen;have bR:=jH a3;have gU:=jH a5;have iV:=jH (jU gT a2);have iW:N<=100000:=by have:=QP (x:=y) (xs:=ys);rw[hst.2.2,dZ]at this;omega
   rw[dE]at r0;rw[dG]at r1;have eG:=jH dE;have aR:=jH dG;clear hst dZ hlen gT a2 a3 a4 a5 a6 dE dG;cases aN:y.s with
   |nil=>
    rw[aN]at r0;simp only[List.length_nil]at r0;by_cases eH:N=0
    .subst eH
     have dH:ys=[]:=mf.1 af.out;have eO:y.l=E:=by
      have:=aM.2.2;rw[dH]at this;simpa [BZ,Tk,aN,q8]using this
     have fT:=(bR.out).string Ch;rw[aR.out]at fT;have gV:=jH eO;have iX:jW (jS g w wr):=jH (fK.trans (aM.2.1.qa.mono fM));clear dH eO;go_wp2_with fail;go_returns;exact⟨by rw[<-gV.out];rfl,iX.out⟩
    .obtain⟨y2,zs,rfl⟩:∃y2 zs,ys=y2::zs:=by
      cases ys with
      |nil=>exact absurd af.symm eH
      |cons a b=>exact⟨a,b,rfl⟩
     obtain⟨dI,rfl⟩:∃dI,N=dI+1:=⟨N - 1,nK⟩;have eP:zs.length=dI:=by have:=af.out;simpa using this
     have bu:=aM.2.1.pop af.out;obtain⟨gW,gX,he,ed,dJ,gY,z3,_⟩:=vw bu eP;injection he with U _ aS
     injection U with U
     injection U with U
     subst U aS;obtain⟨b1,iY,b3,b4,_,_⟩:=aM.2.1.Iu.2.2.2.2.2;have jk:y2.l.length<=100000:=by have:=bQ.2 y2 (List.mem_cons_self ..);omega
     have jl:y.l.length<=100000:=by have:=bQ.1;omega
     have eQ:y2.B<=wr.heap.size:=by have:=iV.2;omega
     have bD:=jH (Hu 192 y.l.length y2.B y2.bv y2.l wr (.inr rfl) nK b3 nK eQ);obtain⟨jm,jo,bz⟩:=b3.slice;have eT:=jH b3;have gZ:=jH b4;have fU:=jH bu;have eU:∃cs,nO wr go cs LT:=by obtain⟨_,_,cs,h⟩:=bu.row.block go rfl;exact⟨cs,h⟩
     have eX:=jH eU;rw[bz]at dJ;have bS:=jH bz;rw[bz]at bD;have ib:=Kw 192 y.l.length nK;clear bu b1 iY b3 b4 bz eU;go_upto_region 12 with fail;go_wp2_with fail;refine bD.mono ?_;rintro e w5 ⟨v5,rfl,bX,bE⟩;obtain⟨cs,ag⟩:=eX.out;have fV:=cell_of_heap (eT.far (by rw[bS.out];exact bE) go ag.lt (.inr ⟨cs,ag⟩));have aT:oD w5 y.B U8 y.bv y.l:=bR.keep λb jq hb hB=>bE.block b hB.lt λe=>by
      have h1:=gZ.out b (by rw[bS.out];exact e.symm);have dx:=(bR.Tg b hb).1;omega
     rw[aR.out]at aT;have ig:y2.B<=w5.heap.size:=kg eQ bE.size;have bY:=jH (jU bX bE);have fZ:=jH aT;clear bX bE aT ag fV;go_wp2_with (at_builtin;go_loud (refine QQ Ch rfl _ _ rfl y2.B y.B v5 (nk bo y.l.length bc) (y2.l++hdr 192 y.l.length) y.l w5 rfl bY.1 fZ rfl nQ ig ?_);intro v6 ay bA dK;obtain⟨eY,eZ,fq,ik⟩:∃aU n aV,v6=nk aU n aV:=(by obtain⟨a,b,h⟩:=bA.slice;exact⟨a,_,b,h⟩);subst ik;have fu:=jH (jU bA dK);obtain⟨cs,ag⟩:=eX.out;have dL:=a18 eT (by rw[bS.out];exact bY.2) bY.1 dK;have gm:=cell_of_heap (dL go ag.lt (.inr ⟨cs,ag⟩)) (dI*2+1);have jF:=gm.1.trans dJ;have cZ:=gm.2.trans z3;have iq:=jH dL;clear bA dK ag dL gm);have bF:=bY.2;have bG:=fu.2;have ek:wr.heap.size<=ay.heap.size:=kg bF.size bG.size;have aI:=vR.bytes (x:=y2) (xs:=zs) (N:=dI) fU eP (l:=y2.l++hdr 192 y.l.length++y.l) fu.1 ek ⟨bG.os.trans bF.os,bG.tape.trans bF.tape,bG.output.trans bF.output⟩ iq.out;have hfin:=Vl (x:=y) (y:=y2) (xs:=zs) aM.2.2 aN (bv:=nk eY eZ fq);have Ih:=jH (show Ie w4 _ B1 E _ _ from⟨nR,aI,hfin⟩);clear aI hfin bF bG;go_roundw;case rel=>exact⟨_,Ih⟩
     case measure=>
      have h1:=(HME (_,_) _ ⟨_,Ih.out,rfl⟩).2;have dx:=a19.out;have h3:=Ov (y:=y) (y2:=y2) (zs:=zs) (bv:=nk eY eZ fq) (l:=y2.l++hdr 192 y.l.length++y.l);rw[dx]at h3;exact mF h1 h3
   |cons t df=>
    rw[aN]at r0;simp only[kD]at r0;obtain⟨a,sub⟩:=t;have hit:=gU.out;rw[eG.out,aN]at hit;simp only[kD]at hit;obtain⟨b,off,u,iw,iZ,jr,iy,iA,iB,eu,bZ⟩:=nV.at_ hit (i:=0) (x:=.node a sub) rfl;subst iw;simp only[Nat.zero_mul,Nat.add_zero,nL.oQ,nL.qx]at iy iA iB eu bZ;obtain⟨aB,aC,fw,iC,_⟩:=nV.slice eu;obtain⟨aD,fA⟩:=nT sub.length;rw[fA]at fw;subst fw;obtain⟨ns,dM⟩:=nT df.length;have iD:=jH dM;rw[dM]at r0 hit;have bT:=QS hit;obtain⟨oA,iE⟩:∃oA,(if ic=1 then(some ⟨b,off,none⟩:Option l5)else some ⟨b,off+3,none⟩)=oA:=⟨_,rfl⟩;rw[iE]at bT;have gp:=jH bT;clear bT;have ja:=jH eu;have a6C:ns+1<=ic:=by rw[aN]at dF;simp at dF;omega
    have HYS:=jH aN;have fB:jW (∀W,wr.alloc (nG #[ny (txt a),nA a.list,nk aB aD aC] IT)=W->vR w4 W B1 (nk (some ⟨go,0,none⟩) (N+1) fQ) (y::ys)/\nO W wr.heap.size #[ny (txt a),nA a.list,nk aB aD aC] IT/\jS wr.heap.size wr W):=jH λW h=>by
     subst h;have bZ:=(jT _ wr).alloc (jL _) (nG #[ny (txt a),nA a.list,nk aB aD aC] IT);exact⟨aM.2.1.below bZ,nO.new wr _ _,bZ⟩
    clear eu hit aN dF iC fA dM;go_upto_region 14 with fail;generalize wr.alloc (nG #[ny (txt a),nA a.list,nk aB aD aC] IT)=w5 at*;obtain⟨cz,aF,bU⟩:=fB.out _ rfl;obtain⟨gW,gX,he,ed,dJ,gY,z3,_⟩:=vw cz af.out;injection he with U _ aS
    injection U with U
    injection U with U
    subst U aS;obtain⟨iF,jv,ag⟩:=BX cz.row;have fC:go≠wr.heap.size:=by
     rintro rfl;unfold nO at ag aF;rw[aF]at ag;injection ag with ag
     injection ag with _ ag _
     exact absurd ag nN
    have bB:wr.heap.size≠go:=λh=>fC h.symm
    have gq:jW (nV w5 (λc=>c<B1) (nk oA ns (ic - 1)) df):=jH (Shape.nX.below gp bU);have iG:jW (nV w5 (λc=>c<B1) (nk aB aD aC) sub):=jH (Shape.nX.below ja bU);have fD:=jH cz;have iH:=jH aF;obtain⟨jb,n1,n2⟩:=aF.a3;rw[eG.out,HYS.out]at ed;simp only[kD,iD.out]at ed;rw[aR.out]at dJ;clear cz aF bU fB ag iF r0 r1 z0 iT iy iA iB;have aO:=jH (fD.items af gq);have jw:jW (∀i v,(w5.setCell ⟨go,i,none⟩ v).heap[wr.heap.size]? =w5.heap[wr.heap.size]?):=jH λi v=>j6 _ _ _ _ bB
    have iI:(w5.setCell ⟨go,N*2,none⟩ (nk oA ns (ic - 1))).cell? ⟨go,N*2+1,none⟩=some (nk bo y.l.length bc):=by
     obtain⟨_,_,e,_,e2,_⟩:=vw aO af.out;injection e with e _ _
     injection e with e
     injection e with e
     subst e;rw[e2];exact congrArg some aR.out
    have aJ:jW (nO (w5.setCell ⟨go,N*2,none⟩ (nk oA ns (ic - 1))) wr.heap.size #[ny (txt a),nA a.list,nk aB aD aC] IT):=jH (iH.setOther (a:=⟨go,N*2,none⟩) bB _);have iJ:jW (nV (w5.setCell ⟨go,N*2,none⟩ (nk oA ns (ic - 1))) (λc=>c<B1) (nk aB aD aC) sub):=jH (Shape.nX.keep iG (by simp[kC]) (λ_ _ h=>h) λc _ hc=>j6 _ _ _ _ (λe=>by
     have h1:=(BX fD.row).1;have:c<B1:=hc;simp only at e;omega))
    go_upto_region 15 with fail;generalize w5.setCell ⟨go,N*2,none⟩ (nk oA ns (ic - 1))=ay at*;obtain⟨jc,iK,m2⟩:=aJ.a3;clear ed dJ gY z3 jb n1 n2;cases aW:a.list with
    |true=>
     rw[aW]at iK;have fE:jW (({y with iv:=nk oA ns (ic - 1),s:=df}::ys:List Af).reverse.length=N+1):=jH (by simp[af.out]);have jd:B1<=ay.heap.size:=aO.hB;go_wp2_with (at_builtin;go_loud (refine tL a4C AL rfl _ _ rfl (B:=B1) (v:=nk (some ⟨go,0,none⟩) (N+1) fQ) (L:=({y with iv:=nk oA ns (ic - 1),s:=df}::ys:List Af).reverse) (y:=⟨nk aB aD aC,sub,nk none 0 0,[],0⟩) rfl (aO.row.below ((jT _ ay).alloc (jL _) _)) rfl (nO.new ay #[nk aB aD aC,nk none 0 0] LT) rfl (by simp[Lf,Value.oneCell']) (by rw[fE.out];omega) nQ ?_);intro jG cap aK ae bH gu gy;have iL:=jH (jU ae bH);rw[fE.out];clear ae bH gu gy);have bC:=iL.1;rw[List.length_reverse]at bC;have aI:=vR.push (f:=⟨nk aB aD aC,sub,nk none 0 0,[],aK.heap.size⟩) aO ((jT _ ay).alloc (jL _) _) (a6z bC rfl rfl) iL.2 iJ ⟨rfl,rfl,rfl⟩;have hfin:=ZA (x:=y) (xs:=ys) aM.2.2 HYS aW (iv:=nk oA ns (ic - 1)) (v2:=nk aB aD aC) (B2:=aK.heap.size);have fF:({y with iv:=nk oA ns (ic - 1),s:=df}::ys:List Af).length=N+1:=by simp[af.out]
     rw[fF]at aI;have Ih:=jH (show Ie w4 _ B1 E _ _ from⟨nR,aI,hfin⟩);clear aI hfin bC fF;go_roundw;case rel=>exact⟨_,Ih⟩
     case measure=>
      have h1:=(HME (_,_) _ ⟨_,Ih.out,rfl⟩).2;have h3:=QR (ys:=ys) HYS (v2:=nk aB aD aC) (iv:=nk oA ns (ic - 1)) (bv:=nk none 0 0) (l:=[]) (B2:=aK.heap.size);rw[a19.out]at h3;exact mF h1 h3
    |false=>
     rw[aW]at iK;have aX:=bQ.1;rw[HYS.out]at aX;simp only[q8,jY]at aX;have fG:enc (nL.node a sub)=(if single a.text then a.text else hdr 128 a.text.length++a.text):=by rw[GX,aW];simp
     rw[fG]at aX;have iM:a.text.length<=100000:=by
      revert aX;split;.intro h;omega
      .intro h;rw[jY]at h;omega
     have jy:y.l.length<=100000:=nK;have bI:=sH a;have jA:(txt a).size<=100000:=nK;have gz:y.B<=ay.heap.size:=aO.Iu.2.1;have ib:=Kw 128 a.text.length nK;have je:jW (∃bo jf bc,y.bv=nk bo jf bc):=jH ⟨bo,_,bc,aR.out⟩;have a6A:=jH (λiv bv=>Zz (x:=y) (xs:=ys) aM.2.2 HYS aW (iv:=iv) (bv:=bv));have jg:=jH iM;clear aX fG;obtain⟨gB,dN,dO⟩:=BX aO.row;clear fC;have iN:=dN;have Q:jW (oD ay y.B U8 (nk bo y.l.length bc) y.l):=jH (by have:=aO.Iu.2.2.1;simp only at this;rw[aR.out]at this;exact this);have dP:jW (vR w4 ay B1 (nk (some ⟨go,0,none⟩) (N+1) fQ) (⟨nk oA ns (ic - 1),df,nk bo y.l.length bc,y.l,y.B⟩::ys)):=jH (by have:=aO.out;rw[aR.out]at this;exact this);have O:jW (B1<=go/\nO ay go dN LT):=jH ⟨gB,dO⟩;have av:=gz;have ah:=iI;have aG:ay.frozen? ⟨go,N*2+1,none⟩=false:=dO.free _;have ax:=jc;by_cases h1:(txt a).size=1
     .have cK:=Qj h1
      have fI:0<(txt a).size:=nK;have jh:(((txt a).size:Int) !=1)=false:=by rw[h1];rfl
      by_cases hb:(txt a)[0].toNat<128
      .have Tm:jW (single a.text=true):=jH (by rw[cK];simpa using hb)
       have e1:decide (128<=(txt a)[0].toNat)=false:=by simpa using hb
       clear cK;go_upto_region 19 with fail;refine r9 (S:=λw'=>w'.cell? ⟨go,N*2+1,none⟩=some (nk bo y.l.length bc)/\w'.cell? ⟨wr.heap.size,0,none⟩=some (ny (txt a))) 8 nM ⟨ah,ax⟩ (λC=> ?_);refine nY (i:=0) (oi:= ?b4K) (v:= ?va0) ?a9d nM nM nM nM nM ?a9e (kL ⟨?a9f,?a9g⟩) C ?a9h;case a9d=>simp only[jO,jM,jN];rfl
       case a9e=>exact λ_ _ _ h=>h
       case a9f=>rfl
       case a9g=>(intro w A;(try dsimp only at A);go_simp;try rfl)
       simp only[kE,jK,jQ,jR];refine nY (i:=1) (oi:= ?b4L) (v:= ?va1) ?a9i nM nM nM nM nM ?a9j (kL ⟨?a9k,?a9l⟩) C ?a9m;case a9i=>simp only[jO,jM,jN];rfl
       case a9j=>exact λ_ _ _ h=>h
       case a9k=>rfl
       case a9l=>(intro w A;(try dsimp only at A);go_simp;try rfl)
       simp only[kE,jK,jQ,jR];refine nY (i:=2) (oi:= ?b4M) (v:= ?va2) ?a9n nM nM nM nM nM ?a9o (kL ⟨?a9p,?a9q⟩) C ?a9r;case a9n=>simp only[jO,jM,jN];rfl
       case a9o=>exact λ_ _ _ h=>h
       case a9p=>rfl
       case a9q=>(intro w A;(try dsimp only at A);go_simp;try rfl)
       simp only[kE,jK,jQ,jR];refine nY (i:=3) (oi:= ?b4N) (v:= ?va3) ?a9s nM nM nM nM nM ?a9t (kL ⟨?a9u,?a9v⟩) C ?a9w;case a9s=>simp only[jO,jM,jN];rfl
       case a9t=>exact λ_ _ _ h=>h
       case a9u=>rfl
       case a9v=>(intro w A;(try dsimp only at A);go_simp;try rfl)
       simp only[kE,jK,jQ,jR];refine nY (i:=4) (oi:= ?b4O) (v:= ?va4) ?a9x nM nM nM nM nM ?a9y (kL ⟨?a9z,?a9A⟩) C ?a9B;case a9x=>simp only[jO,jM,jN];rfl
       case a9y=>exact λ_ _ _ h=>h
       case a9z=>rfl
       case a9A=>(intro w A;(try dsimp only at A);go_simp;try rfl)
       simp only[kE,jK,jQ,jR];refine nY (i:=5) (oi:= ?b4P) (v:= ?va5) ?a9C nM nM nM nM nM ?a9D (kL ⟨?a9E,?a9F⟩) C ?a9G;case a9C=>simp only[jO,jM,jN];rfl
       case a9D=>exact λ_ _ _ h=>h
       case a9E=>rfl
       case a9F=>(intro w A;(try dsimp only at A);go_simp;try rfl)
       simp only[kE,jK,jQ,jR];refine nY (i:=6) (oi:= ?b4Q) (v:= ?va6) ?a9H nM nM nM nM nM ?a9I (kL ⟨?a9J,?a9K⟩) C ?a9L;case a9H=>simp only[jO,jM,jN];rfl
       case a9I=>exact λ_ _ _ h=>h
       case a9J=>rfl
       case a9K=>(intro w A;(try dsimp only at A);go_simp;try rfl)
       simp only[kE,jK,jQ,jR];refine vk (i:=7) (o:= ?b4R) nM ?a9M (λK hK=> ?_);case a9M=>simp only[jO,jM,jN];rfl
       refine vz Ch (by rfl) _ _ (by rfl) y.B (nk bo y.l.length bc) y.l (txt a) ay.drew (by rfl) Q.drew (by rfl) (by rw[bI];omega) (by exact av) ?_;intro v9 dQ Z Y;obtain⟨so9,nl9,sc9,bJ⟩:∃aU n aV,v9=nk aU n aV:=(by obtain⟨a,b,h⟩:=Z.slice;exact⟨a,_,b,h⟩);subst bJ;have I:ay.grownBy dQ (kM bo y.l.length bc).ownBlock:=⟨Y.os,Y.tape,Y.output,Y.size,Y.block⟩;have az:=Q.far I;have aY:=cell_of_heap (az go O.2.lt (.inr ⟨_,O.2⟩)) (N*2+1);have aP:=cell_of_heap (Q.Zv I aJ nN) 0;have HN9:=jH (vR.bytes dP af Z I.size ⟨I.os,I.tape,I.output⟩ az);have aZ:=aY.1.trans ah;have dh:=aY.2.trans aG;have bK:=jH (aP.1.trans ax);clear az aY aP Z Y I;refine hK _ _ ⟨aZ,bK.out⟩ (λaa=> ?_);clear hK K aa;try simp only[kE,jK,jQ,jR]
       refine sK _ _ _ _ nM (wpAny_of_held (S:=λ_=>True) _ _ _ _ ?_);have J:True:=trivial;refine kU (i:=8) (oi:= ?b4S) (v:= ?va8) ?a9N nM nM nM ?a9O (kL ⟨?a9P,?a9Q⟩) J ?a9R;case a9N=>simp only[jO,jM,jN];rfl
       case a9O=>exact λ_ _ _ h=>h
       case a9P=>rfl
       case a9Q=>(intro w A;(try dsimp only at A);go_simp;try rfl)
       simp only[kE,jK,jQ,jR];refine kU (i:=9) (oi:= ?b4T) (v:= ?va9) ?a9S nM nM nM ?a9T (kL ⟨?a9U,?a9V⟩) J ?a9W;case a9S=>simp only[jO,jM,jN];rfl
       case a9T=>exact λ_ _ _ h=>h
       case a9U=>rfl
       case a9V=>(intro w A;(try dsimp only at A);go_simp;try rfl)
       simp only[kE,jK,jQ,jR];refine lW (rs:=[10]) nM nR ?_;refine kZ (o:= ?b3L) ?a6D (λK hK=> ?_) lC;case a6D=>simp only[jO,jM,jN];rfl
       go_simp;refine hK _ _ trivial (λQT=> ?_);clear hK K;try simp only[kE,jK,jQ,jR]
       refine wpAnyH_done nM ?_ _;have hfin:=a6A.out (nk oA ns (ic - 1)) (nk so9 nl9 sc9);rw[show(if single a.text then a.text else hdr 128 a.text.length++a.text)=(txt a).data.toList by rw[Tm.out];rfl]at hfin;have Ih:=jH (show Ie w4 _ B1 E _ _ from⟨nR,HN9.out,hfin⟩);clear hfin;go_wp2_with fail;go_roundw;case rel=>exact⟨_,Ih⟩
       case measure=>
        have h1:=(HME (_,_) _ ⟨_,Ih.out,rfl⟩).2;have h3:=Ig (ys:=ys) HYS (iv:=nk oA ns (ic - 1)) (bv:=nk so9 nl9 sc9) (l:=y.l++(txt a).data.toList) (B2:=y.B);rw[a19.out]at h3;exact mF h1 h3
      .have Tm:jW (single a.text=false):=jH (by rw[cK];simpa using hb)
       have e1:decide (128<=(txt a)[0].toNat)=true:=by simpa using hb
       clear cK;go_upto_region 18 with fail;have ch:=Hu 128 a.text.length y.B (nk bo y.l.length bc) y.l ay.drew (.inl rfl) nK Q.drew nK (by exact av);rw[show((a.text.length:Nat):Int)=(1:Int)by rw[<-bI,h1];rfl]at ch;have bD:=jH ch;clear ch;refine r9 (S:=λw'=>w'.cell? ⟨go,N*2+1,none⟩=some (nk bo y.l.length bc)/\w'.cell? ⟨wr.heap.size,0,none⟩=some (ny (txt a))) 10 nM ⟨ah,ax⟩ (λC=> ?_);refine nY (i:=0) (oi:= ?b4U) (v:= ?vb0) ?a9X nM nM nM nM nM ?a9Y (kL ⟨?a9Z,?a90⟩) C ?a92;case a9X=>simp only[jO,jM,jN];rfl
       case a9Y=>exact λ_ _ _ h=>h
       case a9Z=>rfl
       case a90=>(intro w A;(try dsimp only at A);go_simp;try rfl)
       simp only[kE,jK,jQ,jR];refine nY (i:=1) (oi:= ?b4V) (v:= ?vb1) ?a94 nM nM nM nM nM ?a95 (kL ⟨?a96,?a97⟩) C ?a98;case a94=>simp only[jO,jM,jN];rfl
       case a95=>exact λ_ _ _ h=>h
       case a96=>rfl
       case a97=>(intro w A;(try dsimp only at A);go_simp;try rfl)
       simp only[kE,jK,jQ,jR];refine nY (i:=2) (oi:= ?b4W) (v:= ?vb2) ?a99 nM nM nM nM nM ?b0a (kL ⟨?b0b,?b0c⟩) C ?b0d;case a99=>simp only[jO,jM,jN];rfl
       case b0a=>exact λ_ _ _ h=>h
       case b0b=>rfl
       case b0c=>(intro w A;(try dsimp only at A);go_simp;try rfl)
       simp only[kE,jK,jQ,jR];refine nY (i:=3) (oi:= ?b4X) (v:= ?vb3) ?b0e nM nM nM nM nM ?b0f (kL ⟨?b0g,?b0h⟩) C ?b0i;case b0e=>simp only[jO,jM,jN];rfl
       case b0f=>exact λ_ _ _ h=>h
       case b0g=>rfl
       case b0h=>(intro w A;(try dsimp only at A);go_simp;try rfl)
       simp only[kE,jK,jQ,jR];refine nY (i:=4) (oi:= ?b4Y) (v:= ?vb4) ?b0j nM nM nM nM nM ?b0k (kL ⟨?b0l,?b0m⟩) C ?b0n;case b0j=>simp only[jO,jM,jN];rfl
       case b0k=>exact λ_ _ _ h=>h
       case b0l=>rfl
       case b0m=>(intro w A;(try dsimp only at A);go_simp;try rfl)
       simp only[kE,jK,jQ,jR];refine nY (i:=5) (oi:= ?b4Z) (v:= ?vb5) ?b0o nM nM nM nM nM ?b0p (kL ⟨?b0q,?b0r⟩) C ?b0s;case b0o=>simp only[jO,jM,jN];rfl
       case b0p=>exact λ_ _ _ h=>h
       case b0q=>rfl
       case b0r=>(intro w A;(try dsimp only at A);go_simp;try rfl)
       simp only[kE,jK,jQ,jR];refine nY (i:=6) (oi:= ?b40) (v:= ?vb6) ?b0t nM nM nM nM nM ?b0u (kL ⟨?b0v,?b0w⟩) C ?b0x;case b0t=>simp only[jO,jM,jN];rfl
       case b0u=>exact λ_ _ _ h=>h
       case b0v=>rfl
       case b0w=>(intro w A;(try dsimp only at A);go_simp;try rfl)
       simp only[kE,jK,jQ,jR];refine nY (i:=7) (oi:= ?b41) (v:= ?vb7) ?b0y nM nM nM nM nM ?b0z (kL ⟨?b0A,?b0B⟩) C ?b0C;case b0y=>simp only[jO,jM,jN];rfl
       case b0z=>exact λ_ _ _ h=>h
       case b0A=>rfl
       case b0B=>(intro w A;(try dsimp only at A);go_simp;try rfl)
       simp only[kE,jK,jQ,jR];refine nY (i:=8) (oi:= ?b42) (v:= ?vb8) ?b0D nM nM nM nM nM ?b0E (kL ⟨?b0F,?b0G⟩) C ?b0H;case b0D=>simp only[jO,jM,jN];rfl
       case b0E=>exact λ_ _ _ h=>h
       case b0F=>rfl
       case b0G=>(intro w A;(try dsimp only at A);go_simp;try rfl)
       simp only[kE,jK,jQ,jR];refine vk (i:=9) (o:= ?b43) nM ?b0I (λK hK=> ?_);case b0I=>simp only[jO,jM,jN];rfl
       go_simp;go_at_call 201;refine bD.mono ?_;rintro e aK ⟨gD,rfl,ae,ai⟩;obtain⟨aj,ak,au,dR⟩:∃aU n aV,gD=nk aU n aV:=(by obtain⟨a,b,h⟩:=ae.slice;exact⟨a,_,b,h⟩);subst dR;have V:ay.grownBy aK (kM bo y.l.length bc).ownBlock:=⟨ai.os,ai.tape,ai.output,ai.size,ai.block⟩;have bg:=Q.far V;have bV:=cell_of_heap (bg go O.2.lt (.inr ⟨_,O.2⟩)) (N*2+1);have bL:=Q.Zv V aJ nN;have aA:=jH (vR.bytes dP af ae V.size ⟨V.os,V.tape,V.output⟩ bg);have aZ:=bV.1.trans ah;have dh:=bV.2.trans aG;have bM:jW (nO aK wr.heap.size #[ny (txt a),nA a.list,nk aB aD aC] IT):=jH (by unfold nO;rw[bL];exact aJ);clear bg bV bL ae ai V;refine hK _ _ ⟨aZ,bM.cell 0⟩ (λaa=> ?_);clear hK K aa bD;try simp only[kE,jK,jQ,jR]
       refine sK _ _ _ _ nM (wpAny_of_held (S:=λ_=>True) _ _ _ _ ?_);have J:True:=trivial;refine kU (i:=10) (oi:= ?b3M) (v:= ?b44) ?a6E nM nM nM ?a6F (kL ⟨?a6G,?a6H⟩) J ?a7A;case a6E=>simp only[jO,jM,jN];rfl
       case a6F=>exact λ_ _ _ h=>h
       case a6G=>rfl
       case a6H=>(intro w A;(try dsimp only at A);go_simp;try rfl)
       simp only[kE,jK,jQ,jR];refine kU (i:=11) (oi:= ?b3N) (v:= ?b45) ?a6I nM nM nM ?a6J (kL ⟨?a6K,?a6L⟩) J ?a7B;case a6I=>simp only[jO,jM,jN];rfl
       case a6J=>exact λ_ _ _ h=>h
       case a6K=>rfl
       case a6L=>(intro w A;(try dsimp only at A);go_simp;try rfl)
       simp only[kE,jK,jQ,jR];refine lW (rs:=[12]) nM nR ?_;refine kZ (o:= ?b3O) ?a6M (λK hK=> ?_) lC;case a6M=>simp only[jO,jM,jN];rfl
       go_simp;refine hK _ _ trivial (λQT=> ?_);clear hK K;try simp only[kE,jK,jQ,jR]
       refine wpAnyH_done nM ?_ _;have bN:jW (nO (aK.setCell ⟨go,N*2+1,none⟩ (nk aj ak au)) wr.heap.size #[ny (txt a),nA a.list,nk aB aD aC] IT):=jH (bM.setOther (a:=⟨go,N*2+1,none⟩) bB _);generalize aK.setCell ⟨go,N*2+1,none⟩ (nk aj ak au)=aL at*;have dS:=O;clear Q O av ah aG ax aZ dh;obtain⟨_,_,he,_,cZ,_,dU,_⟩:=vw aA af.out;injection he with U _ aS
       injection U with U
       injection U with U
       subst U aS;have Q:jW (oD aL y.B U8 (nk aj ak au) (y.l++hdr 128 a.text.length)):=jH aA.Iu.2.2.1;have av:y.B<=aL.heap.size:=aA.Iu.2.1;obtain⟨aH,dV,bq⟩:=BX aA.row;have O:jW (B1<=go/\nO aL go dV LT):=jH ⟨aH,bq⟩;have ah:=cZ;have aG:=dU;have ax:aL.cell? ⟨wr.heap.size,0,none⟩=some (ny (txt a)):=bN.cell 0;clear cZ dU aH bq;go_upto_region 19 with fail;refine r9 (S:=λw'=>w'.cell? ⟨go,N*2+1,none⟩=some (nk aj ak au)/\w'.cell? ⟨wr.heap.size,0,none⟩=some (ny (txt a))) 8 nM ⟨ah,ax⟩ (λC=> ?_);refine nY (i:=0) (oi:= ?b46) (v:= ?vc0) ?b0J nM nM nM nM nM ?b0K (kL ⟨?b0L,?b0M⟩) C ?b0N;case b0J=>simp only[jO,jM,jN];rfl
       case b0K=>exact λ_ _ _ h=>h
       case b0L=>rfl
       case b0M=>(intro w A;(try dsimp only at A);go_simp;try rfl)
       simp only[kE,jK,jQ,jR];refine nY (i:=1) (oi:= ?b47) (v:= ?vc1) ?a6C nM nM nM nM nM ?b0O (kL ⟨?b0P,?b0Q⟩) C ?b0R;case a6C=>simp only[jO,jM,jN];rfl
       case b0O=>exact λ_ _ _ h=>h
       case b0P=>rfl
       case b0Q=>(intro w A;(try dsimp only at A);go_simp;try rfl)
       simp only[kE,jK,jQ,jR];refine nY (i:=2) (oi:= ?b48) (v:= ?vc2) ?b0S nM nM nM nM nM ?b0T (kL ⟨?b0U,?b0V⟩) C ?b0W;case b0S=>simp only[jO,jM,jN];rfl
       case b0T=>exact λ_ _ _ h=>h
       case b0U=>rfl
       case b0V=>(intro w A;(try dsimp only at A);go_simp;try rfl)
       simp only[kE,jK,jQ,jR];refine nY (i:=3) (oi:= ?b49) (v:= ?vc3) ?b0X nM nM nM nM nM ?b0Y (kL ⟨?b0Z,?b03⟩) C ?b04;case b0X=>simp only[jO,jM,jN];rfl
       case b0Y=>exact λ_ _ _ h=>h
       case b0Z=>rfl
       case b03=>(intro w A;(try dsimp only at A);go_simp;try rfl)
       simp only[kE,jK,jQ,jR];refine nY (i:=4) (oi:= ?b5a) (v:= ?vc4) ?b05 nM nM nM nM nM ?b06 (kL ⟨?b07,?b08⟩) C ?b09;case b05=>simp only[jO,jM,jN];rfl
       case b06=>exact λ_ _ _ h=>h
       case b07=>rfl
       case b08=>(intro w A;(try dsimp only at A);go_simp;try rfl)
       simp only[kE,jK,jQ,jR];refine nY (i:=5) (oi:= ?b5b) (v:= ?vc5) ?b1a nM nM nM nM nM ?b1b (kL ⟨?b1c,?b1d⟩) C ?b1e;case b1a=>simp only[jO,jM,jN];rfl
       case b1b=>exact λ_ _ _ h=>h
       case b1c=>rfl
       case b1d=>(intro w A;(try dsimp only at A);go_simp;try rfl)
       simp only[kE,jK,jQ,jR];refine nY (i:=6) (oi:= ?b5c) (v:= ?vc6) ?b1f nM nM nM nM nM ?b1g (kL ⟨?b1h,?b1i⟩) C ?b1j;case b1f=>simp only[jO,jM,jN];rfl
       case b1g=>exact λ_ _ _ h=>h
       case b1h=>rfl
       case b1i=>(intro w A;(try dsimp only at A);go_simp;try rfl)
       simp only[kE,jK,jQ,jR];refine vk (i:=7) (o:= ?b5d) nM ?b1k (λK hK=> ?_);case b1k=>simp only[jO,jM,jN];rfl
       refine vz Ch (by rfl) _ _ (by rfl) y.B (nk aj ak au) (y.l++hdr 128 a.text.length) (txt a) aL.drew (by rfl) Q.drew (by rfl) (by rw[bI];rw[jY];omega) (by exact av) ?_;intro v9 dQ Z Y;obtain⟨so9,nl9,sc9,bJ⟩:∃aU n aV,v9=nk aU n aV:=(by obtain⟨a,b,h⟩:=Z.slice;exact⟨a,_,b,h⟩);subst bJ;have I:aL.grownBy dQ (kM aj ak au).ownBlock:=⟨Y.os,Y.tape,Y.output,Y.size,Y.block⟩;have az:=Q.far I;have aY:=cell_of_heap (az go O.2.lt (.inr ⟨_,O.2⟩)) (N*2+1);have aP:=cell_of_heap (Q.Zv I bN nN) 0;have HN9:=jH (vR.bytes aA af Z I.size ⟨I.os,I.tape,I.output⟩ az);have aZ:=aY.1.trans ah;have dh:=aY.2.trans aG;have bK:=jH (aP.1.trans ax);clear az aY aP Z Y I;refine hK _ _ ⟨aZ,bK.out⟩ (λaa=> ?_);clear hK K aa;try simp only[kE,jK,jQ,jR]
       refine sK _ _ _ _ nM (wpAny_of_held (S:=λ_=>True) _ _ _ _ ?_);have J:True:=trivial;refine kU (i:=8) (oi:= ?b5e) (v:= ?vc8) ?b1l nM nM nM ?b1m (kL ⟨?b1n,?b1o⟩) J ?b1p;case b1l=>simp only[jO,jM,jN];rfl
       case b1m=>exact λ_ _ _ h=>h
       case b1n=>rfl
       case b1o=>(intro w A;(try dsimp only at A);go_simp;try rfl)
       simp only[kE,jK,jQ,jR];refine kU (i:=9) (oi:= ?b5f) (v:= ?vc9) ?b1q nM nM nM ?b1r (kL ⟨?b1s,?b1t⟩) J ?b1u;case b1q=>simp only[jO,jM,jN];rfl
       case b1r=>exact λ_ _ _ h=>h
       case b1s=>rfl
       case b1t=>(intro w A;(try dsimp only at A);go_simp;try rfl)
       simp only[kE,jK,jQ,jR];refine lW (rs:=[10]) nM nR ?_;refine kZ (o:= ?b3P) ?a6N (λK hK=> ?_) lC;case a6N=>simp only[jO,jM,jN];rfl
       exact ZB
     .have Tm:jW (single a.text=false):=jH (NJ (by rw[<-sH];exact h1))
      have jh:(((txt a).size:Int) !=1)=true:=FL;go_upto_region 18 with fail;have ch:=Hu 128 a.text.length y.B (nk bo y.l.length bc) y.l ay.drew (.inl rfl) nK Q.drew nK (by exact av);rw[show((a.text.length:Nat):Int)=((txt a).size:Int)by rw[bI]]at ch;have bD:=jH ch;clear ch;refine r9 (S:=λw'=>w'.cell? ⟨go,N*2+1,none⟩=some (nk bo y.l.length bc)/\w'.cell? ⟨wr.heap.size,0,none⟩=some (ny (txt a))) 10 nM ⟨ah,ax⟩ (λC=> ?_);refine nY (i:=0) (oi:= ?b5g) (v:= ?vd0) ?b1v nM nM nM nM nM ?b1w (kL ⟨?b1x,?b1y⟩) C ?b1z;case b1v=>simp only[jO,jM,jN];rfl
      case b1w=>exact λ_ _ _ h=>h
      case b1x=>rfl
      case b1y=>(intro w A;(try dsimp only at A);go_simp;try rfl)
      simp only[kE,jK,jQ,jR];refine nY (i:=1) (oi:= ?b5h) (v:= ?vd1) ?b1A nM nM nM nM nM ?b1B (kL ⟨?b1C,?b1D⟩) C ?b1E;case b1A=>simp only[jO,jM,jN];rfl
      case b1B=>exact λ_ _ _ h=>h
      case b1C=>rfl
      case b1D=>(intro w A;(try dsimp only at A);go_simp;try rfl)
      simp only[kE,jK,jQ,jR];refine nY (i:=2) (oi:= ?b5i) (v:= ?vd2) ?b1F nM nM nM nM nM ?b1G (kL ⟨?hwd2,?b1H⟩) C ?b1I;case b1F=>simp only[jO,jM,jN];rfl
      case b1G=>exact λ_ _ _ h=>h
      case hwd2=>rfl
      case b1H=>(intro w A;(try dsimp only at A);go_simp;try rfl)
      simp only[kE,jK,jQ,jR];refine nY (i:=3) (oi:= ?b5j) (v:= ?vd3) ?b1J nM nM nM nM nM ?b1K (kL ⟨?b1L,?b1M⟩) C ?b1N;case b1J=>simp only[jO,jM,jN];rfl
      case b1K=>exact λ_ _ _ h=>h
      case b1L=>rfl
      case b1M=>(intro w A;(try dsimp only at A);go_simp;try rfl)
      simp only[kE,jK,jQ,jR];refine nY (i:=4) (oi:= ?b5k) (v:= ?vd4) ?b1O nM nM nM nM nM ?b1P (kL ⟨?b1Q,?b1R⟩) C ?b1S;case b1O=>simp only[jO,jM,jN];rfl
      case b1P=>exact λ_ _ _ h=>h
      case b1Q=>rfl
      case b1R=>(intro w A;(try dsimp only at A);go_simp;try rfl)
      simp only[kE,jK,jQ,jR];refine nY (i:=5) (oi:= ?b5l) (v:= ?vd5) ?b1T nM nM nM nM nM ?b1U (kL ⟨?b1V,?b1W⟩) C ?b1X;case b1T=>simp only[jO,jM,jN];rfl
      case b1U=>exact λ_ _ _ h=>h
      case b1V=>rfl
      case b1W=>(intro w A;(try dsimp only at A);go_simp;try rfl)
      simp only[kE,jK,jQ,jR];refine nY (i:=6) (oi:= ?b5m) (v:= ?vd6) ?b1Y nM nM nM nM nM ?b1Z (kL ⟨?b2a,?b2b⟩) C ?b2c;case b1Y=>simp only[jO,jM,jN];rfl
      case b1Z=>exact λ_ _ _ h=>h
      case b2a=>rfl
      case b2b=>(intro w A;(try dsimp only at A);go_simp;try rfl)
      simp only[kE,jK,jQ,jR];refine nY (i:=7) (oi:= ?b5n) (v:= ?vd7) ?b2d nM nM nM nM nM ?b2e (kL ⟨?b2f,?b2g⟩) C ?b2h;case b2d=>simp only[jO,jM,jN];rfl
      case b2e=>exact λ_ _ _ h=>h
      case b2f=>rfl
      case b2g=>(intro w A;(try dsimp only at A);go_simp;try rfl)
      simp only[kE,jK,jQ,jR];refine nY (i:=8) (oi:= ?b5o) (v:= ?vd8) ?b2i nM nM nM nM nM ?b2j (kL ⟨?b2k,?b2l⟩) C ?b2m;case b2i=>simp only[jO,jM,jN];rfl
      case b2j=>exact λ_ _ _ h=>h
      case b2k=>rfl
      case b2l=>(intro w A;(try dsimp only at A);go_simp;try rfl)
      simp only[kE,jK,jQ,jR];refine vk (i:=9) (o:= ?b5p) nM ?b2n (λK hK=> ?_);case b2n=>simp only[jO,jM,jN];rfl
      go_simp;go_at_call 201;refine bD.mono ?_;rintro e aK ⟨gD,rfl,ae,ai⟩;obtain⟨aj,ak,au,dR⟩:∃aU n aV,gD=nk aU n aV:=(by obtain⟨a,b,h⟩:=ae.slice;exact⟨a,_,b,h⟩);subst dR;have V:ay.grownBy aK (kM bo y.l.length bc).ownBlock:=⟨ai.os,ai.tape,ai.output,ai.size,ai.block⟩;have bg:=Q.far V;have bV:=cell_of_heap (bg go O.2.lt (.inr ⟨_,O.2⟩)) (N*2+1);have bL:=Q.Zv V aJ nN;have aA:=jH (vR.bytes dP af ae V.size ⟨V.os,V.tape,V.output⟩ bg);have aZ:=bV.1.trans ah;have dh:=bV.2.trans aG;have bM:jW (nO aK wr.heap.size #[ny (txt a),nA a.list,nk aB aD aC] IT):=jH (by unfold nO;rw[bL];exact aJ);clear bg bV bL ae ai V;refine hK _ _ ⟨aZ,bM.cell 0⟩ (λaa=> ?_);clear hK K aa bD;try simp only[kE,jK,jQ,jR]
      refine sK _ _ _ _ nM (wpAny_of_held (S:=λ_=>True) _ _ _ _ ?_);have J:True:=trivial;refine kU (i:=10) (oi:= ?b3Q) (v:= ?b5q) ?a6O nM nM nM ?a6P (kL ⟨?a6Q,?a6R⟩) J ?a7C;case a6O=>simp only[jO,jM,jN];rfl
      case a6P=>exact λ_ _ _ h=>h
      case a6Q=>rfl
      case a6R=>(intro w A;(try dsimp only at A);go_simp;try rfl)
      simp only[kE,jK,jQ,jR];refine kU (i:=11) (oi:= ?b3R) (v:= ?b5r) ?a6S nM nM nM ?a6T (kL ⟨?a6U,?a6V⟩) J ?a7D;case a6S=>simp only[jO,jM,jN];rfl
      case a6T=>exact λ_ _ _ h=>h
      case a6U=>rfl
      case a6V=>(intro w A;(try dsimp only at A);go_simp;try rfl)
      simp only[kE,jK,jQ,jR];refine lW (rs:=[12]) nM nR ?_;refine kZ (o:= ?b3S) ?a6W (λK hK=> ?_) lC;case a6W=>simp only[jO,jM,jN];rfl
      go_simp;refine hK _ _ trivial (λQT=> ?_);clear hK K;try simp only[kE,jK,jQ,jR]
      refine wpAnyH_done nM ?_ _;have bN:jW (nO (aK.setCell ⟨go,N*2+1,none⟩ (nk aj ak au)) wr.heap.size #[ny (txt a),nA a.list,nk aB aD aC] IT):=jH (bM.setOther (a:=⟨go,N*2+1,none⟩) bB _);generalize aK.setCell ⟨go,N*2+1,none⟩ (nk aj ak au)=aL at*;have dS:=O;clear Q O av ah aG ax aZ dh;obtain⟨_,_,he,_,cZ,_,dU,_⟩:=vw aA af.out;injection he with U _ aS
      injection U with U
      injection U with U
      subst U aS;have Q:jW (oD aL y.B U8 (nk aj ak au) (y.l++hdr 128 a.text.length)):=jH aA.Iu.2.2.1;have av:y.B<=aL.heap.size:=aA.Iu.2.1;obtain⟨aH,dV,bq⟩:=BX aA.row;have O:jW (B1<=go/\nO aL go dV LT):=jH ⟨aH,bq⟩;have ah:=cZ;have aG:=dU;have ax:aL.cell? ⟨wr.heap.size,0,none⟩=some (ny (txt a)):=bN.cell 0;clear cZ dU aH bq;go_upto_region 19 with fail;refine r9 (S:=λw'=>w'.cell? ⟨go,N*2+1,none⟩=some (nk aj ak au)/\w'.cell? ⟨wr.heap.size,0,none⟩=some (ny (txt a))) 8 nM ⟨ah,ax⟩ (λC=> ?_);refine nY (i:=0) (oi:= ?b5s) (v:= ?ve0) ?b2o nM nM nM nM nM ?b2p (kL ⟨?b2q,?b2r⟩) C ?b2s;case b2o=>simp only[jO,jM,jN];rfl
      case b2p=>exact λ_ _ _ h=>h
      case b2q=>rfl
      case b2r=>(intro w A;(try dsimp only at A);go_simp;try rfl)
      simp only[kE,jK,jQ,jR];refine nY (i:=1) (oi:= ?b5t) (v:= ?ve1) ?b2t nM nM nM nM nM ?b2u (kL ⟨?b2v,?b2w⟩) C ?b2x;case b2t=>simp only[jO,jM,jN];rfl
      case b2u=>exact λ_ _ _ h=>h
      case b2v=>rfl
      case b2w=>(intro w A;(try dsimp only at A);go_simp;try rfl)
      simp only[kE,jK,jQ,jR];refine nY (i:=2) (oi:= ?b5u) (v:= ?ve2) ?b2y nM nM nM nM nM ?b2z (kL ⟨?b2A,?b2B⟩) C ?b2C;case b2y=>simp only[jO,jM,jN];rfl
      case b2z=>exact λ_ _ _ h=>h
      case b2A=>rfl
      case b2B=>(intro w A;(try dsimp only at A);go_simp;try rfl)
      simp only[kE,jK,jQ,jR];refine nY (i:=3) (oi:= ?b5v) (v:= ?ve3) ?b2D nM nM nM nM nM ?b2E (kL ⟨?b2F,?b2G⟩) C ?b2H;case b2D=>simp only[jO,jM,jN];rfl
      case b2E=>exact λ_ _ _ h=>h
      case b2F=>rfl
      case b2G=>(intro w A;(try dsimp only at A);go_simp;try rfl)
      simp only[kE,jK,jQ,jR];refine nY (i:=4) (oi:= ?b5w) (v:= ?ve4) ?b2I nM nM nM nM nM ?b2J (kL ⟨?b2K,?b2L⟩) C ?b2M;case b2I=>simp only[jO,jM,jN];rfl
      case b2J=>exact λ_ _ _ h=>h
      case b2K=>rfl
      case b2L=>(intro w A;(try dsimp only at A);go_simp;try rfl)
      simp only[kE,jK,jQ,jR];refine nY (i:=5) (oi:= ?b5x) (v:= ?ve5) ?b2N nM nM nM nM nM ?b2O (kL ⟨?b2P,?b2Q⟩) C ?b2R;case b2N=>simp only[jO,jM,jN];rfl
      case b2O=>exact λ_ _ _ h=>h
      case b2P=>rfl
      case b2Q=>(intro w A;(try dsimp only at A);go_simp;try rfl)
      simp only[kE,jK,jQ,jR];refine nY (i:=6) (oi:= ?b5y) (v:= ?ve6) ?b2S nM nM nM nM nM ?b2T (kL ⟨?b2U,?b2V⟩) C ?b2W;case b2S=>simp only[jO,jM,jN];rfl
      case b2T=>exact λ_ _ _ h=>h
      case b2U=>rfl
      case b2V=>(intro w A;(try dsimp only at A);go_simp;try rfl)
      simp only[kE,jK,jQ,jR];refine vk (i:=7) (o:= ?b5z) nM ?b2X (λK hK=> ?_);case b2X=>simp only[jO,jM,jN];rfl
      refine vz Ch (by rfl) _ _ (by rfl) y.B (nk aj ak au) (y.l++hdr 128 a.text.length) (txt a) aL.drew (by rfl) Q.drew (by rfl) (by rw[bI];rw[jY];omega) (by exact av) ?_;intro v9 dQ Z Y;obtain⟨so9,nl9,sc9,bJ⟩:∃aU n aV,v9=nk aU n aV:=(by obtain⟨a,b,h⟩:=Z.slice;exact⟨a,_,b,h⟩);subst bJ;have I:aL.grownBy dQ (kM aj ak au).ownBlock:=⟨Y.os,Y.tape,Y.output,Y.size,Y.block⟩;have az:=Q.far I;have aY:=cell_of_heap (az go O.2.lt (.inr ⟨_,O.2⟩)) (N*2+1);have aP:=cell_of_heap (Q.Zv I bN nN) 0;have HN9:=jH (vR.bytes aA af Z I.size ⟨I.os,I.tape,I.output⟩ az);have aZ:=aY.1.trans ah;have dh:=aY.2.trans aG;have bK:=jH (aP.1.trans ax);clear az aY aP Z Y I;refine hK _ _ ⟨aZ,bK.out⟩ (λaa=> ?_);clear hK K aa;try simp only[kE,jK,jQ,jR]
      refine sK _ _ _ _ nM (wpAny_of_held (S:=λ_=>True) _ _ _ _ ?_);have J:True:=trivial;refine kU (i:=8) (oi:= ?b5A) (v:= ?ve8) ?b2Y nM nM nM ?b2Z (kL ⟨?b21,?b22⟩) J ?b23;case b2Y=>simp only[jO,jM,jN];rfl
      case b2Z=>exact λ_ _ _ h=>h
      case b21=>rfl
      case b22=>(intro w A;(try dsimp only at A);go_simp;try rfl)
      simp only[kE,jK,jQ,jR];refine kU (i:=9) (oi:= ?b5B) (v:= ?ve9) ?b24 nM nM nM ?b25 (kL ⟨?b26,?b27⟩) J ?b28;case b24=>simp only[jO,jM,jN];rfl
      case b25=>exact λ_ _ _ h=>h
      case b26=>rfl
      case b27=>(intro w A;(try dsimp only at A);go_simp;try rfl)
      simp only[kE,jK,jQ,jR];refine lW (rs:=[10]) nM nR ?_;refine kZ (o:= ?b3T) ?a6X (λK hK=> ?_) lC;case a6X=>simp only[jO,jM,jN];rfl
      exact ZB
theorem Vo(x:nL IL):∀(w:jJ)(v:jP)(n:Nat),pM w v x.sub->0<n->n<=10000->
  jV jI 44 #[nC #[ny (txt x.lab),nA x.lab.list,v],ng nH n] w λe w'=>e=nE (ng nH ((n - x.count:Nat):Int))/\jS w.heap.size w w':=by
 induction x using nL.ind with
 |h a s ag=>
  intro w v n J aK hn;simp only[nL.qx,nL.oQ,nL.count]at J⊢;obtain⟨oa,cap,rfl,U,O⟩:=nV.slice J;obtain⟨g,hg⟩:=nT w.heap.size;have N:=jH (rU (T:=txt a) (l:=a.list) (t:=IT) J);have ah:s.length<=9223372036854775807:=by unfold j5 at O;omega
  obtain⟨M,V⟩:=nT s.length;have Y:=jH V;have aD:=jH ag;obtain⟨C,Z⟩:=nT (nL.nW s);have ai:=jH Z;rw[hg]at N⊢;rw[V]at N ah⊢;rw[Z];clear J U O ag V Z;go_in;go_upto_region 1 with fail;generalize w.alloc (nG #[ny (txt a),nA a.list,nk oa M cap] IT)=w1 at*;obtain⟨Q,ht1,hsz,c0,c1,c2,_⟩:=N.out _ rfl;have aj:=jH (jU Q ht1);clear N Q ht1 c0 c1;go_wp2_with fail;go_loopw [1,5] (λaF iv aG=>∃k l:Nat,iv=ng nH k/\k<=M/\aF=ng nH l/\jW (l=n - 1 - nL.nW (s.take k))/\l<=10000/\jW (jS (g+1) w1 aG)) (λ_ iv _=>M -(kW iv).toNat);case atStart=>exact⟨0,n - 1,rfl,nK,by go_num,by simp[jW,nL.nW],nK,jH (jT _ _)⟩
  case round=>
   obtain⟨k,l,rfl,hk,rfl,ak,hl,A⟩:=hrel;have aL:wr.cell? ⟨g,2,none⟩=some (nk oa M cap):=(A.cell (p:=⟨g,2,none⟩) (lM g)).trans c2;have au:jW (jS g w wr):=jH (aj.1.trans (A.mono nK));have E:jW (k=M\/l=0->l=n -(1+C)):=jH λh=>by
    have aH:=ak.out;have aI:=nL.uL s k;rw[ai.out]at aI;rcases h with h|h
    .have av:s.take k=s:=by rw[h,<-Y.out,l9]
     rw[av,ai.out]at aH;omega
    .omega
   by_cases c:k<M
   .by_cases cl:0<l
    .obtain⟨aM,y,aa⟩:∃h:k<s.length,∃y,s[k]? =some y:=⟨by rw[Y.out];exact c,_,jX (by rw[Y.out];exact c)⟩
     obtain⟨b,off,u,rfl,hlt,_,aN,aO,y2,ax,ay⟩:=nV.at_ (Shape.nX.below aj.2 (hsz▸A.out)) aa;have aJ:=jH (aD y (kT aa) wr u l ax cl hl);have az:jW (l - y.count=n - 1 - nL.nW (s.take (k+1))):=by
      unfold jW;rw[nL.vO aa];have:=ak.out;omega
     have aA:jW (∀w2,jS wr.heap.size wr w2->jS (g+1) w1 w2):=jH λw2 I=>A.trans (I.mono (by have:=A.size;omega))
     clear ax ay;go_wp2_with fail;refine(aJ).mono ?_;rintro e w2 ⟨rfl,I⟩;go_wp2_with fail;go_roundw;case rel=>exact⟨k+1,l - y.count,by go_num,nK,rfl,az,nK,jH (aA _ I)⟩
     case measure=>simp[kW];omega
    .obtain rfl:l=0:=nK
     have e:=E.out (.inr rfl);have ae:=jH e;clear e;go_wp2_with fail;go_returns;rw[<-ae.out];exact⟨rfl,au.out⟩
   .obtain rfl:k=M:=nK
    have ae:=jH (E (.inl rfl));obtain⟨af,aB⟩:∃af:Int,(if(l:Int)<0 then(0:Int)else l)=af:=⟨_,rfl⟩;have aC:jW (af=l):=by unfold jW;rw[<-aB,if_neg nK]
    go_wp2_with fail;go_returns;rw[<-ae.out];exact⟨by first|rfl|(simp;omega)|(rw[aC.out]),au.out⟩
theorem Ow(s t:List (nL IL)):zk (s++t)=zk s+zk t:=by
 induction s with
 |nil=>simp[zk]
 |cons x xs A=>simp[zk,A,kP]
theorem Vp{i:Nat}(h:s[i]? =some x):zk (s.take (i+1))=zk (s.take i)+Z6 x:=by
 rw[List.take_add_one,h];simp[Ow,zk]
theorem Ox(a:IL)(s:List (nL IL)):Z6 (.node a s)=a.text.length+zk s:=rfl
theorem Vq(x:nL IL):∀(w:jJ)(v:jP),pM w v x.sub->x.lab.text.length<=j5->
  jV jI 45 #[nC #[ny (txt x.lab),nA x.lab.list,v]] w λe w'=>e=nE (ng nH ((min (Z6 x) 10000:Nat):Int))/\jS w.heap.size w w':=by
 induction x using nL.ind with
 |h a s aj=>
  intro w v J U;simp only[nL.qx,nL.oQ,Ox]at J U⊢;obtain⟨oa,cap,rfl,af,V⟩:=nV.slice J;obtain⟨g,hg⟩:=nT w.heap.size;have N:=jH (rU (T:=txt a) (l:=a.list) (t:=IT) J);have ak:s.length<=9223372036854775807:=by unfold j5 at V;omega
  obtain⟨M,ag⟩:=nT s.length;have ah:=jH ag;have aI:=jH aj;have C:=sH a;obtain⟨O,Y⟩:=nT (min a.text.length 10000);have au:(if(10000:Int)<((txt a).size:Int)then(10000:Int)else((txt a).size:Int))=(O:Int):=by rw[C];split<;>omega
  have av:min ((txt a).size:Int) 10000=(O:Int):=by rw[C];omega
  have ax:=jH Y;have hm2:O<=10000:=nK;rw[hg]at N⊢;rw[ag]at N ak⊢;clear J af V aj ag C Y U;go_in;go_upto_region 1 with fail;generalize w.alloc (nG #[ny (txt a),nA a.list,nk oa M cap] IT)=w1 at*;obtain⟨Z,ht1,hsz,c0,c1,c2,_⟩:=N.out _ rfl;have ay:=jH (jU Z ht1);clear N Z ht1 c1;go_wp2_with fail;clear c0 au av;go_loopw [3,4] (λaJ iv aK=>∃k l:Nat,iv=ng nH k/\k<=M/\aJ=ng nH l/\jW (l=min (a.text.length+zk (s.take k)) 10000)/\l<=10000/\jW (jS (g+1) w1 aK)) (λ_ iv _=>M -(kW iv).toNat);case atStart=>exact⟨0,O,rfl,nK,rfl,jH (by simp[zk,ax.out]),hm2,jH (jT _ _)⟩
  case round=>
   obtain⟨k,l,rfl,hk,rfl,az,hl,A⟩:=hrel;have aM:wr.cell? ⟨g,2,none⟩=some (nk oa M cap):=(A.cell (p:=⟨g,2,none⟩) (lM g)).trans c2;have HF:jW (jS g w wr):=jH (ay.1.trans (A.mono nK));by_cases c:k<M
   .obtain⟨aN,y,ai⟩:∃h:k<s.length,∃y,s[k]? =some y:=⟨by rw[ah.out];exact c,_,jX (by rw[ah.out];exact c)⟩
    obtain⟨b,off,u,rfl,hlt,_,aQ,aR,y2,aA,aa⟩:=nV.at_ (Shape.nX.below ay.2 (hsz▸A.out)) ai;have Q:=aI.out y (kT ai) wr u aA aa;obtain⟨E,ae⟩:=nT (min (Z6 y) 10000);rw[ae]at Q;obtain⟨l2,aB⟩:=nT (min (l+E) 10000);have aO:(if(10000:Int)<(l:Int)+(E:Int)then(10000:Int)else(l:Int)+(E:Int))=(l2:Int):=by split<;>omega
    have aP:min ((l:Int)+(E:Int)) 10000=(l2:Int):=nK;have aL:E<=10000:=nK;have aC:jW (l2=min (a.text.length+zk (s.take (k+1))) 10000):=by
     unfold jW;rw[Vp ai];have:=az.out;omega
    have aD:l2<=10000:=nK;have Q:=jH Q;have aF:jW (∀w2,jS wr.heap.size wr w2->jS (g+1) w1 w2):=jH λw2 I=>A.trans (I.mono (by have:=A.size;omega))
    clear aA aa ae aB;go_wp2_with fail;refine(Q).mono ?_;rintro e w2 ⟨rfl,I⟩;go_wp2_with fail;go_roundw;case rel=>exact⟨k+1,l2,by go_num,nK,rfl,aC,aD,jH (aF _ I)⟩
    case measure=>simp[kW];omega
   .obtain rfl:k=M:=nK
    have HE:jW (l=min (a.text.length+zk s) 10000):=by
     unfold jW;have aG:=az.out;have aH:s.take k=s:=by rw[<-ah.out,l9]
     rw[aH]at aG;exact aG
    exact Ff
def x9(x:nL IL):Bool:=decide (1200<=x.count)||decide (6000<Z6 x)
theorem Ii(x:nL IL)(w:jJ)(v:jP)(E:pM w v x.sub)(Y:x.lab.text.length<=j5):
  jV jI 18 #[nC #[ny (txt x.lab),nA x.lab.list,v]] w λe w'=>e=nE (nA (x9 x))/\jS w.heap.size w w':=by
 have N:=jH (rU (T:=txt x.lab) (l:=x.lab.list) (t:=IT) E);have aC:=jH E;obtain⟨oa,cap,rfl,O,Z⟩:=nV.slice E;obtain⟨g,hg⟩:=nT w.heap.size;have Q:=jH (λ(W:jJ) (h:pM W (nk oa x.sub.length cap) x.sub)=>Vo x W _ 1200 h nN nN);have aa:=jH (λ(W:jJ) (h:pM W (nk oa x.sub.length cap) x.sub)=>Vq x W _ h Y);obtain⟨R,ae⟩:=nT (1200 - x.count);obtain⟨U,af⟩:=nT (min (Z6 x) 10000);rw[ae]at Q;rw[af]at aa;have ag:jW (x9 x=(decide (R=0)||decide (6000<U))):=jH (by
  unfold x9;congr 1<;>(rw[decide_eq_decide];omega))
 rw[hg]at N⊢;generalize x9 x=G at*;clear E O Z ae af Y;generalize x.sub.length=M at*;go_in;go_upto_region 1 with fail;generalize w.alloc (nG #[ny (txt x.lab),nA x.lab.list,nk oa M cap] IT)=w1 at*;obtain⟨I,ht1,hsz,c0,c1,c2,_⟩:=N.out _ rfl;have V:=jH ht1;have ah:=jH I;have ai:=jH hsz;have hlt:g<w1.heap.size:=nK;clear N ht1 I hsz;by_cases C:R=0
 .have ax:((R:Int)==0)=true:=by simp[C]
  have HE:jW (G=true):=jH (by rw[ag.out];simp[C]);clear C;go_wp2_with fail;refine(Q _ V).mono ?_;rintro e w2 ⟨rfl,A⟩;have HB2:=jH (ah.trans (A.mono (by have:=ai.out;omega)));clear A;exact D6
 .have ax:((R:Int)==0)=false:=wL
  have HE:jW (G=decide (6000<U)):=jH (by rw[ag.out];simp[C]);clear C;go_wp2_with fail;refine(Q _ V).mono ?_;rintro e w2 ⟨rfl,A⟩;have HB2:=jH (ah.trans (A.mono (by have:=ai.out;omega)));have az:=(A.cell (p:=⟨g,0,none⟩) hlt).trans c0;have aA:=(A.cell (p:=⟨g,1,none⟩) hlt).trans c1;have aB:=(A.cell (p:=⟨g,2,none⟩) hlt).trans c2;have aj:=jH (Shape.nX.below V A);have ak:g<=w2.heap.size:=by have:=A.size;omega
  clear A;have aD:(U<6001\/6000<U):=nK;by_cases ay:6000<U
  all_goals
   go_wp2_with fail;refine(aa _ aj).mono ?_;rintro e w3 ⟨rfl,J⟩;have au:=jH (HB2.trans (J.mono ak));clear J;go_wp2_with fail;go_returns;refine⟨?_,au.out⟩;rw[HE.out];have av:decide ((6000:Int)<(U:Int))=decide (6000<U):=by rw[decide_eq_decide];omega
   first|rfl|(rw[<-av];done)|(simp[ay];omega)
theorem QV(x:nL IL)(w:jJ)(v:jP)(E:pM w v x.sub)(N:qZ x=false):
  jV jI 161 #[nC #[ny (txt x.lab),nA x.lab.list,v]] w λe w'=>e=nE (nD #[ny ⟨#[]⟩,ng nH 1])/\jS w.heap.size w w':=by
 have I:=jH (rU (T:=txt x.lab) (l:=x.lab.list) (t:=IT) E);obtain⟨oa,cap,rfl,J,O⟩:=nV.slice E;obtain⟨g,hg⟩:=nT w.heap.size;have Q:=jH (λ(W:jJ) (h:pM W (nk oa x.sub.length cap) x.sub)=>Gq x W _ h);rw[N]at Q;rw[hg]at I⊢;clear E J O N;generalize x.sub.length=M at*;go_in;go_upto_region 1 with fail;generalize w.alloc (nG #[ny (txt x.lab),nA x.lab.list,nk oa M cap] IT)=w1 at*;obtain⟨A,ht1,hsz,c0,c1,c2,_⟩:=I.out _ rfl;have V:=jH ht1;have Y:=jH A;have Z:w1.heap.size=g+1:=hsz;clear I ht1 A hsz;go_wp2_with fail;refine(Q _ V).mono ?_;rintro e w2 ⟨rfl,C⟩;have U:=jH (Y.trans (C.mono (show g<=w1.heap.size by omega)));clear C;go_wp2_with fail;go_returns;exact⟨rfl,U.out⟩
def a4E(x:nL IL):jP:=if qZ x then nD #[ny ⟨(enc x).toArray⟩,ng nH 0]else nD #[ny ⟨#[]⟩,ng nH 1]
theorem a2a(x:nL IL)(w:jJ)(v:jP)(C:pM w v x.sub)(E:x.lab.text.length<=j5)(I:qZ x=true->(enc x).length<=100000):
  jV jI 161 #[nC #[ny (txt x.lab),nA x.lab.list,v]] w λe w'=>e=nE (a4E x)/\jS w.heap.size w w':=by
 unfold a4E;cases A:qZ x with
 |true=>rw[if_pos rfl];exact QU x w v C E A (I A)
 |false=>rw[if_neg nR];exact QV x w v C A
end
section
open Go.RowKit Go.Maps
def rJ(c:oK)(t:nL TL)(x:nL IL):ByteArray×Int:=if c.fmt=1 then Ae t x c.oZ else(if xM t x c.dep c.oZ=0 then BV x else⟨#[]⟩,xM t x c.dep c.oZ)
def Em(c:oK)(L:List Row)(nm:ByteArray)(x:nL IL):vS×Nat:=match L.find? λr=>decide (r.name=nm)with
 |none=>yY c none ⟨#[]⟩ 0
 |some r=>yY c (some r) (rJ c r.ty x).1 (rJ c r.ty x).2.toNat
def uD(c:oK)(L:List Row)(nm:ByteArray)(x:nL IL):ByteArray×Int:=Bl (Em c L nm x).2 (Dr c (Em c L nm x).1).1 (Dr c (Em c L nm x).1).2
theorem Oy(t:nL TL)(x:nL IL):0<=ru t x:=by unfold ru;split;split;all_goals decide
theorem ZC(x:nL IL)(a b:Int):0<=zN x a b:=by
 unfold zN;split
 .split
  .decide
  .split<;>decide
 .decide
theorem Oz(c:oK)(t:nL TL)(x:nL IL):0<=(rJ c t x).2:=by
 unfold rJ;split
 .unfold Ae
  split
  .split
   .split
    .exact(by decide:(0:Int)<=4)
    .exact Int.le_refl _
   .exact Oy t x
  .exact(by decide:(0:Int)<=1)
 .show 0<=xM t x c.dep c.oZ
  unfold xM LF;split;.exact Oy t x
  .split
   .exact ZC x _ _
   .split<;>decide
theorem QW(t:nL TL)(x:nL IL)(n:Int):(Ae t x n).1.size<=80000000:=by
 unfold Ae;split
 .split
  .rename_i h
   split;.exact kI _
   .have A:=Ic h
    have C:=LD x t (CK A.1) A.2.2;have E:x.count<=1024:=by
     have:=A.2.1;unfold qZ at this;simp only[j3,decide_eq_true_eq]at this;exact this.2
    show(⟨(Dv x t).toArray⟩:ByteArray).size<=_;rw[size_mk];omega
  .exact kI _
 .exact kI _
theorem Vr(x:nL IL)(h:qZ x=true->(enc x).length<=100000):(BV x).size<=100000:=by
 unfold BV;split;.rename_i A;rw[size_mk];exact h A
 .exact kI _
theorem QX(c:oK)(t:nL TL)(x:nL IL)(h:qZ x=true->(enc x).length<=100000):(rJ c t x).1.size<=80000000:=by
 unfold rJ;split;.exact QW t x _
 .show ByteArray.size (if _ then _ else _)<=_
  split;.have:=Vr x h;omega
  .exact kI _
theorem a2b(c:oK)(o:Option Row)(T:ByteArray)(er:Nat)(A:T.size<=1000000000)(ho:∀r,o=some r->r.id<18446744073709551616/\r.name.size<=j5):
  (yY c o T er).1.id<18446744073709551616/\(yY c o T er).1.name.size<=j5/\(yY c o T er).1.body.size<=1000000000:=by
 cases o with
 |none=>exact⟨(by decide:0<18446744073709551616),kI _,kI _⟩
 |some r=>
  obtain⟨C,E⟩:=ho r rfl;unfold yY;dsimp only;split;.exact⟨(by decide:0<18446744073709551616),kI _,kI _⟩
  .split
   .exact⟨(by decide:0<18446744073709551616),E,A⟩
   .exact⟨C,kI _,A⟩
theorem ZE(L:List oV)(nm:ByteArray):((L.map λx=>x.r).find? λr=>decide (r.name=nm))=(L.find? λx=>decide (x.r.name=nm)).map λx=>x.r:=by
 rw[List.find?_map];rfl
theorem a2c(c:oK)(t:nL TL)(x:nL IL)(ot oi:Option l5)(ct ci:Nat)(w:jJ)(J:oL w (nk ot t.sub.length ct) t.sub)(N:pM w (nk oi x.sub.length ci) x.sub)(C:x.lab.text.length<=j5)(Z:qZ x=true->(enc x).length<=100000)(O:qo w)(Q:xm w):
  jV jI (Bi c) #[nC #[ng nH c.dep,ng nH c.oZ],nC #[ng nH t.lab.kind,ng nH t.lab.size,nk ot t.sub.length ct,ng nH t.lab.tail],nC #[ny (txt x.lab),nA x.lab.list,nk oi x.sub.length ci]] w (pR (rJ c t x).1 (rJ c t x).2 w):=by
 have U:=O.lt;have V:=Q.lt;have key:∀W,jS w.heap.size w W->oL W (nk ot t.sub.length ct) t.sub/\pM W (nk oi x.sub.length ci) x.sub/\qo W/\xm W:=λW h=>⟨Shape.nX.below J h,Shape.nX.below N h,O.below h U,Q.below h V⟩
 unfold Bi rJ;by_cases E:c.fmt=1
 .rw[if_pos E,if_pos E]
  exact I1 _ _ _ _ _ _ _ _ _ _ _ _ _ _ _ w λW A=>a13 t x c.oZ W ot oi ct ci (key W A).1 (key W A).2.1 C (key W A).2.2.1 (key W A).2.2.2
 .rw[if_neg E,if_neg E]
  refine N8 _ _ _ _ _ _ _ _ _ _ _ _ _ _ _ w λW A=> ?_
  refine Zu t x W _ _ (key W A).1 (key W A).2.1 C (λaa Y=> ?_) (key W A).2.2.1 c.dep c.oZ;have h:=a2a x aa _ (Shape.nX.below (key W A).2.1 Y) C Z;unfold a4E at h;unfold BV LF;split;.rename_i I;rw[if_pos I]at h;exact h
  .rename_i I;rw[if_neg I]at h;exact h
theorem Ij(G sb r bn bi:Nat)(c:oK)(L:List oV)(buf:List UInt8)(nd fa:Int)(nm:ByteArray)(x:nL IL)(oi:Option l5)(ci:Nat)(w:jJ)(hc:oM c=true)(V:c.wf)(hs:xI w G r sb buf nd fa)(hlt:G<=sb/\G<=w.heap.size)(A:∀W,jS G w W->qp r bn bi c L W/\qo W/\xm W)(hid:∀y,y∈L->y.r.id<18446744073709551616)(hn:nm.size<=j5)(Y:pM w (nk oi x.sub.length ci) x.sub)(Z:x.lab.text.length<=j5)(aa:qZ x=true->(enc x).length<=100000):
  jV jI 15 #[nz (some ⟨sb,0,none⟩),nC #[ny nm,ny (txt x.lab),nA x.lab.list,nk oi x.sub.length ci]] w λe w'=>e=nE (nD #[ny (uD c (L.map λy=>y.r) nm x).1,ng nH (uD c (L.map λy=>y.r) nm x).2])/\xI w' G r sb buf nd fa/\jS G w w':=by
 have N:∀W,jS w.heap.size w W->jS G w W:=λW h=>h.mono hlt.2
 have O:=(A w (jT G w)).1.may;obtain⟨o,ho⟩:=nT ((L.find? λy=>decide (y.r.name=nm)));have I:∀y,o=some y->y∈L:=λy C=>by rw[C]at ho;exact List.mem_of_find?_eq_some ho
 obtain⟨T,er,ae⟩:∃(T:ByteArray) (er:Nat),Em c (L.map λy=>y.r) nm x=yY c (o.map λy=>y.r) T er/\T.size<=1000000000/\∀y,o=some y->T=(rJ c y.r.ty x).1/\(er:Int)=(rJ c y.r.ty x).2:=by
  unfold Em;rw[ZE,ho];cases o with
  |none=>exact⟨⟨#[]⟩,0,rfl,kI _,λy h=>by cases h⟩
  |some y=>exact⟨_,_,rfl,kg (QX c y.r.ty x aa) nN,λz h=>by cases h;exact⟨rfl,mZ (Oz c y.r.ty x)⟩⟩
 obtain⟨ak,af,au⟩:=ae;have hF:=a2b c (o.map λy=>y.r) T er af λr av=>by
  obtain⟨y,C,rfl⟩:=Option.map_eq_some_iff.1 av;have:=(O y (I y C)).2.2;exact⟨hid y (I y C),zg⟩
 have henc:∀W,jS w.heap.size w W->_:=λW J=>QB r bn bi c L nm (txt x.lab) x.lab.list oi x.sub.length ci T er W (A W (N W J)).1 hn λy C Q ag=>by
  rw[ho]at C;obtain⟨ax,ay⟩:=au y C;have hb:=J.trans (ag.mono J.size);have U:=A Q (N Q hb);have ah:=a2c c y.r.ty x y.ou oi y.cu ci Q (U.1.sub y (I y C)) (Shape.nX.below Y hb) Z aa U.2.1 U.2.2;rw[<-ax,<-ay]at ah;exact ah
 rw[ho]at henc;rw[<-ak]at henc hF;unfold uD;obtain⟨E,ai⟩:=nT (Em c (L.map λy=>y.r) nm x);rw[ai]at henc hF⊢;obtain⟨F,aj⟩:=E;exact YW G sb r bn bi c L buf nd fa nm (txt x.lab) x.lab.list oi x.sub.length ci F aj _ _ w hs hlt (λW J=>(A W J).1) henc λ_ W _=>Zm c F W hc V hF.1 hF.2.1 hF.2.2
end
section
open Go.RowKit
mutual
theorem same_eq:∀ x y:nL IL,x.same Gg y=true->x=y
 | .node a s,.node b t,h=>by
  rw[Gl,j3]at h;have C:=OA s t h.2;obtain⟨tx,li⟩:=a;obtain⟨E,I⟩:=b;have A:=h.1;simp[Gg]at A;obtain⟨J,N⟩:=A;subst C
  simp_all
theorem OA:∀(s t:List (nL IL)),nL.rT Gg s t=true->s=t
 |[],[],_=>rfl
 |[],_::_,h=>by simp[nL.rT]at h
 |_::_,[],h=>by simp[nL.rT]at h
 |x::s,y::t,h=>by
  simp only[nL.rT,j3]at h;rw[same_eq x y h.1,OA s t h.2]
end
theorem OB{e1 e2:Int}{T:ByteArray}(h:(Bl e1 T e2).2=0):e1=0/\e2=0/\(Bl e1 T e2).1=T:=by
 unfold Bl at h⊢;by_cases A:e1=0
 .rw[if_neg (not_not_intro A)]at h⊢
  by_cases C:e2=0;.rw[if_neg (not_not_intro C)];exact⟨A,C,rfl⟩
  .rw[if_pos C]at h;exact absurd h C
 .rw[if_pos A]at h;exact absurd h A
theorem OC{F:vS}(h:(Dr c F).2=0):(vX c F).2=0/\(Dr c F).1=(vX c F).1:=by
 unfold Dr Dp at h⊢;by_cases C:Vh c F=false;.rw[if_pos C]at h;cases h
 rw[if_neg C]at h⊢;by_cases A:(vX c F).2=0
 .rw[if_neg (not_not_intro A)]at h⊢
  split at h;.cases h
  .rename_i E;rw[if_neg E];exact⟨A,rfl⟩
 .rw[if_pos A]at h;exact absurd h A
theorem Tn{nm:ByteArray}(h:(Em c L nm x).2=0):∃r,r∈L/\r.name=nm/\(rJ c r.ty x).2=0/\(Em c L nm x).1=if c.fmt=1 then⟨0,nm,(rJ c r.ty x).1⟩else⟨r.id,⟨#[]⟩,(rJ c r.ty x).1⟩:=by
 unfold Em at h⊢;split at h;.cases h
 .rename_i r C
  have hn:=List.find?_some C;simp only[decide_eq_true_eq]at hn;have E:=Oz c r.ty x;by_cases A:(rJ c r.ty x).2.toNat=0
  .refine⟨r,List.mem_of_find?_eq_some C,hn,nK,?_⟩
   unfold yY;dsimp only;rw[if_neg (not_not_intro A),<-hn];split<;>rfl
  .unfold yY at h
   dsimp only at h;rw[if_pos A]at h;exact absurd h A
theorem Vs{b:UInt8}(h:vZ b=true):(b !=0)=true:=by
 rw[bne_iff_ne];rintro rfl;exact absurd h nN
theorem Vt{a:ByteArray}(A:qX a.data.toList=true)(hb:qX b.data.toList=true)(h:uU a=uU b):a=b:=by
 have key:∀s:ByteArray,qX s.data.toList=true->(uU s).filter (λb=>b !=0)=s.data.toList:=λs hs=>by
  simp only[qX,j3]at hs;rw[uU,List.filter_append,List.filter_eq_self.2 (λb hb=>Vs (lY.1 hs.2 b hb)),List.filter_replicate];simp
 have:=(key a A).symm.trans ((congrArg _ h).trans (key b hb));exact ByteArray.ext (Array.ext' this)
theorem JR{m:Nat}{nm:ByteArray}(h:(uf m nm b).2=0):qX nm.data.toList=true/\(uf m nm b).1=⟨(Bn m nm b).toArray⟩:=by
 unfold uf at h⊢;by_cases A:qX nm.data.toList=true
 .rw[if_pos A]at h⊢
  by_cases C:b.size<=65536;.rw[if_pos C];exact⟨A,rfl⟩
  .rw[if_neg C]at h;cases h
 .rw[if_neg A]at h;cases h
theorem y7{id:Nat}(h:(qw id b).2=0):(nZ id).length+b.size<=65536/\(qw id b).1=xP id b:=by
 unfold qw at h⊢;by_cases A:(nZ id).length+b.size<=65536;.rw[if_pos A];exact⟨A,rfl⟩
 .rw[if_neg A]at h;cases h
theorem OD{i k:Nat}{a:ByteArray}(hi:i<18446744073709551616)(hk:k<18446744073709551616)(E:(nZ i).length+a.size<=65536)(hb:(nZ k).length+b.size<=65536)(h:xP i a=xP k b):i=k/\a=b:=by
 have A:=I9 65536 i a ⟨#[]⟩ hi nK nK;have C:=I9 65536 k b ⟨#[]⟩ hk nK nK;rw[h,C]at A;injection A with e1 e2
 exact⟨e1.symm,e2.symm⟩
theorem Vu{m:Nat}{a x y:ByteArray}(A:qX a.data.toList=true)(hb:qX b.data.toList=true)(h:Bn m a x=Bn m b y):a=b:=by
 unfold Bn at h;simp only[lD]at h;have C:=List.append_cancel_left h;exact Vt A hb (List.append_inj_left C (by rw[uQ a (yE A).2,uQ b (yE hb).2]))
theorem OE{t:nL TL}{d m:Int}(h:xM t x d m=0):qZ x=true:=by
 unfold xM at h;by_cases A:ru t x=0;.exact(Ic A).2.1
 .rw[if_pos A]at h;exact absurd h A
theorem a2d(A:qZ x=true)(C:qZ y=true)(O:(enc x).length<=100000)(ly:(enc y).length<=100000)(h:enc x=enc y):x=y:=by
 have p:∀{x:nL IL},qZ x=true->x.all qb=true/\x.deep<=16/\x.count<=1024:=λ{x} h=>by
  unfold qZ at h;simp only[j3,decide_eq_true_eq]at h;exact⟨h.1.1,h.1.2,h.2⟩
 have E:=RH 16 x 1024 [] (p A).1 nK (p A).2.1 (p A).2.2;have I:=RH 16 y 1024 [] (p C).1 nK (p C).2.1 (p C).2.2;rw[h,I]at E;injection E with J
 injection J with N _
 exact N.symm
theorem ZF:∀{L:List Row}{r s:Row},(L.map λr=>r.id).Nodup->r∈L->s∈L->r.id=s.id->r=s
 |x::L,r,s,h,E,hs,he=>by
  simp only[mH,List.nodup_cons,List.mem_map,not_exists,not_and]at h;rcases mD.1 E with C|C
  .rcases mD.1 hs with A|A
   .rw[C,A]
   .exact absurd (he.symm.trans (congrArg _ C)) (h.1 s A)
  .rcases mD.1 hs with A|A
   .exact absurd (he.trans (congrArg _ A)) (h.1 r C)
   .exact ZF h.2 C A he
theorem ZG{n1 n2:ByteArray}(Z:(L.map λr=>r.id).Nodup)(hid:∀r,r∈L->r.id<18446744073709551616)(hc:oM c=true)(aa:qZ x=true->(enc x).length<=100000)(ae:qZ y=true->(enc y).length<=100000)(af:(uD c L n1 x).2=0)(ag:(uD c L n2 y).2=0)(h:(uD c L n1 x).1=(uD c L n2 y).1):n1=n2/\(c.fmt=1\/x=y):=by
 obtain⟨ah,a2,a3⟩:=OB af;obtain⟨b1,ai,b3⟩:=OB ag;obtain⟨r,O,U,A,e1⟩:=Tn (by exact_mod_cast ah);obtain⟨s,hs,V,C,e2⟩:=Tn (by exact_mod_cast b1);obtain⟨a4,a5⟩:=OC a2;obtain⟨b4,aj⟩:=OC ai;have he:(vX c (Em c L n1 x).1).1=(vX c (Em c L n2 y).1).1:=by rw[<-a5,<-aj,<-a3,<-b3];exact h
 rw[e1]at a4 he;rw[e2]at b4 he;by_cases f1:c.fmt=1
 .rw[if_pos f1]at a4 b4 he
  rw[if_pos f1]at he;unfold vX at a4 b4 he;rw[if_pos f1]at a4 b4 he;rw[if_pos f1]at he;obtain⟨E,I⟩:=JR a4;obtain⟨J,N⟩:=JR b4;rw[I,N]at he;have:=congrArg (λb:ByteArray=>b.data.toList) he;simp only[List.toList_toArray]at this;exact⟨Vu E J this,.inl f1⟩
 .rw[if_neg f1]at a4 b4 he
  rw[if_neg f1]at he;have key:r.id=s.id/\(rJ c r.ty x).1=(rJ c s.ty y).1:=by
   unfold vX at a4 b4 he;rw[if_neg f1]at a4 b4 he;rw[if_neg f1]at he;by_cases f2:c.fmt=2
   .rw[if_pos f2]at a4 b4 he
    rw[if_pos f2]at he;obtain⟨E,I⟩:=y7 a4;obtain⟨J,N⟩:=y7 b4;rw[I,N]at he;exact OD (hid r O) (hid s hs) E J he
   .rw[if_neg f2]at a4 b4 he
    rw[if_neg f2]at he;dsimp only at a4 b4 he;have au:=(qH hc).2.2.1;by_cases u1:c.qj<((rJ c r.ty x).1.size:Int);.rw[if_pos u1]at a4;cases a4
    by_cases u2:c.qj<((rJ c s.ty y).1.size:Int);.rw[if_pos u2]at b4;cases b4
    rw[if_neg u1]at a4 he;rw[if_neg u2]at b4 he;obtain⟨E,I⟩:=y7 a4;obtain⟨J,N⟩:=y7 b4;rw[I,N]at he;obtain⟨ak,g2⟩:=OD (hid r O) (hid s hs) E J he;refine⟨ak,?_⟩;have g3:tF (rJ c r.ty x).1.data.toList=tF (rJ c s.ty y).1.data.toList:=by
     have:=congrArg (λb:ByteArray=>b.data.toList) g2;simpa [xL]using this
    exact ByteArray.ext (Array.ext' (pack_inj nQ nQ g3))
  have Y:r=s:=by
   exact ZF Z O hs key.1
  subst Y;refine⟨U.symm.trans V,.inr ?_⟩;have hk:=key.2;unfold rJ at A C hk;rw[if_neg f1]at A C hk;rw[if_neg f1]at hk;dsimp only at A C hk;rw[if_pos A,if_pos C]at hk;have Q:=OE A;have m2:=OE C;unfold BV at hk;rw[if_pos Q,if_pos m2]at hk;have:=congrArg (λb:ByteArray=>b.data.toList) hk;simp only[List.toList_toArray]at this;exact a2d Q m2 (aa Q) (ae m2) this
def cA:oK:=⟨3,0,50,50,2,9⟩
def wm:ByteArray:=⟨#[112,105,110,103]⟩
def u8A:ByteArray:=⟨#[117,56]⟩
def eA:xG:=⟨5,wm,u8A⟩
def tyA:nL TL:=.node ⟨1,1,0⟩ []
def AV:Row:=⟨5,wm,u8A,tyA⟩
def xA:nL IL:=.node ⟨[7],false⟩ []
def xN:ByteArray:=⟨#[4,5,1,0,7]⟩
theorem b29:vo cA [eA]=.ok [AV]:=by rfl
theorem a6Y:xM tyA xA 2 9=0:=by rfl
theorem b3a:BV xA=⟨#[7]⟩:=by rfl
theorem a6Z:xP 5 ⟨#[1,0,7]⟩=xN:=by
 unfold xP;rw[qM 5 nN];show(⟨(nZ 4).toArray⟩:ByteArray)++_++_=_;rw[qM 4 nN];rfl
theorem a7a:(UD (vN 50 50 xN none).1).e=0:=by rfl
theorem a7b(mb:Nat):∃nd,Bj cA [AV] mb [] 0 0 xN=([⟨wm,xA⟩],[],nd,0):=⟨_,by rfl⟩
theorem QY(w:jJ):pM w (nk none 0 0) []:=⟨none,0,rfl,jL _,kI _,λh=>absurd h nR⟩
theorem wfA:cA.wf:=⟨rfl,rfl,rfl,rfl,rfl,rfl⟩
theorem ZH:oM cA=true:=by rfl
theorem a4F:([AV]:List Row).find? (λr=>decide (r.name=wm))=some AV:=by simp[AV]
theorem b3b:rJ cA tyA xA=(⟨#[7]⟩,0):=by
 unfold rJ;rw[if_neg nN,show xM tyA xA cA.dep cA.oZ=0 from a6Y,if_pos rfl,b3a]
theorem a4G:xL ⟨#[7]⟩=⟨#[1,0,7]⟩:=by
 have h:rX [7] 1 (uC [7])=⟨1,0,nZ 1,[]⟩:=rfl;show(⟨((rX [7] 1 (uC [7])).out++xx (([7]:List UInt8).drop (rX [7] 1 (uC [7])).pend)).toArray⟩:ByteArray)=_;rw[h,qM 1 nN];rfl
theorem a7c:uD cA [AV] wm xA=(xN,0):=by
 have he:Em cA [AV] wm xA=(⟨5,⟨#[]⟩,⟨#[7]⟩⟩,0):=by
  unfold Em;rw[a4F];show yY cA (some AV) (rJ cA tyA xA).1 (rJ cA tyA xA).2.toNat=_;rw[b3b];rfl
 have hp:vX cA ⟨5,⟨#[]⟩,⟨#[7]⟩⟩=(xN,0):=by
  unfold vX;rw[if_neg nN,if_neg nN,if_neg nN];show qw 5 (xL ⟨#[7]⟩)=_;rw[a4G];unfold qw;rw[if_pos (by rw[qM 5 nN];decide),a6Z]
 have A:Dr cA ⟨5,⟨#[]⟩,⟨#[7]⟩⟩=(xN,0):=by
  unfold Dr;rw[hp];have hn:(UD (qN cA xN none).1).e=0:=a7a;show Dp _ xN 0 (UD (qN cA xN none).1).e=_;rw[hn];rfl
 unfold uD;rw[he,A];rfl
theorem a4H(G sb r bn bi:Nat)(ou:Option l5)(cu:Nat)(w:jJ)(hs:xI w G r sb [] 0 0)(hlt:G<=sb/\G<=w.heap.size)(A:∀W,jS G w W->qp r bn bi cA [⟨AV,ou,cu⟩] W/\qo W/\xm W):
  jV jI 15 #[nz (some ⟨sb,0,none⟩),nC #[ny wm,ny ⟨#[7]⟩,nA false,nk none 0 0]] w λe w'=>e=nE (nD #[ny xN,ng nH 0])/\xI w' G r sb [] 0 0/\jS G w w':=by
 have h:=Ij G sb r bn bi cA [⟨AV,ou,cu⟩] [] 0 0 wm xA none 0 w ZH wfA hs hlt A (λy C=>by simp at C;subst C;show(5:Nat)<_;decide) nN (QY w) nN (λ_=>by decide);have E:uD cA (([⟨AV,ou,cu⟩]:List oV).map λy=>y.r) wm xA=(xN,0):=a7c;rw[E]at h;exact h
theorem Vv(w:jJ)(aj:qo w)(ak:xm w):jV jI 8 #[] w λe w'=>e=nE (nA true)/\jS w.heap.size w w':=by
 obtain⟨g,hg⟩:=nT w.heap.size;have au:jW (∀W,w.alloc (nG #[ng nI 5,ny wm,ny u8A] 67)=W->IA W (nk (some ⟨g,0,none⟩) 1 1) [eA]/\jS g w W/\W.heap.size=g+1):=jH λW aF=>by
  subst aF;have hb:=nO.new w #[ng nI 5,ny wm,ny u8A] 67;rw[hg]at hb;refine⟨⟨some ⟨g,0,none⟩,1,rfl,jL _,nN,λi e he=> ?_⟩,hg▸(jT w.heap.size w).alloc (jL _) _,by simp[hg]⟩;have hi:i=0:=by
   have:=(ll.1 he).1;simpa using this
  subst hi;simp at he;subst he;exact⟨g,0,rfl,by simp[hg],hb.cell 0,hb.cell 1,hb.cell 2⟩
 have V:1<g:=hg▸aj.lt;have Y:0<g:=hg▸ak.lt;have I:jW (∀W,jS g w W->qo W/\xm W):=jH λW h=>⟨aj.below h V,ak.below h Y⟩
 have ay:jW (∀W,IA W (nk (some ⟨g,0,none⟩) 1 1) [eA]->qo W->jV jI 27 #[nC #[ng nH 3,ng nJ 0,ng nH 50,ng nH 50,ng nH 2,ng nH 9],nk (some ⟨g,0,none⟩) 1 1] W (Aa cA [eA] W)):=jH λW av E=>
  SS cA [eA] _ W av (λe he=>by simp at he;subst he;exact⟨nN,nN,nN⟩) E
 have aK:jW (wm=⟨#[112,105,110,103]⟩/\u8A=⟨#[117,56]⟩):=jH ⟨rfl,rfl⟩
 have az:jW (∀G sb r bn bi ou cu w,xI w G r sb [] 0 0->G<=sb/\G<=w.heap.size->(∀W,jS G w W->qp r bn bi cA [⟨AV,ou,cu⟩] W/\qo W/\xm W)->
   jV jI 15 #[nz (some ⟨sb,0,none⟩),nC #[ny ⟨#[112,105,110,103]⟩,ny ⟨#[7]⟩,nA false,nk none 0 0]] w λe w'=>e=nE (nD #[ny xN,ng nH 0])/\xI w' G r sb [] 0 0/\jS G w w'):=jH λG sb r bn bi ou cu w av E ax=>a4H G sb r bn bi ou cu w av E ax
 have aL:g<=w.heap.size:=nK;clear aj ak V Y;unfold wm u8A at au;go_in;go_wp2_with fail;obtain⟨Z,J,aM⟩:=au.out _ rfl;have aa:=(I _ J).1;have ae:=jH (ay _ Z aa);generalize w.alloc _=w1 at*;refine ae.mono ?_;rintro e w2 ⟨af,E⟩;rw[b29]at E;obtain⟨G,sb,r,bn,bi,L,rfl,hL,aA,hl,N⟩:=E;obtain⟨ou,cu,rfl⟩:∃ou cu,L=[⟨AV,ou,cu⟩]:=by
  cases L with
  |nil=>simp at hL
  |cons aG L=>
   cases L with
   |nil=>
    obtain⟨r0,ou,cu⟩:=aG;simp at hL;subst hL;exact⟨ou,cu,rfl⟩
   |cons _ _=>simp at hL
 have ag:jW (jS g w w2):=jH (J.trans (af.mono nK));have O:jW (∀W,jS G w2 W->qp r bn bi cA [⟨AV,ou,cu⟩] W/\qo W/\xm W):=jH λW h=>by
  have ax:jS g w W:=ag.trans (h.mono nK);exact⟨N W h,I W ax⟩
 have Q:jW (G<=sb/\G<=w2.heap.size/\g<=G):=jH nK;have ah:=jH (az G sb r bn bi ou cu w2 aA ⟨Q.1,Q.2.1⟩ (λW h=>O.out W h));clear J af hL aA hl N Z aa ay ae az au;go_wp2_with fail;refine ah.mono ?_;rintro e w3 ⟨rfl,ai,A⟩;have aB:jW (jS G w2 w3):=jH A;have aC:=jH (YT G sb r bn bi cA [⟨AV,ou,cu⟩] [] 0 0 xN w3 ZH wfA ai ⟨Q.1,by have:=A.size;have:=Q.out;omega⟩ nN (λW h=>O.out W (A.trans h)));clear ai A ah;go_wp2_with fail;refine aC.mono ?_;rintro e w4 ⟨mb,lv,Lm,rfl,hF⟩;have hF:N9 cA [AV] G r sb mb [] 0 0 xN w3 lv Lm w4:=hF;obtain⟨nd,Jp⟩:=a7b mb;obtain⟨f1,f2,f3,f4⟩:=hF;simp only[mH,List.map_nil];rw[Jp]at f2 f3⊢;dsimp only at f2 f3⊢;obtain⟨y,rfl,aD⟩:∃y,Lm=[y]/\y.m=⟨wm,xA⟩:=by
  cases Lm with
  |nil=>simp at f2
  |cons y Lm=>
   cases Lm with
   |nil=>simp at f2;exact⟨y,rfl,f2⟩
   |cons _ _=>simp at f2
 obtain⟨oa,cap,rfl⟩:=f1.slice;obtain⟨b,rfl,_,hlt,_,_,C,_⟩:=pK.at_ f1.1 Sw (i:=0) (y:=y) rfl;have U:=C 0 nN;have aN:w4.cell? ⟨b,0,none⟩=some (ny ⟨#[112,105,110,103]⟩):=by
  have:(mcl y)[0]? =some (ny wm):=by unfold mcl;rw[aD];rfl
  rw[this]at U;have aH:w4.cell? ⟨b,0,none⟩=some (ny wm):=by simpa using U
  exact aH
 have aI:=jH (Li G r sb [] nd 0 w4 f3);have aJ:jW (jS g w w4):=jH (ag.trans ((aB.trans f4).mono (by have:=Q.out;omega)));clear f1 f2 f3 f4 Jp aD hlt C aC U;simp only[kD,List.length_nil];go_wp2_with fail;refine aI.mono ?_;rintro e w5 ⟨rfl,rfl⟩;go_wp2_with fail;try go_returns
 exact⟨rfl,by rw[hg];exact aJ.out⟩
end
end Go.Proofs.YtamfcjmhnndbdaaGreatDoor


