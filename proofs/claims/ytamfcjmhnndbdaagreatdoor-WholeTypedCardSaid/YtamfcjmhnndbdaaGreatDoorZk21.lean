/- Part 21 of the proof. -/
import Derived.Test.YtamfcjmhnndbdaaGreatDoorZk00
import Derived.Test.YtamfcjmhnndbdaaGreatDoorZk09
import Derived.Test.YtamfcjmhnndbdaaGreatDoorZk07
import Derived.Test.YtamfcjmhnndbdaaGreatDoorZk08
import Derived.Test.YtamfcjmhnndbdaaGreatDoorZk18
import Derived.Test.YtamfcjmhnndbdaaGreatDoorZk19
import Derived.Test.YtamfcjmhnndbdaaGreatDoorZk20
import Derived.Test.YtamfcjmhnndbdaaGreatDoorRows
import Derived.LaidMore
import Derived.Stop.Joined
import Derived.Lib.LaidTab
open Go.Value renaming agg→lC,bool→lu,int→lg,pointer→lq,slice→lh,string→ll,tuple→lD,ownBlock→jw,slice→jD
open Go.Obj renaming cells→lG
open Go.IntKind renaming i64→lH,u32→lJ,u64→lI
open Go.Ending renaming returned→lF
open Go.Lib renaming hid→iF
open Go.Proofs.Tryz renaming prog→iG,underlying3→kQ
open Go renaming World→iH,Value→iJ,Calls→iU,maxLen→jb,TypeId→jg,undef→jo,Program→kg,Addr→kr,Oper→kH,wpQuiet_nil→kS
open Nat renaming le_refl→iI,le_trans→je,lt_of_lt_of_le→jq,zero_le→jy,lt_succ_self→jE
open Go.RowKit renaming Below→iK,Hid→iW,intOf→jA
open Go.RowKit.Below renaming refl→iL,heap_setCell→iX
open List renaming setIfInBounds_toArray→iN,set_cons_zero→iR,set_cons_succ→iT,getElem?_eq_getElem→iZ,mem_of_getElem?→jc,take_succ_cons→ji,length_cons→jm,length_append→jv,take_zero→jC,getElem?_eq_some_iff→jH,getD_eq_getElem?_getD→ko,mem_cons→kD,map_cons→kY
open And renaming intro→iQ
open Go.World renaming setCell→jf
open Go.Code renaming region→jJ
open Go.Act renaming put→jZ
open ByteArray renaming empty→kE
open Option.some renaming inj→kK
namespace Go.Proofs.YtamfcjmhnndbdaaGreatDoor
set_option linter.unusedVariables false
set_option linter.unusedSimpArgs false
set_option maxRecDepth 100000
set_option maxHeartbeats 8000000
variable {e:jg}{P:kg}
section
open Go.RowKit
abbrev YD:jg:=244
theorem I4{w w':iH}{B:Nat}{v:iJ}{l:List UInt8}(h:mI w B e v l)(hk:∀b,B<=b->w'.heap[b]? =w.heap[b]?):mI w' B e v l:=by
 refine⟨h.1,?_⟩;rcases h.2 with C|⟨g,cap,A,E,hg,J,r⟩
 .exact .inl C
 .exact .inr ⟨g,cap,A,E,hg,by rw[hk g hg];exact J,r⟩
theorem VO{w:iH}{B:Nat}{v:iJ}{l:List UInt8}(h:mI w B e v l):∃oa n cap,v=lh oa n cap:=by
 rcases h.2 with⟨rfl,h0⟩|⟨g,cap,A,rfl,_⟩
 .exact⟨none,0,0,rfl⟩
 .exact⟨_,_,cap,rfl⟩
theorem I5{t s:jg}(T:oN P t e s){ops:Array kH}{o:kH}{a:Act}{K:Act->iH->Prop}{Q:Exit->Act->iH->Prop}{E:Prop}(C:o.guard=none)(x y:Operand)(ho:o.op=.call {callee:=.builtin .append,args:=#[x,y],argTypes:=#[t,s]})(B:Nat)(v:iJ)(l:List UInt8)(S:ByteArray)(w:iH)(U:a.eval x=v)(A:mI w B e v l)(V:a.eval y=ll S)(hlen:l.length+S.size<=140737488355328)(hB:B<=w.heap.size)(h:∀v' w',mI w' B e v' (l++S.data.toList)->w.grownBy w' v.ownBlock->K (a.put o.dst v') w'):
  if Region.wanted o (yielded ops a.tmps)=true then Oper.wp P o a w K Q else E:=by
 have Y:Region.wanted o (yielded ops a.tmps)=true:=by simp[Region.wanted,C]
 rw[if_pos Y];obtain⟨Z,hi,J,N,O⟩:=info_parts T.hi;obtain⟨v',w',aa,ae,af,_⟩:=Lib.run_append_own_string (P:=P) w B t s o.type e Z T.ht T.hs hi J N O v l.length (l5 l) A S AV lK hB;unfold Oper.wp execOp;simp only[ho,resolve,invoke,builtin,Sem.run_bind,Sem.run_pure,Result.andThen_ok,List.map_toArray,kY,List.map_nil,U,V];rw[aa];refine h v' w' ?_ af;have e1:Lib.strCells S=l5 S.data.toList:=by simp[Lib.strCells,l5]
 show w'.ownsRow B e 1 v' (l++S.data.toList).length (l5 (l++S.data.toList));rw[jv,nQ,<-e1];have e2:S.data.toList.length=S.size:=lU;rw[e2];exact ae
structure P7(w0:iH)(g b:Nat)(it v:iJ)(l:List UInt8)(W:iH):Prop where
 blk:lN W b #[it,v] YD
 own:mI W (b+1) 5 v l
 nV:iK g w0 W
 lt:g<=b
section
variable {w0:iH}{g b:Nat}{it v:iJ}{l:List UInt8}{W W':iH}
theorem P7.below(h:P7 w0 g b it v l W)(hb:iK W.heap.size W W'):P7 w0 g b it v l W':=⟨Below.blk hb h.blk h.blk.lt,h.own.below hb,h.nV.trans (hb.mono (by have:=h.blk.lt;have:=h.lt;omega)),h.lt⟩
end
structure R7(w0:iH)(g b x:Nat)(S:ByteArray)(it:iJ)(d s:Bool)(v:iJ)(W:iH):Prop where
 blk:lN W b #[it,if s=true then v else lh none 0 0] YD
 own:d=true->mI W (b+1) 5 v S.data.toList/\∃o n c,v=lh o n c
 nil:mI W (b+1) 5 (lh none 0 0) []
 ib:lN W x #[ll S,lu false,lh none 0 0] 47
 nV:iK g w0 W
 lt:g<=b/\b<x/\x<W.heap.size
theorem R7.below{w0:iH}{g b x:Nat}{S:ByteArray}{it v:iJ}{d s:Bool}{W A:iH}(h:R7 w0 g b x S it d s v W)(hb:iK W.heap.size W A):R7 w0 g b x S it d s v A:=
 ⟨Below.blk hb h.blk h.blk.lt,λhd=>⟨(h.own hd).1.below hb,(h.own hd).2⟩,h.nil.below hb,Below.blk hb h.ib h.ib.lt,h.nV.trans (hb.mono (by have:=h.lt;omega)),h.lt.1,h.lt.2.1,jq h.lt.2.2 hb.size⟩
section
variable {w0:iH}{g b x:Nat}{S:ByteArray}{it v v2:iJ}{W W2:iH}
theorem R7.grown(h:R7 w0 g b x S it false false v W)(C:mI W2 (b+1) 5 v2 S.data.toList)(A:W.grownBy W2 (jD none 0 0).ownBlock)(E:∃o n c,v2=lh o n c):R7 w0 g b x S it true false v2 W2:=by
 have hk:∀c,c<W.heap.size->W2.heap[c]? =W.heap[c]? :=λc hc=>A.block c hc (by simp[jw])
 have q:=h.below ⟨A.os,A.tape,A.output,A.size,hk⟩;exact⟨q.blk,λ_=>⟨C,E⟩,q.nil,q.ib,q.nV,q.lt⟩
theorem R7.put(h:R7 w0 g b x S it true false v W):R7 w0 g b x S it true true v (W.setCell ⟨b,1,none⟩ v):=by
 have hl:=h.lt;obtain⟨ho,A⟩:=h.own rfl;have hk:∀c,b+1<=c->(W.setCell ⟨b,1,none⟩ v).heap[c]? =W.heap[c]? :=λc hB=>iX _ _ _ _ (λe=>by simp only at e;omega)
 exact⟨by rw[if_pos rfl];exact h.blk.set 1 v,λ_=>⟨I4 ho hk,A⟩,I4 h.nil hk,h.ib.setOther (a:=⟨b,1,none⟩) (λe=>by simp only at e;omega) _,h.nV.setCell (p:=⟨b,1,none⟩) hl.1 _,hl.1,hl.2.1,by simpa [jf]using hl.2.2⟩
end
def I6:List kH:=[⟨some 106,.move (.tmp 6),246,"rlp.go:56",#[],none⟩,⟨some 107,.move (.tmp 6),246,"rlp.go:56",#[],none⟩,⟨some 108,.nilCheck (.tmp 107),0,"rlp.go:56",#[⟨1,.data⟩],none⟩,⟨some 109,.fieldAddr 244 (.tmp 108) 1,0,"rlp.go:56",#[⟨2,.data⟩],none⟩,⟨some 110,.load 86 (.tmp 109),86,"rlp.go:56",#[⟨3,.data⟩],none⟩,⟨some 111,.fieldAddr 47 (.tmp 8) 0,0,"rlp.go:56",#[],none⟩,⟨some 112,.load 9 (.tmp 111),9,"rlp.go:56",#[⟨5,.data⟩],none⟩,⟨some 113,.call {callee:=.builtin .append,args:=#[.tmp 110,.tmp 112],argTypes:=#[86,9]},86,"rlp.go:56",#[⟨4,.data⟩,⟨6,.data⟩],none⟩,⟨some 114,.nilCheck (.tmp 106),0,"rlp.go:56",#[⟨0,.data⟩,⟨0,.phase⟩,⟨1,.phase⟩,⟨2,.phase⟩,⟨3,.phase⟩,⟨4,.phase⟩,⟨5,.phase⟩,⟨6,.phase⟩,⟨7,.phase⟩],none⟩,⟨some 115,.fieldAddr 244 (.tmp 114) 1,0,"rlp.go:56",#[⟨8,.data⟩,⟨0,.phase⟩,⟨1,.phase⟩,⟨2,.phase⟩,⟨3,.phase⟩,⟨4,.phase⟩,⟨5,.phase⟩,⟨6,.phase⟩,⟨7,.phase⟩],none⟩,⟨none,.store 86 (.tmp 115) (.tmp 113),0,"rlp.go:56",#[⟨9,.data⟩,⟨7,.data⟩,⟨7,.chain⟩,⟨0,.phase⟩,⟨1,.phase⟩,⟨2,.phase⟩,⟨3,.phase⟩,⟨4,.phase⟩,⟨5,.phase⟩,⟨6,.phase⟩,⟨7,.phase⟩],none⟩]
section
variable (w0:iH)(g b x:Nat)(S:ByteArray)(it:iJ)
def BJ:Nat->iJ
 |0=> lq (some ⟨b,0,none⟩)
 |1=> lq (some ⟨b,0,none⟩)
 |2=> lq (some ⟨b,0,none⟩)
 |3=> lq (some ⟨b,1,none⟩)
 |4=> lh none 0 0
 |5=> lq (some ⟨x,0,none⟩)
 |6=> ll S
 |8=> lq (some ⟨b,0,none⟩)
 |9=> lq (some ⟨b,1,none⟩)
 |_=>jo
structure a3H(D:Nat->Bool)(vs:Nat->iJ)(w:iH):Prop where
 mh:R7 w0 g b x S it (D 7) (D 10) (vs 7) w
 val:∀j,(j !=7)=true->D j=true->vs j=BJ b x S j
variable {w0 g b x S it}
theorem a0p{id:Nat}{Q:Exit->Act->iH->Prop}{a0:Act}{af:iH}(vT:a0.tmps.getD 6 jo=lq (some ⟨b,0,none⟩))(ht8:a0.tmps.getD 8 jo=lq (some ⟨x,0,none⟩))(hSz:S.size<=1000)(hsz:a0.tmps.size=116)(hI0:∀vs:Nat->iJ,(λw=>R7 w0 g b x S it false false (vs 7) w) af.drew)(ag:∀(vs:Nat->iJ) (w:iH),R7 w0 g b x S it true true (vs 7) w->Q .normal {a0 with tmps:=((((((((((a0.tmps.setIfInBounds 106 (lq (some ⟨b,0,none⟩))).setIfInBounds 107 (lq (some ⟨b,0,none⟩))).setIfInBounds 108 (lq (some ⟨b,0,none⟩))).setIfInBounds 109 (lq (some ⟨b,1,none⟩))).setIfInBounds 110 (lh none 0 0)).setIfInBounds 111 (lq (some ⟨x,0,none⟩))).setIfInBounds 112 (ll S)).setIfInBounds 113 (vs 7)).setIfInBounds 114 (lq (some ⟨b,0,none⟩))).setIfInBounds 115 (lq (some ⟨b,1,none⟩)))} w):
  (jJ id I6.toArray true).wp iG Q a0 af:=by
 refine l6 11 116 (a3H w0 g b x S it) lQ hsz lQ (.inl rfl) lQ ?_ ?_ ?_;.exact oo
 .refine pO λA aj=> ?_
  clear hI0 ag hsz;replace vT:=iF vT;replace ht8:=iF ht8;replace hSz:=iF hSz;unfold I6;simp only[ji,jC,o6];refine⟨?_,?_,?_,?_,?_,?_,?_,?_,?_,?_,?_,trivial⟩<;>(intro D vs a w K hI hd E hw2 C N;subst aj;unfold I6);have ak:=(C 6 lM).trans vT.out;rotate_left;have ak:=(C 6 lM).trans vT.out;rotate_left;have au:=fe C hI.val E 107 1;rotate_left;have av:=fe C hI.val E 108 2;rotate_left
  .have Y:=fe C hI.val E 109 3
   simp only[BJ]at Y;have hs:D 10=false:=hw2 10 lM lQ;have c1:=hI.mh.blk.c1;rw[hs]at c1;go_simp;exact N _ _ _ rfl ⟨hI.mh,ry hI.val⟩
  have aA:=(C 8 lM).trans ht8.out;rotate_left
  .have Z:=fe C hI.val E 111 5
   simp only[BJ]at Z;have c0:=hI.mh.ib.c0;go_simp;exact N _ _ _ rfl ⟨hI.mh,ry hI.val⟩
  .have hSz:=hSz.out
   have O:=fe C hI.val E 110 4;have U:=fe C hI.val E 112 6;simp only[BJ]at O U;have hs:D 10=false:=hw2 10 lM lQ;have J:=hI.mh;rw[hd,hs]at J;refine I5 RD (by rfl) (.tmp 110) (.tmp 112) (by rfl) (b+1) (lh none 0 0) [] S w O J.nil U (by have:=hSz;simp;omega) (by have:=J.lt;omega) ?_;intro v w2 ah ax;refine N _ _ _ rfl ⟨?_,Ko rfl hI.val⟩;rw[l7,lT D (show 10≠7 by decide),nI];rw[hs];exact J.grown ah ax (VO ah)
  have ay:=fe C hI.val E 106 0;rotate_left;have az:=fe C hI.val E 114 8;rotate_left
  .have ai:=E 7 lM lQ
   have V:a.tmps.getD 113 jo=vs 7:=C 113 lM;have aa:=fe C hI.val E 115 9;simp only[BJ]at aa;have J:=hI.mh;rw[hd,ai]at J;obtain⟨ho,aB,sn,aC,ev⟩:=J.own rfl;have V:=V.trans ev;have c1:=J.blk.c1;have f1:=J.blk.free 1;go_simp;refine N jo _ _ rfl ⟨?_,ry hI.val⟩;rw[l7,lT D (show 7≠10 by decide),l8 vs _ (show 7≠10 by decide)];rw[ai,ev];rw[ev]at J;exact J.put
  all_goals
   try simp only[BJ]at*
   go_simp;exact N _ _ _ rfl ⟨hI.mh,ry hI.val⟩
 .intro D vs w ae hI
  have E:=hI.mh;rw[ae 7 lM]at E;rw[ae 10 lM]at E;have q:=ag vs w E;rw[mQ hI.val ae];unfold I6;exact om
end
theorem ET(w:iH):oZ w (lh none 0 0) []:=⟨none,0,rfl,iI _,jy _,λh=>absurd h lU⟩
theorem a3I(S:ByteArray)(A:S.size=1)(W:iH):iU iG 195 #[lC #[ll S,lu false,lh none 0 0]] W λe w'=>e=lF (lu true)/\iK W.heap.size W w':=by
 have h:=J5 (.node ⟨S.data.toList,false⟩ []) W (lh none 0 0) (ET W);have e:txt (⟨S.data.toList,false⟩:IL)=S:=by simp[txt]
 simp only[lL.nk,e]at h;exact h
def Co(b:Nat)(W:iH):Nat:=match W.cell? ⟨b,0,none⟩with|some (lh _ n _)=>n|_=>0
theorem EU{b n c:Nat}{o:Option kr}{v:iJ}{W:iH}(h:lN W b #[lh o n c,v] YD):Co b W=n:=by
 unfold Co;rw[show W.cell? ⟨b,0,none⟩=some (lh o n c)from h.cell 0]
def PL7(w0:iH)(g:Nat)(S:ByteArray)(W:iH):Prop:=
 (P7 w0 g (g+1) (lh (some ⟨g,0,none⟩) 1 1) (lh none 0 0) [] W/\lN W g #[ll S,lu false,lh none 0 0] 47)\/
 ∃o v,P7 w0 g (g+1) (lh o 0 0) v S.data.toList W/\∃q n c,v=lh q n c
theorem a3J{w w3 w4:iH}{S:ByteArray}{g:Nat}(hg:w.heap.size=g)(A:w.alloc (lG #[ll S,lu false,lh none 0 0] IT)=w3)(C:w3.alloc (lG #[lh (some ⟨w.heap.size,0,none⟩) 1 1,lh none 0 0] YD)=w4):PL7 w g S w4/\Co (g+1) w4<=1:=by
 rw[hg]at C;have E:w3.heap.size=g+1:=by rw[<-A];simp;omega
 have b3:iK g w w3:=by rw[<-A,<-hg];exact(iL _ w).alloc (iI _) _
 have b4:iK (g+1) w3 w4:=by rw[<-C,<-E];exact(iL _ w3).alloc (iI _) _
 have N:lN w3 g #[ll S,lu false,lh none 0 0] IT:=by have:=lN.new w #[ll S,lu false,lh none 0 0] IT;rw[A,hg]at this;exact this
 have J:lN w4 (g+1) #[lh (some ⟨g,0,none⟩) 1 1,lh none 0 0] YD:=by have:=lN.new w3 #[lh (some ⟨g,0,none⟩) 1 1,lh none 0 0] YD;rw[C,E]at this;exact this
 exact⟨.inl ⟨⟨J,mI.nil _ _ _,b3.trans (b4.mono lK),lK⟩,Below.blk b4 N lK⟩,by rw[EU J];exact iI _⟩
theorem a3K{w0:iH}{g b:Nat}{it v:iJ}{l:List UInt8}{S:ByteArray}{W A:iH}(h:P7 w0 g b it v l W)(C:W.alloc (lG #[ll S,lu false,lh none 0 0] 47)=A):
  P7 w0 g b it v l A/\lN A W.heap.size #[ll S,lu false,lh none 0 0] 47/\A.heap.size=W.heap.size+1:=by
 subst C;exact⟨h.below ((iL _ _).alloc (iI _) _),lN.new W _ _,lU⟩
section
variable {w0:iH}{g b x:Nat}{it it2 v:iJ}{l:List UInt8}{S:ByteArray}{W:iH}
theorem P7.items(h:P7 w0 g b it v l W):P7 w0 g b it2 v l (W.setCell ⟨b,0,none⟩ it2):=
 ⟨h.blk.set 0 it2,I4 h.own λc hB=>iX _ _ _ _ (λe=>by simp only at e;omega),h.nV.setCell (p:=⟨b,0,none⟩) h.lt _,h.lt⟩
theorem R7.ini(h:P7 w0 g b it (lh none 0 0) [] W)(A:lN W x #[ll S,lu false,lh none 0 0] 47)(C:b<x/\W.heap.size=x+1):R7 w0 g b x S it false false v W.drew:=
 ⟨h.blk,nofun,h.own.drew,A,h.nV.drew,h.lt,C.1,by show _<W.heap.size;omega⟩
theorem R7.fin{o q:Option kr}{n c:Nat}(h:R7 w0 g (g+1) x S (lh o 0 0) true true v W)(A:v=lh q n c):PL7 w0 g S W/\Co (g+1) W=0:=
 ⟨.inr ⟨o,v,⟨h.blk,(h.own rfl).1,h.nV,h.lt.1⟩,q,n,c,A⟩,EU h.blk⟩
end
theorem a1O(S:ByteArray)(V:S.size=1)(E:∀h:0<S.size,S[0].toNat<128)(w:iH):
  iU iG 161 #[lC #[ll S,lu false,lh none 0 0]] w λe w'=>e=lF (lD #[ll S,lg lH 0])/\iK w.heap.size w w':=by
 have J:0<S.size:=lK;have aj:=iF (qD (T:=S) (l:=false) (t:=IT) (ET w));obtain⟨g,hg⟩:=lV w.heap.size;have az:iW (∀W,iU iG 195 #[lC #[ll S,lu false,lh none 0 0]] W λe w'=>e=lF (lu true)/\iK W.heap.size W w'):=iF λW=>a3I S V W
 have ak:((S.size:Int) !=1)=false:=by rw[V];rfl
 have e1:decide (128<=S[0].toNat)=false:=by have:=E J;simpa using this
 have aA:=iF V;have au:=iF (iQ ak (iQ e1 (E J)));rw[hg]at aj⊢;clear V E ak e1;go_in;go_upto_region 1 with fail;generalize w.alloc (lG #[ll S,lu false,lh none 0 0] IT)=w1 at*;obtain⟨Y,_,hsz,c0,c1,c2,_⟩:=aj.out _ rfl;have aN:=iF Y;have aX:w1.heap.size=g+1:=hsz;clear aj Y hsz;go_wp2_with fail;refine(az.out _).mono ?_;rintro e w2 ⟨rfl,C⟩;have aY:=(C.cell (p:=⟨g,0,none⟩) (show g<w1.heap.size by omega)).trans c0;have aZ:=(C.cell (p:=⟨g,1,none⟩) (show g<w1.heap.size by omega)).trans c1;have bg:=(C.cell (p:=⟨g,2,none⟩) (show g<w1.heap.size by omega)).trans c2;have aB:=iF (aN.out.trans (C.mono (show g<=w1.heap.size by omega)));have aC:=iF (show g+1<=w2.heap.size by have:=C.size;omega);clear C az c0 c1 c2;obtain⟨G,av⟩:=lV w2.heap.size;have N:iW (∀w3 w4,w2.alloc (lG #[ll S,lu false,lh none 0 0] IT)=w3->w3.alloc (lG #[lh (some ⟨w2.heap.size,0,none⟩) 1 1,lh none 0 0] YD)=w4->PL7 w2 G S w4/\Co (G+1) w4<=1):=iF λw3 w4 aO aP=>a3J av aO aP
 have aD:=iF av;clear av;go_wp2_with fail;have O:=N.out _ _ rfl rfl;generalize (w2.alloc (lG #[ll S,lu false,lh none 0 0] IT)).alloc (lG #[lh (some ⟨w2.heap.size,0,none⟩) 1 1,lh none 0 0] YD)=w4 at*;have aF:=iF O.1;rw[aD.out];clear O N;go_loopw [5] (λvr ax=>vr=lh (some ⟨G+1,0,none⟩) 1 1/\iW (PL7 w2 G S ax)) (λ_ ax=>Co (G+1) ax);case atStart=>exact⟨rfl,aF⟩
 case round=>
  obtain⟨rfl,aG⟩:=hrel;rcases aG.out with⟨A,hI⟩|⟨o,v,A,q,n,c,rfl⟩
  .have r0:=A.blk.c0
   have r1:=A.blk.c1;have z0:=A.blk.free 0;obtain⟨aQ,aR,aS⟩:=hI.a3;have aH:iW (∀W,wr.alloc (lG #[ll S,lu false,lh none 0 0] 47)=W->_):=iF λW h=>a3K A h
   have aI:G+1<wr.heap.size:=A.blk.lt;have aT:iW (Co (G+1) wr=1):=iF (EU A.blk);clear A hI;go_upto_region 14 with fail;generalize wr.alloc (lG #[ll S,lu false,lh none 0 0] 47)=w5 at*;have aJ:=aH.out _ rfl;obtain⟨Q,Z,aa⟩:=aJ;obtain⟨aU,aV⟩:=Q.blk.b1;have ae:=iF Q;have af:=iF Z;clear Q Z aH r0 r1 z0 aQ aR aS;have U:=P7.items ae.out (it2:=lh (some ⟨G,0,none⟩) 0 0);have ag:iW (lN (w5.setCell ⟨G+1,0,none⟩ (lh (some ⟨G,0,none⟩) 0 0)) wr.heap.size #[ll S,lu false,lh none 0 0] 47):=iF (af.out.setOther (a:=⟨G+1,0,none⟩) (λe=>by simp only at e;omega) _);have aK:=iF U;have ah:(w5.setCell ⟨G+1,0,none⟩ (lh (some ⟨G,0,none⟩) 0 0)).heap.size=wr.heap.size+1:=by simpa [jf]using aa
   clear U;go_upto_region 15 with fail;generalize w5.setCell ⟨G+1,0,none⟩ (lh (some ⟨G,0,none⟩) 0 0)=bq at*;obtain⟨bu,bz,m2⟩:=ag.out.a3;have aL:=iF (iQ aI ah);clear aU aV aa ah ae af;have ak:=au.out.1;have e1:=au.out.2.1;have hb:=au.out.2.2;go_upto_region 19 with fail;refine a0p (w0:=w2) (g:=G) (b:=G+1) (x:=wr.heap.size) (S:=S) (it:=lh (some ⟨G,0,none⟩) 0 0) (vT:=by rfl) (ht8:=by rfl) (hSz:=by have:=aA.out;omega) (hsz:=by rfl) (hI0:=λ_=>R7.ini aK.out ag.out aL.out) ?_;intro vs W ay;simp only[iN,iR,iT];obtain⟨q,n,c,aW⟩:=(ay.own rfl).2;have ai:iW (PL7 w2 G S W/\Co (G+1) W=0):=iF (R7.fin ay aW);clear ay;go_wp2_with fail;go_roundw;case rel=>exact⟨rfl,iF ai.out.1⟩
   case measure=>rw[ai.out.2,aT.out];exact Nat.zero_lt_one
  .obtain⟨r0,r1⟩:=A.blk.a2
   have U:=A.own.string RD;have bA:=iF A.nV;have aM:=iF (aB.out.trans (A.nV.mono (show g<=G by have:=aC.out;have:=aD.out;omega)));clear A aG;go_wp2_with fail;go_returns;exact⟨rfl,aM.out⟩
theorem oh.below{w w':iH}{Q:Nat->Prop}{v:iJ}{L:List Cx}(h:oh w Q v L)(hb:iK w.heap.size w w'):oh w' Q v L:=h.keep hb.size (λc hc _=>hb.block c hc) λ_ _ h=>h
theorem N9(w:iH):oZ w (lh none 0 0) []:=⟨none,0,rfl,iI _,jy _,λh=>absurd h lU⟩
theorem wfA:cA.wf:=⟨rfl,rfl,rfl,rfl,rfl,rfl⟩
theorem VP:mK cA=true:=by rfl
theorem a0q(G sb r bn bi:Nat)(ou:Option kr)(cu:Nat)(w:iH)(hs:tH w G r sb [] 0 0)(hlt:G<=sb/\G<=w.heap.size)(A:∀W,iK G w W->ow r bn bi cA [⟨AQ,ou,cu⟩] W)(Z:∀W,iK G w W->oG W):
  iU iG 15 #[lq (some ⟨sb,0,none⟩),lC #[ll uM,ll ⟨#[7]⟩,lu false,lh none 0 0]] w λe w'=>e=lF (lD #[ll AR,lg lH 0])/\tH w' G r sb [] 0 0/\iK G w w':=by
 have hput:∀W,iK w.heap.size w W->iU iG 37 #[lC #[lg lH cA.fmt,lg lJ cA.mag,lg lH cA.nK,lg lH cA.oF,lg lH cA.dep,lg lH cA.mX],lC #[lg lI (⟨5,⟨#[]⟩,⟨#[7]⟩⟩:uN).id,ll (⟨5,⟨#[]⟩,⟨#[7]⟩⟩:uN).name,ll (⟨5,⟨#[]⟩,⟨#[7]⟩⟩:uN).body]] W (p9 AR 0 W):=λW _=>by
  have h:=Ry cA ⟨5,⟨#[]⟩,⟨#[7]⟩⟩ ⟨#[1,0,7]⟩ W VP wfA rfl rfl lM lM lM (by rw[oP 5 lM];decide) (by rw[VI];decide) (λN _=>a1J▸a1M ⟨#[7]⟩ N lM lM) (by
   rw[VI];intro h0;have:=a1K;rw[show cA.nK=50 from rfl,show cA.oF=50 from rfl]at h0;rw[h0]at this;cases this)
  rw[VI]at h;exact h
 have henc:∀W,iK w.heap.size w W->iU iG 36 #[lq (some ⟨r,0,none⟩),lC #[ll uM,ll ⟨#[7]⟩,lu false,lh none 0 0]] W λe N=>e=lF (lD #[lC #[lg lI (⟨5,⟨#[]⟩,⟨#[7]⟩⟩:uN).id,ll (⟨5,⟨#[]⟩,⟨#[7]⟩⟩:uN).name,ll (⟨5,⟨#[]⟩,⟨#[7]⟩⟩:uN).body],lg lH 0])/\iK W.heap.size W N:=λW aa=>by
  have C:iK G w W:=aa.mono hlt.2;have Q:([⟨AQ,ou,cu⟩]:List mW).find? (λx=>decide (x.r.name=uM))=some ⟨AQ,ou,cu⟩:=by simp[AQ]
  have h:=NU r bn bi cA [⟨AQ,ou,cu⟩] uM ⟨#[7]⟩ false none 0 0 ⟨#[7]⟩ 0 W (A W C) lM (λx U ae J=>by
   rw[Q]at U;cases U;have af:=Lh 1 1 0 ou 0 cu ⟨#[7]⟩ false none 0 0 2 9 ⟨#[7]⟩ 0 ae (λW3 V=>by
    have E:iK G w W3:=C.trans ((J.trans (V.mono J.size)).mono (je hlt.2 C.size));have O:=(A W3 E).sub ⟨AQ,ou,cu⟩ lU;have Y:=VB tyA xA W3 (lh ou 0 cu) (lh none 0 0) O (N9 W3) lM (λag _=>a1O ⟨#[7]⟩ rfl (λ_=>(by decide:(7:UInt8).toNat<128)) ag) (Z W3 E) 2 9;rw[a1I,if_pos rfl,a3F]at Y;exact Y)
   exact af)
  rw[Q]at h;exact h
 exact VH G sb r bn bi cA [⟨AQ,ou,cu⟩] [] 0 0 uM ⟨#[7]⟩ false none 0 0 ⟨5,⟨#[]⟩,⟨#[7]⟩⟩ 0 0 AR w hs hlt A henc (λ_=>hput)
theorem Rz(w:iH)(ak:oG w)(au:yK w):iU iG 8 #[] w λe w'=>e=lF (lu true)/\iK w.heap.size w w':=by
 obtain⟨g,hg⟩:=lV w.heap.size;have av:iW (∀W,w.alloc (lG #[lg lI 5,ll uM,ll u8A] 67)=W->BB W (lh (some ⟨g,0,none⟩) 1 1) [eA]/\iK g w W/\W.heap.size=g+1):=iF λW aH=>by
  subst aH;have hb:=lN.new w #[lg lI 5,ll uM,ll u8A] 67;rw[hg]at hb;refine⟨⟨some ⟨g,0,none⟩,1,rfl,iI _,lM,λi e he=> ?_⟩,hg▸(iL w.heap.size w).alloc (iI _) _,by simp[hg]⟩;have hi:i=0:=by
   have:=(jH.1 he).1;simpa using this
  subst hi;simp at he;subst he;exact⟨g,0,rfl,by simp[hg],hb.cell 0,hb.cell 1,hb.cell 2⟩
 have Y:1<g:=hg▸ak.lt;have Z:0<g:=hg▸au.lt;have N:iW (∀W,iK g w W->oG W/\yK W):=iF λW h=>⟨ak.below h Y,au.below h Z⟩
 have aA:iW (∀W,BB W (lh (some ⟨g,0,none⟩) 1 1) [eA]->oG W->iU iG 27 #[lC #[lg lH 3,lg lJ 0,lg lH 50,lg lH 50,lg lH 2,lg lH 9],lh (some ⟨g,0,none⟩) 1 1] W (x8 cA [eA] W)):=iF λW ax J=>
  PM cA [eA] _ W ax (λe he=>by simp at he;subst he;exact⟨lM,lM,lM⟩) J
 have aL:iW (uM=⟨#[112,105,110,103]⟩/\u8A=⟨#[117,56]⟩):=iF ⟨rfl,rfl⟩
 have aB:iW (∀G sb r bn bi ou cu w,tH w G r sb [] 0 0->G<=sb/\G<=w.heap.size->(∀W,iK G w W->ow r bn bi cA [⟨AQ,ou,cu⟩] W)->(∀W,iK G w W->oG W)->
   iU iG 15 #[lq (some ⟨sb,0,none⟩),lC #[ll ⟨#[112,105,110,103]⟩,ll ⟨#[7]⟩,lu false,lh none 0 0]] w λe w'=>e=lF (lD #[ll AR,lg lH 0])/\tH w' G r sb [] 0 0/\iK G w w'):=iF λG sb r bn bi ou cu w ax J ay az=>a0q G sb r bn bi ou cu w ax J ay az
 have aM:g<=w.heap.size:=lK;clear ak au Y Z;unfold uM u8A at av;go_in;go_wp2_with fail;obtain⟨aa,O,aN⟩:=av.out _ rfl;have ae:=(N.out _ O).1;have af:=iF (aA.out _ aa ae);generalize w.alloc _=w1 at*;refine af.out.mono ?_;rintro e w2 ⟨ag,J⟩;rw[a3E]at J;obtain⟨G,sb,r,bn,bi,L,rfl,hL,aC,hl,Q⟩:=J;obtain⟨ou,cu,rfl⟩:∃ou cu,L=[⟨AQ,ou,cu⟩]:=by
  cases L with
  |nil=>simp at hL
  |cons aI L=>
   cases L with
   |nil=>
    obtain⟨r0,ou,cu⟩:=aI;simp at hL;subst hL;exact⟨ou,cu,rfl⟩
   |cons _ _=>simp at hL
 have ah:iW (iK g w w2):=iF (O.trans (ag.mono lK));have A:iW (∀W,iK G w2 W->ow r bn bi cA [⟨AQ,ou,cu⟩] W/\oG W/\yK W):=iF λW h=>by
  have ay:iK g w W:=ah.out.trans (h.mono lK);exact⟨Q W h,N.out W ay⟩
 have U:iW (G<=sb/\G<=w2.heap.size/\g<=G):=iF lK;have ai:=iF (aB.out G sb r bn bi ou cu w2 aC ⟨U.out.1,U.out.2.1⟩ (λW h=>(A.out W h).1) (λW h=>(A.out W h).2.1));clear O ag hL aC hl Q aa ae aA af aB av;go_wp2_with fail;refine ai.out.mono ?_;rintro e w3 ⟨rfl,aj,C⟩;have aD:iW (iK G w2 w3):=iF C;have aF:=iF (Lc G sb r bn bi cA [⟨AQ,ou,cu⟩] [] 0 0 AR w3 VP wfA aj ⟨U.out.1,by have:=C.size;have:=U.out;omega⟩ lM (λW h=>A.out W (C.trans h)));clear aj C ai;go_wp2_with fail;refine aF.out.mono ?_;rintro e w4 ⟨mb,lv,Lm,rfl,hF⟩;have hF:La cA [AQ] G r sb mb [] 0 0 AR w3 lv Lm w4:=hF;obtain⟨nd,FX⟩:=a1L mb;obtain⟨f1,f2,f3,f4⟩:=hF;simp only[kY,List.map_nil];rw[FX]at f2 f3⊢;dsimp only at f2 f3⊢;obtain⟨y,rfl,aG⟩:∃y,Lm=[y]/\y.m=⟨uM,xA⟩:=by
  cases Lm with
  |nil=>simp at f2
  |cons y Lm=>
   cases Lm with
   |nil=>simp at f2;exact⟨y,rfl,f2⟩
   |cons _ _=>simp at f2
 obtain⟨oa,cap,rfl⟩:=f1.slice;obtain⟨b,rfl,_,hlt,_,_,E,_⟩:=nP.at_ f1.1 Iq (i:=0) (y:=y) rfl;have V:=E 0 lM;have aO:w4.cell? ⟨b,0,none⟩=some (ll ⟨#[112,105,110,103]⟩):=by
  have:(V3 y)[0]? =some (ll uM):=by unfold V3;rw[aG];rfl
  rw[this]at V;have az:w4.cell? ⟨b,0,none⟩=some (ll uM):=by simpa using V
  exact az
 have aJ:=iF (IV G r sb [] nd 0 w4 f3);have aK:iW (iK g w w4):=iF (ah.out.trans ((aD.out.trans f4).mono (by have:=U.out;omega)));clear f1 f2 f3 f4 FX aG hlt E aF V;simp only[jm,List.length_nil];go_wp2_with fail;refine aJ.out.mono ?_;rintro e w5 ⟨rfl,rfl⟩;go_wp2_with fail;try go_returns
 exact⟨rfl,by rw[hg];exact aK.out⟩
theorem yf{W:iH}{name:String}{k:IntKind}{zs:List Int}{g:Nat}{t:jg}{n:Nat}(hg:P.globalNamed name=some g)(A:(P.globals[g]?).map (·.type)=some t)(ht:P.underlying t=some (.array n e))(he:P.underlying e=some (.int k))(C:P.cellsOf e=1)(E:P.cellsOf t=n):
  ∀{l:List (String×DataW Unit)}{ps:List MemPlace},DataW.LaidVars P W l ps->(name,Lib.tabData k zs)∈l->Lib.TabIs P W name k zs
 |[],_,_,h=>by cases h
 |(m,d)::l,ps,hl,h=>by
  obtain⟨U,V,cs,fuel,p,q,N,O,J,hd,Q,_⟩:=hl;rcases kD.1 h with h|h
  .obtain⟨rfl,rfl⟩:=Prod.mk.inj h
   obtain rfl:=kK (hg.symm.trans N);obtain rfl:=kK (A.symm.trans O);unfold Lib.TabIs;rw[J,<-Lib.cells_of_tab ht he C E hd]
  .exact yf hg A ht he C E Q h
theorem YE:Tryz.prog.globalNamed "hatchway/schema.uintSizes" =some 1:=lQ
theorem RA:(Tryz.prog.globals[1]?).map (·.type)=some 312:=lQ
theorem Oa:Tryz.prog.cellsOf 312=4:=lQ
theorem GD:Tryz.prog.cellsOf 3=1:=lQ
theorem PT:Tryz.prog.globalNamed "hatchway/compact.behind" =some 0:=lQ
theorem RB:(Tryz.prog.globals[0]?).map (·.type)=some 283:=lQ
theorem Ob:Tryz.prog.cellsOf 283=3:=lQ
theorem VQ{W:iH}(h:laidMetH iG [("unicode/utf8.acceptRanges",Rows.laid_unicode_utf8_acceptRanges),("hatchway/compact.behind",Rows.laid_hatchway_compact_behind),("hatchway/schema.uintSizes",Rows.laid_hatchway_schema_uintSizes),("unicode/utf8.first",Rows.laid_unicode_utf8_first)] W):oG W/\yK W:=by
 rw[MakeChecks.laidMetH_plain _ _ _ lQ]at h;obtain⟨ps,C,_⟩:=h;have e1:(Rows.laid_hatchway_schema_uintSizes:DataW Unit)=Lib.tabData .i64 [1,2,4,8]:=rfl;have e2:(Rows.laid_hatchway_compact_behind:DataW Unit)=Lib.tabData .i64 [2,4,8]:=rfl;have E:=yf (zs:=[1,2,4,8]) YE RA Tryz.underlying312 kQ GD Oa C (by rw[<-e1];simp);have A:=yf (zs:=[2,4,8]) PT RB Tryz.underlying283 kQ GD Ob C (by rw[<-e2];simp);refine⟨?_,A.cell PT 0 lM,A.cell PT 1 lM,A.cell PT 2 lM⟩;intro i hi;have hc:=E.cell YE i (by simpa using hi);rw[hc];have:i=0\/i=1\/i=2\/i=3:=lK;rcases this with rfl|rfl|rfl|rfl<;>rfl
theorem VR{p:Prop}(h:p:=by
 go_upto_region 22 with fail;refine mF lQ lQ ?_;repeat(go_big_quiet_step (fail))
 go_big_quiet_step (exact Calls.after (CF.out _));repeat(go_big_quiet_step (fail))
 go_big_quiet_step (exact Calls.after (CC.out _));repeat(go_big_quiet_step (fail))
 refine kS ?_;intro x;have HBX:=iF (a1P.out.trans (x.is.mono (by have:=a1P.out.size;omega)));go_wp2_with fail;go_roundw;case rel=>exact⟨k+1,by go_num,lK,HBX⟩
 case measure=>simp[jA];omega):p:=h
theorem Lj(c:mU)(aS:Option kr)(C U:Nat)(Y:List sP)(a2:Option kr)(A aA:Nat)(ss:List ByteArray)(w:iH)(bQ:c.wf)(he:NL w aS C U Y)(hs:IP w a2 A ss)(aV:oG w/\yK w):
  iU iG 6 #[c.v,lh aS C U,lh a2 A aA] w λe w'=>e=lF (lu true)/\iK w.heap.size w w':=by
 obtain⟨bM,au⟩:=he;have aJ:C=Y.length:=by obtain⟨oa,cap,O,_⟩:=bM;cases O;rfl
 obtain⟨aW,aX,aY⟩:=id hs;have fV:A<=9223372036854775807:=by unfold jb at aW;omega
 obtain⟨g,hg⟩:=lV w.heap.size;have dE:=iF (sN (w:=w) c (t:=rC));have bR:iW (∀W,w.alloc (lG #[lg lH c.fmt,lg lJ c.mag,lg lH c.nK,lg lH c.oF,lg lH c.dep,lg lH c.mX] rC)=W->W.heap.size=g+1):=iF λW h=>by subst h;simp[hg]
 have aB:iW (∀W,iK g w W->BB W (lh aS C U) Y):=iF λW h=>bM.below (hg.symm▸h)
 have aZ:iW (∀W,iK g w W->∀i,i<A->∃b off,a2=some ⟨b,off,none⟩/\W.cell? ⟨b,off+i,none⟩=some (ll (ss.getD i kE))/\(ss.getD i kE).size<=jb):=iF λW h i hi=>by
  obtain⟨b,off,O,aj,dF,fB⟩:=aY i hi;exact⟨b,off,O,(h.cell (p:=⟨b,off+i,none⟩) (show b<g by omega)).trans dF,fB⟩
 have dR:=iF aX;have bS:1<g:=hg▸aV.1.lt;have bT:0<g:=hg▸aV.2.lt;have ak:iW (∀W,iK g w W->oG W/\yK W):=iF λW h=>⟨aV.1.below h bS,aV.2.below h bT⟩
 have fZ:=iF au;have dS:iW (∀W,iK g w W->iU iG 8 #[] W λe w'=>e=lF (lu true)/\iK W.heap.size W w'):=iF λW h=>Rz W (ak.out W h).1 (ak.out W h).2
 have bN:iW (∀W,iK g w W->iU iG 9 #[lC #[lg lH c.fmt,lg lJ c.mag,lg lH c.nK,lg lH c.oF,lg lH c.dep,lg lH c.mX],lh aS C U] W λe w'=>e=lF (lu (BI c Y))/\iK W.heap.size W w'):=iF λW h=>Rs c Y _ W (aB.out W h) λe he=>⟨(au e he).1,(au e he).2.1⟩
 have aC:iW (∀W,iK g w W->iU iG 19 #[lh a2 A aA] W λe w'=>e=lF (lu (zB ss))/\w'=W):=iF λW h=>Rq a2 A aA ss W ⟨aW,aX,λi hi=>by
  obtain⟨b,off,O,aj,dF⟩:=aZ.out W h i hi;obtain⟨b',fC,bU,gm,_⟩:=aY i hi;rw[O]at bU;cases bU;exact⟨b,off,O,by have:=h.size;omega,aj,dF⟩⟩
 have dU:iW (∀rows,sI c Y=.ok rows->∀W,iK g w W->iU iG 10 #[lC #[lg lH c.fmt,lg lJ c.mag,lg lH c.nK,lg lH c.oF,lg lH c.dep,lg lH c.mX],lh aS C U] W (NQ c rows W)):=iF λrows fD W h=>NR c Y _ W rows fD (aB.out W h) au (ak.out W h).1
 have dV:=iF bQ;have bV:Y.length<=jb:=by obtain⟨oa,cap,_,O,aj,_⟩:=bM;omega
 have dW:C<=9223372036854775807:=by unfold jb at bV;omega
 have bO:=iF aJ;unfold mU.v mU.cs;rw[hg]at dE⊢;clear bM au hs aW aX aY aV bS bT bQ bV aJ;go_in;go_upto_region 1 with fail;obtain⟨bW,c0,c1,c2,c3,c4,c5⟩:=dE.out _ rfl;have bX:=bR.out _ rfl;generalize w.alloc _=w1 at*;have bY:=iF bW;have dG:iW (∀W,iK (g+1) w1 W->W.cell? ⟨g,0,none⟩=some (lg lH c.fmt)/\W.cell? ⟨g,1,none⟩=some (lg lJ c.mag)/\W.cell? ⟨g,2,none⟩=some (lg lH c.nK)/\W.cell? ⟨g,3,none⟩=some (lg lH c.oF)/\W.cell? ⟨g,4,none⟩=some (lg lH c.dep)/\W.cell? ⟨g,5,none⟩=some (lg lH c.mX)):=iF λW h=>
  have q:∀i,W.cell? ⟨g,i,none⟩=w1.cell? ⟨g,i,none⟩:=λi=>h.cell (p:=⟨g,i,none⟩) (jE g)
  ⟨(q 0).trans c0,(q 1).trans c1,(q 2).trans c2,(q 3).trans c3,(q 4).trans c4,(q 5).trans c5⟩
 have V:=iF bX;have Z:iW (∀W,iK (g+1) w1 W->iK g w W):=iF λW h=>bY.out.trans (h.mono lK)
 clear dE bR bW bX c0 c1 c2 c3 c4 c5;go_wp2_with fail;refine(dS.out _ bY.out).mono ?_;rintro e w2 ⟨rfl,bZ⟩;have aa:iW (iK (g+1) w1 w2):=iF (V.out▸bZ);obtain⟨c0,c1,c2,c3,c4,c5⟩:=dG.out _ aa.out;clear bZ;obtain⟨RT,bg⟩:=lV (BI c Y);have dX:=iF bg;rw[bg]at bN;clear bg;cases RT with
 |false=>
  go_wp2_with fail;refine(bN.out _ (Z.out _ aa.out)).mono ?_;rintro e w3 ⟨rfl,av⟩;have N:=iF (Z.out _ (aa.out.trans (av.mono (by have:=aa.out.size;have:=V.out;omega))));clear av c0 c1 c2 c3 c4 c5;go_wp2_with fail;go_returns;exact⟨rfl,N.out⟩
 |true=>
 obtain⟨aK,aL,rows,aM⟩:=Ru dX.out;have aK:=iF aK;have aL:=iF aL;have aN:=iF aM;clear aM;go_wp2_with fail;refine(bN.out _ (Z.out _ aa.out)).mono ?_;rintro e w3 ⟨rfl,av⟩;have N:iW (iK (g+1) w1 w3):=iF (aa.out.trans (av.mono (by have:=aa.out.size;have:=V.out;omega)));clear av c0 c1 c2 c3 c4 c5;obtain⟨c0,c1,c2,c3,c4,c5⟩:=dG.out _ N.out;obtain⟨fE,bq⟩:=lV (zB ss);have dY:=iF bq;rw[bq]at aC;clear bq;cases fE with
 |true=>
  have dH:=iF (Z.out _ N.out);go_wp2_with fail;refine(aC.out _ (Z.out _ N.out)).mono ?_;rintro e w4 ⟨rfl,rfl⟩;go_wp2_with fail;go_returns;exact⟨rfl,dH.out⟩
 |false=>
 have dI:iW (zA ss<=1500):=iF (by
  have h:=dY.out;unfold zB at h;simp only[Bool.or_eq_false_iff,decide_eq_false_iff_not]at h;omega)
 go_wp2_with fail;refine(aC.out _ (Z.out _ N.out)).mono ?_;rintro e w4 ⟨rfl,rfl⟩;go_wp2_with fail;refine(dU.out _ aN.out _ (Z.out _ N.out)).mono ?_;rintro e w5 ⟨cz,G,sb,r,bn,bi,L,rfl,hL,dZ,hl,bu⟩;have bz:iW (iK (g+1) w1 w5):=iF (N.out.trans (cz.mono (by have:=N.out.size;have:=V.out;omega)));have ag:iW (g+1<=G/\G<=sb/\G<=w5.heap.size):=iF (by have:=N.out.size;have:=V.out;omega);have bA:iW (∀W,iK G w5 W->ow r bn bi c L W/\oG W/\yK W):=iF λW h=>by
  have aj:iK g w W:=Z.out W (bz.out.trans (h.mono ag.out.1));exact⟨bu W h,ak.out W aj⟩
 have ed:=iF hL;have dJ:iW (∀q,q∈rows->nG q.ty=true):=iF λq ek=>by
  rw[<-ed.out]at ek;obtain⟨x,fF,rfl⟩:=List.mem_map.1 ek;exact((bA.out w5 (iL _ _)).1.may x fF).1
 have eu:iW (tH w5 G r sb [] 0 0):=iF dZ;clear cz hL dZ hl bu c0 c1 c2 c3 c4 c5 dS bN aC dU;go_wp2_with fail;go_loopw [8] (λiv eB=>∃(i:Nat) (buf:List UInt8) (nd fa:Int),iv=lg lH i/\i<=A/\iW (tH eB G r sb buf nd fa)/\iW (buf.length<=zA (ss.take i))/\iW (iK G w5 eB)) (λiv _=>A -(jA iv).toNat);case atStart=>exact⟨0,[],0,0,rfl,jy _,eu,iF (jy _),iF (iL _ _)⟩
 case round=>
  obtain⟨i,buf,nd,fa,rfl,hi,cB,cK,ax⟩:=hrel;have bB:iW (iK (g+1) w1 wr):=iF (bz.out.trans (ax.out.mono ag.out.1));by_cases ci:i<A
  .obtain⟨gD,fG,rfl,E,hsz⟩:=aZ.out wr (Z.out _ bB.out) i ci
   have cO:ss[i]? =some (ss.getD i kE):=by rw[ko,iZ (by rw[dR.out];exact ci)];rfl
   have dK:=Gy cO;have dL:=X7 ss (i+1);generalize ss.getD i kE=ch at*;have bC:iW (buf.length+ch.size<=zA (ss.take (i+1))/\buf.length+ch.size<=100000):=iF (by have:=cK.out;have:=dI.out;omega);have CF:=Lc G sb r bn bi c L buf nd fa ch wr aL.out dV.out cB.out ⟨ag.out.2.1,by have:=ag.out;have:=ax.out.size;omega⟩ bC.out.2 (λW h=>bA.out W (ax.out.trans h));rw[ed.out]at CF;have CF:=iF CF;clear cO dK dL hsz;go_wp2_with fail;refine CF.out.mono ?_;rintro e aT ⟨mb,lv,Lm,rfl,eD⟩;obtain⟨f1,f2,f3,f4⟩:=eD;have eF:iW (∀y,y∈Lm->Typed c rows y.m):=iF λy aU=>Lg aL.out dJ.out bC.out.2 (mb:=mb) (nd:=nd) (fa:=fa) (by rw[<-f2];exact List.mem_map.2 ⟨y,aU,rfl⟩)
   have eG:=Rt c rows mb buf nd fa ch;obtain⟨oa,gp,rfl⟩:=f1.slice;generalize (tF c rows mb buf nd fa ch).2.1=aD at*;generalize (tF c rows mb buf nd fa ch).2.2.1=cZ at*;generalize (tF c rows mb buf nd fa ch).2.2.2=df at*;have dM:iW (aD.length<=zA (ss.take (i+1))):=iF (by have:=bC.out;omega);have dh:=iF f1;have dN:=iF f3;have bD:iW (iK G w5 aT):=iF (ax.out.trans f4);have eH:iW (G<=aT.heap.size):=iF (by have:=ag.out;have:=bD.out.size;omega);obtain⟨m,bE⟩:=lV Lm.length;have fH:=iF bE;have gq:m<=9223372036854775807:=by
    have:=f1.1.1;rcases f1.1.form with⟨_,h0⟩|⟨gF,fI,gu,gy,_,_,O,aj,_⟩
    .rw[h0]at bE;simp at bE;omega
    .unfold jb at aj;omega
   rw[bE]at dh⊢;clear f1 f2 f3 f4 eG bE CF cB ax bB cK E;go_wp2_with fail;go_loopw [11] (λkv wk=>∃k:Nat,kv=lg lH k/\k<=m/\iW (iK aT.heap.size aT wk)) (λkv _=>m -(jA kv).toNat);case atStart=>exact⟨0,rfl,jy _,iF (iL _ _)⟩
   case round=>
    obtain⟨k,rfl,hk,ay⟩:=hrel;have bF:iW (iK G w5 wr):=iF (bD.out.trans (ay.out.mono eH.out));have aO:iW (iK (g+1) w1 wr):=iF (bz.out.trans (bF.out.mono ag.out.1));by_cases fJ:k<m
    .obtain⟨y,aU⟩:∃y,Lm[k]? =some y:=⟨_,iZ (by rw[fH.out];exact fJ)⟩
     have bG:=oh.below dh.out ay.out;obtain⟨b,rfl,n1,hlt,n2,n3,E,fK⟩:=nP.at_ bG.1 Iq aU;clear n1 n2 n3 fK;have fM:wr.cell? ⟨b,k*4,none⟩=some (ll y.m.name):=by simpa [V3]using E 0 lM
     have eO:wr.cell? ⟨b,k*4+1,none⟩=some (ll (txt y.m.val.lab)):=by simpa [V3]using E 1 lM
     have eP:wr.cell? ⟨b,k*4+1+1,none⟩=some (lu y.m.val.lab.list):=by simpa [V3]using E 2 lM
     have dO:wr.cell? ⟨b,k*4+1+2,none⟩=some y.u:=by simpa [V3]using E 3 lM
     have eQ:iW (oZ wr y.u y.m.val.sub):=iF (lX.any (bG.2.2 y (jc aU)));obtain⟨j,e,ta,sub,bP,eT,eU,eX,eY,eZ,fq⟩:=VA aN.out aK.out (eF.out y (jc aU));have gz:j<C:=by rw[bO.out];exact(jH.1 bP).1
     have dw:=iF eY;have dx:=iF eZ;have bH:iW (∀W,iK wr.heap.size wr W->BB W (lh aS C U) Y):=iF λW h=>aB.out W (Z.out W (aO.out.trans (h.mono (by have:=aO.out.size;have:=V.out;omega))))
     have fu:=iF (NN Y y.m.name _ wr (bH.out _ (iL _ _)) (by have:=(wH aK.out).1;omega) j e bP eT eU);obtain⟨b1,fO,rfl,dP,fP,e1,e2⟩:=BB.at_ (bH.out _ (iL _ _)) bP;have aC:=iF (PH e.tx wr fq);have dz:=iF eX;have gB:¬(j:Int)<0:=lK;clear E bG aU bP eT eU eX eY eZ fq;go_wp2_with fail;refine fu.out.mono ?_;rintro fQ dQ ⟨rfl,rfl⟩;go_wp2_with fail;refine aC.out.mono ?_;rintro fQ aF ⟨tb,aG,n3,ae,er,aH,rfl,bI,_,az,aP⟩;obtain⟨rfl,rfl,rfl⟩:tb=ta/\aH=sub/\er=0:=by
      rcases aP with⟨O,aj⟩|⟨O,_⟩
      .rw[dz.out]at O
       cases O;exact⟨rfl,rfl,aj⟩
      .rw[dz.out]at O;cases O
     obtain⟨aI,dA⟩:=lV y.m.val.sub.length;have dB:y.u=lh y.ov aI y.cv:=by unfold Cx.u;rw[dA]
     rw[dB]at dO eQ;have bJ:iW (∀W,aF.alloc (lG #[lg lH tb.kind,lg lH tb.size,lh aG n3 ae,lg lH tb.tail] 63)=W->iK dQ.heap.size dQ W/\lN W aF.heap.size #[lg lH tb.kind,lg lH tb.size,lh aG n3 ae,lg lH tb.tail] 63/\mD W (lh aG n3 ae) aH):=iF λW h=>by
      subst h;have a:=(iL aF.heap.size aF).alloc (iI _) (lG #[lg lH tb.kind,lg lH tb.size,lh aG n3 ae,lg lH tb.tail] 63);exact⟨bI.trans (a.mono bI.size),lN.new aF _ _,Shape.lY.below az a⟩
     have aQ:iW (b<dQ.heap.size):=iF hlt;obtain⟨bt,fw⟩:=lV aF.heap.size;rw[fw]at bJ;clear aP bI az dA dB fu aC bH fP e1 e2 hlt dP;go_upto_region 19 with fail;obtain⟨Q,ah,az⟩:=bJ.out _ rfl;generalize aF.alloc _=J at*;have fT:=iF Q;have dC:iW (iK (g+1) w1 J):=iF (aO.out.trans (Q.mono (by have:=aO.out.size;have:=V.out;omega)));have a1P:iW (iK aT.heap.size aT J):=iF (ay.out.trans (Q.mono ay.out.size));obtain⟨c0,c1,c2,c3,c4,c5⟩:=dG.out _ dC.out;have bK:iW (oZ J (lh y.ov aI y.cv) y.m.val.sub):=iF (Shape.lY.below eQ.out Q);have dD:g<J.heap.size:=by have:=dC.out.size;have:=V.out;omega
     have aR:b<J.heap.size:=by have:=aQ.out;have:=Q.size;omega
     have af:bt<J.heap.size:=ah.lt;have gG:∀x:oO J,x.at_.cell? ⟨bt,0,none⟩=some (lg lH tb.kind):=λx=>(x.is.cell (p:=⟨bt,0,none⟩) af).trans (ah.cell 0)
     have gH:∀x:oO J,x.at_.cell? ⟨bt,1,none⟩=some (lg lH tb.size):=λx=>(x.is.cell (p:=⟨bt,1,none⟩) af).trans (ah.cell 1)
     have gI:∀x:oO J,x.at_.cell? ⟨bt,2,none⟩=some (lh aG n3 ae):=λx=>(x.is.cell (p:=⟨bt,2,none⟩) af).trans (ah.cell 2)
     have gJ:∀x:oO J,x.at_.cell? ⟨bt,3,none⟩=some (lg lH tb.tail):=λx=>(x.is.cell (p:=⟨bt,3,none⟩) af).trans (ah.cell 3)
     have gK:∀x:oO J,x.at_.cell? ⟨b,k*4+1,none⟩=some (ll (txt y.m.val.lab)):=λx=>(x.is.cell (p:=⟨b,k*4+1,none⟩) aR).trans ((Q.cell (p:=⟨b,k*4+1,none⟩) aQ.out).trans eO)
     have gL:∀x:oO J,x.at_.cell? ⟨b,k*4+1+1,none⟩=some (lu y.m.val.lab.list):=λx=>(x.is.cell (p:=⟨b,k*4+1+1,none⟩) aR).trans ((Q.cell (p:=⟨b,k*4+1+1,none⟩) aQ.out).trans eP)
     have gM:∀x:oO J,x.at_.cell? ⟨b,k*4+1+2,none⟩=some (lh y.ov aI y.cv):=λx=>(x.is.cell (p:=⟨b,k*4+1+2,none⟩) aR).trans ((Q.cell (p:=⟨b,k*4+1+2,none⟩) aQ.out).trans dO)
     have gN:∀x:oO J,x.at_.cell? ⟨g,5,none⟩=some (lg lH c.mX):=λx=>(x.is.cell (p:=⟨g,5,none⟩) dD).trans c5
     have CF:iW (∀x:oO J,iU iG 22 #[lC #[lg lH tb.kind,lg lH tb.size,lh aG n3 ae,lg lH tb.tail],lC #[ll (txt y.m.val.lab),lu y.m.val.lab.list,lh y.ov aI y.cv]] x.at_ λe w'=>e=lF (lg lH 0)/\iK x.at_.heap.size x.at_ w'):=iF λx=>
      Vz (.node tb aH) y.m.val x.at_ (lh aG n3 ae) (lh y.ov aI y.cv) (Shape.lY.below az x.is) (Shape.lY.below bK.out x.is) (by have:=NS dw.out;unfold jb;omega) dw.out
     clear Q ah az bJ fM eO eP dO dD aR af c1 c2 c3 c5;by_cases ai:c.fmt=1
     .have f1:(c.fmt==1)=true:=by simp[ai]
      have bL:iW (rX y.m.val 16 c.mX=0):=iF (by have:=dx.out;rw[if_pos ai]at this;exact this);clear ai;have CC:=iF (λx:oO J=>Lf y.m.val 16 c.mX x.at_ (lh y.ov aI y.cv) (Shape.lY.below bK.out x.is) bL.out);exact VR
     .have f1:(c.fmt==1)=false:=by rw[beq_eq_false_iff_ne];exact ai
      have bL:iW (rX y.m.val c.dep c.mX=0):=iF (by have:=dx.out;rw[if_neg ai]at this;exact this);clear ai;have CC:=iF (λx:oO J=>Lf y.m.val c.dep c.mX x.at_ (lh y.ov aI y.cv) (Shape.lY.below bK.out x.is) bL.out);exact VR
    .obtain rfl:k=m:=lK
     have fA:iW (tH wr G r sb aD cZ df):=iF (dN.out.below ay.out);go_wp2_with fail;go_roundw;case rel=>exact⟨i+1,aD,cZ,df,by go_num,lK,fA,dM,bF⟩
     case measure=>simp[jA];omega
  .obtain rfl:i=A:=lK
   have fU:=iF (Z.out _ bB.out);go_wp2_with fail;go_returns;exact⟨rfl,fU.out⟩
end
end Go.Proofs.YtamfcjmhnndbdaaGreatDoor


