/- Part 15 of the proof. -/
import Derived.Test.YtamfcjmhnndbdaaGreatDoorZk00
import Derived.Test.YtamfcjmhnndbdaaGreatDoorZk09
import Derived.Test.YtamfcjmhnndbdaaGreatDoorZk03
import Derived.Test.YtamfcjmhnndbdaaGreatDoorZk06
import Derived.Test.YtamfcjmhnndbdaaGreatDoorZk07
import Derived.Test.YtamfcjmhnndbdaaGreatDoorZk14
open Go.Value renaming agg→lC,bool→lu,int→lg,pointer→lq,slice→lh,string→ll,tuple→lD,ownBlock→jw,slice→jD
open Go.Obj renaming cells→lG
open Go.IntKind renaming i64→lH,u32→lJ,u64→lI
open Go.Ending renaming returned→lF
open Go.Lib renaming hid→iF
open Go.Proofs.Tryz renaming prog→iG
open Go renaming World→iH,Value→iJ,Calls→iU,maxLen→jb,TypeId→jg,undef→jo,Program→kg,Addr→kr,Oper→kH
open Nat renaming le_refl→iI,le_trans→je,lt_of_lt_of_le→jq,zero_le→jy,le_of_eq→kX
open Go.RowKit renaming Below→iK,Hid→iW
open Go.RowKit.Below renaming refl→iL
open List renaming getElem?_cons_succ→iM,setIfInBounds_toArray→iN,getElem?_cons_zero→iO,getElem?_toArray→iP,set_cons_zero→iR,set_cons_succ→iT,take_succ_cons→ji,take_zero→jC,length_drop→jS,mem_cons→kD,size_toArray→kV
open And renaming intro→iQ
open ByteArray renaming size_extract→ja
open Go.World renaming setCell→jf,cell?→kZ
open UInt8 renaming ofNat→jl
open Go.Code renaming region→jJ
open Array renaming getD_eq_getD_getElem?→jR
open Go.Act renaming put→jZ
open Bool renaming false_eq_true→j4
open Go.Instr renaming lookup→j5
open Option.some renaming inj→kK
namespace Go.Proofs.YtamfcjmhnndbdaaGreatDoor
set_option linter.unusedVariables false
set_option linter.unusedSimpArgs false
set_option maxRecDepth 100000
set_option maxHeartbeats 8000000
variable {a0:Act}{α:Type}
section
open Go.RowKit
abbrev Ir:jg:=88
def Cy(r:Nat)(bv:iJ)(nd fa la tt se:Int):Array iJ:=#[lq (some ⟨r,0,none⟩),bv,lg lH nd,lg lH fa,lg lH la,lg lH tt,lg lH se]
structure N1C(ks sb r:Nat)(bv:iJ)(nd fa la tt se:Int)(Bs:iH->Prop)(W:iH):Prop where
 bs:Bs W
 sv:lN W ks #[lq (some ⟨sb,0,none⟩)] Nq
 ss:lN W sb (Cy r bv nd fa la tt se) Ir
structure Cz(ks kc kt ka sb r:Nat)(c:mU)(s:ByteArray)(p:Nat)(bv:iJ)(nd fa la tt se:Int)(Bs:iH->Prop)(W:iH):Prop where
 sv:lN W ks #[lq (some ⟨sb,0,none⟩)] Nq
 ss:lN W sb (Cy r bv nd fa la tt se) Ir
 cf:lN W kc #[lg lH c.fmt,lg lJ c.mag,lg lH c.nK,lg lH c.oF,lg lH c.dep,lg lH c.mX] rC
 tx:lN W kt #[ll s] Ll
 at_:lN W ka #[lg lH p] InT
 bs:Bs W
 ne:ks≠sb/\kc≠sb/\kt≠sb/\ka≠sb
theorem Cz.below{ks kc kt ka sb r:Nat}{c:mU}{s:ByteArray}{p:Nat}{bv:iJ}{nd fa la tt se:Int}{Bs:iH->Prop}{W A:iH}(oL:∀W A,Bs W->iK W.heap.size W A->Bs A)(h:Cz ks kc kt ka sb r c s p bv nd fa la tt se Bs W)(hb:iK W.heap.size W A):Cz ks kc kt ka sb r c s p bv nd fa la tt se Bs A:=
 ⟨Below.blk hb h.sv h.sv.lt,Below.blk hb h.ss h.ss.lt,Below.blk hb h.cf h.cf.lt,Below.blk hb h.tx h.tx.lt,Below.blk hb h.at_ h.at_.lt,oL _ _ h.bs hb,h.ne⟩
theorem Cz.put{ks kc kt ka sb r:Nat}{c:mU}{s:ByteArray}{p:Nat}{bv:iJ}{nd fa la tt se:Int}{Bs:iH->Prop}{W:iH}(Ja:∀W i v,Bs W->Bs (W.setCell ⟨sb,i,none⟩ v))(h:Cz ks kc kt ka sb r c s p bv nd fa la tt se Bs W)(n2:Int):Cz ks kc kt ka sb r c s p bv n2 fa la tt se Bs (W.setCell ⟨sb,2,none⟩ (lg lH n2)):=
 have n:=h.ne;have o:∀{b:Nat}{cs:Array iJ}{t:jg},lN W b cs t->b≠sb->lN (W.setCell ⟨sb,2,none⟩ (lg lH n2)) b cs t:=λhB hn=>hB.setOther (a:=⟨sb,2,none⟩) hn _
 ⟨o h.sv n.1,h.ss.set 2 _,o h.cf n.2.1,o h.tx n.2.2.1,o h.at_ n.2.2.2,Ja _ _ _ h.bs,h.ne⟩
structure zy(ks ka sb r G p:Nat)(buf:List UInt8)(bo:Option kr)(bc:Nat)(nd fa la tt se:Int)(Bs:iH->Prop)(d6 d9:Bool)(v6:iJ)(W:iH):Prop where
 sv:lN W ks #[lq (some ⟨sb,0,none⟩)] Nq
 at_:lN W ka #[lg lH p] InT
 ss:lN W sb (Cy r (if d9=true then v6 else lh bo buf.length bc) nd fa la tt se) Ir
 ob:d6=false->mI W G uq (lh bo buf.length bc) buf
 od:d6=true->(∃oa cap,v6=lh oa (buf.drop p).length cap)/\mI W G uq v6 (buf.drop p)
 bs:Bs W
 dn:d9=true->d6=true
 ne:ks≠sb/\ka≠sb/\G<=sb/\G<=W.heap.size/\∀b,(jD bo buf.length bc).ownBlock=some b->b≠ks/\b≠ka/\b≠sb
section
variable {ks ka sb r G p:Nat}{buf:List UInt8}{bo:Option kr}{bc:Nat}{nd fa la tt se:Int}{Bs:iH->Prop}{d6 d9:Bool}{v6 v6':iJ}{W W':iH}
theorem zy.call(hBg:∀W W',Bs W->W.grownBy W' (jD bo buf.length bc).ownBlock->Bs W')(h:zy ks ka sb r G p buf bo bc nd fa la tt se Bs false false v6 W)(hg:W.grownBy W' (jD bo buf.length bc).ownBlock)(ho:mI W' G uq v6' (buf.drop p))(A:∃oa cap,v6'=lh oa (buf.drop p).length cap):
  zy ks ka sb r G p buf bo bc nd fa la tt se Bs true false v6' W':=by
 have n:=h.ne;have q:∀{c:Nat}{cs:Array iJ}{t:jg},lN W c cs t->(∀b,(jD bo buf.length bc).ownBlock=some b->b≠c)->lN W' c cs t:=λhB hn=>mY hB hg hn
 exact⟨q h.sv λb hb=>(n.2.2.2.2 b hb).1,q h.at_ λb hb=>(n.2.2.2.2 b hb).2.1,q h.ss λb hb=>(n.2.2.2.2 b hb).2.2,(λh=>by cases h),λ_=>⟨A,ho⟩,hBg _ _ h.bs hg,λ_=>rfl,⟨n.1,n.2.1,n.2.2.1,je n.2.2.2.1 hg.size,n.2.2.2.2⟩⟩
theorem zy.put(Ja:∀W i v,Bs W->Bs (W.setCell ⟨sb,i,none⟩ v))(A:∀b,v6.ownBlock=some b->b≠sb)(h:zy ks ka sb r G p buf bo bc nd fa la tt se Bs true false v6 W):zy ks ka sb r G p buf bo bc nd fa la tt se Bs true true v6 (W.setCell ⟨sb,1,none⟩ v6):=by
 have n:=h.ne;have o:∀{b:Nat}{cs:Array iJ}{t:jg},lN W b cs t->b≠sb->lN (W.setCell ⟨sb,1,none⟩ v6) b cs t:=λhB hn=>hB.setOther (a:=⟨sb,1,none⟩) hn _
 refine⟨o h.sv n.1,o h.at_ n.2.1,h.ss.set 1 _,(λh=>by cases h),λ_=>⟨(h.od rfl).1,?_⟩,Ja _ _ _ h.bs,λ_=>rfl,⟨n.1,n.2.1,n.2.2.1,by simpa [jf]using n.2.2.2.1,n.2.2.2.2⟩⟩;exact mI.kp (h.od rfl).2 (F:=λk=>k=sb) (qp.set (F:=λk=>k=sb) (p:=⟨sb,1,none⟩) (qp.refl _ W) (λ_=>rfl) v6) λb hb e=>A b hb e
end
def Iu:List kH:=[⟨some 12,.load 28 (.tmp 2),28,"session.go:56",#[],none⟩,⟨some 13,.nilCheck (.tmp 12),0,"session.go:56",#[⟨0,.data⟩],none⟩,⟨some 14,.fieldAddr 88 (.tmp 13) 1,0,"session.go:56",#[⟨1,.data⟩],none⟩,⟨some 15,.load 86 (.tmp 14),86,"session.go:56",#[⟨2,.data⟩],none⟩,⟨some 16,.call {callee:=.builtin .len,args:=#[.tmp 15],argTypes:=#[86]},3,"session.go:56",#[⟨3,.data⟩],none⟩,⟨some 17,.load 28 (.tmp 2),28,"session.go:56",#[],none⟩,⟨some 18,.nilCheck (.tmp 17),0,"session.go:56",#[⟨5,.data⟩],none⟩,⟨some 19,.fieldAddr 88 (.tmp 18) 2,0,"session.go:56",#[⟨6,.data⟩],none⟩,⟨some 20,.load 3 (.tmp 19),3,"session.go:56",#[⟨7,.data⟩],none⟩,⟨some 21,.binOp .lss 3 (.tmp 16) (.tmp 20) 3,4,"session.go:56",#[⟨4,.data⟩,⟨8,.data⟩],none⟩]
section
variable (ks sb r:Nat)(bo:Option kr)(bn bc:Nat)(nd fa la tt se:Int)(Bs:iH->Prop)
def Iw:Nat->iJ
 |0=> lq (some ⟨sb,0,none⟩)
 |1=> lq (some ⟨sb,0,none⟩)
 |2=> lq (some ⟨sb,1,none⟩)
 |3=> lh bo bn bc
 |4=> lg lH bn
 |5=> lq (some ⟨sb,0,none⟩)
 |6=> lq (some ⟨sb,0,none⟩)
 |7=> lq (some ⟨sb,2,none⟩)
 |8=> lg lH nd
 |9=> lu (decide ((bn:Int)<nd))
 |_=>jo
structure a3s(D:Nat->Bool)(vs:Nat->iJ)(w:iH):Prop where
 mh:N1C ks sb r (lh bo bn bc) nd fa la tt se Bs w
 val:∀j,(true)=true->D j=true->vs j=Iw sb bo bn bc nd j
variable {ks sb r bo bn bc nd fa la tt se Bs}
theorem ZR{id:Nat}{Q:Exit->Act->iH->Prop}{J:iH}(ht2:a0.tmps.getD 2 jo=lq (some ⟨ks,0,none⟩))(hsz:a0.tmps.size=73)(hI0:∀vs:Nat->iJ,(λw=>N1C ks sb r (lh bo bn bc) nd fa la tt se Bs w) J.drew)(N:∀(vs:Nat->iJ) (w:iH),N1C ks sb r (lh bo bn bc) nd fa la tt se Bs w->Q .normal {a0 with tmps:=((((((((((a0.tmps.setIfInBounds 12 (lq (some ⟨sb,0,none⟩))).setIfInBounds 13 (lq (some ⟨sb,0,none⟩))).setIfInBounds 14 (lq (some ⟨sb,1,none⟩))).setIfInBounds 15 (lh bo bn bc)).setIfInBounds 16 (lg lH bn)).setIfInBounds 17 (lq (some ⟨sb,0,none⟩))).setIfInBounds 18 (lq (some ⟨sb,0,none⟩))).setIfInBounds 19 (lq (some ⟨sb,2,none⟩))).setIfInBounds 20 (lg lH nd)).setIfInBounds 21 (lu (decide ((bn:Int)<nd))))} w):
  (jJ id Iu.toArray true).wp iG Q a0 J:=by
 refine l6 10 73 (a3s ks sb r bo bn bc nd fa la tt se Bs) lQ hsz lQ (.inl rfl) lQ ?_ ?_ ?_;.exact oo
 .refine pO λA V=> ?_
  clear hI0 N hsz;replace ht2:=iF ht2;unfold Iu;simp only[ji,jC,o6];refine⟨?_,?_,?_,?_,?_,?_,?_,?_,?_,?_,trivial⟩<;>(intro D vs a w K hI hd E hw2 C Y;subst V;unfold Iu);have e2:=(C 2 lM).trans ht2.out;have hB:=hI.mh.sv;have c0:=hB.c0;clear hB;rotate_left;have aa:=fe C hI.val E 12 0;rotate_left;have ae:=fe C hI.val E 13 1;rotate_left;have O:=fe C hI.val E 14 2;simp only[Iw]at O;have hB:=hI.mh.ss;have c0:=hB.cell 1;simp only[Cy,iP,iO,iM]at c0;clear hB;rotate_left;have af:=fe C hI.val E 15 3;rotate_left;have e2:=(C 2 lM).trans ht2.out;have hB:=hI.mh.sv;have c0:=hB.c0;clear hB;rotate_left;have ag:=fe C hI.val E 17 5;rotate_left;have ah:=fe C hI.val E 18 6;rotate_left;have U:=fe C hI.val E 19 7;simp only[Iw]at U;have hB:=hI.mh.ss;have c0:=hB.cell 2;simp only[Cy,iP,iO,iM]at c0;clear hB;rotate_left;have ai:=fe C hI.val E 16 4;have aj:=fe C hI.val E 20 8;rotate_left
  all_goals
   try simp only[Iw]at*
   go_simp;exact Y _ _ _ rfl ⟨hI.mh,ry hI.val⟩
 .intro D vs w Z hI
  have E:=hI.mh;have q:=N vs w E;rw[mQ hI.val Z];unfold Iu;exact om
end
def Df:List kH:=[⟨some 51,.load 28 (.tmp 2),28,"session.go:80",#[],none⟩,⟨some 52,.load 24 (.tmp 5),24,"session.go:80",#[],none⟩,⟨some 53,.load 9 (.tmp 6),9,"session.go:80",#[],none⟩,⟨some 54,.load 3 (.tmp 7),3,"session.go:80",#[],none⟩,⟨some 55,.slice 9 (.tmp 53) (some (.tmp 54)) none none,9,"session.go:80",#[⟨2,.data⟩,⟨3,.data⟩],none⟩,⟨some 56,.call {callee:=.value (.func 65),args:=#[.tmp 52,.tmp 55],argTypes:=#[24,9]},3,"session.go:80",#[⟨1,.data⟩,⟨4,.data⟩],none⟩,⟨some 57,.nilCheck (.tmp 51),0,"session.go:80",#[⟨0,.data⟩,⟨0,.phase⟩,⟨1,.phase⟩,⟨2,.phase⟩,⟨3,.phase⟩,⟨4,.phase⟩,⟨5,.phase⟩],none⟩,⟨some 58,.fieldAddr 88 (.tmp 57) 2,0,"session.go:80",#[⟨6,.data⟩,⟨0,.phase⟩,⟨1,.phase⟩,⟨2,.phase⟩,⟨3,.phase⟩,⟨4,.phase⟩,⟨5,.phase⟩],none⟩,⟨none,.store 3 (.tmp 58) (.tmp 56),0,"session.go:80",#[⟨7,.data⟩,⟨5,.data⟩,⟨5,.chain⟩,⟨0,.phase⟩,⟨1,.phase⟩,⟨2,.phase⟩,⟨3,.phase⟩,⟨4,.phase⟩,⟨5,.phase⟩],none⟩]
section
variable (ks kc kt ka sb r:Nat)(c:mU)(s:ByteArray)(p:Nat)(bv:iJ)(nd fa la tt se:Int)(n2:Nat)(Bs:iH->Prop)
def wD:Nat->iJ
 |0=> lq (some ⟨sb,0,none⟩)
 |1=> lC #[lg lH c.fmt,lg lJ c.mag,lg lH c.nK,lg lH c.oF,lg lH c.dep,lg lH c.mX]
 |2=> ll s
 |3=> lg lH p
 |4=> ll (s.extract p s.size)
 |5=> lg lH n2
 |6=> lq (some ⟨sb,0,none⟩)
 |7=> lq (some ⟨sb,2,none⟩)
 |_=>jo
structure UN(D:Nat->Bool)(vs:Nat->iJ)(w:iH):Prop where
 mh:Cz ks kc kt ka sb r c s p bv (if(D 8)=true then n2 else nd) fa la tt se Bs w
 val:∀j,(true)=true->D j=true->vs j=wD sb c s p n2 j
variable {ks kc kt ka sb r c s p bv nd fa la tt se n2 Bs}
theorem UO{D:Nat->Bool}{vs:Nat->iJ}{w w':iH}(h:UN ks kc kt ka sb r c s p bv nd fa la tt se n2 Bs D vs w){i:Nat}(hi:i≠8)(A:Cz ks kc kt ka sb r c s p bv (if(D 8)=true then n2 else nd) fa la tt se Bs w->Cz ks kc kt ka sb r c s p bv (if(D 8)=true then n2 else nd) fa la tt se Bs w'):UN ks kc kt ka sb r c s p bv nd fa la tt se n2 Bs (wV D i) (wW vs i (wD sb c s p n2 i)) w':=by
 refine⟨?_,ry h.val⟩;rw[lT D (show 8≠i by omega)];exact A h.mh
theorem XL{id:Nat}{Q:Exit->Act->iH->Prop}{U:iH}(ht2:a0.tmps.getD 2 jo=lq (some ⟨ks,0,none⟩))(ht5:a0.tmps.getD 5 jo=lq (some ⟨kc,0,none⟩))(vT:a0.tmps.getD 6 jo=lq (some ⟨kt,0,none⟩))(Ch:a0.tmps.getD 7 jo=lq (some ⟨ka,0,none⟩))(hp:p<=s.size/\s.size<=100000)(ED:∀W,iU iG 65 #[lC #[lg lH c.fmt,lg lJ c.mag,lg lH c.nK,lg lH c.oF,lg lH c.dep,lg lH c.mX],ll (s.extract p s.size)] W λe J=>e=lF (lg lH n2)/\iK W.heap.size W J)(oL:∀W J,Bs W->iK W.heap.size W J->Bs J)(Ja:∀W i v,Bs W->Bs (W.setCell ⟨sb,i,none⟩ v))(hsz:a0.tmps.size=73)(hI0:∀vs:Nat->iJ,(λw=>Cz ks kc kt ka sb r c s p bv (if false=true then n2 else nd) fa la tt se Bs w) U.drew)(V:∀(vs:Nat->iJ) (w:iH),Cz ks kc kt ka sb r c s p bv (if true=true then n2 else nd) fa la tt se Bs w->Q .normal {a0 with tmps:=((((((((a0.tmps.setIfInBounds 51 (lq (some ⟨sb,0,none⟩))).setIfInBounds 52 (lC #[lg lH c.fmt,lg lJ c.mag,lg lH c.nK,lg lH c.oF,lg lH c.dep,lg lH c.mX])).setIfInBounds 53 (ll s)).setIfInBounds 54 (lg lH p)).setIfInBounds 55 (ll (s.extract p s.size))).setIfInBounds 56 (lg lH n2)).setIfInBounds 57 (lq (some ⟨sb,0,none⟩))).setIfInBounds 58 (lq (some ⟨sb,2,none⟩)))} w):
  (jJ id Df.toArray true).wp iG Q a0 U:=by
 refine l6 9 73 (UN ks kc kt ka sb r c s p bv nd fa la tt se n2 Bs) lQ hsz lQ (.inl rfl) lQ ?_ ?_ ?_;.exact oo
 .refine pO λA ai=> ?_
  clear hI0 V hsz;replace ht2:=iF ht2;replace ht5:=iF ht5;replace vT:=iF vT;replace Ch:=iF Ch;replace hp:=iF hp;replace ED:=iF ED;replace oL:=iF oL;replace Ja:=iF Ja;unfold Df;simp only[ji,jC,o6];refine⟨?_,?_,?_,?_,?_,?_,?_,?_,?_,trivial⟩<;>(intro D vs a w K hI hd E hw2 C N;subst ai;unfold Df);have e2:=(C 2 lM).trans ht2.out;have hB:=hI.mh.sv;have c0:=hB.c0;clear hB;rotate_left;have e5:=(C 5 lM).trans ht5.out;have hB:=hI.mh.cf;obtain⟨c0,c1,c2,c3,c4,c5⟩:=hB.a6;clear hB;rotate_left;have ay:=(C 6 lM).trans vT.out;have hB:=hI.mh.tx;have c0:=hB.c0;clear hB;rotate_left;have az:=(C 7 lM).trans Ch.out;have hB:=hI.mh.at_;have c0:=hB.c0;clear hB;rotate_left;have hp:=hp.out;have Y:=fe C hI.val E 53 2;have Z:=fe C hI.val E 54 3;simp only[wD]at Y Z;obtain⟨ak,au⟩:=hp;rotate_left
  .have ED:=ED.out
   have oL:=oL.out;have aa:=fe C hI.val E 52 1;have ae:=fe C hI.val E 55 4;simp only[wD]at aa ae;have aj:=ED w;clear ED;rw[if_pos (by rfl)];go_simp;refine aj.mono ?_;rintro e aA ⟨rfl,hb⟩;exact N (wD sb c s p n2 5) _ _ rfl (UO hI (i:=5) lM λh=>h.below oL hb)
  have av:=fe C hI.val E 51 0;rotate_left;have ax:=fe C hI.val E 57 6;rotate_left
  .have Ja:=Ja.out
   have af:=fe C hI.val E 56 5;have ag:=fe C hI.val E 58 7;simp only[wD]at af ag;have O:=hI.mh;rw[hd]at O;have hB:=O.ss;have c0:=hB.cell 2;have aB:=hB.free 2;simp only[Cy,j4,if_false,iP,iO,iM]at c0;clear hB;go_simp;refine N jo _ _ rfl ⟨?_,ry hI.val⟩;rw[l7];exact O.put Ja _
  all_goals
   try simp only[wD]at*
   go_simp;exact N _ _ _ rfl ⟨hI.mh,ry hI.val⟩
 .intro D vs w ah hI
  have E:=hI.mh;rw[ah 8 lM]at E;have q:=V vs w E;rw[mQ hI.val ah];unfold Df;exact om
end
def Dh:List kH:=[⟨some 63,.load 28 (.tmp 2),28,"session.go:84",#[],none⟩,⟨some 64,.load 28 (.tmp 2),28,"session.go:84",#[],none⟩,⟨some 65,.nilCheck (.tmp 64),0,"session.go:84",#[⟨1,.data⟩],none⟩,⟨some 66,.fieldAddr 88 (.tmp 65) 1,0,"session.go:84",#[⟨2,.data⟩],none⟩,⟨some 67,.load 86 (.tmp 66),86,"session.go:84",#[⟨3,.data⟩],none⟩,⟨some 68,.load 3 (.tmp 7),3,"session.go:84",#[],none⟩,⟨some 69,.call {callee:=.value (.func 66),args:=#[.tmp 67,.tmp 68],argTypes:=#[86,3]},86,"session.go:84",#[⟨4,.data⟩,⟨5,.data⟩],none⟩,⟨some 70,.nilCheck (.tmp 63),0,"session.go:84",#[⟨0,.data⟩,⟨0,.phase⟩,⟨1,.phase⟩,⟨2,.phase⟩,⟨3,.phase⟩,⟨4,.phase⟩,⟨5,.phase⟩,⟨6,.phase⟩],none⟩,⟨some 71,.fieldAddr 88 (.tmp 70) 1,0,"session.go:84",#[⟨7,.data⟩,⟨0,.phase⟩,⟨1,.phase⟩,⟨2,.phase⟩,⟨3,.phase⟩,⟨4,.phase⟩,⟨5,.phase⟩,⟨6,.phase⟩],none⟩,⟨none,.store 86 (.tmp 71) (.tmp 69),0,"session.go:84",#[⟨8,.data⟩,⟨6,.data⟩,⟨6,.chain⟩,⟨0,.phase⟩,⟨1,.phase⟩,⟨2,.phase⟩,⟨3,.phase⟩,⟨4,.phase⟩,⟨5,.phase⟩,⟨6,.phase⟩],none⟩]
section
variable (ks ka sb r G p:Nat)(buf:List UInt8)(bo:Option kr)(bc:Nat)(nd fa la tt se:Int)(Bs:iH->Prop)
def Aw:Nat->iJ
 |0=> lq (some ⟨sb,0,none⟩)
 |1=> lq (some ⟨sb,0,none⟩)
 |2=> lq (some ⟨sb,0,none⟩)
 |3=> lq (some ⟨sb,1,none⟩)
 |4=> lh bo buf.length bc
 |5=> lg lH p
 |7=> lq (some ⟨sb,0,none⟩)
 |8=> lq (some ⟨sb,1,none⟩)
 |_=>jo
structure a1r(D:Nat->Bool)(vs:Nat->iJ)(w:iH):Prop where
 mh:zy ks ka sb r G p buf bo bc nd fa la tt se Bs (D 6) (D 9) (vs 6) w
 val:∀j,(j !=6)=true->D j=true->vs j=Aw sb p buf bo bc j
variable {ks ka sb r G p buf bo bc nd fa la tt se Bs}
theorem Pb{id:Nat}{Q:Exit->Act->iH->Prop}{V:iH}(ht2:a0.tmps.getD 2 jo=lq (some ⟨ks,0,none⟩))(Ch:a0.tmps.getD 7 jo=lq (some ⟨ka,0,none⟩))(hp:p<=buf.length/\buf.length<=100000)(hBg:∀W Y,Bs W->W.grownBy Y (jD bo buf.length bc).ownBlock->Bs Y)(Ja:∀W i v,Bs W->Bs (W.setCell ⟨sb,i,none⟩ v))(ZT:∀W v,Bs W->mI W G uq v (buf.drop p)->∀b,v.ownBlock=some b->b≠sb)(hsz:a0.tmps.size=73)(hI0:∀vs:Nat->iJ,(λw=>zy ks ka sb r G p buf bo bc nd fa la tt se Bs false false (vs 6) w) V.drew)(Z:∀(vs:Nat->iJ) (w:iH),zy ks ka sb r G p buf bo bc nd fa la tt se Bs true true (vs 6) w->Q .normal {a0 with tmps:=(((((((((a0.tmps.setIfInBounds 63 (lq (some ⟨sb,0,none⟩))).setIfInBounds 64 (lq (some ⟨sb,0,none⟩))).setIfInBounds 65 (lq (some ⟨sb,0,none⟩))).setIfInBounds 66 (lq (some ⟨sb,1,none⟩))).setIfInBounds 67 (lh bo buf.length bc)).setIfInBounds 68 (lg lH p)).setIfInBounds 69 (vs 6)).setIfInBounds 70 (lq (some ⟨sb,0,none⟩))).setIfInBounds 71 (lq (some ⟨sb,1,none⟩)))} w):
  (jJ id Dh.toArray true).wp iG Q a0 V:=by
 refine l6 10 73 (a1r ks ka sb r G p buf bo bc nd fa la tt se Bs) lQ hsz lQ (.inl rfl) lQ ?_ ?_ ?_;.exact oo
 .refine pO λA ak=> ?_
  clear hI0 Z hsz;replace ht2:=iF ht2;replace Ch:=iF Ch;replace hp:=iF hp;replace hBg:=iF hBg;replace Ja:=iF Ja;replace ZT:=iF ZT;unfold Dh;simp only[ji,jC,o6];refine⟨?_,?_,?_,?_,?_,?_,?_,?_,?_,?_,trivial⟩<;>(intro D vs a w K hI hd E hw2 C O;subst ak;unfold Dh);have e2:=(C 2 lM).trans ht2.out;have hB:=hI.mh.sv;have c0:=hB.c0;clear hB;rotate_left;have e2:=(C 2 lM).trans ht2.out;have hB:=hI.mh.sv;have c0:=hB.c0;clear hB;rotate_left;have ay:=fe C hI.val E 64 1;rotate_left;have az:=fe C hI.val E 65 2;rotate_left;have aa:=fe C hI.val E 66 3;simp only[Aw]at aa;have hB:=hI.mh.ss;rw[hw2 9 lM lQ,if_neg lM]at hB;have c0:=hB.cell 1;simp only[Cy,iP,iO,iM]at c0;clear hB;rotate_left;have aC:=(C 7 lM).trans Ch.out;have hB:=hI.mh.at_;have c0:=hB.c0;clear hB;rotate_left
  .have hp:=hp.out
   have hBg:=hBg.out;have ae:=fe C hI.val E 67 4;have af:=fe C hI.val E 68 5;simp only[Aw]at ae af;have J:=hI.mh;have ag:D 9=false:=by cases h:D 9 with|false=>rfl|true=>exact absurd (hI.mh.dn h) (by rw[hd];decide)
   rw[hd,ag]at J;have au:=UM G _ buf p w (J.ob rfl) hp.1 hp.2 J.ne.2.2.2.1;rw[if_pos (by rfl)];go_simp;refine au.mono ?_;rintro e aD ⟨v6,rfl,ho,hg,av⟩;refine O v6 _ _ rfl ⟨?_,Ko rfl hI.val⟩;rw[l7,lT D (show 9≠6 by decide),nI,ag];exact J.call hBg hg ho av
  have aA:=fe C hI.val E 63 0;rotate_left;have aB:=fe C hI.val E 70 7;rotate_left
  .have Ja:=Ja.out
   have ZT:=ZT.out;have d6:=E 6 lM lQ;have N:a.tmps.getD 69 jo=vs 6:=C 69 lM;have ah:=fe C hI.val E 71 8;simp only[Aw]at ah;have J:=hI.mh;rw[hd,d6]at J;obtain⟨oa,cap,ai⟩:=(J.od rfl).1;have aj:=ZT w _ J.bs (J.od rfl).2;have ax:=J.put Ja aj;have N:=N.trans ai;have hB:=J.ss;have c0:=hB.cell 1;have aF:=hB.free 1;simp only[Cy,j4,if_false,iP,iO,iM]at c0;clear hB;go_simp;refine O jo _ _ rfl ⟨?_,ry hI.val⟩;rw[l7,lT D (show 6≠9 by decide),l8 vs _ (show 6≠9 by decide),d6];rw[<-jS,<-ai];exact ax
  all_goals
   try simp only[Aw]at*
   go_simp;exact O _ _ _ rfl ⟨hI.mh,ry hI.val⟩
 .intro D vs w U hI
  have E:=hI.mh;rw[U 6 lM]at E;rw[U 9 lM]at E;have q:=Z vs w E;rw[mQ hI.val U];unfold Dh;exact om
end
theorem UQ{c:mU}{rows:List Row}{f:uN}{er:Nat}(h:Ef c rows f=.error er):er≠0:=by
 unfold Ef at h;split at h;.cases h;decide
 .split at h
  .rename_i e1 A
   have:=Ey A;cases h;split<;>omega
  .cases h
theorem Q8{c:mU}{rows:List Row}{s:ByteArray}{mt:Option (Nat×MS)}{er:Nat}(h:(qG c rows s mt).1=.error er):er≠0:=by
 unfold qG at h;split at h
 .rename_i e1 m2 A
  have:=Bh c s mt e1 (by rw[A]);cases h;omega
 .rename_i y m2 A
  split at h
  .rename_i e1 C
   have:=UQ C;cases h;exact this
  .cases h
theorem UR{c:mU}(hc:mK c=true){rows:List Row}{s:ByteArray}(hs:s.size<=100000){mt:Option (Nat×MS)}{y:Cb×Nat}(h:(qG c rows s mt).1=.ok y):0<y.2/\y.2<=s.size:=by
 unfold qG at h;split at h;.cases h
 .rename_i z m2 A
  have:=Eg hc hs (y:=z) (mt:=mt) (by rw[A]);split at h;.cases h
  .cases h;exact⟨this.1,this.2.1⟩
theorem Gj(c:mU)(rows:List Row)(s:ByteArray)(n p:Nat)(mt:Option (Nat×MS)){y:Cb×Nat}{m2:Option (Nat×MS)}(h:qG c rows (s.extract p s.size) mt=(.ok y,m2)):tK c rows s (n+1) p mt=⟨y.1::(tK c rows s n (p+y.2) m2).told,(tK c rows s n (p+y.2) m2).at_,(tK c rows s n (p+y.2) m2).err,(tK c rows s n (p+y.2) m2).mt⟩:=by
 rw[tK,h]
theorem KT(c:mU)(rows:List Row)(s:ByteArray)(n p:Nat)(mt:Option (Nat×MS)){er:Nat}{m2:Option (Nat×MS)}(h:qG c rows (s.extract p s.size) mt=(.error er,m2)):tK c rows s (n+1) p mt=⟨[],p,er,m2⟩:=by
 rw[tK,h]
structure CB(w0:iH)(G g kc kt ka kx sb r mb:Nat)(c:mU)(s:ByteArray)(p:Nat)(m:MS)(bo:Option kr)(bc:Nat)(buf:List UInt8)(nd fa la tt se:Int)(lv:iJ)(Lm:List Cx)(W:iH):Prop where
 nx:NxE kc (g+1) kt ka g sb r mb c s p m W
 ss:lN W sb (Cy r (lh bo buf.length bc) nd fa la tt se) Ir
 ob:mI W G uq (lh bo buf.length bc) buf
 lm:oh W (λd=>ka<d/\d≠kx) lv Lm
 kp:qp (λk=>k=sb\/k=mb\/(jD bo buf.length bc).ownBlock=some k) w0 W
 lt:w0.heap.size=g/\sb<g/\mb<g/\sb≠mb/\G<=sb/\G<=mb/\G<=g/\g+2<=kc/\g+2<=kt/\g+2<=ka/\kc<W.heap.size/\kt<W.heap.size/\ka<W.heap.size/\kc<ka/\kt<ka/\ka<kx
 bl:∀b,(jD bo buf.length bc).ownBlock=some b->G<=b/\b<g/\b≠sb/\b≠mb
section
variable {w0:iH}{G g kc kt ka kx sb r mb:Nat}{c:mU}{s:ByteArray}{p:Nat}{m m2:MS}{bo:Option kr}{bc:Nat}{buf:List UInt8}{nd fa la tt se:Int}{lv lv2:iJ}{Lm Lm2:List Cx}{W W':iH}
theorem CB.ZU(h:CB w0 G g kc kt ka kx sb r mb c s p m bo bc buf nd fa la tt se lv Lm W){F:Nat->Prop}(k:qp F W W')(hF:∀d,F d->ka<d)(hl:oh W' (λd=>ka<d/\d≠kx) lv2 Lm2):CB w0 G g kc kt ka kx sb r mb c s p m bo bc buf nd fa la tt se lv2 Lm2 W':=by
 have l:=h.lt;have n:=h.nx;have q:∀{d:Nat}{cs:Array iJ}{t:jg},lN W d cs t->(d<g+2\/d=kc\/d=kt\/d=ka)->lN W' d cs t:=λhB hd=>k.blk hB λA=>by have:=hF _ A;omega
 refine⟨⟨q n.cf lK,q n.mv lK,q n.tx lK,q n.at_ lK,q n.sv lK,⟨?_,jq n.se.2 k.size⟩,⟨q n.mm.1 lK,n.mm.2⟩,n.ne⟩,q h.ss lK,h.ob.kp k λb hb A=>by have:=hF _ A;have:=h.bl b hb;omega,hl,?_,?_,h.bl⟩
 .have:=k.block sb n.se.2 λA=>by have:=hF _ A;omega
  simp only[kZ,this];exact n.se.1
 .exact h.kp.trans k λd hd A=>by have:=hF _ A;omega
 .have:=k.size
  omega
theorem CB.below(h:CB w0 G g kc kt ka kx sb r mb c s p m bo bc buf nd fa la tt se lv Lm W)(hb:iK W.heap.size W W'):CB w0 G g kc kt ka kx sb r mb c s p m bo bc buf nd fa la tt se lv Lm W':=
 h.ZU (F:=λ_=>False) (qp.of hb) (λ_ h=>h.elim) (oh.keep h.lm hb.size (λd hd _=>hb.block d hd) λ_ _ h=>h)
theorem CB.next{E:Nat}(h:CB w0 G g kc kt ka kx sb r mb c s p m bo bc buf nd fa la tt se lv Lm W)(A:mH ka mb W W')(N:nD W' (some (mb,m2)))(O:lN W' ka #[lg lH E] InT):CB w0 G g kc kt ka kx sb r mb c s E m2 bo bc buf nd fa la tt se lv Lm W':=by
 have l:=h.lt;have n:=h.nx;have q:∀{d:Nat}{cs:Array iJ}{t:jg},lN W d cs t->d≠ka->d≠mb->lN W' d cs t:=λhB Q U=>A.blk hB Q U
 refine⟨⟨q n.cf lK lK,q n.mv lK lK,q n.tx lK lK,O,q n.sv lK lK,⟨?_,jq n.se.2 A.size⟩,N,n.ne⟩,q h.ss lK lK,?_,oh.keep h.lm A.size (λd hd J=>A.block d hd (by have:=J.1;omega) (by have:=J.1;omega)) λ_ _ h=>h,?_,?_,h.bl⟩
 .have:=A.block sb n.se.2 lK lK
  simp only[kZ,this];exact n.se.1
 .exact h.ob.kp (F:=λd=>d=ka\/d=mb) (qp.of2 A (λ_=> .inl rfl) (λ_=> .inr rfl)) λb hb C=>by have:=h.bl b hb;omega
 .exact h.kp.trans (F':=λd=>d=ka\/d=mb) (qp.of2 A (λ_=> .inl rfl) (λ_=> .inr rfl)) λd hd C=>by
   rcases C with C|C
   .omega
   .exact .inr (.inl C)
 .have:=A.size
  omega
theorem CB.low(h:CB w0 G g kc kt ka kx sb r mb c s p m bo bc buf nd fa la tt se lv Lm W):iK G w0 W:=h.kp.below (λd hd A=>by
 have l:=h.lt;rcases A with A|A|A
 .omega
 .omega
 .have:=h.bl d A;omega) (by have:=h.lt;omega)
theorem UT{G ka mb:Nat}{w0 W W':iH}(h:iK G w0 W)(A:mH ka mb W W')(C:G<=ka)(E:G<=mb)(J:G<=W.heap.size):iK G w0 W':=Ew h A C E J
end
def lenOf:iJ->Nat
 | lh _ n _=>n
 |_=>0
structure a1s(G sb r mb:Nat)(c:mU)(R:WW)(bo:Option kr)(bc:Nat)(buf:List UInt8)(nd fa la tt se:Int)(w:iH)(lv:iJ)(w':iH):Prop where
 msgs:∃Lm:List Cx,(∃oa cap,lv=lh oa Lm.length cap)/\oh w' (λd=>w.heap.size<=d) lv Lm/\Lm.map (λy=>y.m)=R.told
 ses:∃bo' bc',lN w' sb (Cy r (lh bo' (buf.drop R.at_).length bc') (if R.err=2 then(EC c ((⟨buf.toArray⟩:ByteArray).extract R.at_ (⟨buf.toArray⟩:ByteArray).size):Int)else nd) (if R.err=2 then fa else(R.err:Int)) la tt se) Ir/\mI w' G uq (lh bo' (buf.drop R.at_).length bc') (buf.drop R.at_)/\∀b,(jD bo' (buf.drop R.at_).length bc').ownBlock=some b->b≠sb
 mt:nD w' R.mt
 kp:qp (λk=>k=sb\/k=mb\/(jD bo buf.length bc).ownBlock=some k) w w'
def wE(G sb r mb:Nat)(c:mU)(rows:List Row)(m:MS)(bo:Option kr)(bc:Nat)(buf:List UInt8)(nd fa la tt se:Int)(w:iH)(e:Ending)(w':iH):Prop:=
 if(buf.length:Int)<nd then e=lF (lh none 0 0)/\iK w.heap.size w w'
 else∃lv,e=lF lv/\a1s G sb r mb c (tK c rows ⟨buf.toArray⟩ (buf.length+1) 0 (some (mb,m))) bo bc buf nd fa la tt se w lv w'
theorem XM(l:List UInt8):(⟨l.toArray⟩:ByteArray).size=l.length:=kV
theorem EE{w:iH}{G:Nat}{v:iJ}{l:List UInt8}(h:mI w G uq v l){b:Nat}(hb:v.ownBlock=some b){cs:Array iJ}{sb:Nat}(hs:lN w sb cs Ir):b≠sb:=by
 rintro rfl;rcases h.2 with⟨rfl,_⟩|⟨g,cap,C,rfl,_,hg,_⟩
 .cases hb
 .cases hb
  have A:w.heap[g]? =some (lG cs Ir (0,0)):=hs;rw[A]at hg;have:Ir=uq:=by
   injection hg with e
   injection e
  exact absurd this lM
structure vC(w0:iH)(sb mb ka:Nat)(m:MS)(bv lv:iJ)(Lm:List Cx)(W:iH):Prop where
 lm:oh W (λd=>ka<d) lv Lm
 mt:nD W (some (mb,m))
 kp:qp (λk=>k=sb\/k=mb\/bv.ownBlock=some k) w0 W
 ss:∃cs,lN W sb cs Ir
 lt:w0.heap.size<=ka/\sb<w0.heap.size/\mb<w0.heap.size/\sb≠mb/\∀b,bv.ownBlock=some b->b<w0.heap.size/\b≠sb/\b≠mb
section
variable {w0:iH}{sb mb ka:Nat}{m:MS}{bv lv:iJ}{Lm:List Cx}{W W':iH}
theorem vC.ZU(h:vC w0 sb mb ka m bv lv Lm W){F:Nat->Prop}(k:qp F W W')(hF:∀d,F d->d=sb\/bv.ownBlock=some d)(hs:∃cs,lN W' sb cs Ir):vC w0 sb mb ka m bv lv Lm W':=by
 have l:=h.lt;have C:∀d,F d->d<w0.heap.size/\d≠mb:=λd hd=>by
  rcases hF d hd with e|e
  .omega
  .have:=l.2.2.2.2 d e;omega
 refine⟨oh.keep h.lm k.size (λd hd E=>k.block d hd λA=>by have:=C d A;omega) λ_ _ h=>h,⟨k.blk h.mt.1 λA=>(C _ A).2 rfl,h.mt.2⟩,h.kp.trans k λd _ A=> ?_,hs,l⟩;rcases hF d A with e|e
 .exact .inl e
 .exact .inr (.inr e)
theorem vC.below(h:vC w0 sb mb ka m bv lv Lm W)(hb:iK W.heap.size W W'):vC w0 sb mb ka m bv lv Lm W':=
 h.ZU (F:=λ_=>False) (qp.of hb) (λ_ h=>h.elim) (h.ss.imp λ_ k=>Below.blk hb k k.lt)
theorem vC.put(h:vC w0 sb mb ka m bv lv Lm W)(i:Nat)(v:iJ):vC w0 sb mb ka m bv lv Lm (W.setCell ⟨sb,i,none⟩ v):=
 h.ZU (F:=λd=>d=sb) (qp.set (F:=λd=>d=sb) (p:=⟨sb,i,none⟩) (qp.refl _ W) (λ_=>rfl) v) (λ_ h=> .inl h) (h.ss.elim λcs k=>⟨_,k.set i v⟩)
theorem vC.grow(h:vC w0 sb mb ka m bv lv Lm W)(hg:W.grownBy W' bv.ownBlock):vC w0 sb mb ka m bv lv Lm W':=
 h.ZU (F:=λd=>bv.ownBlock=some d) (qp.grown hg λ_ e=>e) (λ_ h=> .inr h) (h.ss.imp λ_ k=>mY k hg λx A=>(h.lt.2.2.2.2 x A).2.1)
end
def Fy(w0:iH)(G sb mb ka:Nat)(m:MS)(bo:Option kr)(bc:Nat)(buf:List UInt8)(lv:iJ)(Lm:List Cx)(W:iH):Prop:=
 vC w0 sb mb ka m (lh bo buf.length bc) lv Lm W/\mI W G uq (lh bo buf.length bc) buf/\G<=W.heap.size/\G<=sb/\w0.heap.size<=W.heap.size/\ka≠sb
section
variable {w0:iH}{G g kc kt ka kx sb r mb n2 q:Nat}{c:mU}{s:ByteArray}{m:MS}{bo:Option kr}{bc:Nat}{buf:List UInt8}{nd fa la tt se:Int}{lv v6:iJ}{Lm:List Cx}{W W':iH}{TOT:WW}{e1:Nat}
theorem Fy.below(h:Fy w0 G sb mb ka m bo bc buf lv Lm W)(hb:iK W.heap.size W W'):Fy w0 G sb mb ka m bo bc buf lv Lm W':=
 ⟨h.1.below hb,h.2.1.kp (qp.of (F:=λ_=>False) hb) λ_ _ h=>h,je h.2.2.1 hb.size,h.2.2.2.1,je h.2.2.2.2.1 hb.size,h.2.2.2.2.2⟩
theorem Fy.put(h:Fy w0 G sb mb ka m bo bc buf lv Lm W)(i:Nat)(v:iJ):Fy w0 G sb mb ka m bo bc buf lv Lm (W.setCell ⟨sb,i,none⟩ v):=
 ⟨h.1.put i v,h.2.1.kp (qp.set (F:=λd=>d=sb) (p:=⟨sb,i,none⟩) (qp.refl _ W) (λ_=>rfl) v) λb hb e=>(h.1.lt.2.2.2.2 b hb).2.1 e,by simpa [jf]using h.2.2.1,h.2.2.2.1,by simpa [jf]using h.2.2.2.2.1,h.2.2.2.2.2⟩
theorem CB.fin(h:CB w0 G g kc kt ka kx sb r mb c s q m bo bc buf nd fa la tt se lv Lm W):Fy w0 G sb mb ka m bo bc buf lv Lm W:=by
 have l:=h.lt;refine⟨⟨oh.keep h.lm (iI _) (λ_ _ _=>rfl) λ_ _ h=>h.1,h.nx.mm,h.kp,⟨_,h.ss⟩,lK,lK,lK,lK,λb hb=> ?_⟩,h.ob,lK,lK,lK,lK⟩;have:=h.bl b hb;omega
theorem CB.a1t(h:CB w0 G g kc kt ka kx sb r mb c s q m bo bc buf nd fa la tt se lv Lm W):Cz g kc kt ka sb r c s q (lh bo buf.length bc) nd fa la tt se (Fy w0 G sb mb ka m bo bc buf lv Lm) W:=by
 have l:=h.lt;exact⟨h.nx.sv,h.ss,h.nx.cf,h.nx.tx,h.nx.at_,h.fin,lK,lK,lK,lK⟩
theorem Pf(A:lN W g #[lq (some ⟨sb,0,none⟩)] Nq)(C:lN W ka #[lg lH q] InT)(E:lN W sb (Cy r (lh bo buf.length bc) nd fa la tt se) Ir)(h:Fy w0 G sb mb ka m bo bc buf lv Lm W)(hg:w0.heap.size=g):zy g ka sb r G q buf bo bc nd fa la tt se (vC w0 sb mb ka m (lh bo buf.length bc) lv Lm) false false v6 W:=by
 have l:=h.1.lt;refine⟨A,C,E,λ_=>h.2.1,(λh=>by cases h),h.1,(λh=>by cases h),lK,h.2.2.2.2.2,h.2.2.2.1,h.2.2.1,λb hb=> ?_⟩;have:=l.2.2.2.2 b hb;omega
theorem CB.Pf(h:CB w0 G g kc kt ka kx sb r mb c s q m bo bc buf nd fa la tt se lv Lm W)(e:Int):zy g ka sb r G q buf bo bc nd e la tt se (vC w0 sb mb ka m (lh bo buf.length bc) lv Lm) false false v6 (W.setCell ⟨sb,3,none⟩ (lg lH e)):=by
 have l:=h.lt;exact Go.Proofs.YtamfcjmhnndbdaaGreatDoor.Pf (h.nx.sv.setOther (a:=⟨sb,3,none⟩) (by show g≠sb;omega) _) (h.nx.at_.setOther (a:=⟨sb,3,none⟩) (by show ka≠sb;omega) _) (h.ss.set 3 _) (h.fin.put 3 _) l.1
theorem XN{rows:List Row}{mm:MS}(A:¬(buf.length:Int)<nd)(J:tK c rows ⟨buf.toArray⟩ (buf.length+1) 0 (some (mb,mm))=⟨Lm.map λy=>y.m,q,e1,some (mb,m)⟩)(h:zy g ka sb r G q buf bo bc (if e1=2 then(EC c ((⟨buf.toArray⟩:ByteArray).extract q (⟨buf.toArray⟩:ByteArray).size):Int)else nd) (if e1=2 then fa else(e1:Int)) la tt se (vC w0 sb mb ka m (lh bo buf.length bc) lv Lm) true true v6 W):
  wE G sb r mb c rows mm bo bc buf nd fa la tt se w0 (lF lv) W:=by
 unfold wE;rw[if_neg A];obtain⟨⟨C,E,rfl⟩,ho⟩:=h.od rfl;refine⟨lv,rfl,?_⟩;rw[J];exact⟨⟨Lm,h.bs.lm.slice,oh.keep h.bs.lm (iI _) (λ_ _ _=>rfl) λd _ hd=>by have:=h.bs.lt.1;omega,rfl⟩,⟨C,E,h.ss,ho,λb hb=>h.bs.ss.elim λcs k=>EE ho hb k⟩,h.bs.mt,h.bs.kp⟩
end
theorem Pg{p:Prop}(h:p:=by
 clear hF5;simp only[iN,iR,iT];go_wp2_with fail;try go_returns
 exact HP5.out):p:=h
theorem XO(G sb r mb bn bi:Nat)(c:mU)(L:List mW)(m:MS)(bo:Option kr)(bc:Nat)(buf:List UInt8)(nd fa la tt se:Int)(w:iH)(hc:mK c=true)(df:c.wf)(aX:lN w sb (Cy r (lh bo buf.length bc) nd fa la tt se) Ir)(aY:mI w G uq (lh bo buf.length bc) buf)(aZ:nD w (some (mb,m)))(dh:∀b,(jD bo buf.length bc).ownBlock=some b->b≠sb/\b≠mb)(aI:sb≠mb/\G<=sb/\G<=mb)(hlen:buf.length<=100000)(bg:∀W,iK G w W->ow r bn bi c L W/\oG W/\yK W):
  iU iG 34 #[lq (some ⟨sb,0,none⟩),lq (some ⟨mb,0,none⟩)] w (wE G sb r mb c (L.map λx=>x.r) m bo bc buf nd fa la tt se w):=by
 obtain⟨g,hg⟩:=lV w.heap.size;obtain⟨s,bq⟩:∃s,(⟨buf.toArray⟩:ByteArray)=s:=⟨_,rfl⟩;have hsz:s.size=buf.length:=bq▸XM buf;obtain⟨gJ,dw⟩:=lV buf.length;have dx:sb<g/\mb<g:=⟨hg▸aX.lt,hg▸lN.lt aZ.1⟩;have bu:=λb hb=>mI.blk aY b hb
 have dz:iW (∀W,(w.alloc (lG #[lq (some ⟨sb,0,none⟩)] Nq)).alloc (lG #[lq (some ⟨mb,0,none⟩)] XJ)=W->lN W g #[lq (some ⟨sb,0,none⟩)] Nq/\lN W (g+1) #[lq (some ⟨mb,0,none⟩)] XJ/\iK g w W/\W.heap.size=g+2):=iF λW aC=>by
  subst aC;have dP:=(iL w.heap.size w).alloc (iI _) (lG #[lq (some ⟨sb,0,none⟩)] Nq);have a2:=dP.alloc lU (lG #[lq (some ⟨mb,0,none⟩)] XJ);have ax:=lN.new w #[lq (some ⟨sb,0,none⟩)] Nq;have ay:=lN.new (w.alloc (lG #[lq (some ⟨sb,0,none⟩)] Nq)) #[lq (some ⟨mb,0,none⟩)] XJ;rw[show(w.alloc (lG #[lq (some ⟨sb,0,none⟩)] Nq)).heap.size=g+1 by simp[hg]]at ay;rw[hg]at ax;exact⟨ax.alloc _,ay,hg▸a2,by simp[hg]⟩
 have bz:=iF (iQ aX (iQ aY (iQ aZ (iQ dh (iQ aI (iQ dx bu))))));have bA:=iF bg;have bZ:=iF (iQ hc df);have U:=iF (iQ bq hsz);have dA:iW (G<=g):=iF lK;have af:=iF hlen;obtain⟨dQ,dR⟩:=lV (wE G sb r mb c (L.map λx=>x.r) m bo bc buf nd fa la tt se w);have eu:=iF dR;have eB:=iF dw;rw[dR];clear aX aY aZ dh aI hlen bg hc df bq hsz dR dx bu dw;go_in;go_upto_region 1 with fail;obtain⟨dB,dC,dD,dE⟩:=dz.out _ rfl;generalize (w.alloc _).alloc _=w1 at*;have aV:=iF (iQ dB (iQ dC (iQ dD dE)));clear dz dB dC dD dE;have hdr:lN w1.drew g #[lq (some ⟨sb,0,none⟩)] Nq/\lN w1.drew (g+1) #[lq (some ⟨mb,0,none⟩)] XJ/\iK g w w1.drew/\w1.drew.heap.size=g+2:=⟨aV.out.1,aV.out.2.1,aV.out.2.2.1.trans ((mf w1).mono (by have:=aV.out.2.2.2;omega)),aV.out.2.2.2⟩;rw[<-eB.out]at*;refine ZR (ks:=g) (sb:=sb) (r:=r) (bo:=bo) (bn:=buf.length) (bc:=bc) (nd:=nd) (fa:=fa) (la:=la) (tt:=tt) (se:=se) (Bs:=λW=>lN W g #[lq (some ⟨sb,0,none⟩)] Nq/\lN W (g+1) #[lq (some ⟨mb,0,none⟩)] XJ/\iK g w W/\W.heap.size=g+2) (ht2:=by rfl) (hsz:=by rfl) (hI0:=λ_=>⟨hdr,hdr.1,Below.blk hdr.2.2.1 bz.out.1 bz.out.2.2.2.2.2.1.1⟩) ?_;intro vs cz hF;have C:=iF hF.bs;clear hF hdr aV;simp only[iN,iR,iT];by_cases E:(buf.length:Int)<nd
 .have t0:decide ((buf.length:Int)<nd)=true:=by simp[E]
  have dS:=iF E;rw[t0];clear E t0;go_wp2_with fail;try go_returns
  rw[<-eu.out];unfold wE;rw[if_pos dS.out];exact⟨rfl,hg.symm▸C.out.2.2.1⟩
 .have t0:decide ((buf.length:Int)<nd)=false:=by simp[E]
  have dS:=iF E;rw[t0];clear E;have aJ:∀W,iK g w W->lN W sb (Cy r (lh bo buf.length bc) nd fa la tt se) Ir/\mI W G uq (lh bo buf.length bc) buf/\nD W (some (mb,m)):=λW hb=>by
   obtain⟨e1,e2,e3,e4,e5,dU,eD⟩:=bz.out;exact⟨Below.blk hb e1 dU.1,mI.kp e2 (qp.of (F:=λ_=>False) (hg.symm▸hb)) (λ_ _ h=>h),⟨Below.blk hb e3.1 dU.2,e3.2⟩⟩
  have az:=iF aJ;clear aJ;have c1:cz.cell? ⟨sb,0,none⟩=some (lq (some ⟨r,0,none⟩)):=(az.out _ C.out.2.2.1).1.cell 0;have c2:cz.cell? ⟨g,0,none⟩=some (lq (some ⟨sb,0,none⟩)):=C.out.1.cell 0;have eF:=iF (EB r bn bi c L cz (bA.out cz (C.out.2.2.1.mono dA.out)).1);go_wp2_with fail;refine eF.out.mono ?_;rintro e w2 ⟨rfl,aA⟩;obtain⟨kc,dF⟩:=lV w2.heap.size;have eG:iW (∀W,w2.alloc (lG #[lg lH c.fmt,lg lJ c.mag,lg lH c.nK,lg lH c.oF,lg lH c.dep,lg lH c.mX] rC)=W->lN W g #[lq (some ⟨sb,0,none⟩)] Nq/\lN W (g+1) #[lq (some ⟨mb,0,none⟩)] XJ/\iK g w W/\g+2<=kc/\W.heap.size=kc+1/\lN W kc #[lg lH c.fmt,lg lJ c.mag,lg lH c.nK,lg lH c.oF,lg lH c.dep,lg lH c.mX] rC):=iF λW aC=>by
   subst aC;have a:=(iL w2.heap.size w2).alloc (iI _) (lG #[lg lH c.fmt,lg lJ c.mag,lg lH c.nK,lg lH c.oF,lg lH c.dep,lg lH c.mX] rC);obtain⟨aD,ag,bB,fQ⟩:=C.out;have gP:=aA.size;have ax:=Below.blk aA aD aD.lt;have ay:=Below.blk aA ag ag.lt;exact⟨Below.blk a ax ax.lt,Below.blk a ay ay.lt,bB.trans ((aA.mono lK).trans (a.mono lK)),lK,by simp[dF],dF▸lN.new w2 _ _⟩
  clear aA eF c1 c2 t0;go_upto_region 4 with fail;have eH:=eG.out _ rfl;generalize w2.alloc _=w3 at*;have ak:=iF eH;clear eH eG C;have fT:w3.cell? ⟨g,0,none⟩=some (lq (some ⟨sb,0,none⟩)):=ak.out.1.cell 0;have fU:w3.cell? ⟨sb,1,none⟩=some (lh bo buf.length bc):=(az.out _ ak.out.2.2.1).1.cell 1;have eO:(convert RF Ll (lh bo buf.length bc)).run iG w3=.ok (ll s) w3:=U.out.1▸mI.string RD (az.out _ ak.out.2.2.1).2.1;have bC:iW (∀W,(w3.alloc (lG #[ll s] Ll)).alloc (lG #[lg lH 0] InT)=W->∀kx,kc+2<kx->CB w G g kc (kc+1) (kc+2) kx sb r mb c s 0 m bo bc buf nd fa la tt se (lh none 0 0) [] W/\W.heap.size=kc+3):=iF λW aC kx bD=>by
   subst aC;obtain⟨aD,ag,bB,fQ,ai,bE⟩:=ak.out;obtain⟨e1,e2,e3,e4,e5,dU,eD⟩:=bz.out;have dP:=(iL w3.heap.size w3).alloc (iI _) (lG #[ll s] Ll);have a2:=dP.alloc lU (lG #[lg lH 0] InT);have ax:=lN.new w3 #[ll s] Ll;have ay:=lN.new (w3.alloc (lG #[ll s] Ll)) #[lg lH 0] InT;rw[show(w3.alloc (lG #[ll s] Ll)).heap.size=kc+2 by simp[ai]]at ay;rw[ai]at ax;have bF:iK g w ((w3.alloc (lG #[ll s] Ll)).alloc (lG #[lg lH 0] InT)):=bB.trans (a2.mono lK);obtain⟨cB,dV,fV⟩:=az.out _ bF;have gK:=dA.out;refine⟨⟨⟨Below.blk a2 bE bE.lt,Below.blk a2 ag ag.lt,ax.alloc _,ay,Below.blk a2 aD aD.lt,⟨cB.cell 0,cB.lt⟩,fV,lK⟩,cB,dV,oh.nil _ _,qp.of (hg.symm▸bF),?_,λb hb=> ?_⟩,by simp[ai]⟩;.simp[ai];omega
   .have:=eD b hb;have:=e4 b hb;omega
  have gL:=ak.out.2.2.2.2.1;go_upto_region 8 with fail;have dG:=λkx hk=>(bC.out _ rfl kx hk).1
  have dH:=(bC.out _ rfl (kc+3) lK).2;generalize (w3.alloc _).alloc _=w4 at*;rw[show kc+1+1=kc+2 from rfl];have bG:=iF (λkx hk=>(dG kx hk:CB w G g kc (kc+1) (kc+2) kx sb r mb c s 0 m bo bc buf nd fa la tt se (lh none 0 0) [] w4));have bH:=iF dH;clear dG dH bC ak fU fT eO az;have bI:∀(kx p:Nat)(m:MS)(lv:iJ)(Lm:List Cx)(W:iH),CB w G g kc (kc+1) (kc+2) kx sb r mb c s p m bo bc buf nd fa la tt se lv Lm W->p<=s.size->iU iG 62 #[lq (some ⟨kc,0,none⟩),lq (some ⟨g+1,0,none⟩),lq (some ⟨kc+1,0,none⟩),lq (some ⟨kc+2,0,none⟩),lq (some ⟨g,0,none⟩)] W (EA (kc+2) mb p (qG c (L.map λx=>x.r) (s.extract p s.size) (some (mb,m))) W):=λkx p m lv Lm W h hp=>
   UK kc (g+1) (kc+1) (kc+2) g sb r mb bn bi c L s p m W h.nx bZ.out.1 bZ.out.2 ⟨hp,by rw[U.out.2];exact af.out⟩ λfZ gm=>bA.out fZ (UT h.low gm (by have:=h.lt;omega) (by have:=h.lt;omega) (by have:=h.lt;omega))
  have dI:=iF bI;have bJ:=iF (bI (kc+3) 0 m _ _ w4 (bG.out _ lK) (jy _));clear bI;obtain⟨⟨N,eP⟩,aK⟩:∃R,qG c (L.map λx=>x.r) (s.extract 0 s.size) (some (mb,m))=R:=⟨_,rfl⟩;rw[aK]at bJ;have eQ:=iF aK;have aL:=Bp c (L.map λx=>x.r) (s.extract 0 s.size) (some (mb,m));rw[aK]at aL;obtain⟨cK,rfl⟩:∃cK,eP=some (mb,cK):=by
   cases eP with
   |none=>cases aL
   |some q=>obtain⟨cB,dV⟩:=q;cases aL;exact⟨dV,rfl⟩
  clear aK aL;go_wp2_with fail;refine bJ.out.mono ?_;unfold EA;dsimp only;rintro e w5 ⟨ov,cv,bK,rfl,O,dJ,au,bL⟩;have dK:=iF (λkx hk=>(bG.out kx hk).next bL dJ au);obtain⟨kx,bD⟩:=lV w5.heap.size;have aF:kc+2<kx:=by have:=bL.size;have:=bH.out;omega
  have dL:iW (∀W,w5.alloc (lG #[ll (mN (pU N)),ll (mT (pU N)),lu (mL (pU N)),lh ov (mS (pU N)).length cv] wX)=W->CB w G g kc (kc+1) (kc+2) kx sb r mb c s (goR 0 N) cK bo bc buf nd fa la tt se (lh none 0 0) [] W/\lN W kx #[ll (mN (pU N)),ll (mT (pU N)),lu (mL (pU N)),lh ov (mS (pU N)).length cv] wX/\lX W (λd=>kc+2<d/\d≠kx/\(jD none 0 0).ownBlock≠some d) (lh ov (mS (pU N)).length cv) (mS (pU N))):=iF λW aC=>by
   subst aC;have a:=(iL w5.heap.size w5).alloc (iI _) (lG #[ll (mN (pU N)),ll (mT (pU N)),lu (mL (pU N)),lh ov (mS (pU N)).length cv] wX);refine⟨(dK.out kx aF).below a,bD▸lN.new w5 _ _,Shape.lY.keep O a.size (λd hd Y=>⟨by have:w4.heap.size<=d:=Y;have:=bH.out;omega,lK,by simp[jw]⟩) λd hd _=>a.block d hd⟩
  clear bK O dJ au bL bJ bG dK;go_upto_region 9 with fail;have dM:=dL.out _ rfl;generalize w5.alloc _=gQ at*;have eT:=iF dM;clear dM dL;obtain⟨dN,bM⟩:=lV (tK c (L.map λx=>x.r) s (buf.length+1) 0 (some (mb,m)));have bN:=iF bM;clear bM;have eU:iW (∀q (V:Option (Nat×MS)) er,(qG c (L.map λx=>x.r) (s.extract q s.size) V).1=.error er->er≠0):=iF λq V er h=>Q8 h
  have eX:iW (∀q (V:Option (Nat×MS)) y,q<=s.size->(qG c (L.map λx=>x.r) (s.extract q s.size) V).1=.ok y->0<y.2/\q+y.2<=s.size):=iF λq V y Y h=>by
   have hsz:=U.out.2;have hl:=af.out;have:=UR bZ.out.1 (s:=s.extract q s.size) (by simp only[ja];omega) h;simp only[ja]at this;omega
  have aG:iW (kc+2<kx):=iF aF;clear bH bD aF;obtain⟨gp,bO⟩:=lV (mE (pU N));rw[bO];have eY:=iF bO;clear bO
  go_loopw [9,11] (λlv ev dW=>∃(n:Nat) (oa:Option kr) (cap:Nat) (er:Nat),lv=lh oa n cap/\ev=lg lH er/\n<=100000/\iW (∃(q fuel:Nat) (V m2:MS) (R:Except Nat (Cb×Nat)) (Lm:List Cx) (ov:Option kr) (cv:Nat),Lm.length=n/\mE (pU R)=er/\q<=s.size/\s.size<=q+fuel/\n<=q/\qG c (L.map λx=>x.r) (s.extract q s.size) (some (mb,V))=(R,some (mb,m2))/\
   CB w G g kc (kc+1) (kc+2) kx sb r mb c s (goR q R) m2 bo bc buf nd fa la tt se (lh oa n cap) Lm dW/\lN dW kx #[ll (mN (pU R)),ll (mT (pU R)),lu (mL (pU R)),lh ov (mS (pU R)).length cv] wX/\lX dW (λd=>kc+2<d/\d≠kx/\(jD oa n cap).ownBlock≠some d) (lh ov (mS (pU R)).length cv) (mS (pU R))/\
   dN=⟨Lm.map (λy=>y.m)++(tK c (L.map λx=>x.r) s (fuel+1) q (some (mb,V))).told,(tK c (L.map λx=>x.r) s (fuel+1) q (some (mb,V))).at_,(tK c (L.map λx=>x.r) s (fuel+1) q (some (mb,V))).err,(tK c (L.map λx=>x.r) s (fuel+1) q (some (mb,V))).mt⟩)) (λlv _ _=>100001 -(lenOf lv))
  case atStart=>
   obtain⟨aD,ag,bB⟩:=eT.out;exact⟨0,none,0,gp,rfl,rfl,lK,iF ⟨0,buf.length,m,cK,N,[],ov,cv,rfl,eY.out,jy _,by rw[U.out.2];omega,iI _,eQ.out,aD,ag,bB,by rw[bN.out];rfl⟩⟩
  case round=>
   obtain⟨n,oa,cap,er,rfl,rfl,hn,eZ⟩:=hrel;obtain⟨q,fuel,V,m2,R,Lm,ov,cv,hl,ah,Y,aM,Z,aa,A,av,O,J⟩:=eZ.out;clear eZ;by_cases h0:er=0
   .obtain⟨y,rfl⟩:∃y,R=.ok y:=by
     cases R with
     |error e1=>exact absurd (ah.trans h0) (eU.out q _ e1 (by rw[aa]))
     |ok y=>exact⟨y,rfl⟩
    subst h0;obtain⟨hy0,hy1⟩:=eX.out q _ y Y (by rw[aa]);have av:lN wr kx #[ll y.1.name,ll (txt y.1.val.lab),lu y.1.val.lab.list,lh ov y.1.val.sub.length cv] wX:=av;have O:lX wr (λd=>kc+2<d/\d≠kx/\(jD oa n cap).ownBlock≠some d) (lh ov y.1.val.sub.length cv) y.1.val.sub:=O;have A:CB w G g kc (kc+1) (kc+2) kx sb r mb c s (q+y.2) m2 bo bc buf nd fa la tt se (lh oa n cap) Lm wr:=A;obtain⟨⟨b0,b1,gq,b3⟩,_⟩:=mg av;have fq:n+1<=100000:=by have:=U.out.2;have:=af.out;omega
    have C:=iF (iQ hl (iQ Y (iQ aM (iQ Z (iQ aa (iQ A (iQ av (iQ O (iQ J (iQ hy0 hy1))))))))));clear hl ah Y aM Z aa A av O J hy0 hy1;go_upto_region 11 with(at_builtin;go_loud (refine qN ZQ Iq rfl _ _ rfl (B:=0) (v:=lh oa n cap) (L:=Lm) (y:=(⟨y.1,ov,cv⟩:Cx)) rfl (C.out.2.2.2.2.2.1.lm.1.below ((iL _ wr).alloc (iI _) _)) rfl (lN.new wr #[ll y.1.name,ll (txt y.1.val.lab),lu y.1.val.lab.list,lh ov y.1.val.sub.length cv] wX) rfl (by simp[V3,Cx.u,Value.oneCell']) (by have:=C.out.1;omega) (jy _) ?_);intro cO fu w2 bP Q au dX)
    have aN:wr.grownBy w2 (jD oa n cap).ownBlock:=⟨Q.os,Q.tape,Q.output,by have:=Q.size;simp at this;omega,λd hd aI=>(Q.block d lW aI).trans (((iL wr.heap.size wr).alloc (iI _) _).block d hd)⟩;have aW:CB w G g kc (kc+1) (kc+2) kx sb r mb c s (q+y.2) m2 bo bc buf nd fa la tt se (lh (some ⟨cO,0,none⟩) (Lm.length+1) fu) (Lm++[⟨y.1,ov,cv⟩]) w2/\lN w2 kx #[ll y.1.name,ll (txt y.1.val.lab),lu y.1.val.lab.list,lh ov y.1.val.sub.length cv] wX:=by
     have A:=C.out.2.2.2.2.2.1;have aO:=A.lm;have fw:=C.out.2.2.2.2.2.2.1.lt;have cZ:=oh.push (x:=(⟨y.1,ov,cv⟩:Cx)) aO bP aN (au.imp id λe=>by rw[e];simp) C.out.2.2.2.2.2.2.2.1 (λd hd=>hd.2.2);refine⟨A.ZU (qp.grown aN (F:=λd=>(jD oa n cap).ownBlock=some d) λb hb=>hb) (λd hd=>(aO.2.1 d hd).1) (oh.keep cZ (iI _) (λ_ _ _=>rfl) λd _ hd=> ?_),mY C.out.2.2.2.2.2.2.1 aN λx gu=>(aO.2.1 x gu).2⟩;rcases hd with hd|hd|hd
     .exact hd
     .exact⟨hd.1,hd.2.1⟩
     .subst hd
      rcases au with ai|ai
      .exact aO.2.1 _ ai
      .have hk:kx<wr.heap.size:=fw
       have bE:d=wr.heap.size+1:=by rw[ai];simp
       have:=A.lt;show kc+2<d/\d≠kx;constructor<;>omega
    clear bP Q au dX aN b0 b1 gq b3;have hy1:=C.out.2.2.2.2.2.2.2.2.2.2;have dY:=iF (dI.out kx (q+y.2) m2 _ _ w2 aW.1 hy1);obtain⟨⟨aj,fA⟩,aP⟩:∃R,qG c (L.map λx=>x.r) (s.extract (q+y.2) s.size) (some (mb,m2))=R:=⟨_,rfl⟩;rw[aP]at dY;have aQ:=Bp c (L.map λx=>x.r) (s.extract (q+y.2) s.size) (some (mb,m2));rw[aP]at aQ;obtain⟨dZ,rfl⟩:∃dZ,fA=some (mb,dZ):=by
     cases fA with
     |none=>cases aQ
     |some z=>obtain⟨gT,gy⟩:=z;cases aQ;exact⟨gy,rfl⟩
    have fB:=iF aP;have aB:=iF aW;clear aP aQ aW;go_wp2_with fail;refine dY.out.mono ?_;unfold EA;dsimp only;rintro e aR ⟨bQ,bR,bK,rfl,aS,bS,bT,aH⟩;have bU:lN aR kx #[ll y.1.name,ll (txt y.1.val.lab),lu y.1.val.lab.list,lh ov y.1.val.sub.length cv] wX:=aH.blk aB.out.2 (by have:=aG.out;omega) (by have:=bz.out.2.2.2.2.2.1;have:=aB.out.1.lt;omega);have fC:=iF (iQ (aB.out.1.next aH bS bT) (iQ bU aS));obtain⟨⟨gU,ax,ay,gV⟩,gW,f1,f2,f3⟩:=mg bU;obtain⟨e3,bV⟩:=lV (mE (pU aj));rw[bV];have fD:=iF bV;clear bK aS bS bT aH bU bV dY;go_wp2_with fail;rw[qK];have bW:Lm.length=n:=C.out.1;go_roundw;case rel=>
     obtain⟨fE,gz,gB⟩:=fC.out;obtain⟨_,Y,aM,Z,aa,_,_,_,J,hy0,_⟩:=C.out;obtain⟨f1,rfl⟩:∃f1,fuel=f1+1:=⟨fuel - 1,lK⟩;obtain⟨ed,ek,gD,gF,gG⟩:=wB aR kx (ll (mN (pU aj))) (ll (mT (pU aj))) (lu (mL (pU aj))) (lh bQ (mS (pU aj)).length bR);have fF:qp (λd=>d=kx) aR (wu aR kx (ll (mN (pU aj))) (ll (mT (pU aj))) (lu (mL (pU aj))) (lh bQ (mS (pU aj)).length bR)):=⟨gD,gF,gG,kX ek.symm,λk _ hk=>ed k hk⟩;have fG:=fE.ZU fF (λd hd=>by subst hd;exact aG.out) (oh.keep fE.lm (kX ek.symm) (λd _ hd=>ed d hd.2) λ_ _ h=>h);have gM:=aB.out.2.lt;have fH:=aB.out.1.lm;refine⟨n+1,some ⟨cO,0,none⟩,fu,e3,by rw[bW],rfl,fq,iF ⟨q+y.2,f1,m2,dZ,aj,Lm++[⟨y.1,ov,cv⟩],bQ,bR,by simp[bW],fD.out,hy1,lK,lK,fB.out,by rw[<-bW];exact fG,pI gz,?_,?_⟩⟩
     .refine Shape.lY.keep gB (kX ek.symm) (λd hd Y=> ?_) (λd _ Y=>ed d (by have:w2.heap.size<=d:=Y;omega))
      have hd2:w2.heap.size<=d:=Y;refine⟨by have:=aG.out;omega,lK,λe=> ?_⟩;have:=(fH.1.block cO rfl).2.1;have gH:some cO=some d:=e;cases gH;omega
     .rw[J,Gj c _ s (f1+1) q (some (mb,V)) aa]
      simp
    case measure=>simp[lenOf];omega
   .obtain⟨e1,rfl⟩:∃e1,R=.error e1:=by
     cases R with
     |error e1=>exact⟨e1,rfl⟩
     |ok y=>exact absurd ah.symm h0
    have ah:e1=er:=ah;subst ah;have gN:((e1:Int)==0)=false:=lW;rw[KT c _ s fuel q (some (mb,V)) aa]at J;have A:CB w G g kc (kc+1) (kc+2) kx sb r mb c s q m2 bo bc buf nd fa la tt se (lh oa n cap) Lm wr:=A;have J:dN=⟨Lm.map (λy=>y.m),q,e1,some (mb,m2)⟩:=by rw[J];simp
    have C:=iF (iQ hl (iQ Y (iQ J A)));clear hl ah Y aM Z aa A av O J dI;have dO:iW (∀bX bY v6 W,bX=(if e1=2 then(EC c ((⟨buf.toArray⟩:ByteArray).extract q (⟨buf.toArray⟩:ByteArray).size):Int)else nd)->bY=(if e1=2 then fa else(e1:Int))->zy g (kc+2) sb r G q buf bo bc bX bY la tt se (vC w sb mb (kc+2) m2 (lh bo buf.length bc) (lh oa n cap) Lm) true true v6 W->dQ (lF (lh oa n cap)) W):=iF λbX bY v6 W e2 e3 h=>by
     subst e2 e3;rw[<-eu.out];refine XN (Int.not_lt.mpr dS.out) ?_ h;have ai:=bN.out;have bE:=U.out.1;subst bE;rw[ai];exact C.out.2.2.1
    have aT:q<=s.size/\s.size<=100000:=⟨C.out.2.1,by have:=U.out.2;have:=af.out;omega⟩;have aU:q<=buf.length/\buf.length<=100000:=⟨by have:=U.out.2;have:=C.out.2.1;omega,af.out⟩;by_cases ag:e1=2
    .subst ag
     go_upto_region 13 with fail;obtain⟨nq,Z⟩:=lV (EC c (s.extract q s.size));have fI:=iF (λW=>Nr c bZ.out.1 (s.extract q s.size) W (by simp only[ja];omega));rw[Z]at fI;have fJ:=iF Z;clear Z;refine XL (ks:=g) (kc:=kc) (kt:=kc+1) (ka:=kc+2) (sb:=sb) (r:=r) (c:=c) (s:=s) (p:=q) (bv:=lh bo buf.length bc) (nd:=nd) (fa:=fa) (la:=la) (tt:=tt) (se:=se) (n2:=nq) (Bs:=Fy w G sb mb (kc+2) m2 bo bc buf (lh oa n cap) Lm) (ht2:=by rfl) (ht5:=by rfl) (vT:=by rfl) (Ch:=by rfl) (hsz:=by rfl) (hp:=aT) (ED:=fI.out) (oL:=λ_ _ h hb=>h.below hb) (Ja:=λ_ i v h=>h.put i v) (hI0:=λ_=>(C.out.2.2.2.below (mf _)).a1t) ?_;intro vs fK ae;have fM:iW (∀v6,zy g (kc+2) sb r G q buf bo bc nq fa la tt se (vC w sb mb (kc+2) m2 (lh bo buf.length bc) (lh oa n cap) Lm) false false v6 fK.drew):=iF λv6=>by
      have hd:=(mf fK);exact Pf (Below.blk hd ae.sv ae.sv.lt) (Below.blk hd ae.at_ ae.at_.lt) (Below.blk hd ae.ss ae.ss.lt) (ae.bs.below hd) C.out.2.2.2.lt.1
     clear ae aT;simp only[iN,iR,iT];go_upto_region 15 with fail;refine Pb (ks:=g) (ka:=kc+2) (sb:=sb) (r:=r) (G:=G) (p:=q) (buf:=buf) (bo:=bo) (bc:=bc) (nd:=nq) (fa:=fa) (la:=la) (tt:=tt) (se:=se) (Bs:=vC w sb mb (kc+2) m2 (lh bo buf.length bc) (lh oa n cap) Lm) (ht2:=by rfl) (Ch:=by rfl) (hsz:=by rfl) (hp:=aU) (hBg:=λ_ _ h hg=>h.grow hg) (Ja:=λ_ i v h=>h.put i v) (ZT:=λ_ v h ho b hb=>h.ss.elim λcs k=>EE ho hb k) (hI0:=λ_=>fM.out _) ?_;intro fO gI hF5;have HP5:=iF (dO.out _ _ _ _ (by rw[U.out.1,fJ.out,if_pos rfl]) (by rw[if_pos rfl]) hF5);exact Pg
    .have gX:((e1:Int)==2)=false:=lW
     have A:=C.out.2.2.2;have c1:=A.nx.sv.cell 0;have f1:=A.ss.free 3;have c2:=A.ss.cell 3;have fP:iW (∀v6,zy g (kc+2) sb r G q buf bo bc nd e1 la tt se (vC w sb mb (kc+2) m2 (lh bo buf.length bc) (lh oa n cap) Lm) false false v6 (wr.setCell ⟨sb,3,none⟩ (lg lH e1)).drew):=iF λv6=>by
      have h:=(A.Pf (v6:=v6) (e1:Int));have hd:=mf (wr.setCell ⟨sb,3,none⟩ (lg lH e1));exact⟨Below.blk hd h.sv h.sv.lt,Below.blk hd h.at_ h.at_.lt,Below.blk hd h.ss h.ss.lt,λ_=>(h.ob rfl).kp (qp.of (F:=λ_=>False) hd) (λ_ _ h=>h),(λh=>by cases h),h.bs.below hd,(λh=>by cases h),h.ne⟩
     simp only[Cy,iP,iO,iM]at c1 c2;have aW:=iF ag;clear A ag;go_upto_region 15 with fail;refine Pb (ks:=g) (ka:=kc+2) (sb:=sb) (r:=r) (G:=G) (p:=q) (buf:=buf) (bo:=bo) (bc:=bc) (nd:=nd) (fa:=e1) (la:=la) (tt:=tt) (se:=se) (Bs:=vC w sb mb (kc+2) m2 (lh bo buf.length bc) (lh oa n cap) Lm) (ht2:=by rfl) (Ch:=by rfl) (hsz:=by rfl) (hp:=aU) (hBg:=λ_ _ h hg=>h.grow hg) (Ja:=λ_ i v h=>h.put i v) (ZT:=λ_ v h ho b hb=>h.ss.elim λcs k=>EE ho hb k) (hI0:=λ_=>fP.out _) ?_;intro fO gI hF5;have HP5:=iF (dO.out _ _ _ _ (by rw[if_neg aW.out]) (by rw[if_neg aW.out]) hF5);exact Pg
end
section
open Go.RowKit Go.Maps
mutual
theorem Shape.qA.uL{S:Shape α}{w w':iH}{Q:Nat->Prop}(hs:w.heap.size<=w'.heap.size)(hk:∀b o,b<w.heap.size->w'.cell? ⟨b,o,none⟩=w.cell? ⟨b,o,none⟩):
  ∀(x:lL α)(b off:Nat),b<w.heap.size->S.qA w Q x b off->S.qA w' Q x b off
 | .node a s,b,off,hb,h=>by
  simp only[Shape.qA]at h⊢;obtain⟨ho,v,hc,A⟩:=h;refine⟨ho,v,λj E=> ?_,A.mono hs (λ_ _ h=>h) λb' J O C N=>Shape.oM.uL hs hk s b' J C N⟩;rw[hk b (off+j) hb];exact hc j E
theorem Shape.oM.uL{S:Shape α}{w w':iH}{Q:Nat->Prop}(hs:w.heap.size<=w'.heap.size)(hk:∀b o,b<w.heap.size->w'.cell? ⟨b,o,none⟩=w.cell? ⟨b,o,none⟩):
  ∀(s:List (lL α))(b off:Nat),b<w.heap.size->S.oM w Q s b off->S.oM w' Q s b off
 |[],_,_,_,_=>by simp only[Shape.oM]
 |x::A,b,off,hb,h=>by
  simp only[Shape.oM]at h⊢;exact⟨Shape.qA.uL hs hk x b off hb h.1,Shape.oM.uL hs hk A b _ hb h.2⟩
end
theorem Shape.lY.uL{S:Shape α}{w w':iH}{Q:Nat->Prop}{v:iJ}{s:List (lL α)}(h:S.lY w Q v s)(hs:w.heap.size<=w'.heap.size)(hk:∀b o,b<w.heap.size->w'.cell? ⟨b,o,none⟩=w.cell? ⟨b,o,none⟩):S.lY w' Q v s:=
 SliceOf.mono h hs (λ_ _ h=>h) λb o q hb A=>Shape.oM.uL hs hk s b o hb A
abbrev Q9:jg:=67
abbrev EF:jg:=63
structure ZV(g r bn bi:Nat)(c:mU)(L:List mW)(id:Nat)(nm tx:ByteArray)(w0 W:iH):Prop where
 rg:ow r bn bi c L W
 en:lN W g #[lg lI id,ll nm,ll tx] Q9
 nV:iK g w0 W
 lt:w0.heap.size=g/\r<g/\bn<g/\bi<g
theorem ZV.below{g r bn bi:Nat}{c:mU}{L:List mW}{id:Nat}{nm tx:ByteArray}{w0 W A:iH}(h:ZV g r bn bi c L id nm tx w0 W)(hb:iK W.heap.size W A):ZV g r bn bi c L id nm tx w0 A:=
 ⟨h.rg.below hb,Below.blk hb h.en h.en.lt,h.nV.trans (hb.mono (by have:=h.en.lt;omega)),h.lt⟩
structure RN(g r bn bi:Nat)(c:mU)(L:List mW)(id:Nat)(nm tx:ByteArray)(w0:iH)(k:Nat)(da:Bool)(W:iH):Prop where
 b:ZV g r bn bi c L id nm tx w0 W
 sz:W.heap.size=if da=true then k+1 else k
 bk:da=true->∃x:RC,lN W k x.cs CU
 lt:g<k
theorem RN.made{g r bn bi:Nat}{c:mU}{L:List mW}{id:Nat}{nm tx:ByteArray}{w0:iH}{k:Nat}{W:iH}(h:RN g r bn bi c L id nm tx w0 k false W):RN g r bn bi c L id nm tx w0 k true (W.alloc (lG Af.cs CU)):=by
 have A:W.heap.size=k:=by simpa using h.sz
 exact⟨h.b.below ((iL W.heap.size W).alloc (iI _) _),by simp[A],λ_=>⟨Af,A▸lN.new W Af.cs CU⟩,h.lt⟩
theorem RN.put{g r bn bi:Nat}{c:mU}{L:List mW}{id:Nat}{nm tx:ByteArray}{w0:iH}{k:Nat}{W:iH}(h:RN g r bn bi c L id nm tx w0 k true W)(x:RC)(h0:ow r bn bi c L w0):RN g r bn bi c L id nm tx w0 k true (Ag W k x):=by
 obtain⟨y,A⟩:=h.bk rfl;have l:=h.b.lt;have C:=h.lt;have hb:=sG (x:=x) h.b.nV (show g<=k by omega);exact⟨⟨h0.below (l.1▸hb),uK h.b.en lK,hb,l⟩,by rw[Gf];exact h.sz,λ_=>⟨x,vJ A⟩,h.lt⟩
theorem uf{P:kg}{k:jg}{κ X:Type}{E:Cs P k κ}{F:Fh X}{w:iH}{b n:Nat}{l:List (κ×X)}(h:oU E F w b n l)(o:Nat):w.cell? ⟨b,o,none⟩=none:=by
 obtain⟨_,⟨J,A,C,_⟩,_⟩:=h;simp[kZ,C]
structure Fz(g r bn bi kt:Nat)(c:mU)(L:List mW)(x:mW)(w0:iH)(dn di:Bool)(W:iH):Prop where
 rg:lN W r #[lg lH c.fmt,lg lJ c.mag,lg lH c.nK,lg lH c.oF,lg lH c.dep,lg lH c.mX,.map (some bn),.map (some bi),El c,Gd c] Zv
 nm:oU NmK qj W bn (if dn=true then x::L else L).length ((if dn=true then x::L else L).map λx=>(x.r.name,x.rc.cs))
 id:oU IdK qj W bi (if di=true then x::L else L).length ((if di=true then x::L else L).map λx=>((x.r.id:Int),x.rc.cs))
 sub:∀y,y∈x::L->mD W (lh y.ou y.r.ty.sub.length y.cu) y.r.ty.sub
 en:lN W g #[lg lI x.r.id,ll x.r.name,ll x.r.text] Q9
 ty:lN W kt #[lg lH x.r.ty.lab.kind,lg lH x.r.ty.lab.size,lh x.ou x.r.ty.sub.length x.cu,lg lH x.r.ty.lab.tail] EF
 kp:qp (λd=>d=bn\/d=bi) w0 W
 fr:(∀y,y∈L->y.r.name≠x.r.name)/\(∀y,y∈L->y.r.id≠x.r.id)/\x.r.name.size<=jb/\x.r.id<18446744073709551616/\L.length<1000
 lt:bn≠bi/\r≠bn/\r≠bi/\g≠bn/\g≠bi/\kt≠bn/\kt≠bi
section
variable {g r bn bi kt:Nat}{c:mU}{L:List mW}{x:mW}{w0:iH}{dn di:Bool}{W W':iH}
theorem Fz.below(h:Fz g r bn bi kt c L x w0 dn di W)(hb:iK W.heap.size W W'):Fz g r bn bi kt c L x w0 dn di W':=
 ⟨Below.blk hb h.rg h.rg.lt,h.nm.below hb,h.id.below hb,λy A=>Shape.lY.below (h.sub y A) hb,Below.blk hb h.en h.en.lt,Below.blk hb h.ty h.ty.lt,h.kp.trans (F':=λ_=>False) (qp.of hb) (λ_ _ h=>h.elim),h.fr,h.lt⟩
theorem Fz.upd(h:Fz g r bn bi kt c L x w0 dn di W){b:Nat}(A:ng b W W')(hb:b=bn\/b=bi)(hc:∀o,W.cell? ⟨b,o,none⟩=none)(N:∀o,W'.cell? ⟨b,o,none⟩=none){C E:Bool}(hn:oU NmK qj W' bn (if C=true then x::L else L).length ((if C=true then x::L else L).map λx=>(x.r.name,x.rc.cs)))(hi:oU IdK qj W' bi (if E=true then x::L else L).length ((if E=true then x::L else L).map λx=>((x.r.id:Int),x.rc.cs))):Fz g r bn bi kt c L x w0 C E W':=by
 have hk:∀d,d<W.heap.size->d≠b->W'.heap[d]? =W.heap[d]? :=λd hd hn=>A.block d hd λe=>hn (kK e)
 have q:∀{d:Nat}{cs:Array iJ}{t:jg},lN W d cs t->d≠b->lN W' d cs t:=λhB hd=>by unfold lN;rw[hk _ hB.lt hd];exact hB
 have l:=h.lt;refine⟨q h.rg lK,hn,hi,λy O=>Shape.lY.uL (h.sub y O) A.size λd o hd=> ?_,q h.en lK,q h.ty lK,h.kp.trans (F':=λd=>d=b) ⟨A.os,A.tape,A.output,A.size,λd hd J=>hk d hd J⟩ (λd _ J=>by have J:d=b:=J;rcases hb with e|e<;>subst e<;>simp[J]),h.fr,h.lt⟩;by_cases e:d=b;.rw[e,hc,N]
 .exact World.cell?_of_block (w:=W) (a:=⟨d,o,none⟩) (hk d hd e)
theorem EG{κ:Type}[DecidableEq κ](f:mW->κ)(k:κ)(L:List mW)(h:∀y,y∈L->f y≠k):(L.map λx=>(f x,x.rc.cs)).filter (λp=>p.1 !=k)=L.map λx=>(f x,x.rc.cs):=by
 rw[List.filter_eq_self];intro p hp;obtain⟨y,A,rfl⟩:=List.mem_map.1 hp;simpa using h y A
theorem Fz.Wz(h:Fz g r bn bi kt c L x w0 false di W):∃W',(Instr.mapUpdate 130 (.map (some bn)) (ll x.r.name) (lC x.rc.cs)).run iG W=.ok () W'/\Fz g r bn bi kt c L x w0 true di W':=by
 obtain⟨W',A,C,E⟩:=oU.store (x:=x.r.name) h.nm Tryz.underlying130 h.fr.2.2.1 x.rc.cs (by have:=h.fr.2.2.2.2;unfold jb;simp;omega);rw[if_neg lU,EG (λy=>y.r.name) x.r.name L h.fr.1]at C;refine⟨W',A,h.upd E (.inl rfl) (uf h.nm) (uf C) (by rw[if_pos rfl];exact C) (h.id.block (E.block bi h.id.lt λe=>h.lt.1 (kK e).symm))⟩
theorem Fz.a3u(h:Fz g r bn bi kt c L x w0 dn false W):∃W',(Instr.mapUpdate 131 (.map (some bi)) (lg lI x.r.id) (lC x.rc.cs)).run iG W=.ok () W'/\Fz g r bn bi kt c L x w0 dn true W':=by
 obtain⟨W',A,C,E⟩:=oU.store (x:=(x.r.id:Int)) h.id Tryz.underlying131 (OQ h.fr.2.2.2.1) x.rc.cs (by have:=h.fr.2.2.2.2;unfold jb;simp;omega);rw[if_neg lU,EG (λy=>(y.r.id:Int)) (x.r.id:Int) L λy J e=>h.fr.2.1 y J lK]at C;refine⟨W',A,h.upd E (.inr rfl) (uf h.id) (uf C) (h.nm.block (E.block bn h.nm.lt λe=>h.lt.1 (kK e))) (by rw[if_pos rfl];exact C)⟩
end
def Di:List kH:=[⟨some 12,.move (.tmp 0),85,"registry.go:82",#[],none⟩,⟨some 13,.nilCheck (.tmp 12),0,"registry.go:82",#[⟨0,.data⟩],none⟩,⟨some 14,.fieldAddr 137 (.tmp 13) 1,0,"registry.go:82",#[⟨1,.data⟩],none⟩,⟨some 15,.load 130 (.tmp 14),130,"registry.go:82",#[⟨2,.data⟩],none⟩,⟨some 16,.fieldAddr 67 (.tmp 3) 1,0,"registry.go:82",#[],none⟩,⟨some 17,.load 9 (.tmp 16),9,"registry.go:82",#[⟨4,.data⟩],none⟩,⟨some 18,.lookup 130 (.tmp 15) (.tmp 17) true,129,"registry.go:82",#[⟨3,.data⟩,⟨5,.data⟩],none⟩,⟨some 11,.move (.tmp 18),129,"registry.go:82",#[⟨6,.data⟩],none⟩,⟨some 19,.extract (.tmp 11) 0,128,"registry.go:82",#[⟨7,.data⟩],none⟩,⟨some 20,.extract (.tmp 11) 1,4,"registry.go:82",#[⟨7,.data⟩,⟨11,.gcOnly .lateStores⟩],none⟩,⟨some 5,.alloc 128,0,"registry.go:82",#[],none⟩,⟨none,.store 128 (.tmp 5) (.tmp 19),0,"registry.go:82",#[⟨10,.data⟩,⟨8,.data⟩,⟨0,.phase⟩,⟨1,.phase⟩,⟨2,.phase⟩,⟨3,.phase⟩,⟨4,.phase⟩,⟨5,.phase⟩,⟨6,.phase⟩,⟨7,.phase⟩,⟨8,.phase⟩,⟨9,.textOnly .lateStores⟩,⟨10,.phase⟩],none⟩,⟨some 6,.assign (.tmp 20),4,"registry.go:82",#[⟨9,.data⟩,⟨11,.chain⟩,⟨0,.phase⟩,⟨1,.phase⟩,⟨2,.phase⟩,⟨3,.phase⟩,⟨4,.phase⟩,⟨5,.phase⟩,⟨6,.phase⟩,⟨7,.phase⟩,⟨8,.phase⟩,⟨9,.phase⟩,⟨10,.phase⟩,⟨11,.phase⟩],none⟩]
section
variable (g r bn bi:Nat)(c:mU)(L:List mW)(EX:Nat)(nm tx:ByteArray)(w0:iH)(k:Nat)(b:Bool)(x:RC)
def yA:Nat->iJ
 |0=> lq (some ⟨r,0,none⟩)
 |1=> lq (some ⟨r,0,none⟩)
 |2=> lq (some ⟨r,6,none⟩)
 |3=> .map (some bn)
 |4=> lq (some ⟨g,1,none⟩)
 |5=> ll nm
 |6=> lD #[lC #[lg lI x.i,ll x.nm,ll x.tx,lg lH x.k,lg lH x.z,lh x.ou x.nu x.cu,lg lH x.tl],lu b]
 |7=> lD #[lC #[lg lI x.i,ll x.nm,ll x.tx,lg lH x.k,lg lH x.z,lh x.ou x.nu x.cu,lg lH x.tl],lu b]
 |8=> lC #[lg lI x.i,ll x.nm,ll x.tx,lg lH x.k,lg lH x.z,lh x.ou x.nu x.cu,lg lH x.tl]
 |9=> lu b
 |10=> lq (some ⟨k,0,none⟩)
 |12=> lu b
 |_=>jo
structure a1u(D:Nat->Bool)(vs:Nat->iJ)(w:iH):Prop where
 mh:RN g r bn bi c L EX nm tx w0 k (D 10) w
 val:∀j,(true)=true->D j=true->vs j=yA g r bn nm k b x j
variable {g r bn bi c L EX nm tx w0 k b x}
theorem Ph{p:Prop}(h:p:=by
 have hW:=hI.mh;rw[hd]at hW;have hz:w.heap.size=k:=by simpa using hW.sz
 go_simp;refine hK (lq (some ⟨k,0,none⟩)) _ _ rfl ⟨?_,ry hI.val⟩;rw[l7];exact hW.made):p:=h
theorem UU{p:Prop}(h:p:=by
 have d10:=hw 10 lM lQ;have hW:=hI.mh;rw[d10]at hW;obtain⟨y,hB⟩:=hW.bk rfl;obtain⟨⟨z0,z1,z2,z3,z4,z5,z6⟩,f0,f1,f2,f3,f4,f5,f6⟩:=nS hB;go_simp;rw[yn];refine hK jo _ _ rfl ⟨?_,ry hI.val⟩;rw[lT D (show 10≠11 by decide),d10];exact hW.put x h0):p:=h
theorem XP{id:Nat}{Q:Exit->Act->iH->Prop}{E:iH}(ht0:a0.tmps.getD 0 jo=lq (some ⟨r,0,none⟩))(ht3:a0.tmps.getD 3 jo=lq (some ⟨g,0,none⟩))(hl:∀W,ow r bn bi c L W->(j5 130 (.map (some bn)) (ll nm) true).run iG W=.ok (lD #[lC #[lg lI x.i,ll x.nm,ll x.tx,lg lH x.k,lg lH x.z,lh x.ou x.nu x.cu,lg lH x.tl],lu b]) W)(h0:ow r bn bi c L w0)(hsz:a0.tmps.size=76)(hI0:∀vs:Nat->iJ,(λw=>RN g r bn bi c L EX nm tx w0 k false w) E.drew)(J:∀(vs:Nat->iJ) (w:iH),RN g r bn bi c L EX nm tx w0 k true w->Q .normal {a0 with tmps:=((((((((((((a0.tmps.setIfInBounds 12 (lq (some ⟨r,0,none⟩))).setIfInBounds 13 (lq (some ⟨r,0,none⟩))).setIfInBounds 14 (lq (some ⟨r,6,none⟩))).setIfInBounds 15 (.map (some bn))).setIfInBounds 16 (lq (some ⟨g,1,none⟩))).setIfInBounds 17 (ll nm)).setIfInBounds 18 (lD #[lC #[lg lI x.i,ll x.nm,ll x.tx,lg lH x.k,lg lH x.z,lh x.ou x.nu x.cu,lg lH x.tl],lu b])).setIfInBounds 11 (lD #[lC #[lg lI x.i,ll x.nm,ll x.tx,lg lH x.k,lg lH x.z,lh x.ou x.nu x.cu,lg lH x.tl],lu b])).setIfInBounds 19 (lC #[lg lI x.i,ll x.nm,ll x.tx,lg lH x.k,lg lH x.z,lh x.ou x.nu x.cu,lg lH x.tl])).setIfInBounds 20 (lu b)).setIfInBounds 5 (lq (some ⟨k,0,none⟩))).setIfInBounds 6 (lu b))} w):
  (jJ id Di.toArray true).wp iG Q a0 E:=by
 refine l6 13 76 (a1u g r bn bi c L EX nm tx w0 k b x) lQ hsz lQ (.inl rfl) lQ ?_ ?_ ?_;.exact oo
 .refine pO λA ae=> ?_
  clear hI0 J hsz;replace ht0:=iF ht0;replace ht3:=iF ht3;replace hl:=iF hl;replace h0:=iF h0;unfold Di;simp only[ji,jC,o6];refine⟨?_,?_,?_,?_,?_,?_,?_,?_,?_,?_,?_,?_,?_,trivial⟩<;>(intro D vs a w K hI hd hw hw2 C hK;subst ae;unfold Di);have aj:=(C 0 lM).trans ht0.out;rotate_left;have af:=fe C hI.val hw 12 0;rotate_left;have ag:=fe C hI.val hw 13 1;rotate_left;have N:=fe C hI.val hw 14 2;simp only[yA]at N;have c0:=hI.mh.b.rg.rg.c6;rotate_left;have e3:=(C 3 lM).trans ht3.out;rotate_left;have O:=fe C hI.val hw 16 4;simp only[yA]at O;have c0:=hI.mh.b.en.c1;rotate_left;have hl:=hl.out;have U:=fe C hI.val hw 15 3;have V:=fe C hI.val hw 17 5;simp only[yA]at U V;have q:=hl w hI.mh.b.rg;rotate_left;have ah:=fe C hI.val hw 18 6;rotate_left;have Y:=fe C hI.val hw 11 7;rotate_left;have Y:=fe C hI.val hw 11 7;rotate_left;.exact Ph
  .have h0:=h0.out
   have e5:=fe C hI.val hw 5 10;have Z:=fe C hI.val hw 19 8;simp only[yA]at e5 Z;exact UU
  have ai:=fe C hI.val hw 20 9;rotate_left
  all_goals
   try simp only[yA]at*
   go_simp;exact hK _ _ _ rfl ⟨hI.mh,ry hI.val⟩
 .intro D vs w aa hI
  have hw:=hI.mh;rw[aa 10 lM]at hw;have q:=J vs w hw;rw[mQ hI.val aa];unfold Di;exact om
end
def Dj:List kH:=[⟨some 29,.move (.tmp 0),85,"registry.go:85",#[],none⟩,⟨some 30,.nilCheck (.tmp 29),0,"registry.go:85",#[⟨0,.data⟩],none⟩,⟨some 31,.fieldAddr 137 (.tmp 30) 2,0,"registry.go:85",#[⟨1,.data⟩],none⟩,⟨some 32,.load 131 (.tmp 31),131,"registry.go:85",#[⟨2,.data⟩],none⟩,⟨some 33,.fieldAddr 67 (.tmp 3) 0,0,"registry.go:85",#[],none⟩,⟨some 34,.load 50 (.tmp 33),50,"registry.go:85",#[⟨4,.data⟩],none⟩,⟨some 35,.lookup 131 (.tmp 32) (.tmp 34) true,129,"registry.go:85",#[⟨3,.data⟩,⟨5,.data⟩],none⟩,⟨some 28,.move (.tmp 35),129,"registry.go:85",#[⟨6,.data⟩],none⟩,⟨some 36,.extract (.tmp 28) 0,128,"registry.go:85",#[⟨7,.data⟩],none⟩,⟨some 37,.extract (.tmp 28) 1,4,"registry.go:85",#[⟨7,.data⟩,⟨11,.gcOnly .lateStores⟩],none⟩,⟨some 7,.alloc 128,0,"registry.go:85",#[],none⟩,⟨none,.store 128 (.tmp 7) (.tmp 36),0,"registry.go:85",#[⟨10,.data⟩,⟨8,.data⟩,⟨0,.phase⟩,⟨1,.phase⟩,⟨2,.phase⟩,⟨3,.phase⟩,⟨4,.phase⟩,⟨5,.phase⟩,⟨6,.phase⟩,⟨7,.phase⟩,⟨8,.phase⟩,⟨9,.textOnly .lateStores⟩,⟨10,.phase⟩],none⟩,⟨some 8,.assign (.tmp 37),4,"registry.go:85",#[⟨9,.data⟩,⟨11,.chain⟩,⟨0,.phase⟩,⟨1,.phase⟩,⟨2,.phase⟩,⟨3,.phase⟩,⟨4,.phase⟩,⟨5,.phase⟩,⟨6,.phase⟩,⟨7,.phase⟩,⟨8,.phase⟩,⟨9,.phase⟩,⟨10,.phase⟩,⟨11,.phase⟩],none⟩]
section
variable (g r bn bi:Nat)(c:mU)(L:List mW)(EX:Nat)(nm tx:ByteArray)(w0:iH)(k:Nat)(b:Bool)(x:RC)
def yB:Nat->iJ
 |0=> lq (some ⟨r,0,none⟩)
 |1=> lq (some ⟨r,0,none⟩)
 |2=> lq (some ⟨r,7,none⟩)
 |3=> .map (some bi)
 |4=> lq (some ⟨g,0,none⟩)
 |5=> lg lI EX
 |6=> lD #[lC #[lg lI x.i,ll x.nm,ll x.tx,lg lH x.k,lg lH x.z,lh x.ou x.nu x.cu,lg lH x.tl],lu b]
 |7=> lD #[lC #[lg lI x.i,ll x.nm,ll x.tx,lg lH x.k,lg lH x.z,lh x.ou x.nu x.cu,lg lH x.tl],lu b]
 |8=> lC #[lg lI x.i,ll x.nm,ll x.tx,lg lH x.k,lg lH x.z,lh x.ou x.nu x.cu,lg lH x.tl]
 |9=> lu b
 |10=> lq (some ⟨k,0,none⟩)
 |12=> lu b
 |_=>jo
structure a1v(D:Nat->Bool)(vs:Nat->iJ)(w:iH):Prop where
 mh:RN g r bn bi c L EX nm tx w0 k (D 10) w
 val:∀j,(true)=true->D j=true->vs j=yB g r bi EX k b x j
variable {g r bn bi c L EX nm tx w0 k b x}
theorem XQ{id:Nat}{Q:Exit->Act->iH->Prop}{E:iH}(ht0:a0.tmps.getD 0 jo=lq (some ⟨r,0,none⟩))(ht3:a0.tmps.getD 3 jo=lq (some ⟨g,0,none⟩))(hl:∀W,ow r bn bi c L W->(j5 131 (.map (some bi)) (lg lI EX) true).run iG W=.ok (lD #[lC #[lg lI x.i,ll x.nm,ll x.tx,lg lH x.k,lg lH x.z,lh x.ou x.nu x.cu,lg lH x.tl],lu b]) W)(h0:ow r bn bi c L w0)(hsz:a0.tmps.size=76)(hI0:∀vs:Nat->iJ,(λw=>RN g r bn bi c L EX nm tx w0 k false w) E.drew)(J:∀(vs:Nat->iJ) (w:iH),RN g r bn bi c L EX nm tx w0 k true w->Q .normal {a0 with tmps:=((((((((((((a0.tmps.setIfInBounds 29 (lq (some ⟨r,0,none⟩))).setIfInBounds 30 (lq (some ⟨r,0,none⟩))).setIfInBounds 31 (lq (some ⟨r,7,none⟩))).setIfInBounds 32 (.map (some bi))).setIfInBounds 33 (lq (some ⟨g,0,none⟩))).setIfInBounds 34 (lg lI EX)).setIfInBounds 35 (lD #[lC #[lg lI x.i,ll x.nm,ll x.tx,lg lH x.k,lg lH x.z,lh x.ou x.nu x.cu,lg lH x.tl],lu b])).setIfInBounds 28 (lD #[lC #[lg lI x.i,ll x.nm,ll x.tx,lg lH x.k,lg lH x.z,lh x.ou x.nu x.cu,lg lH x.tl],lu b])).setIfInBounds 36 (lC #[lg lI x.i,ll x.nm,ll x.tx,lg lH x.k,lg lH x.z,lh x.ou x.nu x.cu,lg lH x.tl])).setIfInBounds 37 (lu b)).setIfInBounds 7 (lq (some ⟨k,0,none⟩))).setIfInBounds 8 (lu b))} w):
  (jJ id Dj.toArray true).wp iG Q a0 E:=by
 refine l6 13 76 (a1v g r bn bi c L EX nm tx w0 k b x) lQ hsz lQ (.inl rfl) lQ ?_ ?_ ?_;.exact oo
 .refine pO λA ae=> ?_
  clear hI0 J hsz;replace ht0:=iF ht0;replace ht3:=iF ht3;replace hl:=iF hl;replace h0:=iF h0;unfold Dj;simp only[ji,jC,o6];refine⟨?_,?_,?_,?_,?_,?_,?_,?_,?_,?_,?_,?_,?_,trivial⟩<;>(intro D vs a w K hI hd hw hw2 C hK;subst ae;unfold Dj);have ak:=(C 0 lM).trans ht0.out;rotate_left;have ag:=fe C hI.val hw 29 0;rotate_left;have ah:=fe C hI.val hw 30 1;rotate_left;have N:=fe C hI.val hw 31 2;simp only[yB]at N;have c0:=hI.mh.b.rg.rg.c7;rotate_left;have e3:=(C 3 lM).trans ht3.out;rotate_left;have O:=fe C hI.val hw 33 4;simp only[yB]at O;have c0:=hI.mh.b.en.c0;rotate_left;have hl:=hl.out;have U:=fe C hI.val hw 32 3;have V:=fe C hI.val hw 34 5;simp only[yB]at U V;have q:=hl w hI.mh.b.rg;rotate_left;have ai:=fe C hI.val hw 35 6;rotate_left;have Y:=fe C hI.val hw 28 7;rotate_left;have Y:=fe C hI.val hw 28 7;rotate_left;.exact Ph
  .have h0:=h0.out
   have af:=fe C hI.val hw 7 10;have Z:=fe C hI.val hw 36 8;simp only[yB]at af Z;exact UU
  have aj:=fe C hI.val hw 37 9;rotate_left
  all_goals
   try simp only[yB]at*
   go_simp;exact hK _ _ _ rfl ⟨hI.mh,ry hI.val⟩
 .intro D vs w aa hI
  have hw:=hI.mh;rw[aa 10 lM]at hw;have q:=J vs w hw;rw[mQ hI.val aa];unfold Dj;exact om
end
def Ay:List kH:=[⟨some 58,.move (.tmp 0),85,"registry.go:95",#[],none⟩,⟨some 59,.nilCheck (.tmp 58),0,"registry.go:95",#[⟨0,.data⟩],none⟩,⟨some 60,.fieldAddr 137 (.tmp 59) 1,0,"registry.go:95",#[⟨1,.data⟩],none⟩,⟨some 61,.load 130 (.tmp 60),130,"registry.go:95",#[⟨2,.data⟩],none⟩,⟨some 62,.fieldAddr 67 (.tmp 3) 1,0,"registry.go:95",#[],none⟩,⟨some 63,.load 9 (.tmp 62),9,"registry.go:95",#[⟨4,.data⟩],none⟩,⟨some 64,.load 67 (.tmp 3),67,"registry.go:95",#[],none⟩,⟨some 65,.load 63 (.tmp 9),63,"registry.go:95",#[],none⟩,⟨some 66,.build 128 #[(0,.tmp 64),(1,.tmp 65)],128,"registry.go:95",#[⟨6,.data⟩,⟨7,.data⟩],none⟩,⟨none,.mapUpdate 130 (.tmp 61) (.tmp 63) (.tmp 66),0,"registry.go:95",#[⟨3,.data⟩,⟨5,.data⟩,⟨8,.data⟩,⟨0,.phase⟩,⟨1,.phase⟩,⟨2,.phase⟩,⟨3,.phase⟩,⟨4,.phase⟩,⟨5,.phase⟩,⟨6,.phase⟩,⟨7,.phase⟩,⟨8,.phase⟩],none⟩]
section
variable (g r bn bi kt:Nat)(c:mU)(L:List mW)(x:mW)(w0:iH)
def vO:Nat->iJ
 |0=> lq (some ⟨r,0,none⟩)
 |1=> lq (some ⟨r,0,none⟩)
 |2=> lq (some ⟨r,6,none⟩)
 |3=> .map (some bn)
 |4=> lq (some ⟨g,1,none⟩)
 |5=> ll x.r.name
 |6=> lC #[lg lI x.r.id,ll x.r.name,ll x.r.text]
 |7=> lC #[lg lH x.r.ty.lab.kind,lg lH x.r.ty.lab.size,lh x.ou x.r.ty.sub.length x.cu,lg lH x.r.ty.lab.tail]
 |8=> lC #[lg lI x.r.id,ll x.r.name,ll x.r.text,lg lH x.r.ty.lab.kind,lg lH x.r.ty.lab.size,lh x.ou x.r.ty.sub.length x.cu,lg lH x.r.ty.lab.tail]
 |_=>jo
structure ZW(D:Nat->Bool)(vs:Nat->iJ)(w:iH):Prop where
 mh:Fz g r bn bi kt c L x w0 (D 9) false w
 val:∀j,(true)=true->D j=true->vs j=vO g r bn x j
variable {g r bn bi kt c L x w0}
theorem Pj{p:Prop}(h:p:=by
 unfold mW.rc RC.cs at q;dsimp only at q;go_simp;refine hK jo _ _ rfl ⟨?_,ry hI.val⟩;rw[l7];exact hN):p:=h
theorem KU{id:Nat}{Q:Exit->Act->iH->Prop}{O:iH}(ht0:a0.tmps.getD 0 jo=lq (some ⟨r,0,none⟩))(ht3:a0.tmps.getD 3 jo=lq (some ⟨g,0,none⟩))(Gi:a0.tmps.getD 9 jo=lq (some ⟨kt,0,none⟩))(hsz:a0.tmps.size=76)(hI0:∀vs:Nat->iJ,(λw=>Fz g r bn bi kt c L x w0 false false w) O.drew)(U:∀(vs:Nat->iJ) (w:iH),Fz g r bn bi kt c L x w0 true false w->Q .normal {a0 with tmps:=(((((((((a0.tmps.setIfInBounds 58 (lq (some ⟨r,0,none⟩))).setIfInBounds 59 (lq (some ⟨r,0,none⟩))).setIfInBounds 60 (lq (some ⟨r,6,none⟩))).setIfInBounds 61 (.map (some bn))).setIfInBounds 62 (lq (some ⟨g,1,none⟩))).setIfInBounds 63 (ll x.r.name)).setIfInBounds 64 (lC #[lg lI x.r.id,ll x.r.name,ll x.r.text])).setIfInBounds 65 (lC #[lg lH x.r.ty.lab.kind,lg lH x.r.ty.lab.size,lh x.ou x.r.ty.sub.length x.cu,lg lH x.r.ty.lab.tail])).setIfInBounds 66 (lC #[lg lI x.r.id,ll x.r.name,ll x.r.text,lg lH x.r.ty.lab.kind,lg lH x.r.ty.lab.size,lh x.ou x.r.ty.sub.length x.cu,lg lH x.r.ty.lab.tail]))} w):
  (jJ id Ay.toArray true).wp iG Q a0 O:=by
 refine l6 10 76 (ZW g r bn bi kt c L x w0) lQ hsz lQ (.inl rfl) lQ ?_ ?_ ?_;.exact oo
 .refine pO λA aj=> ?_
  clear hI0 U hsz;replace ht0:=iF ht0;replace ht3:=iF ht3;replace Gi:=iF Gi;unfold Ay;simp only[ji,jC,o6];refine⟨?_,?_,?_,?_,?_,?_,?_,?_,?_,?_,trivial⟩<;>(intro D vs a w K hI hd E hw2 C hK;subst aj;unfold Ay);have av:=(C 0 lM).trans ht0.out;rotate_left;have ak:=fe C hI.val E 58 0;rotate_left;have au:=fe C hI.val E 59 1;rotate_left;have V:=fe C hI.val E 60 2;simp only[vO]at V;have c0:=hI.mh.rg.c6;rotate_left;have e3:=(C 3 lM).trans ht3.out;rotate_left;have Y:=fe C hI.val E 62 4;simp only[vO]at Y;have c0:=hI.mh.en.c1;rotate_left;have e3:=(C 3 lM).trans ht3.out;have hB:=hI.mh.en;obtain⟨c0,c1,c2⟩:=hB.a3;clear hB;rotate_left;have ax:=(C 9 lM).trans Gi.out;have hB:=hI.mh.ty;obtain⟨c0,c1,c2,c3⟩:=hB.a4;clear hB;rotate_left;have J:=fe C hI.val E 64 6;have N:=fe C hI.val E 65 7;simp only[vO]at J N;have Z:=J;have aa:=N;rw[jR]at Z;rw[jR]at aa;rotate_left
  .have ae:=fe C hI.val E 61 3
   have af:=fe C hI.val E 63 5;have ag:=fe C hI.val E 66 8;simp only[vO]at ae af ag;have ah:=hI.mh;rw[hd]at ah;obtain⟨ay,q,hN⟩:=ah.Wz;exact Pj
  all_goals
   try simp only[vO]at*
   go_simp;exact hK _ _ _ rfl ⟨hI.mh,ry hI.val⟩
 .intro D vs w ai hI
  have E:=hI.mh;rw[ai 9 lM]at E;have q:=U vs w E;rw[mQ hI.val ai];unfold Ay;exact om
end
def Az:List kH:=[⟨some 67,.move (.tmp 0),85,"registry.go:96",#[],none⟩,⟨some 68,.nilCheck (.tmp 67),0,"registry.go:96",#[⟨0,.data⟩],none⟩,⟨some 69,.fieldAddr 137 (.tmp 68) 2,0,"registry.go:96",#[⟨1,.data⟩],none⟩,⟨some 70,.load 131 (.tmp 69),131,"registry.go:96",#[⟨2,.data⟩],none⟩,⟨some 71,.fieldAddr 67 (.tmp 3) 0,0,"registry.go:96",#[],none⟩,⟨some 72,.load 50 (.tmp 71),50,"registry.go:96",#[⟨4,.data⟩],none⟩,⟨some 73,.load 67 (.tmp 3),67,"registry.go:96",#[],none⟩,⟨some 74,.load 63 (.tmp 9),63,"registry.go:96",#[],none⟩,⟨some 75,.build 128 #[(0,.tmp 73),(1,.tmp 74)],128,"registry.go:96",#[⟨6,.data⟩,⟨7,.data⟩],none⟩,⟨none,.mapUpdate 131 (.tmp 70) (.tmp 72) (.tmp 75),0,"registry.go:96",#[⟨3,.data⟩,⟨5,.data⟩,⟨8,.data⟩,⟨0,.phase⟩,⟨1,.phase⟩,⟨2,.phase⟩,⟨3,.phase⟩,⟨4,.phase⟩,⟨5,.phase⟩,⟨6,.phase⟩,⟨7,.phase⟩,⟨8,.phase⟩],none⟩]
section
variable (g r bn bi kt:Nat)(c:mU)(L:List mW)(x:mW)(w0:iH)
def vP:Nat->iJ
 |0=> lq (some ⟨r,0,none⟩)
 |1=> lq (some ⟨r,0,none⟩)
 |2=> lq (some ⟨r,7,none⟩)
 |3=> .map (some bi)
 |4=> lq (some ⟨g,0,none⟩)
 |5=> lg lI x.r.id
 |6=> lC #[lg lI x.r.id,ll x.r.name,ll x.r.text]
 |7=> lC #[lg lH x.r.ty.lab.kind,lg lH x.r.ty.lab.size,lh x.ou x.r.ty.sub.length x.cu,lg lH x.r.ty.lab.tail]
 |8=> lC #[lg lI x.r.id,ll x.r.name,ll x.r.text,lg lH x.r.ty.lab.kind,lg lH x.r.ty.lab.size,lh x.ou x.r.ty.sub.length x.cu,lg lH x.r.ty.lab.tail]
 |_=>jo
structure ZX(D:Nat->Bool)(vs:Nat->iJ)(w:iH):Prop where
 mh:Fz g r bn bi kt c L x w0 true (D 9) w
 val:∀j,(true)=true->D j=true->vs j=vP g r bi x j
variable {g r bn bi kt c L x w0}
theorem UW{id:Nat}{Q:Exit->Act->iH->Prop}{O:iH}(ht0:a0.tmps.getD 0 jo=lq (some ⟨r,0,none⟩))(ht3:a0.tmps.getD 3 jo=lq (some ⟨g,0,none⟩))(Gi:a0.tmps.getD 9 jo=lq (some ⟨kt,0,none⟩))(hsz:a0.tmps.size=76)(hI0:∀vs:Nat->iJ,(λw=>Fz g r bn bi kt c L x w0 true false w) O.drew)(U:∀(vs:Nat->iJ) (w:iH),Fz g r bn bi kt c L x w0 true true w->Q .normal {a0 with tmps:=(((((((((a0.tmps.setIfInBounds 67 (lq (some ⟨r,0,none⟩))).setIfInBounds 68 (lq (some ⟨r,0,none⟩))).setIfInBounds 69 (lq (some ⟨r,7,none⟩))).setIfInBounds 70 (.map (some bi))).setIfInBounds 71 (lq (some ⟨g,0,none⟩))).setIfInBounds 72 (lg lI x.r.id)).setIfInBounds 73 (lC #[lg lI x.r.id,ll x.r.name,ll x.r.text])).setIfInBounds 74 (lC #[lg lH x.r.ty.lab.kind,lg lH x.r.ty.lab.size,lh x.ou x.r.ty.sub.length x.cu,lg lH x.r.ty.lab.tail])).setIfInBounds 75 (lC #[lg lI x.r.id,ll x.r.name,ll x.r.text,lg lH x.r.ty.lab.kind,lg lH x.r.ty.lab.size,lh x.ou x.r.ty.sub.length x.cu,lg lH x.r.ty.lab.tail]))} w):
  (jJ id Az.toArray true).wp iG Q a0 O:=by
 refine l6 10 76 (ZX g r bn bi kt c L x w0) lQ hsz lQ (.inl rfl) lQ ?_ ?_ ?_;.exact oo
 .refine pO λA aj=> ?_
  clear hI0 U hsz;replace ht0:=iF ht0;replace ht3:=iF ht3;replace Gi:=iF Gi;unfold Az;simp only[ji,jC,o6];refine⟨?_,?_,?_,?_,?_,?_,?_,?_,?_,?_,trivial⟩<;>(intro D vs a w K hI hd E hw2 C hK;subst aj;unfold Az);have av:=(C 0 lM).trans ht0.out;rotate_left;have ak:=fe C hI.val E 67 0;rotate_left;have au:=fe C hI.val E 68 1;rotate_left;have V:=fe C hI.val E 69 2;simp only[vP]at V;have c0:=hI.mh.rg.c7;rotate_left;have e3:=(C 3 lM).trans ht3.out;rotate_left;have Y:=fe C hI.val E 71 4;simp only[vP]at Y;have c0:=hI.mh.en.c0;rotate_left;have e3:=(C 3 lM).trans ht3.out;have hB:=hI.mh.en;obtain⟨c0,c1,c2⟩:=hB.a3;clear hB;rotate_left;have ax:=(C 9 lM).trans Gi.out;have hB:=hI.mh.ty;obtain⟨c0,c1,c2,c3⟩:=hB.a4;clear hB;rotate_left;have J:=fe C hI.val E 73 6;have N:=fe C hI.val E 74 7;simp only[vP]at J N;have Z:=J;have aa:=N;rw[jR]at Z;rw[jR]at aa;rotate_left
  .have ae:=fe C hI.val E 70 3
   have af:=fe C hI.val E 72 5;have ag:=fe C hI.val E 75 8;simp only[vP]at ae af ag;have ah:=hI.mh;rw[hd]at ah;obtain⟨ay,q,hN⟩:=ah.a3u;exact Pj
  all_goals
   try simp only[vP]at*
   go_simp;exact hK _ _ _ rfl ⟨hI.mh,ry hI.val⟩
 .intro D vs w ai hI
  have E:=hI.mh;rw[ai 9 lM]at E;have q:=U vs w E;rw[mQ hI.val ai];unfold Az;exact om
end
end
section
open Go.RowKit
end
section
def UX(n:Nat):List UInt8:=if h:n<10 then [jl (48+n)]else UX (n/10)++[jl (48+n % 10)]
mutual
def put:lL TL->List UInt8
 | .node a s=>
  if a.kind=1 then 117::UX (8*a.size).toNat
  else if a.kind=2 then 98::UX a.size.toNat
  else if a.kind=3 then 115::UX a.size.toNat
  else if a.kind=4 then 91::(ZY true 0 s++58::(UX a.size.toNat++[93]))
  else 123::(ZY true a.tail.toNat s++[125])
def ZY:Bool->Nat->List (lL TL)->List UInt8
 |_,_,[]=>[]
 |first,t,x::A=>(if first then []else [44])++((if A.length+1<=t then [63]else [])++(put x++ZY false t A))
end
theorem Gl(ds:List UInt8)(b:UInt8):wh (ds++[b])=10*wh ds+(b.toNat - 48):=by simp[wh]
theorem Ra(l:List UInt8):nN l++past l=l:=by
 induction l with
 |nil=>rfl
 |cons b r A=>simp only[nN,past];split<;>simp_all
theorem UY(l:List UInt8):∀b,b∈nN l->rY b=true:=by
 induction l with
 |nil=>intro b h;cases h
 |cons c r A=>
  intro b h;simp only[nN]at h;split at h
  .rcases kD.1 h with h|h
   .subst h;assumption
   .exact A b h
  .cases h
end
end Go.Proofs.YtamfcjmhnndbdaaGreatDoor


