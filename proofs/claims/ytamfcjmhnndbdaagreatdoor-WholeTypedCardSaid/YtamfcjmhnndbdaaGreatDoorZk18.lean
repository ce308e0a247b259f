/- Part 18 of the proof. -/
import Derived.Test.YtamfcjmhnndbdaaGreatDoorZk00
import Derived.Test.YtamfcjmhnndbdaaGreatDoorZk06
import Derived.Test.YtamfcjmhnndbdaaGreatDoorZk07
import Derived.Test.YtamfcjmhnndbdaaGreatDoorZk09
import Derived.Test.YtamfcjmhnndbdaaGreatDoorZk11
import Derived.Test.YtamfcjmhnndbdaaGreatDoorZk16
import Derived.Test.YtamfcjmhnndbdaaGreatDoorZk17
import Derived.WalkKit
import Derived.Deep.Slices
import Derived.Deep.Fields
import Derived.ChangeSame
import Derived.SliceStrings
import Derived.Lib.AppendStr
import Derived.Deep.AppendLies
open Go.Value renaming agg→lC,bool→lu,int→lg,pointer→lq,slice→lh,string→ll,tuple→lD,slice→jD
open Go.Obj renaming cells→lG
open Go.IntKind renaming i64→lH,u32→lJ,u64→lI
open Go.Ending renaming returned→lF
open Go.Lib renaming hid→iF
open Go.Proofs.Tryz renaming prog→iG
open Go renaming World→iH,Value→iJ,Calls→iU,bodyPost_ret→iV,maxLen→jb,TypeId→jg,undef→jo,results→jr,Program→kg,Addr→kr,Oper→kH,wpQuiet_nil→kS
open Nat renaming le_refl→iI,le_trans→je,zero_le→jy,lt_succ_self→jE,lt_or_ge→jG,add_assoc→jI,le_of_eq→kX
open Go.RowKit renaming Below→iK,Hid→iW,intOf→jA
open Go.RowKit.Below renaming refl→iL
open And renaming intro→iQ
open Bool renaming and_eq_true→iY
open List renaming getElem?_eq_getElem→iZ,mem_of_getElem?→jc,length_cons→jm,length_append→jv,length_drop→jS,getD_eq_getElem?_getD→ko,take_length→kz,length_eq_zero_iff→kR
open Option renaming bind_eq_some_iff→jd,bind_some→jh
open Go.World renaming setCell→jf,cell?→kZ
open Array renaming getElem?_eq_some_iff→jk,getD_eq_getD_getElem?→jR,getElem?_eq_none→kW
open UInt8 renaming toNat_inj→jX
open ByteArray renaming empty→kE
open Option.some renaming injEq→kM
open Go.Lit renaming int→kP
namespace Go.Proofs.YtamfcjmhnndbdaaGreatDoor
set_option linter.unusedVariables false
set_option linter.unusedSimpArgs false
set_option maxRecDepth 100000
set_option maxHeartbeats 8000000
variable {a:Option kr}{p:Prop}{x:lL TL}
section
open Go.RowKit
def xZ(R:Option (lL TL×List UInt8))(s:ByteArray)(w:iH)(e:Ending)(w':iH):Prop:=
 ∃(a:TL) (o:Option kr) (n c:Nat) (z:Int),e=lF (lD #[lC #[lg lH a.kind,lg lH a.size,lh o n c,lg lH a.tail],lg lH z])/\iK w.heap.size w w'/\
  ((∃sub q,R=some (.node a sub,lS s q)/\z=(q:Nat)/\q<=s.size/\TL.wf a/\l9.lY w' (λk=>w.heap.size<=k) (lh o n c) sub)\/(R=none/\z= -1))
theorem ND{k:Int}(h0:0<=k)(A:k<=100000000):(kP lH k).wf=true:=by
 exact Pw
theorem EL{k z t:Int}(h:(0<=k/\k<=100000000)/\(0<=z/\z<=100000000)/\(0<=t/\t<=100000000)):TL.wf ⟨k,z,t⟩:=⟨ND h.1.1 h.1.2,ND h.2.1.1 h.2.1.2,ND h.2.2.1 h.2.2.2⟩
theorem yF(w:iH)(Q:Nat->Prop):l9.lY w Q (lh none 0 0) []:=⟨none,0,rfl,iI _,jy _,λh=>absurd h lU⟩
theorem Gw(s:ByteArray)(p:Nat):(lS s p).length=s.size - p:=by unfold lS;rw[jS];rfl
theorem Dk{w0 w:iH}{gr:Nat}(hb:iK gr w0 w)(E:∃cs,lN w gr cs TT/\cs.size=4)(A B C D:iJ):
  (nY w gr A B C D).cell? ⟨gr,0,none⟩=some A/\(nY w gr A B C D).cell? ⟨gr,1,none⟩=some B/\(nY w gr A B C D).cell? ⟨gr,2,none⟩=some C/\(nY w gr A B C D).cell? ⟨gr,3,none⟩=some D/\iK gr w0 (nY w gr A B C D):=by
 obtain⟨cs,J,N⟩:=E;have hB:=um (a:=A) (b:=B) (c:=C) (d:=D) J N;exact⟨hB.cell 0,hB.cell 1,hB.cell 2,hB.cell 3,hb.os,hb.tape,hb.output,je hb.size (kX vR.symm),λk hk=>(yC k lK).trans (hb.block k hk)⟩
theorem uY{a:Act}{w w1:iH}{g:Nat}{R:Option (lL TL×List UInt8)}{s:ByteArray}{A:Ending->iH->Prop}(hb:iK g w w1)(N:∃cs,lN w1 g cs TT/\cs.size=4)(t:TL)(o:Option kr)(n c:Nat)(z:Int)(O:xZ R s w=A)(hg:w.heap.size=g)(C:a.tmps.getD 6 jo=lq (some ⟨g,0,none⟩))(E:a.tmps.getD 7 jo=lg lH z)(hd:a.defers=[])(Q:(∃sub q,R=some (.node t sub,lS s q)/\z=(q:Nat)/\q<=s.size/\TL.wf t/\l9.lY (nY w1 g (lg lH t.kind) (lg lH t.size) (lh o n c) (lg lH t.tail)) (λk=>w.heap.size<=k) (lh o n c) sub)\/(R=none/\z= -1)):
  bodyPost iG Tryz.f46 A .ret a (nY w1 g (lg lH t.kind) (lg lH t.size) (lh o n c) (lg lH t.tail)):=by
 obtain⟨U,e1,e2,e3,J⟩:=Dk hb N (lg lH t.kind) (lg lH t.size) (lh o n c) (lg lH t.tail);refine iV (v:=lD #[lC #[lg lH t.kind,lg lH t.size,lh o n c,lg lH t.tail],lg lH z]) ?_ hd ?_
 .rw[jR]at C E
  simp[jr,Tryz.results46,go_sem,U,e1,e2,e3,C,E]
 .rw[<-O]
  exact⟨t,o,n,c,z,rfl,hg▸J,Q⟩
theorem sJ{w:iH}{gr:Nat}(C:∃cs,lN w gr cs TT/\cs.size=4):(∃x,w.cell? ⟨gr,0,none⟩=some x)/\(∃x,w.cell? ⟨gr,1,none⟩=some x)/\(∃x,w.cell? ⟨gr,2,none⟩=some x)/\(∃x,w.cell? ⟨gr,3,none⟩=some x)/\
  w.frozen? ⟨gr,0,none⟩=false/\w.frozen? ⟨gr,1,none⟩=false/\w.frozen? ⟨gr,2,none⟩=false/\w.frozen? ⟨gr,3,none⟩=false:=by
 obtain⟨⟨l⟩,A,E⟩:=C
 match l,E with
 |[x,y,z,u],_=>exact⟨⟨x,A.cell 0⟩,⟨y,A.cell 1⟩,⟨z,A.cell 2⟩,⟨u,A.cell 3⟩,A.free 0,A.free 1,A.free 2,A.free 3⟩
structure Jb(w0:iH)(gr:Nat)(v:iJ)(L:List (nJ TL))(t:Nat)(w:iH):Prop where
 nV:iK gr w0 w
 res:∃cs,lN w gr cs TT/\cs.size=4
 st:RO w (gr+1) v t
 own:tL l9 TT w (gr+2) v L
 hlen:L.length<=2000
 ht:t<=2000
 hB:gr+2<=w.heap.size
theorem Jb.sub{w0 w w':iH}{gr t:Nat}{v:iJ}{L:List (nJ TL)}(h:Jb w0 gr v L t w)(hb:iK w.heap.size w w'):Jb w0 gr v L t w':=by
 obtain⟨cs,A,C⟩:=h.res;exact⟨h.nV.trans (hb.mono (by have:=h.hB;omega)),⟨cs,Below.blk hb A A.lt,C⟩,Below.blk hb h.st (lN.lt h.st),h.own.below hb,h.hlen,h.ht,je h.hB hb.size⟩
theorem Jb.more{w0 w:iH}{gr t:Nat}{v:iJ}{L:List (nJ TL)}(h:Jb w0 gr v L t w)(ht:t<2000):Jb w0 gr v L (t+1) (w.setCell ⟨gr+1,3,none⟩ (lg lH ((t:Int)+1))):=by
 obtain⟨cs,A,C⟩:=h.res;have E:ng (gr+1) w (w.setCell ⟨gr+1,3,none⟩ (lg lH ((t:Int)+1))):=(ng.refl _ _).set 3 _;exact⟨h.nV.setCell (p:=⟨gr+1,3,none⟩) lU _,⟨cs,A.setOther lU _,C⟩,h.st.more,h.own.upd E lK,h.hlen,lK,by simpa [jf]using h.hB⟩
theorem Jb.grown{w0 w w':iH}{gr t:Nat}{v v':iJ}{L:List (nJ TL)}{y:nJ TL}(h:Jb w0 gr v L t w)(hL:L.length<2000)(ho:tL l9 TT w' (gr+2) v' (L++[y]))(hb:iK (gr+2) w w')(hsz:w.heap.size<w'.heap.size):
  Jb w0 gr v' (L++[y]) t (w'.setCell ⟨gr+1,2,none⟩ v'):=by
 obtain⟨cs,C,E⟩:=h.res;have J:ng (gr+1) w' (w'.setCell ⟨gr+1,2,none⟩ v'):=(ng.refl _ _).set 2 _;have A:RO w' (gr+1) v t:=Below.blk hb h.st lK;exact⟨(h.nV.trans (hb.mono lK)).setCell (p:=⟨gr+1,2,none⟩) lU _,⟨cs,(Below.blk hb C lK).setOther lU _,E⟩,A.sub v',ho.upd J lK,lW,h.ht,by simp[jf];have:=h.hB;omega⟩
theorem Jb.c0{w0 w:iH}{gr t:Nat}{v:iJ}{L:List (nJ TL)}(h:Jb w0 gr v L t w):w.cell? ⟨gr+1,0,none⟩=some (lg lH 5)/\w.cell? ⟨gr+1,1,none⟩=some (lg lH 0)/\
  w.cell? ⟨gr+1,2,none⟩=some v/\w.cell? ⟨gr+1,3,none⟩=some (lg lH (t:Int))/\w.frozen? ⟨gr+1,2,none⟩=false/\w.frozen? ⟨gr+1,3,none⟩=false:=by
 have:=h.st;exact⟨lN.cell this 0,lN.cell this 1,lN.cell this 2,lN.cell this 3,lN.free this 2,lN.free this 3⟩
theorem Z8{pf:List UInt8->Option (lL TL×List UInt8)}{f t:Nat}{r:List UInt8}{sub:List (lL TL)}:ny pf (f+1) (125::r) sub t=some (.node ⟨5,0,t⟩ sub,r):=by simp[ny]
theorem Z9{pf:List UInt8->Option (lL TL×List UInt8)}{f t:Nat}{sub:List (lL TL)}:ny pf (f+1) [] sub t=none:=by simp[ny]
theorem Vl{pf:List UInt8->Option (lL TL×List UInt8)}{f t:Nat}{b:UInt8}{r:List UInt8}{sub:List (lL TL)}(hb:b≠125)(hs:sub≠[])(hc:b≠44):ny pf (f+1) (b::r) sub t=none:=by
 have:sub.isEmpty=false:=by cases sub<;>simp_all
 simp[ny,hb,this,hc]
theorem Vm{pf:List UInt8->Option (lL TL×List UInt8)}{f t:Nat}{b:UInt8}{r:List UInt8}(hb:b≠125):ny pf (f+1) (b::r) [] t=(mark (b::r) t).bind λq=>(pf q.1).bind λy=>ny pf f y.2 ([]++[y.1]) q.2:=by
 simp[ny,hb]
theorem XZ{pf:List UInt8->Option (lL TL×List UInt8)}{f t:Nat}{r:List UInt8}{sub:List (lL TL)}(hs:sub≠[]):ny pf (f+1) (44::r) sub t=(mark r t).bind λq=>(pf q.1).bind λy=>ny pf f y.2 (sub++[y.1]) q.2:=by
 have:sub.isEmpty=false:=by cases sub<;>simp_all
 simp[ny,this]
theorem X0(D:Nat)(s:ByteArray)(p:Nat)(hp:p<s.size)(b:UInt8)(hb:s[p]=b):ps (D+1) (lS s p)=
  if b=117 then(vw (lS s (p+1))).bind λq=>if q.1 % 8=0 then some (.node ⟨1,(q.1/8:Nat),0⟩ [],q.2)else none
  else if b=98 then(vw (lS s (p+1))).bind λq=>some (.node ⟨2,q.1,0⟩ [],q.2)
  else if b=115 then(vw (lS s (p+1))).bind λq=>some (.node ⟨3,q.1,0⟩ [],q.2)
  else if b=91 then(ps D (lS s (p+1))).bind λy=>match y.2 with
    |58::r2=>(vw r2).bind λq=>match q.2 with
     |93::r4=>some (.node ⟨4,q.1,0⟩ [y.1],r4)
     |_=>none
    |_=>none
  else if b=123 then ny (ps D) (s.size - p) (lS s (p+1)) [] 0
  else none:=by
 rw[o7 hp,hb];simp only[ps];rw[show(lS s (p+1)).length+1=s.size - p by rw[Gw];omega];rfl
theorem a0a(D:Nat)(s:ByteArray)(p:Nat)(hp:s.size<=p):ps (D+1) (lS s p)=none:=by
 rw[pY hp];rfl
theorem Vn(h:p:=by
 obtain⟨c0,c1,c2,c3,z2,z3⟩:=F5.out.c0;obtain⟨q0,q1,q2,q3⟩:=G5.out.2.1.a4;have HS5:iW (l9.lY w5 (λk=>g+2<=k/\(jD oa M cap).ownBlock≠some k) (lh o n c) sub):=iF (h4.keep G5.out.2.2.size (λk hk hq=>⟨lK,λe=>by have:=(HOB.out k e).2;omega⟩) λk hk _=>G5.out.2.2.block k hk);have HWF:=iF h3;have hB5:g+2<=w5.heap.size:=F5.out.hB;have HOWN:=iF F5.out.own;have a0b:M<=1000:=lK;clear h1 h3 h4 yO;go_upto_region 40 with(at_builtin;refine uX (S:=l9) AJ hi hz0 hz1 hz2 rfl lM IB rfl (.tmp 181) (.tmp 183) rfl (g+2) (lh oa M cap) L ⟨a,lh o n c,sub⟩ w5 _ rfl rfl HOWN.out rfl (by have:=HM.out;omega) lM hB5 HWF.out HS5.out ?_;intro g2 cap2 w6 hown6 hb6 Vo a0c;have hcc:w6.cell? ⟨g+1,2,none⟩=some (lh oa M cap):=(hb6.cell (p:=⟨g+1,2,none⟩) (show g+1<g+2 by omega)).trans c2;have hfz:w6.frozen? ⟨g+1,2,none⟩=false:=(hb6.frozen (p:=⟨g+1,2,none⟩) (show g+1<g+2 by omega)).trans z2)
 have F7:=iF (F5.out.grown (by have:=HM.out;omega) hown6 hb6 Vo);generalize w6.setCell ⟨g+1,2,none⟩ (lh (some ⟨g2,0,none⟩) (L.length+1) cap2)=w7 at*;have HTR:iW ((L++[(⟨a,lh o n c,sub⟩:nJ TL)]).map nJ.tree=L.map nJ.tree++[.node a sub]):=iF (by simp[nJ.tree]);have HLN:iW ((L++[(⟨a,lh o n c,sub⟩:nJ TL)]).length=M+1):=iF (by rw[jv,HM.out];rfl);obtain⟨L2,hL2⟩:∃L2,L++[(⟨a,lh o n c,sub⟩:nJ TL)]=L2:=⟨_,rfl⟩;rw[hL2]at HTR HLN F7;clear hcc hfz hown6 hb6 Vo a0c c0 c1 c2 c3 z2 z3 q0 q1 q2 q3 HOWN HS5 HWF hL2;go_wp2_with fail;have h3:=HLN.out;refine⟨⟨f,p2,0,_,L2,rfl,iF F7.out,lK,iF (by rw[HST.out,Nv.out,jh,HPS.out,jh,HTR.out]),lK,lK,h2⟩,?_⟩;simp only[jA,Int.toNat_natCast];omega):p:=h
theorem PE(h:p:=by
 go_wp2_with fail;rw[mq];exact uY F.out.nV F.out.res ⟨0,0,0⟩ none 0 0 (-1) HP.out hg rfl rfl rfl (.inr ⟨HN.out,rfl⟩)):p:=h
theorem EM(h:p:=by
 have HN:iW (R=none):=iF (by rw[HST.out,Nv.out,jh,h1];rfl);obtain⟨⟨x0,r0⟩,⟨x1,r1⟩,⟨x2,r2⟩,⟨x3,r3⟩,y0,y1,y2,y3⟩:=sJ F5.out.res;clear h1 yO;go_wp2_with fail;rw[mq];exact uY F5.out.nV F5.out.res ⟨0,0,0⟩ none 0 0 (-1) HP.out hg rfl rfl rfl (.inr ⟨HN.out,rfl⟩)):p:=h
theorem NF(h:p:=by
 clear hout;go_in;go_upto_region 1 with fail;generalize w.alloc (lG #[lg lH 0,lg lH 0,lh none 0 0,lg lH 0] TT)=w1 at*;have G:=iF (HA.out _ rfl);clear HA;obtain⟨⟨x0,r0⟩,⟨x1,r1⟩,⟨x2,r2⟩,⟨x3,r3⟩,y0,y1,y2,y3⟩:=sJ G.out.2.1;go_wp2_with fail;rw[mq];exact uY G.out.1 G.out.2.1 ⟨0,0,0⟩ none 0 0 (-1) HP.out hg rfl rfl rfl (.inr ⟨HN.out,rfl⟩)):p:=h
theorem EN(h:p:=by
 subst h;have hal:=(iL w4.heap.size w4).alloc (iI _) (lG #[lg lH a.kind,lg lH a.size,lh o n c,lg lH a.tail] TT);exact⟨(F3.out.sub HB4.out).sub hal,lN.new w4 _ _,hal⟩):p:=h
theorem BH(h:p:=by
 go_wp2_with fail;rw[mq];exact uY G3.out.1 G3.out.2.1 ⟨0,0,0⟩ none 0 0 (-1) HP.out hg rfl rfl rfl (.inr ⟨HN.out,rfl⟩)):p:=h
theorem NG(h:p:=by
 have d7:decide (0<t)=true:=decide_eq_true ht0;have HN:iW (R=none):=iF (by rw[HST.out,IK.out,if_pos ht0];rfl);clear ht0;go_wp2_with fail;rw[mq];exact uY F.out.nV F.out.res ⟨0,0,0⟩ none 0 0 (-1) HP.out hg rfl rfl rfl (.inr ⟨HN.out,rfl⟩)):p:=h
theorem Vp(h:p:=by
 subst h;have hal:=(iL w.heap.size w).alloc (iI _) (lG #[lg lH 0,lg lH 0,lh none 0 0,lg lH 0] TT);have hb1:=lN.new w #[lg lH 0,lg lH 0,lh none 0 0,lg lH 0] TT;rw[hg]at hal hb1;exact⟨hal,⟨_,hb1,rfl⟩,lW⟩):p:=h
theorem EO(h:p:=by
 have:=Bi _ _ _ h1;simp only[Gw]at this;omega):p:=h
theorem YC(h:p:=by
 obtain⟨c0,c1,c2,c3,z2,z3⟩:=F5.out.c0;obtain⟨q0,q1,q2,q3⟩:=G5.out.2.1.a4;have HS5:iW (l9.lY w5 (λk=>g+2<=k/\(jD oa M cap).ownBlock≠some k) (lh o n c) sub):=iF (h4.keep G5.out.2.2.size (λk hk hq=>⟨lK,λe=>by have:=(HOB.out k e).2;omega⟩) λk hk _=>G5.out.2.2.block k hk);have HWF:=iF h3;have hB5:g+2<=w5.heap.size:=F5.out.hB;have HOWN:=iF F5.out.own;have a0b:M<=1000:=lK;clear h1 h3 h4 yO;go_upto_region 40 with(at_builtin;refine uX (S:=l9) AJ hi hz0 hz1 hz2 rfl lM IB rfl (.tmp 181) (.tmp 183) rfl (g+2) (lh oa M cap) L ⟨a,lh o n c,sub⟩ w5 _ rfl rfl HOWN.out rfl (by have:=HM.out;omega) lM hB5 HWF.out HS5.out ?_;intro g2 cap2 w6 hown6 hb6 Vo a0c;have hcc:w6.cell? ⟨g+1,2,none⟩=some (lh oa M cap):=(hb6.cell (p:=⟨g+1,2,none⟩) (show g+1<g+2 by omega)).trans c2;have hfz:w6.frozen? ⟨g+1,2,none⟩=false:=(hb6.frozen (p:=⟨g+1,2,none⟩) (show g+1<g+2 by omega)).trans z2)
 have F7:=iF (F5.out.grown (by have:=HM.out;omega) hown6 hb6 Vo);generalize w6.setCell ⟨g+1,2,none⟩ (lh (some ⟨g2,0,none⟩) (L.length+1) cap2)=w7 at*;have HTR:iW ((L++[(⟨a,lh o n c,sub⟩:nJ TL)]).map nJ.tree=L.map nJ.tree++[.node a sub]):=iF (by simp[nJ.tree]);have HLN:iW ((L++[(⟨a,lh o n c,sub⟩:nJ TL)]).length=M+1):=iF (by rw[jv,HM.out];rfl);obtain⟨L2,hL2⟩:∃L2,L++[(⟨a,lh o n c,sub⟩:nJ TL)]=L2:=⟨_,rfl⟩;rw[hL2]at HTR HLN F7;clear hcc hfz hown6 hb6 Vo a0c c0 c1 c2 c3 z2 z3 q0 q1 q2 q3 HOWN HS5 HWF hL2;go_wp2_with fail;have h3:=HLN.out;refine⟨⟨f,p2,t+1,_,L2,rfl,iF F7.out,lK,iF (by rw[HST.out,Nv.out,jh,HPS.out,jh,HTR.out]),lK,lK,h2⟩,?_⟩;simp only[jA,Int.toNat_natCast];omega):p:=h
theorem Rk(s:ByteArray)(hs:s.size<=1000):∀(D dep p:Nat)(w:iH),dep+D=9->p<=s.size->
  iU iG 46 #[ll s,lg lH (p:Int),lg lH (dep:Int)] w (xZ (ps D (lS s p)) s w):=by
 intro D;induction D with
 |zero=>
  intro dep p w hd hp;have dw:decide (8<(dep:Int))=true:=lW;obtain⟨g,hg⟩:=lV w.heap.size;have HA:iW (∀W,w.alloc (lG #[lg lH 0,lg lH 0,lh none 0 0,lg lH 0] TT)=W->iK g w W/\(∃cs,lN W g cs TT/\cs.size=4)/\W.heap.size=g+1):=iF λW h=>by
   exact Vp
  obtain⟨R,aO⟩:=lV (ps (0) (lS s p));have bA:=iF aO;rw[aO];obtain⟨bO,aP⟩:=lV (xZ R s w);have HP:=iF aP;rw[aP];have aQ:=iF hd;clear aO aP hd;have HN:iW (R=none):=iF (by rw[<-bA.out];rfl);by_cases hout:s.size<=p
  .have bP:decide (s.size<=p)=true:=decide_eq_true lK
   exact NF
  .have bP:decide (s.size<=p)=false:=decide_eq_false lK
   exact NF
 |succ D bU=>
  intro dep p w hd hp;have dw:decide (8<(dep:Int))=false:=lW;have dx:dep<=8:=lK;obtain⟨g,hg⟩:=lV w.heap.size;have HA:iW (∀W,w.alloc (lG #[lg lH 0,lg lH 0,lh none 0 0,lg lH 0] TT)=W->iK g w W/\(∃cs,lN W g cs TT/\cs.size=4)/\W.heap.size=g+1):=iF λW h=>by
   exact Vp
  obtain⟨R,aO⟩:=lV (ps (D+1) (lS s p));have bA:=iF aO;rw[aO];obtain⟨bO,aP⟩:=lV (xZ R s w);have HP:=iF aP;rw[aP];have aQ:=iF hd;clear aO aP hd;have bu:=iF bU;clear bU;by_cases hout:s.size<=p
  .have HN:iW (R=none):=iF (by rw[<-bA.out,a0a D s p hout])
   have bP:decide (s.size<=p)=true:=decide_eq_true lK;exact NF
  .have bV:p<s.size:=lK
   have bP:decide (s.size<=p)=false:=decide_eq_false lK;have C:=iF (bA.out.symm.trans (X0 D s p bV s[p] rfl));clear hout bA;have hk:iW (∀c:UInt8,s[p]≠c->((s[p].toNat:Int)==(c.toNat:Int))=false):=iF λc h=>by
    rw[beq_eq_false_iff_ne];intro aR;exact h (jX.1 lK)
   have au:iW (∀c:UInt8,s[p]≠c->((s[p].toNat:Int) !=(c.toNat:Int))=true):=iF λc h=>by
    rw[bne_iff_ne];intro aR;exact h (jX.1 lK)
   go_in;go_upto_region 1 with fail;generalize w.alloc (lG #[lg lH 0,lg lH 0,lh none 0 0,lg lH 0] TT)=w1 at*;have G:=iF (HA.out _ rfl);clear HA;obtain⟨⟨x0,r0⟩,⟨x1,r1⟩,⟨x2,r2⟩,⟨x3,r3⟩,y0,y1,y2,y3⟩:=sJ G.out.2.1;obtain⟨q,hq⟩:=lV (p+1);have dz:=iF hq;have bB:q<=s.size:=lK;rw[hq]at C;have e1:(p:Int)+1=q:=lK;have bC:=iF e1;clear hq e1;have bW:=iF (EK s q w1 hs bB);have ay:iW (iU iG 78 #[ll s,lg lH ((p:Int)+1)] w1 (AO s q w1)):=iF (by rw[bC.out];exact bW.out);clear bW;by_cases af:s[p]=117
   .have l0:((s[p].toNat:Int)==117)=true:=by rw[af];rfl
    have J:=iF C.out;rw[if_pos af]at J;clear af C hk au;go_wp2_with fail;refine(ay.out).mono ?_;rintro e w2 ⟨n,z,rfl,rfl,hn,A⟩;have HN:=iF hn;rcases A with⟨q2,h1,rfl,h2,h3⟩|⟨h1,rfl,rfl⟩
    .by_cases bI:n % 8=0
     .have dm:((n:Int) % 8 !=0)=false:=lW
      obtain⟨nd,bL⟩:=lV (n/8);have dM:(n:Int)/8=nd:=lK;have V:iW (R=some (.node ⟨1,(nd:Int),0⟩ [],lS s q2)):=iF (by rw[J.out,h1,jh,if_pos bI,bL]);have bD:nd<=10000000:=lK;have bz:=iF (iQ h2 bD);have dA:(0:Int)<=nd:=lK;have dB:(nd:Int)<=10000000:=lK;clear h1 bI bL hn bD;go_wp2_with fail;rw[mq];exact uY G.out.1 G.out.2.1 ⟨1,(nd:Int),0⟩ none 0 0 (q2:Int) HP.out hg rfl rfl rfl (.inl ⟨[],q2,V.out,rfl,bz.out.1,EL (by have:=bz.out.2;omega),yF _ _⟩)
     .have dm:((n:Int) % 8 !=0)=true:=EY
      have V:iW (R=none):=iF (by rw[J.out,h1,jh,if_neg bI]);clear h1 bI hn;go_wp2_with fail;rw[mq];exact uY G.out.1 G.out.2.1 ⟨0,0,0⟩ none 0 0 (-1) HP.out hg rfl rfl rfl (.inr ⟨V.out,rfl⟩)
    .have V:iW (R=none):=iF (by rw[J.out,h1];rfl)
     clear h1 hn;go_wp2_with fail;rw[mq];exact uY G.out.1 G.out.2.1 ⟨1,0,0⟩ none 0 0 (-1) HP.out hg rfl rfl rfl (.inr ⟨V.out,rfl⟩)
   have dC:((s[p].toNat:Int)==117)=false:=hk.out 117 af;have aH:=iF C.out;rw[if_neg af]at aH;clear af C;have C:=aH;clear aH;by_cases az:s[p]=98
   .have l0:((s[p].toNat:Int)==98)=true:=by rw[az];rfl
    have J:=iF C.out;rw[if_pos az]at J;clear az C hk au;go_wp2_with fail;refine(ay.out).mono ?_;rintro e w2 ⟨n,z,rfl,rfl,hn,A⟩;have HN:=iF hn;rcases A with⟨q2,h1,rfl,h2,h3⟩|⟨h1,rfl,rfl⟩
    .have V:iW (R=some (.node ⟨2,(n:Int),0⟩ [],lS s q2)):=iF (by rw[J.out,h1];rfl)
     have bz:=iF h2;clear h1 hn;go_wp2_with fail;rw[mq];exact uY G.out.1 G.out.2.1 ⟨2,(n:Int),0⟩ none 0 0 (q2:Int) HP.out hg rfl rfl rfl (.inl ⟨[],q2,V.out,rfl,bz.out,EL (by have:=HN.out;omega),yF _ _⟩)
    .have V:iW (R=none):=iF (by rw[J.out,h1];rfl)
     clear h1 hn;go_wp2_with fail;rw[mq];exact uY G.out.1 G.out.2.1 ⟨2,0,0⟩ none 0 0 (-1) HP.out hg rfl rfl rfl (.inr ⟨V.out,rfl⟩)
   have dN:((s[p].toNat:Int)==98)=false:=hk.out 98 az;have av:=iF C.out;rw[if_neg az]at av;clear az C;have C:=av;clear av;by_cases ag:s[p]=115
   .have l0:((s[p].toNat:Int)==115)=true:=by rw[ag];rfl
    have J:=iF C.out;rw[if_pos ag]at J;clear ag C hk au;go_wp2_with fail;refine(ay.out).mono ?_;rintro e w2 ⟨n,z,rfl,rfl,hn,A⟩;have HN:=iF hn;rcases A with⟨q2,h1,rfl,h2,h3⟩|⟨h1,rfl,rfl⟩
    .have V:iW (R=some (.node ⟨3,(n:Int),0⟩ [],lS s q2)):=iF (by rw[J.out,h1];rfl)
     have bz:=iF h2;clear h1 hn;go_wp2_with fail;rw[mq];exact uY G.out.1 G.out.2.1 ⟨3,(n:Int),0⟩ none 0 0 (q2:Int) HP.out hg rfl rfl rfl (.inl ⟨[],q2,V.out,rfl,bz.out,EL (by have:=HN.out;omega),yF _ _⟩)
    .have V:iW (R=none):=iF (by rw[J.out,h1];rfl)
     clear h1 hn;go_wp2_with fail;rw[mq];exact uY G.out.1 G.out.2.1 ⟨3,0,0⟩ none 0 0 (-1) HP.out hg rfl rfl rfl (.inr ⟨V.out,rfl⟩)
   have dD:((s[p].toNat:Int)==115)=false:=hk.out 115 ag;have aI:=iF C.out;rw[if_neg ag]at aI;clear ag C;have C:=aI;clear aI;by_cases aA:s[p]=91
   .have l0:((s[p].toNat:Int)==91)=true:=by rw[aA];rfl
    have J:=iF C.out;rw[if_pos aA]at J;have Y:iW (iU iG 46 #[ll s,lg lH ((p:Int)+1),lg lH ((dep:Int)+1)] w1 (xZ (ps D (lS s q)) s w1)):=iF (by rw[bC.out];exact bu.out (dep+1) q w1 (by have:=aQ.out;omega) bB);clear aA C hk au ay;go_wp2_with fail;refine(Y.out).mono ?_;rintro e w2 ⟨a,o,n,c,z,rfl,Z,A⟩;have hz1:=G.out.2.2;have aK:iW (∀W,w2.alloc (lG #[lg lH a.kind,lg lH a.size,lh o n c,lg lH a.tail] TT)=W->iK g w W/\(∃cs,lN W g cs TT/\cs.size=4)/\lN W w2.heap.size #[lg lH a.kind,lg lH a.size,lh o n c,lg lH a.tail] TT/\iK w2.heap.size w2 W):=iF λW h=>by
     subst h;have hal:=(iL w2.heap.size w2).alloc (iI _) (lG #[lg lH a.kind,lg lH a.size,lh o n c,lg lH a.tail] TT);obtain⟨cs,h1,h2⟩:=G.out.2.1;have h3:iK g w w2:=G.out.1.trans (Z.mono lK);exact⟨h3.trans (hal.mono (by have:=Z.size;omega)),⟨cs,Below.blk hal (Below.blk Z h1 lK) (by have:=Z.size;omega),h2⟩,lN.new w2 _ _,hal⟩
    have yO:=iF A;have hz2:g+1<=w2.heap.size:=by have:=Z.size;omega
    clear A Z Y x0 r0 x1 r1 x2 r2 x3 r3 y0 y1 y2 y3;go_upto_region 17 with fail;generalize w2.alloc (lG #[lg lH a.kind,lg lH a.size,lh o n c,lg lH a.tail] TT)=w3 at*;have G3:=iF (aK.out _ rfl);obtain⟨⟨x0,r0⟩,⟨x1,r1⟩,⟨x2,r2⟩,⟨x3,r3⟩,y0,y1,y2,y3⟩:=sJ G3.out.2.1;obtain⟨dR,dS,dU,dV⟩:=G3.out.2.2.1.a4;have dO:g<w3.heap.size:=by have:=G3.out.2.2.2.size;omega
    clear aK;rcases yO.out with⟨sub,q2,h1,rfl,h2,h3,h4⟩|⟨h1,rfl⟩
    .have aL:=iF h1
     have bE:iW (TL.wf a/\l9.lY w3 (λk=>g+1<=k) (lh o n c) sub):=iF ⟨h3,h4.keep G3.out.2.2.2.size (λk _ hk=>by omega) λk hk _=>G3.out.2.2.2.block k hk⟩;have dP:decide ((q2:Int)<0)=false:=lU;clear h1 h3 h4 yO;by_cases he:s.size<=q2
     .have bQ:decide (s.size<=q2)=true:=decide_eq_true he
      have HN:iW (R=none):=iF (by rw[J.out,aL.out];simp only[jh,pY he]);clear he;exact BH
     .have hlt:q2<s.size:=lK
      have bQ:decide (s.size<=q2)=false:=decide_eq_false he;have aT:=iF (o7 hlt);clear he;by_cases aB:s[q2]=58
      .have l2:((s[q2].toNat:Int) !=58)=false:=by rw[aB];rfl
       have aC:iW (R=(vw (lS s (q2+1))).bind λq=>match q.2 with
         |93::r4=>some (.node ⟨4,q.1,0⟩ [.node a sub],r4)
         |_=>none):=iF (by rw[J.out,aL.out];simp only[jh,aT.out,aB])
       have bX:iW (iU iG 78 #[ll s,lg lH ((q2:Int)+1)] w3 (AO s (q2+1) w3)):=iF (EK s (q2+1) w3 hs lK);clear aB J aL aT;go_wp2_with fail;refine(bX.out).mono ?_;rintro e w4 ⟨aS,z2,rfl,rfl,aM,bJ⟩;have bY:=iF aM;rcases bJ with⟨q3,bF,rfl,g2,g3⟩|⟨bF,rfl,rfl⟩
       .have aN:=iF bF
        clear bF;by_cases he:s.size<=q3
        .have d4:decide (s.size<=q3)=true:=decide_eq_true he
         have HN:iW (R=none):=iF (by rw[aC.out,aN.out];simp only[jh,pY he]);clear he aM;exact BH
        .have bR:q3<s.size:=lK
         have d4:decide (s.size<=q3)=false:=decide_eq_false he;have aU:=iF (o7 bR);clear he;by_cases aD:s[q3]=93
         .have bG:((s[q3].toNat:Int) !=93)=false:=by rw[aD];rfl
          have V:iW (R=some (.node ⟨4,(aS:Int),0⟩ [.node a sub],lS s (q3+1))):=iF (by rw[aC.out,aN.out];simp only[jh,aU.out,aD]);clear aD aC aU aN aM;have dE:q3<=1000:=lK;go_wp2_with fail;rw[mq];obtain⟨dF,e1,e2,e3,bZ⟩:=Dk G3.out.1 G3.out.2.1 (lg lH 4) (lg lH (aS:Int)) (lh (some ⟨w4.heap.size,0,none⟩) 1 1) (lg lH 0);have aJ:=uk (g:=g) (a:=lg lH 4) (b:=lg lH (aS:Int)) (c:=lh (some ⟨w4.heap.size,0,none⟩) 1 1) (d:=lg lH 0) bE.out.2 (λk hk=>by omega);have cz:=vR (w:=w4) (g:=g) (a:=lg lH 4) (b:=lg lH (aS:Int)) (c:=lh (some ⟨w4.heap.size,0,none⟩) 1 1) (d:=lg lH 0);generalize nY w4 g (lg lH 4) (lg lH (aS:Int)) (lh (some ⟨w4.heap.size,0,none⟩) 1 1) (lg lH 0)=w5 at*;have hal:=(iL w5.heap.size w5).alloc (iI _) (lG #[lg lH a.kind,lg lH a.size,lh o n c,lg lH a.tail] TT);have bM:=lN.new w5 #[lg lH a.kind,lg lH a.size,lh o n c,lg lH a.tail] TT;rw[cz]at bM;have bK:=aJ.below hal;have cB:=(hal.cell (p:=⟨g,0,none⟩) (show g<w5.heap.size by omega)).trans dF;have dG:=(hal.cell (p:=⟨g,1,none⟩) (show g<w5.heap.size by omega)).trans e1;have dH:=(hal.cell (p:=⟨g,2,none⟩) (show g<w5.heap.size by omega)).trans e2;have dI:=(hal.cell (p:=⟨g,3,none⟩) (show g<w5.heap.size by omega)).trans e3;have bS:=bZ.trans (hal.mono lK);generalize w5.alloc (lG #[lg lH a.kind,lg lH a.size,lh o n c,lg lH a.tail] TT)=w6 at*;refine iV (v:=lD #[lC #[lg lH 4,lg lH (aS:Int),lh (some ⟨w4.heap.size,0,none⟩) 1 1,lg lH 0],lg lH ((q3:Int)+1)]) (by simp[jr,Tryz.results46,go_sem,cB,dG,dH,dI]) rfl ?_;rw[<-HP.out];exact⟨⟨4,(aS:Int),0⟩,_,1,1,_,rfl,hg▸bS,.inl ⟨_,q3+1,V.out,lU,lK,EL (by have:=bY.out;omega),(K3 (Q:=λk=>g+1<=k) bM bE.out.1 bK lK).keep (iI _) (λk _ hk=>by omega) λ_ _ _=>rfl⟩⟩
         .have bG:((s[q3].toNat:Int) !=93)=true:=by rw[bne_iff_ne];intro aR;exact aD (jX.1 (by have:(93:UInt8).toNat=93:=rfl;omega))
          have HN:iW (R=none):=iF (by
           rw[aC.out,aN.out];simp only[jh,aU.out];split;.rename_i r4 e4;exact absurd (List.cons.inj e4).1 aD
           .rfl)
          clear aD aC aU aN aM;exact BH
       .have HN:iW (R=none):=iF (by rw[aC.out,bF];rfl)
        clear bF aM;exact BH
      .have l2:((s[q2].toNat:Int) !=58)=true:=by rw[bne_iff_ne];intro aR;exact aB (jX.1 (by have:(58:UInt8).toNat=58:=rfl;omega))
       have HN:iW (R=none):=iF (by
        rw[J.out,aL.out];simp only[jh,aT.out];split;.rename_i r4 e4;exact absurd (List.cons.inj e4).1 aB
        .rfl)
       clear aB J aL aT;exact BH
    .have HN:iW (R=none):=iF (by rw[J.out,h1];rfl)
     clear h1 yO;exact BH
   have dQ:((s[p].toNat:Int)==91)=false:=hk.out 91 aA;have ax:=iF C.out;rw[if_neg aA]at ax;clear aA C;have C:=ax;clear ax;by_cases ah:s[p]=123
   .have l0:((s[p].toNat:Int) !=123)=false:=by rw[ah];rfl
    have J:=iF C.out;rw[if_pos ah]at J;clear ah C hk au ay;obtain⟨cB,hi,hz0,hz1,hz2⟩:=info_parts Pt;have aK:iW (∀W,w1.alloc (lG #[lg lH 5,lg lH 0,lh none 0 0,lg lH 0] TT)=W->Jb w g (lh none 0 0) [] 0 W):=iF λW h=>by
     subst h;have hz1:=G.out.2.2;have hal:=(iL w1.heap.size w1).alloc (iI _) (lG #[lg lH 5,lg lH 0,lh none 0 0,lg lH 0] TT);have Z:=lN.new w1 #[lg lH 5,lg lH 0,lh none 0 0,lg lH 0] TT;obtain⟨cs,h1,h2⟩:=G.out.2.1;rw[hz1]at Z;exact⟨G.out.1.trans (hal.mono lK),⟨cs,Below.blk hal h1 lK,h2⟩,Z,tL.nil _ _ _ _,lU,lK,lW⟩
    have hz1:=G.out.2.2;clear x0 r0 x1 r1 x2 r2 x3 r3 y0 y1 y2 y3;go_wp2_with fail;have cK:=iF (aK.out _ rfl);generalize w1.alloc (lG #[lg lH 5,lg lH 0,lh none 0 0,lg lH 0] TT)=w2 at*;clear aK G hz1;go_loopw [1,16,17] (λiv _ _ dJ=>∃(f k t:Nat) (v:iJ) (L:List (nJ TL)),iv=lg lH (k:Nat)/\iW (Jb w g v L t dJ)/\s.size - k<f/\iW (R=ny (ps D) f (lS s k) (L.map nJ.tree) t)/\L.length<=k/\t<=L.length/\k<=s.size) (λiv _ _ _=>s.size -(jA iv).toNat);case atStart=>exact⟨s.size - p,q,0,lh none 0 0,[],by rw[bC.out],iF cK.out,by have:=dz.out;omega,iF (by rw[J.out];rfl),lU,lU,bB⟩
    case round=>
     obtain⟨f,k,t,v,L,rfl,F,dW,aj,cO,cZ,df⟩:=hrel;obtain⟨f,rfl⟩:∃dK,f=dK+1:=⟨f - 1,lK⟩;obtain⟨oa,cap,rfl⟩:=F.out.own.slice;obtain⟨c0,c1,c2,c3,z2,z3⟩:=F.out.c0;obtain⟨⟨x0,r0⟩,⟨x1,r1⟩,⟨x2,r2⟩,⟨x3,r3⟩,y0,y1,y2,y3⟩:=sJ F.out.res;obtain⟨M,bT⟩:=lV L.length;have HM:=iF bT;rw[bT]at cO cZ F c2;clear bT cK J;by_cases he:s.size<=k
     .have bQ:decide (k<s.size)=false:=decide_eq_false lK
      have d4:decide (s.size<=k)=true:=decide_eq_true he;have HN:iW (R=none):=iF (by rw[aj.out,pY he,Z9]);clear he;exact PE
     have hlt:k<s.size:=lK;have bQ:decide (k<s.size)=true:=decide_eq_true hlt;have aV:=iF (o7 hlt);by_cases ai:s[k]=125
     .have dL:((s[k].toNat:Int) !=125)=false:=by rw[ai];rfl
      have d4:decide (s.size<=k)=false:=decide_eq_false he;have V:iW (R=some (.node ⟨5,0,(t:Int)⟩ (L.map nJ.tree),lS s (k+1))):=iF (by rw[aj.out,aV.out,ai,Z8]);clear he ai;have aJ:=F.out.own.subs;have dh:=iF aJ;clear aJ;go_wp2_with fail;rw[mq];exact uY F.out.nV F.out.res ⟨5,0,(t:Int)⟩ oa M cap ((k:Int)+1) HP.out hg rfl rfl rfl (.inl ⟨L.map nJ.tree,k+1,V.out,lU,lK,EL lK,(uk dh.out (λk hk=>by omega)).keep (iI _) (λk _ hk=>by omega) λ_ _ _=>rfl⟩)
     have dL:((s[k].toNat:Int) !=125)=true:=by rw[bne_iff_ne];intro aR;exact ai (jX.1 (by have:(125:UInt8).toNat=125:=rfl;omega))
     have bN:=iF ai;clear he ai;by_cases h0:M=0
     .have d5:decide (0<M)=false:=decide_eq_false lK
      have HST:iW (R=(mark (lS s k) t).bind λq=>(ps D q.1).bind λy=>ny (ps D) f y.2 (L.map nJ.tree++[y.1]) q.2):=iF (by
       have e:L=[]:=kR.1 (HM.out.trans h0);subst e;rw[aj.out,aV.out];exact Vm bN.out)
      have aF:k<=s.size:=df;have aW:k<=k:=iI _;clear aj h0;have ak:iW (mM 63 (lS s (k))=true->mark (lS s (k)) t=some (lS s (k+1),t+1)):=iF λh=>EH aF h
      have aa:iW (mM 63 (lS s (k))=false->mark (lS s (k)) t=if 0<t then none else some (lS s (k),t)):=iF λh=>IA h
      have bH:(∃h:k<s.size,iW (s[k]=63))\/(k=s.size)\/(∃h:k<s.size,iW (s[k]≠63)):=by
       rcases jG (k) s.size with h|h
       .by_cases h2:s[k]=63
        .exact .inl ⟨h,h2⟩
        .exact .inr (.inr ⟨h,h2⟩)
       .exact .inr (.inl lK)
      rcases bH with⟨U,N⟩|U|⟨U,N⟩
      .have d6:decide (k<s.size)=true:=decide_eq_true U
       have bG:((s[k].toNat:Int)==63)=true:=by rw[N.out];rfl
       have Nv:=iF (ak.out (by rw[o7 U,N.out];rfl));have ht1:t+1<=M+1:=lK;have ae:k+1<=s.size:=lK;have aX:k<=k+1:=lK;clear ak aa N;go_upto_region 33 with fail;have F3:=iF (F.out.more lK);generalize wr.setCell ⟨g+1,3,none⟩ (lg lH ((t:Int)+1))=w3 at*;clear c0 c1 c2 c3 z2 z3 x0 r0 x1 r1 x2 r2 x3 r3 y0 y1 y2 y3 F;have Y:iW (iU iG 46 #[ll s,lg lH ((k:Int)+1),lg lH ((dep:Int)+1)] w3 (xZ (ps D (lS s (k+1))) s w3)):=iF (bu.out (dep+1) (k+1) w3 (by have:=aQ.out;omega) ae);go_wp2_with fail;refine(Y.out).mono ?_;rintro e w4 ⟨a,o,n,c,z,rfl,E,A⟩;have HB4:=iF E;have aY:g+2<=w3.heap.size:=F3.out.hB;have aZ:w3.heap.size<=w4.heap.size:=E.size;have HOB:=iF F3.out.own.block;have O:iW (∀W,w4.alloc (lG #[lg lH a.kind,lg lH a.size,lh o n c,lg lH a.tail] TT)=W->Jb w g (lh oa M cap) L (t+1) W/\lN W w4.heap.size #[lg lH a.kind,lg lH a.size,lh o n c,lg lH a.tail] TT/\iK w4.heap.size w4 W):=iF λW h=>by
        exact EN
       have yO:=iF A;clear A E Y;go_upto_region 37 with fail;generalize w4.alloc (lG #[lg lH a.kind,lg lH a.size,lh o n c,lg lH a.tail] TT)=w5 at*;have G5:=iF (O.out _ rfl);have F5:=iF G5.out.1;clear O;rcases yO.out with⟨sub,p2,h1,rfl,h2,h3,h4⟩|⟨h1,rfl⟩
       .have HPS:=iF h1
        have bg:k+1<p2:=by
         exact EO
        exact YC
       .exact EM
      .omega
      .have d6:decide (k<s.size)=true:=decide_eq_true U
       have bG:((s[k].toNat:Int)==63)=false:=by rw[beq_eq_false_iff_ne];intro aR;exact N.out (jX.1 (by have:(63:UInt8).toNat=63:=rfl;omega))
       have IK:=iF (aa.out (by rw[o7 U];simp[mM,N.out]));clear ak aa N;by_cases ht0:0<t;.exact NG
       .obtain rfl:t=0:=lK
        have Nv:iW (mark (lS s (k)) 0=some (lS s (k),0)):=iF (by rw[IK.out];rfl);have F3:=iF F.out;have ht1:0<=M+1:=lK;have ae:k<=s.size:=aF;have aX:k<=k:=aW;clear ht0 IK;go_upto_region 36 with fail;generalize wr=w3 at*;clear c0 c1 c2 c3 z2 z3 x0 r0 x1 r1 x2 r2 x3 r3 y0 y1 y2 y3 F;have Y:iW (iU iG 46 #[ll s,lg lH ((k:Int)),lg lH ((dep:Int)+1)] w3 (xZ (ps D (lS s (k))) s w3)):=iF (bu.out (dep+1) (k) w3 (by have:=aQ.out;omega) ae);go_wp2_with fail;refine(Y.out).mono ?_;rintro e w4 ⟨a,o,n,c,z,rfl,E,A⟩;have HB4:=iF E;have aY:g+2<=w3.heap.size:=F3.out.hB;have aZ:w3.heap.size<=w4.heap.size:=E.size;have HOB:=iF F3.out.own.block;have O:iW (∀W,w4.alloc (lG #[lg lH a.kind,lg lH a.size,lh o n c,lg lH a.tail] TT)=W->Jb w g (lh oa M cap) L (0) W/\lN W w4.heap.size #[lg lH a.kind,lg lH a.size,lh o n c,lg lH a.tail] TT/\iK w4.heap.size w4 W):=iF λW h=>by
         exact EN
        have yO:=iF A;clear A E Y;go_upto_region 37 with fail;generalize w4.alloc (lG #[lg lH a.kind,lg lH a.size,lh o n c,lg lH a.tail] TT)=w5 at*;have G5:=iF (O.out _ rfl);have F5:=iF G5.out.1;clear O;rcases yO.out with⟨sub,p2,h1,rfl,h2,h3,h4⟩|⟨h1,rfl⟩
        .have HPS:=iF h1
         have bg:k<p2:=by
          exact EO
         exact Vn
        .exact EM
     .have d5:decide (0<M)=true:=decide_eq_true lK
      have bq:L.map nJ.tree≠[]:=by
       intro e;have:=congrArg List.length e;rw[List.length_map,HM.out]at this;exact h0 (by simpa using this)
      by_cases aG:s[k]=44
      .have l2:((s[k].toNat:Int) !=44)=false:=by rw[aG];rfl
       have HST:iW (R=(mark (lS s (k+1)) t).bind λq=>(ps D q.1).bind λy=>ny (ps D) f y.2 (L.map nJ.tree++[y.1]) q.2):=iF (by
        rw[aj.out,aV.out,aG];exact XZ bq)
       have aF:k+1<=s.size:=lK;have aW:k<=k+1:=lK;clear aj h0 aG bq;have ak:iW (mM 63 (lS s (k+1))=true->mark (lS s (k+1)) t=some (lS s (k+1+1),t+1)):=iF λh=>EH aF h
       have aa:iW (mM 63 (lS s (k+1))=false->mark (lS s (k+1)) t=if 0<t then none else some (lS s (k+1),t)):=iF λh=>IA h
       have bH:(∃h:k+1<s.size,iW (s[k+1]=63))\/(k+1=s.size)\/(∃h:k+1<s.size,iW (s[k+1]≠63)):=by
        rcases jG (k+1) s.size with h|h
        .by_cases h2:s[k+1]=63
         .exact .inl ⟨h,h2⟩
         .exact .inr (.inr ⟨h,h2⟩)
        .exact .inr (.inl lK)
       rcases bH with⟨U,N⟩|U|⟨U,N⟩
       .have d6:decide (k+1<s.size)=true:=decide_eq_true U
        have bG:((s[k+1].toNat:Int)==63)=true:=by rw[N.out];rfl
        have Nv:=iF (ak.out (by rw[o7 U,N.out];rfl));have ht1:t+1<=M+1:=lK;have ae:k+1+1<=s.size:=lK;have aX:k<=k+1+1:=lK;clear ak aa N;go_upto_region 33 with fail;have F3:=iF (F.out.more lK);generalize wr.setCell ⟨g+1,3,none⟩ (lg lH ((t:Int)+1))=w3 at*;clear c0 c1 c2 c3 z2 z3 x0 r0 x1 r1 x2 r2 x3 r3 y0 y1 y2 y3 F;have Y:iW (iU iG 46 #[ll s,lg lH (((k:Int)+1)+1),lg lH ((dep:Int)+1)] w3 (xZ (ps D (lS s (k+1+1))) s w3)):=iF (bu.out (dep+1) (k+1+1) w3 (by have:=aQ.out;omega) ae);go_wp2_with fail;refine(Y.out).mono ?_;rintro e w4 ⟨a,o,n,c,z,rfl,E,A⟩;have HB4:=iF E;have aY:g+2<=w3.heap.size:=F3.out.hB;have aZ:w3.heap.size<=w4.heap.size:=E.size;have HOB:=iF F3.out.own.block;have O:iW (∀W,w4.alloc (lG #[lg lH a.kind,lg lH a.size,lh o n c,lg lH a.tail] TT)=W->Jb w g (lh oa M cap) L (t+1) W/\lN W w4.heap.size #[lg lH a.kind,lg lH a.size,lh o n c,lg lH a.tail] TT/\iK w4.heap.size w4 W):=iF λW h=>by
         exact EN
        have yO:=iF A;clear A E Y;go_upto_region 37 with fail;generalize w4.alloc (lG #[lg lH a.kind,lg lH a.size,lh o n c,lg lH a.tail] TT)=w5 at*;have G5:=iF (O.out _ rfl);have F5:=iF G5.out.1;clear O;rcases yO.out with⟨sub,p2,h1,rfl,h2,h3,h4⟩|⟨h1,rfl⟩
        .have HPS:=iF h1
         have bg:k+1+1<p2:=by
          exact EO
         exact YC
        .exact EM
       .have d6:decide (k+1<s.size)=false:=decide_eq_false lK
        have IK:=iF (aa.out (by rw[pY lK];rfl));clear ak aa;by_cases ht0:0<t;.exact NG
        .obtain rfl:t=0:=lK
         have Nv:iW (mark (lS s (k+1)) 0=some (lS s (k+1),0)):=iF (by rw[IK.out];rfl);have F3:=iF F.out;have ht1:0<=M+1:=lK;have ae:k+1<=s.size:=aF;have aX:k<=k+1:=aW;clear ht0 IK;go_upto_region 36 with fail;generalize wr=w3 at*;clear c0 c1 c2 c3 z2 z3 x0 r0 x1 r1 x2 r2 x3 r3 y0 y1 y2 y3 F;have Y:iW (iU iG 46 #[ll s,lg lH (((k:Int)+1)),lg lH ((dep:Int)+1)] w3 (xZ (ps D (lS s (k+1))) s w3)):=iF (bu.out (dep+1) (k+1) w3 (by have:=aQ.out;omega) ae);go_wp2_with fail;refine(Y.out).mono ?_;rintro e w4 ⟨a,o,n,c,z,rfl,E,A⟩;have HB4:=iF E;have aY:g+2<=w3.heap.size:=F3.out.hB;have aZ:w3.heap.size<=w4.heap.size:=E.size;have HOB:=iF F3.out.own.block;have O:iW (∀W,w4.alloc (lG #[lg lH a.kind,lg lH a.size,lh o n c,lg lH a.tail] TT)=W->Jb w g (lh oa M cap) L (0) W/\lN W w4.heap.size #[lg lH a.kind,lg lH a.size,lh o n c,lg lH a.tail] TT/\iK w4.heap.size w4 W):=iF λW h=>by
          exact EN
         have yO:=iF A;clear A E Y;go_upto_region 37 with fail;generalize w4.alloc (lG #[lg lH a.kind,lg lH a.size,lh o n c,lg lH a.tail] TT)=w5 at*;have G5:=iF (O.out _ rfl);have F5:=iF G5.out.1;clear O;rcases yO.out with⟨sub,p2,h1,rfl,h2,h3,h4⟩|⟨h1,rfl⟩
         .have HPS:=iF h1
          have bg:k+1<p2:=by
           exact EO
          exfalso;omega
         .exact EM
       .have d6:decide (k+1<s.size)=true:=decide_eq_true U
        have bG:((s[k+1].toNat:Int)==63)=false:=by rw[beq_eq_false_iff_ne];intro aR;exact N.out (jX.1 (by have:(63:UInt8).toNat=63:=rfl;omega))
        have IK:=iF (aa.out (by rw[o7 U];simp[mM,N.out]));clear ak aa N;by_cases ht0:0<t;.exact NG
        .obtain rfl:t=0:=lK
         have Nv:iW (mark (lS s (k+1)) 0=some (lS s (k+1),0)):=iF (by rw[IK.out];rfl);have F3:=iF F.out;have ht1:0<=M+1:=lK;have ae:k+1<=s.size:=aF;have aX:k<=k+1:=aW;clear ht0 IK;go_upto_region 36 with fail;generalize wr=w3 at*;clear c0 c1 c2 c3 z2 z3 x0 r0 x1 r1 x2 r2 x3 r3 y0 y1 y2 y3 F;have Y:iW (iU iG 46 #[ll s,lg lH (((k:Int)+1)),lg lH ((dep:Int)+1)] w3 (xZ (ps D (lS s (k+1))) s w3)):=iF (bu.out (dep+1) (k+1) w3 (by have:=aQ.out;omega) ae);go_wp2_with fail;refine(Y.out).mono ?_;rintro e w4 ⟨a,o,n,c,z,rfl,E,A⟩;have HB4:=iF E;have aY:g+2<=w3.heap.size:=F3.out.hB;have aZ:w3.heap.size<=w4.heap.size:=E.size;have HOB:=iF F3.out.own.block;have O:iW (∀W,w4.alloc (lG #[lg lH a.kind,lg lH a.size,lh o n c,lg lH a.tail] TT)=W->Jb w g (lh oa M cap) L (0) W/\lN W w4.heap.size #[lg lH a.kind,lg lH a.size,lh o n c,lg lH a.tail] TT/\iK w4.heap.size w4 W):=iF λW h=>by
          exact EN
         have yO:=iF A;clear A E Y;go_upto_region 37 with fail;generalize w4.alloc (lG #[lg lH a.kind,lg lH a.size,lh o n c,lg lH a.tail] TT)=w5 at*;have G5:=iF (O.out _ rfl);have F5:=iF G5.out.1;clear O;rcases yO.out with⟨sub,p2,h1,rfl,h2,h3,h4⟩|⟨h1,rfl⟩
         .have HPS:=iF h1
          have bg:k+1<p2:=by
           exact EO
          exact Vn
         .exact EM
      .have l2:((s[k].toNat:Int) !=44)=true:=by rw[bne_iff_ne];intro aR;exact aG (jX.1 (by have:(44:UInt8).toNat=44:=rfl;omega))
       have HN:iW (R=none):=iF (by rw[aj.out,aV.out,Vl bN.out bq aG]);clear aj h0 aG bq;exact PE
   .have l0:((s[p].toNat:Int) !=123)=true:=by
     have:=au.out 123 ah;exact this
    have J:=iF C.out;rw[if_neg ah]at J;clear ah C hk au ay;go_wp2_with fail;rw[mq];exact uY G.out.1 G.out.2.1 ⟨0,0,0⟩ none 0 0 (-1) HP.out hg rfl rfl rfl (.inr ⟨J.out,rfl⟩)
def K6(l:List UInt8)(w:iH)(e:Ending)(w':iH):Prop:=
 ∃(a:TL) (o:Option kr) (n c:Nat) (er:Int) (sub:List (lL TL)),e=lF (lD #[lC #[lg lH a.kind,lg lH a.size,lh o n c,lg lH a.tail],lg lH er])/\iK w.heap.size w w'/\TL.wf a/\mD w' (lh o n c) sub/\
  (yH l=some (.node a sub)/\er=0\/yH l=none/\er=3/\a=⟨0,0,0⟩/\sub=[])
theorem NH{l:List UInt8}(h:ps 8 l=none):yH l=none:=by unfold yH;rw[h]
theorem NI{l r:List UInt8}(h:ps 8 l=some (x,r))(A:r≠[]):yH l=none:=by
 unfold yH;rw[h];cases r with
 |nil=>exact absurd rfl A
 |cons _ _=>rfl
theorem Rl{l:List UInt8}(h:ps 8 l=some (x,[])):yH l=if nG x then some x else none:=by unfold yH;rw[h]
theorem K7{pf:List UInt8->Option (lL TL×List UInt8)}(h:∀l y,pf l=some y->y.1.count+y.2.length<=l.length):
  ∀(g:Nat)(l:List UInt8)(sub:List (lL TL))(tail:Nat)(y:lL TL×List UInt8),ny pf g l sub tail=some y->y.1.count+y.2.length<=l.length+lL.lZ sub:=by
 intro g;induction g with
 |zero=>intro l sub tail y A;simp[ny]at A
 |succ g E=>
  intro l sub tail y A;cases l with
  |nil=>simp[ny]at A
  |cons b r=>
   simp only[ny]at A;split at A
   .cases A
    simp only[lL.count,jm];omega
   .simp only[jd]at A
    obtain⟨J,C,q,N,x,O,Q⟩:=A;have U:=E _ _ _ _ Q;have a2:=h _ _ O;have a3:=xJ N;have a4:J.length<=(b::r).length:=by
     split at C;.cases C;exact iI _
     .split at C
      .cases C;simp
      .cases C
    simp only[lL.pX,lL.lZ]at U;omega
theorem PG(h:p:=by
 simp only[jd]at h;obtain⟨q,h1,h2⟩:=h;have:=qi h1;cases h2;simp[lL.count,lL.lZ];omega):p:=h
theorem Vq:∀(d:Nat)(l:List UInt8)(y:lL TL×List UInt8),ps d l=some y->y.1.count+y.2.length<=l.length:=by
 intro d;induction d with
 |zero=>intro l y h;simp[ps]at h
 |succ d C=>
  intro l y h;cases l with
  |nil=>simp[ps]at h
  |cons b r=>
   simp only[ps]at h;split at h
   .simp only[jd]at h
    obtain⟨q,h1,h2⟩:=h;have:=qi h1;split at h2;.cases h2;simp[lL.count,lL.lZ];omega
    .cases h2
   split at h;.exact PG
   split at h;.exact PG
   split at h
   .simp only[jd]at h
    obtain⟨x,h1,h2⟩:=h;have E:=C _ _ h1;split at h2
    .rename_i r2 e
     simp only[jd]at h2;obtain⟨q,J,A⟩:=h2;have a2:=qi J;rw[e]at E;split at A
     .rename_i r4 e4
      cases A;rw[e4]at a2;simp only[jm,lL.count,lL.lZ]at E a2⊢;omega
     .cases A
    .cases h2
   split at h
   .have:=K7 C _ _ _ _ _ h
    simp only[jm,lL.lZ]at this⊢;omega
   .cases h
theorem NJ(h:p:=by
 refine iV (v:=lD #[lC #[lg lH 0,lg lH 0,lh none 0 0,lg lH 0],lg lH 3]) (by simp[jr,Tryz.results21,go_sem,e0,e1,e2,e3]) rfl ?_;exact hpost):p:=h
theorem PH(s:ByteArray)(w:iH)(hs:s.size<=1000):
  iU iG 21 #[ll s] w (K6 s.data.toList w):=by
 obtain⟨g,hg⟩:=lV w.heap.size;have aQ:iW (∀W,w.alloc (lG #[lg lH 0,lg lH 0,lh none 0 0,lg lH 0] TT)=W->iK g w W/\lN W g #[lg lH 0,lg lH 0,lh none 0 0,lg lH 0] TT/\W.heap.size=g+1):=iF λW h=>by
  subst h;have az:=(iL w.heap.size w).alloc (iI _) (lG #[lg lH 0,lg lH 0,lh none 0 0,lg lH 0] TT);have aA:=lN.new w #[lg lH 0,lg lH 0,lh none 0 0,lg lH 0] TT;rw[hg]at az aA;exact⟨az,aA,lW⟩
 obtain⟨aH,aI⟩:=lV (K6 s.data.toList w);have aR:=iF aI;rw[aI];clear aI;go_in;go_upto_region 1 with fail;generalize w.alloc (lG #[lg lH 0,lg lH 0,lh none 0 0,lg lH 0] TT)=w1 at*;have V:=iF (aQ.out _ rfl);have aS:iW (iU iG 46 #[ll s,lg lH 0,lg lH 1] w1 (xZ (ps 8 (lS s 0)) s w1)):=iF (Rk s hs 8 1 0 w1 rfl (jy _));clear aQ;go_wp2_with fail;refine(aS.out).mono ?_;rintro e w2 ⟨a,o,n,c,z,rfl,Y,aa⟩;have aX:g+1<=w2.heap.size:=by have:=Y.size;have:=V.out.2.2;omega
 have aB:iW (iK g w w2/\lN w2 g #[lg lH 0,lg lH 0,lh none 0 0,lg lH 0] TT):=iF ⟨V.out.1.trans (Y.mono (by have:=V.out.2.2;omega)),Below.blk Y V.out.2.1 V.out.2.1.lt⟩;have E:iW ((∃sub q,ps 8 s.data.toList=some (.node a sub,lS s q)/\z=(q:Nat)/\q<=s.size/\TL.wf a/\l9.lY w2 (λk=>g+1<=k) (lh o n c) sub)\/(ps 8 s.data.toList=none/\z= -1)):=iF (by
  rcases aa with⟨sub,q,J,aY,aJ,ae,af⟩|h
  .exact .inl ⟨sub,q,J,aY,aJ,ae,af.keep (iI _) (λk _ hk=>by have:=V.out.2.2;omega) λ_ _ _=>rfl⟩
  .exact .inr h)
 have aC:iW (∀W,w2.alloc (lG #[lg lH a.kind,lg lH a.size,lh o n c,lg lH a.tail] TT)=W->iK w2.heap.size w2 W/\lN W w2.heap.size #[lg lH a.kind,lg lH a.size,lh o n c,lg lH a.tail] TT/\W.heap.size=w2.heap.size+1):=iF λW h=>by
  subst h;exact⟨(iL w2.heap.size w2).alloc (iI _) _,lN.new w2 _ _,lU⟩
 clear Y aa aS V;go_upto_region 2 with fail;generalize w2.alloc (lG #[lg lH a.kind,lg lH a.size,lh o n c,lg lH a.tail] TT)=w3 at*;obtain⟨N,aD,aT⟩:=aC.out _ rfl
 have A:iW (iK g w w3/\lN w3 g #[lg lH 0,lg lH 0,lh none 0 0,lg lH 0] TT/\lN w3 w2.heap.size #[lg lH a.kind,lg lH a.size,lh o n c,lg lH a.tail] TT/\iK w2.heap.size w2 w3):=
  iF ⟨aB.out.1.trans (N.mono lK),Below.blk N aB.out.2 lK,aD,N⟩
 have aK:w2.heap.size<w3.heap.size:=lK;clear aC N aD aT;obtain⟨aL,aM,aN,aO⟩:=A.out.2.2.1.a4;obtain⟨r0,r1,r2,r3,ak,au,av,ax⟩:=A.out.2.1.b4
 have O:iW (∀W,iK g w W->(∃cs,lN W g cs TT/\cs.size=4)->yH s.data.toList=none->(nY W g (lg lH 0) (lg lH 0) (lh none 0 0) (lg lH 0)).cell? ⟨g,0,none⟩=some (lg lH 0)/\(nY W g (lg lH 0) (lg lH 0) (lh none 0 0) (lg lH 0)).cell? ⟨g,1,none⟩=some (lg lH 0)/\
   (nY W g (lg lH 0) (lg lH 0) (lh none 0 0) (lg lH 0)).cell? ⟨g,2,none⟩=some (lh none 0 0)/\(nY W g (lg lH 0) (lg lH 0) (lh none 0 0) (lg lH 0)).cell? ⟨g,3,none⟩=some (lg lH 0)/\
   aH (lF (lD #[lC #[lg lH 0,lg lH 0,lh none 0 0,lg lH 0],lg lH 3])) (nY W g (lg lH 0) (lg lH 0) (lh none 0 0) (lg lH 0))):=iF λW aZ hB bg=>by
  obtain⟨e0,e1,e2,e3,ag⟩:=Dk aZ hB (lg lH 0) (lg lH 0) (lh none 0 0) (lg lH 0);refine⟨e0,e1,e2,e3,?_⟩;rw[<-aR.out];exact⟨⟨0,0,0⟩,none,0,0,3,[],rfl,hg▸ag,Gp lK,yF _ _,.inr ⟨bg,rfl,rfl,rfl⟩⟩
 rcases E.out with⟨sub,q,J,rfl,aJ,ae,af⟩|⟨J,rfl⟩
 .by_cases C:q=s.size
  .have aU:((q:Int) !=s.size)=false:=by simp[C]
   have ah:ps 8 s.data.toList=some (.node a sub,[]):=by rw[J,pY lK]
   have Z:=iF (Rl ah);have aV:=iF ae;have aF:iW (l9.lY w3 (λk=>g+1<=k) (lh o n c) sub):=iF (af.keep A.out.2.2.2.size (λ_ _ h=>h) λk hk _=>A.out.2.2.2.block k hk);have aG:=Vq _ _ _ ah;have aW:s.data.toList.length=s.size:=rfl;have ai:=iF (Hf (.node a sub) w3 (lh o n c) (aF.out.keep (iI _) (λ_ _ _=>trivial) λ_ _ _=>rfl) (by simp only[List.length_nil]at aG;omega));have bq:=iF C;clear J ah ae af C E aG aW;simp only[lL.nk]at ai;have aj:iW (∀W,iK w3.heap.size w3 W->iK g w W/\(∃cs,lN W g cs TT/\cs.size=4)/\l9.lY W (λk=>g+1<=k) (lh o n c) sub/\lN W g #[lg lH 0,lg lH 0,lh none 0 0,lg lH 0] TT/\lN W w2.heap.size #[lg lH a.kind,lg lH a.size,lh o n c,lg lH a.tail] TT):=iF λW h=>
    ⟨A.out.1.trans (h.mono lK),⟨_,Below.blk h A.out.2.1 lK,rfl⟩,aF.out.below h,Below.blk h A.out.2.1 lK,Below.blk h A.out.2.2.1 aK⟩
   cases ay:nG (.node a sub)with
   |false=>
    rw[ay]at ai Z;clear ay;go_wp2_with fail;refine(ai.out).mono ?_;rintro e w4 ⟨rfl,U⟩;have Q:=iF (aj.out w4 U);clear U r0 r1 r2 r3 ak au av ax aL aM aN aO;obtain⟨⟨bu,r0⟩,⟨bz,r1⟩,⟨bA,r2⟩,⟨bB,r3⟩,ak,au,av,ax⟩:=sJ Q.out.2.1;go_wp2_with fail;rw[mq];obtain⟨e0,e1,e2,e3,hpost⟩:=O.out w4 Q.out.1 Q.out.2.1 (by rw[Z.out];rfl);exact NJ
   |true=>
    rw[ay]at ai Z;clear ay;go_wp2_with fail;refine(ai.out).mono ?_;rintro e w4 ⟨rfl,U⟩;have Q:=iF (aj.out w4 U);clear U r0 r1 r2 r3 ak au av ax aL aM aN aO;obtain⟨⟨bu,r0⟩,⟨bz,r1⟩,⟨bA,r2⟩,⟨bB,r3⟩,ak,au,av,ax⟩:=sJ Q.out.2.1;obtain⟨aL,aM,aN,aO⟩:=Q.out.2.2.2.2.a4;go_wp2_with fail;rw[mq];obtain⟨e0,e1,e2,e3,ag⟩:=Dk Q.out.1 Q.out.2.1 (lg lH a.kind) (lg lH a.size) (lh o n c) (lg lH a.tail);refine iV (v:=lD #[lC #[lg lH a.kind,lg lH a.size,lh o n c,lg lH a.tail],lg lH 0]) (by simp[jr,Tryz.results21,go_sem,e0,e1,e2,e3]) rfl ?_;rw[<-aR.out];exact⟨a,o,n,c,0,sub,rfl,hg▸ag,aV.out,(uk Q.out.2.2.1 (λk hk=>by omega)).keep (iI _) (λ_ _ _=>trivial) (λ_ _ _=>rfl),.inl ⟨by rw[Z.out];rfl,rfl⟩⟩
  .have aU:((q:Int) !=s.size)=true:=EY
   have aP:iW (yH s.data.toList=none):=iF (NI J λh=>C (Gm aJ h));clear C E J ae af;go_wp2_with fail;rw[mq];obtain⟨e0,e1,e2,e3,hpost⟩:=O.out w3 A.out.1 ⟨_,A.out.2.1,rfl⟩ aP.out;exact NJ
 .have aU:((-1:Int) !=s.size)=true:=EY
  have aP:iW (yH s.data.toList=none):=iF (NH J);clear E J;go_wp2_with fail;rw[mq];obtain⟨e0,e1,e2,e3,hpost⟩:=O.out w3 A.out.1 ⟨_,A.out.2.1,rfl⟩ aP.out;exact NJ
section
variable {c:mU}{rows:List Row}{id:Nat}{nm tx:ByteArray}
theorem Vr(h:rV nm.data.toList=false):rT c rows id nm tx=(11,none):=by unfold rT;rw[if_pos (.inr h)]
theorem Rm(h:(rows.find? λy=>decide (y.name=nm)).isSome=true):rT c rows id nm tx=(11,none):=by unfold rT;rw[if_pos (.inl h)]
theorem X3(h0:rV nm.data.toList=true)(h:¬(rows.find? λy=>decide (y.name=nm)).isSome=true)(A:(rows.find? λy=>decide (y.id=id)).isSome=true):rT c rows id nm tx=(1,none):=by
 unfold rT;rw[if_neg (by rw[h0];simpa using h),if_pos A]
theorem Vs(h0:rV nm.data.toList=true)(h:¬(rows.find? λy=>decide (y.name=nm)).isSome=true)(A:¬(rows.find? λy=>decide (y.id=id)).isSome=true)(C:uG tx.data.toList=none):rT c rows id nm tx=(3,none):=by
 unfold rT;rw[if_neg (by rw[h0];simpa using h),if_neg A,C]
theorem Rn(h0:rV nm.data.toList=true)(h:¬(rows.find? λy=>decide (y.name=nm)).isSome=true)(A:¬(rows.find? λy=>decide (y.id=id)).isSome=true){t:lL TL}(C:uG tx.data.toList=some t)(E:c.fmt=1/\(lL.mR p0 t.sub&&nG t)=false):rT c rows id nm tx=(12,none):=by
 unfold rT;rw[if_neg (by rw[h0];simpa using h),if_neg A,C];dsimp only;rw[if_pos E]
theorem PI(h0:rV nm.data.toList=true)(h:¬(rows.find? λy=>decide (y.name=nm)).isSome=true)(A:¬(rows.find? λy=>decide (y.id=id)).isSome=true){t:lL TL}(C:uG tx.data.toList=some t)(E:¬(c.fmt=1/\(lL.mR p0 t.sub&&nG t)=false)):rT c rows id nm tx=(0,some ⟨id,nm,tx,t⟩):=by
 unfold rT;rw[if_neg (by rw[h0];simpa using h),if_neg A,C];dsimp only;rw[if_neg E]
end
theorem NK{l:List UInt8}(h:yH l=some x):x.count<=1000/\nG x=true:=by
 unfold yH at h;split at h
 .split at h
  .rename_i A
   cases h;refine⟨?_,A⟩;unfold nG at A;simp only[iY,decide_eq_true_eq]at A;omega
  .cases h
 .cases h
theorem BB.at_{w:iH}{oa:Option kr}{n cap:Nat}{A:List sP}(h:BB w (lh oa n cap) A){i:Nat}{e:sP}(he:A[i]? =some e):∃b off,oa=some ⟨b,off,none⟩/\b<w.heap.size/\w.cell? ⟨b,off+i*3,none⟩=some (lg lI e.id)/\w.cell? ⟨b,off+i*3+1,none⟩=some (ll e.nm)/\w.cell? ⟨b,off+i*3+2,none⟩=some (ll e.tx):=by
 obtain⟨N,C,E,O,Q,J⟩:=h;cases E;exact J i e he
theorem Vt(a b:ByteArray):((a.toList==b.toList)=true/\iW (a=b))\/((a.toList==b.toList)=false/\iW (a≠b)):=by
 by_cases h:a=b;.exact .inl ⟨str_eq h,iF h⟩
 .exact .inr ⟨SV h,iF h⟩
theorem a0d(a b:Nat):(((a:Int)==(b:Int))=true/\iW (a=b))\/(((a:Int)==(b:Int))=false/\iW (a≠b)):=by
 by_cases h:a=b;.exact .inl ⟨by simp[h],iF h⟩
 .exact .inr ⟨sQ,iF h⟩
theorem PK(h:p:=by
 refine mF lQ lQ ?_;repeat(go_big_quiet_step (fail))
 refine kS ?_;intro x;go_wp2_with fail;go_returns;exact⟨by rw[HX.out];rfl,HB3.out x⟩):p:=h
theorem Vu(h:p:=by
 go_wp2_with fail;refine(CR.out _).mono ?_;rintro e w2 ⟨rfl,hb2⟩;have HB2:=iF (H1.out.trans (hb2.mono lK));clear hb2;go_wp2_with fail;go_returns;exact⟨by rw[HE.out];rfl,HB2.out⟩):p:=h
theorem X4(c:mU)(E:List sP)(v:iJ)(w:iH)(bK:BB w v E)(bE:∀e,e∈E->e.nm.size<=jb/\e.tx.size<=1000)(hn:E.length<=100):
  iU iG 29 #[c.v,v] w λe w'=>e=lF (lg lH (CE c E))/\iK w.heap.size w w':=by
 obtain⟨oa,cap,rfl,bA,cO,_⟩:=id bK;obtain⟨n,aM⟩:=lV E.length;obtain⟨g,hg⟩:=lV w.heap.size;have bL:=iF (sN (w:=w) c (t:=rC));have bF:iW (∀W,w.alloc (lG #[lg lH c.fmt,lg lJ c.mag,lg lH c.nK,lg lH c.oF,lg lH c.dep,lg lH c.mX] rC)=W->W.heap.size=g+1):=iF λW h=>by subst h;simp[hg]
 have bU:=iF bK;have bV:=iF bE;have bB:=iF aM;have CR:iW (∀W,iU iG 39 #[lC #[lg lH c.fmt,lg lJ c.mag,lg lH c.nK,lg lH c.oF,lg lH c.dep,lg lH c.mX]] W λe w'=>e=lF (lu (mK c))/\iK W.heap.size W w'):=iF λW=>K5 c W
 obtain⟨R,aL⟩:=lV (CE c E);have aN:iW (mK c=false->R=1):=iF λh=>by rw[<-aL];unfold CE sI;rw[if_pos h];rfl
 have aO:iW (mK c=true->32<n->R=4):=iF λh O=>by rw[<-aL];unfold CE sI;rw[h,if_neg lM,if_pos lK];rfl
 have aP:iW (mK c=true->n<=32->∀er:Nat,pz c [] E=.error er->R=er):=iF λh O er az=>by rw[<-aL];unfold CE sI;rw[h,if_neg lM,if_neg lK,az]
 have aQ:iW (mK c=true->n<=32->∀rows,pz c [] E=.ok rows->R=0):=iF λh O rows az=>by rw[<-aL];unfold CE sI;rw[h,if_neg lM,if_neg lK,az]
 unfold mU.v mU.cs;rw[hg]at bL⊢;rw[aM]at bU hn bA⊢;rw[aL];obtain⟨rc,bG⟩:=lV (mK c);rw[bG]at CR aN aO aP aQ;clear bK bE aM aL bG;go_in;go_upto_region 1 with fail;obtain⟨bH,c0,c1,c2,c3,c4,c5⟩:=bL.out _ rfl;have bW:=bF.out _ rfl;generalize w.alloc _=w1 at*;have H1:=iF bH;clear bL bF bH;cases rc with
 |false=>
  have HE:=iF (aN.out rfl);exact Vu
 |true=>
 by_cases bX:32<n
 .have HE:=iF (aO.out rfl bX)
  exact Vu
 have af:iW (∀er:Nat,pz c [] E=.error er->R=er):=iF (λer h=>aP.out rfl lK er h);have bY:iW (∀rows,pz c [] E=.ok rows->R=0):=iF (λrows h=>aQ.out rfl lK rows h);clear aP aQ;clear aN aO;go_wp2_with fail;refine(CR.out _).mono ?_;rintro e w2 ⟨rfl,hb2⟩;have HB2:iW (iK (g+1) w1 w2):=iF (bW▸hb2);clear hb2 CR c1 c2 c3 c4 c5;go_wp2_with fail;go_loopw [5] (λiv cZ=>∃i rows,iv=lg lH (i:Nat)/\i<=n/\iW (pz c [] (E.take i)=.ok rows)/\iW (iK (g+1) w1 cZ)) (λiv _=>n -(jA iv).toNat);case atStart=>exact⟨0,[],rfl,lK,iF (by simp[pz]),HB2⟩
 case round=>
  obtain⟨i,rows,rfl,hi,U,ag⟩:=hrel;have ae:iW (∀W,iK (g+1) w1 W->iK g w W):=iF λW h=>H1.out.trans (h.mono lK)
  have ah:iW (∀W,iK (g+1) w1 W->BB W (lh oa n cap) E):=iF λW h=>bU.out.below (hg.symm▸ae.out W h)
  have dw:g+1<=wr.heap.size:=by have:=ag.out.size;omega
  by_cases ci:i<n
  .obtain⟨e,he⟩:∃e,E[i]? =some e:=⟨_,iZ (by rw[bB.out];exact ci)⟩
   have HE:=iF he;obtain⟨bZ,cz⟩:=bV.out e (jc he);obtain⟨b,off,rfl,hlt,dx,e1,e2⟩:=BB.at_ (ah.out wr ag.out) he;have bM:=iF (Qf e.nm wr bZ);have aR:iW (rV e.nm.data.toList=false->R=11):=iF λh=>af.out 11 (xX U.out HE.out (Vr h))
   obtain⟨df,aS⟩:=lV (rV e.nm.data.toList);have ai:=iF aS;rw[aS]at bM aR;clear he aS;cases df with
   |false=>
    have HX:=iF (aR.out rfl);have HB3:=iF (ae.out wr ag.out);go_wp2_with fail;refine bM.out.mono ?_;rintro e w3 ⟨rfl,rfl⟩;go_wp2_with fail;go_returns;exact⟨by rw[HX.out];rfl,HB3.out⟩
   |true=>
    clear aR;go_wp2_with fail;refine bM.out.mono ?_;rintro A w3 ⟨rfl,rfl⟩;go_wp2_with fail;go_loopw [6] (λkv wk=>∃k:Nat,kv=lg lH k/\k<=i/\iW (∀j A,j<k->E[j]? =some A->A.nm≠e.nm)/\iW (iK (g+1) w1 wk)) (λkv _=>i -(jA kv).toNat);case atStart=>exact⟨0,rfl,lK,iF (λj A aA=>by omega),ag⟩
    case round=>
     obtain⟨k,rfl,hk,V,C⟩:=hrel;have Y:g+1<=wr.heap.size:=by have:=C.out.size;omega
     obtain⟨bi,oi,Eo,bN,aB,aC,aT⟩:=BB.at_ (ah.out wr C.out) HE.out;simp only[kM,Addr.mk.injEq]at Eo;obtain⟨rfl,rfl,_⟩:=Eo;by_cases bC:k<i
     .obtain⟨A,N⟩:∃A,E[k]? =some A:=⟨_,iZ (by rw[bB.out];omega)⟩
      obtain⟨bk,ok,Eo,J,aD,aF,aU⟩:=BB.at_ (ah.out wr C.out) N;simp only[kM,Addr.mk.injEq]at Eo;obtain⟨rfl,rfl,_⟩:=Eo;have cB:k<n:=lK;rcases Vt A.nm e.nm with⟨bO,aG⟩|⟨bO,aG⟩
      .have HX:iW (R=11):=iF (af.out 11 (xX U.out HE.out (Rm ((Gu U.out e.nm).2 ⟨k,A,bC,N,aG.out⟩))))
       clear N;have bP:∀x:oO wr,x.at_.cell? ⟨b,off+k*3+1,none⟩=some (ll A.nm):=λx=>(x.is.cell (p:=⟨b,off+k*3+1,none⟩) J).trans aF
       have bQ:∀x:oO wr,x.at_.cell? ⟨b,off+i*3+1,none⟩=some (ll e.nm):=λx=>(x.is.cell (p:=⟨b,off+i*3+1,none⟩) J).trans aC
       have Q:iW (∀x:oO wr,iK (g+1) w1 x.at_):=iF λx=>C.out.trans (x.is.mono Y)
       have HB3:iW (∀x:oO wr,iK g w x.at_):=iF λx=>ae.out _ (Q.out x)
       clear aD aF aU aB aC aT;go_upto_region 13 with fail;exact PK
      .have aH:iW (∀q A,q<k+1->E[q]? =some A->A.nm≠e.nm):=iF λq e2 aA O=>by
        by_cases az:q=k;.subst az;rw[N]at O;cases O;exact aG.out
        .exact V.out q e2 lK O
       clear N;have bP:∀x:oO wr,x.at_.cell? ⟨b,off+k*3+1,none⟩=some (ll A.nm):=λx=>(x.is.cell (p:=⟨b,off+k*3+1,none⟩) J).trans aF
       have bQ:∀x:oO wr,x.at_.cell? ⟨b,off+i*3+1,none⟩=some (ll e.nm):=λx=>(x.is.cell (p:=⟨b,off+i*3+1,none⟩) J).trans aC
       have Q:iW (∀x:oO wr,iK (g+1) w1 x.at_):=iF λx=>C.out.trans (x.is.mono Y)
       have HB3:iW (∀x:oO wr,iK g w x.at_):=iF λx=>ae.out _ (Q.out x)
       clear aD aF aU aB aC aT;go_upto_region 13 with fail;refine mF lQ lQ ?_;repeat(go_big_quiet_step (fail))
       refine kS ?_;intro x;go_wp2_with fail;go_roundw;case rel=>exact⟨k+1,by go_num,lK,aH,Q.out x⟩
       case measure=>simp[jA];omega
     .obtain rfl:k=i:=lK
      have aj:iW (¬(rows.find? λy=>decide (y.name=e.nm)).isSome=true):=iF λh=>by
       obtain⟨j,A,aA,bR,O⟩:=(Gu U.out e.nm).1 h;exact V.out j A aA bR O
      clear V bC;go_wp2_with fail;go_loopw [7] (λkv wk=>∃j:Nat,kv=lg lH j/\j<=k/\iW (∀q A,q<j->E[q]? =some A->A.id≠e.id)/\iW (iK (g+1) w1 wk)) (λkv _=>k -(jA kv).toNat);case atStart=>exact⟨0,rfl,lK,iF (λj A aA=>by omega),C⟩
      case round=>
       obtain⟨j,rfl,hk,V,C⟩:=hrel;have Y:g+1<=wr.heap.size:=by have:=C.out.size;omega
       obtain⟨bi,oi,Eo,bN,aB,aC,aT⟩:=BB.at_ (ah.out wr C.out) HE.out;simp only[kM,Addr.mk.injEq]at Eo;obtain⟨rfl,rfl,_⟩:=Eo;by_cases bC:j<k
       .obtain⟨A,N⟩:∃A,E[j]? =some A:=⟨_,iZ (by rw[bB.out];omega)⟩
        obtain⟨bk,ok,Eo,J,aD,aF,aU⟩:=BB.at_ (ah.out wr C.out) N;simp only[kM,Addr.mk.injEq]at Eo;obtain⟨rfl,rfl,_⟩:=Eo;have cB:j<n:=lK;rcases a0d A.id e.id with⟨bO,aG⟩|⟨bO,aG⟩
        .have HX:iW (R=1):=iF (af.out 1 (xX U.out HE.out (X3 ai.out aj.out ((Ck U.out e.id).2 ⟨j,A,bC,N,aG.out⟩))))
         clear N;have bP:∀x:oO wr,x.at_.cell? ⟨b,off+j*3,none⟩=some (lg lI A.id):=λx=>(x.is.cell (p:=⟨b,off+j*3,none⟩) J).trans aD
         have bQ:∀x:oO wr,x.at_.cell? ⟨b,off+k*3,none⟩=some (lg lI e.id):=λx=>(x.is.cell (p:=⟨b,off+k*3,none⟩) J).trans aB
         have Q:iW (∀x:oO wr,iK (g+1) w1 x.at_):=iF λx=>C.out.trans (x.is.mono Y)
         have HB3:iW (∀x:oO wr,iK g w x.at_):=iF λx=>ae.out _ (Q.out x)
         clear aD aF aU aB aC aT;go_upto_region 18 with fail;exact PK
        .have aH:iW (∀q A,q<j+1->E[q]? =some A->A.id≠e.id):=iF λq e2 aA O=>by
          by_cases az:q=j;.subst az;rw[N]at O;cases O;exact aG.out
          .exact V.out q e2 lK O
         clear N;have bP:∀x:oO wr,x.at_.cell? ⟨b,off+j*3,none⟩=some (lg lI A.id):=λx=>(x.is.cell (p:=⟨b,off+j*3,none⟩) J).trans aD
         have bQ:∀x:oO wr,x.at_.cell? ⟨b,off+k*3,none⟩=some (lg lI e.id):=λx=>(x.is.cell (p:=⟨b,off+k*3,none⟩) J).trans aB
         have Q:iW (∀x:oO wr,iK (g+1) w1 x.at_):=iF λx=>C.out.trans (x.is.mono Y)
         have HB3:iW (∀x:oO wr,iK g w x.at_):=iF λx=>ae.out _ (Q.out x)
         clear aD aF aU aB aC aT;go_upto_region 18 with fail;refine mF lQ lQ ?_;repeat(go_big_quiet_step (fail))
         refine kS ?_;intro x;go_wp2_with fail;go_roundw;case rel=>exact⟨j+1,by go_num,lK,aH,Q.out x⟩
         case measure=>simp[jA];omega
       .obtain rfl:j=k:=lK
        have aI:iW (¬(rows.find? λy=>decide (y.id=e.id)).isSome=true):=iF λh=>by
         obtain⟨j,A,aA,bR,O⟩:=(Ck U.out e.id).1 h;exact V.out j A aA bR O
        have bS:=iF (PH e.tx wr cz);go_wp2_with fail;refine bS.out.mono ?_;rintro A w3 ⟨ta,aV,n3,ak,er,sub,rfl,aW,_,Z,bD⟩;have HB3:iW (iK (g+1) w1 w3):=iF (C.out.trans (aW.mono Y));have aX:iW (∀W,w3.alloc (lG #[lg lH ta.kind,lg lH ta.size,lh aV n3 ak,lg lH ta.tail] 63)=W->iK (g+1) w1 W/\lN W w3.heap.size #[lg lH ta.kind,lg lH ta.size,lh aV n3 ak,lg lH ta.tail] 63/\mD W (lh aV n3 ak) sub):=iF λW h=>by
         subst h;have a:=(iL w3.heap.size w3).alloc (iI _) (lG #[lg lH ta.kind,lg lH ta.size,lh aV n3 ak,lg lH ta.tail] 63);exact⟨HB3.out.trans (a.mono (by have:=aW.size;omega)),lN.new w3 _ _,Shape.lY.below Z a⟩
        clear Z aW;go_upto_region 21 with fail;obtain⟨au,aY,Z⟩:=aX.out _ rfl;generalize w3.alloc _=w4 at*;have aJ:=iF au;obtain⟨t0,dz,dA,t3⟩:=aY.a4;have cf:w4.cell? ⟨g,0,none⟩=some (lg lH c.fmt):=(au.cell (p:=⟨g,0,none⟩) (jE g)).trans c0;rcases bD with⟨aa,rfl⟩|⟨aa,rfl,rfl,rfl⟩
        .have bI:uG e.tx.data.toList=some (.node ta sub):=by rw[Bj];exact aa
         obtain⟨aZ,bT⟩:=NK aa;have aK:=iF (TI (.node ta sub) w4 (lh aV n3 ak) Z aZ);simp only[lL.nk,lL.oD]at aK;have bg:=iF bI;have bq:g+1<=w4.heap.size:=by have:=au.size;omega
         clear aa bI aZ bT au aY Z aX bS;by_cases av:c.fmt=1
         .have f1:(c.fmt==1)=true:=by simp[av]
          have cK:=iF av;clear av;obtain⟨dh,bu⟩:=lV ((lL.mR p0 sub&&nG (.node ta sub)));have bJ:=iF bu;rw[bu]at aK;clear bu;cases dh with
          |false=>
           have HX:iW (R=12):=iF (af.out 12 (xX U.out HE.out (Rn ai.out aj.out aI.out bg.out ⟨cK.out,bJ.out⟩)));go_wp2_with fail;refine aK.out.mono ?_;rintro A w5 ⟨rfl,ax⟩;have ay:=iF (ae.out _ (aJ.out.trans (ax.mono bq)));clear ax;go_wp2_with fail;go_returns;exact⟨by rw[HX.out];rfl,ay.out⟩
          |true=>
           have bz:=iF (Gt U.out HE.out (PI ai.out aj.out aI.out bg.out (c:=c) (by rw[show(lL.mR p0 (lL.sub (.node ta sub))&&nG (.node ta sub))=true from bJ.out];simp)));go_wp2_with fail;refine aK.out.mono ?_;rintro A w5 ⟨rfl,ax⟩;have ay:=iF (aJ.out.trans (ax.mono bq));clear ax;go_wp2_with fail;go_roundw;case rel=>exact⟨j+1,_,by go_num,lK,bz,ay⟩
           case measure=>simp[jA];omega
         .have f1:(c.fmt==1)=false:=by rw[beq_eq_false_iff_ne];exact av
          have bz:=iF (Gt U.out HE.out (PI ai.out aj.out aI.out bg.out (c:=c) (λh=>av h.1)));go_wp2_with fail;go_roundw;case rel=>exact⟨j+1,_,by go_num,lK,bz,aJ⟩
          case measure=>simp[jA];omega
        .have HX:iW (R=3):=iF (af.out 3 (xX U.out HE.out (Vs ai.out aj.out aI.out (by rw[Bj];exact aa))))
         have ay:=iF (ae.out _ aJ.out);clear aa au aY Z aX bS;go_wp2_with fail;go_returns;exact⟨by rw[HX.out];rfl,ay.out⟩
  .obtain rfl:i=n:=lK
   have HX:iW (R=0):=iF (bY.out rows (by have:=U.out;rw[<-bB.out,kz]at this;exact this));have HB3:=iF (ae.out wr ag.out);go_wp2_with fail;go_returns;exact⟨by rw[HX.out];rfl,HB3.out⟩
end
section
open Go.RowKit Go.ChangeShapes Go.WideShapes Go.Deep
section
variable {H:Type}{enc:jg×iJ->H}{P:kg}{w:iH}{base:Nat}{spare:Nat->Bool}{held:Bool}
theorem IM{t e:jg}{A:Array Field}{len cap:Nat}{d:DataW H}{p:List MemPlace}(ht:P.underlying t=some (.slice e))(he:P.underlying e=some (.struct A))(ae:oneCellFields P A=true)(aA:P.cellsOf e=A.size)(J:0<A.size)(h:DataW.Trod enc P w base spare held t (.slice a len cap) d p):
  len<=jb/\∀i,i<len->∃b off,a=some ⟨b,off,none⟩/\b<w.heap.size/\
   ∀(j:Nat)(f:Field),A[j]? =some f->∃(v:iJ) (y:DataW H×List MemPlace) (n:Nat),w.cell? ⟨b,off+(i*A.size+j),none⟩=some v/\DataW.trod enc P w base spare held n f.type [v]=some y:=by
 obtain⟨fuel,aB⟩:=h;rcases open_slice ht aB with⟨h0,_⟩|⟨ah,aC,aD,m,n,D,aN,Y,hb,hl,aF,ai,aO,hi⟩
 .simp[Value.cells]at h0
  exact⟨lK,λi hi=>by omega⟩
 .simp[Value.cells]at Y
  obtain⟨rfl,rfl,rfl⟩:=Y;have aJ:len<=m:=by rw[ai];split<;>omega
  have key:∀i,i<len->∀(j:Nat)(f:Field),A[j]? =some f->∃(v:iJ) (y:DataW H×List MemPlace) (n:Nat),w.cell? (ah.add (i*A.size+j))=some v/\DataW.trod enc P w base spare held n f.type [v]=some y:=by
   intro i Z j f N;obtain⟨C,hc,aj⟩:=hi i lK;rw[aA]at hc;obtain⟨ak,aG,aK,aP,hlen,aL,au⟩:=DataW.trod_struct he aj;obtain⟨_,aM,av⟩:=World.cells?_some hc;obtain⟨ho,hk⟩:=hone_of ae j f N;have ax:j<A.size:=(jk.1 N).1;have Q:=av j ax;have aH:C[j]? =some (C[j]' lK):=iZ lK;have E:=au j f N;rw[ho,hk]at E;have U:(C.drop j).take 1=[C[j]' lK]:=by
    rw[List.drop_eq_getElem_cons lK];rfl
   rw[U]at E;have ay:ak[j]? =some (ak[j]' lK):=iZ lK;refine⟨_,_,aG,?_,E.trans ay⟩;rw[<-Go.Deep.add_add,Q,aH]
  obtain⟨b,off,af⟩:=ah;refine⟨je hl aF,λi Z=> ?_⟩;have az:A[0]? =some (A[0]'J):=Array.getElem?_eq_getElem J;obtain⟨v,y,aQ,aa,_⟩:=key 0 lK 0 _ az;have V:af=none:=by simpa [Addr.add]using World.cell?_spot aa
  subst V;have O:∀k,(⟨b,off,none⟩:kr).add k=⟨b,off+k,none⟩:=λk=>by unfold Addr.add;split<;>simp_all
  refine⟨b,off,rfl,?_,λj f N=> ?_⟩
  .rcases jG b w.heap.size with ag|ag
   .exact ag
   .simp[kZ,O,kW ag]at aa
  .obtain⟨v,y,n1,E,aI⟩:=key i Z j f N
   rw[O]at E;exact⟨v,y,n1,E,aI⟩
theorem sK{t:jg}{k:IntKind}{n:Nat}{v:iJ}{y:DataW H×List MemPlace}(ht:P.underlying t=some (.int k))(h:DataW.trod enc P w base spare held n t [v]=some y):
  ∃x:Int,v=lg k x/\(kP k x).wf=true:=by
 obtain⟨a,A,rfl,wa⟩:=DataW.trod_int ht h;simp at A;exact⟨a,A,wa⟩
theorem AP{t:jg}{n:Nat}{v:iJ}{y:DataW H×List MemPlace}(ht:P.underlying t=some .string)(h:DataW.trod enc P w base spare held n t [v]=some y):
  ∃s:ByteArray,v=ll s/\s.size<=jb:=by
 obtain⟨a,A,rfl,wa⟩:=DataW.trod_string ht h;simp at A;exact⟨a,A,wa⟩
end
end
section
open Go.RowKit Go.ChangeShapes Go.WideShapes
def IP(w:iH)(a:Option kr)(len:Nat)(ss:List ByteArray):Prop:=
 len<=jb/\ss.length=len/\∀i,i<len->∃b off,a=some ⟨b,off,none⟩/\b<w.heap.size/\w.cell? ⟨b,off+i,none⟩=some (ll (ss.getD i kE))/\(ss.getD i kE).size<=jb
theorem K8{H:Type}{enc:jg×iJ->H}{P:kg}{w:iH}{base:Nat}{J:Nat->Bool}{held:Bool}{t e:jg}{len cap fuel:Nat}{x:DataW H×List MemPlace}(ht:P.underlying t=some (.slice e))(he:P.underlying e=some .string)(hc:P.cellsOf e=1)(h:DataW.trod enc P w base J held fuel t [.slice a len cap]=some x):∃ss,IP w a len ss:=by
 rcases open_strings ht he hc h with⟨A,_⟩|⟨U,V,Y,ss,A,_,hl,aa,Z,_,C,hsz⟩
 .simp at A
  obtain⟨rfl,rfl,rfl⟩:=A;exact⟨[],jy _,rfl,λi hi=>by omega⟩
 .simp at A
  obtain⟨rfl,rfl,rfl⟩:=A;have hlen:len<=ss.length:=by rw[Z];split<;>omega
  refine⟨ss.take len,lK,lW,λi hi=> ?_⟩;obtain⟨b,off,O⟩:=U;have N:O=none:=by simpa [Addr.add]using World.cell?_spot (C 0 lK)
  subst N;have hg:(ss.take len).getD i kE=ss.getD i kE:=by simp[List.getD,List.getElem?_take_of_lt hi]
  have E:=C i lK;have e:(⟨b,off,none⟩:kr).add i=⟨b,off+i,none⟩:=EZ;rw[e]at E;refine⟨b,off,rfl,?_,by rw[hg];exact E,?_⟩
  .rcases jG b w.heap.size with Q|Q
   .exact Q
   .simp[kZ,kW Q]at E
  .rw[hg,ko,iZ lK]
   exact hsz _ (List.getElem_mem _)
end
section
open Go.RowKit Go.ChangeShapes Go.WideShapes Go.Deep
theorem Vv{H:Type}{enc:jg×iJ->H}{P:kg}{w:iH}{base:Nat}{A:Nat->Bool}{held:Bool}{t:jg}{E f1 f2 f3 f4 J:Field}{cs:Array iJ}{d:DataW H}{p:List MemPlace}(ht:P.underlying t=some (.struct #[E,f1,f2,f3,f4,J]))(Q:oneCellFields P #[E,f1,f2,f3,f4,J]=true)(Y:P.cellsOf t=6)(ag:P.underlying E.type=some (.int .i64))(e1:P.underlying f1.type=some (.int .u32))(e2:P.underlying f2.type=some (.int .i64))(e3:P.underlying f3.type=some (.int .i64))(e4:P.underlying f4.type=some (.int .i64))(e5:P.underlying J.type=some (.int .i64))(h:DataW.Trod enc P w base A held t (.agg cs) d p):∃q:mU,cs=q.cs/\q.wf:=by
 obtain⟨fuel,ah⟩:=h;obtain⟨Z,ai,aC,aF,hlen,aa,ae⟩:=DataW.trod_struct ht ah;have key:∀(j:Nat)(f:Field),#[E,f1,f2,f3,f4,J][j]? =some f->∃(v:iJ) (y:DataW H×List MemPlace),cs.toList[j]? =some v/\DataW.trod enc P w base A held ai f.type [v]=some y:=by
  intro j f U;obtain⟨ho,hk⟩:=hone_of Q j f U;have aD:j<6:=(jk.1 U).1;have C:(Value.agg cs).cells.toList.length=6:=hlen.trans Y;have O:cs.toList.length=6:=by simpa [Value.cells]using C
  have V:=ae j f U;rw[ho,hk]at V;have aj:cs.toList[j]? =some (cs.toList[j]' lK):=iZ lK;have N:((Value.agg cs).cells.toList.drop j).take 1=[cs.toList[j]' lK]:=by
   show(cs.toList.drop j).take 1=_;rw[List.drop_eq_getElem_cons lK];rfl
  rw[N]at V;have af:Z[j]? =some (Z[j]'(by simp at aa;omega)):=iZ _;exact⟨_,_,aj,V.trans af⟩
 have C:(Value.agg cs).cells.toList.length=6:=hlen.trans Y;have O:cs.toList.length=6:=by simpa [Value.cells]using C
 obtain⟨v0,aG,c0,t0⟩:=key 0 _ rfl;obtain⟨v1,aH,c1,ak⟩:=key 1 _ rfl;obtain⟨v2,aI,c2,au⟩:=key 2 _ rfl;obtain⟨v3,aJ,c3,t3⟩:=key 3 _ rfl;obtain⟨v4,aK,c4,t4⟩:=key 4 _ rfl;obtain⟨v5,aL,c5,t5⟩:=key 5 _ rfl;obtain⟨av,rfl,w0⟩:=sK ag t0;obtain⟨ax,rfl,w1⟩:=sK e1 ak;obtain⟨ay,rfl,w2⟩:=sK e2 au;obtain⟨az,rfl,w3⟩:=sK e3 t3;obtain⟨aA,rfl,w4⟩:=sK e4 t4;obtain⟨aB,rfl,w5⟩:=sK e5 t5;refine⟨⟨av,ax,ay,az,aA,aB⟩,?_,w0,w1,w2,w3,w4,w5⟩;have:cs=⟨cs.toList⟩:=lU;rw[this];generalize cs.toList=l at*
 match l,O with
 |[a,b,c,e,f,g],_=>
  simp at c0 c1 c2 c3 c4 c5;subst c0 c1 c2 c3 c4 c5;rfl
def NL(w:iH)(a:Option kr)(len cap:Nat)(A:List sP):Prop:=
 BB w (lh a len cap) A/\∀e,e∈A->e.nm.size<=jb/\e.tx.size<=jb/\e.id<18446744073709551616
theorem Ro{H:Type}{enc:jg×iJ->H}{P:kg}{w:iH}{base:Nat}{A:Nat->Bool}{held:Bool}{t e:jg}{len cap:Nat}{d:DataW H}{p:List MemPlace}(ht:P.underlying t=some (.slice e))(h:DataW.Trod enc P w base A held t (.slice a len cap) d p):len<=cap/\cap<=jb:=by
 obtain⟨fuel,E⟩:=h;rcases open_slice ht E with⟨h0,_⟩|⟨U,J,N,m,n,D,V,C,hb,hl,O,Q,Y,hi⟩
 .simp[Value.cells]at h0
  unfold jb;omega
 .simp[Value.cells]at C
  obtain⟨rfl,rfl,rfl⟩:=C;exact⟨hl,O⟩
theorem PL{p:Nat->sP->Prop}:∀n:Nat,(∀i,i<n->∃e,p i e)->∃A:List sP,A.length=n/\∀i e,A[i]? =some e->p i e
 |0,_=>⟨[],rfl,λi e h=>by simp at h⟩
 |n+1,h=>by
  obtain⟨A,C,E⟩:=PL n λi hi=>h i lK
  obtain⟨x,J⟩:=h n lK;refine⟨A++[x],by simp[C],λi e he=> ?_⟩;by_cases hi:i<n
  .rw[List.getElem?_append_left lK]at he
   exact E i e he
  .rw[List.getElem?_append_right lK,C]at he
   have:i - n=0:=by
    rcases Nat.eq_zero_or_pos (i - n)with h|h
    .exact h
    .rw[List.getElem?_eq_none lW]at he;cases he
   rw[this]at he;simp at he;subst he;rw[show i=n by omega];exact J
theorem Rp{H:Type}{enc:jg×iJ->H}{P:kg}{w:iH}{base:Nat}{C:Nat->Bool}{held:Bool}{t e:jg}{J f1 f2:Field}{len cap:Nat}{d:DataW H}{p:List MemPlace}(ht:P.underlying t=some (.slice e))(he:P.underlying e=some (.struct #[J,f1,f2]))(N:oneCellFields P #[J,f1,f2]=true)(Y:P.cellsOf e=3)(Z:P.underlying J.type=some (.int .u64))(e1:P.underlying f1.type=some .string)(e2:P.underlying f2.type=some .string)(h:DataW.Trod enc P w base C held t (.slice a len cap) d p):∃O,NL w a len cap O:=by
 obtain⟨au,U⟩:=Ro ht h;obtain⟨hl,hi⟩:=IM ht he N Y (show 0<3 by decide) h;obtain⟨O,hlen,E⟩:=PL (p:=λi e=>(∃b off,a=some ⟨b,off,none⟩/\b<w.heap.size/\w.cell? ⟨b,off+i*3,none⟩=some (lg lI e.id)/\w.cell? ⟨b,off+i*3+1,none⟩=some (ll e.nm)/\w.cell? ⟨b,off+i*3+2,none⟩=some (ll e.tx))/\e.nm.size<=jb/\e.tx.size<=jb/\e.id<18446744073709551616) len λi V=>by
  obtain⟨b,off,aa,hb,Q⟩:=hi i V;obtain⟨v0,av,ax,c0,t0⟩:=Q 0 _ rfl;obtain⟨v1,ay,n1,c1,ae⟩:=Q 1 _ rfl;obtain⟨v2,az,n2,c2,af⟩:=Q 2 _ rfl;obtain⟨A,rfl,w0⟩:=sK Z t0;obtain⟨ag,rfl,w1⟩:=AP e1 ae;obtain⟨ah,rfl,w2⟩:=AP e2 af;have aA:0<=A/\A<18446744073709551616:=by
   simp only[Lit.wf,iY,decide_eq_true_eq]at w0;have ai:IntKind.u64.min=0:=rfl;have aj:IntKind.u64.max=18446744073709551615:=rfl;rw[ai,aj]at w0;omega
  exact⟨⟨A.toNat,ag,ah⟩,⟨b,off,aa,hb,by rw[show((A.toNat:Nat):Int)=A by omega];simpa using c0,by simpa [jI]using c1,by simpa [jI]using c2⟩,w1,w2,by show A.toNat<_;omega⟩
 refine⟨O,⟨a,cap,by rw[hlen],lK,U,λi e h=>(E i e h).1⟩,λe ak=> ?_⟩;obtain⟨i,h⟩:=List.getElem?_of_mem ak;exact(E i e h).2
end
section
open Go.RowKit
theorem K9{P:kg}{t e s:jg}(T:oN P t e s){ops:Array kH}{rest:List kH}{o:kH}{a:Act}{Q:Exit->Act->iH->Prop}(C:o.guard=none)(x y:Operand)(ho:o.op=.call {callee:=.builtin .append,args:=#[x,y],argTypes:=#[t,s]})(B:Nat)(v:iJ)(l:List UInt8)(S:ByteArray)(w:iH)(O:a.eval x=v)(A:mI w B e v l)(U:a.eval y=ll S)(hlen:l.length+S.size<=140737488355328)(hB:B<=w.heap.size)(h:∀v' w',mI w' B e v' (l++S.data.toList)->w.grownBy w' v.ownBlock->wpList P ops Q rest (a.put o.dst v') w'):
  wpList P ops Q (o::rest) a w:=by
 obtain⟨V,hi,E,J,N⟩:=info_parts T.hi;refine Lib.wpList_append_own_string _ C x y t s ho B e V T.ht T.hs hi E J N v l.length (l5 l) O A S U AV lK hB ?_;intro v' w' Y Z _;refine h v' w' ?_ Z;have e1:Lib.strCells S=l5 S.data.toList:=by simp[Lib.strCells,l5]
 show w'.ownsRow B e 1 v' (l++S.data.toList).length (l5 (l++S.data.toList));rw[jv,nQ,<-e1];have e2:S.data.toList.length=S.size:=lU;rw[e2];exact Y
end
end Go.Proofs.YtamfcjmhnndbdaaGreatDoor


