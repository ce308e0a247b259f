/- Part 21 of the proof. -/
import Derived.Test.YtamfcjmhnndbdaaGreatDoorZm00
import Derived.Test.YtamfcjmhnndbdaaGreatDoorZm06
import Derived.Test.YtamfcjmhnndbdaaGreatDoorZm07
import Derived.Test.YtamfcjmhnndbdaaGreatDoorZm08
import Derived.Test.YtamfcjmhnndbdaaGreatDoorZm09
import Derived.Test.YtamfcjmhnndbdaaGreatDoorZm15
import Derived.Test.YtamfcjmhnndbdaaGreatDoorZm16
import Derived.Test.YtamfcjmhnndbdaaGreatDoorZm20
open Go.Value renaming agg→nD,bool→nC,int→nk,pointer→nA,slice→ny,string→nz,tuple→nE,slice→kM
open Go.Obj renaming cells→nH
open Go.IntKind renaming i64→nI,u32→nK,u64→nJ
open Go.Ending renaming returned→nG
open Go.Lib renaming hid→jH
open Go.Proofs.Tryz renaming prog→jI
open Go renaming World→jJ,Value→jP,Calls→jV,bodyPost_ret→jZ,maxLen→j3,undef→kI,results→kQ,Addr→lH,wpQuiet_nil→mK
open Nat renaming le_refl→jK,le_trans→jY,zero_le→kH,lt_or_ge→kZ,lt_succ_self→lK,le_add_right→lZ,le_of_eq→mR
open Go.RowKit renaming Below→jS,Hid→jX,intOf→kT
open Go.RowKit.Below renaming refl→jT
open And renaming intro→jU
open List renaming getElem?_eq_getElem→jW,length_append→j5,length_cons→kF,mem_of_getElem?→kK,length_drop→kX,getElem?_eq_some_iff→lF,take_length→l9,length_eq_zero_iff→mU,take_append_drop→ng
open Bool renaming and_eq_true→j4
open Option renaming bind_eq_some_iff→kr,bind_some→kD
open Go.World renaming setCell→kz
open Array renaming length_toList→kY,getD_eq_getD_getElem?→lG
open Go.Lit renaming int→lI
open UInt8 renaming toNat_inj→lX
open Option.some renaming injEq→mF
open Option renaming none→V,some→U
open Go.Addr renaming mk→Z
namespace Go.Proofs.YtamfcjmhnndbdaaGreatDoor
set_option linter.unusedVariables false
set_option linter.unusedSimpArgs false
set_option maxRecDepth 100000
set_option maxHeartbeats 8000000
variable {w0 w:jJ}{v:jP}{p:Prop}{x:nM TL}
section
open Go.RowKit
def Aq(R:Option (nM TL×List UInt8))(s:ByteArray)(w:jJ)(e:Ending)(w':jJ):Prop:=
 ∃(a:TL) (o:Option lH) (n c:Nat) (z:Int),e=nG (nE #[nD #[nk nI a.kind,nk nI a.size,ny o n c,nk nI a.tail],nk nI z])/\jS w.heap.size w w'/\
  ((∃sub q,R=U (.node a sub,nQ s q)/\z=(q:Nat)/\q<=s.size/\TL.wf a/\oh.nX w' (λk=>w.heap.size<=k) (ny o n c) sub)\/(R=V/\z= -1))
theorem Q3{k:Int}(h0:0<=k)(h1:k<=100000000):(lI nI k).wf=true:=by
 exact Sy
theorem Ib{k z t:Int}(h:(0<=k/\k<=100000000)/\(0<=z/\z<=100000000)/\(0<=t/\t<=100000000)):TL.wf ⟨k,z,t⟩:=⟨Q3 h.1.1 h.1.2,Q3 h.2.1.1 h.2.1.2,Q3 h.2.2.1 h.2.2.2⟩
theorem AV(w:jJ)(Q:Nat->Prop):oh.nX w Q (ny V 0 0) []:=⟨V,0,rfl,jK _,kH _,λh=>absurd h nS⟩
theorem JX(s:ByteArray)(p:Nat):(nQ s p).length=s.size - p:=by unfold nQ;rw[kX];rfl
theorem FJ{gr:Nat}(hb:jS gr w0 w)(E:∃cs,nP w gr cs TT/\cs.size=4)(A B C D:jP):
  (qo w gr A B C D).cell? (Z gr 0 V)=U A/\(qo w gr A B C D).cell? (Z gr 1 V)=U B/\(qo w gr A B C D).cell? (Z gr 2 V)=U C/\(qo w gr A B C D).cell? (Z gr 3 V)=U D/\jS gr w0 (qo w gr A B C D):=by
 obtain⟨cs,h1,h2⟩:=E;have hB:=wF (a:=A) (b:=B) (c:=C) (d:=D) h1 h2;exact⟨hB.cell 0,hB.cell 1,hB.cell 2,hB.cell 3,hb.os,hb.tape,hb.output,jY hb.size (mR yu.symm),λk hk=>(AO k nL).trans (hb.block k hk)⟩
theorem xJ{a:Act}{w1:jJ}{g:Nat}{R:Option (nM TL×List UInt8)}{s:ByteArray}{A:Ending->jJ->Prop}(hb:jS g w w1)(J:∃cs,nP w1 g cs TT/\cs.size=4)(t:TL)(o:Option lH)(n c:Nat)(z:Int)(N:Aq R s w=A)(hg:w.heap.size=g)(C:a.tmps.getD 6 kI=nA (U (Z g 0 V)))(E:a.tmps.getD 7 kI=nk nI z)(hd:a.defers=[])(O:(∃sub q,R=U (.node t sub,nQ s q)/\z=(q:Nat)/\q<=s.size/\TL.wf t/\oh.nX (qo w1 g (nk nI t.kind) (nk nI t.size) (ny o n c) (nk nI t.tail)) (λk=>w.heap.size<=k) (ny o n c) sub)\/(R=V/\z= -1)):
  bodyPost jI Tryz.f46 A .ret a (qo w1 g (nk nI t.kind) (nk nI t.size) (ny o n c) (nk nI t.tail)):=by
 obtain⟨Q,e1,e2,e3,I⟩:=FJ hb J (nk nI t.kind) (nk nI t.size) (ny o n c) (nk nI t.tail);refine jZ (v:=nE #[nD #[nk nI t.kind,nk nI t.size,ny o n c,nk nI t.tail],nk nI z]) ?_ hd ?_
 .rw[lG]at C E
  simp[kQ,Tryz.results46,go_sem,Q,e1,e2,e3,C,E]
 .rw[<-N]
  exact⟨t,o,n,c,z,rfl,hg▸I,O⟩
theorem vv{gr:Nat}(A:∃cs,nP w gr cs TT/\cs.size=4):(∃x,w.cell? (Z gr 0 V)=U x)/\(∃x,w.cell? (Z gr 1 V)=U x)/\(∃x,w.cell? (Z gr 2 V)=U x)/\(∃x,w.cell? (Z gr 3 V)=U x)/\
  w.frozen? (Z gr 0 V)=false/\w.frozen? (Z gr 1 V)=false/\w.frozen? (Z gr 2 V)=false/\w.frozen? (Z gr 3 V)=false:=by
 obtain⟨⟨l⟩,h1,h2⟩:=A
 match l,h2 with
 |[x,y,z,u],_=>exact⟨⟨x,h1.cell 0⟩,⟨y,h1.cell 1⟩,⟨z,h1.cell 2⟩,⟨u,h1.cell 3⟩,h1.free 0,h1.free 1,h1.free 2,h1.free 3⟩
structure LP(w0:jJ)(gr:Nat)(v:jP)(L:List (qg TL))(t:Nat)(w:jJ):Prop where
 pR:jS gr w0 w
 res:∃cs,nP w gr cs TT/\cs.size=4
 st:VN w (gr+1) v t
 own:vQ oh TT w (gr+2) v L
 hlen:L.length<=2000
 ht:t<=2000
 hB:gr+2<=w.heap.size
theorem LP.sub{w':jJ}{gr t:Nat}{L:List (qg TL)}(h:LP w0 gr v L t w)(hb:jS w.heap.size w w'):LP w0 gr v L t w':=by
 obtain⟨cs,h1,h2⟩:=h.res;exact⟨h.pR.trans (hb.mono (by have:=h.hB;omega)),⟨cs,Below.blk hb h1 h1.lt,h2⟩,Below.blk hb h.st (nP.lt h.st),h.own.below hb,h.hlen,h.ht,jY h.hB hb.size⟩
theorem LP.more{gr t:Nat}{L:List (qg TL)}(h:LP w0 gr v L t w)(ht:t<2000):LP w0 gr v L (t+1) (w.setCell (Z (gr+1) 3 V) (nk nI ((t:Int)+1))):=by
 obtain⟨cs,h1,h2⟩:=h.res;have A:pE (gr+1) w (w.setCell (Z (gr+1) 3 V) (nk nI ((t:Int)+1))):=(pE.refl _ _).set 3 _;exact⟨h.pR.setCell (p:=(Z (gr+1) 3 V)) nS _,⟨cs,h1.setOther nS _,h2⟩,h.st.more,h.own.upd A nL,h.hlen,nL,by simpa [kz]using h.hB⟩
theorem LP.grown{w':jJ}{gr t:Nat}{v':jP}{L:List (qg TL)}{y:qg TL}(h:LP w0 gr v L t w)(hL:L.length<2000)(ho:vQ oh TT w' (gr+2) v' (L++[y]))(hb:jS (gr+2) w w')(hsz:w.heap.size<w'.heap.size):
  LP w0 gr v' (L++[y]) t (w'.setCell (Z (gr+1) 2 V) v'):=by
 obtain⟨cs,h1,h2⟩:=h.res;have A:pE (gr+1) w' (w'.setCell (Z (gr+1) 2 V) v'):=(pE.refl _ _).set 2 _;have hst:VN w' (gr+1) v t:=Below.blk hb h.st nL;exact⟨(h.pR.trans (hb.mono nL)).setCell (p:=(Z (gr+1) 2 V)) nS _,⟨cs,(Below.blk hb h1 nL).setOther nS _,h2⟩,hst.sub v',ho.upd A nL,nT,h.ht,by simp[kz];have:=h.hB;omega⟩
theorem LP.c0{gr t:Nat}{L:List (qg TL)}(h:LP w0 gr v L t w):w.cell? (Z (gr+1) 0 V)=U (nk nI 5)/\w.cell? (Z (gr+1) 1 V)=U (nk nI 0)/\
  w.cell? (Z (gr+1) 2 V)=U v/\w.cell? (Z (gr+1) 3 V)=U (nk nI (t:Int))/\w.frozen? (Z (gr+1) 2 V)=false/\w.frozen? (Z (gr+1) 3 V)=false:=by
 have:=h.st;exact⟨nP.cell this 0,nP.cell this 1,nP.cell this 2,nP.cell this 3,nP.free this 2,nP.free this 3⟩
theorem a4X{pf:List UInt8->Option (nM TL×List UInt8)}{f t:Nat}{r:List UInt8}{sub:List (nM TL)}:pz pf (f+1) (125::r) sub t=U (.node ⟨5,0,t⟩ sub,r):=by simp[pz]
theorem a4Y{pf:List UInt8->Option (nM TL×List UInt8)}{f t:Nat}{sub:List (nM TL)}:pz pf (f+1) [] sub t=V:=by simp[pz]
theorem ZW{pf:List UInt8->Option (nM TL×List UInt8)}{f t:Nat}{b:UInt8}{r:List UInt8}{sub:List (nM TL)}(hb:b≠125)(hs:sub≠[])(hc:b≠44):pz pf (f+1) (b::r) sub t=V:=by
 have:sub.isEmpty=false:=by cases sub<;>simp_all
 simp[pz,hb,this,hc]
theorem ZX{pf:List UInt8->Option (nM TL×List UInt8)}{f t:Nat}{b:UInt8}{r:List UInt8}(hb:b≠125):pz pf (f+1) (b::r) [] t=(mark (b::r) t).bind λq=>(pf q.1).bind λy=>pz pf f y.2 ([]++[y.1]) q.2:=by
 simp[pz,hb]
theorem a2q{pf:List UInt8->Option (nM TL×List UInt8)}{f t:Nat}{r:List UInt8}{sub:List (nM TL)}(hs:sub≠[]):pz pf (f+1) (44::r) sub t=(mark r t).bind λq=>(pf q.1).bind λy=>pz pf f y.2 (sub++[y.1]) q.2:=by
 have:sub.isEmpty=false:=by cases sub<;>simp_all
 simp[pz,this]
theorem a2r(D:Nat)(s:ByteArray)(p:Nat)(hp:p<s.size)(b:UInt8)(hb:s[p]=b):ps (D+1) (nQ s p)=
  if b=117 then(xO (nQ s (p+1))).bind λq=>if q.1 % 8=0 then U (.node ⟨1,(q.1/8:Nat),0⟩ [],q.2)else V
  else if b=98 then(xO (nQ s (p+1))).bind λq=>U (.node ⟨2,q.1,0⟩ [],q.2)
  else if b=115 then(xO (nQ s (p+1))).bind λq=>U (.node ⟨3,q.1,0⟩ [],q.2)
  else if b=91 then(ps D (nQ s (p+1))).bind λy=>match y.2 with
    |58::r2=>(xO r2).bind λq=>match q.2 with
     |93::r4=>U (.node ⟨4,q.1,0⟩ [y.1],r4)
     |_=>V
    |_=>V
  else if b=123 then pz (ps D) (s.size - p) (nQ s (p+1)) [] 0
  else V:=by
 rw[qY hp,hb];simp only[ps];rw[show(nQ s (p+1)).length+1=s.size - p by rw[JX];omega];rfl
theorem a4Z(D:Nat)(s:ByteArray)(p:Nat)(hp:s.size<=p):ps (D+1) (nQ s p)=V:=by
 rw[rY hp];rfl
theorem Tj(h:p:=by
 go_wp2_with fail;rw[oL];exact xJ F.pR F.res ⟨0,0,0⟩ V 0 0 (-1) HP hg rfl rfl rfl (.inr ⟨HN.out,rfl⟩)):p:=h
theorem Ic(h:p:=by
 have HN:jX (R=V):=jH (by rw[HST.out,Qo.out,kD,h1];rfl);obtain⟨⟨x0,r0⟩,⟨x1,r1⟩,⟨x2,r2⟩,⟨x3,r3⟩,y0,y1,y2,y3⟩:=vv F5.res;clear h1 Ba;go_wp2_with fail;rw[oL];exact xJ F5.pR F5.res ⟨0,0,0⟩ V 0 0 (-1) HP hg rfl rfl rfl (.inr ⟨HN.out,rfl⟩)):p:=h
theorem Ie(h:p:=by
 subst h;have hal:=(jT w4.heap.size w4).alloc (jK _) (nH #[nk nI a.kind,nk nI a.size,ny o n c,nk nI a.tail] TT);exact⟨(F3.sub HB4).sub hal,nP.new w4 _ _,hal⟩):p:=h
theorem Q5(h:p:=by
 clear hout;go_in;go_upto_region 1 with fail;generalize w.alloc (nH #[nk nI 0,nk nI 0,ny V 0 0,nk nI 0] TT)=w1 at*;have G:=jH (HA _ rfl);clear HA;obtain⟨⟨x0,r0⟩,⟨x1,r1⟩,⟨x2,r2⟩,⟨x3,r3⟩,y0,y1,y2,y3⟩:=vv G.2.1;go_wp2_with fail;rw[oL];exact xJ G.1 G.2.1 ⟨0,0,0⟩ V 0 0 (-1) HP hg rfl rfl rfl (.inr ⟨HN.out,rfl⟩)):p:=h
theorem Eo(h:p:=by
 go_wp2_with fail;rw[oL];exact xJ G3.1 G3.2.1 ⟨0,0,0⟩ V 0 0 (-1) HP hg rfl rfl rfl (.inr ⟨HN.out,rfl⟩)):p:=h
theorem Q6(h:p:=by
 have d7:decide (0<t)=true:=decide_eq_true ht0;have HN:jX (R=V):=jH (by rw[HST.out,LG.out,if_pos ht0];rfl);clear ht0;go_wp2_with fail;rw[oL];exact xJ F.pR F.res ⟨0,0,0⟩ V 0 0 (-1) HP hg rfl rfl rfl (.inr ⟨HN.out,rfl⟩)):p:=h
theorem ZY(h:p:=by
 subst h;have hal:=(jT w.heap.size w).alloc (jK _) (nH #[nk nI 0,nk nI 0,ny V 0 0,nk nI 0] TT);have hb1:=nP.new w #[nk nI 0,nk nI 0,ny V 0 0,nk nI 0] TT;rw[hg]at hal hb1;exact⟨hal,⟨_,hb1,rfl⟩,nT⟩):p:=h
theorem Ig(h:p:=by
 have:=DY _ _ _ h1;simp only[JX]at this;omega):p:=h
theorem a2U(h:p:=by
 obtain⟨c0,c1,c2,c3,z2,z3⟩:=F5.c0;obtain⟨q0,q1,q2,q3⟩:=G5.2.1.a4;have HS5:jX (oh.nX w5 (λk=>g+2<=k/\(kM oa M cap).ownBlock≠U k) (ny o n c) sub):=jH (h4.keep G5.2.2.size (λk hk hq=>⟨nL,λe=>by have:=(HOB k e).2;omega⟩) λk hk _=>G5.2.2.block k hk);have HWF:=jH h3;have hB5:g+2<=w5.heap.size:=F5.hB;have HOWN:=jH F5.own;have a5a:M<=1000:=nL;clear h1 h3 h4 Ba;go_upto_region 40 with(at_builtin;refine xB (S:=oh) Dn hi hz0 hz1 hz2 rfl nO K7 rfl (.tmp 181) (.tmp 183) rfl (g+2) (ny oa M cap) L ⟨a,ny o n c,sub⟩ w5 _ rfl rfl HOWN rfl (by have:=HM.out;omega) nO hB5 HWF HS5 ?_;intro g2 cap2 w6 hown6 hb6 ZZ a5b;have hcc:w6.cell? (Z (g+1) 2 V)=U (ny oa M cap):=(hb6.cell (p:=(Z (g+1) 2 V)) (show g+1<g+2 by omega)).trans c2;have hfz:w6.frozen? (Z (g+1) 2 V)=false:=(hb6.frozen (p:=(Z (g+1) 2 V)) (show g+1<g+2 by omega)).trans z2)
 have F7:=jH (F5.grown (by have:=HM.out;omega) hown6 hb6 ZZ);generalize w6.setCell (Z (g+1) 2 V) (ny (U (Z g2 0 V)) (L.length+1) cap2)=w7 at*;have HTR:jX ((L++[(⟨a,ny o n c,sub⟩:qg TL)]).map qg.tree=L.map qg.tree++[.node a sub]):=jH (by simp[qg.tree]);have Lp:jX ((L++[(⟨a,ny o n c,sub⟩:qg TL)]).length=M+1):=jH (by rw[j5,HM.out];rfl);obtain⟨L2,hL2⟩:∃L2,L++[(⟨a,ny o n c,sub⟩:qg TL)]=L2:=⟨_,rfl⟩;rw[hL2]at HTR Lp F7;clear hcc hfz hown6 hb6 ZZ a5b c0 c1 c2 c3 z2 z3 q0 q1 q2 q3 HOWN HS5 HWF hL2;go_wp2_with fail;have h3:=Lp.out;refine⟨⟨f,p2,t+1,_,L2,rfl,jH F7.out,nL,jH (by rw[HST.out,Qo.out,kD,HPS.out,kD,HTR.out]),nL,nL,h2⟩,?_⟩;simp only[kT,Int.toNat_natCast];omega):p:=h
theorem a2V(h:p:=by
 obtain⟨c0,c1,c2,c3,z2,z3⟩:=F5.c0;obtain⟨q0,q1,q2,q3⟩:=G5.2.1.a4;have HS5:jX (oh.nX w5 (λk=>g+2<=k/\(kM oa M cap).ownBlock≠U k) (ny o n c) sub):=jH (h4.keep G5.2.2.size (λk hk hq=>⟨nL,λe=>by have:=(HOB k e).2;omega⟩) λk hk _=>G5.2.2.block k hk);have HWF:=jH h3;have hB5:g+2<=w5.heap.size:=F5.hB;have HOWN:=jH F5.own;have a5a:M<=1000:=nL;clear h1 h3 h4 Ba;go_upto_region 40 with(at_builtin;refine xB (S:=oh) Dn hi hz0 hz1 hz2 rfl nO K7 rfl (.tmp 181) (.tmp 183) rfl (g+2) (ny oa M cap) L ⟨a,ny o n c,sub⟩ w5 _ rfl rfl HOWN rfl (by have:=HM.out;omega) nO hB5 HWF HS5 ?_;intro g2 cap2 w6 hown6 hb6 ZZ a5b;have hcc:w6.cell? (Z (g+1) 2 V)=U (ny oa M cap):=(hb6.cell (p:=(Z (g+1) 2 V)) (show g+1<g+2 by omega)).trans c2;have hfz:w6.frozen? (Z (g+1) 2 V)=false:=(hb6.frozen (p:=(Z (g+1) 2 V)) (show g+1<g+2 by omega)).trans z2)
 have F7:=jH (F5.grown (by have:=HM.out;omega) hown6 hb6 ZZ);generalize w6.setCell (Z (g+1) 2 V) (ny (U (Z g2 0 V)) (L.length+1) cap2)=w7 at*;have HTR:jX ((L++[(⟨a,ny o n c,sub⟩:qg TL)]).map qg.tree=L.map qg.tree++[.node a sub]):=jH (by simp[qg.tree]);have Lp:jX ((L++[(⟨a,ny o n c,sub⟩:qg TL)]).length=M+1):=jH (by rw[j5,HM.out];rfl);obtain⟨L2,hL2⟩:∃L2,L++[(⟨a,ny o n c,sub⟩:qg TL)]=L2:=⟨_,rfl⟩;rw[hL2]at HTR Lp F7;clear hcc hfz hown6 hb6 ZZ a5b c0 c1 c2 c3 z2 z3 q0 q1 q2 q3 HOWN HS5 HWF hL2;go_wp2_with fail;have h3:=Lp.out;refine⟨⟨f,p2,0,_,L2,rfl,jH F7.out,nL,jH (by rw[HST.out,Qo.out,kD,HPS.out,kD,HTR.out]),nL,nL,h2⟩,?_⟩;simp only[kT,Int.toNat_natCast];omega):p:=h
theorem VA(s:ByteArray)(hs:s.size<=1000):∀(D dep p:Nat)(w:jJ),dep+D=9->p<=s.size->
  jV jI 46 #[nz s,nk nI (p:Int),nk nI (dep:Int)] w (Aq (ps D (nQ s p)) s w):=by
 intro D;induction D with
 |zero=>
  intro dep p w hd hp;have d2:decide (8<(dep:Int))=true:=nT;obtain⟨g,hg⟩:=nV w.heap.size;have HA:jX (∀W,w.alloc (nH #[nk nI 0,nk nI 0,ny V 0 0,nk nI 0] TT)=W->jS g w W/\(∃cs,nP W g cs TT/\cs.size=4)/\W.heap.size=g+1):=jH λW h=>by
   exact ZY
  obtain⟨R,aQ⟩:=nV (ps (0) (nQ s p));have bC:=jH aQ;rw[aQ];obtain⟨bR,aR⟩:=nV (Aq R s w);have HP:=jH aR;rw[aR];have aS:=jH hd;clear aQ aR hd;have HN:jX (R=V):=jH (by rw[<-bC.out];rfl);by_cases hout:s.size<=p
  .have bS:decide (s.size<=p)=true:=decide_eq_true nL
   exact Q5
  .have bS:decide (s.size<=p)=false:=decide_eq_false nL
   exact Q5
 |succ D bX=>
  intro dep p w hd hp;have d2:decide (8<(dep:Int))=false:=nT;have dB:dep<=8:=nL;obtain⟨g,hg⟩:=nV w.heap.size;have HA:jX (∀W,w.alloc (nH #[nk nI 0,nk nI 0,ny V 0 0,nk nI 0] TT)=W->jS g w W/\(∃cs,nP W g cs TT/\cs.size=4)/\W.heap.size=g+1):=jH λW h=>by
   exact ZY
  obtain⟨R,aQ⟩:=nV (ps (D+1) (nQ s p));have bC:=jH aQ;rw[aQ];obtain⟨bR,aR⟩:=nV (Aq R s w);have HP:=jH aR;rw[aR];have aS:=jH hd;clear aQ aR hd;have bA:=jH bX;clear bX;by_cases hout:s.size<=p
  .have HN:jX (R=V):=jH (by rw[<-bC.out,a4Z D s p hout])
   have bS:decide (s.size<=p)=true:=decide_eq_true nL;exact Q5
  .have bY:p<s.size:=nL
   have bS:decide (s.size<=p)=false:=decide_eq_false nL;have C:=jH (bC.symm.trans (a2r D s p bY s[p] rfl));clear hout bC;have hk:jX (∀c:UInt8,s[p]≠c->((s[p].toNat:Int)==(c.toNat:Int))=false):=jH λc h=>by
    rw[beq_eq_false_iff_ne];intro aT;exact h (lX.1 nL)
   have ax:jX (∀c:UInt8,s[p]≠c->((s[p].toNat:Int) !=(c.toNat:Int))=true):=jH λc h=>by
    rw[bne_iff_ne];intro aT;exact h (lX.1 nL)
   go_in;go_upto_region 1 with fail;generalize w.alloc (nH #[nk nI 0,nk nI 0,ny V 0 0,nk nI 0] TT)=w1 at*;have G:=jH (HA _ rfl);clear HA;obtain⟨⟨x0,r0⟩,⟨x1,r1⟩,⟨x2,r2⟩,⟨x3,r3⟩,y0,y1,y2,y3⟩:=vv G.2.1;obtain⟨q,hq⟩:=nV (p+1);have dC:=jH hq;have bD:q<=s.size:=nL;rw[hq]at C;have e1:(p:Int)+1=q:=nL;have bE:=jH e1;clear hq e1;have bZ:=jH (Ia s q w1 hs bD);have aA:jX (jV jI 78 #[nz s,nk nI ((p:Int)+1)] w1 (Dy s q w1)):=jH (by rw[bE.out];exact bZ);clear bZ;by_cases ah:s[p]=117
   .have bF:((s[p].toNat:Int)==117)=true:=by rw[ah];rfl
    have I:=jH C.out;rw[if_pos ah]at I;clear ah C hk ax;go_wp2_with fail;refine(aA).mono ?_;rintro e w2 ⟨n,z,rfl,rfl,hn,A⟩;have HN:=jH hn;rcases A with⟨q2,h1,rfl,h2,h3⟩|⟨h1,rfl,rfl⟩
    .by_cases bL:n % 8=0
     .have dm:((n:Int) % 8 !=0)=false:=nT
      obtain⟨nd,bO⟩:=nV (n/8);have dP:(n:Int)/8=nd:=nL;have Y:jX (R=U (.node ⟨1,(nd:Int),0⟩ [],nQ s q2)):=jH (by rw[I.out,h1,kD,if_pos bL,bO]);have bG:nd<=10000000:=nL;have bB:=jH (jU h2 bG);have dD:(0:Int)<=nd:=nL;have dE:(nd:Int)<=10000000:=nL;clear h1 bL bO hn bG;go_wp2_with fail;rw[oL];exact xJ G.1 G.2.1 ⟨1,(nd:Int),0⟩ V 0 0 (q2:Int) HP hg rfl rfl rfl (.inl ⟨[],q2,Y.out,rfl,bB.1,Ib (by have:=bB.2;omega),AV _ _⟩)
     .have dm:((n:Int) % 8 !=0)=true:=FL
      have Y:jX (R=V):=jH (by rw[I.out,h1,kD,if_neg bL]);clear h1 bL hn;go_wp2_with fail;rw[oL];exact xJ G.1 G.2.1 ⟨0,0,0⟩ V 0 0 (-1) HP hg rfl rfl rfl (.inr ⟨Y.out,rfl⟩)
    .have Y:jX (R=V):=jH (by rw[I.out,h1];rfl)
     clear h1 hn;go_wp2_with fail;rw[oL];exact xJ G.1 G.2.1 ⟨1,0,0⟩ V 0 0 (-1) HP hg rfl rfl rfl (.inr ⟨Y.out,rfl⟩)
   have dF:((s[p].toNat:Int)==117)=false:=hk.out 117 ah;have aJ:=jH C.out;rw[if_neg ah]at aJ;clear ah C;have C:=aJ;clear aJ;by_cases aB:s[p]=98
   .have bF:((s[p].toNat:Int)==98)=true:=by rw[aB];rfl
    have I:=jH C.out;rw[if_pos aB]at I;clear aB C hk ax;go_wp2_with fail;refine(aA).mono ?_;rintro e w2 ⟨n,z,rfl,rfl,hn,A⟩;have HN:=jH hn;rcases A with⟨q2,h1,rfl,h2,h3⟩|⟨h1,rfl,rfl⟩
    .have Y:jX (R=U (.node ⟨2,(n:Int),0⟩ [],nQ s q2)):=jH (by rw[I.out,h1];rfl)
     have bB:=jH h2;clear h1 hn;go_wp2_with fail;rw[oL];exact xJ G.1 G.2.1 ⟨2,(n:Int),0⟩ V 0 0 (q2:Int) HP hg rfl rfl rfl (.inl ⟨[],q2,Y.out,rfl,bB.out,Ib (by have:=HN.out;omega),AV _ _⟩)
    .have Y:jX (R=V):=jH (by rw[I.out,h1];rfl)
     clear h1 hn;go_wp2_with fail;rw[oL];exact xJ G.1 G.2.1 ⟨2,0,0⟩ V 0 0 (-1) HP hg rfl rfl rfl (.inr ⟨Y.out,rfl⟩)
   have dQ:((s[p].toNat:Int)==98)=false:=hk.out 98 aB;have ay:=jH C.out;rw[if_neg aB]at ay;clear aB C;have C:=ay;clear ay;by_cases ai:s[p]=115
   .have bF:((s[p].toNat:Int)==115)=true:=by rw[ai];rfl
    have I:=jH C.out;rw[if_pos ai]at I;clear ai C hk ax;go_wp2_with fail;refine(aA).mono ?_;rintro e w2 ⟨n,z,rfl,rfl,hn,A⟩;have HN:=jH hn;rcases A with⟨q2,h1,rfl,h2,h3⟩|⟨h1,rfl,rfl⟩
    .have Y:jX (R=U (.node ⟨3,(n:Int),0⟩ [],nQ s q2)):=jH (by rw[I.out,h1];rfl)
     have bB:=jH h2;clear h1 hn;go_wp2_with fail;rw[oL];exact xJ G.1 G.2.1 ⟨3,(n:Int),0⟩ V 0 0 (q2:Int) HP hg rfl rfl rfl (.inl ⟨[],q2,Y.out,rfl,bB.out,Ib (by have:=HN.out;omega),AV _ _⟩)
    .have Y:jX (R=V):=jH (by rw[I.out,h1];rfl)
     clear h1 hn;go_wp2_with fail;rw[oL];exact xJ G.1 G.2.1 ⟨3,0,0⟩ V 0 0 (-1) HP hg rfl rfl rfl (.inr ⟨Y.out,rfl⟩)
   have dG:((s[p].toNat:Int)==115)=false:=hk.out 115 ai;have aK:=jH C.out;rw[if_neg ai]at aK;clear ai C;have C:=aK;clear aK;by_cases aC:s[p]=91
   .have bF:((s[p].toNat:Int)==91)=true:=by rw[aC];rfl
    have I:=jH C.out;rw[if_pos aC]at I;have aa:jX (jV jI 46 #[nz s,nk nI ((p:Int)+1),nk nI ((dep:Int)+1)] w1 (Aq (ps D (nQ s q)) s w1)):=jH (by rw[bE.out];exact bA (dep+1) q w1 (by have:=aS.out;omega) bD);clear aC C hk ax aA;go_wp2_with fail;refine(aa).mono ?_;rintro e w2 ⟨a,o,n,c,z,rfl,ae,A⟩;have hz1:=G.2.2;have aM:jX (∀W,w2.alloc (nH #[nk nI a.kind,nk nI a.size,ny o n c,nk nI a.tail] TT)=W->jS g w W/\(∃cs,nP W g cs TT/\cs.size=4)/\nP W w2.heap.size #[nk nI a.kind,nk nI a.size,ny o n c,nk nI a.tail] TT/\jS w2.heap.size w2 W):=jH λW h=>by
     subst h;have hal:=(jT w2.heap.size w2).alloc (jK _) (nH #[nk nI a.kind,nk nI a.size,ny o n c,nk nI a.tail] TT);obtain⟨cs,h1,h2⟩:=G.2.1;have h3:jS g w w2:=G.1.trans (ae.mono nL);exact⟨h3.trans (hal.mono (by have:=ae.size;omega)),⟨cs,Below.blk hal (Below.blk ae h1 nL) (by have:=ae.size;omega),h2⟩,nP.new w2 _ _,hal⟩
    have Ba:=jH A;have hz2:g+1<=w2.heap.size:=by have:=ae.size;omega
    clear A ae aa x0 r0 x1 r1 x2 r2 x3 r3 y0 y1 y2 y3;go_upto_region 17 with fail;generalize w2.alloc (nH #[nk nI a.kind,nk nI a.size,ny o n c,nk nI a.tail] TT)=w3 at*;have G3:=jH (aM _ rfl);obtain⟨⟨x0,r0⟩,⟨x1,r1⟩,⟨x2,r2⟩,⟨x3,r3⟩,y0,y1,y2,y3⟩:=vv G3.2.1;obtain⟨dV,dW,dX,dY⟩:=G3.2.2.1.a4;have dR:g<w3.heap.size:=by have:=G3.2.2.2.size;omega
    clear aM;rcases Ba.out with⟨sub,q2,h1,rfl,h2,h3,h4⟩|⟨h1,rfl⟩
    .have aN:=jH h1
     have bH:jX (TL.wf a/\oh.nX w3 (λk=>g+1<=k) (ny o n c) sub):=jH ⟨h3,h4.keep G3.2.2.2.size (λk _ hk=>by omega) λk hk _=>G3.2.2.2.block k hk⟩;have dS:decide ((q2:Int)<0)=false:=nS;clear h1 h3 h4 Ba;by_cases he:s.size<=q2
     .have bT:decide (s.size<=q2)=true:=decide_eq_true he
      have HN:jX (R=V):=jH (by rw[I.out,aN.out];simp only[kD,rY he]);clear he;exact Eo
     .have hlt:q2<s.size:=nL
      have bT:decide (s.size<=q2)=false:=decide_eq_false he;have aV:=jH (qY hlt);clear he;by_cases aD:s[q2]=58
      .have l2:((s[q2].toNat:Int) !=58)=false:=by rw[aD];rfl
       have aF:jX (R=(xO (nQ s (q2+1))).bind λq=>match q.2 with
         |93::r4=>U (.node ⟨4,q.1,0⟩ [.node a sub],r4)
         |_=>V):=jH (by rw[I.out,aN.out];simp only[kD,aV.out,aD])
       have cz:jX (jV jI 78 #[nz s,nk nI ((q2:Int)+1)] w3 (Dy s (q2+1) w3)):=jH (Ia s (q2+1) w3 hs nL);clear aD I aN aV;go_wp2_with fail;refine(cz).mono ?_;rintro e w4 ⟨aU,z2,rfl,rfl,aO,bM⟩;have cK:=jH aO;rcases bM with⟨q3,bI,rfl,g2,g3⟩|⟨bI,rfl,rfl⟩
       .have aP:=jH bI
        clear bI;by_cases he:s.size<=q3
        .have d4:decide (s.size<=q3)=true:=decide_eq_true he
         have HN:jX (R=V):=jH (by rw[aF.out,aP.out];simp only[kD,rY he]);clear he aO;exact Eo
        .have bU:q3<s.size:=nL
         have d4:decide (s.size<=q3)=false:=decide_eq_false he;have aW:=jH (qY bU);clear he;by_cases aG:s[q3]=93
         .have bJ:((s[q3].toNat:Int) !=93)=false:=by rw[aG];rfl
          have Y:jX (R=U (.node ⟨4,(aU:Int),0⟩ [.node a sub],nQ s (q3+1))):=jH (by rw[aF.out,aP.out];simp only[kD,aW.out,aG]);clear aG aF aW aP aO;have dH:q3<=1000:=nL;go_wp2_with fail;rw[oL];obtain⟨dI,e1,e2,e3,cZ⟩:=FJ G3.1 G3.2.1 (nk nI 4) (nk nI (aU:Int)) (ny (U (Z w4.heap.size 0 V)) 1 1) (nk nI 0);have aL:=wE (g:=g) (a:=nk nI 4) (b:=nk nI (aU:Int)) (c:=ny (U (Z w4.heap.size 0 V)) 1 1) (d:=nk nI 0) bH.2 (λk hk=>by omega);have df:=yu (w:=w4) (g:=g) (a:=nk nI 4) (b:=nk nI (aU:Int)) (c:=ny (U (Z w4.heap.size 0 V)) 1 1) (d:=nk nI 0);generalize qo w4 g (nk nI 4) (nk nI (aU:Int)) (ny (U (Z w4.heap.size 0 V)) 1 1) (nk nI 0)=w5 at*;have hal:=(jT w5.heap.size w5).alloc (jK _) (nH #[nk nI a.kind,nk nI a.size,ny o n c,nk nI a.tail] TT);have bP:=nP.new w5 #[nk nI a.kind,nk nI a.size,ny o n c,nk nI a.tail] TT;rw[df]at bP;have bN:=aL.below hal;have dh:=(hal.cell (p:=(Z g 0 V)) (show g<w5.heap.size by omega)).trans dI;have dJ:=(hal.cell (p:=(Z g 1 V)) (show g<w5.heap.size by omega)).trans e1;have dK:=(hal.cell (p:=(Z g 2 V)) (show g<w5.heap.size by omega)).trans e2;have dL:=(hal.cell (p:=(Z g 3 V)) (show g<w5.heap.size by omega)).trans e3;have bV:=cZ.trans (hal.mono nL);generalize w5.alloc (nH #[nk nI a.kind,nk nI a.size,ny o n c,nk nI a.tail] TT)=w6 at*;refine jZ (v:=nE #[nD #[nk nI 4,nk nI (aU:Int),ny (U (Z w4.heap.size 0 V)) 1 1,nk nI 0],nk nI ((q3:Int)+1)]) (by simp[kQ,Tryz.results46,go_sem,dh,dJ,dK,dL]) rfl ?_;rw[<-HP.out];exact⟨⟨4,(aU:Int),0⟩,_,1,1,_,rfl,hg▸bV,.inl ⟨_,q3+1,Y.out,nS,nL,Ib (by have:=cK.out;omega),(NQ (Q:=λk=>g+1<=k) bP bH.1 bN nL).keep (jK _) (λk _ hk=>by omega) λ_ _ _=>rfl⟩⟩
         .have bJ:((s[q3].toNat:Int) !=93)=true:=by rw[bne_iff_ne];intro aT;exact aG (lX.1 (by have:(93:UInt8).toNat=93:=rfl;omega))
          have HN:jX (R=V):=jH (by
           rw[aF.out,aP.out];simp only[kD,aW.out];split;.rename_i r4 e4;exact absurd (List.cons.inj e4).1 aG
           .rfl)
          clear aG aF aW aP aO;exact Eo
       .have HN:jX (R=V):=jH (by rw[aF.out,bI];rfl)
        clear bI aO;exact Eo
      .have l2:((s[q2].toNat:Int) !=58)=true:=by rw[bne_iff_ne];intro aT;exact aD (lX.1 (by have:(58:UInt8).toNat=58:=rfl;omega))
       have HN:jX (R=V):=jH (by
        rw[I.out,aN.out];simp only[kD,aV.out];split;.rename_i r4 e4;exact absurd (List.cons.inj e4).1 aD
        .rfl)
       clear aD I aN aV;exact Eo
    .have HN:jX (R=V):=jH (by rw[I.out,h1];rfl)
     clear h1 Ba;exact Eo
   have dU:((s[p].toNat:Int)==91)=false:=hk.out 91 aC;have az:=jH C.out;rw[if_neg aC]at az;clear aC C;have C:=az;clear az;by_cases aj:s[p]=123
   .have bF:((s[p].toNat:Int) !=123)=false:=by rw[aj];rfl
    have I:=jH C.out;rw[if_pos aj]at I;clear aj C hk ax aA;obtain⟨dh,hi,hz0,hz1,hz2⟩:=info_parts Sv;have aM:jX (∀W,w1.alloc (nH #[nk nI 5,nk nI 0,ny V 0 0,nk nI 0] TT)=W->LP w g (ny V 0 0) [] 0 W):=jH λW h=>by
     subst h;have hz1:=G.2.2;have hal:=(jT w1.heap.size w1).alloc (jK _) (nH #[nk nI 5,nk nI 0,ny V 0 0,nk nI 0] TT);have ae:=nP.new w1 #[nk nI 5,nk nI 0,ny V 0 0,nk nI 0] TT;obtain⟨cs,h1,h2⟩:=G.2.1;rw[hz1]at ae;exact⟨G.1.trans (hal.mono nL),⟨cs,Below.blk hal h1 nL,h2⟩,ae,vQ.nil _ _ _ _,nS,nL,nT⟩
    have hz1:=G.2.2;clear x0 r0 x1 r1 x2 r2 x3 r3 y0 y1 y2 y3;go_wp2_with fail;have F0:=jH (aM _ rfl);generalize w1.alloc (nH #[nk nI 5,nk nI 0,ny V 0 0,nk nI 0] TT)=w2 at*;clear aM G hz1;go_loopw [1,16,17] (λiv _ _ dM=>∃(f k t:Nat) (v:jP) (L:List (qg TL)),iv=nk nI (k:Nat)/\jX (LP w g v L t dM)/\s.size - k<f/\jX (R=pz (ps D) f (nQ s k) (L.map qg.tree) t)/\L.length<=k/\t<=L.length/\k<=s.size) (λiv _ _ _=>s.size -(kT iv).toNat);case atStart=>exact⟨s.size - p,q,0,ny V 0 0,[],by rw[bE.out],jH F0.out,by have:=dC.out;omega,jH (by rw[I.out];rfl),nS,nS,bD⟩
    case round=>
     obtain⟨f,k,t,v,L,rfl,F,dZ,au,dw,dx,dz⟩:=hrel;obtain⟨f,rfl⟩:∃dN,f=dN+1:=⟨f - 1,nL⟩;obtain⟨oa,cap,rfl⟩:=F.own.slice;obtain⟨c0,c1,c2,c3,z2,z3⟩:=F.c0;obtain⟨⟨x0,r0⟩,⟨x1,r1⟩,⟨x2,r2⟩,⟨x3,r3⟩,y0,y1,y2,y3⟩:=vv F.res;obtain⟨M,bW⟩:=nV L.length;have HM:=jH bW;rw[bW]at dw dx F c2;clear bW F0 I;by_cases he:s.size<=k
     .have bT:decide (k<s.size)=false:=decide_eq_false nL
      have d4:decide (s.size<=k)=true:=decide_eq_true he;have HN:jX (R=V):=jH (by rw[au.out,rY he,a4Y]);clear he;exact Tj
     have hlt:k<s.size:=nL;have bT:decide (k<s.size)=true:=decide_eq_true hlt;have aX:=jH (qY hlt);by_cases ak:s[k]=125
     .have dO:((s[k].toNat:Int) !=125)=false:=by rw[ak];rfl
      have d4:decide (s.size<=k)=false:=decide_eq_false he;have Y:jX (R=U (.node ⟨5,0,(t:Int)⟩ (L.map qg.tree),nQ s (k+1))):=jH (by rw[au.out,aX.out,ak,a4X]);clear he ak;have aL:=F.own.subs;have dA:=jH aL;clear aL;go_wp2_with fail;rw[oL];exact xJ F.pR F.res ⟨5,0,(t:Int)⟩ oa M cap ((k:Int)+1) HP hg rfl rfl rfl (.inl ⟨L.map qg.tree,k+1,Y.out,nS,nL,Ib nL,(wE dA (λk hk=>by omega)).keep (jK _) (λk _ hk=>by omega) λ_ _ _=>rfl⟩)
     have dO:((s[k].toNat:Int) !=125)=true:=by rw[bne_iff_ne];intro aT;exact ak (lX.1 (by have:(125:UInt8).toNat=125:=rfl;omega))
     have bQ:=jH ak;clear he ak;by_cases h0:M=0
     .have d5:decide (0<M)=false:=decide_eq_false nL
      have HST:jX (R=(mark (nQ s k) t).bind λq=>(ps D q.1).bind λy=>pz (ps D) f y.2 (L.map qg.tree++[y.1]) q.2):=jH (by
       have e:L=[]:=mU.1 (HM.trans h0);subst e;rw[au.out,aX.out];exact ZX bQ)
      have aH:k<=s.size:=dz;have aY:k<=k:=jK _;clear au h0;have av:jX (oP 63 (nQ s (k))=true->mark (nQ s (k)) t=U (nQ s (k+1),t+1)):=jH λh=>He aH h
      have af:jX (oP 63 (nQ s (k))=false->mark (nQ s (k)) t=if 0<t then V else U (nQ s (k),t)):=jH λh=>K6 h
      have bK:(∃h:k<s.size,jX (s[k]=63))\/(k=s.size)\/(∃h:k<s.size,jX (s[k]≠63)):=by
       rcases kZ (k) s.size with h|h
       .by_cases h2:s[k]=63
        .exact .inl ⟨h,h2⟩
        .exact .inr (.inr ⟨h,h2⟩)
       .exact .inr (.inl nL)
      rcases bK with⟨O,J⟩|O|⟨O,J⟩
      .have d6:decide (k<s.size)=true:=decide_eq_true O
       have bJ:((s[k].toNat:Int)==63)=true:=by rw[J.out];rfl
       have Qo:=jH (av (by rw[qY O,J.out];rfl));have ht1:t+1<=M+1:=nL;have ag:k+1<=s.size:=nL;have aZ:k<=k+1:=nL;clear av af J;go_upto_region 33 with fail;have F3:=jH (F.more nL);generalize wr.setCell (Z (g+1) 3 V) (nk nI ((t:Int)+1))=w3 at*;clear c0 c1 c2 c3 z2 z3 x0 r0 x1 r1 x2 r2 x3 r3 y0 y1 y2 y3 F;have aa:jX (jV jI 46 #[nz s,nk nI ((k:Int)+1),nk nI ((dep:Int)+1)] w3 (Aq (ps D (nQ s (k+1))) s w3)):=jH (bA (dep+1) (k+1) w3 (by have:=aS.out;omega) ag);go_wp2_with fail;refine(aa).mono ?_;rintro e w4 ⟨a,o,n,c,z,rfl,E,A⟩;have HB4:=jH E;have bg:g+2<=w3.heap.size:=F3.hB;have bq:w3.heap.size<=w4.heap.size:=E.size;have HOB:=jH F3.own.block;have N:jX (∀W,w4.alloc (nH #[nk nI a.kind,nk nI a.size,ny o n c,nk nI a.tail] TT)=W->LP w g (ny oa M cap) L (t+1) W/\nP W w4.heap.size #[nk nI a.kind,nk nI a.size,ny o n c,nk nI a.tail] TT/\jS w4.heap.size w4 W):=jH λW h=>by
        exact Ie
       have Ba:=jH A;clear A E aa;go_upto_region 37 with fail;generalize w4.alloc (nH #[nk nI a.kind,nk nI a.size,ny o n c,nk nI a.tail] TT)=w5 at*;have G5:=jH (N _ rfl);have F5:=jH G5.1;clear N;rcases Ba.out with⟨sub,p2,h1,rfl,h2,h3,h4⟩|⟨h1,rfl⟩
       .have HPS:=jH h1
        have bu:k+1<p2:=by
         exact Ig
        exact a2U
       .exact Ic
      .omega
      .have d6:decide (k<s.size)=true:=decide_eq_true O
       have bJ:((s[k].toNat:Int)==63)=false:=by rw[beq_eq_false_iff_ne];intro aT;exact J (lX.1 (by have:(63:UInt8).toNat=63:=rfl;omega))
       have LG:=jH (af (by rw[qY O];simp[oP,J.out]));clear av af J;by_cases ht0:0<t;.exact Q6
       .obtain rfl:t=0:=nL
        have Qo:jX (mark (nQ s (k)) 0=U (nQ s (k),0)):=jH (by rw[LG.out];rfl);have F3:=jH F.out;have ht1:0<=M+1:=nL;have ag:k<=s.size:=aH;have aZ:k<=k:=aY;clear ht0 LG;go_upto_region 36 with fail;generalize wr=w3 at*;clear c0 c1 c2 c3 z2 z3 x0 r0 x1 r1 x2 r2 x3 r3 y0 y1 y2 y3 F;have aa:jX (jV jI 46 #[nz s,nk nI ((k:Int)),nk nI ((dep:Int)+1)] w3 (Aq (ps D (nQ s (k))) s w3)):=jH (bA (dep+1) (k) w3 (by have:=aS.out;omega) ag);go_wp2_with fail;refine(aa).mono ?_;rintro e w4 ⟨a,o,n,c,z,rfl,E,A⟩;have HB4:=jH E;have bg:g+2<=w3.heap.size:=F3.hB;have bq:w3.heap.size<=w4.heap.size:=E.size;have HOB:=jH F3.own.block;have N:jX (∀W,w4.alloc (nH #[nk nI a.kind,nk nI a.size,ny o n c,nk nI a.tail] TT)=W->LP w g (ny oa M cap) L (0) W/\nP W w4.heap.size #[nk nI a.kind,nk nI a.size,ny o n c,nk nI a.tail] TT/\jS w4.heap.size w4 W):=jH λW h=>by
         exact Ie
        have Ba:=jH A;clear A E aa;go_upto_region 37 with fail;generalize w4.alloc (nH #[nk nI a.kind,nk nI a.size,ny o n c,nk nI a.tail] TT)=w5 at*;have G5:=jH (N _ rfl);have F5:=jH G5.1;clear N;rcases Ba.out with⟨sub,p2,h1,rfl,h2,h3,h4⟩|⟨h1,rfl⟩
        .have HPS:=jH h1
         have bu:k<p2:=by
          exact Ig
         exact a2V
        .exact Ic
     .have d5:decide (0<M)=true:=decide_eq_true nL
      have bz:L.map qg.tree≠[]:=by
       intro e;have:=congrArg List.length e;rw[List.length_map,HM.out]at this;exact h0 (by simpa using this)
      by_cases aI:s[k]=44
      .have l2:((s[k].toNat:Int) !=44)=false:=by rw[aI];rfl
       have HST:jX (R=(mark (nQ s (k+1)) t).bind λq=>(ps D q.1).bind λy=>pz (ps D) f y.2 (L.map qg.tree++[y.1]) q.2):=jH (by
        rw[au.out,aX.out,aI];exact a2q bz)
       have aH:k+1<=s.size:=nL;have aY:k<=k+1:=nL;clear au h0 aI bz;have av:jX (oP 63 (nQ s (k+1))=true->mark (nQ s (k+1)) t=U (nQ s (k+1+1),t+1)):=jH λh=>He aH h
       have af:jX (oP 63 (nQ s (k+1))=false->mark (nQ s (k+1)) t=if 0<t then V else U (nQ s (k+1),t)):=jH λh=>K6 h
       have bK:(∃h:k+1<s.size,jX (s[k+1]=63))\/(k+1=s.size)\/(∃h:k+1<s.size,jX (s[k+1]≠63)):=by
        rcases kZ (k+1) s.size with h|h
        .by_cases h2:s[k+1]=63
         .exact .inl ⟨h,h2⟩
         .exact .inr (.inr ⟨h,h2⟩)
        .exact .inr (.inl nL)
       rcases bK with⟨O,J⟩|O|⟨O,J⟩
       .have d6:decide (k+1<s.size)=true:=decide_eq_true O
        have bJ:((s[k+1].toNat:Int)==63)=true:=by rw[J.out];rfl
        have Qo:=jH (av (by rw[qY O,J.out];rfl));have ht1:t+1<=M+1:=nL;have ag:k+1+1<=s.size:=nL;have aZ:k<=k+1+1:=nL;clear av af J;go_upto_region 33 with fail;have F3:=jH (F.more nL);generalize wr.setCell (Z (g+1) 3 V) (nk nI ((t:Int)+1))=w3 at*;clear c0 c1 c2 c3 z2 z3 x0 r0 x1 r1 x2 r2 x3 r3 y0 y1 y2 y3 F;have aa:jX (jV jI 46 #[nz s,nk nI (((k:Int)+1)+1),nk nI ((dep:Int)+1)] w3 (Aq (ps D (nQ s (k+1+1))) s w3)):=jH (bA (dep+1) (k+1+1) w3 (by have:=aS.out;omega) ag);go_wp2_with fail;refine(aa).mono ?_;rintro e w4 ⟨a,o,n,c,z,rfl,E,A⟩;have HB4:=jH E;have bg:g+2<=w3.heap.size:=F3.hB;have bq:w3.heap.size<=w4.heap.size:=E.size;have HOB:=jH F3.own.block;have N:jX (∀W,w4.alloc (nH #[nk nI a.kind,nk nI a.size,ny o n c,nk nI a.tail] TT)=W->LP w g (ny oa M cap) L (t+1) W/\nP W w4.heap.size #[nk nI a.kind,nk nI a.size,ny o n c,nk nI a.tail] TT/\jS w4.heap.size w4 W):=jH λW h=>by
         exact Ie
        have Ba:=jH A;clear A E aa;go_upto_region 37 with fail;generalize w4.alloc (nH #[nk nI a.kind,nk nI a.size,ny o n c,nk nI a.tail] TT)=w5 at*;have G5:=jH (N _ rfl);have F5:=jH G5.1;clear N;rcases Ba.out with⟨sub,p2,h1,rfl,h2,h3,h4⟩|⟨h1,rfl⟩
        .have HPS:=jH h1
         have bu:k+1+1<p2:=by
          exact Ig
         exact a2U
        .exact Ic
       .have d6:decide (k+1<s.size)=false:=decide_eq_false nL
        have LG:=jH (af (by rw[rY nL];rfl));clear av af;by_cases ht0:0<t;.exact Q6
        .obtain rfl:t=0:=nL
         have Qo:jX (mark (nQ s (k+1)) 0=U (nQ s (k+1),0)):=jH (by rw[LG.out];rfl);have F3:=jH F.out;have ht1:0<=M+1:=nL;have ag:k+1<=s.size:=aH;have aZ:k<=k+1:=aY;clear ht0 LG;go_upto_region 36 with fail;generalize wr=w3 at*;clear c0 c1 c2 c3 z2 z3 x0 r0 x1 r1 x2 r2 x3 r3 y0 y1 y2 y3 F;have aa:jX (jV jI 46 #[nz s,nk nI (((k:Int)+1)),nk nI ((dep:Int)+1)] w3 (Aq (ps D (nQ s (k+1))) s w3)):=jH (bA (dep+1) (k+1) w3 (by have:=aS.out;omega) ag);go_wp2_with fail;refine(aa).mono ?_;rintro e w4 ⟨a,o,n,c,z,rfl,E,A⟩;have HB4:=jH E;have bg:g+2<=w3.heap.size:=F3.hB;have bq:w3.heap.size<=w4.heap.size:=E.size;have HOB:=jH F3.own.block;have N:jX (∀W,w4.alloc (nH #[nk nI a.kind,nk nI a.size,ny o n c,nk nI a.tail] TT)=W->LP w g (ny oa M cap) L (0) W/\nP W w4.heap.size #[nk nI a.kind,nk nI a.size,ny o n c,nk nI a.tail] TT/\jS w4.heap.size w4 W):=jH λW h=>by
          exact Ie
         have Ba:=jH A;clear A E aa;go_upto_region 37 with fail;generalize w4.alloc (nH #[nk nI a.kind,nk nI a.size,ny o n c,nk nI a.tail] TT)=w5 at*;have G5:=jH (N _ rfl);have F5:=jH G5.1;clear N;rcases Ba.out with⟨sub,p2,h1,rfl,h2,h3,h4⟩|⟨h1,rfl⟩
         .have HPS:=jH h1
          have bu:k+1<p2:=by
           exact Ig
          exfalso;omega
         .exact Ic
       .have d6:decide (k+1<s.size)=true:=decide_eq_true O
        have bJ:((s[k+1].toNat:Int)==63)=false:=by rw[beq_eq_false_iff_ne];intro aT;exact J (lX.1 (by have:(63:UInt8).toNat=63:=rfl;omega))
        have LG:=jH (af (by rw[qY O];simp[oP,J.out]));clear av af J;by_cases ht0:0<t;.exact Q6
        .obtain rfl:t=0:=nL
         have Qo:jX (mark (nQ s (k+1)) 0=U (nQ s (k+1),0)):=jH (by rw[LG.out];rfl);have F3:=jH F.out;have ht1:0<=M+1:=nL;have ag:k+1<=s.size:=aH;have aZ:k<=k+1:=aY;clear ht0 LG;go_upto_region 36 with fail;generalize wr=w3 at*;clear c0 c1 c2 c3 z2 z3 x0 r0 x1 r1 x2 r2 x3 r3 y0 y1 y2 y3 F;have aa:jX (jV jI 46 #[nz s,nk nI (((k:Int)+1)),nk nI ((dep:Int)+1)] w3 (Aq (ps D (nQ s (k+1))) s w3)):=jH (bA (dep+1) (k+1) w3 (by have:=aS.out;omega) ag);go_wp2_with fail;refine(aa).mono ?_;rintro e w4 ⟨a,o,n,c,z,rfl,E,A⟩;have HB4:=jH E;have bg:g+2<=w3.heap.size:=F3.hB;have bq:w3.heap.size<=w4.heap.size:=E.size;have HOB:=jH F3.own.block;have N:jX (∀W,w4.alloc (nH #[nk nI a.kind,nk nI a.size,ny o n c,nk nI a.tail] TT)=W->LP w g (ny oa M cap) L (0) W/\nP W w4.heap.size #[nk nI a.kind,nk nI a.size,ny o n c,nk nI a.tail] TT/\jS w4.heap.size w4 W):=jH λW h=>by
          exact Ie
         have Ba:=jH A;clear A E aa;go_upto_region 37 with fail;generalize w4.alloc (nH #[nk nI a.kind,nk nI a.size,ny o n c,nk nI a.tail] TT)=w5 at*;have G5:=jH (N _ rfl);have F5:=jH G5.1;clear N;rcases Ba.out with⟨sub,p2,h1,rfl,h2,h3,h4⟩|⟨h1,rfl⟩
         .have HPS:=jH h1
          have bu:k+1<p2:=by
           exact Ig
          exact a2V
         .exact Ic
      .have l2:((s[k].toNat:Int) !=44)=true:=by rw[bne_iff_ne];intro aT;exact aI (lX.1 (by have:(44:UInt8).toNat=44:=rfl;omega))
       have HN:jX (R=V):=jH (by rw[au.out,aX.out,ZW bQ.out bz aI]);clear au h0 aI bz;exact Tj
   .have bF:((s[p].toNat:Int) !=123)=true:=by
     have:=ax.out 123 aj;exact this
    have I:=jH C.out;rw[if_neg aj]at I;clear aj C hk ax aA;go_wp2_with fail;rw[oL];exact xJ G.1 G.2.1 ⟨0,0,0⟩ V 0 0 (-1) HP hg rfl rfl rfl (.inr ⟨I.out,rfl⟩)
def Oz(l:List UInt8)(w:jJ)(e:Ending)(w':jJ):Prop:=
 ∃(a:TL) (o:Option lH) (n c:Nat) (er:Int) (sub:List (nM TL)),e=nG (nE #[nD #[nk nI a.kind,nk nI a.size,ny o n c,nk nI a.tail],nk nI er])/\jS w.heap.size w w'/\TL.wf a/\oQ w' (ny o n c) sub/\
  (BR l=U (.node a sub)/\er=0\/BR l=V/\er=3/\a=⟨0,0,0⟩/\sub=[])
theorem Q7{l:List UInt8}(h:ps 8 l=V):BR l=V:=by unfold BR;rw[h]
theorem Q8{l r:List UInt8}(h:ps 8 l=U (x,r))(A:r≠[]):BR l=V:=by
 unfold BR;rw[h];cases r with
 |nil=>exact absurd rfl A
 |cons _ _=>rfl
theorem VB{l:List UInt8}(h:ps 8 l=U (x,[])):BR l=if p9 x then U x else V:=by unfold BR;rw[h]
theorem OA{pf:List UInt8->Option (nM TL×List UInt8)}(h:∀l y,pf l=U y->y.1.count+y.2.length<=l.length):
  ∀(g:Nat)(l:List UInt8)(sub:List (nM TL))(tail:Nat)(y:nM TL×List UInt8),pz pf g l sub tail=U y->y.1.count+y.2.length<=l.length+nM.nZ sub:=by
 intro g;induction g with
 |zero=>intro l sub tail y A;simp[pz]at A
 |succ g C=>
  intro l sub tail y A;cases l with
  |nil=>simp[pz]at A
  |cons b r=>
   simp only[pz]at A;split at A
   .cases A
    simp only[nM.count,kF];omega
   .simp only[kr]at A
    obtain⟨E,h1,q,h2,x,I,J⟩:=A;have a1:=C _ _ _ _ J;have a2:=h _ _ I;have a3:=zQ h2;have a4:E.length<=(b::r).length:=by
     split at h1;.cases h1;exact jK _
     .split at h1
      .cases h1;simp
      .cases h1
    simp only[nM.rW,nM.nZ]at a1;omega
theorem Tk(h:p:=by
 simp only[kr]at h;obtain⟨q,h1,h2⟩:=h;have:=sG h1;cases h2;simp[nM.count,nM.nZ];omega):p:=h
theorem Z4:∀(d:Nat)(l:List UInt8)(y:nM TL×List UInt8),ps d l=U y->y.1.count+y.2.length<=l.length:=by
 intro d;induction d with
 |zero=>intro l y h;simp[ps]at h
 |succ d C=>
  intro l y h;cases l with
  |nil=>simp[ps]at h
  |cons b r=>
   simp only[ps]at h;split at h
   .simp only[kr]at h
    obtain⟨q,h1,h2⟩:=h;have:=sG h1;split at h2;.cases h2;simp[nM.count,nM.nZ];omega
    .cases h2
   split at h;.exact Tk
   split at h;.exact Tk
   split at h
   .simp only[kr]at h
    obtain⟨x,h1,h2⟩:=h;have a1:=C _ _ h1;split at h2
    .rename_i r2 e
     simp only[kr]at h2;obtain⟨q,E,A⟩:=h2;have a2:=sG E;rw[e]at a1;split at A
     .rename_i r4 e4
      cases A;rw[e4]at a2;simp only[kF,nM.count,nM.nZ]at a1 a2⊢;omega
     .cases A
    .cases h2
   split at h
   .have:=OA C _ _ _ _ _ h
    simp only[kF,nM.nZ]at this⊢;omega
   .cases h
theorem Q9(h:p:=by
 refine jZ (v:=nE #[nD #[nk nI 0,nk nI 0,ny V 0 0,nk nI 0],nk nI 3]) (by simp[kQ,Tryz.results21,go_sem,e0,e1,e2,e3]) rfl ?_;exact hpost):p:=h
theorem a2s(s:ByteArray)(w:jJ)(hs:s.size<=1000):
  jV jI 21 #[nz s] w (Oz s.data.toList w):=by
 obtain⟨g,hg⟩:=nV w.heap.size;have aQ:jX (∀W,w.alloc (nH #[nk nI 0,nk nI 0,ny V 0 0,nk nI 0] TT)=W->jS g w W/\nP W g #[nk nI 0,nk nI 0,ny V 0 0,nk nI 0] TT/\W.heap.size=g+1):=jH λW h=>by
  subst h;have az:=(jT w.heap.size w).alloc (jK _) (nH #[nk nI 0,nk nI 0,ny V 0 0,nk nI 0] TT);have aA:=nP.new w #[nk nI 0,nk nI 0,ny V 0 0,nk nI 0] TT;rw[hg]at az aA;exact⟨az,aA,nT⟩
 obtain⟨aH,aI⟩:=nV (Oz s.data.toList w);have aR:=jH aI;rw[aI];clear aI;go_in;go_upto_region 1 with fail;generalize w.alloc (nH #[nk nI 0,nk nI 0,ny V 0 0,nk nI 0] TT)=w1 at*;have Q:=jH (aQ _ rfl);have aS:jX (jV jI 46 #[nz s,nk nI 0,nk nI 1] w1 (Aq (ps 8 (nQ s 0)) s w1)):=jH (VA s hs 8 1 0 w1 rfl (kH _));clear aQ;go_wp2_with fail;refine(aS).mono ?_;rintro e w2 ⟨a,o,n,c,z,rfl,Y,ae⟩;have aX:g+1<=w2.heap.size:=by have:=Y.size;have:=Q.2.2;omega
 have aB:jX (jS g w w2/\nP w2 g #[nk nI 0,nk nI 0,ny V 0 0,nk nI 0] TT):=jH ⟨Q.1.trans (Y.mono (by have:=Q.2.2;omega)),Below.blk Y Q.2.1 Q.2.1.lt⟩;have E:jX ((∃sub q,ps 8 s.data.toList=U (.node a sub,nQ s q)/\z=(q:Nat)/\q<=s.size/\TL.wf a/\oh.nX w2 (λk=>g+1<=k) (ny o n c) sub)\/(ps 8 s.data.toList=V/\z= -1)):=jH (by
  rcases ae with⟨sub,q,h1,h2,aJ,af,ag⟩|h
  .exact .inl ⟨sub,q,h1,h2,aJ,af,ag.keep (jK _) (λk _ hk=>by have:=Q.2.2;omega) λ_ _ _=>rfl⟩
  .exact .inr h)
 have aC:jX (∀W,w2.alloc (nH #[nk nI a.kind,nk nI a.size,ny o n c,nk nI a.tail] TT)=W->jS w2.heap.size w2 W/\nP W w2.heap.size #[nk nI a.kind,nk nI a.size,ny o n c,nk nI a.tail] TT/\W.heap.size=w2.heap.size+1):=jH λW h=>by
  subst h;exact⟨(jT w2.heap.size w2).alloc (jK _) _,nP.new w2 _ _,nS⟩
 clear Y ae aS Q;go_upto_region 2 with fail;generalize w2.alloc (nH #[nk nI a.kind,nk nI a.size,ny o n c,nk nI a.tail] TT)=w3 at*;obtain⟨I,aD,aT⟩:=aC.out _ rfl
 have A:jX (jS g w w3/\nP w3 g #[nk nI 0,nk nI 0,ny V 0 0,nk nI 0] TT/\nP w3 w2.heap.size #[nk nI a.kind,nk nI a.size,ny o n c,nk nI a.tail] TT/\jS w2.heap.size w2 w3):=
  jH ⟨aB.1.trans (I.mono nL),Below.blk I aB.2 nL,aD,I⟩
 have aK:w2.heap.size<w3.heap.size:=nL;clear aC I aD aT;obtain⟨aL,aM,aN,aO⟩:=A.2.2.1.a4;obtain⟨r0,r1,r2,r3,au,av,y2,ax⟩:=A.2.1.b4
 have J:jX (∀W,jS g w W->(∃cs,nP W g cs TT/\cs.size=4)->BR s.data.toList=V->(qo W g (nk nI 0) (nk nI 0) (ny V 0 0) (nk nI 0)).cell? (Z g 0 V)=U (nk nI 0)/\(qo W g (nk nI 0) (nk nI 0) (ny V 0 0) (nk nI 0)).cell? (Z g 1 V)=U (nk nI 0)/\
   (qo W g (nk nI 0) (nk nI 0) (ny V 0 0) (nk nI 0)).cell? (Z g 2 V)=U (ny V 0 0)/\(qo W g (nk nI 0) (nk nI 0) (ny V 0 0) (nk nI 0)).cell? (Z g 3 V)=U (nk nI 0)/\
   aH (nG (nE #[nD #[nk nI 0,nk nI 0,ny V 0 0,nk nI 0],nk nI 3])) (qo W g (nk nI 0) (nk nI 0) (ny V 0 0) (nk nI 0))):=jH λW aY hB aZ=>by
  obtain⟨e0,e1,e2,e3,ah⟩:=FJ aY hB (nk nI 0) (nk nI 0) (ny V 0 0) (nk nI 0);refine⟨e0,e1,e2,e3,?_⟩;rw[<-aR.out];exact⟨⟨0,0,0⟩,V,0,0,3,[],rfl,hg▸ah,Jy nL,AV _ _,.inr ⟨aZ,rfl,rfl,rfl⟩⟩
 rcases E.out with⟨sub,q,h1,rfl,aJ,af,ag⟩|⟨h1,rfl⟩
 .by_cases C:q=s.size
  .have aU:((q:Int) !=s.size)=false:=by simp[C]
   have ai:ps 8 s.data.toList=U (.node a sub,[]):=by rw[h1,rY nL]
   have aa:=jH (VB ai);have aV:=jH af;have aF:jX (oh.nX w3 (λk=>g+1<=k) (ny o n c) sub):=jH (ag.keep A.2.2.2.size (λ_ _ h=>h) λk hk _=>A.2.2.2.block k hk);have aG:=Z4 _ _ _ ai;have aW:s.data.toList.length=s.size:=rfl;have aj:=jH (RG (.node a sub) w3 (ny o n c) (aF.keep (jK _) (λ_ _ _=>trivial) λ_ _ _=>rfl) (by simp only[List.length_nil]at aG;omega));have bg:=jH C;clear h1 ai af ag C E aG aW;simp only[nM.oZ]at aj;have ak:jX (∀W,jS w3.heap.size w3 W->jS g w W/\(∃cs,nP W g cs TT/\cs.size=4)/\oh.nX W (λk=>g+1<=k) (ny o n c) sub/\nP W g #[nk nI 0,nk nI 0,ny V 0 0,nk nI 0] TT/\nP W w2.heap.size #[nk nI a.kind,nk nI a.size,ny o n c,nk nI a.tail] TT):=jH λW h=>
    ⟨A.1.trans (h.mono nL),⟨_,Below.blk h A.2.1 nL,rfl⟩,aF.below h,Below.blk h A.2.1 nL,Below.blk h A.2.2.1 aK⟩
   cases ay:p9 (.node a sub)with
   |false=>
    rw[ay]at aj aa;clear ay;go_wp2_with fail;refine(aj).mono ?_;rintro e w4 ⟨rfl,O⟩;have N:=jH (ak w4 O);clear O r0 r1 r2 r3 au av y2 ax aL aM aN aO;obtain⟨⟨bq,r0⟩,⟨x1,r1⟩,⟨x2,r2⟩,⟨x3,r3⟩,au,av,y2,ax⟩:=vv N.2.1;go_wp2_with fail;rw[oL];obtain⟨e0,e1,e2,e3,hpost⟩:=J.out w4 N.1 N.2.1 (by rw[aa.out];rfl);exact Q9
   |true=>
    rw[ay]at aj aa;clear ay;go_wp2_with fail;refine(aj).mono ?_;rintro e w4 ⟨rfl,O⟩;have N:=jH (ak w4 O);clear O r0 r1 r2 r3 au av y2 ax aL aM aN aO;obtain⟨⟨bq,r0⟩,⟨x1,r1⟩,⟨x2,r2⟩,⟨x3,r3⟩,au,av,y2,ax⟩:=vv N.2.1;obtain⟨aL,aM,aN,aO⟩:=N.2.2.2.2.a4;go_wp2_with fail;rw[oL];obtain⟨e0,e1,e2,e3,ah⟩:=FJ N.1 N.2.1 (nk nI a.kind) (nk nI a.size) (ny o n c) (nk nI a.tail);refine jZ (v:=nE #[nD #[nk nI a.kind,nk nI a.size,ny o n c,nk nI a.tail],nk nI 0]) (by simp[kQ,Tryz.results21,go_sem,e0,e1,e2,e3]) rfl ?_;rw[<-aR.out];exact⟨a,o,n,c,0,sub,rfl,hg▸ah,aV.out,(wE N.2.2.1 (λk hk=>by omega)).keep (jK _) (λ_ _ _=>trivial) (λ_ _ _=>rfl),.inl ⟨by rw[aa.out];rfl,rfl⟩⟩
  .have aU:((q:Int) !=s.size)=true:=FL
   have aP:jX (BR s.data.toList=V):=jH (Q8 h1 λh=>C (Jv aJ h));clear C E h1 af ag;go_wp2_with fail;rw[oL];obtain⟨e0,e1,e2,e3,hpost⟩:=J.out w3 A.1 ⟨_,A.2.1,rfl⟩ aP.out;exact Q9
 .have aU:((-1:Int) !=s.size)=true:=FL
  have aP:jX (BR s.data.toList=V):=jH (Q7 h1);clear E h1;go_wp2_with fail;rw[oL];obtain⟨e0,e1,e2,e3,hpost⟩:=J.out w3 A.1 ⟨_,A.2.1,rfl⟩ aP.out;exact Q9
section
variable {c:oF}{rows:List Row}{id:Nat}{nm tx:ByteArray}
theorem Z5(h:sw nm.data.toList=false):uL c rows id nm tx=(11,V):=by unfold uL;rw[if_pos (.inr h)]
theorem VC(h:(rows.find? λy=>decide (y.name=nm)).isSome=true):uL c rows id nm tx=(11,V):=by unfold uL;rw[if_pos (.inl h)]
theorem a2t(h0:sw nm.data.toList=true)(h:¬(rows.find? λy=>decide (y.name=nm)).isSome=true)(h2:(rows.find? λy=>decide (y.id=id)).isSome=true):uL c rows id nm tx=(1,V):=by
 unfold uL;rw[if_neg (by rw[h0];simpa using h),if_pos h2]
theorem Z6(h0:sw nm.data.toList=true)(h:¬(rows.find? λy=>decide (y.name=nm)).isSome=true)(h2:¬(rows.find? λy=>decide (y.id=id)).isSome=true)(A:xh tx.data.toList=V):uL c rows id nm tx=(3,V):=by
 unfold uL;rw[if_neg (by rw[h0];simpa using h),if_neg h2,A]
theorem VD(h0:sw nm.data.toList=true)(h:¬(rows.find? λy=>decide (y.name=nm)).isSome=true)(h2:¬(rows.find? λy=>decide (y.id=id)).isSome=true){t:nM TL}(A:xh tx.data.toList=U t)(C:c.fmt=1/\(nM.o7 p0 t.sub&&p9 t)=false):uL c rows id nm tx=(12,V):=by
 unfold uL;rw[if_neg (by rw[h0];simpa using h),if_neg h2,A];dsimp only;rw[if_pos C]
theorem Tm(h0:sw nm.data.toList=true)(h:¬(rows.find? λy=>decide (y.name=nm)).isSome=true)(h2:¬(rows.find? λy=>decide (y.id=id)).isSome=true){t:nM TL}(A:xh tx.data.toList=U t)(C:¬(c.fmt=1/\(nM.o7 p0 t.sub&&p9 t)=false)):uL c rows id nm tx=(0,U ⟨id,nm,tx,t⟩):=by
 unfold uL;rw[if_neg (by rw[h0];simpa using h),if_neg h2,A];dsimp only;rw[if_neg C]
end
theorem Ra{l:List UInt8}(h:BR l=U x):x.count<=1000/\p9 x=true:=by
 unfold BR at h;split at h
 .split at h
  .rename_i A
   cases h;refine⟨?_,A⟩;unfold p9 at A;simp only[j4,decide_eq_true_eq]at A;omega
  .cases h
 .cases h
theorem Io.at_{oa:Option lH}{n cap:Nat}{A:List wV}(h:Io w (ny oa n cap) A){i:Nat}{e:wV}(he:A[i]? =U e):∃b off,oa=U (Z b off V)/\b<w.heap.size/\w.cell? (Z b (off+i*3) V)=U (nk nJ e.id)/\w.cell? (Z b (off+i*3+1) V)=U (nz e.nm)/\w.cell? (Z b (off+i*3+2) V)=U (nz e.tx):=by
 obtain⟨J,C,E,h1,h2,I⟩:=h;cases E;exact I i e he
theorem Z7(a b:ByteArray):((a.toList==b.toList)=true/\jX (a=b))\/((a.toList==b.toList)=false/\jX (a≠b)):=by
 by_cases h:a=b;.exact .inl ⟨str_eq h,jH h⟩
 .exact .inr ⟨WK h,jH h⟩
theorem a5c(a b:Nat):(((a:Int)==(b:Int))=true/\jX (a=b))\/(((a:Int)==(b:Int))=false/\jX (a≠b)):=by
 by_cases h:a=b;.exact .inl ⟨by simp[h],jH h⟩
 .exact .inr ⟨wG,jH h⟩
theorem Tn(h:p:=by
 refine oz nN nN ?_;repeat(go_big_quiet_step (fail))
 refine mK ?_;intro x;go_wp2_with fail;go_returns;exact⟨by rw[HX.out];rfl,HB3 x⟩):p:=h
theorem a2u(c:oF)(E:List wV)(v:jP)(w:jJ)(bN:Io w v E)(bH:∀e,e∈E->e.nm.size<=j3/\e.tx.size<=1000)(hn:E.length<=100):
  jV jI 29 #[c.v,v] w λe w'=>e=nG (nk nI (Fa c E))/\jS w.heap.size w w':=by
 obtain⟨oa,cap,rfl,bD,dx,_⟩:=id bN;obtain⟨n,aO⟩:=nV E.length;obtain⟨g,hg⟩:=nV w.heap.size;have bO:=jH (vz (w:=w) c (t:=tC));have bI:jX (∀W,w.alloc (nH #[nk nI c.fmt,nk nK c.mag,nk nI c.pF,nk nI c.qc,nk nI c.dep,nk nI c.oV] tC)=W->W.heap.size=g+1):=jH λW h=>by subst h;simp[hg]
 have bX:=jH bN;have bY:=jH bH;have bE:=jH aO;have aP:jX (∀W,jV jI 39 #[nD #[nk nI c.fmt,nk nK c.mag,nk nI c.pF,nk nI c.qc,nk nI c.dep,nk nI c.oV]] W λe w'=>e=nG (nC (oJ c))/\jS W.heap.size W w'):=jH λW=>Oy c W
 obtain⟨R,aN⟩:=nV (Fa c E);have aQ:jX (oJ c=false->R=1):=jH λh=>by rw[<-aN];unfold Fa uZ;rw[if_pos h];rfl
 have aR:jX (oJ c=true->32<n->R=4):=jH λh h2=>by rw[<-aN];unfold Fa uZ;rw[h,if_neg nO,if_pos nL];rfl
 have aS:jX (oJ c=true->n<=32->∀er:Nat,rG c [] E=.error er->R=er):=jH λh h2 er aB=>by rw[<-aN];unfold Fa uZ;rw[h,if_neg nO,if_neg nL,aB]
 have aT:jX (oJ c=true->n<=32->∀rows,rG c [] E=.ok rows->R=0):=jH λh h2 rows aB=>by rw[<-aN];unfold Fa uZ;rw[h,if_neg nO,if_neg nL,aB]
 unfold oF.v oF.cs;rw[hg]at bO⊢;rw[aO]at bX hn bD⊢;rw[aN];obtain⟨rc,bJ⟩:=nV (oJ c);rw[bJ]at aP aQ aR aS aT;clear bN bH aO aN bJ;go_in;go_upto_region 1 with fail;obtain⟨bK,c0,c1,c2,c3,c4,c5⟩:=bO.out _ rfl;have bZ:=bI.out _ rfl;generalize w.alloc _=w1 at*;have bP:=jH bK;clear bO bI bK;cases rc with
 |false=>
  have HE:=jH (aQ rfl);go_wp2_with fail;refine(aP _).mono ?_;rintro e w2 ⟨rfl,O⟩;have HB2:=jH (bP.trans (O.mono nL));clear O;exact DZ
 |true=>
 by_cases cz:32<n
 .have HE:=jH (aR rfl cz)
  go_wp2_with fail;refine(aP _).mono ?_;rintro e w2 ⟨rfl,O⟩;have HB2:=jH (bP.trans (O.mono nL));clear O;exact DZ
 have ah:jX (∀er:Nat,rG c [] E=.error er->R=er):=jH (λer h=>aS.out rfl nL er h);have cK:jX (∀rows,rG c [] E=.ok rows->R=0):=jH (λrows h=>aT.out rfl nL rows h);clear aS aT;clear aQ aR;go_wp2_with fail;refine(aP _).mono ?_;rintro e w2 ⟨rfl,O⟩;have HB2:jX (jS (g+1) w1 w2):=jH (bZ▸O);clear O aP c1 c2 c3 c4 c5;go_wp2_with fail;go_loopw [5] (λiv dz=>∃i rows,iv=nk nI (i:Nat)/\i<=n/\jX (rG c [] (E.take i)=.ok rows)/\jX (jS (g+1) w1 dz)) (λiv _=>n -(kT iv).toNat);case atStart=>exact⟨0,[],rfl,nL,jH (by simp[rG]),HB2⟩
 case round=>
  obtain⟨i,rows,rfl,hi,Q,ai⟩:=hrel;have ag:jX (∀W,jS (g+1) w1 W->jS g w W):=jH λW h=>bP.trans (h.mono nL)
  have aj:jX (∀W,jS (g+1) w1 W->Io W (ny oa n cap) E):=jH λW h=>bX.below (hg.symm▸ag.out W h)
  have dC:g+1<=wr.heap.size:=by have:=ai.size;omega
  by_cases ci:i<n
  .obtain⟨e,he⟩:∃e,E[i]? =U e:=⟨_,jW (by rw[bE.out];exact ci)⟩
   have HE:=jH he;obtain⟨cZ,df⟩:=bY.out e (kK he);obtain⟨b,off,rfl,hlt,dD,e1,e2⟩:=Io.at_ (aj wr ai) he;have bQ:=jH (TK e.nm wr cZ);have aU:jX (sw e.nm.data.toList=false->R=11):=jH λh=>ah.out 11 (Ao Q HE (Z5 h))
   obtain⟨dA,aV⟩:=nV (sw e.nm.data.toList);have ak:=jH aV;rw[aV]at bQ aU;clear he aV;cases dA with
   |false=>
    have HX:=jH (aU rfl);have HB3:=jH (ag wr ai);go_wp2_with fail;refine bQ.mono ?_;rintro e w3 ⟨rfl,rfl⟩;go_wp2_with fail;go_returns;exact⟨by rw[HX.out];rfl,HB3.out⟩
   |true=>
    clear aU;go_wp2_with fail;refine bQ.mono ?_;rintro A w3 ⟨rfl,rfl⟩;go_wp2_with fail;go_loopw [6] (λkv wk=>∃k:Nat,kv=nk nI k/\k<=i/\jX (∀j A,j<k->E[j]? =U A->A.nm≠e.nm)/\jX (jS (g+1) w1 wk)) (λkv _=>i -(kT kv).toNat);case atStart=>exact⟨0,rfl,nL,jH (λj A aC=>by omega),ai⟩
    case round=>
     obtain⟨k,rfl,hk,Y,C⟩:=hrel;have aa:g+1<=wr.heap.size:=by have:=C.size;omega
     obtain⟨bi,oi,Ik,bR,aD,aF,aW⟩:=Io.at_ (aj wr C) HE.out;simp only[mF,Addr.mk.injEq]at Ik;obtain⟨rfl,rfl,_⟩:=Ik;by_cases bF:k<i
     .obtain⟨A,J⟩:∃A,E[k]? =U A:=⟨_,jW (by rw[bE.out];omega)⟩
      obtain⟨bk,ok,Ik,I,aG,aH,aX⟩:=Io.at_ (aj wr C) J;simp only[mF,Addr.mk.injEq]at Ik;obtain⟨rfl,rfl,_⟩:=Ik;have dh:k<n:=nL;rcases Z7 A.nm e.nm with⟨bS,aI⟩|⟨bS,aI⟩
      .have HX:jX (R=11):=jH (ah 11 (Ao Q HE (VC ((JV Q e.nm).2 ⟨k,A,bF,J,aI.out⟩))))
       clear J;have bT:∀x:rP wr,x.at_.cell? (Z b (off+k*3+1) V)=U (nz A.nm):=λx=>(x.is.cell (p:=(Z b (off+k*3+1) V)) I).trans aH
       have bU:∀x:rP wr,x.at_.cell? (Z b (off+i*3+1) V)=U (nz e.nm):=λx=>(x.is.cell (p:=(Z b (off+i*3+1) V)) I).trans aF
       have N:jX (∀x:rP wr,jS (g+1) w1 x.at_):=jH λx=>C.trans (x.is.mono aa)
       have HB3:jX (∀x:rP wr,jS g w x.at_):=jH λx=>ag.out _ (N x)
       clear aG aH aX aD aF aW;go_upto_region 13 with fail;exact Tn
      .have aJ:jX (∀q A,q<k+1->E[q]? =U A->A.nm≠e.nm):=jH λq e2 aC h2=>by
        by_cases aB:q=k;.subst aB;rw[J]at h2;cases h2;exact aI
        .exact Y q e2 nL h2
       clear J;have bT:∀x:rP wr,x.at_.cell? (Z b (off+k*3+1) V)=U (nz A.nm):=λx=>(x.is.cell (p:=(Z b (off+k*3+1) V)) I).trans aH
       have bU:∀x:rP wr,x.at_.cell? (Z b (off+i*3+1) V)=U (nz e.nm):=λx=>(x.is.cell (p:=(Z b (off+i*3+1) V)) I).trans aF
       have N:jX (∀x:rP wr,jS (g+1) w1 x.at_):=jH λx=>C.trans (x.is.mono aa)
       have HB3:jX (∀x:rP wr,jS g w x.at_):=jH λx=>ag.out _ (N x)
       clear aG aH aX aD aF aW;go_upto_region 13 with fail;refine oz nN nN ?_;repeat(go_big_quiet_step (fail))
       refine mK ?_;intro x;go_wp2_with fail;go_roundw;case rel=>exact⟨k+1,by go_num,nL,aJ,N x⟩
       case measure=>simp[kT];omega
     .obtain rfl:k=i:=nL
      have au:jX (¬(rows.find? λy=>decide (y.name=e.nm)).isSome=true):=jH λh=>by
       obtain⟨j,A,aC,h1,h2⟩:=(JV Q e.nm).1 h;exact Y j A aC h1 h2
      clear Y bF;go_wp2_with fail;go_loopw [7] (λkv wk=>∃j:Nat,kv=nk nI j/\j<=k/\jX (∀q A,q<j->E[q]? =U A->A.id≠e.id)/\jX (jS (g+1) w1 wk)) (λkv _=>k -(kT kv).toNat);case atStart=>exact⟨0,rfl,nL,jH (λj A aC=>by omega),C⟩
      case round=>
       obtain⟨j,rfl,hk,Y,C⟩:=hrel;have aa:g+1<=wr.heap.size:=by have:=C.size;omega
       obtain⟨bi,oi,Ik,bR,aD,aF,aW⟩:=Io.at_ (aj wr C) HE.out;simp only[mF,Addr.mk.injEq]at Ik;obtain⟨rfl,rfl,_⟩:=Ik;by_cases bF:j<k
       .obtain⟨A,J⟩:∃A,E[j]? =U A:=⟨_,jW (by rw[bE.out];omega)⟩
        obtain⟨bk,ok,Ik,I,aG,aH,aX⟩:=Io.at_ (aj wr C) J;simp only[mF,Addr.mk.injEq]at Ik;obtain⟨rfl,rfl,_⟩:=Ik;have dh:j<n:=nL;rcases a5c A.id e.id with⟨bS,aI⟩|⟨bS,aI⟩
        .have HX:jX (R=1):=jH (ah 1 (Ao Q HE (a2t ak au ((EP Q e.id).2 ⟨j,A,bF,J,aI.out⟩))))
         clear J;have bT:∀x:rP wr,x.at_.cell? (Z b (off+j*3) V)=U (nk nJ A.id):=λx=>(x.is.cell (p:=(Z b (off+j*3) V)) I).trans aG
         have bU:∀x:rP wr,x.at_.cell? (Z b (off+k*3) V)=U (nk nJ e.id):=λx=>(x.is.cell (p:=(Z b (off+k*3) V)) I).trans aD
         have N:jX (∀x:rP wr,jS (g+1) w1 x.at_):=jH λx=>C.trans (x.is.mono aa)
         have HB3:jX (∀x:rP wr,jS g w x.at_):=jH λx=>ag.out _ (N x)
         clear aG aH aX aD aF aW;go_upto_region 18 with fail;exact Tn
        .have aJ:jX (∀q A,q<j+1->E[q]? =U A->A.id≠e.id):=jH λq e2 aC h2=>by
          by_cases aB:q=j;.subst aB;rw[J]at h2;cases h2;exact aI
          .exact Y q e2 nL h2
         clear J;have bT:∀x:rP wr,x.at_.cell? (Z b (off+j*3) V)=U (nk nJ A.id):=λx=>(x.is.cell (p:=(Z b (off+j*3) V)) I).trans aG
         have bU:∀x:rP wr,x.at_.cell? (Z b (off+k*3) V)=U (nk nJ e.id):=λx=>(x.is.cell (p:=(Z b (off+k*3) V)) I).trans aD
         have N:jX (∀x:rP wr,jS (g+1) w1 x.at_):=jH λx=>C.trans (x.is.mono aa)
         have HB3:jX (∀x:rP wr,jS g w x.at_):=jH λx=>ag.out _ (N x)
         clear aG aH aX aD aF aW;go_upto_region 18 with fail;refine oz nN nN ?_;repeat(go_big_quiet_step (fail))
         refine mK ?_;intro x;go_wp2_with fail;go_roundw;case rel=>exact⟨j+1,by go_num,nL,aJ,N x⟩
         case measure=>simp[kT];omega
       .obtain rfl:j=k:=nL
        have aK:jX (¬(rows.find? λy=>decide (y.id=e.id)).isSome=true):=jH λh=>by
         obtain⟨j,A,aC,h1,h2⟩:=(EP Q e.id).1 h;exact Y j A aC h1 h2
        have bV:=jH (a2s e.tx wr df);go_wp2_with fail;refine bV.mono ?_;rintro A w3 ⟨ta,aY,n3,av,er,sub,rfl,aZ,_,ae,bG⟩;have HB3:jX (jS (g+1) w1 w3):=jH (C.trans (aZ.mono aa));have bg:jX (∀W,w3.alloc (nH #[nk nI ta.kind,nk nI ta.size,ny aY n3 av,nk nI ta.tail] 63)=W->jS (g+1) w1 W/\nP W w3.heap.size #[nk nI ta.kind,nk nI ta.size,ny aY n3 av,nk nI ta.tail] 63/\oQ W (ny aY n3 av) sub):=jH λW h=>by
         subst h;have a:=(jT w3.heap.size w3).alloc (jK _) (nH #[nk nI ta.kind,nk nI ta.size,ny aY n3 av,nk nI ta.tail] 63);exact⟨HB3.trans (a.mono (by have:=aZ.size;omega)),nP.new w3 _ _,Shape.nX.below ae a⟩
        clear ae aZ;go_upto_region 21 with fail;obtain⟨ax,bq,ae⟩:=bg.out _ rfl;generalize w3.alloc _=w4 at*;have aL:=jH ax;obtain⟨t0,dE,dF,t3⟩:=bq.a4;have cf:w4.cell? (Z g 0 V)=U (nk nI c.fmt):=(ax.cell (p:=(Z g 0 V)) (lK g)).trans c0;rcases bG with⟨af,rfl⟩|⟨af,rfl,rfl,rfl⟩
        .have bL:xh e.tx.data.toList=U (.node ta sub):=by rw[Jf];exact af
         obtain⟨bu,bW⟩:=Ra af;have aM:=jH (Xw (.node ta sub) w4 (ny aY n3 av) ae bu);simp only[nM.oZ,nM.qx]at aM;have bz:=jH bL;have bA:g+1<=w4.heap.size:=by have:=ax.size;omega
         clear af bL bu bW ax bq ae bg bV;by_cases ay:c.fmt=1
         .have f1:(c.fmt==1)=true:=by simp[ay]
          have dw:=jH ay;clear ay;obtain⟨dB,bB⟩:=nV ((nM.o7 p0 sub&&p9 (.node ta sub)));have bM:=jH bB;rw[bB]at aM;clear bB;cases dB with
          |false=>
           have HX:jX (R=12):=jH (ah 12 (Ao Q HE (VD ak au aK bz ⟨dw.out,bM.out⟩)));go_wp2_with fail;refine aM.mono ?_;rintro A w5 ⟨rfl,az⟩;have aA:=jH (ag _ (aL.trans (az.mono bA)));clear az;go_wp2_with fail;go_returns;exact⟨by rw[HX.out];rfl,aA.out⟩
          |true=>
           have bC:=jH (JU Q HE (Tm ak au aK bz (c:=c) (by rw[show(nM.o7 p0 (nM.sub (.node ta sub))&&p9 (.node ta sub))=true from bM.out];simp)));go_wp2_with fail;refine aM.mono ?_;rintro A w5 ⟨rfl,az⟩;have aA:=jH (aL.trans (az.mono bA));clear az;go_wp2_with fail;go_roundw;case rel=>exact⟨j+1,_,by go_num,nL,bC,aA⟩
           case measure=>simp[kT];omega
         .have f1:(c.fmt==1)=false:=by rw[beq_eq_false_iff_ne];exact ay
          have bC:=jH (JU Q HE (Tm ak au aK bz (c:=c) (λh=>ay h.1)));go_wp2_with fail;go_roundw;case rel=>exact⟨j+1,_,by go_num,nL,bC,aL⟩
          case measure=>simp[kT];omega
        .have HX:jX (R=3):=jH (ah 3 (Ao Q HE (Z6 ak au aK (by rw[Jf];exact af))))
         have aA:=jH (ag _ aL);clear af ax bq ae bg bV;go_wp2_with fail;go_returns;exact⟨by rw[HX.out];rfl,aA.out⟩
  .obtain rfl:i=n:=nL
   have HX:jX (R=0):=jH (cK rows (by have:=Q.out;rw[<-bE.out,l9]at this;exact this));have HB3:=jH (ag wr ai);go_wp2_with fail;go_returns;exact⟨by rw[HX.out];rfl,HB3.out⟩
def tY(es:List wV):Bool:=decide (40<es.length)||es.any λe=>decide (100<e.nm.size)||decide (500<e.tx.size)
theorem LH{A:List wV}(h:tY A=false):A.length<=40/\∀e,e∈A->e.nm.size<=100/\e.tx.size<=500:=by
 unfold tY at h;simp only[Bool.or_eq_false_iff,decide_eq_false_iff_not,List.any_eq_false]at h;refine⟨nL,λe he=> ?_⟩;have:=h.2 e he;simp only[Bool.or_eq_true,decide_eq_true_eq]at this;omega
theorem JY{A:List wV}{i:Nat}{e:wV}(he:A[i]? =U e)(h:100<e.nm.size\/500<e.tx.size):tY A=true:=by
 unfold tY;rw[Bool.or_eq_true,List.any_eq_true];exact .inr ⟨e,kK he,by simp only[Bool.or_eq_true,decide_eq_true_eq];exact h⟩
theorem OB{A:List wV}(h:A.length<=40)(h2:∀i e,i<A.length->A[i]? =U e->e.nm.size<=100/\e.tx.size<=500):tY A=false:=by
 unfold tY;simp only[Bool.or_eq_false_iff,decide_eq_false_iff_not,List.any_eq_false];refine⟨nL,λe he=> ?_⟩;obtain⟨i,hi⟩:=List.getElem?_of_mem he;have:=h2 i e (lF.1 hi).1 hi;simp only[Bool.or_eq_true,decide_eq_true_eq];omega
theorem FK(h:p:=by
 go_wp2_with fail;go_returns;exact⟨by rw[HX.out];rfl,rfl⟩):p:=h
theorem Rb(A:List wV)(v:jP)(w:jJ)(O:Io w v A)(N:∀e,e∈A->e.nm.size<=j3/\e.tx.size<=j3):
  jV jI 28 #[v] w λe w'=>e=nG (nC (tY A))/\w'=w:=by
 obtain⟨oa,cap,rfl,E,I,_⟩:=id O;obtain⟨n,C⟩:=nV A.length;have ax:n<=9223372036854775807:=by unfold j3 at I;omega
 obtain⟨R,Q⟩:=nV (tY A);have J:=jH Q;have aa:=jH O;have Y:=jH C;have ae:=jH N;rw[Q];rw[C]at aa E⊢;clear O Q N;by_cases af:40<n
 .have HX:jX (R=true):=jH (by rw[<-J.out];unfold tY;rw[C];simp[af])
  clear C;go_in;exact FK
 clear C;go_in;go_wp2_with fail;go_loopw [3] (λiv ak=>∃i:Nat,iv=nk nI i/\i<=n/\jX (∀k e,k<i->A[k]? =U e->e.nm.size<=100/\e.tx.size<=500)/\ak=w) (λiv _=>n -(kT iv).toNat);case atStart=>exact⟨0,rfl,nL,jH (λk e h=>by omega),rfl⟩
 case round=>
  obtain⟨i,rfl,hi,ag,rfl⟩:=hrel;by_cases c:i<n
  .obtain⟨e,he⟩:∃au,A[i]? =U au:=⟨_,jW (by rw[Y.out];exact c)⟩
   obtain⟨b,off,rfl,hlt,aA,aB,aC⟩:=Io.at_ aa he;obtain⟨ah,ai⟩:=ae.out e (kK he);have ay:e.nm.size<=9223372036854775807:=by unfold j3 at ah;omega
   have az:e.tx.size<=9223372036854775807:=by unfold j3 at ai;omega
   clear ah ai;by_cases c1:100<e.nm.size
   .have HX:jX (R=true):=jH (by rw[<-J.out];exact JY he (.inl c1))
    clear he;exact FK
   .by_cases c2:500<e.tx.size
    .have HX:jX (R=true):=jH (by rw[<-J.out];exact JY he (.inr c2))
     clear he;exact FK
    .have aj:jX (∀k e,k<i+1->A[k]? =U e->e.nm.size<=100/\e.tx.size<=500):=jH λk e2 hk h2=>by
      by_cases av:k=i;.subst av;rw[he]at h2;cases h2;omega
      .exact ag k e2 nL h2
     clear he;go_wp2_with fail;go_roundw;case rel=>exact⟨i+1,by go_num,nL,aj,trivial⟩
     case measure=>simp[kT];omega
  .obtain rfl:i=n:=nL
   have HX:jX (R=false):=jH (by rw[<-J.out];exact OB (by rw[Y.out];omega) (λk e hk he=>ag.out k e (by rw[<-Y.out];exact hk) he));exact FK
def Ep(c:oF)(A:List wV):Bool:= !tY A&&decide (Fa c A=0)
theorem Z8(h:p:=by
 go_wp2_with fail;refine(CN2 _ H1).mono ?_;rintro e w3 ⟨rfl,hb3⟩;have HB3:=jH (H1.trans (hb3.mono nL));clear hb3;go_wp2_with fail;go_returns;exact⟨by rw[HX2.out];rfl,HB3.out⟩):p:=h
theorem VE(c:oF)(A:List wV)(v:jP)(w:jJ)(af:Io w v A)(E:∀e,e∈A->e.nm.size<=j3/\e.tx.size<=j3):
  jV jI 9 #[c.v,v] w λe w'=>e=nG (nC (Ep c A))/\jS w.heap.size w w':=by
 have ag:=jH (vz (w:=w) c (t:=tC));obtain⟨g,hg⟩:=nV w.heap.size;have J:jX (∀W,jS w.heap.size w W->jV jI 28 #[v] W λe w'=>e=nG (nC (tY A))/\w'=W):=jH λW h=>Rb A v W (af.below h) E
 have I:jX (tY A=false->∀W,jS w.heap.size w W->jV jI 29 #[nD #[nk nI c.fmt,nk nK c.mag,nk nI c.pF,nk nI c.qc,nk nI c.dep,nk nI c.oV],v] W λe w'=>e=nG (nk nI (Fa c A))/\jS W.heap.size W w'):=jH λh W aj=>by
  obtain⟨h1,h2⟩:=LH h;exact a2u c A v W (af.below aj) (λe he=>⟨(E e he).1,by have:=(h2 e he).2;omega⟩) nL
 have Q:jX (∀W,w.alloc (nH #[nk nI c.fmt,nk nK c.mag,nk nI c.pF,nk nI c.qc,nk nI c.dep,nk nI c.oV] tC)=W->W.heap.size=g+1):=jH λW h=>by subst h;simp[hg]
 obtain⟨R,ah⟩:=nV (Ep c A);have N:jX (R=(!tY A&&decide (Fa c A=0))):=jH ah.symm;obtain⟨oa,cap,rfl,_⟩:=af;unfold oF.v oF.cs;rw[hg]at ag J I⊢;rw[ah];obtain⟨GE,Y⟩:=nV (tY A);obtain⟨ai,aa⟩:=nV (Fa c A);rw[Y]at J I N;rw[aa]at I N;clear ah Y aa E;go_in;go_upto_region 1 with fail;obtain⟨ae,c0,c1,c2,c3,c4,c5⟩:=ag.out _ rfl;have ak:=Q.out _ rfl;generalize w.alloc _=w1 at*;have H1:=jH ae;clear ag Q ae;cases GE with
 |true=>
  have O:jX (R=false):=jH (by rw[N.out];rfl);go_wp2_with fail;refine(J _ H1).mono ?_;rintro e w2 ⟨rfl,rfl⟩;go_wp2_with fail;go_returns;exact⟨by rw[O.out];rfl,H1.out⟩
 |false=>
  have CN2:=jH (I rfl);clear I;have O:jX (R=decide (ai=0)):=jH (by rw[N.out];rfl);go_wp2_with fail;refine(J _ H1).mono ?_;rintro e w2 ⟨rfl,rfl⟩;by_cases C:ai=0
  .have HX2:jX (R=true):=jH (by rw[O.out,decide_eq_true C])
   subst C;exact Z8
  .have HX2:jX (R=false):=jH (by rw[O.out,decide_eq_false C])
   have au:(ai==0)=false:=by rw[beq_eq_false_iff_ne];exact C
   clear C;exact Z8
theorem a2v{c:oF}{A:List wV}(h:Fa c A=0):∃rows,uZ c A=.ok rows:=by
 unfold Fa at h;cases hp:uZ c A with
 |ok rows=>exact⟨rows,rfl⟩
 |error er=>
  rw[hp]at h;dsimp only at h;exfalso;have h0:er=0:=nL;subst h0;unfold uZ at hp;split at hp;.cases hp
  .split at hp
   .cases hp
   .exact JW A [] hp
theorem Rc(c:oF)(A:List wV)(v:jP)(w:jJ)(rows:List Row)(hp:uZ c A=.ok rows)(ae:Io w v A)(J:∀e,e∈A->e.nm.size<=j3/\e.tx.size<=j3/\e.id<18446744073709551616)(O:pW w):
  jV jI 10 #[c.v,v] w (Ak c rows w):=by
 have Q:=jH (vz (w:=w) c (t:=tC));obtain⟨g,hg⟩:=nV w.heap.size;have Y:jX (∀W,jS w.heap.size w W->jV jI 27 #[nD #[nk nI c.fmt,nk nK c.mag,nk nI c.pF,nk nI c.qc,nk nI c.dep,nk nI c.oV],v] W (Ab c A W)):=jH λW h=>SC c A v W (ae.below h) J (O.below h O.lt)
 have aj:=jH hp;obtain⟨aa,C⟩:=nV (Ak c rows w);have af:=jH C;obtain⟨oa,cap,rfl,_⟩:=ae;unfold oF.v oF.cs;rw[hg]at Q Y;rw[C];clear C hp O J;go_in;go_upto_region 1 with fail;obtain⟨E,c0,c1,c2,c3,c4,c5⟩:=Q.out _ rfl;generalize w.alloc _=w1 at*;have ag:=jH E;have ah:=jH (Y w1 E);clear Q E Y;go_wp2_with fail;refine ah.mono ?_;rintro e w2 ⟨N,h2⟩;rw[aj.out]at h2;obtain⟨G,sb,r,bn,bi,L,rfl,hL,ai,hl,I⟩:=h2;have ak:jX (aa (nG (nA (U (Z sb 0 V)))) w2):=jH (by
  rw[<-af.out];have au:=ag.size;exact⟨(hg▸ag.out).trans (N.mono nL),G,sb,r,bn,bi,L,rfl,hL,ai,⟨nL,hl.2.1,hl.2.2.1,hl.2.2.2.1,hl.2.2.2.2.1,hl.2.2.2.2.2.1,hl.2.2.2.2.2.2.mono nL⟩,I⟩)
 clear N hL ai hl I;go_wp2_with fail;try go_returns
 exact ak
end
section
open Go.RowKit Go.Maps
end
section
open Go.RowKit
theorem VF(c:oF)(rows:List Row)(mb:Nat)(buf:List UInt8)(nd fa:Int)(ch:ByteArray):(sS c rows mb buf nd fa ch).2.1.length<=buf.length+ch.size:=by
 have h1:ch.data.toList.length=ch.size:=kY;unfold sS;split;.exact lZ _ _
 .split
  .simp only[j5];omega
  .dsimp only
   rw[kX,j5];omega
theorem VG{c:oF}{C:List wV}(h:Ep c C=true):tY C=false/\oJ c=true/\∃rows,uZ c C=.ok rows:=by
 unfold Ep at h;simp only[j4,Bool.not_eq_true',decide_eq_true_eq]at h;obtain⟨rows,A⟩:=a2v h.2;refine⟨h.1,?_,rows,A⟩;cases hc:oJ c with
 |true=>rfl
 |false=>
  unfold uZ at A;rw[if_pos hc]at A;cases A
theorem VH{c:oF}{A:List wV}{rows:List Row}(h:uZ c A=.ok rows):rG c [] A=.ok rows:=by
 unfold uZ at h;split at h;.cases h
 .split at h
  .cases h
  .exact h
theorem a2w(ss:List ByteArray)(i:Nat):Cf (ss.take i)<=Cf ss:=by
 unfold Cf;conv=>rhs;rw[<-ng i ss,List.map_append,List.sum_append]
 exact lZ _ _
theorem Z9{c:oF}{A:List wV}{rows:List Row}(h:uZ c A=.ok rows)(E:∀e,e∈A->e.id<18446744073709551616):∀r,r∈rows->r.id<18446744073709551616:=λr I=>by
 have h2:rG c [] A=.ok rows:=VH h;rcases(LF A [] rows h2 r.id).1 ⟨r,I,rfl⟩with⟨_,C,_⟩|⟨e,he,C⟩
 .cases C
 .rw[<-C];exact E e he
end
end Go.Proofs.YtamfcjmhnndbdaaGreatDoor


