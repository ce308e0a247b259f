/- Part 14 of the proof. -/
import Derived.Test.YtamfcjmhnndbdaaGreatDoorZoA
import Derived.Test.YtamfcjmhnndbdaaGreatDoorZo00
import Derived.Test.YtamfcjmhnndbdaaGreatDoorZo03
import Derived.Test.YtamfcjmhnndbdaaGreatDoorZo04
import Derived.Test.YtamfcjmhnndbdaaGreatDoorZo05
import Derived.Test.YtamfcjmhnndbdaaGreatDoorZo08
import Derived.Test.YtamfcjmhnndbdaaGreatDoorZo10
import Derived.Test.YtamfcjmhnndbdaaGreatDoorZo11
import Derived.Test.YtamfcjmhnndbdaaGreatDoorZo12
import Derived.Test.YtamfcjmhnndbdaaGreatDoorZo13
import Derived.WalkKit
import Derived.Deep.Slices
import Derived.Deep.Fields
import Derived.ChangeSame
import Derived.SliceStrings
open Go.Value renaming agg→nI,bool→nH,int→Y,pointer→nG,slice→u,string→G,tuple→nJ,slice→kI
open Go.Obj renaming cells→nL
open Go.IntKind renaming i64→X,u32→nO,u64→nN
open Go.Ending renaming returned→nK
open Go.Lib renaming hid→H
open Go.Proofs.Tryz renaming prog→jy
open Go renaming World→M,Value→jC,Calls→jG,maxLen→jN,bodyPost_ret→jO,TypeId→jX,undef→ku,results→kF,Addr→kW,Program→lQ,wpQuiet_nil→l7
open Nat renaming le_refl→jB,le_trans→jM,zero_le→ko,add_assoc→kK,lt_or_ge→kQ,lt_succ_self→lF,le_of_eq→lZ
open Go.RowKit renaming Below→jD,Hid→jI,intOf→kC
open Go.RowKit.Below renaming refl→jE
open And renaming intro→jF
open Bool renaming and_eq_true→jJ,true_and→mQ
open List renaming length_append→jK,getElem?_eq_getElem→jL,length_cons→j4,replicate→ky,mem_of_getElem?→kE,length_drop→kG,getElem?_eq_some_iff→lu,take_length→lM,getElem?_append_left→l6,length_eq_zero_iff→mh,getElem?_append_right→mZ,drop_eq_getElem_cons→nA
open Go.World renaming setCell→j5,cell?→mV
open Array renaming getElem?_eq_some_iff→j6,getD_eq_getD_getElem?→lD
open Option renaming bind_eq_some_iff→kg,bind_some→kr
open Go.Lit renaming int→kY
open UInt8 renaming toNat_inj→lX
open Option.some renaming injEq→mI
open Option renaming none→V,some→U
open Bool renaming true→R,false→O
open Go.Addr renaming mk→Z
open Decidable renaming decide→At
namespace Go.Proofs.YtamfcjmhnndbdaaGreatDoor
set_option linter.unusedVariables false
set_option linter.defProp false
set_option linter.unusedSimpArgs false
set_option maxRecDepth 100000
set_option maxHeartbeats 8000000
variable {a oa:Option kW}{x:nS TL}
section
open Go.RowKit
def BK(ar:Option (nS TL×List Ax))(s:An)(w:M)(e:Ending)(w':M):Prop:=
 ∃(a:TL) (o:Option kW) (n c:Nat) (z:Int),e=nK (nJ #[nI #[Y X a.kind,Y X a.size,u o n c,Y X a.tail],Y X z])/\jD w.heap.size w w'/\
  ((∃sub q,ar=U (.node a sub,nW s q)/\z=(q:Nat)/\q<=s.size/\TL.wf a/\oD.om w' (λk=>w.heap.size<=k) (u o n c) sub)\/(ar=V/\z= -1))
def TS{k:Int}(h0:0<=k)(A:k<=100000000):(kY X k).wf=R:=by
 exact Vn
def Kh{k z t:Int}(h:(0<=k/\k<=100000000)/\(0<=z/\z<=100000000)/\(0<=t/\t<=100000000)):TL.wf ⟨k,z,t⟩:=⟨TS h.1.1 h.1.2,TS h.2.1.1 h.2.1.2,TS h.2.2.1 h.2.2.2⟩
def Ch(w:M)(Q:Nat->Prop):oD.om w Q (u V 0 0) []:=⟨V,0,rfl,jB _,ko _,λh=>absurd h nX⟩
def Mq(s:An)(p:Nat):(nW s p).length=s.size - p:=by unfold nW;rw[kG];rfl
def Io{w0 w:M}{gr:Nat}(hb:jD gr w0 w)(E:∃cs,nU w gr cs TT/\cs.size=4)(A B C D:jC):
  (qM w gr A B C D).cell? (Z gr 0 V)=U A/\(qM w gr A B C D).cell? (Z gr 1 V)=U B/\(qM w gr A B C D).cell? (Z gr 2 V)=U C/\(qM w gr A B C D).cell? (Z gr 3 V)=U D/\jD gr w0 (qM w gr A B C D):=by
 obtain⟨cs,I,J⟩:=E;have hB:=xG (a:=A) (b:=B) (c:=C) (d:=D) I J;exact⟨hB.cell 0,hB.cell 1,hB.cell 2,hB.cell 3,hb.os,hb.tape,hb.output,jM hb.size (lZ zy.symm),λk hk=>(Ca k K).trans (hb.block k hk)⟩
def yO{a:Act}{w w1:M}{g:Nat}{ar:Option (nS TL×List Ax)}{s:An}{A:Ending->M->Prop}(hb:jD g w w1)(J:∃cs,nU w1 g cs TT/\cs.size=4)(t:TL)(o:Option kW)(n c:Nat)(z:Int)(N:BK ar s w=A)(hg:w.heap.size=g)(C:a.tmps.getD 6 ku=nG (U (Z g 0 V)))(E:a.tmps.getD 7 ku=Y X z)(hd:a.defers=[])(aa:(∃sub q,ar=U (.node t sub,nW s q)/\z=(q:Nat)/\q<=s.size/\TL.wf t/\oD.om (qM w1 g (Y X t.kind) (Y X t.size) (u o n c) (Y X t.tail)) (λk=>w.heap.size<=k) (u o n c) sub)\/(ar=V/\z= -1)):
  bodyPost jy Tryz.f46 A .ret a (qM w1 g (Y X t.kind) (Y X t.size) (u o n c) (Y X t.tail)):=by
 obtain⟨ae,e1,e2,e3,I⟩:=Io hb J (Y X t.kind) (Y X t.size) (u o n c) (Y X t.tail);refine jO (v:=nJ #[nI #[Y X t.kind,Y X t.size,u o n c,Y X t.tail],Y X z]) ?_ hd ?_
 .rw[lD]at C E
  simp[kF,Tryz.results46,go_sem,ae,e1,e2,e3,C,E]
 .rw[<-N]
  exact⟨t,o,n,c,z,rfl,hg▸I,aa⟩
def wh{w:M}{gr:Nat}(C:∃cs,nU w gr cs TT/\cs.size=4):(∃x,w.cell? (Z gr 0 V)=U x)/\(∃x,w.cell? (Z gr 1 V)=U x)/\(∃x,w.cell? (Z gr 2 V)=U x)/\(∃x,w.cell? (Z gr 3 V)=U x)/\
  w.frozen? (Z gr 0 V)=O/\w.frozen? (Z gr 1 V)=O/\w.frozen? (Z gr 2 V)=O/\w.frozen? (Z gr 3 V)=O:=by
 obtain⟨⟨l⟩,A,E⟩:=C
 match l,E with
 |[x,y,z,ao],_=>exact⟨⟨x,A.cell 0⟩,⟨y,A.cell 1⟩,⟨z,A.cell 2⟩,⟨ao,A.cell 3⟩,A.free 0,A.free 1,A.free 2,A.free 3⟩
structure Oq(w0:M)(gr:Nat)(v:jC)(L:List (qA TL))(t:Nat)(w:M):Prop where
 ql:jD gr w0 w
 res:∃cs,nU w gr cs TT/\cs.size=4
 st:Yn w (gr+1) v t
 own:wQ oD TT w (gr+2) v L
 hlen:L.length<=2000
 ht:t<=2000
 hB:gr+2<=w.heap.size
def Oq.sub{w0 w w':M}{gr t:Nat}{v:jC}{L:List (qA TL)}(h:Oq w0 gr v L t w)(hb:jD w.heap.size w w'):Oq w0 gr v L t w':=by
 obtain⟨cs,A,C⟩:=h.res;exact⟨h.ql.trans (hb.mono (by have:=h.hB;omega)),⟨cs,Below.blk hb A A.lt,C⟩,Below.blk hb h.st (nU.lt h.st),h.own.below hb,h.hlen,h.ht,jM h.hB hb.size⟩
def Oq.more{w0 w:M}{gr t:Nat}{v:jC}{L:List (qA TL)}(h:Oq w0 gr v L t w)(ht:t<2000):Oq w0 gr v L (t+1) (w.setCell (Z (gr+1) 3 V) (Y X ((t:Int)+1))):=by
 obtain⟨cs,A,C⟩:=h.res;have E:pX (gr+1) w (w.setCell (Z (gr+1) 3 V) (Y X ((t:Int)+1))):=(pX.refl _ _).set 3 _;exact⟨h.ql.setCell (p:=(Z (gr+1) 3 V)) nX _,⟨cs,A.setOther nX _,C⟩,h.st.more,h.own.upd E K,h.hlen,K,by simpa [j5]using h.hB⟩
def Oq.grown{w0 w w':M}{gr t:Nat}{v v':jC}{L:List (qA TL)}{y:qA TL}(h:Oq w0 gr v L t w)(hL:L.length<2000)(ho:wQ oD TT w' (gr+2) v' (L++[y]))(hb:jD (gr+2) w w')(hsz:w.heap.size<w'.heap.size):
  Oq w0 gr v' (L++[y]) t (w'.setCell (Z (gr+1) 2 V) v'):=by
 obtain⟨cs,C,E⟩:=h.res;have I:pX (gr+1) w' (w'.setCell (Z (gr+1) 2 V) v'):=(pX.refl _ _).set 2 _;have A:Yn w' (gr+1) v t:=Below.blk hb h.st K;exact⟨(h.ql.trans (hb.mono K)).setCell (p:=(Z (gr+1) 2 V)) nX _,⟨cs,(Below.blk hb C K).setOther nX _,E⟩,A.sub v',ho.upd I K,nY,h.ht,by simp[j5];have:=h.hB;omega⟩
def Oq.c0{w0 w:M}{gr t:Nat}{v:jC}{L:List (qA TL)}(h:Oq w0 gr v L t w):w.cell? (Z (gr+1) 0 V)=U (Y X 5)/\w.cell? (Z (gr+1) 1 V)=U (Y X 0)/\
  w.cell? (Z (gr+1) 2 V)=U v/\w.cell? (Z (gr+1) 3 V)=U (Y X (t:Int))/\w.frozen? (Z (gr+1) 2 V)=O/\w.frozen? (Z (gr+1) 3 V)=O:=by
 have:=h.st;exact⟨nU.cell this 0,nU.cell this 1,nU.cell this 2,nU.cell this 3,nU.free this 2,nU.free this 3⟩
def a7L{pf:List Ax->Option (nS TL×List Ax)}{f t:Nat}{r:List Ax}{sub:List (nS TL)}:pW pf (f+1) (125::r) sub t=U (.node ⟨5,0,t⟩ sub,r):=by simp[pW]
def a7M{pf:List Ax->Option (nS TL×List Ax)}{f t:Nat}{sub:List (nS TL)}:pW pf (f+1) [] sub t=V:=by simp[pW]
def a19{pf:List Ax->Option (nS TL×List Ax)}{f t:Nat}{b:Ax}{r:List Ax}{sub:List (nS TL)}(hb:b≠125)(hs:sub≠[])(hc:b≠44):pW pf (f+1) (b::r) sub t=V:=by
 have:sub.isEmpty=O:=by cases sub<;>simp_all
 simp[pW,hb,this,hc]
def a2a{pf:List Ax->Option (nS TL×List Ax)}{f t:Nat}{b:Ax}{r:List Ax}(hb:b≠125):pW pf (f+1) (b::r) [] t=(mark (b::r) t).bind λq=>(pf q.1).bind λy=>pW pf f y.2 ([]++[y.1]) q.2:=by
 simp[pW,hb]
def a5c{pf:List Ax->Option (nS TL×List Ax)}{f t:Nat}{r:List Ax}{sub:List (nS TL)}(hs:sub≠[]):pW pf (f+1) (44::r) sub t=(mark r t).bind λq=>(pf q.1).bind λy=>pW pf f y.2 (sub++[y.1]) q.2:=by
 have:sub.isEmpty=O:=by cases sub<;>simp_all
 simp[pW,this]
def a5d(D:Nat)(s:An)(p:Nat)(hp:p<s.size)(b:Ax)(hb:s[p]=b):ps (D+1) (nW s p)=
  if b=117 then(yU (nW s (p+1))).bind λq=>if q.1 % 8=0 then U (.node ⟨1,(q.1/8:Nat),0⟩ [],q.2)else V
  else if b=98 then(yU (nW s (p+1))).bind λq=>U (.node ⟨2,q.1,0⟩ [],q.2)
  else if b=115 then(yU (nW s (p+1))).bind λq=>U (.node ⟨3,q.1,0⟩ [],q.2)
  else if b=91 then(ps D (nW s (p+1))).bind λy=>match y.2 with
    |58::r2=>(yU r2).bind λq=>match q.2 with
     |93::r4=>U (.node ⟨4,q.1,0⟩ [y.1],r4)
     |_=>V
    |_=>V
  else if b=123 then pW (ps D) (s.size - p) (nW s (p+1)) [] 0
  else V:=by
 rw[rT hp,hb];simp only[ps];rw[show(nW s (p+1)).length+1=s.size - p by rw[Mq];omega];rfl
def a7N(D:Nat)(s:An)(p:Nat)(hp:s.size<=p):ps (D+1) (nW s p)=V:=by
 rw[sV hp];rfl
def a2b{p:Prop}(h:p:=by
 obtain⟨c0,c1,c2,c3,z2,z3⟩:=F5.c0;obtain⟨q0,q1,q2,q3⟩:=G5.2.1.a4;have HS5:jI (oD.om w5 (λk=>g+2<=k/\(kI oa aq cap).ownBlock≠U k) (u o n c) sub):=H (h4.keep G5.2.2.size (λk hk hq=>⟨K,λe=>by have:=(HOB k e).2;omega⟩) λk hk _=>G5.2.2.block k hk);have HWF:=H h3;have hB5:g+2<=w5.heap.size:=F5.hB;have HOWN:=H F5.own;have a7O:aq<=1000:=K;clear h1 h3 h4 Cq;go_upto_region 40 with(at_builtin;refine yH (S:=oD) Ex hi hz0 hz1 hz2 rfl nT ND rfl (.tmp 181) (.tmp 183) rfl (g+2) (u oa aq cap) L ⟨a,u o n c,sub⟩ w5 _ rfl rfl HOWN rfl (by have:=HM.out;omega) nT hB5 HWF HS5 ?_;intro g2 cap2 w6 hown6 hb6 a2c a7P;have hcc:w6.cell? (Z (g+1) 2 V)=U (u oa aq cap):=(hb6.cell (p:=(Z (g+1) 2 V)) (show g+1<g+2 by omega)).trans c2;have hfz:w6.frozen? (Z (g+1) 2 V)=O:=(hb6.frozen (p:=(Z (g+1) 2 V)) (show g+1<g+2 by omega)).trans z2)
 have F7:=H (F5.grown (by have:=HM.out;omega) hown6 hb6 a2c);generalize w6.setCell (Z (g+1) 2 V) (u (U (Z g2 0 V)) (L.length+1) cap2)=w7 at*;have HTR:jI ((L++[(⟨a,u o n c,sub⟩:qA TL)]).map qA.tree=L.map qA.tree++[.node a sub]):=H (by simp[qA.tree]);have KQ:jI ((L++[(⟨a,u o n c,sub⟩:qA TL)]).length=aq+1):=H (by rw[jK,HM.out];rfl);obtain⟨L2,hL2⟩:∃L2,L++[(⟨a,u o n c,sub⟩:qA TL)]=L2:=⟨_,rfl⟩;rw[hL2]at HTR KQ F7;clear hcc hfz hown6 hb6 a2c a7P c0 c1 c2 c3 z2 z3 q0 q1 q2 q3 HOWN HS5 HWF hL2;go_wp2_with fail;have h3:=KQ.out;refine⟨⟨f,p2,t+1,_,L2,rfl,H F7.out,K,H (by rw[HST.out,SS.out,kr,HPS.out,kr,HTR.out]),K,K,h2⟩,?_⟩;simp only[kC,Int.toNat_natCast];omega):p:=h
def a2d{p:Prop}(h:p:=by
 obtain⟨c0,c1,c2,c3,z2,z3⟩:=F5.c0;obtain⟨q0,q1,q2,q3⟩:=G5.2.1.a4;have HS5:jI (oD.om w5 (λk=>g+2<=k/\(kI oa aq cap).ownBlock≠U k) (u o n c) sub):=H (h4.keep G5.2.2.size (λk hk hq=>⟨K,λe=>by have:=(HOB k e).2;omega⟩) λk hk _=>G5.2.2.block k hk);have HWF:=H h3;have hB5:g+2<=w5.heap.size:=F5.hB;have HOWN:=H F5.own;have a7O:aq<=1000:=K;clear h1 h3 h4 Cq;go_upto_region 40 with(at_builtin;refine yH (S:=oD) Ex hi hz0 hz1 hz2 rfl nT ND rfl (.tmp 181) (.tmp 183) rfl (g+2) (u oa aq cap) L ⟨a,u o n c,sub⟩ w5 _ rfl rfl HOWN rfl (by have:=HM.out;omega) nT hB5 HWF HS5 ?_;intro g2 cap2 w6 hown6 hb6 a2c a7P;have hcc:w6.cell? (Z (g+1) 2 V)=U (u oa aq cap):=(hb6.cell (p:=(Z (g+1) 2 V)) (show g+1<g+2 by omega)).trans c2;have hfz:w6.frozen? (Z (g+1) 2 V)=O:=(hb6.frozen (p:=(Z (g+1) 2 V)) (show g+1<g+2 by omega)).trans z2)
 have F7:=H (F5.grown (by have:=HM.out;omega) hown6 hb6 a2c);generalize w6.setCell (Z (g+1) 2 V) (u (U (Z g2 0 V)) (L.length+1) cap2)=w7 at*;have HTR:jI ((L++[(⟨a,u o n c,sub⟩:qA TL)]).map qA.tree=L.map qA.tree++[.node a sub]):=H (by simp[qA.tree]);have KQ:jI ((L++[(⟨a,u o n c,sub⟩:qA TL)]).length=aq+1):=H (by rw[jK,HM.out];rfl);obtain⟨L2,hL2⟩:∃L2,L++[(⟨a,u o n c,sub⟩:qA TL)]=L2:=⟨_,rfl⟩;rw[hL2]at HTR KQ F7;clear hcc hfz hown6 hb6 a2c a7P c0 c1 c2 c3 z2 z3 q0 q1 q2 q3 HOWN HS5 HWF hL2;go_wp2_with fail;have h3:=KQ.out;refine⟨⟨f,p2,0,_,L2,rfl,H F7.out,K,H (by rw[HST.out,SS.out,kr,HPS.out,kr,HTR.out]),K,K,h2⟩,?_⟩;simp only[kC,Int.toNat_natCast];omega):p:=h
def VN{p:Prop}(h:p:=by
 go_wp2_with fail;rw[oP];exact yO F.ql F.res ⟨0,0,0⟩ V 0 0 (-1) HP hg rfl rfl rfl (.inr ⟨HN.out,rfl⟩)):p:=h
def Ki{p:Prop}(h:p:=by
 have HN:jI (ar=V):=H (by rw[HST.out,SS.out,kr,h1];rfl);obtain⟨⟨x0,r0⟩,⟨x1,r1⟩,⟨x2,r2⟩,⟨x3,r3⟩,y0,y1,y2,y3⟩:=wh F5.res;clear h1 Cq;go_wp2_with fail;rw[oP];exact yO F5.ql F5.res ⟨0,0,0⟩ V 0 0 (-1) HP hg rfl rfl rfl (.inr ⟨HN.out,rfl⟩)):p:=h
def Kj{p:Prop}(h:p:=by
 subst h;have hal:=(jE w4.heap.size w4).alloc (jB _) (nL #[Y X a.kind,Y X a.size,u o n c,Y X a.tail] TT);exact⟨(F3.sub HB4).sub hal,nU.new w4 _ _,hal⟩):p:=h
def TU{p:Prop}(h:p:=by
 clear hout;go_in;go_upto_region 1 with fail;generalize w.alloc (nL #[Y X 0,Y X 0,u V 0 0,Y X 0] TT)=w1 at*;have an:=H (HA _ rfl);clear HA;obtain⟨⟨x0,r0⟩,⟨x1,r1⟩,⟨x2,r2⟩,⟨x3,r3⟩,y0,y1,y2,y3⟩:=wh an.2.1;go_wp2_with fail;rw[oP];exact yO an.1 an.2.1 ⟨0,0,0⟩ V 0 0 (-1) HP hg rfl rfl rfl (.inr ⟨HN.out,rfl⟩)):p:=h
def Gc{p:Prop}(h:p:=by
 go_wp2_with fail;rw[oP];exact yO G3.1 G3.2.1 ⟨0,0,0⟩ V 0 0 (-1) HP hg rfl rfl rfl (.inr ⟨HN.out,rfl⟩)):p:=h
def TV{p:Prop}(h:p:=by
 have d7:At (0<t)=R:=decide_eq_true ht0;have HN:jI (ar=V):=H (by rw[HST.out,Oe.out,AC ht0];rfl);clear ht0;go_wp2_with fail;rw[oP];exact yO F.ql F.res ⟨0,0,0⟩ V 0 0 (-1) HP hg rfl rfl rfl (.inr ⟨HN.out,rfl⟩)):p:=h
def a2e{p:Prop}(h:p:=by
 subst h;have hal:=(jE w.heap.size w).alloc (jB _) (nL #[Y X 0,Y X 0,u V 0 0,Y X 0] TT);have hb1:=nU.new w #[Y X 0,Y X 0,u V 0 0,Y X 0] TT;rw[hg]at hal hb1;exact⟨hal,⟨_,hb1,rfl⟩,nY⟩):p:=h
def Kk{p:Prop}(h:p:=by
 have:=Fw _ _ _ h1;simp only[Mq]at this;omega):p:=h
def X5(s:An)(hs:s.size<=1000):∀(D dep p:Nat)(w:M),dep+D=9->p<=s.size->
  jG jy 46 #[G s,Y X (p:Int),Y X (dep:Int)] w (BK (ps D (nW s p)) s w):=by
 intro D;induction D with
 |zero=>
  intro dep p w hd hp;have dD:At (8<(dep:Int))=R:=nY;obtain⟨g,hg⟩:=og w.heap.size;have HA:jI (∀W,w.alloc (nL #[Y X 0,Y X 0,u V 0 0,Y X 0] TT)=W->jD g w W/\(∃cs,nU W g cs TT/\cs.size=4)/\W.heap.size=g+1):=H λW h=>by
   exact a2e
  obtain⟨ar,aS⟩:=og (ps (0) (nW s p));have bB:=H aS;rw[aS];obtain⟨bQ,aT⟩:=og (BK ar s w);have HP:=H aT;rw[aT];have aU:=H hd;clear aS aT hd;have HN:jI (ar=V):=H (by rw[<-bB.out];rfl);by_cases hout:s.size<=p
  .have bR:At (s.size<=p)=R:=decide_eq_true K
   exact TU
  .have bR:At (s.size<=p)=O:=decide_eq_false K
   exact TU
 |succ D bW=>
  intro dep p w hd hp;have dD:At (8<(dep:Int))=O:=nY;have dE:dep<=8:=K;obtain⟨g,hg⟩:=og w.heap.size;have HA:jI (∀W,w.alloc (nL #[Y X 0,Y X 0,u V 0 0,Y X 0] TT)=W->jD g w W/\(∃cs,nU W g cs TT/\cs.size=4)/\W.heap.size=g+1):=H λW h=>by
   exact a2e
  obtain⟨ar,aS⟩:=og (ps (D+1) (nW s p));have bB:=H aS;rw[aS];obtain⟨bQ,aT⟩:=og (BK ar s w);have HP:=H aT;rw[aT];have aU:=H hd;clear aS aT hd;have bz:=H bW;clear bW;by_cases hout:s.size<=p
  .have HN:jI (ar=V):=H (by rw[<-bB.out,a7N D s p hout])
   have bR:At (s.size<=p)=R:=decide_eq_true K;exact TU
  .have bX:p<s.size:=K
   have bR:At (s.size<=p)=O:=decide_eq_false K;have C:=H (bB.symm.trans (a5d D s p bX s[p] rfl));clear hout bB;have hk:jI (∀c:Ax,s[p]≠c->((s[p].toNat:Int)==(c.toNat:Int))=O):=H λc h=>by
    rw[beq_eq_false_iff_ne];intro aV;exact h (lX.1 K)
   have az:jI (∀c:Ax,s[p]≠c->((s[p].toNat:Int) !=(c.toNat:Int))=R):=H λc h=>by
    rw[bne_iff_ne];intro aV;exact h (lX.1 K)
   go_in;go_upto_region 1 with fail;generalize w.alloc (nL #[Y X 0,Y X 0,u V 0 0,Y X 0] TT)=w1 at*;have an:=H (HA _ rfl);clear HA;obtain⟨⟨x0,r0⟩,⟨x1,r1⟩,⟨x2,r2⟩,⟨x3,r3⟩,y0,y1,y2,y3⟩:=wh an.2.1;obtain⟨q,hq⟩:=og (p+1);have dF:=H hq;have bC:q<=s.size:=K;rw[hq]at C;have e1:(p:Int)+1=q:=K;have bD:=H e1;clear hq e1;have bY:=H (Kg s q w1 hs bC);have aC:jI (jG jy 78 #[G s,Y X ((p:Int)+1)] w1 (ES s q w1)):=H (by rw[bD.out];exact bY);clear bY;by_cases aj:s[p]=117
   .have bE:((s[p].toNat:Int)==117)=R:=by rw[aj];rfl
    have E:=H C.out;rw[AC aj]at E;clear aj C hk az;go_wp2_with fail;refine(aC).mono ?_;rintro e w2 ⟨n,z,rfl,rfl,hn,A⟩;have HN:=H hn;rcases A with⟨q2,h1,rfl,h2,h3⟩|⟨h1,rfl,rfl⟩
    .by_cases bK:n % 8=0
     .have dm:((n:Int) % 8 !=0)=O:=nY
      obtain⟨nd,bN⟩:=og (n/8);have dR:(n:Int)/8=nd:=K;have ae:jI (ar=U (.node ⟨1,(nd:Int),0⟩ [],nW s q2)):=H (by rw[E.out,h1,kr,AC bK,bN]);have bF:nd<=10000000:=K;have bA:=H (jF h2 bF);have dG:(nd:Int)<=10000000:=K;clear h1 bK bN hn bF;go_wp2_with fail;rw[oP];exact yO an.1 an.2.1 ⟨1,(nd:Int),0⟩ V 0 0 (q2:Int) HP hg rfl rfl rfl (.inl ⟨[],q2,ae.out,rfl,bA.1,Kh (by have:=bA.2;omega),Ch _ _⟩)
     .have dm:((n:Int) % 8 !=0)=R:=EX
      have ae:jI (ar=V):=H (by rw[E.out,h1,kr,As bK]);clear h1 bK hn;go_wp2_with fail;rw[oP];exact yO an.1 an.2.1 ⟨0,0,0⟩ V 0 0 (-1) HP hg rfl rfl rfl (.inr ⟨ae.out,rfl⟩)
    .have ae:jI (ar=V):=H (by rw[E.out,h1];rfl)
     clear h1 hn;go_wp2_with fail;rw[oP];exact yO an.1 an.2.1 ⟨1,0,0⟩ V 0 0 (-1) HP hg rfl rfl rfl (.inr ⟨ae.out,rfl⟩)
   have dH:((s[p].toNat:Int)==117)=O:=hk.out 117 aj;have aL:=H C.out;rw[As aj]at aL;clear aj C;have C:=aL;clear aL;by_cases aD:s[p]=98
   .have bE:((s[p].toNat:Int)==98)=R:=by rw[aD];rfl
    have E:=H C.out;rw[AC aD]at E;clear aD C hk az;go_wp2_with fail;refine(aC).mono ?_;rintro e w2 ⟨n,z,rfl,rfl,hn,A⟩;have HN:=H hn;rcases A with⟨q2,h1,rfl,h2,h3⟩|⟨h1,rfl,rfl⟩
    .have ae:jI (ar=U (.node ⟨2,(n:Int),0⟩ [],nW s q2)):=H (by rw[E.out,h1];rfl)
     have bA:=H h2;clear h1 hn;go_wp2_with fail;rw[oP];exact yO an.1 an.2.1 ⟨2,(n:Int),0⟩ V 0 0 (q2:Int) HP hg rfl rfl rfl (.inl ⟨[],q2,ae.out,rfl,bA.out,Kh (by have:=HN.out;omega),Ch _ _⟩)
    .have ae:jI (ar=V):=H (by rw[E.out,h1];rfl)
     clear h1 hn;go_wp2_with fail;rw[oP];exact yO an.1 an.2.1 ⟨2,0,0⟩ V 0 0 (-1) HP hg rfl rfl rfl (.inr ⟨ae.out,rfl⟩)
   have dS:((s[p].toNat:Int)==98)=O:=hk.out 98 aD;have aA:=H C.out;rw[As aD]at aA;clear aD C;have C:=aA;clear aA;by_cases ak:s[p]=115
   .have bE:((s[p].toNat:Int)==115)=R:=by rw[ak];rfl
    have E:=H C.out;rw[AC ak]at E;clear ak C hk az;go_wp2_with fail;refine(aC).mono ?_;rintro e w2 ⟨n,z,rfl,rfl,hn,A⟩;have HN:=H hn;rcases A with⟨q2,h1,rfl,h2,h3⟩|⟨h1,rfl,rfl⟩
    .have ae:jI (ar=U (.node ⟨3,(n:Int),0⟩ [],nW s q2)):=H (by rw[E.out,h1];rfl)
     have bA:=H h2;clear h1 hn;go_wp2_with fail;rw[oP];exact yO an.1 an.2.1 ⟨3,(n:Int),0⟩ V 0 0 (q2:Int) HP hg rfl rfl rfl (.inl ⟨[],q2,ae.out,rfl,bA.out,Kh (by have:=HN.out;omega),Ch _ _⟩)
    .have ae:jI (ar=V):=H (by rw[E.out,h1];rfl)
     clear h1 hn;go_wp2_with fail;rw[oP];exact yO an.1 an.2.1 ⟨3,0,0⟩ V 0 0 (-1) HP hg rfl rfl rfl (.inr ⟨ae.out,rfl⟩)
   have dI:((s[p].toNat:Int)==115)=O:=hk.out 115 ak;have aM:=H C.out;rw[As ak]at aM;clear ak C;have C:=aM;clear aM;by_cases aF:s[p]=91
   .have bE:((s[p].toNat:Int)==91)=R:=by rw[aF];rfl
    have E:=H C.out;rw[AC aF]at E;have af:jI (jG jy 46 #[G s,Y X ((p:Int)+1),Y X ((dep:Int)+1)] w1 (BK (ps D (nW s q)) s w1)):=H (by rw[bD.out];exact bz (dep+1) q w1 (by have:=aU.out;omega) bC);clear aF C hk az aC;go_wp2_with fail;refine(af).mono ?_;rintro e w2 ⟨a,o,n,c,z,rfl,ag,A⟩;have hz1:=an.2.2;have aO:jI (∀W,w2.alloc (nL #[Y X a.kind,Y X a.size,u o n c,Y X a.tail] TT)=W->jD g w W/\(∃cs,nU W g cs TT/\cs.size=4)/\nU W w2.heap.size #[Y X a.kind,Y X a.size,u o n c,Y X a.tail] TT/\jD w2.heap.size w2 W):=H λW h=>by
     subst h;have hal:=(jE w2.heap.size w2).alloc (jB _) (nL #[Y X a.kind,Y X a.size,u o n c,Y X a.tail] TT);obtain⟨cs,h1,h2⟩:=an.2.1;have h3:jD g w w2:=an.1.trans (ag.mono K);exact⟨h3.trans (hal.mono (by have:=ag.size;omega)),⟨cs,Below.blk hal (Below.blk ag h1 K) (by have:=ag.size;omega),h2⟩,nU.new w2 _ _,hal⟩
    have Cq:=H A;have hz2:g+1<=w2.heap.size:=by have:=ag.size;omega
    clear A ag af x0 r0 x1 r1 x2 r2 x3 r3 y0 y1 y2 y3;go_upto_region 17 with fail;generalize w2.alloc (nL #[Y X a.kind,Y X a.size,u o n c,Y X a.tail] TT)=w3 at*;have G3:=H (aO _ rfl);obtain⟨⟨x0,r0⟩,⟨x1,r1⟩,⟨x2,r2⟩,⟨x3,r3⟩,y0,y1,y2,y3⟩:=wh G3.2.1;obtain⟨dX,dY,dZ,ed⟩:=G3.2.2.1.a4;have dU:g<w3.heap.size:=by have:=G3.2.2.2.size;omega
    clear aO;rcases Cq.out with⟨sub,q2,h1,rfl,h2,h3,h4⟩|⟨h1,rfl⟩
    .have aP:=H h1
     have bG:jI (TL.wf a/\oD.om w3 (λk=>g+1<=k) (u o n c) sub):=H ⟨h3,h4.keep G3.2.2.2.size (λk _ hk=>by omega) λk hk _=>G3.2.2.2.block k hk⟩;have dV:At ((q2:Int)<0)=O:=nX;clear h1 h3 h4 Cq;by_cases he:s.size<=q2
     .have bS:At (s.size<=q2)=R:=decide_eq_true he
      have HN:jI (ar=V):=H (by rw[E.out,aP.out];simp only[kr,sV he]);clear he;exact Gc
     .have hlt:q2<s.size:=K
      have bS:At (s.size<=q2)=O:=decide_eq_false he;have aX:=H (rT hlt);clear he;by_cases aG:s[q2]=58
      .have l2:((s[q2].toNat:Int) !=58)=O:=by rw[aG];rfl
       have aH:jI (ar=(yU (nW s (q2+1))).bind λq=>match q.2 with
         |93::r4=>U (.node ⟨4,q.1,0⟩ [.node a sub],r4)
         |_=>V):=H (by rw[E.out,aP.out];simp only[kr,aX.out,aG])
       have bZ:jI (jG jy 78 #[G s,Y X ((q2:Int)+1)] w3 (ES s (q2+1) w3)):=H (Kg s (q2+1) w3 hs K);clear aG E aP aX;go_wp2_with fail;refine(bZ).mono ?_;rintro e w4 ⟨aW,z2,rfl,rfl,aQ,bL⟩;have cz:=H aQ;rcases bL with⟨q3,bH,rfl,g2,g3⟩|⟨bH,rfl,rfl⟩
       .have aR:=H bH
        clear bH;by_cases he:s.size<=q3
        .have d4:At (s.size<=q3)=R:=decide_eq_true he
         have HN:jI (ar=V):=H (by rw[aH.out,aR.out];simp only[kr,sV he]);clear he aQ;exact Gc
        .have bT:q3<s.size:=K
         have d4:At (s.size<=q3)=O:=decide_eq_false he;have aY:=H (rT bT);clear he;by_cases aI:s[q3]=93
         .have bI:((s[q3].toNat:Int) !=93)=O:=by rw[aI];rfl
          have ae:jI (ar=U (.node ⟨4,(aW:Int),0⟩ [.node a sub],nW s (q3+1))):=H (by rw[aH.out,aR.out];simp only[kr,aY.out,aI]);clear aI aH aY aR aQ;have dJ:q3<=1000:=K;go_wp2_with fail;rw[oP];obtain⟨dK,e1,e2,e3,cK⟩:=Io G3.1 G3.2.1 (Y X 4) (Y X (aW:Int)) (u (U (Z w4.heap.size 0 V)) 1 1) (Y X 0);have aN:=xE (g:=g) (a:=Y X 4) (b:=Y X (aW:Int)) (c:=u (U (Z w4.heap.size 0 V)) 1 1) (d:=Y X 0) bG.2 (λk hk=>by omega);have cZ:=zy (w:=w4) (g:=g) (a:=Y X 4) (b:=Y X (aW:Int)) (c:=u (U (Z w4.heap.size 0 V)) 1 1) (d:=Y X 0);generalize qM w4 g (Y X 4) (Y X (aW:Int)) (u (U (Z w4.heap.size 0 V)) 1 1) (Y X 0)=w5 at*;have hal:=(jE w5.heap.size w5).alloc (jB _) (nL #[Y X a.kind,Y X a.size,u o n c,Y X a.tail] TT);have bO:=nU.new w5 #[Y X a.kind,Y X a.size,u o n c,Y X a.tail] TT;rw[cZ]at bO;have bM:=aN.below hal;have df:=(hal.cell (p:=(Z g 0 V)) (show g<w5.heap.size by omega)).trans dK;have dL:=(hal.cell (p:=(Z g 1 V)) (show g<w5.heap.size by omega)).trans e1;have dM:=(hal.cell (p:=(Z g 2 V)) (show g<w5.heap.size by omega)).trans e2;have dN:=(hal.cell (p:=(Z g 3 V)) (show g<w5.heap.size by omega)).trans e3;have bU:=cK.trans (hal.mono K);generalize w5.alloc (nL #[Y X a.kind,Y X a.size,u o n c,Y X a.tail] TT)=w6 at*;refine jO (v:=nJ #[nI #[Y X 4,Y X (aW:Int),u (U (Z w4.heap.size 0 V)) 1 1,Y X 0],Y X ((q3:Int)+1)]) (by simp[kF,Tryz.results46,go_sem,df,dL,dM,dN]) rfl ?_;rw[<-HP.out];exact⟨⟨4,(aW:Int),0⟩,_,1,1,_,rfl,hg▸bU,.inl ⟨_,q3+1,ae.out,nX,K,Kh (by have:=cz.out;omega),(Qn (Q:=λk=>g+1<=k) bO bG.1 bM K).keep (jB _) (λk _ hk=>by omega) λ_ _ _=>rfl⟩⟩
         .have bI:((s[q3].toNat:Int) !=93)=R:=by rw[bne_iff_ne];intro aV;exact aI (lX.1 (by have:(93:Ax).toNat=93:=rfl;omega))
          have HN:jI (ar=V):=H (by
           rw[aH.out,aR.out];simp only[kr,aY.out];split;.rename_i r4 e4;exact absurd (List.cons.inj e4).1 aI
           .rfl)
          clear aI aH aY aR aQ;exact Gc
       .have HN:jI (ar=V):=H (by rw[aH.out,bH];rfl)
        clear bH aQ;exact Gc
      .have l2:((s[q2].toNat:Int) !=58)=R:=by rw[bne_iff_ne];intro aV;exact aG (lX.1 (by have:(58:Ax).toNat=58:=rfl;omega))
       have HN:jI (ar=V):=H (by
        rw[E.out,aP.out];simp only[kr,aX.out];split;.rename_i r4 e4;exact absurd (List.cons.inj e4).1 aG
        .rfl)
       clear aG E aP aX;exact Gc
    .have HN:jI (ar=V):=H (by rw[E.out,h1];rfl)
     clear h1 Cq;exact Gc
   have dW:((s[p].toNat:Int)==91)=O:=hk.out 91 aF;have aB:=H C.out;rw[As aF]at aB;clear aF C;have C:=aB;clear aB;by_cases au:s[p]=123
   .have bE:((s[p].toNat:Int) !=123)=O:=by rw[au];rfl
    have E:=H C.out;rw[AC au]at E;clear au C hk az aC;obtain⟨df,hi,hz0,hz1,hz2⟩:=info_parts Vl;have aO:jI (∀W,w1.alloc (nL #[Y X 5,Y X 0,u V 0 0,Y X 0] TT)=W->Oq w g (u V 0 0) [] 0 W):=H λW h=>by
     subst h;have hz1:=an.2.2;have hal:=(jE w1.heap.size w1).alloc (jB _) (nL #[Y X 5,Y X 0,u V 0 0,Y X 0] TT);have ag:=nU.new w1 #[Y X 5,Y X 0,u V 0 0,Y X 0] TT;obtain⟨cs,h1,h2⟩:=an.2.1;rw[hz1]at ag;exact⟨an.1.trans (hal.mono K),⟨cs,Below.blk hal h1 K,h2⟩,ag,wQ.nil _ _ _ _,nX,K,nY⟩
    have hz1:=an.2.2;clear x0 r0 x1 r1 x2 r2 x3 r3 y0 y1 y2 y3;go_wp2_with fail;have dh:=H (aO _ rfl);generalize w1.alloc (nL #[Y X 5,Y X 0,u V 0 0,Y X 0] TT)=w2 at*;clear aO an hz1;go_loopw [1,16,17] (λiv _ _ dO=>∃(f k t:Nat) (v:jC) (L:List (qA TL)),iv=Y X (k:Nat)/\jI (Oq w g v L t dO)/\s.size - k<f/\jI (ar=pW (ps D) f (nW s k) (L.map qA.tree) t)/\L.length<=k/\t<=L.length/\k<=s.size) (λiv _ _ _=>s.size -(kC iv).toNat);case atStart=>exact⟨s.size - p,q,0,u V 0 0,[],by rw[bD.out],H dh.out,by have:=dF.out;omega,H (by rw[E.out];rfl),nX,nX,bC⟩
    case round=>
     obtain⟨f,k,t,v,L,rfl,F,ek,ax,dw,dx,dz⟩:=hrel;obtain⟨f,rfl⟩:∃dP,f=dP+1:=⟨f - 1,K⟩;obtain⟨oa,cap,rfl⟩:=F.own.slice;obtain⟨c0,c1,c2,c3,z2,z3⟩:=F.c0;obtain⟨⟨x0,r0⟩,⟨x1,r1⟩,⟨x2,r2⟩,⟨x3,r3⟩,y0,y1,y2,y3⟩:=wh F.res;obtain⟨aq,bV⟩:=og L.length;have HM:=H bV;rw[bV]at dw dx F c2;clear bV dh E;by_cases he:s.size<=k
     .have bS:At (k<s.size)=O:=decide_eq_false K
      have d4:At (s.size<=k)=R:=decide_eq_true he;have HN:jI (ar=V):=H (by rw[ax.out,sV he,a7M]);clear he;exact VN
     have hlt:k<s.size:=K;have bS:At (k<s.size)=R:=decide_eq_true hlt;have aZ:=H (rT hlt);by_cases av:s[k]=125
     .have dQ:((s[k].toNat:Int) !=125)=O:=by rw[av];rfl
      have d4:At (s.size<=k)=O:=decide_eq_false he;have ae:jI (ar=U (.node ⟨5,0,(t:Int)⟩ (L.map qA.tree),nW s (k+1))):=H (by rw[ax.out,aZ.out,av,a7L]);clear he av;have aN:=F.own.subs;have dA:=H aN;clear aN;go_wp2_with fail;rw[oP];exact yO F.ql F.res ⟨5,0,(t:Int)⟩ oa aq cap ((k:Int)+1) HP hg rfl rfl rfl (.inl ⟨L.map qA.tree,k+1,ae.out,nX,K,Kh K,(xE dA (λk hk=>by omega)).keep (jB _) (λk _ hk=>by omega) λ_ _ _=>rfl⟩)
     have dQ:((s[k].toNat:Int) !=125)=R:=by rw[bne_iff_ne];intro aV;exact av (lX.1 (by have:(125:Ax).toNat=125:=rfl;omega))
     have bP:=H av;clear he av;by_cases h0:aq=0
     .have d5:At (0<aq)=O:=decide_eq_false K
      have HST:jI (ar=(mark (nW s k) t).bind λq=>(ps D q.1).bind λy=>pW (ps D) f y.2 (L.map qA.tree++[y.1]) q.2):=H (by
       have e:L=[]:=mh.1 (HM.trans h0);subst e;rw[ax.out,aZ.out];exact a2a bP)
      have aJ:k<=s.size:=dz;have dB:k<=k:=jB _;clear ax h0;have ay:jI (oZ 63 (nW s (k))=R->mark (nW s (k)) t=U (nW s (k+1),t+1)):=H λh=>JN aJ h
      have ah:jI (oZ 63 (nW s (k))=O->mark (nW s (k)) t=if 0<t then V else U (nW s (k),t)):=H λh=>NC h
      have bJ:(∃h:k<s.size,jI (s[k]=63))\/(k=s.size)\/(∃h:k<s.size,jI (s[k]≠63)):=by
       rcases kQ (k) s.size with h|h
       .by_cases h2:s[k]=63
        .exact .inl ⟨h,h2⟩
        .exact .inr (.inr ⟨h,h2⟩)
       .exact .inr (.inl K)
      rcases bJ with⟨aa,I⟩|aa|⟨aa,I⟩
      .have d6:At (k<s.size)=R:=decide_eq_true aa
       have bI:((s[k].toNat:Int)==63)=R:=by rw[I.out];rfl
       have SS:=H (ay (by rw[rT aa,I.out];rfl));have ai:k+1<=s.size:=K;clear ay ah I;go_upto_region 33 with fail;have F3:=H (F.more K);generalize wr.setCell (Z (g+1) 3 V) (Y X ((t:Int)+1))=w3 at*;clear c0 c1 c2 c3 z2 z3 x0 r0 x1 r1 x2 r2 x3 r3 y0 y1 y2 y3 F;have af:jI (jG jy 46 #[G s,Y X ((k:Int)+1),Y X ((dep:Int)+1)] w3 (BK (ps D (nW s (k+1))) s w3)):=H (bz (dep+1) (k+1) w3 (by have:=aU.out;omega) ai);go_wp2_with fail;refine(af).mono ?_;rintro e w4 ⟨a,o,n,c,z,rfl,J,A⟩;have HB4:=H J;have bg:g+2<=w3.heap.size:=F3.hB;have HOB:=H F3.own.block;have N:jI (∀W,w4.alloc (nL #[Y X a.kind,Y X a.size,u o n c,Y X a.tail] TT)=W->Oq w g (u oa aq cap) L (t+1) W/\nU W w4.heap.size #[Y X a.kind,Y X a.size,u o n c,Y X a.tail] TT/\jD w4.heap.size w4 W):=H λW h=>by
        exact Kj
       have Cq:=H A;clear A J af;go_upto_region 37 with fail;generalize w4.alloc (nL #[Y X a.kind,Y X a.size,u o n c,Y X a.tail] TT)=w5 at*;have G5:=H (N _ rfl);have F5:=H G5.1;clear N;rcases Cq.out with⟨sub,p2,h1,rfl,h2,h3,h4⟩|⟨h1,rfl⟩
       .have HPS:=H h1
        have bq:k+1<p2:=by
         exact Kk
        exact a2b
       .exact Ki
      .omega
      .have d6:At (k<s.size)=R:=decide_eq_true aa
       have bI:((s[k].toNat:Int)==63)=O:=by rw[beq_eq_false_iff_ne];intro aV;exact I (lX.1 (by have:(63:Ax).toNat=63:=rfl;omega))
       have Oe:=H (ah (by rw[rT aa];simp[oZ,I.out]));clear ay ah I;by_cases ht0:0<t;.exact TV
       .obtain rfl:t=0:=K
        have SS:jI (mark (nW s (k)) 0=U (nW s (k),0)):=H (by rw[Oe.out];rfl);have F3:=H F.out;have ai:k<=s.size:=aJ;clear ht0 Oe;go_upto_region 36 with fail;generalize wr=w3 at*;clear c0 c1 c2 c3 z2 z3 x0 r0 x1 r1 x2 r2 x3 r3 y0 y1 y2 y3 F;have af:jI (jG jy 46 #[G s,Y X ((k:Int)),Y X ((dep:Int)+1)] w3 (BK (ps D (nW s (k))) s w3)):=H (bz (dep+1) (k) w3 (by have:=aU.out;omega) ai);go_wp2_with fail;refine(af).mono ?_;rintro e w4 ⟨a,o,n,c,z,rfl,J,A⟩;have HB4:=H J;have bg:g+2<=w3.heap.size:=F3.hB;have HOB:=H F3.own.block;have N:jI (∀W,w4.alloc (nL #[Y X a.kind,Y X a.size,u o n c,Y X a.tail] TT)=W->Oq w g (u oa aq cap) L (0) W/\nU W w4.heap.size #[Y X a.kind,Y X a.size,u o n c,Y X a.tail] TT/\jD w4.heap.size w4 W):=H λW h=>by
         exact Kj
        have Cq:=H A;clear A J af;go_upto_region 37 with fail;generalize w4.alloc (nL #[Y X a.kind,Y X a.size,u o n c,Y X a.tail] TT)=w5 at*;have G5:=H (N _ rfl);have F5:=H G5.1;clear N;rcases Cq.out with⟨sub,p2,h1,rfl,h2,h3,h4⟩|⟨h1,rfl⟩
        .have HPS:=H h1
         have bq:k<p2:=by
          exact Kk
         exact a2d
        .exact Ki
     .have d5:At (0<aq)=R:=decide_eq_true K
      have bu:L.map qA.tree≠[]:=by
       intro e;have:=congrArg List.length e;rw[List.length_map,HM.out]at this;exact h0 (by simpa using this)
      by_cases aK:s[k]=44
      .have l2:((s[k].toNat:Int) !=44)=O:=by rw[aK];rfl
       have HST:jI (ar=(mark (nW s (k+1)) t).bind λq=>(ps D q.1).bind λy=>pW (ps D) f y.2 (L.map qA.tree++[y.1]) q.2):=H (by
        rw[ax.out,aZ.out,aK];exact a5c bu)
       have aJ:k+1<=s.size:=K;have dB:k<=k+1:=K;clear ax h0 aK bu;have ay:jI (oZ 63 (nW s (k+1))=R->mark (nW s (k+1)) t=U (nW s (k+1+1),t+1)):=H λh=>JN aJ h
       have ah:jI (oZ 63 (nW s (k+1))=O->mark (nW s (k+1)) t=if 0<t then V else U (nW s (k+1),t)):=H λh=>NC h
       have bJ:(∃h:k+1<s.size,jI (s[k+1]=63))\/(k+1=s.size)\/(∃h:k+1<s.size,jI (s[k+1]≠63)):=by
        rcases kQ (k+1) s.size with h|h
        .by_cases h2:s[k+1]=63
         .exact .inl ⟨h,h2⟩
         .exact .inr (.inr ⟨h,h2⟩)
        .exact .inr (.inl K)
       rcases bJ with⟨aa,I⟩|aa|⟨aa,I⟩
       .have d6:At (k+1<s.size)=R:=decide_eq_true aa
        have bI:((s[k+1].toNat:Int)==63)=R:=by rw[I.out];rfl
        have SS:=H (ay (by rw[rT aa,I.out];rfl));have ai:k+1+1<=s.size:=K;clear ay ah I;go_upto_region 33 with fail;have F3:=H (F.more K);generalize wr.setCell (Z (g+1) 3 V) (Y X ((t:Int)+1))=w3 at*;clear c0 c1 c2 c3 z2 z3 x0 r0 x1 r1 x2 r2 x3 r3 y0 y1 y2 y3 F;have af:jI (jG jy 46 #[G s,Y X (((k:Int)+1)+1),Y X ((dep:Int)+1)] w3 (BK (ps D (nW s (k+1+1))) s w3)):=H (bz (dep+1) (k+1+1) w3 (by have:=aU.out;omega) ai);go_wp2_with fail;refine(af).mono ?_;rintro e w4 ⟨a,o,n,c,z,rfl,J,A⟩;have HB4:=H J;have bg:g+2<=w3.heap.size:=F3.hB;have HOB:=H F3.own.block;have N:jI (∀W,w4.alloc (nL #[Y X a.kind,Y X a.size,u o n c,Y X a.tail] TT)=W->Oq w g (u oa aq cap) L (t+1) W/\nU W w4.heap.size #[Y X a.kind,Y X a.size,u o n c,Y X a.tail] TT/\jD w4.heap.size w4 W):=H λW h=>by
         exact Kj
        have Cq:=H A;clear A J af;go_upto_region 37 with fail;generalize w4.alloc (nL #[Y X a.kind,Y X a.size,u o n c,Y X a.tail] TT)=w5 at*;have G5:=H (N _ rfl);have F5:=H G5.1;clear N;rcases Cq.out with⟨sub,p2,h1,rfl,h2,h3,h4⟩|⟨h1,rfl⟩
        .have HPS:=H h1
         have bq:k+1+1<p2:=by
          exact Kk
         exact a2b
        .exact Ki
       .have d6:At (k+1<s.size)=O:=decide_eq_false K
        have Oe:=H (ah (by rw[sV K];rfl));clear ay ah;by_cases ht0:0<t;.exact TV
        .obtain rfl:t=0:=K
         have SS:jI (mark (nW s (k+1)) 0=U (nW s (k+1),0)):=H (by rw[Oe.out];rfl);have F3:=H F.out;have ai:k+1<=s.size:=aJ;clear ht0 Oe;go_upto_region 36 with fail;generalize wr=w3 at*;clear c0 c1 c2 c3 z2 z3 x0 r0 x1 r1 x2 r2 x3 r3 y0 y1 y2 y3 F;have af:jI (jG jy 46 #[G s,Y X (((k:Int)+1)),Y X ((dep:Int)+1)] w3 (BK (ps D (nW s (k+1))) s w3)):=H (bz (dep+1) (k+1) w3 (by have:=aU.out;omega) ai);go_wp2_with fail;refine(af).mono ?_;rintro e w4 ⟨a,o,n,c,z,rfl,J,A⟩;have HB4:=H J;have bg:g+2<=w3.heap.size:=F3.hB;have HOB:=H F3.own.block;have N:jI (∀W,w4.alloc (nL #[Y X a.kind,Y X a.size,u o n c,Y X a.tail] TT)=W->Oq w g (u oa aq cap) L (0) W/\nU W w4.heap.size #[Y X a.kind,Y X a.size,u o n c,Y X a.tail] TT/\jD w4.heap.size w4 W):=H λW h=>by
          exact Kj
         have Cq:=H A;clear A J af;go_upto_region 37 with fail;generalize w4.alloc (nL #[Y X a.kind,Y X a.size,u o n c,Y X a.tail] TT)=w5 at*;have G5:=H (N _ rfl);have F5:=H G5.1;clear N;rcases Cq.out with⟨sub,p2,h1,rfl,h2,h3,h4⟩|⟨h1,rfl⟩
         .have HPS:=H h1
          have bq:k+1<p2:=by
           exact Kk
          exfalso;omega
         .exact Ki
       .have d6:At (k+1<s.size)=R:=decide_eq_true aa
        have bI:((s[k+1].toNat:Int)==63)=O:=by rw[beq_eq_false_iff_ne];intro aV;exact I (lX.1 (by have:(63:Ax).toNat=63:=rfl;omega))
        have Oe:=H (ah (by rw[rT aa];simp[oZ,I.out]));clear ay ah I;by_cases ht0:0<t;.exact TV
        .obtain rfl:t=0:=K
         have SS:jI (mark (nW s (k+1)) 0=U (nW s (k+1),0)):=H (by rw[Oe.out];rfl);have F3:=H F.out;have ai:k+1<=s.size:=aJ;clear ht0 Oe;go_upto_region 36 with fail;generalize wr=w3 at*;clear c0 c1 c2 c3 z2 z3 x0 r0 x1 r1 x2 r2 x3 r3 y0 y1 y2 y3 F;have af:jI (jG jy 46 #[G s,Y X (((k:Int)+1)),Y X ((dep:Int)+1)] w3 (BK (ps D (nW s (k+1))) s w3)):=H (bz (dep+1) (k+1) w3 (by have:=aU.out;omega) ai);go_wp2_with fail;refine(af).mono ?_;rintro e w4 ⟨a,o,n,c,z,rfl,J,A⟩;have HB4:=H J;have bg:g+2<=w3.heap.size:=F3.hB;have HOB:=H F3.own.block;have N:jI (∀W,w4.alloc (nL #[Y X a.kind,Y X a.size,u o n c,Y X a.tail] TT)=W->Oq w g (u oa aq cap) L (0) W/\nU W w4.heap.size #[Y X a.kind,Y X a.size,u o n c,Y X a.tail] TT/\jD w4.heap.size w4 W):=H λW h=>by
          exact Kj
         have Cq:=H A;clear A J af;go_upto_region 37 with fail;generalize w4.alloc (nL #[Y X a.kind,Y X a.size,u o n c,Y X a.tail] TT)=w5 at*;have G5:=H (N _ rfl);have F5:=H G5.1;clear N;rcases Cq.out with⟨sub,p2,h1,rfl,h2,h3,h4⟩|⟨h1,rfl⟩
         .have HPS:=H h1
          have bq:k+1<p2:=by
           exact Kk
          exact a2d
         .exact Ki
      .have l2:((s[k].toNat:Int) !=44)=R:=by rw[bne_iff_ne];intro aV;exact aK (lX.1 (by have:(44:Ax).toNat=44:=rfl;omega))
       have HN:jI (ar=V):=H (by rw[ax.out,aZ.out,a19 bP.out bu aK]);clear ax h0 aK bu;exact VN
   .have bE:((s[p].toNat:Int) !=123)=R:=by
     have:=az.out 123 au;exact this
    have E:=H C.out;rw[As au]at E;clear au C hk az aC;go_wp2_with fail;rw[oP];exact yO an.1 an.2.1 ⟨0,0,0⟩ V 0 0 (-1) HP hg rfl rfl rfl (.inr ⟨E.out,rfl⟩)
def QS(l:List Ax)(w:M)(e:Ending)(w':M):Prop:=
 ∃(a:TL) (o:Option kW) (n c:Nat) (er:Int) (sub:List (nS TL)),e=nK (nJ #[nI #[Y X a.kind,Y X a.size,u o n c,Y X a.tail],Y X er])/\jD w.heap.size w w'/\TL.wf a/\o6 w' (u o n c) sub/\
  (Dr l=U (.node a sub)/\er=0\/Dr l=V/\er=3/\a=⟨0,0,0⟩/\sub=[])
def TW{l:List Ax}(h:ps 8 l=V):Dr l=V:=by unfold Dr;rw[h]
def TY{l r:List Ax}(h:ps 8 l=U (x,r))(A:r≠[]):Dr l=V:=by
 unfold Dr;rw[h];cases r with
 |nil=>exact absurd rfl A
 |cons _ _=>rfl
def X6{l:List Ax}(h:ps 8 l=U (x,[])):Dr l=if qc x then U x else V:=by unfold Dr;rw[h]
def QT{pf:List Ax->Option (nS TL×List Ax)}(h:∀l y,pf l=U y->y.1.count+y.2.length<=l.length):
  ∀(g:Nat)(l:List Ax)(sub:List (nS TL))(tail:Nat)(y:nS TL×List Ax),pW pf g l sub tail=U y->y.1.count+y.2.length<=l.length+nS.oz sub:=by
 intro g;induction g with
 |zero=>intro l sub tail y hy;simp[pW]at hy
 |succ g C=>
  intro l sub tail y hy;cases l with
  |nil=>simp[pW]at hy
  |cons b r=>
   simp only[pW]at hy;split at hy
   .cases hy
    simp only[nS.count,j4];omega
   .simp only[kg]at hy
    obtain⟨E,A,q,I,x,J,N⟩:=hy;have aa:=C _ _ _ _ N;have a2:=h _ _ J;have a3:=Bf I;have a4:E.length<=(b::r).length:=by
     split at A;.cases A;exact jB _
     .split at A
      .cases A;simp
      .cases A
    simp only[nS.sU,nS.oz]at aa;omega
def VO{p:Prop}(h:p:=by
 simp only[kg]at h;obtain⟨q,h1,h2⟩:=h;have:=tQ h1;cases h2;simp[nS.count,nS.oz];omega):p:=h
def a2f:∀(d:Nat)(l:List Ax)(y:nS TL×List Ax),ps d l=U y->y.1.count+y.2.length<=l.length:=by
 intro d;induction d with
 |zero=>intro l y h;simp[ps]at h
 |succ d C=>
  intro l y h;cases l with
  |nil=>simp[ps]at h
  |cons b r=>
   simp only[ps]at h;split at h
   .simp only[kg]at h
    obtain⟨q,h1,h2⟩:=h;have:=tQ h1;split at h2;.cases h2;simp[nS.count,nS.oz];omega
    .cases h2
   split at h;.exact VO
   split at h;.exact VO
   split at h
   .simp only[kg]at h
    obtain⟨x,h1,h2⟩:=h;have E:=C _ _ h1;split at h2
    .rename_i r2 e
     simp only[kg]at h2;obtain⟨q,I,A⟩:=h2;have a2:=tQ I;rw[e]at E;split at A
     .rename_i r4 e4
      cases A;rw[e4]at a2;simp only[j4,nS.count,nS.oz]at E a2|-;omega
     .cases A
    .cases h2
   split at h
   .have:=QT C _ _ _ _ _ h
    simp only[j4,nS.oz]at this|-;omega
   .cases h
def TZ{p:Prop}(h:p:=by
 refine jO (v:=nJ #[nI #[Y X 0,Y X 0,u V 0 0,Y X 0],Y X 3]) (by simp[kF,Tryz.results21,go_sem,e0,e1,e2,e3]) rfl ?_;exact hpost):p:=h
def a5e(s:An)(w:M)(hs:s.size<=1000):
  jG jy 21 #[G s] w (QS s.data.toList w):=by
 obtain⟨g,hg⟩:=og w.heap.size;have aU:jI (∀W,w.alloc (nL #[Y X 0,Y X 0,u V 0 0,Y X 0] TT)=W->jD g w W/\nU W g #[Y X 0,Y X 0,u V 0 0,Y X 0] TT/\W.heap.size=g+1):=H λW h=>by
  subst h;have aD:=(jE w.heap.size w).alloc (jB _) (nL #[Y X 0,Y X 0,u V 0 0,Y X 0] TT);have aF:=nU.new w #[Y X 0,Y X 0,u V 0 0,Y X 0] TT;rw[hg]at aD aF;exact⟨aD,aF,nY⟩
 obtain⟨aL,aM⟩:=og (QS s.data.toList w);have aV:=H aM;rw[aM];clear aM;go_in;go_upto_region 1 with fail;generalize w.alloc (nL #[Y X 0,Y X 0,u V 0 0,Y X 0] TT)=w1 at*;have af:=H (aU _ rfl);have aW:jI (jG jy 46 #[G s,Y X 0,Y X 1] w1 (BK (ps 8 (nW s 0)) s w1)):=H (X5 s hs 8 1 0 w1 rfl (ko _));clear aU;go_wp2_with fail;refine(aW).mono ?_;rintro e w2 ⟨a,o,n,c,z,rfl,ag,ai⟩;have bq:g+1<=w2.heap.size:=by have:=ag.size;have:=af.2.2;omega
 have aG:jI (jD g w w2/\nU w2 g #[Y X 0,Y X 0,u V 0 0,Y X 0] TT):=H ⟨af.1.trans (ag.mono (by have:=af.2.2;omega)),Below.blk ag af.2.1 af.2.1.lt⟩;have C:jI ((∃sub q,ps 8 s.data.toList=U (.node a sub,nW s q)/\z=(q:Nat)/\q<=s.size/\TL.wf a/\oD.om w2 (λk=>g+1<=k) (u o n c) sub)\/(ps 8 s.data.toList=V/\z= -1)):=H (by
  rcases ai with⟨sub,q,E,bu,aN,aj,ak⟩|h
  .exact .inl ⟨sub,q,E,bu,aN,aj,ak.keep (jB _) (λk _ hk=>by have:=af.2.2;omega) λ_ _ _=>rfl⟩
  .exact .inr h)
 have aH:jI (∀W,w2.alloc (nL #[Y X a.kind,Y X a.size,u o n c,Y X a.tail] TT)=W->jD w2.heap.size w2 W/\nU W w2.heap.size #[Y X a.kind,Y X a.size,u o n c,Y X a.tail] TT/\W.heap.size=w2.heap.size+1):=H λW h=>by
  subst h;exact⟨(jE w2.heap.size w2).alloc (jB _) _,nU.new w2 _ _,nX⟩
 clear ag ai aW af;go_upto_region 2 with fail;generalize w2.alloc (nL #[Y X a.kind,Y X a.size,u o n c,Y X a.tail] TT)=w3 at*;obtain⟨I,aI,aX⟩:=aH.out _ rfl
 have A:jI (jD g w w3/\nU w3 g #[Y X 0,Y X 0,u V 0 0,Y X 0] TT/\nU w3 w2.heap.size #[Y X a.kind,Y X a.size,u o n c,Y X a.tail] TT/\jD w2.heap.size w2 w3):=
  H ⟨aG.1.trans (I.mono K),Below.blk I aG.2 K,aI,I⟩
 have aO:w2.heap.size<w3.heap.size:=K;clear aH I aI aX;obtain⟨aP,aQ,aR,aS⟩:=A.2.2.1.a4;obtain⟨r0,r1,r2,r3,az,aA,y2,aB⟩:=A.2.1.b4
 have J:jI (∀W,jD g w W->(∃cs,nU W g cs TT/\cs.size=4)->Dr s.data.toList=V->(qM W g (Y X 0) (Y X 0) (u V 0 0) (Y X 0)).cell? (Z g 0 V)=U (Y X 0)/\(qM W g (Y X 0) (Y X 0) (u V 0 0) (Y X 0)).cell? (Z g 1 V)=U (Y X 0)/\
   (qM W g (Y X 0) (Y X 0) (u V 0 0) (Y X 0)).cell? (Z g 2 V)=U (u V 0 0)/\(qM W g (Y X 0) (Y X 0) (u V 0 0) (Y X 0)).cell? (Z g 3 V)=U (Y X 0)/\
   aL (nK (nJ #[nI #[Y X 0,Y X 0,u V 0 0,Y X 0],Y X 3])) (qM W g (Y X 0) (Y X 0) (u V 0 0) (Y X 0))):=H λW bz hB bA=>by
  obtain⟨e0,e1,e2,e3,au⟩:=Io bz hB (Y X 0) (Y X 0) (u V 0 0) (Y X 0);refine⟨e0,e1,e2,e3,?_⟩;rw[<-aV.out];exact⟨⟨0,0,0⟩,V,0,0,3,[],rfl,hg▸au,LQ K,Ch _ _,.inr ⟨bA,rfl,rfl,rfl⟩⟩
 rcases C.out with⟨sub,q,E,rfl,aN,aj,ak⟩|⟨E,rfl⟩
 .by_cases N:q=s.size
  .have aY:((q:Int) !=s.size)=O:=by simp[N]
   have av:ps 8 s.data.toList=U (.node a sub,[]):=by rw[E,sV K]
   have ah:=H (X6 av);have aZ:=H aj;have aJ:jI (oD.om w3 (λk=>g+1<=k) (u o n c) sub):=H (ak.keep A.2.2.2.size (λ_ _ h=>h) λk hk _=>A.2.2.2.block k hk);have aK:=a2f _ _ _ av;have bg:s.data.toList.length=s.size:=rfl;have ax:=H (UF (.node a sub) w3 (u o n c) (aJ.keep (jB _) (λ_ _ _=>trivial) λ_ _ _=>rfl) (by simp only[List.length_nil]at aK;omega));clear E av aj ak N C aK bg;simp only[nS.o9]at ax;have ay:jI (∀W,jD w3.heap.size w3 W->jD g w W/\(∃cs,nU W g cs TT/\cs.size=4)/\oD.om W (λk=>g+1<=k) (u o n c) sub/\nU W g #[Y X 0,Y X 0,u V 0 0,Y X 0] TT/\nU W w2.heap.size #[Y X a.kind,Y X a.size,u o n c,Y X a.tail] TT):=H λW h=>
    ⟨A.1.trans (h.mono K),⟨_,Below.blk h A.2.1 K,rfl⟩,aJ.below h,Below.blk h A.2.1 K,Below.blk h A.2.2.1 aO⟩
   cases aC:qc (.node a sub)with
   |false=>
    rw[aC]at ax ah;clear aC;go_wp2_with fail;refine(ax).mono ?_;rintro e w4 ⟨rfl,ae⟩;have aa:=H (ay w4 ae);clear ae r0 r1 r2 r3 az aA y2 aB aP aQ aR aS;obtain⟨⟨bB,r0⟩,⟨bC,r1⟩,⟨bD,r2⟩,⟨bE,r3⟩,az,aA,y2,aB⟩:=wh aa.2.1;go_wp2_with fail;rw[oP];obtain⟨e0,e1,e2,e3,hpost⟩:=J.out w4 aa.1 aa.2.1 (by rw[ah.out];rfl);exact TZ
   |true=>
    rw[aC]at ax ah;clear aC;go_wp2_with fail;refine(ax).mono ?_;rintro e w4 ⟨rfl,ae⟩;have aa:=H (ay w4 ae);clear ae r0 r1 r2 r3 az aA y2 aB aP aQ aR aS;obtain⟨⟨bB,r0⟩,⟨bC,r1⟩,⟨bD,r2⟩,⟨bE,r3⟩,az,aA,y2,aB⟩:=wh aa.2.1;obtain⟨aP,aQ,aR,aS⟩:=aa.2.2.2.2.a4;go_wp2_with fail;rw[oP];obtain⟨e0,e1,e2,e3,au⟩:=Io aa.1 aa.2.1 (Y X a.kind) (Y X a.size) (u o n c) (Y X a.tail);refine jO (v:=nJ #[nI #[Y X a.kind,Y X a.size,u o n c,Y X a.tail],Y X 0]) (by simp[kF,Tryz.results21,go_sem,e0,e1,e2,e3]) rfl ?_;rw[<-aV.out];exact⟨a,o,n,c,0,sub,rfl,hg▸au,aZ.out,(xE aa.2.2.1 (λk hk=>by omega)).keep (jB _) (λ_ _ _=>trivial) (λ_ _ _=>rfl),.inl ⟨by rw[ah.out];rfl,rfl⟩⟩
  .have aY:((q:Int) !=s.size)=R:=EX
   have aT:jI (Dr s.data.toList=V):=H (TY E λh=>N (LM aN h));clear N C E aj ak;go_wp2_with fail;rw[oP];obtain⟨e0,e1,e2,e3,hpost⟩:=J.out w3 A.1 ⟨_,A.2.1,rfl⟩ aT.out;exact TZ
 .have aY:((-1:Int) !=s.size)=R:=EX
  have aT:jI (Dr s.data.toList=V):=H (TW E);clear C E;go_wp2_with fail;rw[oP];obtain⟨e0,e1,e2,e3,hpost⟩:=J.out w3 A.1 ⟨_,A.2.1,rfl⟩ aT.out;exact TZ
section
variable {c:oO}{rows:List Row}{id:Nat}{nm tx:An}
def a2g(h:sJ nm.data.toList=O):vH c rows id nm tx=(11,V):=by unfold vH;rw[AC (.inr h)]
def X7(h:(rows.find? λy=>At (y.name=nm)).isSome=R):vH c rows id nm tx=(11,V):=by unfold vH;rw[AC (.inl h)]
def a5f(h0:sJ nm.data.toList=R)(h:¬(rows.find? λy=>At (y.name=nm)).isSome=R)(A:(rows.find? λy=>At (y.id=id)).isSome=R):vH c rows id nm tx=(1,V):=by
 unfold vH;rw[As (by rw[h0];simpa using h),AC A]
def a2h(h0:sJ nm.data.toList=R)(h:¬(rows.find? λy=>At (y.name=nm)).isSome=R)(A:¬(rows.find? λy=>At (y.id=id)).isSome=R)(C:yn tx.data.toList=V):vH c rows id nm tx=(3,V):=by
 unfold vH;rw[As (by rw[h0];simpa using h),As A,C]
def X8(h0:sJ nm.data.toList=R)(h:¬(rows.find? λy=>At (y.name=nm)).isSome=R)(A:¬(rows.find? λy=>At (y.id=id)).isSome=R){t:nS TL}(C:yn tx.data.toList=U t)(E:c.fmt=1/\(nS.pF p0 t.sub&&qc t)=O):vH c rows id nm tx=(12,V):=by
 unfold vH;rw[As (by rw[h0];simpa using h),As A,C];dsimp only;rw[AC E]
def VP(h0:sJ nm.data.toList=R)(h:¬(rows.find? λy=>At (y.name=nm)).isSome=R)(A:¬(rows.find? λy=>At (y.id=id)).isSome=R){t:nS TL}(C:yn tx.data.toList=U t)(E:¬(c.fmt=1/\(nS.pF p0 t.sub&&qc t)=O)):vH c rows id nm tx=(0,U ⟨id,nm,tx,t⟩):=by
 unfold vH;rw[As (by rw[h0];simpa using h),As A,C];dsimp only;rw[As E]
end
def T9{l:List Ax}(h:Dr l=U x):x.count<=1000/\qc x=R:=by
 unfold Dr at h;split at h
 .split at h
  .rename_i A
   cases h;refine⟨?_,A⟩;unfold qc at A;simp only[jJ,decide_eq_true_eq]at A;omega
  .cases h
 .cases h
def Kq.at_{w:M}{n cap:Nat}{A:List yI}(h:Kq w (u oa n cap) A){i:Nat}{e:yI}(he:A[i]? =U e):∃b off,oa=U (Z b off V)/\b<w.heap.size/\w.cell? (Z b (off+i*3) V)=U (Y nN e.id)/\w.cell? (Z b (off+i*3+1) V)=U (G e.nm)/\w.cell? (Z b (off+i*3+2) V)=U (G e.tx):=by
 obtain⟨J,C,E,N,aa,I⟩:=h;cases E;exact I i e he
def a2i(a b:An):((a.toList==b.toList)=R/\jI (a=b))\/((a.toList==b.toList)=O/\jI (a≠b)):=by
 by_cases h:a=b;.exact .inl ⟨str_eq h,H h⟩
 .exact .inr ⟨RL h,H h⟩
def a7Q(a b:Nat):(((a:Int)==(b:Int))=R/\jI (a=b))\/(((a:Int)==(b:Int))=O/\jI (a≠b)):=by
 by_cases h:a=b;.exact .inl ⟨by simp[h],H h⟩
 .exact .inr ⟨vo,H h⟩
def VQ{p:Prop}(h:p:=by
 refine oK nV nV ?_;repeat(go_big_quiet_step (fail))
 refine l7 ?_;intro x;go_wp2;go_returns;exact⟨by rw[HX.out];rfl,HB3 x⟩):p:=h
def a5g(c:oO)(E:List yI)(v:jC)(w:M)(bR:Kq w v E)(bL:∀e,e∈E->e.nm.size<=jN/\e.tx.size<=1000)(hn:E.length<=100):
  jG jy 29 #[c.v,v] w λe w'=>e=nK (Y X (Hf c E))/\jD w.heap.size w w':=by
 obtain⟨oa,cap,rfl,bH,dE,_⟩:=id bR;obtain⟨n,aS⟩:=og E.length;obtain⟨g,hg⟩:=og w.heap.size;have bS:=H (wu (w:=w) c (t:=uk));have bM:jI (∀W,w.alloc (nL #[Y X c.fmt,Y nO c.mag,Y X c.pV,Y X c.qH,Y X c.dep,Y X c.pq] uk)=W->W.heap.size=g+1):=H λW h=>by subst h;simp[hg]
 have cZ:=H bR;have df:=H bL;have bI:=H aS;have aT:jI (∀W,jG jy 39 #[nI #[Y X c.fmt,Y nO c.mag,Y X c.pV,Y X c.qH,Y X c.dep,Y X c.pq]] W λe w'=>e=nK (nH (oL c))/\jD W.heap.size W w'):=H λW=>GL c W
 obtain⟨ar,aR⟩:=og (Hf c E);have aU:jI (oL c=O->ar=1):=H λh=>by rw[<-aR];unfold Hf vV;rw[AC h];rfl
 have aV:jI (oL c=R->32<n->ar=4):=H λh N=>by rw[<-aR];unfold Hf vV;rw[h,As nT,AC K];rfl
 have aW:jI (oL c=R->n<=32->∀er:Nat,sD c [] E=.error er->ar=er):=H λh N er aG=>by rw[<-aR];unfold Hf vV;rw[h,As nT,As K,aG]
 have aX:jI (oL c=R->n<=32->∀rows,sD c [] E=.ok rows->ar=0):=H λh N rows aG=>by rw[<-aR];unfold Hf vV;rw[h,As nT,As K,aG]
 unfold oO.v oO.cs;rw[hg]at bS|-;rw[aS]at cZ hn bH|-;rw[aR];obtain⟨rc,bN⟩:=og (oL c);rw[bN]at aT aU aV aW aX;clear bR bL aS aR bN;go_in;go_upto_region 1 with fail;obtain⟨bO,c0,c1,c2,c3,c4,c5⟩:=bS.out _ rfl;have dh:=bM.out _ rfl;generalize w.alloc _=w1 at*;have bT:=H bO;clear bS bM bO;cases rc with
 |false=>
  have HE:=H (aU rfl);go_wp2_with fail;refine(aT _).mono ?_;rintro e w2 ⟨rfl,ae⟩;have HB2:=H (bT.trans (ae.mono K));clear ae;exact Je
 |true=>
 by_cases dw:32<n
 .have HE:=H (aV rfl dw)
  go_wp2_with fail;refine(aT _).mono ?_;rintro e w2 ⟨rfl,ae⟩;have HB2:=H (bT.trans (ae.mono K));clear ae;exact Je
 have au:jI (∀er:Nat,sD c [] E=.error er->ar=er):=H (λer h=>aW.out rfl K er h);have dx:jI (∀rows,sD c [] E=.ok rows->ar=0):=H (λrows h=>aX.out rfl K rows h);clear aW aX;clear aU aV;go_wp2_with fail;refine(aT _).mono ?_;rintro e w2 ⟨rfl,ae⟩;have HB2:jI (jD (g+1) w1 w2):=H (dh▸ae);clear ae aT c1 c2 c3 c4 c5;go_wp2_with fail;go_loopw [5] (λiv dF=>∃i rows,iv=Y X (i:Nat)/\i<=n/\jI (sD c [] (E.take i)=.ok rows)/\jI (jD (g+1) w1 dF)) (λiv _=>n -(kC iv).toNat);case atStart=>exact⟨0,[],rfl,K,H (by simp[sD]),HB2⟩
 case round=>
  obtain⟨i,rows,rfl,hi,af,av⟩:=hrel;have ak:jI (∀W,jD (g+1) w1 W->jD g w W):=H λW h=>bT.trans (h.mono K)
  have ax:jI (∀W,jD (g+1) w1 W->Kq W (u oa n cap) E):=H λW h=>cZ.below (hg.symm▸ak.out W h)
  have dI:g+1<=wr.heap.size:=by have:=av.size;omega
  by_cases ci:i<n
  .obtain⟨e,he⟩:∃e,E[i]? =U e:=⟨_,jL (by rw[bI.out];exact ci)⟩
   have HE:=H he;obtain⟨dz,dA⟩:=df.out e (kE he);obtain⟨b,off,rfl,hlt,dJ,e1,e2⟩:=Kq.at_ (ax wr av) he;have bU:=H (V9 e.nm wr dz);have aY:jI (sJ e.nm.data.toList=O->ar=11):=H λh=>au.out 11 (BJ af HE (a2g h))
   obtain⟨dG,aZ⟩:=og (sJ e.nm.data.toList);have ay:=H aZ;rw[aZ]at bU aY;clear he aZ;cases dG with
   |false=>
    have HX:=H (aY rfl);have HB3:=H (ak wr av);go_wp2_with fail;refine bU.mono ?_;rintro e w3 ⟨rfl,rfl⟩;go_wp2;go_returns;exact⟨by rw[HX.out];rfl,HB3.out⟩
   |true=>
    clear aY;go_wp2_with fail;refine bU.mono ?_;rintro A w3 ⟨rfl,rfl⟩;go_wp2_with fail;go_loopw [6] (λkv wk=>∃k:Nat,kv=Y X k/\k<=i/\jI (∀j A,j<k->E[j]? =U A->A.nm≠e.nm)/\jI (jD (g+1) w1 wk)) (λkv _=>i -(kC kv).toNat);case atStart=>exact⟨0,rfl,K,H (λj A aH=>by omega),av⟩
    case round=>
     obtain⟨k,rfl,hk,ag,C⟩:=hrel;have ah:g+1<=wr.heap.size:=by have:=C.size;omega
     obtain⟨bi,oi,LD,bV,aI,aJ,bg⟩:=Kq.at_ (ax wr C) HE.out;simp only[mI,Addr.mk.injEq]at LD;obtain⟨rfl,rfl,_⟩:=LD;by_cases bJ:k<i
     .obtain⟨A,J⟩:∃A,E[k]? =U A:=⟨_,jL (by rw[bI.out];omega)⟩
      obtain⟨bk,ok,LD,I,aK,aL,bq⟩:=Kq.at_ (ax wr C) J;simp only[mI,Addr.mk.injEq]at LD;obtain⟨rfl,rfl,_⟩:=LD;have dB:k<n:=K;rcases a2i A.nm e.nm with⟨bW,aM⟩|⟨bW,aM⟩
      .have HX:jI (ar=11):=H (au 11 (BJ af HE (X7 ((Mm af e.nm).2 ⟨k,A,bJ,J,aM.out⟩))))
       clear J;have bX:∀x:sW wr,x.at_.cell? (Z b (off+k*3+1) V)=U (G A.nm):=λx=>(x.is.cell (p:=(Z b (off+k*3+1) V)) I).trans aL
       have bY:∀x:sW wr,x.at_.cell? (Z b (off+i*3+1) V)=U (G e.nm):=λx=>(x.is.cell (p:=(Z b (off+i*3+1) V)) I).trans aJ
       have aa:jI (∀x:sW wr,jD (g+1) w1 x.at_):=H λx=>C.trans (x.is.mono ah)
       have HB3:jI (∀x:sW wr,jD g w x.at_):=H λx=>ak.out _ (aa x)
       clear aK aL bq aI aJ bg;go_upto_region 13 with fail;exact VQ
      .have aN:jI (∀q A,q<k+1->E[q]? =U A->A.nm≠e.nm):=H λq e2 aH N=>by
        by_cases aG:q=k;.subst aG;rw[J]at N;cases N;exact aM
        .exact ag q e2 K N
       clear J;have bX:∀x:sW wr,x.at_.cell? (Z b (off+k*3+1) V)=U (G A.nm):=λx=>(x.is.cell (p:=(Z b (off+k*3+1) V)) I).trans aL
       have bY:∀x:sW wr,x.at_.cell? (Z b (off+i*3+1) V)=U (G e.nm):=λx=>(x.is.cell (p:=(Z b (off+i*3+1) V)) I).trans aJ
       have aa:jI (∀x:sW wr,jD (g+1) w1 x.at_):=H λx=>C.trans (x.is.mono ah)
       have HB3:jI (∀x:sW wr,jD g w x.at_):=H λx=>ak.out _ (aa x)
       clear aK aL bq aI aJ bg;go_upto_region 13 with fail;refine oK nV nV ?_;repeat(go_big_quiet_step (fail))
       refine l7 ?_;intro x;go_wp2;go_roundw;case rel=>exact⟨k+1,by go_num,K,aN,aa x⟩
       case measure=>simp[kC];omega
     .obtain rfl:k=i:=K
      have az:jI (¬(rows.find? λy=>At (y.name=e.nm)).isSome=R):=H λh=>by
       obtain⟨j,A,aH,bZ,N⟩:=(Mm af e.nm).1 h;exact ag j A aH bZ N
      clear ag bJ;go_wp2_with fail;go_loopw [7] (λkv wk=>∃j:Nat,kv=Y X j/\j<=k/\jI (∀q A,q<j->E[q]? =U A->A.id≠e.id)/\jI (jD (g+1) w1 wk)) (λkv _=>k -(kC kv).toNat);case atStart=>exact⟨0,rfl,K,H (λj A aH=>by omega),C⟩
      case round=>
       obtain⟨j,rfl,hk,ag,C⟩:=hrel;have ah:g+1<=wr.heap.size:=by have:=C.size;omega
       obtain⟨bi,oi,LD,bV,aI,aJ,bg⟩:=Kq.at_ (ax wr C) HE.out;simp only[mI,Addr.mk.injEq]at LD;obtain⟨rfl,rfl,_⟩:=LD;by_cases bJ:j<k
       .obtain⟨A,J⟩:∃A,E[j]? =U A:=⟨_,jL (by rw[bI.out];omega)⟩
        obtain⟨bk,ok,LD,I,aK,aL,bq⟩:=Kq.at_ (ax wr C) J;simp only[mI,Addr.mk.injEq]at LD;obtain⟨rfl,rfl,_⟩:=LD;have dB:j<n:=K;rcases a7Q A.id e.id with⟨bW,aM⟩|⟨bW,aM⟩
        .have HX:jI (ar=1):=H (au 1 (BJ af HE (a5f ay az ((GN af e.id).2 ⟨j,A,bJ,J,aM.out⟩))))
         clear J;have bX:∀x:sW wr,x.at_.cell? (Z b (off+j*3) V)=U (Y nN A.id):=λx=>(x.is.cell (p:=(Z b (off+j*3) V)) I).trans aK
         have bY:∀x:sW wr,x.at_.cell? (Z b (off+k*3) V)=U (Y nN e.id):=λx=>(x.is.cell (p:=(Z b (off+k*3) V)) I).trans aI
         have aa:jI (∀x:sW wr,jD (g+1) w1 x.at_):=H λx=>C.trans (x.is.mono ah)
         have HB3:jI (∀x:sW wr,jD g w x.at_):=H λx=>ak.out _ (aa x)
         clear aK aL bq aI aJ bg;go_upto_region 18 with fail;exact VQ
        .have aN:jI (∀q A,q<j+1->E[q]? =U A->A.id≠e.id):=H λq e2 aH N=>by
          by_cases aG:q=j;.subst aG;rw[J]at N;cases N;exact aM
          .exact ag q e2 K N
         clear J;have bX:∀x:sW wr,x.at_.cell? (Z b (off+j*3) V)=U (Y nN A.id):=λx=>(x.is.cell (p:=(Z b (off+j*3) V)) I).trans aK
         have bY:∀x:sW wr,x.at_.cell? (Z b (off+k*3) V)=U (Y nN e.id):=λx=>(x.is.cell (p:=(Z b (off+k*3) V)) I).trans aI
         have aa:jI (∀x:sW wr,jD (g+1) w1 x.at_):=H λx=>C.trans (x.is.mono ah)
         have HB3:jI (∀x:sW wr,jD g w x.at_):=H λx=>ak.out _ (aa x)
         clear aK aL bq aI aJ bg;go_upto_region 18 with fail;refine oK nV nV ?_;repeat(go_big_quiet_step (fail))
         refine l7 ?_;intro x;go_wp2;go_roundw;case rel=>exact⟨j+1,by go_num,K,aN,aa x⟩
         case measure=>simp[kC];omega
       .obtain rfl:j=k:=K
        have aO:jI (¬(rows.find? λy=>At (y.id=e.id)).isSome=R):=H λh=>by
         obtain⟨j,A,aH,bZ,N⟩:=(GN af e.id).1 h;exact ag j A aH bZ N
        have cz:=H (a5e e.tx wr dA);go_wp2_with fail;refine cz.mono ?_;rintro A w3 ⟨ta,bu,n3,aA,er,sub,rfl,bz,_,ai,bK⟩;have HB3:jI (jD (g+1) w1 w3):=H (C.trans (bz.mono ah));have bA:jI (∀W,w3.alloc (nL #[Y X ta.kind,Y X ta.size,u bu n3 aA,Y X ta.tail] 63)=W->jD (g+1) w1 W/\nU W w3.heap.size #[Y X ta.kind,Y X ta.size,u bu n3 aA,Y X ta.tail] 63/\o6 W (u bu n3 aA) sub):=H λW h=>by
         subst h;have a:=(jE w3.heap.size w3).alloc (jB _) (nL #[Y X ta.kind,Y X ta.size,u bu n3 aA,Y X ta.tail] 63);exact⟨HB3.trans (a.mono (by have:=bz.size;omega)),nU.new w3 _ _,Shape.om.below ai a⟩
        clear ai bz;go_upto_region 21 with fail;obtain⟨aB,bB,ai⟩:=bA.out _ rfl;generalize w3.alloc _=w4 at*;have aP:=H aB;obtain⟨t0,dK,dL,t3⟩:=bB.a4;have cf:w4.cell? (Z g 0 V)=U (Y X c.fmt):=(aB.cell (p:=(Z g 0 V)) (lF g)).trans c0;rcases bK with⟨aj,rfl⟩|⟨aj,rfl,rfl,rfl⟩
        .have bP:yn e.tx.data.toList=U (.node ta sub):=by rw[Lp];exact aj
         obtain⟨bC,cK⟩:=T9 aj;have aQ:=H (ZF (.node ta sub) w4 (u bu n3 aA) ai bC);simp only[nS.o9,nS.rE]at aQ;have bD:=H bP;have bE:g+1<=w4.heap.size:=by have:=aB.size;omega
         clear aj bP bC cK aB bB ai bA cz;by_cases aC:c.fmt=1
         .have f1:(c.fmt==1)=R:=by simp[aC]
          have dD:=H aC;clear aC;obtain⟨dH,bF⟩:=og ((nS.pF p0 sub&&qc (.node ta sub)));have bQ:=H bF;rw[bF]at aQ;clear bF;cases dH with
          |false=>
           have HX:jI (ar=12):=H (au 12 (BJ af HE (X8 ay az aO bD ⟨dD.out,bQ.out⟩)));go_wp2_with fail;refine aQ.mono ?_;rintro A w5 ⟨rfl,aD⟩;have aF:=H (ak _ (aP.trans (aD.mono bE)));clear aD;go_wp2;go_returns;exact⟨by rw[HX.out];rfl,aF.out⟩
          |true=>
           have bG:=H (Ml af HE (VP ay az aO bD (c:=c) (by rw[show(nS.pF p0 (nS.sub (.node ta sub))&&qc (.node ta sub))=R from bQ.out];simp)));go_wp2_with fail;refine aQ.mono ?_;rintro A w5 ⟨rfl,aD⟩;have aF:=H (aP.trans (aD.mono bE));clear aD;go_wp2;go_roundw;case rel=>exact⟨j+1,_,by go_num,K,bG,aF⟩
           case measure=>simp[kC];omega
         .have f1:(c.fmt==1)=O:=by rw[beq_eq_false_iff_ne];exact aC
          have bG:=H (Ml af HE (VP ay az aO bD (c:=c) (λh=>aC h.1)));go_wp2;go_roundw;case rel=>exact⟨j+1,_,by go_num,K,bG,aP⟩
          case measure=>simp[kC];omega
        .have HX:jI (ar=3):=H (au 3 (BJ af HE (a2h ay az aO (by rw[Lp];exact aj))))
         have aF:=H (ak _ aP);clear aj aB bB ai bA cz;go_wp2;go_returns;exact⟨by rw[HX.out];rfl,aF.out⟩
  .obtain rfl:i=n:=K
   have HX:jI (ar=0):=H (dx rows (by have:=af.out;rw[<-bI.out,lM]at this;exact this));have HB3:=H (ak wr av);go_wp2;go_returns;exact⟨by rw[HX.out];rfl,HB3.out⟩
end
section
open Go.RowKit Go.ChangeShapes Go.WideShapes Go.Deep
section
variable {ad:Type}{enc:jX×jC->ad}{P:lQ}{w:M}{base:Nat}{spare:Nat->Bool}{held:Bool}
def Og{t e:jX}{A:Array Field}{len cap:Nat}{d:DataW ad}{p:List MemPlace}(ht:P.underlying t=U (.slice e))(he:P.underlying e=U (.struct A))(aj:oneCellFields P A=R)(aF:P.cellsOf e=A.size)(I:0<A.size)(h:DataW.Trod enc P w base spare held t (.slice a len cap) d p):
  len<=jN/\∀i,i<len->∃b off,a=U (Z b off V)/\b<w.heap.size/\
   ∀(j:Nat)(f:Field),A[j]? =U f->∃(v:jC) (y:DataW ad×List MemPlace) (n:Nat),w.cell? (Z b (off+(i*A.size+j)) V)=U v/\DataW.trod enc P w base spare held n f.type [v]=U y:=by
 obtain⟨fuel,aG⟩:=h;rcases open_slice ht aG with⟨h0,_⟩|⟨av,aH,aI,m,n,D,aR,ag,hb,hl,aJ,ax,aS,hi⟩
 .simp[Value.cells]at h0
  exact⟨K,λi hi=>by omega⟩
 .simp[Value.cells]at ag
  obtain⟨rfl,rfl,rfl⟩:=ag;have aN:len<=m:=by rw[ax];split<;>omega
  have key:∀i,i<len->∀(j:Nat)(f:Field),A[j]? =U f->∃(v:jC) (y:DataW ad×List MemPlace) (n:Nat),w.cell? (av.add (i*A.size+j))=U v/\DataW.trod enc P w base spare held n f.type [v]=U y:=by
   intro i ah j f J;obtain⟨C,hc,ay⟩:=hi i K;rw[aF]at hc;obtain⟨ys,aK,aO,hy,hlen,aP,az⟩:=DataW.trod_struct he ay;obtain⟨_,aQ,aA⟩:=World.cells?_some hc;obtain⟨ho,hk⟩:=hone_of aj j f J;have aB:j<A.size:=(j6.1 J).1;have aa:=aA j aB;have aL:C[j]? =U (C[j]' K):=jL K;have E:=az j f J;rw[ho,hk]at E;have ae:(C.drop j).take 1=[C[j]' K]:=by
    rw[nA K];rfl
   rw[ae]at E;have aC:ys[j]? =U (ys[j]' K):=jL K;refine⟨_,_,aK,?_,E.trans aC⟩;rw[<-Go.Deep.add_add,aa,aL]
  obtain⟨b,off,ak⟩:=av;refine⟨jM hl aJ,λi ah=> ?_⟩;have aD:A[0]? =U (A[0]'I):=Array.getElem?_eq_getElem I;obtain⟨v,y,aT,ai,_⟩:=key 0 K 0 _ aD;have af:ak=V:=by simpa [Addr.add]using World.cell?_spot ai
  subst af;have N:∀k,((Z b off V):kW).add k=(Z b (off+k) V):=λk=>by unfold Addr.add;split<;>simp_all
  refine⟨b,off,rfl,?_,λj f J=> ?_⟩
  .rcases kQ b w.heap.size with au|au
   .exact au
   .simp[mV,N,Array.getElem?_eq_none au]at ai
  .obtain⟨v,y,n1,E,aM⟩:=key i ah j f J
   rw[N]at E;exact⟨v,y,n1,E,aM⟩
def wm{t:jX}{k:IntKind}{n:Nat}{v:jC}{y:DataW ad×List MemPlace}(ht:P.underlying t=U (.int k))(h:DataW.trod enc P w base spare held n t [v]=U y):
  ∃x:Int,v=Y k x/\(kY k x).wf=R:=by
 obtain⟨a,A,rfl,wa⟩:=DataW.trod_int ht h;simp at A;exact⟨a,A,wa⟩
def ET{t:jX}{n:Nat}{v:jC}{y:DataW ad×List MemPlace}(ht:P.underlying t=U .string)(h:DataW.trod enc P w base spare held n t [v]=U y):
  ∃s:An,v=G s/\s.size<=jN:=by
 obtain⟨a,A,rfl,wa⟩:=DataW.trod_string ht h;simp at A;exact⟨a,A,wa⟩
end
end
section
open Go.RowKit Go.ChangeShapes Go.WideShapes
end
section
open Go.RowKit Go.ChangeShapes Go.WideShapes Go.Deep
def a2j{ad:Type}{enc:jX×jC->ad}{P:lQ}{w:M}{base:Nat}{A:Nat->Bool}{held:Bool}{t:jX}{E f1 f2 f3 f4 I:Field}{cs:Array jC}{d:DataW ad}{p:List MemPlace}(ht:P.underlying t=U (.struct #[E,f1,f2,f3,f4,I]))(aa:oneCellFields P #[E,f1,f2,f3,f4,I]=R)(ag:P.cellsOf t=6)(ak:P.underlying E.type=U (.int .i64))(e1:P.underlying f1.type=U (.int .u32))(e2:P.underlying f2.type=U (.int .i64))(e3:P.underlying f3.type=U (.int .i64))(e4:P.underlying f4.type=U (.int .i64))(e5:P.underlying I.type=U (.int .i64))(h:DataW.Trod enc P w base A held t (.agg cs) d p):∃q:oO,cs=q.cs/\q.wf:=by
 obtain⟨fuel,au⟩:=h;obtain⟨ys,av,aH,hy,hlen,ah,ai⟩:=DataW.trod_struct ht au;have key:∀(j:Nat)(f:Field),#[E,f1,f2,f3,f4,I][j]? =U f->∃(v:jC) (y:DataW ad×List MemPlace),cs.toList[j]? =U v/\DataW.trod enc P w base A held av f.type [v]=U y:=by
  intro j f ae;obtain⟨ho,hk⟩:=hone_of aa j f ae;have aI:j<6:=(j6.1 ae).1;have C:(Value.agg cs).cells.toList.length=6:=hlen.trans ag;have N:cs.toList.length=6:=by simpa [Value.cells]using C
  have af:=ai j f ae;rw[ho,hk]at af;have ax:cs.toList[j]? =U (cs.toList[j]' K):=jL K;have J:((Value.agg cs).cells.toList.drop j).take 1=[cs.toList[j]' K]:=by
   show(cs.toList.drop j).take 1=_;rw[nA K];rfl
  rw[J]at af;have aj:ys[j]? =U (ys[j]'(by simp at ah;omega)):=jL _;exact⟨_,_,ax,af.trans aj⟩
 have C:(Value.agg cs).cells.toList.length=6:=hlen.trans ag;have N:cs.toList.length=6:=by simpa [Value.cells]using C
 obtain⟨v0,aJ,c0,t0⟩:=key 0 _ rfl;obtain⟨v1,aK,c1,ay⟩:=key 1 _ rfl;obtain⟨v2,y2,c2,az⟩:=key 2 _ rfl;obtain⟨v3,aL,c3,t3⟩:=key 3 _ rfl;obtain⟨v4,aM,c4,t4⟩:=key 4 _ rfl;obtain⟨v5,aN,c5,t5⟩:=key 5 _ rfl;obtain⟨aA,rfl,w0⟩:=wm ak t0;obtain⟨aB,rfl,w1⟩:=wm e1 ay;obtain⟨aC,rfl,w2⟩:=wm e2 az;obtain⟨aD,rfl,w3⟩:=wm e3 t3;obtain⟨aF,rfl,w4⟩:=wm e4 t4;obtain⟨aG,rfl,w5⟩:=wm e5 t5;refine⟨⟨aA,aB,aC,aD,aF,aG⟩,?_,w0,w1,w2,w3,w4,w5⟩;have:cs=⟨cs.toList⟩:=nX;rw[this];generalize cs.toList=l at*
 match l,N with
 |[a,b,c,e,f,g],_=>
  simp at c0 c1 c2 c3 c4 c5;subst c0 c1 c2 c3 c4 c5;rfl
def Ua(w:M)(a:Option kW)(len cap:Nat)(A:List yI):Prop:=
 Kq w (u a len cap) A/\∀e,e∈A->e.nm.size<=jN/\e.tx.size<=jN/\e.id<18446744073709551616
def X9{ad:Type}{enc:jX×jC->ad}{P:lQ}{w:M}{base:Nat}{A:Nat->Bool}{held:Bool}{t e:jX}{len cap:Nat}{d:DataW ad}{p:List MemPlace}(ht:P.underlying t=U (.slice e))(h:DataW.Trod enc P w base A held t (.slice a len cap) d p):len<=cap/\cap<=jN:=by
 obtain⟨fuel,E⟩:=h;rcases open_slice ht E with⟨h0,_⟩|⟨ae,I,J,m,n,D,af,C,hb,hl,N,aa,ag,hi⟩
 .simp[Value.cells]at h0
  unfold jN;omega
 .simp[Value.cells]at C
  obtain⟨rfl,rfl,rfl⟩:=C;exact⟨hl,N⟩
def VR{p:Nat->yI->Prop}:∀n:Nat,(∀i,i<n->∃e,p i e)->∃A:List yI,A.length=n/\∀i e,A[i]? =U e->p i e
 |0,_=>⟨[],rfl,λi e h=>by simp at h⟩
 |n+1,h=>by
  obtain⟨A,C,E⟩:=VR n λi hi=>h i K
  obtain⟨x,I⟩:=h n K;refine⟨A++[x],by simp[C],λi e he=> ?_⟩;by_cases hi:i<n
  .rw[l6 K]at he
   exact E i e he
  .rw[mZ K,C]at he
   have:i - n=0:=by
    rcases Nat.eq_zero_or_pos (i - n)with h|h
    .exact h
    .rw[List.getElem?_eq_none nY]at he;cases he
   rw[this]at he;simp at he;subst he;rw[show i=n by omega];exact I
def Ya{ad:Type}{enc:jX×jC->ad}{P:lQ}{w:M}{base:Nat}{C:Nat->Bool}{held:Bool}{t e:jX}{I f1 f2:Field}{len cap:Nat}{d:DataW ad}{p:List MemPlace}(ht:P.underlying t=U (.slice e))(he:P.underlying e=U (.struct #[I,f1,f2]))(J:oneCellFields P #[I,f1,f2]=R)(ag:P.cellsOf e=3)(ah:P.underlying I.type=U (.int .u64))(e1:P.underlying f1.type=U .string)(e2:P.underlying f2.type=U .string)(h:DataW.Trod enc P w base C held t (.slice a len cap) d p):∃N,Ua w a len cap N:=by
 obtain⟨aA,ae⟩:=X9 ht h;obtain⟨hl,hi⟩:=Og ht he J ag (show 0<3 by decide) h;obtain⟨N,hlen,E⟩:=VR (p:=λi e=>(∃b off,a=U (Z b off V)/\b<w.heap.size/\w.cell? (Z b (off+i*3) V)=U (Y nN e.id)/\w.cell? (Z b (off+i*3+1) V)=U (G e.nm)/\w.cell? (Z b (off+i*3+2) V)=U (G e.tx))/\e.nm.size<=jN/\e.tx.size<=jN/\e.id<18446744073709551616) len λi af=>by
  obtain⟨b,off,ai,hb,aa⟩:=hi i af;obtain⟨v0,aB,aC,c0,t0⟩:=aa 0 _ rfl;obtain⟨v1,aD,n1,c1,aj⟩:=aa 1 _ rfl;obtain⟨v2,y2,n2,c2,ak⟩:=aa 2 _ rfl;obtain⟨A,rfl,w0⟩:=wm ah t0;obtain⟨au,rfl,w1⟩:=ET e1 aj;obtain⟨av,rfl,w2⟩:=ET e2 ak;have aF:0<=A/\A<18446744073709551616:=by
   simp only[Lit.wf,jJ,decide_eq_true_eq]at w0;have ax:IntKind.u64.min=0:=rfl;have ay:IntKind.u64.max=18446744073709551615:=rfl;rw[ax,ay]at w0;omega
  exact⟨⟨A.toNat,au,av⟩,⟨b,off,ai,hb,by rw[show((A.toNat:Nat):Int)=A by omega];simpa using c0,by simpa [kK]using c1,by simpa [kK]using c2⟩,w1,w2,by show A.toNat<_;omega⟩
 refine⟨N,⟨a,cap,by rw[hlen],K,ae,λi e h=>(E i e h).1⟩,λe az=> ?_⟩;obtain⟨i,h⟩:=List.getElem?_of_mem az;exact(E i e h).2
end
section
open Go.RowKit
def Ub(c:oO)(rows:List Row)(w:M)(e:Ending)(w':M):Prop:=
 jD w.heap.size w w'/\∃an sb r bn bi L,e=nK (nG (U (Z sb 0 V)))/\(L.map λx:oV=>x.r)=rows/\x9 w' an r sb [] 0 0/\(w.heap.size<=an/\an<=sb/\an<=w'.heap.size/\bn≠bi/\r≠bn/\r≠bi/\a0Z w.heap.size an r bn bi c L w')/\∀W,jD an w' W->qG r bn bi c L W
def uN(es:List yI):Bool:=At (40<es.length)||es.any λe=>At (100<e.nm.size)||At (500<e.tx.size)
def Oh{A:List yI}(h:uN A=O):A.length<=40/\∀e,e∈A->e.nm.size<=100/\e.tx.size<=500:=by
 unfold uN at h;simp only[Bool.or_eq_false_iff,decide_eq_false_iff_not,List.any_eq_false]at h;refine⟨K,λe he=> ?_⟩;have:=h.2 e he;simp only[Bool.or_eq_true,decide_eq_true_eq]at this;omega
def Mr{A:List yI}{i:Nat}{e:yI}(he:A[i]? =U e)(h:100<e.nm.size\/500<e.tx.size):uN A=R:=by
 unfold uN;rw[Bool.or_eq_true,List.any_eq_true];exact .inr ⟨e,kE he,by simp only[Bool.or_eq_true,decide_eq_true_eq];exact h⟩
def QU{A:List yI}(h:A.length<=40)(C:∀i e,i<A.length->A[i]? =U e->e.nm.size<=100/\e.tx.size<=500):uN A=O:=by
 unfold uN;simp only[Bool.or_eq_false_iff,decide_eq_false_iff_not,List.any_eq_false];refine⟨K,λe he=> ?_⟩;obtain⟨i,hi⟩:=List.getElem?_of_mem he;have:=C i e (lu.1 hi).1 hi;simp only[Bool.or_eq_true,decide_eq_true_eq];omega
def Ip{p:Prop}(h:p:=by
 go_wp2;go_returns;exact⟨by rw[HX.out];rfl,rfl⟩):p:=h
def Uc(A:List yI)(v:jC)(w:M)(aa:Kq w v A)(N:∀e,e∈A->e.nm.size<=jN/\e.tx.size<=jN):
  jG jy 28 #[v] w λe w'=>e=nK (nH (uN A))/\w'=w:=by
 obtain⟨oa,cap,rfl,E,I,_⟩:=id aa;obtain⟨n,C⟩:=og A.length;have aB:n<=9223372036854775807:=by unfold jN at I;omega
 obtain⟨ar,ae⟩:=og (uN A);have J:=H ae;have ah:=H aa;have af:=H C;have ai:=H N;rw[ae];rw[C]at ah E|-;clear aa ae N;by_cases aj:40<n
 .have HX:jI (ar=R):=H (by rw[<-J.out];unfold uN;rw[C];simp[aj])
  clear C;go_in;exact Ip
 clear C;go_in;go_wp2_with fail;go_loopw [3] (λiv ay=>∃i:Nat,iv=Y X i/\i<=n/\jI (∀k e,k<i->A[k]? =U e->e.nm.size<=100/\e.tx.size<=500)/\ay=w) (λiv _=>n -(kC iv).toNat);case atStart=>exact⟨0,rfl,K,H (λk e h=>by omega),rfl⟩
 case round=>
  obtain⟨i,rfl,hi,ak,rfl⟩:=hrel;by_cases c:i<n
  .obtain⟨e,he⟩:∃az,A[i]? =U az:=⟨_,jL (by rw[af.out];exact c)⟩
   obtain⟨b,off,rfl,hlt,aF,aG,aH⟩:=Kq.at_ ah he;obtain⟨au,av⟩:=ai.out e (kE he);have aC:e.nm.size<=9223372036854775807:=by unfold jN at au;omega
   have aD:e.tx.size<=9223372036854775807:=by unfold jN at av;omega
   clear au av;by_cases c1:100<e.nm.size
   .have HX:jI (ar=R):=H (by rw[<-J.out];exact Mr he (.inl c1))
    clear he;exact Ip
   .by_cases c2:500<e.tx.size
    .have HX:jI (ar=R):=H (by rw[<-J.out];exact Mr he (.inr c2))
     clear he;exact Ip
    .have ax:jI (∀k e,k<i+1->A[k]? =U e->e.nm.size<=100/\e.tx.size<=500):=H λk e2 hk ag=>by
      by_cases aA:k=i;.subst aA;rw[he]at ag;cases ag;omega
      .exact ak k e2 K ag
     clear he;go_wp2;go_roundw;case rel=>exact⟨i+1,by go_num,K,ax,trivial⟩
     case measure=>simp[kC];omega
  .obtain rfl:i=n:=K
   have HX:jI (ar=O):=H (by rw[<-J.out];exact QU (by rw[af.out];omega) (λk e hk he=>ak.out k e (by rw[<-af.out];exact hk) he));exact Ip
def Gd(c:oO)(A:List yI):Bool:= !uN A&&At (Hf c A=0)
def a2k{p:Prop}(h:p:=by
 go_wp2_with fail;refine(CN2 _ H1).mono ?_;rintro e w3 ⟨rfl,hb3⟩;have HB3:=H (H1.trans (hb3.mono K));clear hb3;go_wp2;go_returns;exact⟨by rw[Yj.out];rfl,HB3.out⟩):p:=h
def Yb(c:oO)(A:List yI)(v:jC)(w:M)(ai:Kq w v A)(E:∀e,e∈A->e.nm.size<=jN/\e.tx.size<=jN):
  jG jy 9 #[c.v,v] w λe w'=>e=nK (nH (Gd c A))/\jD w.heap.size w w':=by
 have aj:=H (wu (w:=w) c (t:=uk));obtain⟨g,hg⟩:=og w.heap.size;have J:jI (∀W,jD w.heap.size w W->jG jy 28 #[v] W λe w'=>e=nK (nH (uN A))/\w'=W):=H λW h=>Uc A v W (ai.below h) E
 have I:jI (uN A=O->∀W,jD w.heap.size w W->jG jy 29 #[nI #[Y X c.fmt,Y nO c.mag,Y X c.pV,Y X c.qH,Y X c.dep,Y X c.pq],v] W λe w'=>e=nK (Y X (Hf c A))/\jD W.heap.size W w'):=H λh W av=>by
  obtain⟨az,ax⟩:=Oh h;exact a5g c A v W (ai.below av) (λe he=>⟨(E e he).1,by have:=(ax e he).2;omega⟩) K
 have ae:jI (∀W,w.alloc (nL #[Y X c.fmt,Y nO c.mag,Y X c.pV,Y X c.qH,Y X c.dep,Y X c.pq] uk)=W->W.heap.size=g+1):=H λW h=>by subst h;simp[hg]
 obtain⟨ar,ak⟩:=og (Gd c A);have N:jI (ar=(!uN A&&At (Hf c A=0))):=H ak.symm;obtain⟨oa,cap,rfl,_⟩:=ai;unfold oO.v oO.cs;rw[hg]at aj J I|-;rw[ak];obtain⟨GE,af⟩:=og (uN A);obtain⟨au,ag⟩:=og (Hf c A);rw[af]at J I N;rw[ag]at I N;clear ak af ag E;go_in;go_upto_region 1 with fail;obtain⟨ah,c0,c1,c2,c3,c4,c5⟩:=aj.out _ rfl;have ay:=ae.out _ rfl;generalize w.alloc _=w1 at*;have H1:=H ah;clear aj ae ah;cases GE with
 |true=>
  have aa:jI (ar=O):=H (by rw[N.out];rfl);go_wp2_with fail;refine(J _ H1).mono ?_;rintro e w2 ⟨rfl,rfl⟩;go_wp2;go_returns;exact⟨by rw[aa.out];rfl,H1.out⟩
 |false=>
  have CN2:=H (I rfl);clear I;have aa:jI (ar=At (au=0)):=H (by rw[N.out];rfl);go_wp2_with fail;refine(J _ H1).mono ?_;rintro e w2 ⟨rfl,rfl⟩;by_cases C:au=0
  .have Yj:jI (ar=R):=H (by rw[aa.out,decide_eq_true C])
   subst C;exact a2k
  .have Yj:jI (ar=O):=H (by rw[aa.out,decide_eq_false C])
   have aA:(au==0)=O:=by rw[beq_eq_false_iff_ne];exact C
   clear C;exact a2k
def a5h{c:oO}{A:List yI}(h:Hf c A=0):∃rows,vV c A=.ok rows:=by
 unfold Hf at h;cases hp:vV c A with
 |ok rows=>exact⟨rows,rfl⟩
 |error er=>
  rw[hp]at h;dsimp only at h;exfalso;have h0:er=0:=K;subst h0;unfold vV at hp;split at hp;.cases hp
  .split at hp
   .cases hp
   .exact Mo A [] hp
def Ud(c:oO)(A:List yI)(v:jC)(w:M)(rows:List Row)(hp:vV c A=.ok rows)(ah:Kq w v A)(J:∀e,e∈A->e.nm.size<=jN/\e.tx.size<=jN/\e.id<18446744073709551616)(aa:qK w):
  jG jy 10 #[c.v,v] w (Ub c rows w):=by
 have ae:=H (wu (w:=w) c (t:=uk));obtain⟨g,hg⟩:=og w.heap.size;have af:jI (∀W,jD w.heap.size w W->jG jy 27 #[nI #[Y X c.fmt,Y nO c.mag,Y X c.pV,Y X c.qH,Y X c.dep,Y X c.pq],v] W (Bt c A W)):=H λW h=>Vs c A v W (ah.below h) J (aa.below h aa.lt)
 have ax:=H hp;obtain⟨ag,C⟩:=og (Ub c rows w);have ai:=H C;obtain⟨oa,cap,rfl,_⟩:=ah;unfold oO.v oO.cs;rw[hg]at ae af;rw[C];clear C hp aa J;go_in;go_upto_region 1 with fail;obtain⟨E,c0,c1,c2,c3,c4,c5⟩:=ae.out _ rfl;generalize w.alloc _=w1 at*;have aj:=H E;have ak:=H (af w1 E);clear ae E af;go_wp2_with fail;refine ak.mono ?_;rintro e w2 ⟨N,au⟩;rw[ax.out]at au;obtain⟨an,sb,r,bn,bi,L,rfl,hL,av,hl,I⟩:=au;have ay:jI (ag (nK (nG (U (Z sb 0 V)))) w2):=H (by
  rw[<-ai.out];have az:=aj.size;exact⟨(hg▸aj.out).trans (N.mono K),an,sb,r,bn,bi,L,rfl,hL,av,⟨K,hl.2.1,hl.2.2.1,hl.2.2.2.1,hl.2.2.2.2.1,hl.2.2.2.2.2.1,hl.2.2.2.2.2.2.mono K⟩,I⟩)
 clear N hL av hl I;go_wp2;try go_returns
 exact ay
end
section
open Go.RowKit Go.Maps
def Yc{t:nS TL}{a:IL}{m:Nat}(C:oJ t.lab t.sub=R)(h:qX t a m=R):
  (t.lab.kind=1/\a.list=O/\(a.text.length:Int)<=t.lab.size/\(a.text=[]\/∃b r,a.text=b::r/\b.toNat≠0))\/
  (t.lab.kind=2/\a.list=O/\(a.text.length:Int)=t.lab.size)\/
  (t.lab.kind=3/\a.list=O/\(a.text.length:Int)<=t.lab.size)\/
  (t.lab.kind=4/\a.list=R/\(m:Int)<=t.lab.size/\t.sub.length=1)\/
  (t.lab.kind=5/\a.list=R/\m<=t.sub.length/\(t.sub.length:Int) - t.lab.tail<=m/\t.sub.length<=16/\0<=t.lab.tail/\t.lab.tail<=t.sub.length):=by
 unfold oJ qo at C;simp only[decide_eq_true_eq]at C;unfold qX at h;split at h
 .rename_i hk
  simp only[yC,jJ,Bool.not_eq_true',decide_eq_true_eq]at h;obtain⟨⟨E,A⟩,I⟩:=h;refine .inl ⟨hk,E,I,?_⟩;unfold okL pM at A;split at A;.rename_i e;exact .inl e
  .rename_i b r e
   split at A;.cases A
   .split at A
    .cases A
    .rename_i hb
     exact .inr ⟨b,r,e,hb⟩
 .split at h
  .rename_i hk
   simp only[ze,jJ,Bool.not_eq_true',decide_eq_true_eq]at h;exact .inr (.inl ⟨hk,h⟩)
  .split at h
   .rename_i hk
    simp only[zf,jJ,Bool.not_eq_true',decide_eq_true_eq]at h;exact .inr (.inr (.inl ⟨hk,h⟩))
   .split at h
    .rename_i hk
     simp only[Ak,jJ,decide_eq_true_eq]at h;exact .inr (.inr (.inr (.inl ⟨hk,h.1,h.2,K⟩)))
    .split at h
     .rename_i hk
      simp only[yD,jJ,decide_eq_true_eq]at h;exact .inr (.inr (.inr (.inr ⟨hk,h.1.1,h.1.2,h.2,K,K,K⟩)))
     .cases h
end
section
open Go.RowKit
def Ue{t:nS TL}{x:nS IL}(h:qY t x=0):x.lab.text.length<=65536:=by
 unfold qY at h;split at h
 .rename_i N
  split at h
  .rename_i I
   have ht:=zi N.1;have aa:=(zQ N.2).1;obtain⟨a,s⟩:=x;have J:oJ t.lab t.sub=R:=by
    obtain⟨ta,ts⟩:=t;simp only[nS.all,jJ]at ht;exact ht.1
   have ae:qX t a s.length=R:=by
    have:rH (.node a s) t=(qX t a s.length&&sF s t 0):=rfl;rw[this]at I;simp only[jJ]at I;exact I.1
   simp only[nS.all,jJ]at aa;have hi:=aa.1;unfold p9 tu at hi;unfold oJ qo at J;simp only[decide_eq_true_eq]at J;show a.text.length<=65536;rcases Yc (by unfold oJ qo;simp only[decide_eq_true_eq];exact J) ae with⟨C,A,E,_⟩|⟨C,A,E⟩|⟨C,A,E⟩|⟨C,A,E,_⟩|⟨C,A,E⟩
   .omega
   .omega
   .omega
   .rw[AC A]at hi
    have:a.text=[]:=by simpa using hi
    rw[this];simp
   .rw[AC A]at hi
    have:a.text=[]:=by simpa using hi
    rw[this];simp
  .cases h
 .cases h
def Yd{c:oO}{C:List yI}(h:Gd c C=R):uN C=O/\oL c=R/\∃rows,vV c C=.ok rows:=by
 unfold Gd at h;simp only[jJ,Bool.not_eq_true',decide_eq_true_eq]at h;obtain⟨rows,A⟩:=a5h h.2;refine⟨h.1,?_,rows,A⟩;cases hc:oL c with
 |true=>rfl
 |false=>
  unfold vV at A;rw[AC hc]at A;cases A
def Ye{c:oO}{A:List yI}{rows:List Row}(h:vV c A=.ok rows):sD c [] A=.ok rows:=by
 unfold vV at h;split at h;.cases h
 .split at h
  .cases h
  .exact h
def a2l{c:oO}{A:List yI}{rows:List Row}(h:vV c A=.ok rows)(E:∀e,e∈A->e.id<18446744073709551616):∀r,r∈rows->r.id<18446744073709551616:=λr I=>by
 have J:sD c [] A=.ok rows:=Ye h;rcases(Od A [] rows J r.id).1 ⟨r,I,rfl⟩with⟨_,C,_⟩|⟨e,he,C⟩
 .cases C
 .rw[<-C];exact E e he
abbrev MgT:jX:=49
def VS(n1 n2:An)(x y:nS IL):Bool:=At (n1=n2)&&x.same Ll y
def a5i(a b:An):(a.toList==b.toList)=At (a=b):=by
 rw[Lib.toList_data,Lib.toList_data,Bool.eq_iff_iff,beq_iff_eq,decide_eq_true_iff];constructor;.intro h;apply ByteArray.ext;apply Array.ext';exact h
 .rintro rfl;rfl
def a2m(n1 n2:An)(x y:nS IL)(A C:Option kW)(c1 c2:Nat)(w:M)(af:qF w (u A x.sub.length c1) x.sub)(hy:qF w (u C y.sub.length c2) y.sub):
  jG jy 17 #[nI #[G n1,G (txt x.lab),nH x.lab.list,u A x.sub.length c1],nI #[G n2,G (txt y.lab),nH y.lab.list,u C y.sub.length c2]] w λe w'=>e=nK (nH (VS n1 n2 x y))/\jD w.heap.size w w':=by
 obtain⟨g,hg⟩:=og w.heap.size;have ag:jI (∀W,(w.alloc (nL #[G n1,G (txt x.lab),nH x.lab.list,u A x.sub.length c1] MgT)).alloc (nL #[G n2,G (txt y.lab),nH y.lab.list,u C y.sub.length c2] MgT)=W->nU W g #[G n1,G (txt x.lab),nH x.lab.list,u A x.sub.length c1] MgT/\nU W (g+1) #[G n2,G (txt y.lab),nH y.lab.list,u C y.sub.length c2] MgT/\jD g w W):=H λW I=>by
  subst I;have au:=(jE w.heap.size w).alloc (jB _) (nL #[G n1,G (txt x.lab),nH x.lab.list,u A x.sub.length c1] MgT);have ah:=nU.new (w.alloc (nL #[G n1,G (txt x.lab),nH x.lab.list,u A x.sub.length c1] MgT)) #[G n2,G (txt y.lab),nH y.lab.list,u C y.sub.length c2] MgT;rw[show(w.alloc (nL #[G n1,G (txt x.lab),nH x.lab.list,u A x.sub.length c1] MgT)).heap.size=g+1 by simp[hg]]at ah;exact⟨(hg▸nU.new w _ _:nU _ g _ _).alloc _,ah,hg▸au.alloc nX _⟩
 have ai:=H (λ(W:M) (h:jD g w W)=>Wz x y W _ _ (Shape.om.below af (hg.symm▸h)) (Shape.om.below hy (hg.symm▸h)));have hb:=a5i n1 n2;unfold VS;rw[hg];generalize x.same Ll y=av at*;obtain⟨eq,J⟩:=og (At (n1=n2));rw[J]at hb|-;clear af hy J;go_in;go_upto_region 1 with fail;generalize I:(w.alloc _).alloc _=w1;obtain⟨N,aa,E⟩:=ag.out _ I;obtain⟨c0,c1,c2,c3⟩:=N.a4;obtain⟨ax,ay,az,aA⟩:=aa.a4;have aj:=H (ai w1 E);have HB1:=H E;clear I N aa E ag ai;cases eq with
 |false=>
  exact Ik
 |true=>
  go_wp2_with fail;refine aj.mono ?_;rintro e w2 ⟨rfl,ae⟩;have ak:=H (HB1.trans (ae.mono (by have:=HB1.size;omega)));clear ae;go_wp2;go_returns;exact⟨by rw[mQ];rfl,ak.out⟩
def MsV(w:M)(v:jC)(L:List CJ):Prop:=∃oa cap,v=u oa L.length cap/\(∀(i:Nat)(y:CJ),L[i]? =U y->∃b,oa=U (Z b 0 V)/\b<w.heap.size/\∀j,j<4->w.cell? (Z b (i*4+j) V)=(mcl y)[j]?)/\∀y,y∈L->qF w y.ao y.m.val.sub
def qf.v{w:M}{Q:Nat->Prop}{v:jC}{L:List CJ}(h:qf w Q v L):MsV w v L:=by
 obtain⟨oa,cap,rfl⟩:=h.slice;refine⟨oa,cap,rfl,λi y hy=> ?_,λy hy=>(h.2.2 y hy).keep (jB _) (λ_ _ _=>trivial) λ_ _ _=>rfl⟩;obtain⟨b,e,_,hlt,_,_,hc,_⟩:=qd.at_ h.1 Nv hy;exact⟨b,e,hlt,hc⟩
def QV{r bn bi:Nat}{c:oO}{L:List oV}{w:M}(h:qG r bn bi c L w):((L.map λy=>y.r).map λr=>r.name).Nodup:=by
 obtain⟨A,_,_,hn,_⟩:=h.nm;rw[List.map_map]at hn|-;exact hn
def Kl{W:M}{Q:Nat->Prop}{n cap:Nat}{y:CJ}(h:qf W Q (u oa n cap) [y]):∃b,oa=U (Z b 0 V)/\b<W.heap.size/\(W.cell? (Z b 0 V)=U (G y.m.name)/\W.cell? (Z b 1 V)=U (G (txt y.m.val.lab))/\W.cell? (Z b 2 V)=U (nH y.m.val.lab.list)/\W.cell? (Z b 3 V)=U y.ao)/\qF W y.ao y.m.val.sub:=by
 obtain⟨J,A,C,E,I⟩:=qf.v h;injection C with e1 e2 e3
 obtain⟨b,hb,hlt,hc⟩:=E 0 y rfl;exact⟨b,e1.trans hb,hlt,⟨hc 0 nT,hc 1 nT,hc 2 nT,hc 3 nT⟩,I y nX⟩
def a2n:∀{L:List CJ}{m:G8},L.map (λy=>y.m)=[m]->∃y,L=[y]/\y.m=m
 |[y],m,h=>⟨y,rfl,by injection h⟩
 |[],m,h=>by cases h
 |_::_::_,m,h=>by injection h with _ h;cases h
structure Oi(c:oO)(L:List oV)(an r sb bn bi:Nat)(w0:M)(F Q:Nat->Prop)(lv:jC)(Lm:List CJ)(nd:Int)(W:M):Prop where
 ses:Ac W F r sb [] nd 0
 lm:qf W Q lv Lm
 ap:∀d,F d->¬Q d
 fg:∀d,F d->an<=d
 qg:∀d,Q d->an<=d
 hG:an<=W.heap.size
 ql:jD an w0 W
section
variable {c:oO}{L:List oV}{an r sb bn bi:Nat}{w0:M}{F Q:Nat->Prop}{lv:jC}{Lm:List CJ}{nd:Int}{W W':M}
def Oi.kp(h:Oi c L an r sb bn bi w0 F Q lv Lm nd W)(k:rF F W W')(hs:Ac W' F r sb [] nd 0):Oi c L an r sb bn bi w0 F Q lv Lm nd W':=
 ⟨hs,qf.keep h.lm k.size (λd hd C=>k.block d hd λA=>h.ap d A C) λ_ _ h=>h,h.ap,h.fg,h.qg,jM h.hG k.size,h.ql.trans (k.below (λd hd A=>by have:=h.fg d A;omega) h.hG)⟩
def Oi.lmk(h:Oi c L an r sb bn bi w0 F Q lv Lm nd W)(k:rF F W W'):qf W' Q lv Lm:=qf.keep h.lm k.size (λd hd A=>k.block d hd λC=>h.ap d C A) λ_ _ h=>h
def Oi.below(h:Oi c L an r sb bn bi w0 F Q lv Lm nd W)(hb:jD W.heap.size W W'):Oi c L an r sb bn bi w0 F Q lv Lm nd W':=
 have k:rF (λ_=>False) W W':=rF.of hb
 ⟨h.ses.kp k λ_ _ _ q=>q,qf.keep h.lm k.size (λd hd _=>hb.block d hd) λ_ _ h=>h,h.ap,h.fg,h.qg,jM h.hG k.size,h.ql.trans (hb.mono h.hG)⟩
end
def a2o{p:Prop}(h:p:=by
 go_wp2_with fail;refine(CR _ (HF _ Yj)).mono ?_;rintro e w3 ⟨rfl,hb3⟩;have HX3:=H (HF _ (C3X _ Yj _ hb3));clear hb3 c0 c1 c2 c3 c4 c5;go_wp2;go_returns;exact⟨rfl,HX3.out⟩):p:=h
def Yf(c:oO)(bE:Option kW)(au av:Nat)(aM:List yI)(s:An)(w:M)(dR:c.wf)(he:Ua w bE au av aM)(ag:s.size<=jN)(bF:qK w/\xW w):
  jG jy 4 #[c.v,u bE au av,G s] w λe w'=>e=nK (nH R)/\jD w.heap.size w w':=by
 obtain⟨gK,aD⟩:=he;obtain⟨g,hg⟩:=og w.heap.size;have dS:1<g:=hg▸bF.1.lt;have dU:0<g:=hg▸bF.2.lt;have aC:jI (∀W,jD g w W->qK W/\xW W):=H λW h=>⟨bF.1.below h dS,bF.2.below h dU⟩
 have bG:jI (∀W,jD g w W->Kq W (u bE au av) aM):=H λW h=>gK.below (hg.symm▸h)
 have gL:=H aD;have bH:=H dR;have gM:jI (∀W,jD g w W->jG jy 8 #[] W λe w'=>e=nK (nH R)/\jD W.heap.size W w'):=H λW h=>XZ W (aC W h).1 (aC W h).2
 have CR:jI (∀W,jD g w W->jG jy 9 #[nI #[Y X c.fmt,Y nO c.mag,Y X c.pV,Y X c.qH,Y X c.dep,Y X c.pq],u bE au av] W λe w'=>e=nK (nH (Gd c aM))/\jD W.heap.size W w'):=H λW h=>Yb c aM _ W (bG W h) λe he=>⟨(aD e he).1,(aD e he).2.1⟩
 have gN:jI (∀rows,vV c aM=.ok rows->∀W,jD g w W->jG jy 10 #[nI #[Y X c.fmt,Y nO c.mag,Y X c.pV,Y X c.qH,Y X c.dep,Y X c.pq],u bE au av] W (Ub c rows W)):=H λrows iK W h=>Ud c aM _ W rows iK (bG W h) aD (aC W h).1
 have fF:=H (wu (w:=w) c (t:=uk));have dV:jI (∀W,w.alloc (nL #[Y X c.fmt,Y nO c.mag,Y X c.pV,Y X c.qH,Y X c.dep,Y X c.pq] uk)=W->W.heap.size=g+1):=H λW h=>by subst h;simp[hg]
 have iW:s.size<=9223372036854775807:=by unfold jN at ag;omega
 unfold oO.v oO.cs;rw[hg]at fF|-;clear gK aD bF dS dU dR ag;go_in;go_upto_region 1 with fail;obtain⟨dW,c0,c1,c2,c3,c4,c5⟩:=fF.out _ rfl;have dX:=dV.out _ rfl;generalize w.alloc _=w1 at*;have dY:=H dW;have bq:jI (∀W,jD (g+1) w1 W->W.cell? (Z g 0 V)=U (Y X c.fmt)/\W.cell? (Z g 1 V)=U (Y nO c.mag)/\W.cell? (Z g 2 V)=U (Y X c.pV)/\W.cell? (Z g 3 V)=U (Y X c.qH)/\W.cell? (Z g 4 V)=U (Y X c.dep)/\W.cell? (Z g 5 V)=U (Y X c.pq)):=H λW h=>
  have q:∀i,W.cell? (Z g i V)=w1.cell? (Z g i V):=λi=>h.cell (p:=(Z g i V)) (lF g)
  ⟨(q 0).trans c0,(q 1).trans c1,(q 2).trans c2,(q 3).trans c3,(q 4).trans c4,(q 5).trans c5⟩
 have bI:=H dX;have HF:jI (∀W,jD (g+1) w1 W->jD g w W):=H λW h=>dY.trans (h.mono K)
 clear fF dV dW dX c0 c1 c2 c3 c4 c5;go_wp2_with fail;refine(gM _ dY).mono ?_;rintro e w2 ⟨rfl,dZ⟩;have Yj:jI (jD (g+1) w1 w2):=H (bI.out▸dZ);obtain⟨c0,c1,c2,c3,c4,c5⟩:=bq.out _ Yj.out;clear dZ;have C3X:jI (∀W,jD (g+1) w1 W->∀fG,jD W.heap.size W fG->jD (g+1) w1 fG):=H λW h fG iL=>h.trans (iL.mono (by have:=h.size;have:=bI.out;omega))
 obtain⟨RT,bJ⟩:=og (Gd c aM);have gP:=H bJ;rw[bJ]at CR;clear bJ;cases RT with
 |false=>
  exact a2o
 |true=>
 obtain⟨gQ,A,rows,aT⟩:=Yd gP.out;have A:=H A;have aU:=H aT;clear aT gQ;by_cases bK:1000<s.size
 .have iM:At ((s.size:Int)>1000)=R:=nY
  have iN:At ((1000:Int)<(s.size:Int))=R:=nY;clear bK;exact a2o
 have iM:At ((s.size:Int)>1000)=O:=nY;have iN:At ((1000:Int)<(s.size:Int))=O:=nY;have aa:jI (s.size<=1000):=H K;clear bK;go_wp2_with fail;refine(CR _ (HF _ Yj)).mono ?_;rintro e w3 ⟨rfl,hb3⟩;have HX3:=H (C3X _ Yj _ hb3);clear hb3 c0 c1 c2 c3 c4 c5;obtain⟨c0,c1,c2,c3,c4,c5⟩:=bq.out _ HX3.out;go_wp2_with fail;refine(gN _ aU _ (HF _ HX3)).mono ?_;rintro e w5 ⟨ed,an,sb,r,bn,bi,L,rfl,hL,gT,hl,bL⟩;have aV:=H (C3X _ HX3 _ ed);have C:jI (g+1<=an/\an<=sb/\an<=w5.heap.size):=H (by have:=HX3.size;have:=bI.out;omega);have ai:jI (∀W,jD an w5 W->qG r bn bi c L W/\qK W/\xW W):=H λW h=>⟨bL W h,aC W (HF W (aV.trans (h.mono C.1)))⟩
 have aN:=H hL;have gU:jI ((rows.map λq=>q.name).Nodup):=H (aN.out▸QV (ai w5 (jE _ _)).1);have fH:jI (∀q,q∈rows->qc q.ty=R/\(c.fmt=1->GJ q.ty=R)):=H λq aF=>by
  rw[<-aN.out]at aF;obtain⟨x,fI,rfl⟩:=List.mem_map.1 aF;have h:=(ai w5 (jE _ _)).1.may x fI;exact⟨h.1,h.2.1⟩
 have fJ:jI (∀q,q∈L->q.r.id<18446744073709551616):=H λq aF=>a2l aU (λe he=>(gL e he).2.2) _ (aN.out▸List.mem_map.2 ⟨q,aF,rfl⟩)
 have bM:=FN (λd=>an<=d) sb r bn bi c L [] 0 0 s w5 A bH (gT.f C.2.1) (by simp only[List.length_nil];have:=aa.out;omega) λW fK=>ai.out W (EA fK C.2.2)
 rw[aN.out]at bM;have bM:=H bM;clear ed hL gT hl bL c0 c1 c2 c3 c4 c5 gM CR gN;go_wp2_with fail;refine bM.mono ?_;rintro e aG ⟨mb,lv,Lm,rfl,f1,f2,f3,f4,Q,gV,gW,dN⟩;obtain⟨oa,ek,rfl⟩:=f1.slice;obtain⟨P,fM⟩:=og (sO c rows mb [] 0 0 s);rw[fM]at f2 f3 dN|-;obtain⟨told,ax,ay,aW⟩:=P;dsimp only at f2 f3 dN|-;have fO:=H fM;have gX:=H f2;have eu:jI (jD (g+1) w1 aG):=H (aV.trans ((EA f4 C.2.2).mono C.1));have aO:=H (EA f4 C.2.2);have bN:=H (HF _ eu);have gY:jI (x9 aG an r sb ax ay aW):=H (f3.mono λb _ hb=>hb.elim id λh=>jM C.2.2 h).at_;obtain⟨aP,eB⟩:=og aG.heap.size;have eD:=H eB;clear eB;have gZ:jI (Ac aG (λb=>((an<=b\/w5.heap.size<=b)/\¬Q b)/\b<aP) r sb ax ay aW):=H (dN.mono λ_ hb aj=>⟨aj,eD.out▸hb⟩);have eF:=H (jF gV gW);obtain⟨m,bO⟩:=og Lm.length;have iO:=H bO;rw[bO];have iX:m<=9223372036854775807:=by
  rcases f1.1.form with⟨_,h0⟩|⟨jk,iP,iY,iZ,_,_,ib,fP,_⟩
  .rw[h0]at bO;simp at bO;omega
  .unfold jN at fP;omega
 clear f1 f2 f3 f4 gV gW dN fM bO bM;by_cases bP:aW=0;rotate_left
 .have u1:(aW !=0)=R:=by rw[bne_iff_ne];exact bP
  clear bP;go_wp2;go_returns;exact⟨rfl,bN.out⟩
 subst bP;by_cases eG:m=1;rotate_left
 .have u2:((m:Int) !=1)=R:=EX
  clear eG;go_wp2;go_returns;exact⟨rfl,bN.out⟩
 subst eG;have fQ:=H (Ez an r sb ax ay 0 aG gY);by_cases az:ax=[];rotate_left
 .have u3:((ax.length:Int) !=0)=R:=by rw[bne_iff_ne];have:=List.length_pos_iff.2 az;omega
  clear az;go_wp2_with fail;refine fQ.mono ?_;rintro e iQ ⟨rfl,rfl⟩;go_wp2;go_returns;exact⟨rfl,bN.out⟩
 subst az;obtain⟨y,hy⟩:∃y,Lm=[y]:=by
  match Lm,iO with
  |[y],_=>exact⟨y,rfl⟩
 subst hy;obtain⟨m2,aA⟩:=a1L A (rows:=rows) (mb:=mb) (ch:=s) (m:=y.m) (by have:=aa.out;omega) (by rw[fO.out];exact gX.symm) (by rw[fO.out]);obtain⟨F,bQ,hdec,henc,bR,fT,hlen⟩:=a4V A gU fH aa aA
 have aH:jI (Oi c L an r sb bn bi w5 (λb=>((an<=b\/w5.heap.size<=b)/\¬Q b)/\b<aP) Q (u oa 1 ek) [y] ay aG):=H
  ⟨gZ.out,eF.1,λd aj aF=>aj.1.2 aF,λd aj=>aj.1.1.elim id (jM C.2.2),λd aF=>jM C.2.2 (eF.2 d aF),by have:=aO.size;have:=C.out;omega,aO.out⟩
 have ig:jI (c.fmt=3->ay=0):=H λf3=>by
  have h:=Ka A f3 aA (zk A (s:=s) (by have:=aa.out;omega) (mt:=Yq mb s) (y:=(F,s.size)) (by rw[bQ])).1;rw[fO.out]at h;injection h with _ h
  injection h with _ h
  injection h
 have aI:=H (jF aA (jF bQ (jF hdec henc)));have ik:=H bR;obtain⟨jl,bS,aJ,eH,_⟩:=fT;have bT:y.m.name.size<=12:=by
  rw[aJ];rw[<-aN.out]at bS;obtain⟨x,fI,rfl⟩:=List.mem_map.1 bS;exact((ai w5 (jE _ _)).1.may x fI).2.2
 have eO:=Ue eH;obtain⟨⟨nm,x⟩,ov,cv⟩:=y;dsimp only at*;have bU:=H (jF bT (jF eO hlen));have eP:jI (∀d,(λb=>((an<=b\/w5.heap.size<=b)/\¬Q b)/\b<aP) d->d<aP):=H λd h=>h.2
 generalize (λb=>((an<=b\/w5.heap.size<=b)/\¬Q b)/\b<aP)=iq at*;obtain⟨b,rfl,_,⟨bu,bz,bA,bB⟩,ae⟩:=Kl aH.lm;have eQ:jI (∀W,qf W Q (u (U (Z b 0 V)) 1 ek) [⟨⟨nm,x⟩,ov,cv⟩]->b<W.heap.size/\(W.cell? (Z b 0 V)=U (G nm)/\W.cell? (Z b 1 V)=U (G (txt x.lab))/\W.cell? (Z b 2 V)=U (nH x.lab.list)/\W.cell? (Z b 3 V)=U (u ov x.sub.length cv))/\qF W (u ov x.sub.length cv) x.sub):=H λW h=>by
  obtain⟨b',e,h0,ib,fP⟩:=Kl h;injection e with e
  injection e with e _ _
  subst e;exact⟨h0,ib,fP⟩
 clear aA bQ hdec henc bR bS aJ eH eO bT hlen bu bz bA bB ae;obtain⟨_,⟨bu,bz,bA,bB⟩,ae⟩:=eQ.out aG aH.lm;obtain⟨c0,c1,c2,c3,c4,c5⟩:=bq.out _ eu.out;have bC:=Mc iq sb r bn bi c L [] ay 0 nm x ov cv aG A bH aH.ses (λW h=>ai.out W (aO.trans (h.mono aH.hG))) fJ (by have:=bU.1;unfold jN;omega) ae (by have:=bU.2.1;unfold jN;omega) bU.2.2;rw[aN.out]at bC;obtain⟨ac,fU⟩:=og ((vO c rows nm x).1);obtain⟨E,fV⟩:=og ((vO c rows nm x).2);have aX:=H (jF fU fV);rw[fU,fV]at bC;have bC:=H bC;clear fU fV ae;go_wp2_with fail;refine fQ.mono ?_;rintro e iQ ⟨rfl,rfl⟩;go_wp2_with fail;refine bC.mono ?_;rintro e bV ⟨rfl,eT,bW⟩;have eU:=H (aH.kp bW eT);have iw:jI (aP<=bV.heap.size):=H (eD.out▸bW.size);have bX:jI (jD (g+1) w1 bV):=H (aV.trans (eU.ql.mono C.1));clear c0 c1 c2 c3 c4 c5 bu bz bA bB eT bW bC fQ;obtain⟨c0,c1,c2,c3,c4,c5⟩:=bq.out _ bX.out;have eX:=H (HF _ bX);by_cases f3:c.fmt=3;rotate_left
 .have t3:(c.fmt !=3)=R:=by rw[bne_iff_ne];exact f3
  have bY:=XN (m:=⟨nm,x⟩) A aa f3 aI.2.1 aI.2.2.2 ik.out;have iy:ac=s:=by rw[<-aX.1,bY]
  have bZ:E=0:=by rw[<-aX.2,bY]
  subst iy bZ;have t4:(ac.toList==ac.toList)=R:=nX;clear bY f3;go_wp2;go_returns;exact⟨rfl,eX.out⟩
 have t3:(c.fmt !=3)=O:=by simp[f3]
 by_cases cz:E=5
 .have t4:((E:Int)==5)=R:=by rw[beq_iff_eq];exact cz
  clear cz f3;go_wp2;go_returns;exact⟨rfl,eX.out⟩
 have t4:((E:Int)==5)=O:=by rw[beq_eq_false_iff_ne];exact cz
 obtain⟨pk,hp,hid,aJ,eY,eZ⟩:=a5G A f3 (by have:=aa.out;omega) aI.2.1;have ag:=a7D A f3 aI.2.2.2 hid aJ eZ;rw[aX.1,aX.2]at ag;obtain⟨bZ,fq,aY⟩:=ag.resolve_left cz;subst bZ;obtain⟨iA,aK,_,_,cK,_⟩:=a5G A f3 K (aY V rfl);have cZ:=(zk A (s:=ac) K (mt:=V) (y:=(F,ac.size)) (by rw[aY V rfl])).1;have iB:=ig.out f3;subst iB;obtain⟨aB,ja,ak⟩:=F;dsimp only at*;have iC:jI ((⟨ak.data.toList.toArray⟩:An)=ak):=H (ByteArray.ext nX);have fu:=H (λaf W=>GM af c s pk aB s.size _ _ _ W A f3 (by have:=aa.out;omega) hp eY);have fw:=H (λaf W=>GM af c ac iA aB ac.size _ _ _ W A f3 K aK cK);rw[iC.out]at fu fw;have iD:jI (∀mb,sO c rows mb [] 0 0 ac=([⟨nm,x⟩],[],0,0)):=H λmb=>by
  have aA:ru c rows ac (Yq mb ac)=(.ok (⟨nm,x⟩,ac.size),rD ak.size (Yq mb ac)):=by
   unfold ru;rw[aY _ (a7E mb ac ak.size K (by have:=(p8 A.out).2.2.1;omega))];dsimp only;rw[aI.2.2.1]
  exact Ka A f3 aA cZ
 have iE:=H (jF fq cZ);have fZ:=a5a bV;have df:XU.length=72:=tV _ _ _;have hsz:(Tryz.prog.info? TH).map (·.size)=U (kA XU).size:=by rw[Cg,df];exact(zero_of_info (P:=jy) EP).2
 have dh:=a1X XU;have iR:=(zero_of_info (P:=jy) EP).1;have fA:(kA (ky 72 0)).size=(kA XU).size:=by rw[Cg,Cg,df,List.length_replicate]
 generalize kA XU=af at*;generalize kA (ky 72 0)=gm at*;have dw:=H (jF hsz (jF dh fA));have fZ:=H fZ;clear hp hid aJ eY eZ ag fq aY aK cK cZ cz f3 hsz dh fA df;go_wp2_with fail;refine fZ.mono ?_;rintro e bD ⟨rfl,fB⟩;obtain⟨gk,dx⟩:=og bD.heap.size;have aQ:jI (nU (bD.alloc (nL gm TH)) gk gm TH):=dx▸nU.new bD gm _;have aZ:=H fB;clear fB c0 c1 c2 c3 c4 c5;go_upto_region 17 with(refine wpList_store_row rfl TH (.tmp 12) (.tmp 77) rfl gk af rfl rfl _ gm aQ dw.1 dw.2.2 dw.2.1 ?_)
 have fC:nU ((bD.alloc (.cells gm TH)).setRow gk af) gk af TH:=aQ.setRow af;have hb3:jD bV.heap.size bV ((bD.alloc (.cells gm TH)).setRow gk af):=Below.setRow (aZ.alloc aZ.size _) (dx▸aZ.size) af;clear aQ dx iR aZ;generalize (bD.alloc (.cells gm TH)).setRow gk af=jb at*;have gp:=H (eU.below hb3);have dz:=H (C3X _ bX _ hb3);have aR:=H fC;have gq:=H hb3.size;clear fC hb3;obtain⟨c0,c1,c2,c3,c4,c5⟩:=bq.out _ dz.out;go_wp2_with (refine wpList_load_row rfl TH (.tmp 12) rfl gk rfl _ af (0,0) _ aR Tryz.underlying33 rfl dw.1 ?_);refine(fu af _).mono ?_;rintro e J ⟨jm,rfl,hb⟩;have gu:=H (gp.below hb);have gy:=H (C3X _ dz _ hb);have dA:=H (Below.blk hb aR aR.lt);have fD:jI (aP<=J.heap.size):=H (by have:=iw.out;have:=gq.out;have:=hb.size;omega);obtain⟨dB,iF⟩:=og J.heap.size;have dD:jI (∀W,J.alloc (.cells #[.int .u64 aB,.string ⟨#[]⟩,.string ak] rq)=W->jD J.heap.size J W/\nU W dB #[.int .u64 aB,.string ⟨#[]⟩,.string ak] rq):=H λW h=>by
  subst h;exact⟨(jE J.heap.size J).alloc (jB _) _,iF▸nU.new J _ _⟩
 clear hb c0 c1 c2 c3 c4 c5;go_upto_region 18 with fail;obtain⟨hb,hk⟩:=dD.out _ rfl;generalize J.alloc _=jc at*;have gz:=H (gu.below hb);have dE:=H (C3X _ gy _ hb);have aS:=H (jF (Below.blk hb dA dA.lt) hk);have gB:=H hb.size;clear hb hk dD;obtain⟨c0,c1,c2,c3,c4,c5⟩:=bq.out _ dE.out;go_wp2_with (refine wpList_load_row rfl TH (.tmp 12) rfl gk rfl _ af (0,0) _ aS.1 Tryz.underlying33 rfl dw.1 ?_);refine(fw af _).mono ?_;rintro e ah ⟨jo,rfl,hb⟩;have gD:=H (gz.below hb);have iT:=H (C3X _ dE _ hb);have dF:=H (Below.blk hb aS.2 aS.2.lt);have dG:jI (J.heap.size<=dB/\J.heap.size<=ah.heap.size):=H (by have:=gB.out;have:=hb.size;omega);obtain⟨dO,aK⟩:=og ah.heap.size;rw[aK]at dG;have dH:jI (∀W,ah.alloc (.cells #[.int .u64 aB,.string ⟨#[]⟩,.string ak] rq)=W->jD ah.heap.size ah W/\nU W dO #[.int .u64 aB,.string ⟨#[]⟩,.string ak] rq):=H λW h=>by
  subst h;exact⟨(jE ah.heap.size ah).alloc (jB _) _,aK▸nU.new ah _ _⟩
 clear hb c0 c1 c2 c3 c4 c5;go_upto_region 19 with fail;obtain⟨hb,hk⟩:=dH.out _ rfl;generalize ah.alloc _=iG at*;have N:=H (gD.below hb);have dI:=H (jF (Below.blk hb dF dF.lt) hk);clear hb hk dH;have aL:=FN iq sb r bn bi c L [] 0 0 ac iG A bH N.ses (by simp only[List.length_nil];have:=iE.out;omega) λW fK=>ai.out W (N.ql.trans (fK.below (λd hd aj=>by have:=N.fg d aj;omega) N.hG))
 rw[aN.out]at aL;have aL:=H aL;go_wp2_with fail;refine aL.mono ?_;rintro e I ⟨jd,je,jf,rfl,f1,f2,f3,f4,_⟩;obtain⟨jg,jh,rfl⟩:=f1.slice;rw[iD.out]at f2 f3|-;dsimp only at f2 f3|-;obtain⟨y2,rfl,fE⟩:=a2n f2;obtain⟨ji,iH,iI⟩:=y2;dsimp only at fE;subst fE;obtain⟨az,⟨bu,bz,bA,bB⟩,ae⟩:=eQ.out I (N.lmk f4);obtain⟨gF,rfl,dJ,⟨gG,gH,gI,gJ⟩,bg⟩:=Kl f1;have r1:=f4.blk dI.1 λaj=>by have:=eP.out _ aj;have:=fD.out;have:=dG.out;omega
 have r2:=f4.blk dI.2 λaj=>by have:=eP.out _ aj;have:=fD.out;have:=dG.out;omega
 have dK:jI (jD (g+1) w1 I):=H (aV.trans ((N.ql.trans (f4.below (λd hd aj=>by have:=N.fg d aj;omega) N.hG)).mono C.1));have dP:∀(i:Nat)(v:jC),I.cell? (Z dB i V)=U v->∀q:sW I,q.at_.cell? (Z dB i V)=U v:=λi v h q=>(q.is.cell (p:=(Z dB i V)) r1.lt).trans h
 have dQ:∀(i:Nat)(v:jC),I.cell? (Z dO i V)=U v->∀q:sW I,q.at_.cell? (Z dO i V)=U v:=λi v h q=>(q.is.cell (p:=(Z dO i V)) r2.lt).trans h
 have dL:∀(i:Nat)(v:jC),I.cell? (Z b i V)=U v->∀q:sW I,q.at_.cell? (Z b i V)=U v:=λi v h q=>(q.is.cell (p:=(Z b i V)) az).trans h
 have dM:∀(i:Nat)(v:jC),I.cell? (Z gF i V)=U v->∀q:sW I,q.at_.cell? (Z gF i V)=U v:=λi v h q=>(q.is.cell (p:=(Z gF i V)) dJ).trans h
 have jq:=dP 0 _ (r1.cell 0);have jr:=dP 1 _ (r1.cell 1);have jv:=dP 2 _ (r1.cell 2);have v0:=dQ 0 _ (r2.cell 0);have v1:=dQ 1 _ (r2.cell 1);have v2:=dQ 2 _ (r2.cell 2);have bu:=dL 0 _ bu;have bz:=dL 1 _ bz;have bA:=dL 2 _ bA;have bB:=dL 3 _ bB;have gG:=dM 0 _ gG;have gH:=dM 1 _ gH;have gI:=dM 2 _ gI;have gJ:=dM 3 _ gJ;dsimp only[CJ.ao]at gG gH gI gJ;have ag:VS nm nm x x=R:=by unfold VS;rw[IZ];simp
 have iU:=H (λq:sW I=>ag▸a2m nm nm x x ov iH cv iI q.at_ (Shape.om.below ae q.is) (Shape.om.below bg q.is));have iJ:jI (∀q:sW I,jD g w q.at_):=H λq=>HF.out _ (C3X _ dK _ q.is)
 clear dP dQ dL dM r1 r2 ae bg ag az dJ f1 f2 f3 f4 aL dK;go_upto_region 20 with fail;refine oK nV nV ?_;repeat(go_big_quiet_step (fail))
 go_big_quiet_step (exact Calls.after (iU _));repeat(go_big_quiet_step (fail))
 refine l7 ?_;intro q;have iV:=H (iJ q);go_wp2;go_returns;exact⟨rfl,iV.out⟩
end
end Go.Proofs.YtamfcjmhnndbdaaGreatDoor


