/- Part 10 of the proof. -/
import Derived.Test.YtamfcjmhnndbdaaGreatDoorZu00
import Derived.Test.YtamfcjmhnndbdaaGreatDoorZu06
import Derived.Test.YtamfcjmhnndbdaaGreatDoorZu09
import Derived.OwnWalk
import Derived.Deep.AppendLies
import Derived.Deep.RegionHeld
import Derived.WalkKit
import Derived.StillTail
import Derived.Deep.RegionHeld3
open Go.Value renaming agg→nC,bool→nA,int→ng,pointer→nz,slice→nk,string→ny,tuple→nD,ownBlock→kJ,slice→kM
open Go.Obj renaming cells→nG
open Go.IntKind renaming i64→nH
open Go.Ending renaming returned→nE
open Go.Lib renaming hid→jH
open Go.Proofs.Tryz renaming prog→jI
open Go renaming World→jJ,Value→jP,Calls→jV,bodyPost_ret→j4,maxLen→j5,TypeId→ko,undef→kH,results→kK,wpAnyH_take→kU,wpAnyH_ready→lW,Oper→lX,Addr→l5,Program→mK
open List renaming setIfInBounds_toArray→jK,getElem?_cons_succ→jM,getElem?_cons_zero→jN,getElem?_toArray→jO,set_cons_zero→jQ,set_cons_succ→jR,getElem?_eq_getElem→jX,length_append→jY,take_succ_cons→ky,length_cons→kD,take_zero→kQ,mem_of_getElem?→kT,length_take→kY,getElem?_eq_some_iff→ll,all_eq_true→lY,range→l7,length_eq_zero_iff→mf,mem_range→mg,map_cons→mH
open Nat renaming le_refl→jL,le_trans→kg,lt_of_lt_of_le→kG,zero_le→kI,add_assoc→kP,lt_or_ge→lh,add_mul→lS,mul_le_mul_right→lZ
open Go.RowKit renaming Below→jS,Hid→jW
open Go.RowKit.Below renaming refl→jT,heap_setCell→j6
open And renaming intro→jU
open Array renaming getElem?_eq_some_iff→ku,replicate→lI,getElem?_modify→lL
open Go.World renaming setCell→kC
open Go.Act renaming put→kE
open Or renaming inl→kL
open Go.AllReadyH renaming cons→kZ,nil→lC
open Go.Code renaming region→lg
open Go.Region renaming ready→lQ,binds→mr
open Option.some renaming inj→ma
namespace Go.Proofs.YtamfcjmhnndbdaaGreatDoor
set_option linter.unusedVariables false
set_option linter.unusedSimpArgs false
set_option maxRecDepth 100000
set_option maxHeartbeats 8000000
variable {t t':ko}
section
open Go.RowKit
abbrev rW:ko:=63
theorem Sa{w:jJ}{Q:Nat->Prop}{oa:Option l5}{n cap:Nat}{s:List (nL TL)}(h:oh.nX w Q (nk oa n cap) s){i:Nat}{x:nL TL}(A:s[i]? =some x):
  ∃b off ou cu,oa=some ⟨b,off,none⟩/\b<w.heap.size/\Q b/\w.cell? ⟨b,off+i*4,none⟩=some (ng nH x.lab.kind)/\w.cell? ⟨b,off+i*4+1,none⟩=some (ng nH x.lab.size)/\
   w.cell? ⟨b,off+i*4+2,none⟩=some (nk ou x.sub.length cu)/\w.cell? ⟨b,off+i*4+3,none⟩=some (ng nH x.lab.tail)/\oh.nX w Q (nk ou x.sub.length cu) x.sub:=by
 obtain⟨N,C,E,O,U,I⟩:=Shape.nX.get h;cases E;obtain⟨b,off,u,e,hb,J,ho,hc,hs⟩:=I i x A;obtain⟨ou,cu,rfl,_⟩:=hs;exact⟨b,off,ou,cu,e,hb,J,by simpa [oh,kP]using hc 0 nN,by simpa [oh,kP]using hc 1 nN,by simpa [oh,kP]using hc 2 nN,by simpa [oh,kP]using hc 3 nN,⟨ou,cu,rfl,‹_›⟩⟩
def Ea(Q:Nat->Prop)(y:nL TL)(b:Bool)(w:jJ)(e:Ending)(w':jJ):Prop:=
 ∃ou cu,e=nE (nD #[nC #[ng nH y.lab.kind,ng nH y.lab.size,nk ou y.sub.length cu,ng nH y.lab.tail],nA b])/\oh.nX w' Q (nk ou y.sub.length cu) y.sub/\jS w.heap.size w w'
def yQ(w:jJ)(k:Nat)(a b c d:jP):jJ:=(((w.setCell ⟨k,0,none⟩ a).setCell ⟨k,1,none⟩ b).setCell ⟨k,2,none⟩ c).setCell ⟨k,3,none⟩ d
theorem tJ(w:jJ)(k:Nat)(a b c d:jP):(((w.setCell ⟨k,0,none⟩ a).setCell ⟨k,1,none⟩ b).setCell ⟨k,2,none⟩ c).setCell ⟨k,3,none⟩ d=yQ w k a b c d:=rfl
theorem tY{B k:Nat}{w0 w:jJ}{a b c d:jP}(h:jS B w0 w)(hk:B<=k):jS B w0 (yQ w k a b c d):=
 (((h.setCell (p:=⟨k,0,none⟩) hk _).setCell (p:=⟨k,1,none⟩) hk _).setCell (p:=⟨k,2,none⟩) hk _).setCell (p:=⟨k,3,none⟩) hk _
theorem rD{w:jJ}{k:Nat}{a b c d a0 b0 c0 A:jP}(h:nO w k #[a0,b0,c0,A] t):nO (yQ w k a b c d) k #[a,b,c,d] t:=(((h.set 0 a).set 1 b).set 2 c).set 3 d
theorem oF{W:jJ}{k:Nat}{a b c d:jP}(h:nO W k #[a,b,c,d] t):(W.cell? ⟨k,0,none⟩=some a/\W.cell? ⟨k,1,none⟩=some b/\W.cell? ⟨k,2,none⟩=some c/\W.cell? ⟨k,3,none⟩=some d)/\
  W.frozen? ⟨k,0,none⟩=false/\W.frozen? ⟨k,1,none⟩=false/\W.frozen? ⟨k,2,none⟩=false/\W.frozen? ⟨k,3,none⟩=false:=⟨⟨h.cell 0,h.cell 1,h.cell 2,h.cell 3⟩,h.free 0,h.free 1,h.free 2,h.free 3⟩
theorem XB{w:jJ}{g:Nat}(hg:w.heap.size=g):∀W,w.alloc (nG #[ng nH 0,ng nH 0,nk none 0 0,ng nH 0] rW)=W->jS g w W/\nO W g #[ng nH 0,ng nH 0,nk none 0 0,ng nH 0] rW:=by
 rintro W rfl;subst hg;exact⟨(jT _ _).alloc (jL _) _,nO.new w _ _⟩
theorem a02(tb i:Nat)(a:TL)(y:nL TL)(ot:Option l5)(n ct:Nat)(s:List (nL TL))(Q:Nat->Prop)(w:jJ)(ht:nO w tb #[ng nH a.kind,ng nH a.size,nk ot n ct,ng nH a.tail] rW)(hs:oh.nX w Q (nk ot n ct) s)(U:s[0]? =some y):
  jV jI 250 #[ng nH i,nz (some ⟨tb,0,none⟩)] w (Ea Q y true w):=by
 obtain⟨av,aa,ae,ax,ay,_⟩:=Shape.nX.get hs;have hlen:0<s.length:=(ll.1 U).1;cases ae;obtain⟨b,off,ou,cu,rfl,hb,af,c0,c1,c2,c3,C⟩:=Sa hs U;rw[Nat.zero_mul,Nat.add_zero]at c0 c1 c2 c3;obtain⟨g,hg⟩:=nT w.heap.size;have V:=jH (XB hg);have A:b<g:=hg▸hb;have Y:tb<g:=hg▸ht.lt;have O:=jH (λW (h:jS g w W)=>(Shape.nX.below C (hg.symm▸h):oh.nX W Q (nk ou y.sub.length cu) y.sub));have Z:jW (∀W,jS g w W->(W.cell? ⟨tb,2,none⟩=some (nk (some ⟨b,off,none⟩) s.length ct))/\W.cell? ⟨b,off,none⟩=some (ng nH y.lab.kind)/\W.cell? ⟨b,off+1,none⟩=some (ng nH y.lab.size)/\W.cell? ⟨b,off+2,none⟩=some (nk ou y.sub.length cu)/\W.cell? ⟨b,off+3,none⟩=some (ng nH y.lab.tail)):=jH λW h=>
  ⟨(h.cell (p:=⟨tb,2,none⟩) Y).trans (ht.cell 2),(h.cell (p:=⟨b,off,none⟩) A).trans c0,(h.cell (p:=⟨b,off+1,none⟩) A).trans c1,(h.cell (p:=⟨b,off+2,none⟩) A).trans c2,(h.cell (p:=⟨b,off+3,none⟩) A).trans c3⟩
 unfold Ea;rw[hg];clear ht hs C c0 c1 c2 c3 hb af;generalize s.length=N at*;generalize y.sub.length=M at*;go_in;go_upto_region 1 with fail;obtain⟨E,I⟩:=V.out _ rfl;generalize w.alloc _=w1 at*;obtain⟨az,e1,e2,e3,e4⟩:=Z.out _ E;obtain⟨⟨aA,aB,y2,aC⟩,aD,aF,aG,aH⟩:=oF I;have ag:=jH E;have ah:=jH I;clear V E I Z;go_wp2_with fail;rw[tJ];obtain⟨⟨ai,aj,ak,au⟩,_⟩:=oF (rD (a:=ng nH y.lab.kind) (b:=ng nH y.lab.size) (c:=nk ou M cu) (d:=ng nH y.lab.tail) ah);have J:=tY (a:=ng nH y.lab.kind) (b:=ng nH y.lab.size) (c:=nk ou M cu) (d:=ng nH y.lab.tail) ag (jL g);refine j4 (v:=nD #[nC #[ng nH y.lab.kind,ng nH y.lab.size,nk ou M cu,ng nH y.lab.tail],nA true]) (by simp[kK,Tryz.results250,go_sem,ai,aj,ak,au]) rfl ⟨ou,cu,rfl,O _ J,J⟩
structure LV(g tb rb cb lb fb:Nat)(r:RS)(a:TL)(ot:Option l5)(n ct:Nat)(w0:jJ)(k z:Int)(ou:Option l5)(nu cu:Nat)(tl:Int)(W:jJ):Prop where
 tb:nO W tb #[ng nH a.kind,ng nH a.size,nk ot n ct,ng nH a.tail] rW
 rb:nO W rb (EJ cb lb fb) EZ
 rd:wo W cb r
 rs:nO W g #[ng nH k,ng nH z,nk ou nu cu,ng nH tl] rW
 qa:jS g w0 W
theorem LV.drewN{g tb rb cb lb fb:Nat}{r:RS}{a:TL}{ot:Option l5}{n ct:Nat}{w0:jJ}{k z:Int}{ou:Option l5}{nu cu:Nat}{tl:Int}{W:jJ}(h:LV g tb rb cb lb fb r a ot n ct w0 k z ou nu cu tl W)(m:Nat):LV g tb rb cb lb fb r a ot n ct w0 k z ou nu cu tl (W.drewN m):=
 ⟨h.tb,h.rb,h.rd,h.rs,⟨h.qa.os,h.qa.tape,h.qa.output,h.qa.size,h.qa.block⟩⟩
theorem LV.drew{g tb rb cb lb fb:Nat}{r:RS}{a:TL}{ot:Option l5}{n ct:Nat}{w0:jJ}{k z:Int}{ou:Option l5}{nu cu:Nat}{tl:Int}{W:jJ}(h:LV g tb rb cb lb fb r a ot n ct w0 k z ou nu cu tl W):LV g tb rb cb lb fb r a ot n ct w0 k z ou nu cu tl W.drew:=
 ⟨h.tb,h.rb,h.rd,h.rs,⟨h.qa.os,h.qa.tape,h.qa.output,h.qa.size,h.qa.block⟩⟩
theorem LV.put{g tb rb cb lb fb:Nat}{r:RS}{a:TL}{ot:Option l5}{n ct:Nat}{w0:jJ}{k z J N:Int}{ou A:Option l5}{nu cu C E:Nat}{tl I:Int}{W:jJ}(h:LV g tb rb cb lb fb r a ot n ct w0 k z ou nu cu tl W)(O:tb<g)(Q:rb<g)(U:cb<g):
  LV g tb rb cb lb fb r a ot n ct w0 J N A C E I (yQ W g (ng nH J) (ng nH N) (nk A C E) (ng nH I)):=
 have o:∀{c:Nat}{cs:Array jP}{t:ko},nO W c cs t->c≠g->nO (yQ W g (ng nH J) (ng nH N) (nk A C E) (ng nH I)) c cs t:=λh hn=>
  (((h.setOther (a:=⟨g,0,none⟩) hn _).setOther (a:=⟨g,1,none⟩) hn _).setOther (a:=⟨g,2,none⟩) hn _).setOther (a:=⟨g,3,none⟩) hn _
 ⟨o h.tb nK,o h.rb nK,o h.rd nK,rD h.rs,tY h.qa (jL g)⟩
noncomputable def Fp:List lX:=cO (cL (cR (cB Tryz.f251)))
section
variable (g tb rb cb lb fb:Nat)(r:RS)(ta:TL)(bo off n ct:Nat)(w0:jJ)(ix:Nat)(k z:Int)(ou:Option l5)(nu cu:Nat)(tl:Int)
def tK:Nat->jP
 |0=> nz (some ⟨tb,2,none⟩)
 |1=> nk (some ⟨bo,off,none⟩) n ct
 |2=> ng nH ix
 |3=> nz (some ⟨bo,off+ix*4,none⟩)
 |4=> nC #[ng nH k,ng nH z,nk ou nu cu,ng nH tl]
 |5=> ng nH ix
 |6=> nz (some ⟨tb,2,none⟩)
 |7=> nk (some ⟨bo,off,none⟩) n ct
 |8=> ng nH n
 |9=> nz (some ⟨tb,3,none⟩)
 |10=> ng nH ta.tail
 |11=> ng nH ((n:Int) - ta.tail)
 |12=> nA true
 |13=> nA true
 |18=> nA true
 |20=> nA true
 |_=>kH
structure a5Z(D:Nat->Bool)(vs:Nat->jP)(w:jJ):Prop where
 oJ:LV g tb rb cb lb fb r ta (some ⟨bo,off,none⟩) n ct w0 (if(D 19)=true then k else 0) (if(D 19)=true then z else 0) (if(D 19)=true then ou else none) (if(D 19)=true then nu else 0) (if(D 19)=true then cu else 0) (if(D 19)=true then tl else 0) w
 val:∀j,(true)=true->D j=true->vs j=tK tb ta bo off n ct ix k z ou nu cu tl j
variable {g tb rb cb lb fb r ta bo off n ct w0 ix k z ou nu cu tl}
theorem XC{p:Prop}(h:p:=by
 have hW:=hI.oJ;rw[hd]at hW;obtain⟨⟨y0,y1,y2,y3⟩,q0,q1,q2,q3⟩:=oF hW.rs;go_simp;rw[tJ];refine hK kH _ _ rfl ⟨?_,uR hI.val⟩;rw[ow];exact hW.put hlt.1 hlt.2.1 hlt.2.2):p:=h
theorem a03{id:Nat}{Q:Exit->Act->jJ->Prop}{a0:Act}{N:jJ}(ht1:a0.tmps.getD 1 kH=nz (some ⟨tb,0,none⟩))(ht0:a0.tmps.getD 0 kH=ng nH ix)(hin:ix<n)(hn:n<=100000)(hel:∀W,jS g w0 W->W.cell? ⟨bo,off+ix*4,none⟩=some (ng nH k)/\W.cell? ⟨bo,off+ix*4+1,none⟩=some (ng nH z)/\W.cell? ⟨bo,off+ix*4+2,none⟩=some (nk ou nu cu)/\W.cell? ⟨bo,off+ix*4+3,none⟩=some (ng nH tl))(htl:0<=ta.tail/\ta.tail<=100000)(hb:decide ((ix:Int)<(n:Int) - ta.tail)=true)(ht2:a0.tmps.getD 2 kH=nz (some ⟨rb,0,none⟩))(EU:a0.tmps.getD 4 kH=nz (some ⟨g,0,none⟩))(hlt:tb<g/\rb<g/\cb<g)(hsz:a0.tmps.size=25)(hI0:∀vs:Nat->jP,(λw=>LV g tb rb cb lb fb r ta (some ⟨bo,off,none⟩) n ct w0 (if false=true then k else 0) (if false=true then z else 0) (if false=true then ou else none) (if false=true then nu else 0) (if false=true then cu else 0) (if false=true then tl else 0) w) N.drew)(O:∀(vs:Nat->jP) (w:jJ),LV g tb rb cb lb fb r ta (some ⟨bo,off,none⟩) n ct w0 (if true=true then k else 0) (if true=true then z else 0) (if true=true then ou else none) (if true=true then nu else 0) (if true=true then cu else 0) (if true=true then tl else 0) w->Q .normal {a0 with tmps:=((((((((((((((((((((a0.tmps.setIfInBounds 6 (nz (some ⟨tb,2,none⟩))).setIfInBounds 7 (nk (some ⟨bo,off,none⟩) n ct)).setIfInBounds 8 (ng nH ix)).setIfInBounds 9 (nz (some ⟨bo,off+ix*4,none⟩))).setIfInBounds 10 (nC #[ng nH k,ng nH z,nk ou nu cu,ng nH tl])).setIfInBounds 11 (ng nH ix)).setIfInBounds 12 (nz (some ⟨tb,2,none⟩))).setIfInBounds 13 (nk (some ⟨bo,off,none⟩) n ct)).setIfInBounds 14 (ng nH n)).setIfInBounds 15 (nz (some ⟨tb,3,none⟩))).setIfInBounds 16 (ng nH ta.tail)).setIfInBounds 17 (ng nH ((n:Int) - ta.tail))).setIfInBounds 18 (nA true)).setIfInBounds 19 (nA true)).setIfInBounds 20 (kH)).setIfInBounds 21 (kH)).setIfInBounds 22 (kH)).setIfInBounds 23 (kH)).setIfInBounds 24 (nA true)).setIfInBounds 5 (nA true))} w):
  (lg id Fp.toArray true).wp jI Q a0 N:=by
 refine og 21 25 (a5Z g tb rb cb lb fb r ta bo off n ct w0 ix k z ou nu cu tl) nM hsz nM (.inl rfl) nM ?_ ?_ ?_;.exact qF
 .refine rV λA ai=> ?_
  clear hI0 O hsz;replace ht1:=jH ht1;replace ht0:=jH ht0;replace hin:=jH hin;replace hn:=jH hn;replace hel:=jH hel;replace htl:=jH htl;replace hb:=jH hb;replace ht2:=jH ht2;replace EU:=jH EU;replace hlt:=jH hlt;dsimp+instances only[Fp,cO,cL,cR,cB,Tryz.f251];simp only[ky,kQ,rz];refine⟨?_,?_,?_,?_,?_,?_,?_,?_,?_,?_,?_,?_,?_,?_,?_,?_,?_,?_,?_,?_,?_,trivial⟩<;>(intro D vs a w K hI hd E hw2 C hK;subst ai;dsimp+instances only[Fp,cO,cL,cR,cB,Tryz.f251]);have e1:=(C 1 nN).trans ht1.out;rotate_left;have aj:=fe C hI.val E 6 0;simp only[tK]at aj;have c0:=hI.oJ.tb.c2;rotate_left;have ak:=(C 0 nN).trans ht0.out;rotate_left;have hin:=hin.out;have hn:=hn.out;have aD:=fe C hI.val E 7 1;have aF:=fe C hI.val E 8 2;rotate_left;have hel:=hel.out;have au:=fe C hI.val E 9 3;simp only[tK]at au;obtain⟨c0,c1,c2,c3⟩:=hel w hI.oJ.qa;rotate_left;have ak:=(C 0 nN).trans ht0.out;rotate_left;have e1:=(C 1 nN).trans ht1.out;rotate_left;have U:=fe C hI.val E 12 6;simp only[tK]at U;have c0:=hI.oJ.tb.c2;rotate_left;have av:=fe C hI.val E 13 7;rotate_left;have e1:=(C 1 nN).trans ht1.out;rotate_left;have V:=fe C hI.val E 15 9;simp only[tK]at V;have c0:=hI.oJ.tb.c3;rotate_left;have htl:=htl.out;have hn:=hn.out;have Y:=fe C hI.val E 14 8;have Z:=fe C hI.val E 16 10;simp only[tK]at Y Z;have ax:IntKind.i64.wrap ((n:Int) - ta.tail)=(n:Int) - ta.tail:=IntWalk.i64_in _ nK;rotate_left;have hb:=hb.out;have ay:=fe C hI.val E 11 5;have az:=fe C hI.val E 17 11;rotate_left;have aA:=fe C hI.val E 18 12;rotate_left;have e2:=(C 2 nN).trans ht2.out;have I:=fe C hI.val E 19 13;simp only[tK]at I;have J:=uA I;rotate_left;have aa:=fe C hI.val E 20 14;have I:=fe C hI.val E 19 13;simp only[tK]at aa I;have J:=uA I;rotate_left;have ae:=fe C hI.val E 21 15;have I:=fe C hI.val E 19 13;simp only[tK]at ae I;have J:=uA I;rotate_left;have af:=fe C hI.val E 22 16;have I:=fe C hI.val E 19 13;simp only[tK]at af I;have J:=uA I;rotate_left;have I:=fe C hI.val E 19 13;have aB:=fe C hI.val E 23 17;rotate_left
  .have hlt:=hlt.out
   have e4:=(C 4 nN).trans EU.out;have ag:=fe C hI.val E 10 4;simp only[tK]at ag;exact XC
  have aC:=fe C hI.val E 24 18;rotate_left
  all_goals
   try simp only[tK]at*
   go_simp;exact hK _ _ _ rfl ⟨hI.oJ,uR hI.val⟩
 .intro D vs w ah hI
  have E:=hI.oJ;rw[ah 19 nN]at E;have q:=O vs w E;rw[oW hI.val ah];dsimp+instances only[Fp,cO,cL,cR,cB,Tryz.f251];exact qD
end
noncomputable def Fq:List lX:=cO (cL (cR (cB Tryz.f251)))
section
variable (g tb rb cb lb fb:Nat)(r:RS)(ta:TL)(bo off n ct:Nat)(w0:jJ)(ix:Nat)(k z:Int)(ou:Option l5)(nu cu:Nat)(tl:Int)
def sw:Nat->jP
 |0=> nz (some ⟨tb,2,none⟩)
 |1=> nk (some ⟨bo,off,none⟩) n ct
 |2=> ng nH ix
 |3=> nz (some ⟨bo,off+ix*4,none⟩)
 |4=> nC #[ng nH k,ng nH z,nk ou nu cu,ng nH tl]
 |5=> ng nH ix
 |6=> nz (some ⟨tb,2,none⟩)
 |7=> nk (some ⟨bo,off,none⟩) n ct
 |8=> ng nH n
 |9=> nz (some ⟨tb,3,none⟩)
 |10=> ng nH ta.tail
 |11=> ng nH ((n:Int) - ta.tail)
 |12=> nA false
 |13=> nA false
 |14=> nz (some ⟨rb,3,none⟩)
 |15=>Cc cb
 |16=> ng nH ((r.t.size:Int) - r.p)
 |17=> nA (decide (r.p<r.t.size))
 |18=> nA (decide (r.p<r.t.size))
 |20=> nA (decide (r.p<r.t.size))
 |_=>kH
structure XD(D:Nat->Bool)(vs:Nat->jP)(w:jJ):Prop where
 oJ:LV g tb rb cb lb fb r ta (some ⟨bo,off,none⟩) n ct w0 (if(D 19)=true then k else 0) (if(D 19)=true then z else 0) (if(D 19)=true then ou else none) (if(D 19)=true then nu else 0) (if(D 19)=true then cu else 0) (if(D 19)=true then tl else 0) w
 val:∀j,(true)=true->D j=true->vs j=sw tb rb cb r ta bo off n ct ix k z ou nu cu tl j
variable {g tb rb cb lb fb r ta bo off n ct w0 ix k z ou nu cu tl}
theorem XE{D:Nat->Bool}{vs:Nat->jP}{w w':jJ}(h:XD g tb rb cb lb fb r ta bo off n ct w0 ix k z ou nu cu tl D vs w){i:Nat}(hi:i≠19)(A:LV g tb rb cb lb fb r ta (some ⟨bo,off,none⟩) n ct w0 (if(D 19)=true then k else 0) (if(D 19)=true then z else 0) (if(D 19)=true then ou else none) (if(D 19)=true then nu else 0) (if(D 19)=true then cu else 0) (if(D 19)=true then tl else 0) w->LV g tb rb cb lb fb r ta (some ⟨bo,off,none⟩) n ct w0 (if(D 19)=true then k else 0) (if(D 19)=true then z else 0) (if(D 19)=true then ou else none) (if(D 19)=true then nu else 0) (if(D 19)=true then cu else 0) (if(D 19)=true then tl else 0) w'):XD g tb rb cb lb fb r ta bo off n ct w0 ix k z ou nu cu tl (zm D i) (zn vs i (sw tb rb cb r ta bo off n ct ix k z ou nu cu tl i)) w':=by
 refine⟨?_,uR h.val⟩;rw[nS D (show 19≠i by omega)];exact A h.oJ
theorem a04{id:Nat}{Q:Exit->Act->jJ->Prop}{a0:Act}{O:jJ}(ht1:a0.tmps.getD 1 kH=nz (some ⟨tb,0,none⟩))(ht0:a0.tmps.getD 0 kH=ng nH ix)(hin:ix<n)(hn:n<=100000)(hel:∀W,jS g w0 W->W.cell? ⟨bo,off+ix*4,none⟩=some (ng nH k)/\W.cell? ⟨bo,off+ix*4+1,none⟩=some (ng nH z)/\W.cell? ⟨bo,off+ix*4+2,none⟩=some (nk ou nu cu)/\W.cell? ⟨bo,off+ix*4+3,none⟩=some (ng nH tl))(htl:0<=ta.tail/\ta.tail<=100000)(hb:decide ((ix:Int)<(n:Int) - ta.tail)=false)(ht2:a0.tmps.getD 2 kH=nz (some ⟨rb,0,none⟩))(hok:r.Ok)(EU:a0.tmps.getD 4 kH=nz (some ⟨g,0,none⟩))(hlt:tb<g/\rb<g/\cb<g)(hsz:a0.tmps.size=25)(hI0:∀vs:Nat->jP,(λw=>LV g tb rb cb lb fb r ta (some ⟨bo,off,none⟩) n ct w0 (if false=true then k else 0) (if false=true then z else 0) (if false=true then ou else none) (if false=true then nu else 0) (if false=true then cu else 0) (if false=true then tl else 0) w) O.drew)(U:∀(vs:Nat->jP) (w:jJ),LV g tb rb cb lb fb r ta (some ⟨bo,off,none⟩) n ct w0 (if true=true then k else 0) (if true=true then z else 0) (if true=true then ou else none) (if true=true then nu else 0) (if true=true then cu else 0) (if true=true then tl else 0) w->Q .normal {a0 with tmps:=((((((((((((((((((((a0.tmps.setIfInBounds 6 (nz (some ⟨tb,2,none⟩))).setIfInBounds 7 (nk (some ⟨bo,off,none⟩) n ct)).setIfInBounds 8 (ng nH ix)).setIfInBounds 9 (nz (some ⟨bo,off+ix*4,none⟩))).setIfInBounds 10 (nC #[ng nH k,ng nH z,nk ou nu cu,ng nH tl])).setIfInBounds 11 (ng nH ix)).setIfInBounds 12 (nz (some ⟨tb,2,none⟩))).setIfInBounds 13 (nk (some ⟨bo,off,none⟩) n ct)).setIfInBounds 14 (ng nH n)).setIfInBounds 15 (nz (some ⟨tb,3,none⟩))).setIfInBounds 16 (ng nH ta.tail)).setIfInBounds 17 (ng nH ((n:Int) - ta.tail))).setIfInBounds 18 (nA false)).setIfInBounds 19 (nA false)).setIfInBounds 20 (nz (some ⟨rb,3,none⟩))).setIfInBounds 21 (Cc cb)).setIfInBounds 22 (ng nH ((r.t.size:Int) - r.p))).setIfInBounds 23 (nA (decide (r.p<r.t.size)))).setIfInBounds 24 (nA (decide (r.p<r.t.size)))).setIfInBounds 5 (nA (decide (r.p<r.t.size))))} w):
  (lg id Fq.toArray true).wp jI Q a0 O:=by
 refine og 21 25 (XD g tb rb cb lb fb r ta bo off n ct w0 ix k z ou nu cu tl) nM hsz nM (.inl rfl) nM ?_ ?_ ?_;.exact qF
 .refine rV λA ai=> ?_
  clear hI0 U hsz;replace ht1:=jH ht1;replace ht0:=jH ht0;replace hin:=jH hin;replace hn:=jH hn;replace hel:=jH hel;replace htl:=jH htl;replace hb:=jH hb;replace ht2:=jH ht2;replace hok:=jH hok;replace EU:=jH EU;replace hlt:=jH hlt;dsimp+instances only[Fq,cO,cL,cR,cB,Tryz.f251];simp only[ky,kQ,rz];refine⟨?_,?_,?_,?_,?_,?_,?_,?_,?_,?_,?_,?_,?_,?_,?_,?_,?_,?_,?_,?_,?_,trivial⟩<;>(intro D vs a w K hI hd E hw2 C hK;subst ai;dsimp+instances only[Fq,cO,cL,cR,cB,Tryz.f251]);have e1:=(C 1 nN).trans ht1.out;rotate_left;have aj:=fe C hI.val E 6 0;simp only[sw]at aj;have c0:=hI.oJ.tb.c2;rotate_left;have ak:=(C 0 nN).trans ht0.out;rotate_left;have hin:=hin.out;have hn:=hn.out;have aF:=fe C hI.val E 7 1;have aG:=fe C hI.val E 8 2;rotate_left;have hel:=hel.out;have au:=fe C hI.val E 9 3;simp only[sw]at au;obtain⟨c0,c1,c2,c3⟩:=hel w hI.oJ.qa;rotate_left;have ak:=(C 0 nN).trans ht0.out;rotate_left;have e1:=(C 1 nN).trans ht1.out;rotate_left;have V:=fe C hI.val E 12 6;simp only[sw]at V;have c0:=hI.oJ.tb.c2;rotate_left;have ax:=fe C hI.val E 13 7;rotate_left;have e1:=(C 1 nN).trans ht1.out;rotate_left;have Y:=fe C hI.val E 15 9;simp only[sw]at Y;have c0:=hI.oJ.tb.c3;rotate_left;have htl:=htl.out;have hn:=hn.out;have Z:=fe C hI.val E 14 8;have aa:=fe C hI.val E 16 10;simp only[sw]at Z aa;have ay:IntKind.i64.wrap ((n:Int) - ta.tail)=(n:Int) - ta.tail:=IntWalk.i64_in _ nK;rotate_left;have hb:=hb.out;have az:=fe C hI.val E 11 5;have aA:=fe C hI.val E 17 11;rotate_left;have aB:=fe C hI.val E 18 12;rotate_left;have e2:=(C 2 nN).trans ht2.out;have I:=fe C hI.val E 19 13;simp only[sw]at I;have J:=uA I;rotate_left;have ae:=fe C hI.val E 20 14;have I:=fe C hI.val E 19 13;simp only[sw]at ae I;have J:=uA I;have c0:=hI.oJ.rb.cell 3;simp only[EJ,jO,jN,jM]at c0;rotate_left
  .have hok:=hok.out
   have N:=fe C hI.val E 21 15;have I:=fe C hI.val E 19 13;simp only[sw]at N I;have J:=uA I;have av:=Et cb r w hok hI.oJ.rd;unfold Cc at N;go_simp;refine av.mono ?_;rintro e aH ⟨rfl,m,rfl⟩;exact hK (sw tb rb cb r ta bo off n ct ix k z ou nu cu tl 16) _ _ rfl (XE hI (i:=16) nN λh=>h.drewN m)
  have af:=fe C hI.val E 22 16;have I:=fe C hI.val E 19 13;simp only[sw]at af I;have J:=uA I;rotate_left;have I:=fe C hI.val E 19 13;have aC:=fe C hI.val E 23 17;rotate_left
  .have hlt:=hlt.out
   have e4:=(C 4 nN).trans EU.out;have ag:=fe C hI.val E 10 4;simp only[sw]at ag;exact XC
  have aD:=fe C hI.val E 24 18;rotate_left
  all_goals
   try simp only[sw]at*
   go_simp;exact hK _ _ _ rfl ⟨hI.oJ,uR hI.val⟩
 .intro D vs w ah hI
  have E:=hI.oJ;rw[ah 19 nN]at E;have q:=U vs w E;rw[oW hI.val ah];dsimp+instances only[Fq,cO,cL,cR,cB,Tryz.f251];exact qD
end
theorem a05(tb rb cb lb fb ix:Nat)(r:RS)(ta:TL)(y:nL TL)(ot:Option l5)(n ct:Nat)(s:List (nL TL))(Q:Nat->Prop)(w:jJ)(ht:nO w tb #[ng nH ta.kind,ng nH ta.size,nk ot n ct,ng nH ta.tail] rW)(O:nO w rb (EJ cb lb fb) EZ)(C:wo w cb r)(hok:r.Ok)(hs:oh.nX w Q (nk ot n ct) s)(ai:s[ix]? =some y)(hn:s.length<=100000)(htl:0<=ta.tail/\ta.tail<=100000):
  jV jI 251 #[ng nH ix,nz (some ⟨tb,0,none⟩),nz (some ⟨rb,0,none⟩)] w (Ea Q y (decide ((ix:Int)<s.length - ta.tail)||decide (r.p<r.t.size)) w):=by
 obtain⟨az,au,av,aA,aB,_⟩:=Shape.nX.get hs;have hlen:ix<s.length:=(ll.1 ai).1;cases av;obtain⟨b,off,ou,cu,rfl,hb,ax,c0,c1,c2,c3,I⟩:=Sa hs ai;obtain⟨g,hg⟩:=nT w.heap.size;have aj:=jH (XB hg);have A:b<g:=hg▸hb;have hlt:tb<g/\rb<g/\cb<g:=⟨hg▸ht.lt,hg▸O.lt,hg▸nO.lt C⟩;have J:=jH (λW (h:jS g w W)=>(Shape.nX.below I (hg.symm▸h):oh.nX W Q (nk ou y.sub.length cu) y.sub));have U:jW (∀W,jS g w W->W.cell? ⟨b,off+ix*4,none⟩=some (ng nH y.lab.kind)/\W.cell? ⟨b,off+ix*4+1,none⟩=some (ng nH y.lab.size)/\W.cell? ⟨b,off+ix*4+2,none⟩=some (nk ou y.sub.length cu)/\W.cell? ⟨b,off+ix*4+3,none⟩=some (ng nH y.lab.tail)):=jH λW h=>
  ⟨(h.cell (p:=⟨b,off+ix*4,none⟩) A).trans c0,(h.cell (p:=⟨b,off+ix*4+1,none⟩) A).trans c1,(h.cell (p:=⟨b,off+ix*4+2,none⟩) A).trans c2,(h.cell (p:=⟨b,off+ix*4+3,none⟩) A).trans c3⟩
 have ak:jW (∀W,jS g w W->nO W g #[ng nH 0,ng nH 0,nk none 0 0,ng nH 0] rW->LV g tb rb cb lb fb r ta (some ⟨b,off,none⟩) s.length ct w 0 0 none 0 0 0 W):=jH λW h hk=>
  have aa:jS w.heap.size w W:=hg.symm▸h
  ⟨Below.blk aa ht ht.lt,Below.blk aa O O.lt,Below.blk aa C (nO.lt C),hk,h⟩
 unfold Ea;rw[hg];clear ht O C hs I c0 c1 c2 c3 hb ax A;generalize y.sub.length=M at*;generalize s.length=N at*;have ay:∀b0,jW (decide ((ix:Int)<(N:Int) - ta.tail)=b0)->decide ((ix:Int)<(N:Int) - ta.tail)=b0:=λ_ h=>h.out
 obtain⟨b0,hb0⟩:=nT (decide ((ix:Int)<(N:Int) - ta.tail));rw[hb0];have V:=jH hb0;clear hb0 ay;go_in;go_upto_region 1 with fail;obtain⟨Y,Z⟩:=aj.out _ rfl;generalize w.alloc _=w1 at*;have E:=jH (ak _ Y Z);clear aj Y Z ak;cases b0 with
 |true=>
  refine a03 (g:=g) (tb:=tb) (rb:=rb) (cb:=cb) (lb:=lb) (fb:=fb) (r:=r) (ta:=ta) (bo:=b) (off:=off) (n:=N) (ct:=ct) (w0:=w) (ix:=ix) (k:=y.lab.kind) (z:=y.lab.size) (ou:=ou) (nu:=M) (cu:=cu) (tl:=y.lab.tail) (ht0:=by rfl) (ht1:=by rfl) (ht2:=by rfl) (EU:=by rfl) (hsz:=by rfl) (hI0:=λ_=>E.drew) (hin:=hlen) (hn:=hn) (hel:=U.out) (htl:=htl) (hb:=V.out) (hlt:=hlt) ?_;intro vs W hI;simp only[if_true]at hI;clear E;simp only[jK,jQ,jR];obtain⟨⟨ae,af,ag,ah⟩,_⟩:=oF hI.rs;go_wp2_with fail;refine j4 (v:=nD #[nC #[ng nH y.lab.kind,ng nH y.lab.size,nk ou M cu,ng nH y.lab.tail],nA true]) (by simp[kK,Tryz.results251,go_sem,ae,af,ag,ah]) rfl ?_;exact⟨ou,cu,rfl,J _ hI.qa,hI.qa⟩
 |false=>
  refine a04 (g:=g) (tb:=tb) (rb:=rb) (cb:=cb) (lb:=lb) (fb:=fb) (r:=r) (ta:=ta) (bo:=b) (off:=off) (n:=N) (ct:=ct) (w0:=w) (ix:=ix) (k:=y.lab.kind) (z:=y.lab.size) (ou:=ou) (nu:=M) (cu:=cu) (tl:=y.lab.tail) (ht0:=by rfl) (ht1:=by rfl) (ht2:=by rfl) (EU:=by rfl) (hsz:=by rfl) (hI0:=λ_=>E.drew) (hin:=hlen) (hn:=hn) (hel:=U.out) (htl:=htl) (hb:=V.out) (hlt:=hlt) (hok:=hok) ?_;intro vs W hI;simp only[if_true]at hI;clear E;simp only[jK,jQ,jR];obtain⟨⟨ae,af,ag,ah⟩,_⟩:=oF hI.rs;go_wp2_with fail;refine j4 (v:=nD #[nC #[ng nH y.lab.kind,ng nH y.lab.size,nk ou M cu,ng nH y.lab.tail],nA (decide (r.p<r.t.size))]) (by simp[kK,Tryz.results251,go_sem,ae,af,ag,ah]) rfl ?_;exact⟨ou,cu,rfl,J _ hI.qa,hI.qa⟩
section
variable {β:Type}{f:β->List jP}{k:Nat}
def pK(f:β->List jP)(k:Nat)(w:jJ)(B:Nat)(t:ko)(v:jP)(L:List β):Prop:=w.ownsRow B t k v L.length (L.flatMap f)
theorem Nt(hk:∀y,(f y).length=k)(L:List β):(L.flatMap f).length=L.length*k:=by
 induction L with
 |nil=>simp
 |cons y L A=>rw[List.flatMap_cons,jY,A,hk,kD,lS];omega
theorem a06(hk:∀y,(f y).length=k){L:List β}{i:Nat}{y:β}(A:L[i]? =some y){j:Nat}(E:j<k):(L.flatMap f)[i*k+j]? =(f y)[j]? :=by
 induction L generalizing i with
 |nil=>simp at A
 |cons z L C=>
  rw[List.flatMap_cons];cases i with
  |zero=>
   simp at A;subst A;rw[List.getElem?_append_left (by rw[hk];omega)];simp
  |succ i=>
   simp at A;rw[List.getElem?_append_right (by rw[hk,lS];omega),hk,show(i+1)*k+j - k=i*k+j by rw[lS];omega];exact C A
theorem XF(hk:∀y,(f y).length=k){L:List β}{i:Nat}{y z:β}(A:L[i]? =some y){j:Nat}{x:jP}(I:j<k)(C:f z=(f y).set j x):(L.set i z).flatMap f=(L.flatMap f).set (i*k+j) x:=by
 induction L generalizing i with
 |nil=>simp at A
 |cons a L E=>
  cases i with
  |zero=>
   simp at A;subst A;rw[jQ,List.flatMap_cons,List.flatMap_cons,C,List.set_append_left _ _ (by rw[hk];omega)];simp
  |succ i=>
   simp at A;rw[jR,List.flatMap_cons,List.flatMap_cons,E A,List.set_append_right _ _ (by rw[hk,lS];omega),hk,show(i+1)*k+j - k=i*k+j by rw[lS];omega]
theorem UJ(hk:∀y,(f y).length=k)(L:List β)(n:Nat):(L.take n).flatMap f=(L.flatMap f).take (n*k):=by
 induction L generalizing n with
 |nil=>simp
 |cons y L A=>
  cases n with
  |zero=>simp
  |succ n=>
   rw[ky,List.flatMap_cons,List.flatMap_cons,A,List.take_append,hk,List.take_of_length_le (l:=f y) (by rw[hk,lS];omega),show(n+1)*k - k=n*k by rw[lS];omega]
theorem pK.nil(w:jJ)(B:Nat)(t:ko):pK f k w B t (nk none 0 0) []:=World.ownsRow_nil w B t k
theorem pK.form{w:jJ}{B:Nat}{v:jP}{L:List β}(h:pK f k w B t v L):(v=nk none 0 0/\L=[])\/∃g cap A,v=nk (some ⟨g,0,none⟩) L.length cap/\B<=g/\nO w g A t/\L.length<=cap/\cap<=j5/\A.size=cap*k/\A.toList.take (L.length*k)=L.flatMap f:=by
 rcases h.2 with⟨rfl,h0⟩|⟨g,cap,A,rfl,hb,hg,C,E,hsz,htake⟩
 .exact .inl ⟨rfl,mf.1 h0⟩
 .exact .inr ⟨g,cap,A,rfl,hb,hg,C,E,hsz,htake⟩
theorem pK.of{w:jJ}{B:Nat}{L:List β}{g cap:Nat}{A:Array jP}(hb:B<=g)(hg:nO w g A t)(C:L.length<=cap)(E:cap<=j5)(hsz:A.size=cap*k)(hk:∀y,(f y).length=k)(htake:A.toList.take (L.length*k)=L.flatMap f):pK f k w B t (nk (some ⟨g,0,none⟩) L.length cap) L:=
 ⟨Nt hk L,.inr ⟨g,cap,A,rfl,hb,hg,C,E,hsz,htake⟩⟩
theorem pK.block{w:jJ}{B:Nat}{v:jP}{L:List β}(h:pK f k w B t v L):∀b,v.ownBlock=some b->B<=b/\b<w.heap.size/\∃cs,nO w b cs t:=by
 rcases h.form with⟨rfl,_⟩|⟨g,cap,A,rfl,hb,hg,_⟩
 .intro b h;cases h
 .intro b h;cases h;exact⟨hb,hg.lt,A,hg⟩
theorem pK.slice{w:jJ}{B:Nat}{v:jP}{L:List β}(h:pK f k w B t v L):∃oa cap,v=nk oa L.length cap:=by
 rcases h.form with⟨rfl,rfl⟩|⟨g,cap,A,rfl,_⟩
 .exact⟨none,0,rfl⟩
 .exact⟨_,cap,rfl⟩
theorem pK.keep{w w':jJ}{B:Nat}{v:jP}{L:List β}(h:pK f k w B t v L)(hk:∀b,v.ownBlock=some b->w'.heap[b]? =w.heap[b]?):pK f k w' B t v L:=by
 refine⟨h.1,?_⟩;rcases h.2 with E|⟨g,cap,A,C,hg,I,r⟩
 .exact .inl E
 .refine .inr ⟨g,cap,A,C,hg,?_,r⟩
  rw[hk g (by rw[C];rfl)];exact I
theorem pK.below{w w':jJ}{B:Nat}{v:jP}{L:List β}(h:pK f k w B t v L)(hb:jS w.heap.size w w'):pK f k w' B t v L:=
 h.keep λb A=>hb.block b (h.block b A).2.1
theorem pK.at_{w:jJ}{B:Nat}{oa:Option l5}{n cap:Nat}{L:List β}(h:pK f k w B t (nk oa n cap) L)(hk:∀y,(f y).length=k){i:Nat}{y:β}(C:L[i]? =some y):
  ∃g,oa=some ⟨g,0,none⟩/\B<=g/\g<w.heap.size/\n=L.length/\n<=cap/\(∀j,j<k->w.cell? ⟨g,i*k+j,none⟩=(f y)[j]?)/\∀j,w.frozen? ⟨g,j,none⟩=false:=by
 obtain⟨hi,_⟩:=ll.1 C;rcases h.form with⟨O,rfl⟩|⟨g,E,N,I,hb,hg,A,Q,hsz,htake⟩
 .simp at hi
 .cases I
  refine⟨g,rfl,hb,hg.lt,rfl,A,λj J=> ?_,λj=>hg.free j⟩;rw[hg.cell,<-a06 hk C J,<-htake,List.getElem?_take_of_lt];.simp
  .have:(i+1)*k<=L.length*k:=lZ _ nK
   rw[lS]at this;omega
theorem pK.set{w:jJ}{B:Nat}{g n cap:Nat}{L:List β}(h:pK f k w B t (nk (some ⟨g,0,none⟩) n cap) L)(hk:∀y,(f y).length=k){i:Nat}{y z:β}(C:L[i]? =some y){j:Nat}{x:jP}(E:j<k)(I:f z=(f y).set j x):
  pK f k (w.setCell ⟨g,i*k+j,none⟩ x) B t (nk (some ⟨g,0,none⟩) n cap) (L.set i z):=by
 rcases h.form with⟨J,_⟩|⟨V,N,U,O,hb,hg,A,Q,hsz,htake⟩
 .cases J
 .cases O
  have:=pK.of (f:=f) (k:=k) (L:=L.set i z) hb (hg.set (i*k+j) x) (by simpa using A) Q (by simpa using hsz) hk (by
   rw[XF hk C E I,<-htake,Array.toList_setIfInBounds,List.take_set,List.length_set])
  rw[List.length_set]at this;exact this
theorem pK.cut{w:jJ}{B:Nat}{g n cap:Nat}{L:List β}(h:pK f k w B t (nk (some ⟨g,0,none⟩) n cap) L)(hk:∀y,(f y).length=k){m:Nat}(C:m<=L.length):
  pK f k w B t (nk (some ⟨g,0,none⟩) m cap) (L.take m):=by
 rcases h.form with⟨E,_⟩|⟨Q,I,O,J,hb,hg,N,A,hsz,htake⟩
 .cases E
 .cases J
  have hl:(L.take m).length=m:=by rw[kY];omega
  have:=pK.of (f:=f) (k:=k) (L:=L.take m) hb hg nK A hsz hk (by
   rw[UJ hk,<-htake,List.take_take,hl,Nat.min_eq_left (lZ _ C)])
  rw[hl]at this;exact this
theorem XG{w:jJ}{b:Nat}{cs:Array jP}(h:nO w b cs t){l:List jP}(hl:cs.toList=l):∀j u,l[j]? =some u->w.cell? ((⟨b,0,none⟩:l5).add j)=some u:=by
 subst hl;exact World.news_of_block h
end
structure wY(P:mK)(st t:ko)(k:Nat):Prop where
 ht:P.underlying st=some (.slice t)
 hi:∃z bytes i,P.info? t=some i/\i.zero=some z/\i.size=k/\i.bytes=bytes/\bytes<=1000/\z.cells.size=k
 pos:0<k
theorem Da{C:Type}{f:C->List jP}{k:Nat}{P:mK}{st ty:ko}(T:wY P st t k)(hk:∀y,(f y).length=k){w:jJ}{B b c:Nat}{v:jP}{L:List C}{x:C}{cs:Array jP}(E:pK f k w B t v L)(hb:nO w b cs t')(I:cs.toList=f x)(Q:∀u∈f x,u.oneCell'=true)(hlen:L.length<=1000000)(hB:B<=w.heap.size):
  ∃g cap w',(Builtin.append_ #[st,st] ty #[v,nk (some ⟨b,0,none⟩) 1 c]).run P w=.ok (nk (some ⟨g,0,none⟩) (L.length+1) cap) w'/\
   pK f k w' B t (nk (some ⟨g,0,none⟩) (L.length+1) cap) (L++[x])/\w.grownBy w' v.ownBlock/\(v.ownBlock=some g\/g=w.heap.size)/\g<w'.heap.size/\B<=g:=by
 obtain⟨z,bytes,i,hi,U,hsz,J,N,O⟩:=T.hi
 obtain⟨g,cap,w',V,Y,Z,aa,ae⟩:=run_append_lies w st ty B t i z k bytes T.ht hi U hsz J O T.pos v L.length (L.flatMap f) E ⟨b,0,none⟩ 1 c (f x) (by rw[hk];omega) (XG hb I) Q nN zg
  (kg (Nat.mul_le_mul_left _ N) nK) hB _ rfl
 have A:pK f k w' B t (nk (some ⟨g,0,none⟩) (L.length+1) cap) (L++[x]):=by
  unfold pK;rw[jY,List.flatMap_append];simpa using Y
 exact⟨g,cap,w',V,A,Z,aa,ae,(A.block g rfl).1⟩
structure qh(α:Type) where
 lab:α
 u:jP
 sub:List (nL α)
def qh.tree{α:Type}(y:qh α):nL α:=.node y.lab y.sub
section
variable {α:Type}
def Shape.row(S:Shape α)(L:List (qh α)):List jP:=L.flatMap λy=>S.cells y.lab y.u
theorem Shape.Qf(S:Shape α)(L M:List (qh α)):S.row (L++M)=S.row L++S.row M:=by simp[Shape.row]
theorem Shape.GQ(S:Shape α)(L:List (qh α)):(S.row L).length=L.length*S.k:=by
 induction L with
 |nil=>simp[Shape.row]
 |cons y L A=>
  show(S.cells y.lab y.u++S.row L).length=_;rw[jY,A,S.hk,kD,lS];omega
theorem Shape.a3K(S:Shape α){L:List (qh α)}{i:Nat}{y:qh α}(A:L[i]? =some y){j:Nat}(E:j<S.k):(S.row L)[i*S.k+j]? =(S.cells y.lab y.u)[j]? :=by
 induction L generalizing i with
 |nil=>simp at A
 |cons z L C=>
  show(S.cells z.lab z.u++S.row L)[i*S.k+j]? =_;cases i with
  |zero=>
   simp at A;subst A;rw[List.getElem?_append_left (by rw[S.hk];omega)];simp
  |succ i=>
   simp at A;rw[List.getElem?_append_right (by rw[S.hk,lS];omega),S.hk,show(i+1)*S.k+j - S.k=i*S.k+j by rw[lS];omega];exact C A
def vV(S:Shape α)(t:ko)(w:jJ)(B:Nat)(v:jP)(L:List (qh α)):Prop:=
 w.ownsRow B t S.k v L.length (S.row L)/\∀y,y∈L->S.ok y.lab/\S.nX w (λc=>B<=c/\v.ownBlock≠some c) y.u y.sub
theorem vV.nil(S:Shape α)(t:ko)(w:jJ)(B:Nat):vV S t w B (nk none 0 0) []:=⟨World.ownsRow_nil w B t S.k,λy h=>by cases h⟩
theorem vV.block{S:Shape α}{w:jJ}{B:Nat}{v:jP}{L:List (qh α)}(h:vV S t w B v L):∀b,v.ownBlock=some b->B<=b/\b<w.heap.size:=by
 rcases h.1.2 with⟨rfl,h0⟩|⟨g,cap,A,rfl,hb,hg,_⟩
 .intro b h;cases h
 .intro b h;cases h;exact⟨hb,(ku.1 hg).1⟩
theorem vV.slice{S:Shape α}{w:jJ}{B:Nat}{v:jP}{L:List (qh α)}(h:vV S t w B v L):∃oa cap,v=nk oa L.length cap:=by
 rcases h.1.2 with⟨rfl,h0⟩|⟨g,cap,A,rfl,_⟩
 .exact⟨none,0,by rw[h0]⟩
 .exact⟨_,cap,rfl⟩
theorem vV.keep{S:Shape α}{w w':jJ}{B:Nat}{v:jP}{L:List (qh α)}(h:vV S t w B v L)(hs:w.heap.size<=w'.heap.size)(hk:∀c,B<=c->c<w.heap.size->w'.heap[c]? =w.heap[c]?):vV S t w' B v L:=by
 refine⟨⟨h.1.1,?_⟩,λy A=>⟨(h.2 y A).1,(h.2 y A).2.keep hs (λ_ _ h=>h) λc hc I=>hk c I.1 hc⟩⟩;rcases h.1.2 with J|⟨g,cap,C,N,hg,E,r⟩
 .exact .inl J
 .refine .inr ⟨g,cap,C,N,hg,?_,r⟩
  rw[hk g hg (ku.1 E).1];exact E
theorem vV.below{S:Shape α}{w w':jJ}{B:Nat}{v:jP}{L:List (qh α)}(h:vV S t w B v L)(hb:jS w.heap.size w w'):vV S t w' B v L:=
 h.keep hb.size λc _ hc=>hb.block c hc
theorem vV.upd{S:Shape α}{w w':jJ}{B b:Nat}{v:jP}{L:List (qh α)}(h:vV S t w B v L)(A:pE b w w')(hb:b<B):vV S t w' B v L:=
 h.keep A.size λc hB hc=>A.block c hc (by simpa using by omega)
theorem vV.subs{S:Shape α}{w:jJ}{B:Nat}{v:jP}{L:List (qh α)}(h:vV S t w B v L):S.nX w (λc=>B<=c) v (L.map qh.tree):=by
 obtain⟨J,N⟩:=h;rcases J.2 with⟨rfl,h0⟩|⟨g,cap,Y,rfl,hb,hg,E,Q,hsz,htake⟩
 .have:L=[]:=mf.1 h0
  subst this;exact⟨none,0,rfl,jL _,kI _,λh=>absurd h nR⟩
 .refine⟨some ⟨g,0,none⟩,cap,by rw[List.length_map],by rw[List.length_map];exact E,Q,λ_=>⟨g,0,rfl,(ku.1 hg).1,hb,?_⟩⟩
  have cell:∀i y,L[i]? =some y->∀j,j<S.k->w.cell? ⟨g,i*S.k+j,none⟩=(S.cells y.lab y.u)[j]? :=by
   intro i y A j I;obtain⟨hi,_⟩:=ll.1 A;have hlt:i*S.k+j<(S.row L).length:=by
    rw[S.GQ];have:(i+1)*S.k<=L.length*S.k:=lZ _ nK;rw[lS]at this;omega
   have:=World.ownsRow.cells J (g:=g) rfl (i*S.k+j) _ (jX hlt);have e1:(⟨g,0,none⟩:l5).add (i*S.k+j)=⟨g,i*S.k+j,none⟩:=FM;rw[e1]at this;rw[this,<-jX hlt,S.a3K A I]
  have row:∀(M:List (qh α))(i:Nat),(∀k y,M[k]? =some y->L[i+k]? =some y)->S.qy w (λc=>B<=c) (M.map qh.tree) g (i*S.k):=by
   intro M;induction M with
   |nil=>intro i _;simp only[List.map_nil,Shape.qy]
   |cons y M U=>
    intro i O;simp only[mH,Shape.qy];have A:=O 0 y rfl;refine⟨?_,?_⟩
    .simp only[qh.tree,Shape.rA]
     have C:=kT A;exact⟨(N y C).1,y.u,λj I=>cell i y A j I,(N y C).2.keep (jL _) (λc _ h=>h.1) λ_ _ _=>rfl⟩
    .have:=U (i+1) λk z V=>by
      have:=O (k+1) z V;rwa [show i+1+k=i+(k+1)by omega]
     rwa [show(i+1)*S.k=i*S.k+S.k by rw[lS,Nat.one_mul]]at this
  have:=row L 0 λk y h=>by simpa using h
  simpa using this
theorem xE{S:Shape α}{P:mK}{st:ko}{J:TypeInfo}{z:jP}{bytes:Nat}(ht:P.underlying st=some (.slice t))(hi:P.info? t=some J)(A:J.zero=some z)(O:J.size=S.k)(ah:J.bytes=bytes)(ai:z.cells.size=S.k)(Z:0<S.k)(aa:∀a o n c,∀u∈S.cells a (.slice o n c),u.oneCell'=true){ops:Array lX}{rest:List lX}{o:lX}{a:Act}{Q:Exit->Act->jJ->Prop}(aj:o.guard=none)(x y:Operand)(ho:o.op=.call {callee:=.builtin .append,args:=#[x,y],argTypes:=#[st,st]})(B:Nat)(v:jP)(L:List (qh α))(e:qh α)(w:jJ)(cs:Array jP)(ak:cs.toList=S.cells e.lab e.u)(ay:a.eval x=v)(C:vV S t w B v L)(az:a.eval y=.slice (some ⟨w.heap.size,0,none⟩) 1 1)(hlen:L.length<=100000)(N:bytes<=1000)(hB:B<=w.heap.size)(hok:S.ok e.lab)(ae:S.nX w (λc=>B<=c/\v.ownBlock≠some c) e.u e.sub)(h:∀g cap w',vV S t w' B (.slice (some ⟨g,0,none⟩) (L.length+1) cap) (L++[e])->jS B w w'->w.heap.size<w'.heap.size->w.grownBy w' v.ownBlock->wpList P ops Q rest (a.put o.dst (.slice (some ⟨g,0,none⟩) (L.length+1) cap)) w'):
  wpList P ops Q (o::rest) a (w.alloc (nG cs t)):=by
 have au:=(jT w.heap.size w).alloc (jL _) (nG cs t);obtain⟨aA,aB,Y,_⟩:=ae
 refine wpList_append_lies _ aj x y st ho B t J z S.k bytes ht hi A O ah ai Z v L.length (S.row L) ay (World.ownsRow.alloc C.1 _)
  ⟨w.heap.size,0,none⟩ 1 1 (S.row [e]) az (by rw[S.GQ];rfl) ?_ ?_ nN zg ?_ nQ _ rfl ?_
 .intro j u af
  have e1:(⟨w.heap.size,0,none⟩:l5).add j=⟨w.heap.size,j,none⟩:=FM;rw[e1,World.cell?_alloc_mark w cs t (0,0) j,<-af];have:S.row [e]=cs.toList:=by simp[Shape.row,ak]
  rw[this];simp
 .intro u av
  have:S.row [e]=S.cells e.lab e.u:=by simp[Shape.row]
  rw[this,Y]at av;exact aa _ _ _ _ u av
 .calc (L.length+1)*bytes<=100001*1000:=Nat.mul_le_mul nK N
   _<=_:=nN
 .intro g cap w' aC E U aD
  have hsz:(w.alloc (nG cs t)).heap.size=w.heap.size+1:=nR;have hb:jS B w w':=by
   refine((jT B w).alloc hB _).grown E nK λj af=> ?_
   exact(C.block j af).1
  have I:w.grownBy w' v.ownBlock:=
   ⟨E.os,E.tape,E.output,by have:=E.size;omega,λc hc ax=>(E.block c nK ax).trans (au.block c hc)⟩
  refine h g cap w' ⟨by rw[jY,S.Qf];exact aC,λz A=> ?_⟩ hb (by have:=E.size;omega) I;have key:∀z:qh α,S.ok z.lab->S.nX w (λc=>B<=c/\v.ownBlock≠some c) z.u z.sub->S.ok z.lab/\S.nX w' (λc=>B<=c/\(kM (some ⟨g,0,none⟩) (L.length+1) cap).ownBlock≠some c) z.u z.sub:=by
   intro z ho hs;refine⟨ho,hs.keep (by have:=E.size;omega) (λc hc V=>⟨V.1,?_⟩) λc hc V=> ?_⟩
   .rcases U with U|U
    .rw[<-show v.ownBlock=(kM (some ⟨g,0,none⟩) (L.length+1) cap).ownBlock from U];exact V.2
    .intro ag;simp[kJ]at ag;omega
   .exact I.block c hc (λag=>V.2 ag.symm)
  rcases List.mem_append.1 A with A|A
  .exact key z (C.2 z A).1 (C.2 z A).2
  .simp at A
   subst A;exact key z hok ⟨aA,aB,Y,‹_›⟩
end
def OQ(y:qh IL):List jP:=[ny (txt y.lab),nA y.lab.list,y.u]
theorem Au(y:qh IL):(OQ y).length=3:=rfl
def tZ(w:jJ)(Q:Nat->Prop)(v:jP)(L:List (qh IL)):Prop:=
 pK OQ 3 w 0 IT v L/\(∀b,v.ownBlock=some b->Q b)/\∀y,y∈L->y.lab.text.length<=j5/\nV w (λc=>Q c/\v.ownBlock≠some c) y.u y.sub
theorem tZ.nil(w:jJ)(Q:Nat->Prop):tZ w Q (nk none 0 0) []:=⟨pK.nil w 0 IT,λb h=>by simp[kJ]at h,λy h=>by cases h⟩
theorem tZ.slice{w:jJ}{Q:Nat->Prop}{v:jP}{L:List (qh IL)}(h:tZ w Q v L):∃oa cap,v=nk oa L.length cap:=h.1.slice
theorem tZ.keep{w w':jJ}{Q Q':Nat->Prop}{v:jP}{L:List (qh IL)}(h:tZ w Q v L)(hs:w.heap.size<=w'.heap.size)(hk:∀c,c<w.heap.size->Q c->w'.heap[c]? =w.heap[c]?)(C:∀c,c<w.heap.size->Q c->Q' c):tZ w' Q' v L:=by
 refine⟨h.1.keep λb hb=>hk b (h.1.block b hb).2.1 (h.2.1 b hb),λb hb=>C b (h.1.block b hb).2.1 (h.2.1 b hb),λy E=>⟨(h.2.2 y E).1,?_⟩⟩;exact Shape.nX.keep (h.2.2 y E).2 hs (λc hc A=>⟨C c hc A.1,A.2⟩) λc hc A=>hk c hc A.1
theorem tZ.subs{w:jJ}{Q:Nat->Prop}{v:jP}{L:List (qh IL)}(h:tZ w Q v L):nV w Q v (L.map qh.tree):=by
 obtain⟨J,V,N⟩:=h;rcases J.form with⟨rfl,rfl⟩|⟨g,cap,ae,rfl,hb,hg,E,Y,hsz,htake⟩
 .exact⟨none,0,rfl,jL _,kI _,λh=>absurd h nR⟩
 .refine⟨some ⟨g,0,none⟩,cap,by rw[List.length_map],by rw[List.length_map];exact E,Y,λ_=>⟨g,0,rfl,hg.lt,V g rfl,?_⟩⟩
  have cell:∀i y,L[i]? =some y->∀j,j<3->w.cell? ⟨g,i*3+j,none⟩=(OQ y)[j]? :=by
   intro i y C j I;obtain⟨af,O,_,_,_,_,hc,_⟩:=J.at_ Au C;cases O;exact hc j I
  have row:∀(M:List (qh IL))(i:Nat),(∀k y,M[k]? =some y->L[i+k]? =some y)->sZ.qy w Q (M.map qh.tree) g (i*3):=by
   intro M;induction M with
   |nil=>intro i _;simp only[List.map_nil,Shape.qy]
   |cons y M Z=>
    intro i U;simp only[mH,Shape.qy];have C:=U 0 y rfl;refine⟨?_,?_⟩
    .simp only[qh.tree,Shape.rA]
     have A:=kT C;exact⟨(N y A).1,y.u,λj I=>cell i y C j I,Shape.nX.keep (N y A).2 (jL _) (λc _ h=>h.1) λ_ _ _=>rfl⟩
    .have:=Z (i+1) λk z aa=>by
      have:=U (k+1) z aa;rwa [show i+1+k=i+(k+1)by omega]
     rwa [show(i+1)*3=i*3+sZ.k by rw[lS,Nat.one_mul];rfl]at this
  have:=row L 0 λk y h=>by simpa using h
  simpa using this
def XH:qh IL:=⟨⟨[],false⟩,nk none 0 0,[]⟩
def wD(w:jJ)(g o:Nat)(a b c:jP):jJ:=((w.setCell ⟨g,o,none⟩ a).setCell ⟨g,o+1,none⟩ b).setCell ⟨g,o+2,none⟩ c
theorem sQ(w:jJ)(g o:Nat)(a b c:jP):((w.setCell ⟨g,o,none⟩ a).setCell ⟨g,o+1,none⟩ b).setCell ⟨g,o+2,none⟩ c=wD w g o a b c:=rfl
theorem vg{w:jJ}{g o:Nat}{a b c:jP}:(wD w g o a b c).heap.size=w.heap.size:=by simp[wD,kC]
theorem sS{w:jJ}{g o:Nat}{a b c:jP}(k:Nat)(h:k≠g):(wD w g o a b c).heap[k]? =w.heap[k]? :=by
 unfold wD;rw[j6 _ _ _ _ h,j6 _ _ _ _ h,j6 _ _ _ _ h]
theorem Nu(w:jJ)(g o:Nat)(a b c:jP):pE g w (wD w g o a b c):=(((pE.refl g w).set o a).set (o+1) b).set (o+2) c
theorem pK.wD{w:jJ}{B g cap:Nat}{L:List (qh IL)}{z x:qh IL}(h:pK OQ 3 w B IT (nk (some ⟨g,0,none⟩) (L.length+1) cap) (L++[z])):
  pK OQ 3 (wD w g (L.length*3) (ny (txt x.lab)) (nA x.lab.list) x.u) B IT (nk (some ⟨g,0,none⟩) (L.length+1) cap) (L++[x]):=by
 have e:∀y:qh IL,(L++[y])[L.length]? =some y:=λy=>by simp
 have A:∀y u:qh IL,(L++[y]).set L.length u=L++[u]:=λy u=>by simp
 have C:=h.set Au (e z) (j:=0) (x:=ny (txt x.lab)) (z:=⟨⟨x.lab.text,z.lab.list⟩,z.u,z.sub⟩) nN rfl;rw[A]at C;have E:=C.set Au (e _) (j:=1) (x:=nA x.lab.list) (z:=⟨⟨x.lab.text,x.lab.list⟩,z.u,z.sub⟩) nN rfl;rw[A]at E;have I:=E.set Au (e _) (j:=2) (x:=x.u) (z:=x) nN rfl;rw[A]at I;exact I
theorem KM{p:Prop}(h:p:=by
 intro e;simp[kJ]at e;exact hgn c hc (hxv c hq) e.symm):p:=h
theorem tZ.push{w w1:jJ}{Q J:Nat->Prop}{v:jP}{L:List (qh IL)}{x:qh IL}{g cap:Nat}(h:tZ w Q v L)(hrow:pK OQ 3 w1 0 IT (nk (some ⟨g,0,none⟩) (L.length+1) cap) (L++[XH]))(hg:w.grownBy w1 v.ownBlock)(C:v.ownBlock=some g\/w.heap.size<=g)(O:nV w J x.u x.sub)(hxv:∀c,J c->v.ownBlock≠some c)(N:x.lab.text.length<=j5):
  tZ (wD w1 g (L.length*3) (ny (txt x.lab)) (nA x.lab.list) x.u) (λc=>Q c\/J c\/c=g) (nk (some ⟨g,0,none⟩) (L.length+1) cap) (L++[x]):=by
 have hgn:∀c,c<w.heap.size->v.ownBlock≠some c->c≠g:=λc hc E e=>by
  rcases C with C|C
  .exact E (by rw[C,e])
  .omega
 have hsz:w.heap.size<=(wD w1 g (L.length*3) (ny (txt x.lab)) (nA x.lab.list) x.u).heap.size:=by rw[vg];exact hg.size
 have I:∀c,c<w.heap.size->v.ownBlock≠some c->(wD w1 g (L.length*3) (ny (txt x.lab)) (nA x.lab.list) x.u).heap[c]? =w.heap[c]? :=λc hc E=>by
  rw[sS c (hgn c hc E)];exact hg.block c hc (λe=>E e.symm)
 refine⟨hrow.wD,λb hb=> ?_,λy A=> ?_⟩
 .simp[kJ]at hb
  exact .inr (.inr hb.symm)
 .rcases List.mem_append.1 A with A|A
  .refine⟨(h.2.2 y A).1,Shape.nX.keep (h.2.2 y A).2 hsz (λc hc hq=>⟨.inl hq.1,?_⟩) λc hc hq=>I c hc hq.2⟩
   intro e;simp[kJ]at e;exact hgn c hc hq.2 e.symm
  .simp at A
   subst A;refine⟨N,Shape.nX.keep O hsz (λc hc hq=>⟨.inr (.inl hq),?_⟩) λc hc hq=>I c hc (hxv c hq)⟩;exact KM
structure Fr where
 v:jP
 L:List (qh IL)
 e:Nat
def Eb(w:jJ):(Nat->Prop)->List Fr->Prop
 |_,[]=>True
 |A,x::xs=>∃Q:Nat->Prop,(∀c,Q c->¬A c)/\tZ w Q x.v x.L/\Eb w (λc=>A c\/Q c) xs
theorem Eb.keep{w w':jJ}(hs:w.heap.size<=w'.heap.size):∀{st:List Fr}{C A:Nat->Prop},Eb w C st->(∀c,c<w.heap.size->¬C c->w'.heap[c]? =w.heap[c]?)->(∀c,c<w.heap.size->A c->C c)->Eb w' A st
 |[],_,_,_,_,_=>trivial
 |x::xs,C,A,⟨Q,I,N,O⟩,hk,J=>by
  refine⟨λc=>Q c/\c<w.heap.size,λc hc h=>I c hc.1 (J c hc.2 h),N.keep hs (λc hc E=>hk c hc (I c E)) (λc hc E=>⟨E,hc⟩),?_⟩;exact Eb.keep hs O (λc hc hn=>hk c hc λh=>hn (.inl h)) λc hc h=>h.elim (λh=> .inl (J c hc h)) λh=> .inr h.1
theorem Eb.below{w w':jJ}{st:List Fr}{A:Nat->Prop}(h:Eb w A st)(hb:jS w.heap.size w w'):Eb w' A st:=h.keep hb.size (λc hc _=>hb.block c hc) λ_ _ h=>h
section
variable {P:mK}{ops:Array lX}{md:Region.Mode}{S:jJ->Prop}{Q:Exit->Act->jJ->Prop}{n:Nat}
def a3L(md:Region.Mode)(ops:Array lX)(n:Nat):Bool:=(l7 ops.size).all λt=>decide (t<n)||(l7 n).all λi=>Region.waitsFor md ops t i
theorem UK(hb:a3L md ops n=true){A:Array Bool}{i j:Nat}(hi:i∈lQ md ops A)(hin:i<n)(Y:j∈lQ md ops A):j<n:=by
 obtain⟨af,Z,I,J⟩:=mem_ready.1 Y;have O:j<ops.size:=(ku.1 I).1;have C:=lY.1 hb j (mg.2 O);simp only[Bool.or_eq_true,decide_eq_true_eq]at C;rcases C with C|C
 .exact C
 .have aa:=lY.1 C i (mg.2 hin)
  obtain⟨ae,Q,e,he,U,V⟩:=Region.waitsFor_spec aa;have:ae=Z:=ma (Q.symm.trans I);subst this;have E:=J e he U;have h0:=(mem_ready.1 hi).1;rw[V]at E;rcases lh i A.size with N|N
  .simp[N]at h0 E;rw[h0]at E;cases E
  .simp[Array.getElem?_eq_none N]at E
def xX(P:mK)(md:Region.Mode)(ops:Array lX)(Q:Exit->Act->jJ->Prop)(S:jJ->Prop)(n:Nat):Nat->Array Bool->Act->jJ->Prop
 |0,A,a,w=>lQ md ops A=[]/\Q .normal a w
 |fuel+1,A,a,w=>
  (lQ md ops A=[]->Q .normal a w)/\
  ∀i∈lQ md ops A,wpOp P ops Q i (λC w'=>(i<n->S w')/\xX P md ops Q S n fuel (A.setIfInBounds i true) C w') a w
theorem Db:∀(fuel:Nat)(A:Array Bool)(a:Act)(w:jJ),xX P md ops Q S n fuel A a w->wpAny P md ops Q fuel A a w
 |0,_,_,_,h=>h
 |fuel+1,_,_,_,h=>⟨h.1,λi hi=>wpOp_mono (λC w' E=>Db fuel _ C w' E.2) (h.2 i hi)⟩
theorem KN{i:Nat}{oi:lX}{v:jP}(hin:i<n)(hb:a3L md ops n=true)(hi:ops[i]? =some oi)(O:∀(j:Nat) (o:lX) cs b,ops[j]? =some o->o.op≠.select cs b)(az:∀c a w,Q (.panic c) (a.put oi.dst v) w->Q (.panic c) a w):
  ∀(fuel:Nat)(A:Array Bool)(a:Act)(w:jJ),
   (∀j I,ops[j]? =some I->j≠i->A.getD j true=false->(∀e∈I.after,mr md e=true->e.on≠i)->oi.apart ops I=true)->
   i∈lQ md ops A->YieldsIf P ops S oi v a->S w->
   xX P md ops Q S n fuel (A.setIfInBounds i true) (a.put oi.dst v) w->xX P md ops Q S n (fuel+1) A a w:=by
 intro fuel;induction fuel with
 |zero=>
  intro A a w _ E ae U H;refine⟨λh=>(by rw[h]at E;cases E),λj V=> ?_⟩;by_cases C:j=i;.subst C;exact ae.wpOp hi U ⟨λ_=>U,H⟩
  .have:=ready_mono V C
   rw[H.1]at this;cases this
 |succ fuel aA=>
  intro A a w N E ae U H;refine⟨λh=>(by rw[h]at E;cases E),λj V=> ?_⟩;by_cases C:j=i;.subst C;exact ae.wpOp hi U ⟨λ_=>U,H⟩
  .have au:=UK hb E hin V
   have J:=H.2 j (ready_mono V C);obtain⟨Y,I,Z,ai⟩:=mem_ready.1 V;have aj:∀e∈I.after,mr md e=true->e.on≠i:=λe he hb av=>by
    have J:=ai e he hb;have h0:=(mem_ready.1 E).1;rw[av]at J;rcases lh i A.size with ak|ak
    .simp[ak]at h0 J;rw[h0]at J;cases J
    .simp[Array.getElem?_eq_none ak]at J
   have aB:=wpOp_putIf Z (N j I Z C Y aj) (λcs b=>O i oi cs b hi) (λcs b=>O j I cs b Z) az ae J
   have aa:∀k ok,ops[k]? =some ok->k≠i->(A.setIfInBounds j true).getD k true=false->
     (∀e∈ok.after,mr md e=true->e.on≠i)->oi.apart ops ok=true:=λk ok hk ax ag ay=>by
    refine N k ok hk ax ?_ ay;by_cases ah:j=k;.subst ah;exact Y
    .rw[getD_set_ne true ah]at ag;exact ag
   refine wpOp_mono (λaC w' af=>⟨af.2.1,aA (A.setIfInBounds j true) aC w' aa (ready_mono E (Ne.symm C)) af.1 (af.2.1 au) ?_⟩) aB;rw[Array.setIfInBounds_comm _ _ C];exact af.2.2
theorem nY{i:Nat}{oi:lX}{v:jP}{fuel:Nat}{A:Array Bool}{a:Act}{w:jJ}(hi:ops[i]? =some oi)(hin:decide (i<n)=true)(hb:a3L md ops n=true)(hs:Region.noSelect ops=true)(C:Region.free md ops A i=true)(E:(lQ md ops A).contains i=true)(I:∀c a w,Q (.panic c) (a.put oi.dst v) w->Q (.panic c) a w)(J:YieldsIf P ops S oi v a)(N:S w)(h:xX P md ops Q S n fuel (A.setIfInBounds i true) (a.put oi.dst v) w):xX P md ops Q S n (fuel+1) A a w:=
 KN (by simpa using hin) hb hi (Region.noSelect_spec hs) I fuel A a w (Region.free_spec hi C) (by simpa using E) J N h
theorem vk{i:Nat}{o:lX}{fuel:Nat}{A:Array Bool}{a:Act}{w:jJ}(E:lQ md ops A=[i])(ho:ops[i]? =some o)(h:∀C:Act->jJ->Prop,Shut (∀a w,S w->(S w->xX P md ops Q S n fuel (A.setIfInBounds i true) a w)->C a w)->if Region.wanted o (yielded ops a.tmps)=true then Oper.wp P o a w C Q else C (a.put o.dst kH) w):
  xX P md ops Q S n (fuel+1) A a w:=by
 refine⟨λh0=>(by rw[E]at h0;cases h0),λj I=> ?_⟩;rw[E]at I;obtain rfl:=List.mem_singleton.1 I;exact wpOp_step ho λC N=>h C λa w J O=>N a w ⟨λ_=>J,O J⟩
theorem sK:∀(fuel:Nat)(A:Array Bool)(a:Act)(w:jJ),((l7 n).all λj=>A.getD j true)=true->wpAny P md ops Q fuel A a w->xX P md ops Q S n fuel A a w
 |0,_,_,_,_,h=>h
 |fuel+1,A,a,w,J,h=>⟨h.1,λi hi=>by
  have hin:¬i<n:=λhin=>by
   have C:=lY.1 J i (mg.2 hin);have h0:=(mem_ready.1 hi).1;rcases lh i A.size with E|E
   .simp[E]at h0 C;rw[h0]at C;cases C
   .simp[Array.getElem?_eq_none E]at h0
  refine wpOp_mono (λO w' E=>⟨λh=>absurd h hin,sK fuel _ O w' ?_ E⟩) (h.2 i hi);refine lY.2 λj N=> ?_
  have C:=lY.1 J j N;by_cases I:i=j;.exact absurd (I▸mg.1 N) hin
  .rw[getD_set_ne true I];exact C⟩
theorem r9{id:Nat}{a:Act}{w:jJ}(n:Nat)(A:P.follows .mixedOrders=true)(C:S w.drew)(h:S w.drew->xX P .any ops Q S n ops.size (lI ops.size false) a w.drew):(lg id ops true).wp P Q a w:=
 wp_region_any A (Db _ _ _ _ (h C))
end
def rf2(x:Fr):List jP:=[x.v,ng nH (x.e:Nat)]
theorem Av(x:Fr):(rf2 x).length=2:=rfl
abbrev RT:ko:=278
abbrev OT:ko:=275
def OU(B bo bw:Nat)(vr:jP):Nat->Prop:=λc=>c<B\/c=bo\/c=bw\/vr.ownBlock=some c
structure rE(w:jJ)(B bo bw:Nat)(vr:jP)(st:List Fr):Prop where
 ho:nO w bo #[vr] OT
 row:pK rf2 2 w B RT vr st.reverse
 nbo:vr.ownBlock≠some bo
 nbw:vr.ownBlock≠some bw
 Iu:Eb w (OU B bo bw vr) st
 Iw:B<=bo
 hbw:B<=bw
 ne:bo≠bw
 lt:bw<w.heap.size
theorem XI:wY jI 45 IT 3:=⟨Tryz.underlying45,⟨.agg #[.string ⟨#[]⟩,.bool false,.slice none 0 0],48,by
 obtain⟨i,A,C,E,I⟩:=info_parts (show(Tryz.prog.info? IT).map (λi=>(i.zero,i.size,i.bytes))=some (some (nC #[ny ⟨#[]⟩,nA false,nk none 0 0]),3,48)by kernel_rfl);exact⟨i,A,C,E,I,nN,rfl⟩⟩,nN⟩
theorem yu{P:mK}{st:ko}(T:wY P st IT 3){ops:Array lX}{o:lX}{a:Act}{K:Act->jJ->Prop}{Q:Exit->Act->jJ->Prop}{E:Prop}(C:o.guard=none)(s x:Operand)(ho:o.op=.call {callee:=.builtin .append,args:=#[s,x],argTypes:=#[st,st]}){w:jJ}{B b c:Nat}{v:jP}{L:List (qh IL)}{y:qh IL}{cs:Array jP}(hs:a.eval s=v)(A:pK OQ 3 w B IT v L)(J:a.eval x=nk (some ⟨b,0,none⟩) 1 c)(hb:nO w b cs t')(I:cs.toList=OQ y)(N:∀u∈OQ y,u.oneCell'=true)(hlen:L.length<=1000000)(hB:B<=w.heap.size)(h:∀g cap w',pK OQ 3 w' B IT (nk (some ⟨g,0,none⟩) (L.length+1) cap) (L++[y])->w.grownBy w' v.ownBlock->(v.ownBlock=some g\/g=w.heap.size)->g<w'.heap.size->K (a.put o.dst (nk (some ⟨g,0,none⟩) (L.length+1) cap)) w'):
  if Region.wanted o (yielded ops a.tmps)=true then Oper.wp P o a w K Q else E:=by
 have O:Region.wanted o (yielded ops a.tmps)=true:=by simp[Region.wanted,C]
 rw[if_pos O];obtain⟨g,cap,w',U,V,Y,Z,aa,_⟩:=Da (ty:=o.type) T Au A hb I N hlen hB;unfold Oper.wp execOp;simp only[ho,resolve,invoke,builtin,Sem.run_bind,Sem.run_pure,Result.andThen_ok,List.map_toArray,mH,List.map_nil,hs,J];rw[U];exact h g cap w' V Y Z aa
theorem vG{w w':jJ}{b:Nat}(i:Nat)(v:jP)(h:w.heap[b]? =w'.heap[b]?):(w.setCell ⟨b,i,none⟩ v).heap[b]? =(w'.setCell ⟨b,i,none⟩ v).heap[b]? :=by
 simp only[kC];rw[lL,lL,if_pos rfl,if_pos rfl,h]
theorem Qg{w w':jJ}{b:Nat}(o:Nat)(x y z:jP)(h:w.heap[b]? =w'.heap[b]?):(wD w b o x y z).heap[b]? =(wD w' b o x y z).heap[b]? :=
 vG _ _ (vG _ _ (vG _ _ h))
theorem a09{w W w2 W3:jJ}{B bo bw go C az cap N:Nat}{vr:jP}{x:Fr}{xs:List Fr}{y:qh IL}{ah:Nat->Prop}{aJ:Array jP}(h:rE w B bo bw vr (x::xs))(hbw:nO w bw aJ IT)(aK:vr=nk (some ⟨go,0,none⟩) (N+1) az)(aL:xs.length=N)(aS:nV w ah y.u y.sub)(aM:∀c,ah c->¬OU B bo bw vr c)(hL:Eb w (λc=>OU B bo bw vr c\/ah c) (x::xs))(aN:y.lab.text.length<=j5)(V:jS w.heap.size w W)(ak:pK OQ 3 w2 0 IT (nk (some ⟨C,0,none⟩) (x.L.length+1) cap) (x.L++[XH]))(I:W.grownBy w2 x.v.ownBlock)(Y:x.v.ownBlock=some C\/C=W.heap.size)(aO:∀c,c≠C->c≠go->W3.heap[c]? =w2.heap[c]?)(aT:W3.heap[C]? =(wD w2 C (x.L.length*3) (ny (txt y.lab)) (nA y.lab.list) y.u).heap[C]?)(aU:W3.heap[go]? =(w2.setCell ⟨go,N*2,none⟩ (nk (some ⟨C,0,none⟩) (x.L.length+1) cap)).heap[go]?)(aA:W3.heap.size=w2.heap.size)(aB:W3.os=w2.os/\W3.tape=w2.tape/\W3.output=w2.output):
  ∃v',rE W3 B bo bw vr (⟨v',x.L++[y],x.e⟩::xs)/\nO W3 bw aJ IT/\jS B w W3:=by
 subst aK;obtain⟨Q,Z,ai,aP⟩:=hL;have aa:go<w.heap.size/\B<=go:=⟨(h.row.block go rfl).2.1,(h.row.block go rfl).1⟩;have ae:∀c,Q c->c≠go:=λc hc e=>Z c hc (.inl (by subst e;exact .inr (.inr (.inr rfl))))
 have aC:∀c,ah c->c≠go:=λc hc e=>aM c hc (by subst e;exact .inr (.inr (.inr rfl)))
 have E:∀b,x.v.ownBlock=some b->b<w.heap.size/\Q b:=λb hb=>⟨(ai.1.block b hb).2.1,ai.2.1 b hb⟩
 have aD:C≠go:=by
  rintro rfl;rcases Y with Y|Y
  .exact ae _ (E _ Y).2 rfl
  .have:=V.size;omega
 have hsz:w.heap.size<=w2.heap.size:=kg V.size I.size;have J:w.grownBy w2 x.v.ownBlock:=⟨I.os.trans V.os,I.tape.trans V.tape,I.output.trans V.output,hsz,λc hc aQ=>(I.block c (kG hc V.size) aQ).trans (V.block c hc)⟩;have O:x.v.ownBlock=some C\/w.heap.size<=C:=Y.imp id λe=>by have:=V.size;omega
 have au:pK rf2 2 w2 B RT (nk (some ⟨go,0,none⟩) (N+1) az) (x::xs).reverse:=h.row.keep λb hb=>by
  simp[kJ]at hb;subst hb;exact J.block _ aa.1 λe=>ae _ (E _ e.symm).2 rfl
 have aF:∀z:Fr,(z::xs).reverse[N]? =some z:=λz=>by simp[<-aL]
 have aG:∀z u:Fr,(z::xs).reverse.set N u=(u::xs).reverse:=λz u=>by simp[<-aL]
 have ag:=au.set Av (aF x) (j:=0) (x:=nk (some ⟨C,0,none⟩) (x.L.length+1) cap) (z:=⟨nk (some ⟨C,0,none⟩) (x.L.length+1) cap,x.L++[y],x.e⟩) nN rfl;rw[aG,Nat.add_zero]at ag;have av:=tZ.push ai ak J O aS (λc hc e=>Z c (E c e).2 (.inr hc)) aN;have af:w.heap.size<=W3.heap.size:=by rw[aA];exact hsz
 have U:∀c,c<w.heap.size->¬Q c->c≠go->W3.heap[c]? =w.heap[c]? :=λc hc A hn=>by
  have:c≠C:=by
   rintro rfl;rcases O with e|e
   .exact A (E _ e).2
   .omega
  rw[aO c this hn];exact J.block c hc λe=>A (E _ e.symm).2
 have aj:∀c,OU B bo bw (nk (some ⟨go,0,none⟩) (N+1) az) c->¬Q c:=λc hc A=>Z c A (.inl hc)
 have aH:=aj bo (.inr (.inl rfl));have aI:=aj bw (.inr (.inr (.inl rfl)));have ax:bo≠go:=λe=>h.nbo (by subst e;rfl)
 have ay:bw≠go:=λe=>h.nbw (by subst e;rfl)
 refine⟨nk (some ⟨C,0,none⟩) (x.L.length+1) cap,⟨?_,?_,h.nbo,h.nbw,⟨λc=>Q c\/ah c\/(c=C/\C<W3.heap.size),λc hc hn=> ?_,?_,?_⟩,h.Iw,h.hbw,h.ne,kG h.lt af⟩,?_,?_⟩
 .unfold nO
  rw[U bo h.ho.lt aH ax];exact h.ho
 .refine ag.keep λb hb=> ?_
  simp[kJ]at hb;subst hb;exact aU
 .rcases hc with hc|hc|⟨rfl,_⟩
  .exact Z c hc (.inl hn)
  .exact aM c hc hn
  .rcases O with e|e
   .exact Z _ (E _ e).2 (.inl hn)
   .rcases hn with hn|rfl|rfl|hn
    .have:=aa.2;omega
    .have:=h.ho.lt;omega
    .have:=h.lt;omega
    .simp[kJ]at hn;exact aD hn.symm
 .refine av.keep (by rw[vg,aA];exact jL _) (λc hc A=> ?_) λc hc A=> ?_
  .by_cases e:c=C
   .subst e;exact aT
   .rw[sS c e]
    refine aO c e ?_;rcases A with A|A|A
    .exact ae c A
    .exact aC c A
    .exact absurd A e
  .rw[vg,<-aA]at hc
   rcases A with A|A|A
   .exact .inl A
   .exact .inr (.inl A)
   .exact .inr (.inr ⟨A,A▸hc⟩)
 .refine aP.keep af (λc hc hn=>U c hc (λA=>hn (.inr A)) λe=>hn (.inl (.inl (by subst e;exact .inr (.inr (.inr rfl)))))) λc hc hn=> ?_
  rcases hn with hn|hn|hn|⟨rfl,_⟩
  .exact .inl (.inl hn)
  .exact .inr hn
  .exact .inl (.inr hn)
  .rcases O with e|e
   .exact .inr (E _ e).2
   .omega
 .unfold nO
  rw[U bw h.lt aI ay];exact hbw
 .refine⟨aB.1.trans J.os,aB.2.1.trans J.tape,aB.2.2.trans J.output,af,λc hc=> ?_⟩
  have aR:c<w.heap.size:=by have:=aa.1;have:=aa.2;omega
  exact U c aR (aj c (.inl hc)) (by have:=aa.2;omega)
theorem Dc(x:Fr)(xs:List Fr)(w:jJ)(B bo bw:Nat)(vr:jP)(y:qh IL)(aS:Nat->Prop)(bq:Array jP)(h:rE w B bo bw vr (x::xs))(hn:xs.length<=100)(hl:x.L.length<=100000)(hbw:nO w bw bq IT)(av:nV w aS y.u y.sub)(bu:∀c,aS c->¬OU B bo bw vr c)(hL:Eb w (λc=>OU B bo bw vr c\/aS c) (x::xs))(bz:y.lab.text.length<=j5):
  jV jI 241 #[nC #[ny (txt y.lab),nA y.lab.list,y.u],nz (some ⟨bo,0,none⟩),nz (some ⟨bw,0,none⟩)] w
   λe w'=>e=nE (nD #[])/\∃v',rE w' B bo bw vr (⟨v',x.L++[y],x.e⟩::xs)/\nO w' bw bq IT/\jS B w w':=by
 obtain⟨u,aG⟩:=nT y.u;obtain⟨o,n,c,rfl,_⟩:∃o n c,u=nk o n c/\True:=by obtain⟨o,c,U,_⟩:=nV.slice av;exact⟨o,_,c,by rw[<-aG,U],trivial⟩
 rw[aG]at av⊢;obtain⟨g,hg⟩:=nT w.heap.size;obtain⟨oa,bJ,aJ⟩:=h.row.slice;have aK:(x::xs).reverse.length=xs.length+1:=nR;rw[aK]at aJ;subst aJ;obtain⟨go,rfl,bU,aa,_,aT,V,bA⟩:=pK.at_ h.row Av (i:=xs.length) (y:=x) nR;have r0:w.cell? ⟨go,xs.length*2,none⟩=some x.v:=V 0 nN;have r1:w.cell? ⟨go,xs.length*2+1,none⟩=some (ng nH (x.e:Nat)):=V 1 nN;have o0:w.cell? ⟨bo,0,none⟩=some (nk (some ⟨go,0,none⟩) (xs.length+1) bJ):=h.ho.cell 0;have aU:=h.ho.lt;have aV:jW (w.cell? ⟨go,xs.length*2,none⟩=some x.v):=jH r0;have aW:=jH (rU (T:=txt y.lab) (l:=y.lab.list) (t:=IT) av);rw[hg]at aW;have H:=jH h;have bK:=jH hL;have bB:=jH hbw;have bL:=jH av;have bM:=jH bu;clear h hL hbw av aK bu;obtain⟨N,aX⟩:=nT xs.length;have ax:=jH aX;rw[aX]at r0 r1 o0 hn V aT;obtain⟨M,aH⟩:=nT x.L.length;have ay:=jH aH;obtain⟨ov,cv,au⟩:∃ov cv,x.v=nk ov M cv:=by
  obtain⟨Q,_,U,_⟩:=H.Iu;obtain⟨ov,cv,ae⟩:=U.slice;exact⟨ov,cv,by rw[ae,aH]⟩
 rw[aH]at hl;rw[au]at r0;rw[ax.out,au]at aV;clear V aX aH;go_in;go_upto_region 1 with fail;generalize w.alloc (nG #[ny (txt y.lab),nA y.lab.list,nk o n c] IT)=w1 at*;obtain⟨ah,aL,aY,b0,b1,aZ,aM⟩:=aW.out _ rfl;have bC:=(ah.cell (p:=⟨go,xs.length*2,none⟩) (hg▸aa)).trans (ax.out▸r0);rw[ax.out]at bC;have p0:=(ah.cell (p:=⟨bo,0,none⟩) (hg▸aU)).trans o0;have bD:=jH (jU ah (jU aL aM));clear aW ah aL aM r0 r1 o0;have hw1:w1.heap.size=g+1:=by rw[aY]
 have bN:go<w1.heap.size:=nK;have bV:(0:Int)<=(M:Int):=Int.natCast_nonneg _;have bW:(M:Int)<(M:Int)+1:=nK;have aN:∀b,(kM ov M cv).ownBlock=some b->b<g/\b≠go:=by
  obtain⟨Q,bE,aO,_⟩:=H.Iu;intro b hb;rw[<-au]at hb;refine⟨hg▸(aO.1.block b hb).2.1,λe=> ?_⟩;subst e;exact bE _ (aO.2.1 _ hb) (.inr (.inr (.inr rfl)))
 have ai:=jH aN;have az:jW (∀W,w1.drew.alloc (nG #[ny ⟨#[]⟩,nA false,nk none 0 0] IT)=W->pK OQ 3 W 0 IT (nk ov M cv) x.L/\nO W (g+1) #[ny ⟨#[]⟩,nA false,nk none 0 0] IT/\jS g w W/\W.heap.size=g+2):=jH λW e=>by
  subst e;have af:jS g w (w1.drew.alloc (nG #[ny ⟨#[]⟩,nA false,nk none 0 0] IT)):=bD.1.drew.alloc (by rw[show w1.drew.heap.size=w1.heap.size from rfl];omega) _;have aP:(w1.drew.alloc (nG #[ny ⟨#[]⟩,nA false,nk none 0 0] IT)).heap.size=g+2:=by simp only[World.alloc,World.drew,Array.size_push];omega
  obtain⟨Q,_,U,_⟩:=H.Iu;refine⟨?_,?_,af,aP⟩
  .rw[<-au]
   exact U.1.keep λb hb=>af.block b (hg▸(U.1.block b hb).2.1)
  .have:=nO.new w1.drew #[ny ⟨#[]⟩,nA false,nk none 0 0] IT
   rwa [show w1.drew.heap.size=g+1 from hw1]at this
 have bO:jW (∀C cap (W w2:jJ),w1.drew.alloc (nG #[ny ⟨#[]⟩,nA false,nk none 0 0] IT)=W->pK OQ 3 w2 0 IT (nk (some ⟨C,0,none⟩) (M+1) cap) (x.L++[XH])->W.grownBy w2 (kM ov M cv).ownBlock->((kM ov M cv).ownBlock=some C\/C=W.heap.size)->
   (w2.cell? ⟨go,N*2,none⟩=some (nk ov M cv)/\w2.cell? ⟨g,0,none⟩=some (ny (txt y.lab))/\w2.cell? ⟨g,1,none⟩=some (nA y.lab.list)/\w2.cell? ⟨g,2,none⟩=some (nk o n c))/\
   w2.frozen? ⟨go,N*2,none⟩=false/\C≠go/\C≠g/\(w2.cell? ⟨C,M*3,none⟩=some (ny ⟨#[]⟩)/\w2.cell? ⟨C,M*3+1,none⟩=some (nA false)/\w2.cell? ⟨C,M*3+2,none⟩=some (nk none 0 0))/\
   (w2.frozen? ⟨C,M*3,none⟩=false/\w2.frozen? ⟨C,M*3+1,none⟩=false/\w2.frozen? ⟨C,M*3+2,none⟩=false)/\M+1<=cap):=jH λC cap W w2 e U ae ag=>by
  obtain⟨_,_,af,aP⟩:=az.out W e;have aA:go<g:=hg▸aa;have f1:∀i,w2.cell? ⟨go,i,none⟩=w.cell? ⟨go,i,none⟩:=λi=>(ae.cell_far ⟨go,i,none⟩ (show go<W.heap.size by omega) (λe=>(ai _ e.symm).2 rfl)).trans (af.cell (p:=⟨go,i,none⟩) aA)
  have f2:∀i,w2.frozen? ⟨go,i,none⟩=w.frozen? ⟨go,i,none⟩:=λi=>(ae.frozen_far ⟨go,i,none⟩ (show go<W.heap.size by omega) (λe=>(ai _ e.symm).2 rfl)).trans (af.frozen (p:=⟨go,i,none⟩) aA)
  have aQ:some g≠(kM ov M cv).ownBlock:=λe=>by have:=(ai _ e.symm).1;omega
  have f3:∀i,w2.cell? ⟨g,i,none⟩=w1.cell? ⟨g,i,none⟩:=λi=>by
   subst e;exact(ae.cell_far ⟨g,i,none⟩ (show g<_ by omega) aQ).trans ((jT w1.heap.size w1).drew.alloc (jL _) _|>.cell (p:=⟨g,i,none⟩) (show g<w1.heap.size by omega))
  obtain⟨bX,bP,_,_,_,aI,hc,bg⟩:=pK.at_ U Au (i:=M) (y:=XH) (by rw[<-ay.out];simp);cases bP;refine⟨⟨?_,(f3 0).trans b0,(f3 1).trans b1,(f3 2).trans aZ⟩,?_,?_,?_,⟨hc 0 nN,hc 1 nN,hc 2 nN⟩,⟨bg _,bg _,bg _⟩,aI⟩;.rw[f1];exact aV
  .rw[f2];exact bA _
  .rintro rfl
   rcases ag with ag|ag
   .exact(ai _ ag).2 rfl
   .omega
  .rintro rfl
   rcases ag with ag|ag
   .exact aQ ag.symm
   .omega
 clear aN;go_upto_region 4 with fail;refine r9 (S:=λw'=>w'.cell? ⟨go,N*2,none⟩=some (nk ov M cv)/\w'.cell? ⟨g,0,none⟩=some (ny (txt y.lab))/\w'.cell? ⟨g,1,none⟩=some (nA y.lab.list)/\w'.cell? ⟨g,2,none⟩=some (nk o n c)) 7 nM ⟨bC,b0,b1,aZ⟩ (λI=> ?_);refine nY (i:=0) (oi:= ?oi0) (v:= ?v0) ?hi0 nM nM nM nM nM ?hQ0 (kL ⟨?hw0,?hy0⟩) I ?a5D;case hi0=>simp only[jO,jM,jN]<;>rfl
 case hQ0=>exact λ_ _ _ h=>h
 case hw0=>rfl
 case hy0=>(intro w A;(try dsimp only at A);go_simp;try rfl)
 simp only[kE,jK,jQ,jR];refine nY (i:=1) (oi:= ?oi1) (v:= ?v1) ?hi1 nM nM nM nM nM ?hQ1 (kL ⟨?hw1,?hy1⟩) I ?a5E;case hi1=>simp only[jO,jM,jN]<;>rfl
 case hQ1=>exact λ_ _ _ h=>h
 case hw1=>rfl
 case hy1=>(intro w A;(try dsimp only at A);go_simp;try rfl)
 simp only[kE,jK,jQ,jR];refine nY (i:=2) (oi:= ?oi2) (v:= ?v2) ?hi2 nM nM nM nM nM ?hQ2 (kL ⟨?hw2,?hy2⟩) I ?a5F;case hi2=>simp only[jO,jM,jN]<;>rfl
 case hQ2=>exact λ_ _ _ h=>h
 case hw2=>rfl
 case hy2=>(intro w A;(try dsimp only at A);go_simp;try rfl)
 simp only[kE,jK,jQ,jR];refine nY (i:=3) (oi:= ?oi3) (v:= ?v3) ?hi3 nM nM nM nM nM ?hQ3 (kL ⟨?hw3,?hy3⟩) I ?a5G;case hi3=>simp only[jO,jM,jN]<;>rfl
 case hQ3=>exact λ_ _ _ h=>h
 case hw3=>rfl
 case hy3=>(intro w A;(try dsimp only at A);go_simp;try rfl)
 simp only[kE,jK,jQ,jR];refine nY (i:=4) (oi:= ?oi4) (v:= ?v4) ?hi4 nM nM nM nM nM ?hQ4 (kL ⟨?hw4,?hy4⟩) I ?a5H;case hi4=>simp only[jO,jM,jN]<;>rfl
 case hQ4=>exact λ_ _ _ h=>h
 case hw4=>rfl
 case hy4=>(intro w A;(try dsimp only at A);go_simp;try rfl)
 simp only[kE,jK,jQ,jR];refine nY (i:=5) (oi:= ?oi5) (v:= ?v5) ?hi5 nM nM nM nM nM ?hQ5 (kL ⟨?hw5,?hy5⟩) I ?a5I;case hi5=>simp only[jO,jM,jN]<;>rfl
 case hQ5=>exact λ_ _ _ h=>h
 case hw5=>rfl
 case hy5=>(intro w A;(try dsimp only at A);go_simp;try rfl)
 simp only[kE,jK,jQ,jR];refine vk (i:=6) (o:= ?oi6) nM ?hi6 (λK E=> ?_);case hi6=>simp only[jO,jM,jN]<;>rfl
 go_simp;obtain⟨bF,bG,aR,bH⟩:=az.out _ rfl;have aj:∀i,(w1.drew.alloc (nG #[ny ⟨#[]⟩,nA false,nk none 0 0] IT)).cell? ⟨g,i,none⟩=w1.cell? ⟨g,i,none⟩:=λi=>((jT w1.heap.size w1).drew.alloc (jL _) _).cell (p:=⟨g,i,none⟩) (show g<w1.heap.size by omega)
 refine E _ _ ⟨(aR.cell (p:=⟨go,N*2,none⟩) (hg▸aa)).trans aV.out,(aj 0).trans b0,(aj 1).trans b1,(aj 2).trans aZ⟩ (λaB=> ?_);clear E K aj bF bG aR bH aB;try simp only[kE,jK,jQ,jR]
 refine sK _ _ _ _ nM (wpAny_of_held (S:=λ_=>True) _ _ _ _ ?_);refine lW (rs:=[7]) nM nR ?_;refine kZ (o:= ?oi7) ?hi7 (λK E=> ?_) lC;case hi7=>simp only[jO,jM,jN]<;>rfl
 refine yu XI (by rfl) _ _ (by rfl) (B:=0) (L:=x.L) (y:=XH) (by rfl) (az _ (by rfl)).1 (by rfl) (az _ (by rfl)).2.1 rfl nN (by rw[ay.out];omega) nK ?_;intro C cap w2 O Y ak hlt;have bY:=jH (jU O (jU Y (jU ak hlt)));have aC:=jH (λW3=>a09 (W3:=W3) (W:=(w1.alloc (nG #[ny ⟨#[]⟩,nA false,nk none 0 0] IT)).drew) (N:=N) H bB (by rw[ax.out]) ax (by rw[aG];exact bL) bM bK bz (hg.symm▸(az _ (by rfl)).2.2.1) O (by rw[au];exact Y) (by rw[au];exact ak));rw[ay.out,aG]at aC;rw[ay.out]at O;rw[ay.out];obtain⟨bI,z0,J,bZ,⟨bQ,bR,bS⟩,⟨dw,dx,z3⟩,cz⟩:=bO.out C cap _ w2 (by rfl) O Y ak;obtain⟨bT,_⟩:=bI;clear O Y ak hlt;refine E _ _ trivial (λZ=> ?_);clear E K;try simp only[kE,jK,jQ,jR]
 refine kU (i:=8) (oi:= ?oi8) (v:= ?v8) ?hi8 nM nM nM ?hQ8 (kL ⟨?hw8,?hy8⟩) Z ?a5J;case hi8=>simp only[jO,jM,jN]<;>rfl
 case hQ8=>exact λ_ _ _ h=>h
 case hw8=>rfl
 case hy8=>(intro w A;(try dsimp only at A);go_simp;try rfl)
 simp only[kE,jK,jQ,jR];refine kU (i:=10) (oi:= ?a7T) (v:= ?v10) ?a2V nM nM nM ?a2W (kL ⟨?a2X,?a2Y⟩) Z ?a2Z;case a2V=>simp only[jO,jM,jN]<;>rfl
 case a2W=>exact λ_ _ _ h=>h
 case a2X=>rfl
 case a2Y=>(intro w A;(try dsimp only at A);go_simp;try rfl)
 simp only[kE,jK,jQ,jR];refine kU (i:=11) (oi:= ?a7U) (v:= ?v11) ?a3a nM nM nM ?a3b (kL ⟨?a3c,?a3d⟩) Z ?a3e;case a3a=>simp only[jO,jM,jN]<;>rfl
 case a3b=>exact λ_ _ _ h=>h
 case a3c=>rfl
 case a3d=>(intro w A;(try dsimp only at A);go_simp;try rfl)
 simp only[kE,jK,jQ,jR];refine lW (rs:=[9,12]) nM nR ?_;refine kZ (o:= ?oi9) ?hi9 (λK E=> ?_) ?more;case hi9=>simp only[jO,jM,jN]<;>rfl
 case more=>
  refine kZ (o:= ?a5K) ?Wt (λK E=> ?_) lC;case Wt=>simp only[jO,jM,jN]<;>rfl
  go_simp;refine E _ _ trivial (λaD=> ?_);clear E K;try simp only[kE,jK,jQ,jR]
  have cK:=(World.cell?_setCell_far w2 ⟨go,N*2,none⟩ ⟨C,M*3,none⟩ (nk (some ⟨C,0,none⟩) (M+1) cap) (Ne.symm J)).trans bQ;have cZ:=(World.cell?_setCell_far w2 ⟨go,N*2,none⟩ ⟨C,M*3+1,none⟩ (nk (some ⟨C,0,none⟩) (M+1) cap) (Ne.symm J)).trans bR;have df:=(World.cell?_setCell_far w2 ⟨go,N*2,none⟩ ⟨C,M*3+2,none⟩ (nk (some ⟨C,0,none⟩) (M+1) cap) (Ne.symm J)).trans bS;refine lW (rs:=[9]) nM nR ?_;refine kZ (o:= ?oi9) ?hi9 (λK E=> ?_) lC;case hi9=>simp only[jO,jM,jN]<;>rfl
  go_simp;refine E _ _ trivial (λaF=> ?_);clear E K;try simp only[kE,jK,jQ,jR]
  refine wpAnyH_done nM ?_ _;go_end0;refine⟨rfl,aC _ (λc U ae=> ?_) ?_ ?_ (by simp[kC]) ⟨rfl,rfl,rfl⟩⟩;.rw[sQ,sS c U,j6 _ _ _ _ ae]
  .rw[sQ]
   exact Qg _ _ _ _ (j6 _ _ _ _ J)
  .rw[sQ,sS go (Ne.symm J)]
 go_simp;refine E _ _ trivial (λaD=> ?_);clear E K;try simp only[kE,jK,jQ,jR]
 have dh:(((w2.setCell ⟨C,M*3,none⟩ (ny (txt y.lab))).setCell ⟨C,M*3+1,none⟩ (nA y.lab.list)).setCell ⟨C,M*3+2,none⟩ (nk o n c)).cell? ⟨go,N*2,none⟩=some (nk ov M cv):=by
  rw[World.cell?_setCell_far _ _ _ _ J,World.cell?_setCell_far _ _ _ _ J,World.cell?_setCell_far _ _ _ _ J];exact bT
 refine lW (rs:=[12]) nM nR ?_;refine kZ (o:= ?a5K) ?Wt (λK E=> ?_) lC;case Wt=>simp only[jO,jM,jN]<;>rfl
 go_simp;refine E _ _ trivial (λaF=> ?_);clear E K;try simp only[kE,jK,jQ,jR]
 refine wpAnyH_done nM ?_ _;go_end0;refine⟨rfl,aC _ (λc U ae=> ?_) ?_ ?_ (by simp[kC]) ⟨rfl,rfl,rfl⟩⟩;.rw[sQ,j6 _ _ _ _ ae,sS c U]
 .rw[sQ,j6 _ _ _ _ J]
 .rw[sQ]
  exact vG _ _ (sS go (Ne.symm J))
theorem UL{w w1:jJ}{B bo bw:Nat}{vr:jP}{I:Nat->Prop}{E:Array jP}{T:ByteArray}{l:Bool}{v:jP}{s:List (nL IL)}(h:rE w B bo bw vr [])(hbw:nO w bw E IT)(N:nV w I v s)(O:∀c,I c->¬OU B bo bw vr c)(hc:E.size=3)(C:jS w.heap.size w w1):
  rE (wD w1 bw 0 (ny T) (nA l) v) B bo bw vr []/\nO (wD w1 bw 0 (ny T) (nA l) v) bw #[ny T,nA l,v] IT/\nV (wD w1 bw 0 (ny T) (nA l) v) I v s/\jS B w (wD w1 bw 0 (ny T) (nA l) v):=by
 have J:=Below.blk C hbw h.lt;have hB:jS B w (wD w1 bw 0 (ny T) (nA l) v):=by
  have Q:=(C.mono (show B<=w.heap.size by have:=h.hbw;have:=h.lt;omega));exact pE.below (Nu w1 bw 0 (ny T) (nA l) v) Q h.hbw (by have:=C.size;have:=h.hbw;have:=h.lt;omega)
 have A:∀c,c<w.heap.size->c≠bw->(wD w1 bw 0 (ny T) (nA l) v).heap[c]? =w.heap[c]? :=λc hc hn=>(sS c hn).trans (C.block c hc)
 refine⟨⟨?_,h.row.keep λb hb=>A b (h.row.block b hb).2.1 (λe=>h.nbw (e▸hb)),h.nbo,h.nbw,trivial,h.Iw,h.hbw,h.ne,by rw[vg];exact kG h.lt C.size⟩,?_,?_,hB⟩
 .unfold nO
  rw[A bo h.ho.lt h.ne];exact h.ho
 .have:=(((J.set 0 (ny T)).set 1 (nA l)).set 2 v)
  have e:((E.setIfInBounds 0 (ny T)).setIfInBounds 1 (nA l)).setIfInBounds 2 v=#[ny T,nA l,v]:=by
   obtain⟨L⟩:=E
   match L,hc with
   |[a,b,c],_=>rfl
  rw[e]at this;exact this
 .exact Shape.nX.keep N (by rw[vg];exact C.size) (λ_ _ h=>h) λc hc U=>A c hc λe=>O c U (.inr (.inr (.inl e)))
theorem zW(w:jJ)(B bo bw:Nat)(vr:jP)(y:qh IL)(Q:Nat->Prop)(a0 aj a2:jP)(h:rE w B bo bw vr [])(hbw:nO w bw #[a0,aj,a2] IT)(E:nV w Q y.u y.sub)(Z:∀c,Q c->¬OU B bo bw vr c):
  jV jI 241 #[nC #[ny (txt y.lab),nA y.lab.list,y.u],nz (some ⟨bo,0,none⟩),nz (some ⟨bw,0,none⟩)] w
   λe w'=>e=nE (nD #[])/\rE w' B bo bw vr []/\nO w' bw #[ny (txt y.lab),nA y.lab.list,y.u] IT/\nV w' Q y.u y.sub/\jS B w w':=by
 obtain⟨u,aa⟩:=nT y.u;obtain⟨o,n,c,rfl,_⟩:∃o n c,u=nk o n c/\True:=by obtain⟨o,c,U,_⟩:=nV.slice E;exact⟨o,_,c,by rw[<-aa,U],trivial⟩
 rw[aa]at E⊢;obtain⟨g,hg⟩:=nT w.heap.size;obtain⟨oa,ae,O⟩:=h.row.slice;have I:vr=nk oa 0 ae:=O;have o0:w.cell? ⟨bo,0,none⟩=some (nk oa 0 ae):=by rw[<-I];exact h.ho.cell 0
 have J:=h.ho.lt;have V:=jH (rU (T:=txt y.lab) (l:=y.lab.list) (t:=IT) E);have N:=jH (λw1 U=>UL (w1:=w1) (T:=txt y.lab) (l:=y.lab.list) h hbw E Z rfl U);have A:=h.lt;have c0:=hbw.cell 0;have c1:=hbw.cell 1;have c2:=hbw.cell 2;obtain⟨z0,af,ag⟩:=hbw.f3;rw[hg]at V N A J;clear h hbw E Z O I;go_in;go_upto_region 1 with fail;generalize w.alloc (nG #[ny (txt y.lab),nA y.lab.list,nk o n c] IT)=w1 at*;obtain⟨C,ah,ak,b0,b1,au,ai⟩:=V.out _ rfl;have p0:=(C.cell (p:=⟨bo,0,none⟩) J).trans o0;have av:=(C.cell (p:=⟨bw,0,none⟩) A).trans c0;have ax:=(C.cell (p:=⟨bw,1,none⟩) A).trans c1;have ay:=(C.cell (p:=⟨bw,2,none⟩) A).trans c2;have az:=(C.frozen (p:=⟨bw,0,none⟩) A).trans z0;have aA:=(C.frozen (p:=⟨bw,1,none⟩) A).trans af;have y2:=(C.frozen (p:=⟨bw,2,none⟩) A).trans ag;have Y:=jH (N _ C);clear V C ah ai N c0 c1 c2 z0 af ag;go_wp2_with fail;go_returns;exact⟨rfl,Y.out⟩
end
section
theorem Fs{k:Nat}{l:List UInt8}{m:Nat}{y:nL IL×Nat×Nat}(h:vU k l m=.ok y):0<y.2.1/\y.2.1<=l.length:=⟨(MZ k l m y h).1,(MZ k l m y h).2.1⟩
theorem XJ{k:Nat}:∀(f A:Nat)(l:List UInt8)(m:Nat)(sub:List (nL IL)),l.length<f->l.length<A->Jm (vU k) f l m sub=Jm (vU k) A l m sub:=by
 intro f;induction f with
 |zero=>intro A l m sub h;omega
 |succ f C=>
  intro A l m sub h I;cases A with
  |zero=>omega
  |succ A=>
   simp only[Jm];split;.rfl
   .split
    .rfl
    .rename_i y E
     obtain⟨J,N⟩:=Fs E;exact C A _ _ _ nQ nQ
def zt(s:List UInt8)(at_ A:Nat):List UInt8:=(s.drop at_).take (A - at_)
def XK(k:Nat)(l:List UInt8)(m:Nat)(sub:List (nL IL)):Except Nat (List (nL IL)×Nat):=Jm (vU k) (l.length+1) l m sub
def fin(s:List UInt8):List (List (nL IL)×Nat)->Nat->nL IL->Nat->Nat->Except Nat (nL IL×Nat×Nat)
 |[],_,x,p,m=> .ok (x,p,m)
 |(sub,e)::st,k,x,p,m=>match XK k (zt s p e) m (sub++[x])with
  | .error er=> .error er
  | .ok y=>fin s st (k+1) (.node ⟨[],true⟩ y.1) e y.2
def cont(s:List UInt8)(sub:List (nL IL))(e:Nat)(st:List (List (nL IL)×Nat))(k p m:Nat):Except Nat (nL IL×Nat×Nat):=match XK k (zt s p e) m sub with
  | .error er=> .error er
  | .ok y=>fin s st (k+1) (.node ⟨[],true⟩ y.1) e y.2
theorem XL(s:List UInt8)(sub:List (nL IL))(e:Nat)(st:List (List (nL IL)×Nat))(k:Nat)(x:nL IL)(p m:Nat):fin s ((sub,e)::st) k x p m=cont s (sub++[x]) e st k p m:=rfl
theorem XM(s:List UInt8)(e:Nat):zt s e e=[]:=by simp[zt]
theorem a1a(k m:Nat)(sub:List (nL IL)):XK k [] m sub=.ok (sub,m):=by simp[XK,Jm]
theorem GR{s:List UInt8}{sub:List (nL IL)}{e:Nat}{st:List (List (nL IL)×Nat)}{k m:Nat}:cont s sub e st k e m=fin s st (k+1) (.node ⟨[],true⟩ sub) e m:=by
 unfold cont;rw[XM,a1a]
theorem GU{k:Nat}{l:List UInt8}{m:Nat}{sub:List (nL IL)}(h:l≠[]):XK k l m sub=match vU k l m with
  | .error e=> .error (if e=2 then 3 else e)
  | .ok y=>XK k (l.drop y.2.1) y.2.2 (sub++[y.1]):=by
 unfold XK;conv=>lhs;rw[Jm]
 rw[if_neg h];cases A:vU k l m with
 |error e=>rfl
 |ok y=>
  obtain⟨C,E⟩:=Fs A;exact XJ _ _ _ _ _ nQ nR
theorem seg_length(s:List UInt8){p e:Nat}(A:p<=e)(C:e<=s.length):(zt s p e).length=e - p:=by simp[zt];omega
theorem GV(s:List UInt8){p e:Nat}(C:p<e)(A:e<=s.length):zt s p e≠[]:=λh=>by
 have:=congrArg List.length h;rw[seg_length s nK A]at this;simp at this;omega
theorem De(s:List UInt8){p e n:Nat}(h:p+n<=e):(zt s p e).drop n=zt s (p+n) e:=by
 unfold zt;rw[List.drop_take,List.drop_drop,show e - p - n=e -(p+n)by omega]
theorem Nv(s:List UInt8){p e n:Nat}(h:p+n<=e):(zt s p e).take n=zt s p (p+n):=by
 unfold zt;rw[List.take_take,Nat.min_eq_left nK,show p+n - p=n by omega]
theorem XN{s:List UInt8}{sub:List (nL IL)}{e:Nat}{st:List (List (nL IL)×Nat)}{k p m er:Nat}(hp:p<e)(he:e<=s.length)(h:vU k (zt s p e) m=.error er):
  cont s sub e st k p m=.error (if er=2 then 3 else er):=by
 unfold cont;rw[GU (GV s hp he),h]
theorem a1b{k:Nat}:∀(f:Nat)(l:List UInt8)(m:Nat)(sub:List (nL IL))(er:Nat),Jm (vU k) f l m sub=.error er->er≠2:=by
 intro f;induction f with
 |zero=>intro l m sub er h;simp only[Jm]at h;cases h;decide
 |succ f A=>
  intro l m sub er h;simp only[Jm]at h;split at h;.cases h
  .split at h
   .cases h;split<;>omega
   .exact A _ _ _ _ h
theorem XO{l:List UInt8}{m:Nat}(h:l≠[]):vU 0 l m=.error 6:=by simp[vU,h]
theorem a1c{k m:Nat}:vU k [] m=.error 2:=by cases k<;>simp[vU]
theorem XP{k:Nat}{l:List UInt8}(h:l≠[]):vU (k+1) l 0=.error 4:=by simp[vU,h]
theorem XQ{k:Nat}{l:List UInt8}{m er:Nat}(h:l≠[])(A:hd l=.error er):vU (k+1) l (m+1)=.error er:=by simp[vU,h,A]
theorem Nw{k:Nat}{l:List UInt8}{m z n:Nat}(h:l≠[])(A:hd l=.ok (false,z,n)):vU (k+1) l (m+1)=.ok (.node ⟨(l.drop z).take n,false⟩ [],z+n,m):=by simp[vU,h,A]
theorem Ny{k:Nat}{l:List UInt8}{m z n:Nat}(h:l≠[])(A:hd l=.ok (true,z,n))(C:z+n<=l.length):vU (k+1) l (m+1)=match XK k ((l.drop z).take n) m []with
  | .error e=> .error e
  | .ok y=> .ok (.node ⟨[],true⟩ y.1,z+n,y.2):=by
 simp only[vU,h,if_false,A,Nat.add_sub_cancel,if_true];rw[if_neg nK];have:((l.drop z).take n).length=n:=nQ;unfold XK;rw[this];cases Jm (vU k) (n+1) ((l.drop z).take n) m []<;>rfl
theorem UM{s:List UInt8}{sub:List (nL IL)}{e:Nat}{st:List (List (nL IL)×Nat)}{k p m z n:Nat}(hp:p<e)(he:e<=s.length)(h:hd (zt s p e)=.ok (false,z,n))(A:z+n<=e - p):
  cont s sub e st (k+1) p (m+1)=cont s (sub++[.node ⟨zt s (p+z) (p+z+n),false⟩ []]) e st (k+1) (p+z+n) m:=by
 unfold cont;rw[GU (GV s hp he),Nw (GV s hp he) h];simp only;rw[De s nK,De s nK,Nv s nK,<-kP]
theorem UN{s:List UInt8}{sub:List (nL IL)}{e:Nat}{st:List (List (nL IL)×Nat)}{k p m z n:Nat}(hp:p<e)(he:e<=s.length)(h:hd (zt s p e)=.ok (true,z,n))(C:z+n<=e - p):
  cont s sub e st (k+1) p (m+1)=cont s [] (p+z+n) ((sub,e)::st) k (p+z) m:=by
 unfold cont;rw[GU (GV s hp he),Ny (GV s hp he) h (by rw[seg_length s nK he];omega)];rw[De s nK,Nv s nK];cases A:XK k (zt s (p+z) (p+z+n)) m []with
 |error er=>
  simp only;rw[if_neg (a1b _ _ _ _ _ A)]
 |ok y=>
  simp only[fin];rw[De s nK,<-kP]
theorem BR{s:List UInt8}{k m z n:Nat}(h:hd s=.ok (true,z,n))(hs:s≠[])(A:z+n<=s.length):vU (k+1) s (m+1)=cont s [] (z+n) [] k z m:=by
 rw[Ny hs h A];unfold cont;have:(s.drop z).take n=zt s z (z+n):=by unfold zt;rw[show z+n - z=n by omega]
 rw[this];cases XK k (zt s z (z+n)) m []<;>rfl
end
end Go.Proofs.YtamfcjmhnndbdaaGreatDoor


