/- Part 10 of the proof. -/
import Derived.Test.YtamfcjmhnndbdaaGreatDoorZk00
import Derived.Test.YtamfcjmhnndbdaaGreatDoorZk05
import Derived.Test.YtamfcjmhnndbdaaGreatDoorZk06
import Derived.Test.YtamfcjmhnndbdaaGreatDoorZk09
import Derived.OwnWalk
import Derived.Deep.AppendLies
import Derived.Deep.RegionHeld
import Derived.WalkKit
import Derived.StillTail
import Derived.Deep.RegionHeld3
open Go.Value renaming agg→lC,bool→lu,int→lg,pointer→lq,slice→lh,string→ll,tuple→lD,ownBlock→jw,slice→jD
open Go.Obj renaming cells→lG
open Go.IntKind renaming i64→lH
open Go.Ending renaming returned→lF
open Go.Lib renaming hid→iF
open Go.Proofs.Tryz renaming prog→iG
open Go renaming World→iH,Value→iJ,Calls→iU,bodyPost_ret→iV,maxLen→jb,TypeId→jg,undef→jo,results→jr,wpAnyH_take→jT,Program→kg,Addr→kr,Oper→kH
open Nat renaming le_refl→iI,le_trans→je,lt_of_lt_of_le→jq,zero_le→jy,lt_or_ge→jG,add_assoc→jI,add_mul→j6
open Go.RowKit renaming Below→iK,Hid→iW
open Go.RowKit.Below renaming refl→iL,heap_setCell→iX
open List renaming getElem?_cons_succ→iM,setIfInBounds_toArray→iN,getElem?_cons_zero→iO,getElem?_toArray→iP,set_cons_zero→iR,set_cons_succ→iT,getElem?_eq_getElem→iZ,mem_of_getElem?→jc,take_succ_cons→ji,length_cons→jm,length_append→jv,take_zero→jC,getElem?_eq_some_iff→jH,all_eq_true→jV,length_take→ky,mem_range→kF,range→kI,length_eq_zero_iff→kR,map_cons→kY
open And renaming intro→iQ
open Go.World renaming setCell→jf
open Array renaming getElem?_eq_some_iff→jk,getElem?_modify→jK,replicate→jQ,getElem?_eq_none→kW
open Go.Code renaming region→jJ
open Go.AllReadyH renaming cons→jU,nil→j3
open Go.Region renaming ready→jW,binds→kG
open Go.Act renaming put→jZ
open Option.some renaming inj→kK
namespace Go.Proofs.YtamfcjmhnndbdaaGreatDoor
set_option linter.unusedVariables false
set_option linter.unusedSimpArgs false
set_option maxRecDepth 100000
set_option maxHeartbeats 8000000
variable {t t':jg}
section
open Go.RowKit
abbrev pV:jg:=63
theorem OU{w:iH}{Q:Nat->Prop}{oa:Option kr}{n cap:Nat}{s:List (lL TL)}(h:l9.lY w Q (lh oa n cap) s){i:Nat}{x:lL TL}(A:s[i]? =some x):
  ∃b off ou cu,oa=some ⟨b,off,none⟩/\b<w.heap.size/\Q b/\w.cell? ⟨b,off+i*4,none⟩=some (lg lH x.lab.kind)/\w.cell? ⟨b,off+i*4+1,none⟩=some (lg lH x.lab.size)/\
   w.cell? ⟨b,off+i*4+2,none⟩=some (lh ou x.sub.length cu)/\w.cell? ⟨b,off+i*4+3,none⟩=some (lg lH x.lab.tail)/\l9.lY w Q (lh ou x.sub.length cu) x.sub:=by
 obtain⟨O,C,E,U,V,J⟩:=Shape.lY.get h;cases E;obtain⟨b,off,u,e,hb,N,ho,hc,hs⟩:=J i x A;obtain⟨ou,cu,rfl,_⟩:=hs;exact⟨b,off,ou,cu,e,hb,N,by simpa [l9,jI]using hc 0 lM,by simpa [l9,jI]using hc 1 lM,by simpa [l9,jI]using hc 2 lM,by simpa [l9,jI]using hc 3 lM,⟨ou,cu,rfl,‹_›⟩⟩
def Br(Q:Nat->Prop)(y:lL TL)(b:Bool)(w:iH)(e:Ending)(w':iH):Prop:=
 ∃ou cu,e=lF (lD #[lC #[lg lH y.lab.kind,lg lH y.lab.size,lh ou y.sub.length cu,lg lH y.lab.tail],lu b])/\l9.lY w' Q (lh ou y.sub.length cu) y.sub/\iK w.heap.size w w'
def wu(w:iH)(k:Nat)(a b c d:iJ):iH:=(((w.setCell ⟨k,0,none⟩ a).setCell ⟨k,1,none⟩ b).setCell ⟨k,2,none⟩ c).setCell ⟨k,3,none⟩ d
theorem qK(w:iH)(k:Nat)(a b c d:iJ):(((w.setCell ⟨k,0,none⟩ a).setCell ⟨k,1,none⟩ b).setCell ⟨k,2,none⟩ c).setCell ⟨k,3,none⟩ d=wu w k a b c d:=rfl
theorem qU{B k:Nat}{w0 w:iH}{a b c d:iJ}(h:iK B w0 w)(hk:B<=k):iK B w0 (wu w k a b c d):=
 (((h.setCell (p:=⟨k,0,none⟩) hk _).setCell (p:=⟨k,1,none⟩) hk _).setCell (p:=⟨k,2,none⟩) hk _).setCell (p:=⟨k,3,none⟩) hk _
theorem pI{w:iH}{k:Nat}{a b c d a0 b0 c0 A:iJ}(h:lN w k #[a0,b0,c0,A] t):lN (wu w k a b c d) k #[a,b,c,d] t:=(((h.set 0 a).set 1 b).set 2 c).set 3 d
theorem mg{W:iH}{k:Nat}{a b c d:iJ}(h:lN W k #[a,b,c,d] t):(W.cell? ⟨k,0,none⟩=some a/\W.cell? ⟨k,1,none⟩=some b/\W.cell? ⟨k,2,none⟩=some c/\W.cell? ⟨k,3,none⟩=some d)/\
  W.frozen? ⟨k,0,none⟩=false/\W.frozen? ⟨k,1,none⟩=false/\W.frozen? ⟨k,2,none⟩=false/\W.frozen? ⟨k,3,none⟩=false:=⟨⟨h.cell 0,h.cell 1,h.cell 2,h.cell 3⟩,h.free 0,h.free 1,h.free 2,h.free 3⟩
theorem TN{w:iH}{g:Nat}(hg:w.heap.size=g):∀W,w.alloc (lG #[lg lH 0,lg lH 0,lh none 0 0,lg lH 0] pV)=W->iK g w W/\lN W g #[lg lH 0,lg lH 0,lh none 0 0,lg lH 0] pV:=by
 rintro W rfl;subst hg;exact⟨(iL _ _).alloc (iI _) _,lN.new w _ _⟩
theorem Xg(tb i:Nat)(a:TL)(y:lL TL)(ot:Option kr)(n ct:Nat)(s:List (lL TL))(Q:Nat->Prop)(w:iH)(ht:lN w tb #[lg lH a.kind,lg lH a.size,lh ot n ct,lg lH a.tail] pV)(hs:l9.lY w Q (lh ot n ct) s)(V:s[0]? =some y):
  iU iG 250 #[lg lH i,lq (some ⟨tb,0,none⟩)] w (Br Q y true w):=by
 obtain⟨ax,ae,af,ay,az,_⟩:=Shape.lY.get hs;have hlen:0<s.length:=(jH.1 V).1;cases af;obtain⟨b,off,ou,cu,rfl,hb,ag,c0,c1,c2,c3,C⟩:=OU hs V;rw[Nat.zero_mul,Nat.add_zero]at c0 c1 c2 c3;obtain⟨g,hg⟩:=lV w.heap.size;have Y:=iF (TN hg);have A:b<g:=hg▸hb;have Z:tb<g:=hg▸ht.lt;have U:=iF (λW (h:iK g w W)=>(Shape.lY.below C (hg.symm▸h):l9.lY W Q (lh ou y.sub.length cu) y.sub));have aa:iW (∀W,iK g w W->(W.cell? ⟨tb,2,none⟩=some (lh (some ⟨b,off,none⟩) s.length ct))/\W.cell? ⟨b,off,none⟩=some (lg lH y.lab.kind)/\W.cell? ⟨b,off+1,none⟩=some (lg lH y.lab.size)/\W.cell? ⟨b,off+2,none⟩=some (lh ou y.sub.length cu)/\W.cell? ⟨b,off+3,none⟩=some (lg lH y.lab.tail)):=iF λW h=>
  ⟨(h.cell (p:=⟨tb,2,none⟩) Z).trans (ht.cell 2),(h.cell (p:=⟨b,off,none⟩) A).trans c0,(h.cell (p:=⟨b,off+1,none⟩) A).trans c1,(h.cell (p:=⟨b,off+2,none⟩) A).trans c2,(h.cell (p:=⟨b,off+3,none⟩) A).trans c3⟩
 unfold Br;rw[hg];clear ht hs C c0 c1 c2 c3 hb ag;generalize s.length=N at*;generalize y.sub.length=M at*;go_in;go_upto_region 1 with fail;obtain⟨E,J⟩:=Y.out _ rfl;generalize w.alloc _=w1 at*;obtain⟨aA,e1,e2,e3,e4⟩:=aa.out _ E;obtain⟨⟨aB,aC,aD,aF⟩,aG,aH,aI,aJ⟩:=mg J;have ah:=iF E;have ai:=iF J;clear Y E J aa;go_wp2_with fail;rw[qK];obtain⟨⟨aj,ak,au,av⟩,_⟩:=mg (pI (a:=lg lH y.lab.kind) (b:=lg lH y.lab.size) (c:=lh ou M cu) (d:=lg lH y.lab.tail) ai.out);have O:=qU (a:=lg lH y.lab.kind) (b:=lg lH y.lab.size) (c:=lh ou M cu) (d:=lg lH y.lab.tail) ah.out (iI g);refine iV (v:=lD #[lC #[lg lH y.lab.kind,lg lH y.lab.size,lh ou M cu,lg lH y.lab.tail],lu true]) (by simp[jr,Tryz.results250,go_sem,aj,ak,au,av]) rfl ⟨ou,cu,rfl,U.out _ O,O⟩
structure I8(g tb rb cb lb fb:Nat)(r:RS)(a:TL)(ot:Option kr)(n ct:Nat)(w0:iH)(k z:Int)(ou:Option kr)(nu cu:Nat)(tl:Int)(W:iH):Prop where
 tb:lN W tb #[lg lH a.kind,lg lH a.size,lh ot n ct,lg lH a.tail] pV
 rb:lN W rb (Ce cb lb fb) Cw
 rd:tT W cb r
 rs:lN W g #[lg lH k,lg lH z,lh ou nu cu,lg lH tl] pV
 nV:iK g w0 W
theorem I8.drewN{g tb rb cb lb fb:Nat}{r:RS}{a:TL}{ot:Option kr}{n ct:Nat}{w0:iH}{k z:Int}{ou:Option kr}{nu cu:Nat}{tl:Int}{W:iH}(h:I8 g tb rb cb lb fb r a ot n ct w0 k z ou nu cu tl W)(m:Nat):I8 g tb rb cb lb fb r a ot n ct w0 k z ou nu cu tl (W.drewN m):=
 ⟨h.tb,h.rb,h.rd,h.rs,⟨h.nV.os,h.nV.tape,h.nV.output,h.nV.size,h.nV.block⟩⟩
theorem I8.drew{g tb rb cb lb fb:Nat}{r:RS}{a:TL}{ot:Option kr}{n ct:Nat}{w0:iH}{k z:Int}{ou:Option kr}{nu cu:Nat}{tl:Int}{W:iH}(h:I8 g tb rb cb lb fb r a ot n ct w0 k z ou nu cu tl W):I8 g tb rb cb lb fb r a ot n ct w0 k z ou nu cu tl W.drew:=
 ⟨h.tb,h.rb,h.rd,h.rs,⟨h.nV.os,h.nV.tape,h.nV.output,h.nV.size,h.nV.block⟩⟩
theorem I8.put{g tb rb cb lb fb:Nat}{r:RS}{a:TL}{ot:Option kr}{n ct:Nat}{w0:iH}{k z N O:Int}{ou A:Option kr}{nu cu C E:Nat}{tl J:Int}{W:iH}(h:I8 g tb rb cb lb fb r a ot n ct w0 k z ou nu cu tl W)(Q:tb<g)(U:rb<g)(V:cb<g):
  I8 g tb rb cb lb fb r a ot n ct w0 N O A C E J (wu W g (lg lH N) (lg lH O) (lh A C E) (lg lH J)):=
 have o:∀{c:Nat}{cs:Array iJ}{t:jg},lN W c cs t->c≠g->lN (wu W g (lg lH N) (lg lH O) (lh A C E) (lg lH J)) c cs t:=λh hn=>
  (((h.setOther (a:=⟨g,0,none⟩) hn _).setOther (a:=⟨g,1,none⟩) hn _).setOther (a:=⟨g,2,none⟩) hn _).setOther (a:=⟨g,3,none⟩) hn _
 ⟨o h.tb lK,o h.rb lK,o h.rd lK,pI h.rs,qU h.nV (iI g)⟩
def CZ:List kH:=[⟨some 6,.fieldAddr 63 (.tmp 1) 2,0,"layout.go:122",#[],none⟩,⟨some 7,.load 61 (.tmp 6),61,"layout.go:122",#[⟨0,.data⟩],none⟩,⟨some 8,.move (.tmp 0),3,"layout.go:122",#[],none⟩,⟨some 9,.indexAddr 61 (.tmp 7) (.tmp 8),0,"layout.go:122",#[⟨1,.data⟩,⟨2,.data⟩],none⟩,⟨some 10,.load 63 (.tmp 9),63,"layout.go:122",#[⟨3,.data⟩],none⟩,⟨some 11,.move (.tmp 0),3,"layout.go:122",#[],none⟩,⟨some 12,.fieldAddr 63 (.tmp 1) 2,0,"layout.go:122",#[],none⟩,⟨some 13,.load 61 (.tmp 12),61,"layout.go:122",#[⟨6,.data⟩],none⟩,⟨some 14,.call {callee:=.builtin .len,args:=#[.tmp 13],argTypes:=#[61]},3,"layout.go:122",#[⟨7,.data⟩],none⟩,⟨some 15,.fieldAddr 63 (.tmp 1) 3,0,"layout.go:122",#[],none⟩,⟨some 16,.load 3 (.tmp 15),3,"layout.go:122",#[⟨9,.data⟩],none⟩,⟨some 17,.binOp .sub 3 (.tmp 14) (.tmp 16) 3,3,"layout.go:122",#[⟨8,.data⟩,⟨10,.data⟩],none⟩,⟨some 18,.binOp .lss 3 (.tmp 11) (.tmp 17) 3,4,"layout.go:122",#[⟨5,.data⟩,⟨11,.data⟩],none⟩,⟨some 19,.move (.tmp 18),4,"layout.go:122",#[⟨12,.data⟩],none⟩,⟨some 20,.fieldAddr 258 (.tmp 2) 3,0,"layout.go:122",#[⟨13,.guard⟩],some (13,false)⟩,⟨some 21,.load 42 (.tmp 20),42,"layout.go:122",#[⟨14,.data⟩,⟨13,.guard⟩],some (13,false)⟩,⟨some 22,.call {callee:=.value (.tmp 21),args:=#[],argTypes:=#[]},3,"layout.go:122",#[⟨15,.data⟩,⟨13,.chain⟩,⟨13,.guard⟩],some (13,false)⟩,⟨some 23,.binOp .gtr 3 (.tmp 22) (.const (.int .i64 0)) 3,4,"layout.go:122",#[⟨16,.data⟩,⟨13,.guard⟩,⟨19,.gcOnly .lateStores⟩],some (13,false)⟩,⟨some 24,.pick (.tmp 19) (.const (.bool true)) (.tmp 23),4,"layout.go:122",#[⟨13,.data⟩,⟨17,.data⟩,⟨19,.gcOnly .lateStores⟩],none⟩,⟨none,.store 63 (.tmp 4) (.tmp 10),0,"layout.go:122",#[⟨4,.data⟩,⟨16,.chain⟩,⟨0,.phase⟩,⟨1,.phase⟩,⟨2,.phase⟩,⟨3,.phase⟩,⟨4,.phase⟩,⟨5,.textOnly .lateStores⟩,⟨6,.textOnly .lateStores⟩,⟨7,.textOnly .lateStores⟩,⟨8,.textOnly .lateStoresUnsure⟩,⟨9,.textOnly .lateStores⟩,⟨10,.textOnly .lateStores⟩,⟨11,.textOnly .lateStores⟩,⟨12,.textOnly .lateStores⟩,⟨13,.textOnly .lateStores⟩,⟨14,.textOnly .lateStores⟩,⟨15,.textOnly .lateStores⟩,⟨16,.textOnly .lateStoresUnsure⟩,⟨17,.textOnly .lateStores⟩,⟨18,.textOnly .lateStores⟩],none⟩,⟨some 5,.assign (.tmp 24),4,"layout.go:122",#[⟨18,.data⟩,⟨19,.chain⟩,⟨0,.phase⟩,⟨1,.phase⟩,⟨2,.phase⟩,⟨3,.phase⟩,⟨4,.phase⟩,⟨5,.phase⟩,⟨6,.phase⟩,⟨7,.phase⟩,⟨8,.phase⟩,⟨9,.phase⟩,⟨10,.phase⟩,⟨11,.phase⟩,⟨12,.phase⟩,⟨13,.phase⟩,⟨14,.phase⟩,⟨15,.phase⟩,⟨16,.phase⟩,⟨17,.phase⟩,⟨18,.phase⟩,⟨19,.phase⟩],none⟩]
section
variable (g tb rb cb lb fb:Nat)(r:RS)(ta:TL)(bo off n ct:Nat)(w0:iH)(ix:Nat)(k z:Int)(ou:Option kr)(nu cu:Nat)(tl:Int)
def qM:Nat->iJ
 |0=> lq (some ⟨tb,2,none⟩)
 |1=> lh (some ⟨bo,off,none⟩) n ct
 |2=> lg lH ix
 |3=> lq (some ⟨bo,off+ix*4,none⟩)
 |4=> lC #[lg lH k,lg lH z,lh ou nu cu,lg lH tl]
 |5=> lg lH ix
 |6=> lq (some ⟨tb,2,none⟩)
 |7=> lh (some ⟨bo,off,none⟩) n ct
 |8=> lg lH n
 |9=> lq (some ⟨tb,3,none⟩)
 |10=> lg lH ta.tail
 |11=> lg lH ((n:Int) - ta.tail)
 |12=> lu true
 |13=> lu true
 |18=> lu true
 |20=> lu true
 |_=>jo
structure a1j(D:Nat->Bool)(vs:Nat->iJ)(w:iH):Prop where
 mh:I8 g tb rb cb lb fb r ta (some ⟨bo,off,none⟩) n ct w0 (if(D 19)=true then k else 0) (if(D 19)=true then z else 0) (if(D 19)=true then ou else none) (if(D 19)=true then nu else 0) (if(D 19)=true then cu else 0) (if(D 19)=true then tl else 0) w
 val:∀j,(true)=true->D j=true->vs j=qM tb ta bo off n ct ix k z ou nu cu tl j
variable {g tb rb cb lb fb r ta bo off n ct w0 ix k z ou nu cu tl}
theorem TP{p:Prop}(h:p:=by
 have hW:=hI.mh;rw[hd]at hW;obtain⟨⟨y0,y1,y2,y3⟩,q0,q1,q2,q3⟩:=mg hW.rs;go_simp;rw[qK];refine hK jo _ _ rfl ⟨?_,ry hI.val⟩;rw[l7];exact hW.put hlt.1 hlt.2.1 hlt.2.2):p:=h
theorem Xh{id:Nat}{Q:Exit->Act->iH->Prop}{a0:Act}{O:iH}(ht1:a0.tmps.getD 1 jo=lq (some ⟨tb,0,none⟩))(ht0:a0.tmps.getD 0 jo=lg lH ix)(hin:ix<n)(hn:n<=100000)(hel:∀W,iK g w0 W->W.cell? ⟨bo,off+ix*4,none⟩=some (lg lH k)/\W.cell? ⟨bo,off+ix*4+1,none⟩=some (lg lH z)/\W.cell? ⟨bo,off+ix*4+2,none⟩=some (lh ou nu cu)/\W.cell? ⟨bo,off+ix*4+3,none⟩=some (lg lH tl))(htl:0<=ta.tail/\ta.tail<=100000)(hb:decide ((ix:Int)<(n:Int) - ta.tail)=true)(ht2:a0.tmps.getD 2 jo=lq (some ⟨rb,0,none⟩))(Cu:a0.tmps.getD 4 jo=lq (some ⟨g,0,none⟩))(hlt:tb<g/\rb<g/\cb<g)(hsz:a0.tmps.size=25)(hI0:∀vs:Nat->iJ,(λw=>I8 g tb rb cb lb fb r ta (some ⟨bo,off,none⟩) n ct w0 (if false=true then k else 0) (if false=true then z else 0) (if false=true then ou else none) (if false=true then nu else 0) (if false=true then cu else 0) (if false=true then tl else 0) w) O.drew)(U:∀(vs:Nat->iJ) (w:iH),I8 g tb rb cb lb fb r ta (some ⟨bo,off,none⟩) n ct w0 (if true=true then k else 0) (if true=true then z else 0) (if true=true then ou else none) (if true=true then nu else 0) (if true=true then cu else 0) (if true=true then tl else 0) w->Q .normal {a0 with tmps:=((((((((((((((((((((a0.tmps.setIfInBounds 6 (lq (some ⟨tb,2,none⟩))).setIfInBounds 7 (lh (some ⟨bo,off,none⟩) n ct)).setIfInBounds 8 (lg lH ix)).setIfInBounds 9 (lq (some ⟨bo,off+ix*4,none⟩))).setIfInBounds 10 (lC #[lg lH k,lg lH z,lh ou nu cu,lg lH tl])).setIfInBounds 11 (lg lH ix)).setIfInBounds 12 (lq (some ⟨tb,2,none⟩))).setIfInBounds 13 (lh (some ⟨bo,off,none⟩) n ct)).setIfInBounds 14 (lg lH n)).setIfInBounds 15 (lq (some ⟨tb,3,none⟩))).setIfInBounds 16 (lg lH ta.tail)).setIfInBounds 17 (lg lH ((n:Int) - ta.tail))).setIfInBounds 18 (lu true)).setIfInBounds 19 (lu true)).setIfInBounds 20 (jo)).setIfInBounds 21 (jo)).setIfInBounds 22 (jo)).setIfInBounds 23 (jo)).setIfInBounds 24 (lu true)).setIfInBounds 5 (lu true))} w):
  (jJ id CZ.toArray true).wp iG Q a0 O:=by
 refine l6 21 25 (a1j g tb rb cb lb fb r ta bo off n ct w0 ix k z ou nu cu tl) lQ hsz lQ (.inl rfl) lQ ?_ ?_ ?_;.exact oo
 .refine pO λA aj=> ?_
  clear hI0 U hsz;replace ht1:=iF ht1;replace ht0:=iF ht0;replace hin:=iF hin;replace hn:=iF hn;replace hel:=iF hel;replace htl:=iF htl;replace hb:=iF hb;replace ht2:=iF ht2;replace Cu:=iF Cu;replace hlt:=iF hlt;unfold CZ;simp only[ji,jC,o6];refine⟨?_,?_,?_,?_,?_,?_,?_,?_,?_,?_,?_,?_,?_,?_,?_,?_,?_,?_,?_,?_,?_,trivial⟩<;>(intro D vs a w K hI hd E hw2 C hK;subst aj;unfold CZ);have e1:=(C 1 lM).trans ht1.out;rotate_left;have ak:=fe C hI.val E 6 0;simp only[qM]at ak;have c0:=hI.mh.tb.c2;rotate_left;have au:=(C 0 lM).trans ht0.out;rotate_left;have hin:=hin.out;have hn:=hn.out;have aF:=fe C hI.val E 7 1;have aG:=fe C hI.val E 8 2;rotate_left;have hel:=hel.out;have av:=fe C hI.val E 9 3;simp only[qM]at av;obtain⟨c0,c1,c2,c3⟩:=hel w hI.mh.nV;rotate_left;have au:=(C 0 lM).trans ht0.out;rotate_left;have e1:=(C 1 lM).trans ht1.out;rotate_left;have V:=fe C hI.val E 12 6;simp only[qM]at V;have c0:=hI.mh.tb.c2;rotate_left;have ax:=fe C hI.val E 13 7;rotate_left;have e1:=(C 1 lM).trans ht1.out;rotate_left;have Y:=fe C hI.val E 15 9;simp only[qM]at Y;have c0:=hI.mh.tb.c3;rotate_left;have htl:=htl.out;have hn:=hn.out;have Z:=fe C hI.val E 14 8;have aa:=fe C hI.val E 16 10;simp only[qM]at Z aa;have ay:IntKind.i64.wrap ((n:Int) - ta.tail)=(n:Int) - ta.tail:=IntWalk.i64_in _ lK;rotate_left;have hb:=hb.out;have az:=fe C hI.val E 11 5;have aA:=fe C hI.val E 17 11;rotate_left;have aB:=fe C hI.val E 18 12;rotate_left;have e2:=(C 2 lM).trans ht2.out;have J:=fe C hI.val E 19 13;simp only[qM]at J;have N:=ru J;rotate_left;have ae:=fe C hI.val E 20 14;have J:=fe C hI.val E 19 13;simp only[qM]at ae J;have N:=ru J;rotate_left;have af:=fe C hI.val E 21 15;have J:=fe C hI.val E 19 13;simp only[qM]at af J;have N:=ru J;rotate_left;have ag:=fe C hI.val E 22 16;have J:=fe C hI.val E 19 13;simp only[qM]at ag J;have N:=ru J;rotate_left;have J:=fe C hI.val E 19 13;have aC:=fe C hI.val E 23 17;rotate_left
  .have hlt:=hlt.out
   have e4:=(C 4 lM).trans Cu.out;have ah:=fe C hI.val E 10 4;simp only[qM]at ah;exact TP
  have aD:=fe C hI.val E 24 18;rotate_left
  all_goals
   try simp only[qM]at*
   go_simp;exact hK _ _ _ rfl ⟨hI.mh,ry hI.val⟩
 .intro D vs w ai hI
  have E:=hI.mh;rw[ai 19 lM]at E;have q:=U vs w E;rw[mQ hI.val ai];unfold CZ;exact om
end
def C8:List kH:=[⟨some 6,.fieldAddr 63 (.tmp 1) 2,0,"layout.go:122",#[],none⟩,⟨some 7,.load 61 (.tmp 6),61,"layout.go:122",#[⟨0,.data⟩],none⟩,⟨some 8,.move (.tmp 0),3,"layout.go:122",#[],none⟩,⟨some 9,.indexAddr 61 (.tmp 7) (.tmp 8),0,"layout.go:122",#[⟨1,.data⟩,⟨2,.data⟩],none⟩,⟨some 10,.load 63 (.tmp 9),63,"layout.go:122",#[⟨3,.data⟩],none⟩,⟨some 11,.move (.tmp 0),3,"layout.go:122",#[],none⟩,⟨some 12,.fieldAddr 63 (.tmp 1) 2,0,"layout.go:122",#[],none⟩,⟨some 13,.load 61 (.tmp 12),61,"layout.go:122",#[⟨6,.data⟩],none⟩,⟨some 14,.call {callee:=.builtin .len,args:=#[.tmp 13],argTypes:=#[61]},3,"layout.go:122",#[⟨7,.data⟩],none⟩,⟨some 15,.fieldAddr 63 (.tmp 1) 3,0,"layout.go:122",#[],none⟩,⟨some 16,.load 3 (.tmp 15),3,"layout.go:122",#[⟨9,.data⟩],none⟩,⟨some 17,.binOp .sub 3 (.tmp 14) (.tmp 16) 3,3,"layout.go:122",#[⟨8,.data⟩,⟨10,.data⟩],none⟩,⟨some 18,.binOp .lss 3 (.tmp 11) (.tmp 17) 3,4,"layout.go:122",#[⟨5,.data⟩,⟨11,.data⟩],none⟩,⟨some 19,.move (.tmp 18),4,"layout.go:122",#[⟨12,.data⟩],none⟩,⟨some 20,.fieldAddr 258 (.tmp 2) 3,0,"layout.go:122",#[⟨13,.guard⟩],some (13,false)⟩,⟨some 21,.load 42 (.tmp 20),42,"layout.go:122",#[⟨14,.data⟩,⟨13,.guard⟩],some (13,false)⟩,⟨some 22,.call {callee:=.value (.tmp 21),args:=#[],argTypes:=#[]},3,"layout.go:122",#[⟨15,.data⟩,⟨13,.chain⟩,⟨13,.guard⟩],some (13,false)⟩,⟨some 23,.binOp .gtr 3 (.tmp 22) (.const (.int .i64 0)) 3,4,"layout.go:122",#[⟨16,.data⟩,⟨13,.guard⟩,⟨19,.gcOnly .lateStores⟩],some (13,false)⟩,⟨some 24,.pick (.tmp 19) (.const (.bool true)) (.tmp 23),4,"layout.go:122",#[⟨13,.data⟩,⟨17,.data⟩,⟨19,.gcOnly .lateStores⟩],none⟩,⟨none,.store 63 (.tmp 4) (.tmp 10),0,"layout.go:122",#[⟨4,.data⟩,⟨16,.chain⟩,⟨0,.phase⟩,⟨1,.phase⟩,⟨2,.phase⟩,⟨3,.phase⟩,⟨4,.phase⟩,⟨5,.textOnly .lateStores⟩,⟨6,.textOnly .lateStores⟩,⟨7,.textOnly .lateStores⟩,⟨8,.textOnly .lateStoresUnsure⟩,⟨9,.textOnly .lateStores⟩,⟨10,.textOnly .lateStores⟩,⟨11,.textOnly .lateStores⟩,⟨12,.textOnly .lateStores⟩,⟨13,.textOnly .lateStores⟩,⟨14,.textOnly .lateStores⟩,⟨15,.textOnly .lateStores⟩,⟨16,.textOnly .lateStoresUnsure⟩,⟨17,.textOnly .lateStores⟩,⟨18,.textOnly .lateStores⟩],none⟩,⟨some 5,.assign (.tmp 24),4,"layout.go:122",#[⟨18,.data⟩,⟨19,.chain⟩,⟨0,.phase⟩,⟨1,.phase⟩,⟨2,.phase⟩,⟨3,.phase⟩,⟨4,.phase⟩,⟨5,.phase⟩,⟨6,.phase⟩,⟨7,.phase⟩,⟨8,.phase⟩,⟨9,.phase⟩,⟨10,.phase⟩,⟨11,.phase⟩,⟨12,.phase⟩,⟨13,.phase⟩,⟨14,.phase⟩,⟨15,.phase⟩,⟨16,.phase⟩,⟨17,.phase⟩,⟨18,.phase⟩,⟨19,.phase⟩],none⟩]
section
variable (g tb rb cb lb fb:Nat)(r:RS)(ta:TL)(bo off n ct:Nat)(w0:iH)(ix:Nat)(k z:Int)(ou:Option kr)(nu cu:Nat)(tl:Int)
def qd:Nat->iJ
 |0=> lq (some ⟨tb,2,none⟩)
 |1=> lh (some ⟨bo,off,none⟩) n ct
 |2=> lg lH ix
 |3=> lq (some ⟨bo,off+ix*4,none⟩)
 |4=> lC #[lg lH k,lg lH z,lh ou nu cu,lg lH tl]
 |5=> lg lH ix
 |6=> lq (some ⟨tb,2,none⟩)
 |7=> lh (some ⟨bo,off,none⟩) n ct
 |8=> lg lH n
 |9=> lq (some ⟨tb,3,none⟩)
 |10=> lg lH ta.tail
 |11=> lg lH ((n:Int) - ta.tail)
 |12=> lu false
 |13=> lu false
 |14=> lq (some ⟨rb,3,none⟩)
 |15=>zC cb
 |16=> lg lH ((r.t.size:Int) - r.p)
 |17=> lu (decide (r.p<r.t.size))
 |18=> lu (decide (r.p<r.t.size))
 |20=> lu (decide (r.p<r.t.size))
 |_=>jo
structure TQ(D:Nat->Bool)(vs:Nat->iJ)(w:iH):Prop where
 mh:I8 g tb rb cb lb fb r ta (some ⟨bo,off,none⟩) n ct w0 (if(D 19)=true then k else 0) (if(D 19)=true then z else 0) (if(D 19)=true then ou else none) (if(D 19)=true then nu else 0) (if(D 19)=true then cu else 0) (if(D 19)=true then tl else 0) w
 val:∀j,(true)=true->D j=true->vs j=qd tb rb cb r ta bo off n ct ix k z ou nu cu tl j
variable {g tb rb cb lb fb r ta bo off n ct w0 ix k z ou nu cu tl}
theorem TR{D:Nat->Bool}{vs:Nat->iJ}{w w':iH}(h:TQ g tb rb cb lb fb r ta bo off n ct w0 ix k z ou nu cu tl D vs w){i:Nat}(hi:i≠19)(A:I8 g tb rb cb lb fb r ta (some ⟨bo,off,none⟩) n ct w0 (if(D 19)=true then k else 0) (if(D 19)=true then z else 0) (if(D 19)=true then ou else none) (if(D 19)=true then nu else 0) (if(D 19)=true then cu else 0) (if(D 19)=true then tl else 0) w->I8 g tb rb cb lb fb r ta (some ⟨bo,off,none⟩) n ct w0 (if(D 19)=true then k else 0) (if(D 19)=true then z else 0) (if(D 19)=true then ou else none) (if(D 19)=true then nu else 0) (if(D 19)=true then cu else 0) (if(D 19)=true then tl else 0) w'):TQ g tb rb cb lb fb r ta bo off n ct w0 ix k z ou nu cu tl (wV D i) (wW vs i (qd tb rb cb r ta bo off n ct ix k z ou nu cu tl i)) w':=by
 refine⟨?_,ry h.val⟩;rw[lT D (show 19≠i by omega)];exact A h.mh
theorem Xi{id:Nat}{Q:Exit->Act->iH->Prop}{a0:Act}{U:iH}(ht1:a0.tmps.getD 1 jo=lq (some ⟨tb,0,none⟩))(ht0:a0.tmps.getD 0 jo=lg lH ix)(hin:ix<n)(hn:n<=100000)(hel:∀W,iK g w0 W->W.cell? ⟨bo,off+ix*4,none⟩=some (lg lH k)/\W.cell? ⟨bo,off+ix*4+1,none⟩=some (lg lH z)/\W.cell? ⟨bo,off+ix*4+2,none⟩=some (lh ou nu cu)/\W.cell? ⟨bo,off+ix*4+3,none⟩=some (lg lH tl))(htl:0<=ta.tail/\ta.tail<=100000)(hb:decide ((ix:Int)<(n:Int) - ta.tail)=false)(ht2:a0.tmps.getD 2 jo=lq (some ⟨rb,0,none⟩))(hok:r.Ok)(Cu:a0.tmps.getD 4 jo=lq (some ⟨g,0,none⟩))(hlt:tb<g/\rb<g/\cb<g)(hsz:a0.tmps.size=25)(hI0:∀vs:Nat->iJ,(λw=>I8 g tb rb cb lb fb r ta (some ⟨bo,off,none⟩) n ct w0 (if false=true then k else 0) (if false=true then z else 0) (if false=true then ou else none) (if false=true then nu else 0) (if false=true then cu else 0) (if false=true then tl else 0) w) U.drew)(V:∀(vs:Nat->iJ) (w:iH),I8 g tb rb cb lb fb r ta (some ⟨bo,off,none⟩) n ct w0 (if true=true then k else 0) (if true=true then z else 0) (if true=true then ou else none) (if true=true then nu else 0) (if true=true then cu else 0) (if true=true then tl else 0) w->Q .normal {a0 with tmps:=((((((((((((((((((((a0.tmps.setIfInBounds 6 (lq (some ⟨tb,2,none⟩))).setIfInBounds 7 (lh (some ⟨bo,off,none⟩) n ct)).setIfInBounds 8 (lg lH ix)).setIfInBounds 9 (lq (some ⟨bo,off+ix*4,none⟩))).setIfInBounds 10 (lC #[lg lH k,lg lH z,lh ou nu cu,lg lH tl])).setIfInBounds 11 (lg lH ix)).setIfInBounds 12 (lq (some ⟨tb,2,none⟩))).setIfInBounds 13 (lh (some ⟨bo,off,none⟩) n ct)).setIfInBounds 14 (lg lH n)).setIfInBounds 15 (lq (some ⟨tb,3,none⟩))).setIfInBounds 16 (lg lH ta.tail)).setIfInBounds 17 (lg lH ((n:Int) - ta.tail))).setIfInBounds 18 (lu false)).setIfInBounds 19 (lu false)).setIfInBounds 20 (lq (some ⟨rb,3,none⟩))).setIfInBounds 21 (zC cb)).setIfInBounds 22 (lg lH ((r.t.size:Int) - r.p))).setIfInBounds 23 (lu (decide (r.p<r.t.size)))).setIfInBounds 24 (lu (decide (r.p<r.t.size)))).setIfInBounds 5 (lu (decide (r.p<r.t.size))))} w):
  (jJ id C8.toArray true).wp iG Q a0 U:=by
 refine l6 21 25 (TQ g tb rb cb lb fb r ta bo off n ct w0 ix k z ou nu cu tl) lQ hsz lQ (.inl rfl) lQ ?_ ?_ ?_;.exact oo
 .refine pO λA aj=> ?_
  clear hI0 V hsz;replace ht1:=iF ht1;replace ht0:=iF ht0;replace hin:=iF hin;replace hn:=iF hn;replace hel:=iF hel;replace htl:=iF htl;replace hb:=iF hb;replace ht2:=iF ht2;replace hok:=iF hok;replace Cu:=iF Cu;replace hlt:=iF hlt;unfold C8;simp only[ji,jC,o6];refine⟨?_,?_,?_,?_,?_,?_,?_,?_,?_,?_,?_,?_,?_,?_,?_,?_,?_,?_,?_,?_,?_,trivial⟩<;>(intro D vs a w K hI hd E hw2 C hK;subst aj;unfold C8);have e1:=(C 1 lM).trans ht1.out;rotate_left;have ak:=fe C hI.val E 6 0;simp only[qd]at ak;have c0:=hI.mh.tb.c2;rotate_left;have au:=(C 0 lM).trans ht0.out;rotate_left;have hin:=hin.out;have hn:=hn.out;have aG:=fe C hI.val E 7 1;have aH:=fe C hI.val E 8 2;rotate_left;have hel:=hel.out;have av:=fe C hI.val E 9 3;simp only[qd]at av;obtain⟨c0,c1,c2,c3⟩:=hel w hI.mh.nV;rotate_left;have au:=(C 0 lM).trans ht0.out;rotate_left;have e1:=(C 1 lM).trans ht1.out;rotate_left;have Y:=fe C hI.val E 12 6;simp only[qd]at Y;have c0:=hI.mh.tb.c2;rotate_left;have ay:=fe C hI.val E 13 7;rotate_left;have e1:=(C 1 lM).trans ht1.out;rotate_left;have Z:=fe C hI.val E 15 9;simp only[qd]at Z;have c0:=hI.mh.tb.c3;rotate_left;have htl:=htl.out;have hn:=hn.out;have aa:=fe C hI.val E 14 8;have ae:=fe C hI.val E 16 10;simp only[qd]at aa ae;have az:IntKind.i64.wrap ((n:Int) - ta.tail)=(n:Int) - ta.tail:=IntWalk.i64_in _ lK;rotate_left;have hb:=hb.out;have aA:=fe C hI.val E 11 5;have aB:=fe C hI.val E 17 11;rotate_left;have aC:=fe C hI.val E 18 12;rotate_left;have e2:=(C 2 lM).trans ht2.out;have J:=fe C hI.val E 19 13;simp only[qd]at J;have N:=ru J;rotate_left;have af:=fe C hI.val E 20 14;have J:=fe C hI.val E 19 13;simp only[qd]at af J;have N:=ru J;have c0:=hI.mh.rb.cell 3;simp only[Ce,iP,iO,iM]at c0;rotate_left
  .have hok:=hok.out
   have O:=fe C hI.val E 21 15;have J:=fe C hI.val E 19 13;simp only[qd]at O J;have N:=ru J;have ax:=BL cb r w hok hI.mh.rd;unfold zC at O;go_simp;refine ax.mono ?_;rintro e aI ⟨rfl,m,rfl⟩;exact hK (qd tb rb cb r ta bo off n ct ix k z ou nu cu tl 16) _ _ rfl (TR hI (i:=16) lM λh=>h.drewN m)
  have ag:=fe C hI.val E 22 16;have J:=fe C hI.val E 19 13;simp only[qd]at ag J;have N:=ru J;rotate_left;have J:=fe C hI.val E 19 13;have aD:=fe C hI.val E 23 17;rotate_left
  .have hlt:=hlt.out
   have e4:=(C 4 lM).trans Cu.out;have ah:=fe C hI.val E 10 4;simp only[qd]at ah;exact TP
  have aF:=fe C hI.val E 24 18;rotate_left
  all_goals
   try simp only[qd]at*
   go_simp;exact hK _ _ _ rfl ⟨hI.mh,ry hI.val⟩
 .intro D vs w ai hI
  have E:=hI.mh;rw[ai 19 lM]at E;have q:=V vs w E;rw[mQ hI.val ai];unfold C8;exact om
end
theorem Xj(tb rb cb lb fb ix:Nat)(r:RS)(ta:TL)(y:lL TL)(ot:Option kr)(n ct:Nat)(s:List (lL TL))(Q:Nat->Prop)(w:iH)(ht:lN w tb #[lg lH ta.kind,lg lH ta.size,lh ot n ct,lg lH ta.tail] pV)(U:lN w rb (Ce cb lb fb) Cw)(C:tT w cb r)(hok:r.Ok)(hs:l9.lY w Q (lh ot n ct) s)(aj:s[ix]? =some y)(hn:s.length<=100000)(htl:0<=ta.tail/\ta.tail<=100000):
  iU iG 251 #[lg lH ix,lq (some ⟨tb,0,none⟩),lq (some ⟨rb,0,none⟩)] w (Br Q y (decide ((ix:Int)<s.length - ta.tail)||decide (r.p<r.t.size)) w):=by
 obtain⟨aA,av,ax,aB,aC,_⟩:=Shape.lY.get hs;have hlen:ix<s.length:=(jH.1 aj).1;cases ax;obtain⟨b,off,ou,cu,rfl,hb,ay,c0,c1,c2,c3,J⟩:=OU hs aj;obtain⟨g,hg⟩:=lV w.heap.size;have ak:=iF (TN hg);have A:b<g:=hg▸hb;have hlt:tb<g/\rb<g/\cb<g:=⟨hg▸ht.lt,hg▸U.lt,hg▸lN.lt C⟩;have O:=iF (λW (h:iK g w W)=>(Shape.lY.below J (hg.symm▸h):l9.lY W Q (lh ou y.sub.length cu) y.sub));have V:iW (∀W,iK g w W->W.cell? ⟨b,off+ix*4,none⟩=some (lg lH y.lab.kind)/\W.cell? ⟨b,off+ix*4+1,none⟩=some (lg lH y.lab.size)/\W.cell? ⟨b,off+ix*4+2,none⟩=some (lh ou y.sub.length cu)/\W.cell? ⟨b,off+ix*4+3,none⟩=some (lg lH y.lab.tail)):=iF λW h=>
  ⟨(h.cell (p:=⟨b,off+ix*4,none⟩) A).trans c0,(h.cell (p:=⟨b,off+ix*4+1,none⟩) A).trans c1,(h.cell (p:=⟨b,off+ix*4+2,none⟩) A).trans c2,(h.cell (p:=⟨b,off+ix*4+3,none⟩) A).trans c3⟩
 have au:iW (∀W,iK g w W->lN W g #[lg lH 0,lg lH 0,lh none 0 0,lg lH 0] pV->I8 g tb rb cb lb fb r ta (some ⟨b,off,none⟩) s.length ct w 0 0 none 0 0 0 W):=iF λW h hk=>
  have ae:iK w.heap.size w W:=hg.symm▸h
  ⟨Below.blk ae ht ht.lt,Below.blk ae U U.lt,Below.blk ae C (lN.lt C),hk,h⟩
 unfold Br;rw[hg];clear ht U C hs J c0 c1 c2 c3 hb ay A;generalize y.sub.length=M at*;generalize s.length=N at*;have az:∀b0,iW (decide ((ix:Int)<(N:Int) - ta.tail)=b0)->decide ((ix:Int)<(N:Int) - ta.tail)=b0:=λ_ h=>h.out
 obtain⟨b0,hb0⟩:=lV (decide ((ix:Int)<(N:Int) - ta.tail));rw[hb0];have Y:=iF hb0;clear hb0 az;go_in;go_upto_region 1 with fail;obtain⟨Z,aa⟩:=ak.out _ rfl;generalize w.alloc _=w1 at*;have E:=iF (au.out _ Z aa);clear ak Z aa au;cases b0 with
 |true=>
  refine Xh (g:=g) (tb:=tb) (rb:=rb) (cb:=cb) (lb:=lb) (fb:=fb) (r:=r) (ta:=ta) (bo:=b) (off:=off) (n:=N) (ct:=ct) (w0:=w) (ix:=ix) (k:=y.lab.kind) (z:=y.lab.size) (ou:=ou) (nu:=M) (cu:=cu) (tl:=y.lab.tail) (ht0:=by rfl) (ht1:=by rfl) (ht2:=by rfl) (Cu:=by rfl) (hsz:=by rfl) (hI0:=λ_=>E.out.drew) (hin:=hlen) (hn:=hn) (hel:=V.out) (htl:=htl) (hb:=Y.out) (hlt:=hlt) ?_;intro vs W hI;simp only[if_true]at hI;clear E;simp only[iN,iR,iT];obtain⟨⟨af,ag,ah,ai⟩,_⟩:=mg hI.rs;go_wp2_with fail;refine iV (v:=lD #[lC #[lg lH y.lab.kind,lg lH y.lab.size,lh ou M cu,lg lH y.lab.tail],lu true]) (by simp[jr,Tryz.results251,go_sem,af,ag,ah,ai]) rfl ?_;exact⟨ou,cu,rfl,O.out _ hI.nV,hI.nV⟩
 |false=>
  refine Xi (g:=g) (tb:=tb) (rb:=rb) (cb:=cb) (lb:=lb) (fb:=fb) (r:=r) (ta:=ta) (bo:=b) (off:=off) (n:=N) (ct:=ct) (w0:=w) (ix:=ix) (k:=y.lab.kind) (z:=y.lab.size) (ou:=ou) (nu:=M) (cu:=cu) (tl:=y.lab.tail) (ht0:=by rfl) (ht1:=by rfl) (ht2:=by rfl) (Cu:=by rfl) (hsz:=by rfl) (hI0:=λ_=>E.out.drew) (hin:=hlen) (hn:=hn) (hel:=V.out) (htl:=htl) (hb:=Y.out) (hlt:=hlt) (hok:=hok) ?_;intro vs W hI;simp only[if_true]at hI;clear E;simp only[iN,iR,iT];obtain⟨⟨af,ag,ah,ai⟩,_⟩:=mg hI.rs;go_wp2_with fail;refine iV (v:=lD #[lC #[lg lH y.lab.kind,lg lH y.lab.size,lh ou M cu,lg lH y.lab.tail],lu (decide (r.p<r.t.size))]) (by simp[jr,Tryz.results251,go_sem,af,ag,ah,ai]) rfl ?_;exact⟨ou,cu,rfl,O.out _ hI.nV,hI.nV⟩
section
variable {β:Type}{f:β->List iJ}{k:Nat}
def nP(f:β->List iJ)(k:Nat)(w:iH)(B:Nat)(t:jg)(v:iJ)(L:List β):Prop:=w.ownsRow B t k v L.length (L.flatMap f)
theorem Kt(hk:∀y,(f y).length=k)(L:List β):(L.flatMap f).length=L.length*k:=by
 induction L with
 |nil=>simp
 |cons y L A=>rw[List.flatMap_cons,jv,A,hk,jm,j6];omega
theorem Xk(hk:∀y,(f y).length=k){L:List β}{i:Nat}{y:β}(A:L[i]? =some y){j:Nat}(E:j<k):(L.flatMap f)[i*k+j]? =(f y)[j]? :=by
 induction L generalizing i with
 |nil=>simp at A
 |cons z L C=>
  rw[List.flatMap_cons];cases i with
  |zero=>
   simp at A;subst A;rw[List.getElem?_append_left (by rw[hk];omega)];simp
  |succ i=>
   simp at A;rw[List.getElem?_append_right (by rw[hk,j6];omega),hk,show(i+1)*k+j - k=i*k+j by rw[j6];omega];exact C A
theorem TS(hk:∀y,(f y).length=k){L:List β}{i:Nat}{y z:β}(A:L[i]? =some y){j:Nat}{x:iJ}(J:j<k)(C:f z=(f y).set j x):(L.set i z).flatMap f=(L.flatMap f).set (i*k+j) x:=by
 induction L generalizing i with
 |nil=>simp at A
 |cons a L E=>
  cases i with
  |zero=>
   simp at A;subst A;rw[iR,List.flatMap_cons,List.flatMap_cons,C,List.set_append_left _ _ (by rw[hk];omega)];simp
  |succ i=>
   simp at A;rw[iT,List.flatMap_cons,List.flatMap_cons,E A,List.set_append_right _ _ (by rw[hk,j6];omega),hk,show(i+1)*k+j - k=i*k+j by rw[j6];omega]
theorem QR(hk:∀y,(f y).length=k)(L:List β)(n:Nat):(L.take n).flatMap f=(L.flatMap f).take (n*k):=by
 induction L generalizing n with
 |nil=>simp
 |cons y L A=>
  cases n with
  |zero=>simp
  |succ n=>
   rw[ji,List.flatMap_cons,List.flatMap_cons,A,List.take_append,hk,List.take_of_length_le (l:=f y) (by rw[hk,j6];omega),show(n+1)*k - k=n*k by rw[j6];omega]
theorem nP.nil(w:iH)(B:Nat)(t:jg):nP f k w B t (lh none 0 0) []:=World.ownsRow_nil w B t k
theorem nP.form{w:iH}{B:Nat}{v:iJ}{L:List β}(h:nP f k w B t v L):(v=lh none 0 0/\L=[])\/∃g cap A,v=lh (some ⟨g,0,none⟩) L.length cap/\B<=g/\lN w g A t/\L.length<=cap/\cap<=jb/\A.size=cap*k/\A.toList.take (L.length*k)=L.flatMap f:=by
 rcases h.2 with⟨rfl,h0⟩|⟨g,cap,A,rfl,hb,hg,C,E,hsz,htake⟩
 .exact .inl ⟨rfl,kR.1 h0⟩
 .exact .inr ⟨g,cap,A,rfl,hb,hg,C,E,hsz,htake⟩
theorem nP.of{w:iH}{B:Nat}{L:List β}{g cap:Nat}{A:Array iJ}(hb:B<=g)(hg:lN w g A t)(C:L.length<=cap)(E:cap<=jb)(hsz:A.size=cap*k)(hk:∀y,(f y).length=k)(htake:A.toList.take (L.length*k)=L.flatMap f):nP f k w B t (lh (some ⟨g,0,none⟩) L.length cap) L:=
 ⟨Kt hk L,.inr ⟨g,cap,A,rfl,hb,hg,C,E,hsz,htake⟩⟩
theorem nP.block{w:iH}{B:Nat}{v:iJ}{L:List β}(h:nP f k w B t v L):∀b,v.ownBlock=some b->B<=b/\b<w.heap.size/\∃cs,lN w b cs t:=by
 rcases h.form with⟨rfl,_⟩|⟨g,cap,A,rfl,hb,hg,_⟩
 .intro b h;cases h
 .intro b h;cases h;exact⟨hb,hg.lt,A,hg⟩
theorem nP.slice{w:iH}{B:Nat}{v:iJ}{L:List β}(h:nP f k w B t v L):∃oa cap,v=lh oa L.length cap:=by
 rcases h.form with⟨rfl,rfl⟩|⟨g,cap,A,rfl,_⟩
 .exact⟨none,0,rfl⟩
 .exact⟨_,cap,rfl⟩
theorem nP.keep{w w':iH}{B:Nat}{v:iJ}{L:List β}(h:nP f k w B t v L)(hk:∀b,v.ownBlock=some b->w'.heap[b]? =w.heap[b]?):nP f k w' B t v L:=by
 refine⟨h.1,?_⟩;rcases h.2 with E|⟨g,cap,A,C,hg,J,r⟩
 .exact .inl E
 .refine .inr ⟨g,cap,A,C,hg,?_,r⟩
  rw[hk g (by rw[C];rfl)];exact J
theorem nP.below{w w':iH}{B:Nat}{v:iJ}{L:List β}(h:nP f k w B t v L)(hb:iK w.heap.size w w'):nP f k w' B t v L:=
 h.keep λb A=>hb.block b (h.block b A).2.1
theorem nP.at_{w:iH}{B:Nat}{oa:Option kr}{n cap:Nat}{L:List β}(h:nP f k w B t (lh oa n cap) L)(hk:∀y,(f y).length=k){i:Nat}{y:β}(C:L[i]? =some y):
  ∃g,oa=some ⟨g,0,none⟩/\B<=g/\g<w.heap.size/\n=L.length/\n<=cap/\(∀j,j<k->w.cell? ⟨g,i*k+j,none⟩=(f y)[j]?)/\∀j,w.frozen? ⟨g,j,none⟩=false:=by
 obtain⟨hi,_⟩:=jH.1 C;rcases h.form with⟨Q,rfl⟩|⟨g,E,O,J,hb,hg,A,U,hsz,htake⟩
 .simp at hi
 .cases J
  refine⟨g,rfl,hb,hg.lt,rfl,A,λj N=> ?_,λj=>hg.free j⟩;rw[hg.cell,<-Xk hk C N,<-htake,List.getElem?_take_of_lt];.simp
  .have:(i+1)*k<=L.length*k:=Nat.mul_le_mul_right _ lK
   rw[j6]at this;omega
theorem nP.set{w:iH}{B:Nat}{g n cap:Nat}{L:List β}(h:nP f k w B t (lh (some ⟨g,0,none⟩) n cap) L)(hk:∀y,(f y).length=k){i:Nat}{y z:β}(C:L[i]? =some y){j:Nat}{x:iJ}(E:j<k)(J:f z=(f y).set j x):
  nP f k (w.setCell ⟨g,i*k+j,none⟩ x) B t (lh (some ⟨g,0,none⟩) n cap) (L.set i z):=by
 rcases h.form with⟨N,_⟩|⟨Y,O,V,Q,hb,hg,A,U,hsz,htake⟩
 .cases N
 .cases Q
  have:=nP.of (f:=f) (k:=k) (L:=L.set i z) hb (hg.set (i*k+j) x) (by simpa using A) U (by simpa using hsz) hk (by
   rw[TS hk C E J,<-htake,Array.toList_setIfInBounds,List.take_set,List.length_set])
  rw[List.length_set]at this;exact this
theorem nP.cut{w:iH}{B:Nat}{g n cap:Nat}{L:List β}(h:nP f k w B t (lh (some ⟨g,0,none⟩) n cap) L)(hk:∀y,(f y).length=k){m:Nat}(C:m<=L.length):
  nP f k w B t (lh (some ⟨g,0,none⟩) m cap) (L.take m):=by
 rcases h.form with⟨E,_⟩|⟨U,J,Q,N,hb,hg,O,A,hsz,htake⟩
 .cases E
 .cases N
  have hl:(L.take m).length=m:=by rw[ky];omega
  have:=nP.of (f:=f) (k:=k) (L:=L.take m) hb hg lK A hsz hk (by
   rw[QR hk,<-htake,List.take_take,hl,Nat.min_eq_left (Nat.mul_le_mul_right _ C)])
  rw[hl]at this;exact this
theorem TU{w:iH}{b:Nat}{cs:Array iJ}(h:lN w b cs t){l:List iJ}(hl:cs.toList=l):∀j u,l[j]? =some u->w.cell? ((⟨b,0,none⟩:kr).add j)=some u:=by
 subst hl;exact World.news_of_block h
end
structure vL(P:kg)(st t:jg)(k:Nat):Prop where
 ht:P.underlying st=some (.slice t)
 hi:∃z bytes i,P.info? t=some i/\i.zero=some z/\i.size=k/\i.bytes=bytes/\bytes<=1000/\z.cells.size=k
 pos:0<k
theorem Ai{C:Type}{f:C->List iJ}{k:Nat}{P:kg}{st ty:jg}(T:vL P st t k)(hk:∀y,(f y).length=k){w:iH}{B b c:Nat}{v:iJ}{L:List C}{x:C}{cs:Array iJ}(E:nP f k w B t v L)(hb:lN w b cs t')(J:cs.toList=f x)(U:∀u∈f x,u.oneCell'=true)(hlen:L.length<=1000000)(hB:B<=w.heap.size):
  ∃g cap w',(Builtin.append_ #[st,st] ty #[v,lh (some ⟨b,0,none⟩) 1 c]).run P w=.ok (lh (some ⟨g,0,none⟩) (L.length+1) cap) w'/\
   nP f k w' B t (lh (some ⟨g,0,none⟩) (L.length+1) cap) (L++[x])/\w.grownBy w' v.ownBlock/\(v.ownBlock=some g\/g=w.heap.size)/\g<w'.heap.size/\B<=g:=by
 obtain⟨z,bytes,i,hi,V,hsz,N,O,Q⟩:=T.hi
 obtain⟨g,cap,w',Y,Z,aa,ae,af⟩:=run_append_lies w st ty B t i z k bytes T.ht hi V hsz N Q T.pos v L.length (L.flatMap f) E ⟨b,0,none⟩ 1 c (f x) (by rw[hk];omega) (TU hb J) U lM AV
  (je (Nat.mul_le_mul_left _ O) lK) hB _ rfl
 have A:nP f k w' B t (lh (some ⟨g,0,none⟩) (L.length+1) cap) (L++[x]):=by
  unfold nP;rw[jv,List.flatMap_append];simpa using Z
 exact⟨g,cap,w',Y,A,aa,ae,af,(A.block g rfl).1⟩
structure nJ(α:Type) where
 lab:α
 u:iJ
 sub:List (lL α)
def nJ.tree{α:Type}(y:nJ α):lL α:=.node y.lab y.sub
section
variable {α:Type}
def Shape.row(S:Shape α)(L:List (nJ α)):List iJ:=L.flatMap λy=>S.cells y.lab y.u
theorem Shape.M9(S:Shape α)(L M:List (nJ α)):S.row (L++M)=S.row L++S.row M:=by simp[Shape.row]
theorem Shape.En(S:Shape α)(L:List (nJ α)):(S.row L).length=L.length*S.k:=by
 induction L with
 |nil=>simp[Shape.row]
 |cons y L A=>
  show(S.cells y.lab y.u++S.row L).length=_;rw[jv,A,S.hk,jm,j6];omega
theorem Shape.Zy(S:Shape α){L:List (nJ α)}{i:Nat}{y:nJ α}(A:L[i]? =some y){j:Nat}(E:j<S.k):(S.row L)[i*S.k+j]? =(S.cells y.lab y.u)[j]? :=by
 induction L generalizing i with
 |nil=>simp at A
 |cons z L C=>
  show(S.cells z.lab z.u++S.row L)[i*S.k+j]? =_;cases i with
  |zero=>
   simp at A;subst A;rw[List.getElem?_append_left (by rw[S.hk];omega)];simp
  |succ i=>
   simp at A;rw[List.getElem?_append_right (by rw[S.hk,j6];omega),S.hk,show(i+1)*S.k+j - S.k=i*S.k+j by rw[j6];omega];exact C A
def tL(S:Shape α)(t:jg)(w:iH)(B:Nat)(v:iJ)(L:List (nJ α)):Prop:=
 w.ownsRow B t S.k v L.length (S.row L)/\∀y,y∈L->S.ok y.lab/\S.lY w (λc=>B<=c/\v.ownBlock≠some c) y.u y.sub
theorem tL.nil(S:Shape α)(t:jg)(w:iH)(B:Nat):tL S t w B (lh none 0 0) []:=⟨World.ownsRow_nil w B t S.k,λy h=>by cases h⟩
theorem tL.block{S:Shape α}{w:iH}{B:Nat}{v:iJ}{L:List (nJ α)}(h:tL S t w B v L):∀b,v.ownBlock=some b->B<=b/\b<w.heap.size:=by
 rcases h.1.2 with⟨rfl,h0⟩|⟨g,cap,A,rfl,hb,hg,_⟩
 .intro b h;cases h
 .intro b h;cases h;exact⟨hb,(jk.1 hg).1⟩
theorem tL.slice{S:Shape α}{w:iH}{B:Nat}{v:iJ}{L:List (nJ α)}(h:tL S t w B v L):∃oa cap,v=lh oa L.length cap:=by
 rcases h.1.2 with⟨rfl,h0⟩|⟨g,cap,A,rfl,_⟩
 .exact⟨none,0,by rw[h0]⟩
 .exact⟨_,cap,rfl⟩
theorem tL.keep{S:Shape α}{w w':iH}{B:Nat}{v:iJ}{L:List (nJ α)}(h:tL S t w B v L)(hs:w.heap.size<=w'.heap.size)(hk:∀c,B<=c->c<w.heap.size->w'.heap[c]? =w.heap[c]?):tL S t w' B v L:=by
 refine⟨⟨h.1.1,?_⟩,λy A=>⟨(h.2 y A).1,(h.2 y A).2.keep hs (λ_ _ h=>h) λc hc J=>hk c J.1 hc⟩⟩;rcases h.1.2 with N|⟨g,cap,C,O,hg,E,r⟩
 .exact .inl N
 .refine .inr ⟨g,cap,C,O,hg,?_,r⟩
  rw[hk g hg (jk.1 E).1];exact E
theorem tL.below{S:Shape α}{w w':iH}{B:Nat}{v:iJ}{L:List (nJ α)}(h:tL S t w B v L)(hb:iK w.heap.size w w'):tL S t w' B v L:=
 h.keep hb.size λc _ hc=>hb.block c hc
theorem tL.upd{S:Shape α}{w w':iH}{B b:Nat}{v:iJ}{L:List (nJ α)}(h:tL S t w B v L)(A:ng b w w')(hb:b<B):tL S t w' B v L:=
 h.keep A.size λc hB hc=>A.block c hc (by simpa using by omega)
theorem tL.subs{S:Shape α}{w:iH}{B:Nat}{v:iJ}{L:List (nJ α)}(h:tL S t w B v L):S.lY w (λc=>B<=c) v (L.map nJ.tree):=by
 obtain⟨N,O⟩:=h;rcases N.2 with⟨rfl,h0⟩|⟨g,cap,Z,rfl,hb,hg,E,U,hsz,htake⟩
 .have:L=[]:=kR.1 h0
  subst this;exact⟨none,0,rfl,iI _,jy _,λh=>absurd h lU⟩
 .refine⟨some ⟨g,0,none⟩,cap,by rw[List.length_map],by rw[List.length_map];exact E,U,λ_=>⟨g,0,rfl,(jk.1 hg).1,hb,?_⟩⟩
  have cell:∀i y,L[i]? =some y->∀j,j<S.k->w.cell? ⟨g,i*S.k+j,none⟩=(S.cells y.lab y.u)[j]? :=by
   intro i y A j J;obtain⟨hi,_⟩:=jH.1 A;have hlt:i*S.k+j<(S.row L).length:=by
    rw[S.En];have:(i+1)*S.k<=L.length*S.k:=Nat.mul_le_mul_right _ lK;rw[j6]at this;omega
   have:=World.ownsRow.cells N (g:=g) rfl (i*S.k+j) _ (iZ hlt);have e1:(⟨g,0,none⟩:kr).add (i*S.k+j)=⟨g,i*S.k+j,none⟩:=EZ;rw[e1]at this;rw[this,<-iZ hlt,S.Zy A J]
  have row:∀(M:List (nJ α))(i:Nat),(∀k y,M[k]? =some y->L[i+k]? =some y)->S.oM w (λc=>B<=c) (M.map nJ.tree) g (i*S.k):=by
   intro M;induction M with
   |nil=>intro i _;simp only[List.map_nil,Shape.oM]
   |cons y M V=>
    intro i Q;simp only[kY,Shape.oM];have A:=Q 0 y rfl;refine⟨?_,?_⟩
    .simp only[nJ.tree,Shape.qA]
     have C:=jc A;exact⟨(O y C).1,y.u,λj J=>cell i y A j J,(O y C).2.keep (iI _) (λc _ h=>h.1) λ_ _ _=>rfl⟩
    .have:=V (i+1) λk z Y=>by
      have:=Q (k+1) z Y;rwa [show i+1+k=i+(k+1)by omega]
     rwa [show(i+1)*S.k=i*S.k+S.k by rw[j6,Nat.one_mul]]at this
  have:=row L 0 λk y h=>by simpa using h
  simpa using this
theorem uX{S:Shape α}{P:kg}{st:jg}{N:TypeInfo}{z:iJ}{bytes:Nat}(ht:P.underlying st=some (.slice t))(hi:P.info? t=some N)(A:N.zero=some z)(U:N.size=S.k)(ai:N.bytes=bytes)(aj:z.cells.size=S.k)(aa:0<S.k)(ae:∀a o n c,∀u∈S.cells a (.slice o n c),u.oneCell'=true){ops:Array kH}{rest:List kH}{o:kH}{a:Act}{Q:Exit->Act->iH->Prop}(ak:o.guard=none)(x y:Operand)(ho:o.op=.call {callee:=.builtin .append,args:=#[x,y],argTypes:=#[st,st]})(B:Nat)(v:iJ)(L:List (nJ α))(e:nJ α)(w:iH)(cs:Array iJ)(au:cs.toList=S.cells e.lab e.u)(az:a.eval x=v)(C:tL S t w B v L)(aA:a.eval y=.slice (some ⟨w.heap.size,0,none⟩) 1 1)(hlen:L.length<=100000)(O:bytes<=1000)(hB:B<=w.heap.size)(hok:S.ok e.lab)(af:S.lY w (λc=>B<=c/\v.ownBlock≠some c) e.u e.sub)(h:∀g cap w',tL S t w' B (.slice (some ⟨g,0,none⟩) (L.length+1) cap) (L++[e])->iK B w w'->w.heap.size<w'.heap.size->w.grownBy w' v.ownBlock->wpList P ops Q rest (a.put o.dst (.slice (some ⟨g,0,none⟩) (L.length+1) cap)) w'):
  wpList P ops Q (o::rest) a (w.alloc (lG cs t)):=by
 have av:=(iL w.heap.size w).alloc (iI _) (lG cs t);obtain⟨aB,aC,Z,_⟩:=af
 refine wpList_append_lies _ ak x y st ho B t N z S.k bytes ht hi A U ai aj aa v L.length (S.row L) az (World.ownsRow.alloc C.1 _)
  ⟨w.heap.size,0,none⟩ 1 1 (S.row [e]) aA (by rw[S.En];rfl) ?_ ?_ lM AV ?_ lW _ rfl ?_
 .intro j u ag
  have e1:(⟨w.heap.size,0,none⟩:kr).add j=⟨w.heap.size,j,none⟩:=EZ;rw[e1,World.cell?_alloc_mark w cs t (0,0) j,<-ag];have:S.row [e]=cs.toList:=by simp[Shape.row,au]
  rw[this];simp
 .intro u ax
  have:S.row [e]=S.cells e.lab e.u:=by simp[Shape.row]
  rw[this,Z]at ax;exact ae _ _ _ _ u ax
 .calc (L.length+1)*bytes<=100001*1000:=Nat.mul_le_mul lK O
   _<=_:=lM
 .intro g cap w' aD E V aF
  have hsz:(w.alloc (lG cs t)).heap.size=w.heap.size+1:=lU;have hb:iK B w w':=by
   refine((iL B w).alloc hB _).grown E lK λj ag=> ?_
   exact(C.block j ag).1
  have J:w.grownBy w' v.ownBlock:=
   ⟨E.os,E.tape,E.output,by have:=E.size;omega,λc hc ay=>(E.block c lK ay).trans (av.block c hc)⟩
  refine h g cap w' ⟨by rw[jv,S.M9];exact aD,λz A=> ?_⟩ hb (by have:=E.size;omega) J;have key:∀z:nJ α,S.ok z.lab->S.lY w (λc=>B<=c/\v.ownBlock≠some c) z.u z.sub->S.ok z.lab/\S.lY w' (λc=>B<=c/\(jD (some ⟨g,0,none⟩) (L.length+1) cap).ownBlock≠some c) z.u z.sub:=by
   intro z ho hs;refine⟨ho,hs.keep (by have:=E.size;omega) (λc hc Y=>⟨Y.1,?_⟩) λc hc Y=> ?_⟩
   .rcases V with V|V
    .rw[<-show v.ownBlock=(jD (some ⟨g,0,none⟩) (L.length+1) cap).ownBlock from V];exact Y.2
    .intro ah;simp[jw]at ah;omega
   .exact J.block c hc (λah=>Y.2 ah.symm)
  rcases List.mem_append.1 A with A|A
  .exact key z (C.2 z A).1 (C.2 z A).2
  .simp at A
   subst A;exact key z hok ⟨aB,aC,Z,‹_›⟩
end
def I9(y:nJ IL):List iJ:=[ll (txt y.lab),lu y.lab.list,y.u]
theorem wy(y:nJ IL):(I9 y).length=3:=rfl
def qm(w:iH)(Q:Nat->Prop)(v:iJ)(L:List (nJ IL)):Prop:=
 nP I9 3 w 0 IT v L/\(∀b,v.ownBlock=some b->Q b)/\∀y,y∈L->y.lab.text.length<=jb/\lX w (λc=>Q c/\v.ownBlock≠some c) y.u y.sub
theorem qm.nil(w:iH)(Q:Nat->Prop):qm w Q (lh none 0 0) []:=⟨nP.nil w 0 IT,λb h=>by simp[jw]at h,λy h=>by cases h⟩
theorem qm.slice{w:iH}{Q:Nat->Prop}{v:iJ}{L:List (nJ IL)}(h:qm w Q v L):∃oa cap,v=lh oa L.length cap:=h.1.slice
theorem qm.keep{w w':iH}{Q Q':Nat->Prop}{v:iJ}{L:List (nJ IL)}(h:qm w Q v L)(hs:w.heap.size<=w'.heap.size)(hk:∀c,c<w.heap.size->Q c->w'.heap[c]? =w.heap[c]?)(C:∀c,c<w.heap.size->Q c->Q' c):qm w' Q' v L:=by
 refine⟨h.1.keep λb hb=>hk b (h.1.block b hb).2.1 (h.2.1 b hb),λb hb=>C b (h.1.block b hb).2.1 (h.2.1 b hb),λy E=>⟨(h.2.2 y E).1,?_⟩⟩;exact Shape.lY.keep (h.2.2 y E).2 hs (λc hc A=>⟨C c hc A.1,A.2⟩) λc hc A=>hk c hc A.1
theorem qm.subs{w:iH}{Q:Nat->Prop}{v:iJ}{L:List (nJ IL)}(h:qm w Q v L):lX w Q v (L.map nJ.tree):=by
 obtain⟨N,Y,O⟩:=h;rcases N.form with⟨rfl,rfl⟩|⟨g,cap,af,rfl,hb,hg,E,Z,hsz,htake⟩
 .exact⟨none,0,rfl,iI _,jy _,λh=>absurd h lU⟩
 .refine⟨some ⟨g,0,none⟩,cap,by rw[List.length_map],by rw[List.length_map];exact E,Z,λ_=>⟨g,0,rfl,hg.lt,Y g rfl,?_⟩⟩
  have cell:∀i y,L[i]? =some y->∀j,j<3->w.cell? ⟨g,i*3+j,none⟩=(I9 y)[j]? :=by
   intro i y C j J;obtain⟨ag,U,_,_,_,_,hc,_⟩:=N.at_ wy C;cases U;exact hc j J
  have row:∀(M:List (nJ IL))(i:Nat),(∀k y,M[k]? =some y->L[i+k]? =some y)->xD.oM w Q (M.map nJ.tree) g (i*3):=by
   intro M;induction M with
   |nil=>intro i _;simp only[List.map_nil,Shape.oM]
   |cons y M aa=>
    intro i V;simp only[kY,Shape.oM];have C:=V 0 y rfl;refine⟨?_,?_⟩
    .simp only[nJ.tree,Shape.qA]
     have A:=jc C;exact⟨(O y A).1,y.u,λj J=>cell i y C j J,Shape.lY.keep (O y A).2 (iI _) (λc _ h=>h.1) λ_ _ _=>rfl⟩
    .have:=aa (i+1) λk z ae=>by
      have:=V (k+1) z ae;rwa [show i+1+k=i+(k+1)by omega]
     rwa [show(i+1)*3=i*3+xD.k by rw[j6,Nat.one_mul];rfl]at this
  have:=row L 0 λk y h=>by simpa using h
  simpa using this
def TV:nJ IL:=⟨⟨[],false⟩,lh none 0 0,[]⟩
def tZ(w:iH)(g o:Nat)(a b c:iJ):iH:=((w.setCell ⟨g,o,none⟩ a).setCell ⟨g,o+1,none⟩ b).setCell ⟨g,o+2,none⟩ c
theorem pF(w:iH)(g o:Nat)(a b c:iJ):((w.setCell ⟨g,o,none⟩ a).setCell ⟨g,o+1,none⟩ b).setCell ⟨g,o+2,none⟩ c=tZ w g o a b c:=rfl
theorem sH{w:iH}{g o:Nat}{a b c:iJ}:(tZ w g o a b c).heap.size=w.heap.size:=by simp[tZ,jf]
theorem qo{w:iH}{g o:Nat}{a b c:iJ}(k:Nat)(h:k≠g):(tZ w g o a b c).heap[k]? =w.heap[k]? :=by
 unfold tZ;rw[iX _ _ _ _ h,iX _ _ _ _ h,iX _ _ _ _ h]
theorem Ku(w:iH)(g o:Nat)(a b c:iJ):ng g w (tZ w g o a b c):=(((ng.refl g w).set o a).set (o+1) b).set (o+2) c
theorem nP.tZ{w:iH}{B g cap:Nat}{L:List (nJ IL)}{z x:nJ IL}(h:nP I9 3 w B IT (lh (some ⟨g,0,none⟩) (L.length+1) cap) (L++[z])):
  nP I9 3 (tZ w g (L.length*3) (ll (txt x.lab)) (lu x.lab.list) x.u) B IT (lh (some ⟨g,0,none⟩) (L.length+1) cap) (L++[x]):=by
 have e:∀y:nJ IL,(L++[y])[L.length]? =some y:=λy=>by simp
 have A:∀y u:nJ IL,(L++[y]).set L.length u=L++[u]:=λy u=>by simp
 have C:=h.set wy (e z) (j:=0) (x:=ll (txt x.lab)) (z:=⟨⟨x.lab.text,z.lab.list⟩,z.u,z.sub⟩) lM rfl;rw[A]at C;have E:=C.set wy (e _) (j:=1) (x:=lu x.lab.list) (z:=⟨⟨x.lab.text,x.lab.list⟩,z.u,z.sub⟩) lM rfl;rw[A]at E;have J:=E.set wy (e _) (j:=2) (x:=x.u) (z:=x) lM rfl;rw[A]at J;exact J
theorem Hz{p:Prop}(h:p:=by
 intro e;simp[jw]at e;exact hgn c hc (hxv c hq) e.symm):p:=h
theorem qm.push{w w1:iH}{Q N:Nat->Prop}{v:iJ}{L:List (nJ IL)}{x:nJ IL}{g cap:Nat}(h:qm w Q v L)(hrow:nP I9 3 w1 0 IT (lh (some ⟨g,0,none⟩) (L.length+1) cap) (L++[TV]))(hg:w.grownBy w1 v.ownBlock)(C:v.ownBlock=some g\/w.heap.size<=g)(U:lX w N x.u x.sub)(hxv:∀c,N c->v.ownBlock≠some c)(O:x.lab.text.length<=jb):
  qm (tZ w1 g (L.length*3) (ll (txt x.lab)) (lu x.lab.list) x.u) (λc=>Q c\/N c\/c=g) (lh (some ⟨g,0,none⟩) (L.length+1) cap) (L++[x]):=by
 have hgn:∀c,c<w.heap.size->v.ownBlock≠some c->c≠g:=λc hc E e=>by
  rcases C with C|C
  .exact E (by rw[C,e])
  .omega
 have hsz:w.heap.size<=(tZ w1 g (L.length*3) (ll (txt x.lab)) (lu x.lab.list) x.u).heap.size:=by rw[sH];exact hg.size
 have J:∀c,c<w.heap.size->v.ownBlock≠some c->(tZ w1 g (L.length*3) (ll (txt x.lab)) (lu x.lab.list) x.u).heap[c]? =w.heap[c]? :=λc hc E=>by
  rw[qo c (hgn c hc E)];exact hg.block c hc (λe=>E e.symm)
 refine⟨hrow.tZ,λb hb=> ?_,λy A=> ?_⟩
 .simp[jw]at hb
  exact .inr (.inr hb.symm)
 .rcases List.mem_append.1 A with A|A
  .refine⟨(h.2.2 y A).1,Shape.lY.keep (h.2.2 y A).2 hsz (λc hc hq=>⟨.inl hq.1,?_⟩) λc hc hq=>J c hc hq.2⟩
   intro e;simp[jw]at e;exact hgn c hc hq.2 e.symm
  .simp at A
   subst A;refine⟨O,Shape.lY.keep U hsz (λc hc hq=>⟨.inr (.inl hq),?_⟩) λc hc hq=>J c hc (hxv c hq)⟩;exact Hz
structure Fr where
 v:iJ
 L:List (nJ IL)
 e:Nat
def Bt(w:iH):(Nat->Prop)->List Fr->Prop
 |_,[]=>True
 |A,x::C=>∃Q:Nat->Prop,(∀c,Q c->¬A c)/\qm w Q x.v x.L/\Bt w (λc=>A c\/Q c) C
theorem Bt.keep{w w':iH}(hs:w.heap.size<=w'.heap.size):∀{st:List Fr}{C A:Nat->Prop},Bt w C st->(∀c,c<w.heap.size->¬C c->w'.heap[c]? =w.heap[c]?)->(∀c,c<w.heap.size->A c->C c)->Bt w' A st
 |[],_,_,_,_,_=>trivial
 |x::V,C,A,⟨Q,J,O,U⟩,hk,N=>by
  refine⟨λc=>Q c/\c<w.heap.size,λc hc h=>J c hc.1 (N c hc.2 h),O.keep hs (λc hc E=>hk c hc (J c E)) (λc hc E=>⟨E,hc⟩),?_⟩;exact Bt.keep hs U (λc hc hn=>hk c hc λh=>hn (.inl h)) λc hc h=>h.elim (λh=> .inl (N c hc h)) λh=> .inr h.1
theorem Bt.below{w w':iH}{st:List Fr}{A:Nat->Prop}(h:Bt w A st)(hb:iK w.heap.size w w'):Bt w' A st:=h.keep hb.size (λc hc _=>hb.block c hc) λ_ _ h=>h
section
variable {P:kg}{ops:Array kH}{md:Region.Mode}{S:iH->Prop}{Q:Exit->Act->iH->Prop}{n:Nat}
def Zz(md:Region.Mode)(ops:Array kH)(n:Nat):Bool:=(kI ops.size).all λt=>decide (t<n)||(kI n).all λi=>Region.waitsFor md ops t i
theorem QS(hb:Zz md ops n=true){A:Array Bool}{i j:Nat}(hi:i∈jW md ops A)(hin:i<n)(Z:j∈jW md ops A):j<n:=by
 obtain⟨ag,aa,J,N⟩:=mem_ready.1 Z;have Q:j<ops.size:=(jk.1 J).1;have C:=jV.1 hb j (kF.2 Q);simp only[Bool.or_eq_true,decide_eq_true_eq]at C;rcases C with C|C
 .exact C
 .have ae:=jV.1 C i (kF.2 hin)
  obtain⟨af,U,e,he,V,Y⟩:=Region.waitsFor_spec ae;have:af=aa:=kK (U.symm.trans J);subst this;have E:=N e he V;have h0:=(mem_ready.1 hi).1;rw[Y]at E;rcases jG i A.size with O|O
  .simp[O]at h0 E;rw[h0]at E;cases E
  .simp[kW O]at E
def vB(P:kg)(md:Region.Mode)(ops:Array kH)(Q:Exit->Act->iH->Prop)(S:iH->Prop)(n:Nat):Nat->Array Bool->Act->iH->Prop
 |0,A,a,w=>jW md ops A=[]/\Q .normal a w
 |fuel+1,A,a,w=>
  (jW md ops A=[]->Q .normal a w)/\
  ∀i∈jW md ops A,wpOp P ops Q i (λC w'=>(i<n->S w')/\vB P md ops Q S n fuel (A.setIfInBounds i true) C w') a w
theorem Aj:∀(fuel:Nat)(A:Array Bool)(a:Act)(w:iH),vB P md ops Q S n fuel A a w->wpAny P md ops Q fuel A a w
 |0,_,_,_,h=>h
 |fuel+1,_,_,_,h=>⟨h.1,λi hi=>wpOp_mono (λC w' E=>Aj fuel _ C w' E.2) (h.2 i hi)⟩
theorem HY{i:Nat}{oi:kH}{v:iJ}(hin:i<n)(hb:Zz md ops n=true)(hi:ops[i]? =some oi)(U:∀(j:Nat) (o:kH) cs b,ops[j]? =some o->o.op≠.select cs b)(aA:∀c a w,Q (.panic c) (a.put oi.dst v) w->Q (.panic c) a w):
  ∀(fuel:Nat)(A:Array Bool)(a:Act)(w:iH),
   (∀j J,ops[j]? =some J->j≠i->A.getD j true=false->(∀e∈J.after,kG md e=true->e.on≠i)->oi.apart ops J=true)->
   i∈jW md ops A->YieldsIf P ops S oi v a->S w->
   vB P md ops Q S n fuel (A.setIfInBounds i true) (a.put oi.dst v) w->vB P md ops Q S n (fuel+1) A a w:=by
 intro fuel;induction fuel with
 |zero=>
  intro A a w _ E af V H;refine⟨λh=>(by rw[h]at E;cases E),λj Y=> ?_⟩;by_cases C:j=i;.subst C;exact af.wpOp hi V ⟨λ_=>V,H⟩
  .have:=ready_mono Y C
   rw[H.1]at this;cases this
 |succ fuel aB=>
  intro A a w O E af V H;refine⟨λh=>(by rw[h]at E;cases E),λj Y=> ?_⟩;by_cases C:j=i;.subst C;exact af.wpOp hi V ⟨λ_=>V,H⟩
  .have av:=QS hb E hin Y
   have N:=H.2 j (ready_mono Y C);obtain⟨Z,J,aa,aj⟩:=mem_ready.1 Y;have ak:∀e∈J.after,kG md e=true->e.on≠i:=λe he hb ax=>by
    have N:=aj e he hb;have h0:=(mem_ready.1 E).1;rw[ax]at N;rcases jG i A.size with au|au
    .simp[au]at h0 N;rw[h0]at N;cases N
    .simp[kW au]at N
   have aC:=wpOp_putIf aa (O j J aa C Z ak) (λcs b=>U i oi cs b hi) (λcs b=>U j J cs b aa) aA af N
   have ae:∀k ok,ops[k]? =some ok->k≠i->(A.setIfInBounds j true).getD k true=false->
     (∀e∈ok.after,kG md e=true->e.on≠i)->oi.apart ops ok=true:=λk ok hk ay ah az=>by
    refine O k ok hk ay ?_ az;by_cases ai:j=k;.subst ai;exact Z
    .rw[getD_set_ne true ai]at ah;exact ah
   refine wpOp_mono (λaD w' ag=>⟨ag.2.1,aB (A.setIfInBounds j true) aD w' ae (ready_mono E (Ne.symm C)) ag.1 (ag.2.1 av) ?_⟩) aC;rw[Array.setIfInBounds_comm _ _ C];exact ag.2.2
theorem rz{i:Nat}{oi:kH}{v:iJ}{fuel:Nat}{A:Array Bool}{a:Act}{w:iH}(hi:ops[i]? =some oi)(hin:decide (i<n)=true)(hb:Zz md ops n=true)(hs:Region.noSelect ops=true)(C:Region.free md ops A i=true)(E:(jW md ops A).contains i=true)(J:∀c a w,Q (.panic c) (a.put oi.dst v) w->Q (.panic c) a w)(N:YieldsIf P ops S oi v a)(O:S w)(h:vB P md ops Q S n fuel (A.setIfInBounds i true) (a.put oi.dst v) w):vB P md ops Q S n (fuel+1) A a w:=
 HY (by simpa using hin) hb hi (Region.noSelect_spec hs) J fuel A a w (Region.free_spec hi C) (by simpa using E) N O h
theorem Na{i:Nat}{o:kH}{fuel:Nat}{A:Array Bool}{a:Act}{w:iH}(E:jW md ops A=[i])(ho:ops[i]? =some o)(h:∀C:Act->iH->Prop,Shut (∀a w,S w->(S w->vB P md ops Q S n fuel (A.setIfInBounds i true) a w)->C a w)->if Region.wanted o (yielded ops a.tmps)=true then Oper.wp P o a w C Q else C (a.put o.dst jo) w):
  vB P md ops Q S n (fuel+1) A a w:=by
 refine⟨λh0=>(by rw[E]at h0;cases h0),λj J=> ?_⟩;rw[E]at J;obtain rfl:=List.mem_singleton.1 J;exact wpOp_step ho λC O=>h C λa w N U=>O a w ⟨λ_=>N,U N⟩
theorem Cf:∀(fuel:Nat)(A:Array Bool)(a:Act)(w:iH),((kI n).all λj=>A.getD j true)=true->wpAny P md ops Q fuel A a w->vB P md ops Q S n fuel A a w
 |0,_,_,_,_,h=>h
 |fuel+1,A,a,w,N,h=>⟨h.1,λi hi=>by
  have hin:¬i<n:=λhin=>by
   have C:=jV.1 N i (kF.2 hin);have h0:=(mem_ready.1 hi).1;rcases jG i A.size with E|E
   .simp[E]at h0 C;rw[h0]at C;cases C
   .simp[kW E]at h0
  refine wpOp_mono (λU w' E=>⟨λh=>absurd h hin,Cf fuel _ U w' ?_ E⟩) (h.2 i hi);refine jV.2 λj O=> ?_
  have C:=jV.1 N j O;by_cases J:i=j;.exact absurd (J▸kF.1 O) hin
  .rw[getD_set_ne true J];exact C⟩
theorem Fs{id:Nat}{a:Act}{w:iH}(n:Nat)(A:P.follows .mixedOrders=true)(C:S w.drew)(h:S w.drew->vB P .any ops Q S n ops.size (jQ ops.size false) a w.drew):(jJ id ops true).wp P Q a w:=
 wp_region_any A (Aj _ _ _ _ (h C))
end
def Xl(x:Fr):List iJ:=[x.v,lg lH (x.e:Nat)]
theorem yu(x:Fr):(Xl x).length=2:=rfl
abbrev RT:jg:=278
abbrev OT:jg:=275
def Lp(B bo bw:Nat)(vr:iJ):Nat->Prop:=λc=>c<B\/c=bo\/c=bw\/vr.ownBlock=some c
structure pJ(w:iH)(B bo bw:Nat)(vr:iJ)(st:List Fr):Prop where
 ho:lN w bo #[vr] OT
 row:nP Xl 2 w B RT vr st.reverse
 Xm:vr.ownBlock≠some bo
 Yo:vr.ownBlock≠some bw
 Yp:Bt w (Lp B bo bw vr) st
 Eo:B<=bo
 hbw:B<=bw
 ne:bo≠bw
 lt:bw<w.heap.size
theorem Nb:vL iG 45 IT 3:=⟨Tryz.underlying45,⟨.agg #[.string ⟨#[]⟩,.bool false,.slice none 0 0],48,by
 obtain⟨i,A,C,E,J⟩:=info_parts (show(Tryz.prog.info? IT).map (λi=>(i.zero,i.size,i.bytes))=some (some (lC #[ll ⟨#[]⟩,lu false,lh none 0 0]),3,48)by kernel_rfl);exact⟨i,A,C,E,J,lM,rfl⟩⟩,lM⟩
theorem vM{P:kg}{st:jg}(T:vL P st IT 3){ops:Array kH}{o:kH}{a:Act}{K:Act->iH->Prop}{Q:Exit->Act->iH->Prop}{E:Prop}(C:o.guard=none)(s x:Operand)(ho:o.op=.call {callee:=.builtin .append,args:=#[s,x],argTypes:=#[st,st]}){w:iH}{B b c:Nat}{v:iJ}{L:List (nJ IL)}{y:nJ IL}{cs:Array iJ}(hs:a.eval s=v)(A:nP I9 3 w B IT v L)(N:a.eval x=lh (some ⟨b,0,none⟩) 1 c)(hb:lN w b cs t')(J:cs.toList=I9 y)(O:∀u∈I9 y,u.oneCell'=true)(hlen:L.length<=1000000)(hB:B<=w.heap.size)(h:∀g cap w',nP I9 3 w' B IT (lh (some ⟨g,0,none⟩) (L.length+1) cap) (L++[y])->w.grownBy w' v.ownBlock->(v.ownBlock=some g\/g=w.heap.size)->g<w'.heap.size->K (a.put o.dst (lh (some ⟨g,0,none⟩) (L.length+1) cap)) w'):
  if Region.wanted o (yielded ops a.tmps)=true then Oper.wp P o a w K Q else E:=by
 have U:Region.wanted o (yielded ops a.tmps)=true:=by simp[Region.wanted,C]
 rw[if_pos U];obtain⟨g,cap,w',V,Y,Z,aa,ae,_⟩:=Ai (ty:=o.type) T wy A hb J O hlen hB;unfold Oper.wp execOp;simp only[ho,resolve,invoke,builtin,Sem.run_bind,Sem.run_pure,Result.andThen_ok,List.map_toArray,kY,List.map_nil,hs,N];rw[V];exact h g cap w' Y Z aa ae
theorem sO{w w':iH}{b:Nat}(i:Nat)(v:iJ)(h:w.heap[b]? =w'.heap[b]?):(w.setCell ⟨b,i,none⟩ v).heap[b]? =(w'.setCell ⟨b,i,none⟩ v).heap[b]? :=by
 simp only[jf];rw[jK,jK,if_pos rfl,if_pos rfl,h]
theorem Nc{w w':iH}{b:Nat}(o:Nat)(x y z:iJ)(h:w.heap[b]? =w'.heap[b]?):(tZ w b o x y z).heap[b]? =(tZ w' b o x y z).heap[b]? :=
 sO _ _ (sO _ _ (sO _ _ h))
theorem Xn{w W w2 W3:iH}{B bo bw go C aB cap N:Nat}{vr:iJ}{x:Fr}{Y:List Fr}{y:nJ IL}{aj:Nat->Prop}{aL:Array iJ}(h:pJ w B bo bw vr (x::Y))(hbw:lN w bw aL IT)(aM:vr=lh (some ⟨go,0,none⟩) (N+1) aB)(aN:Y.length=N)(aU:lX w aj y.u y.sub)(aO:∀c,aj c->¬Lp B bo bw vr c)(hL:Bt w (λc=>Lp B bo bw vr c\/aj c) (x::Y))(aP:y.lab.text.length<=jb)(Z:iK w.heap.size w W)(av:nP I9 3 w2 0 IT (lh (some ⟨C,0,none⟩) (x.L.length+1) cap) (x.L++[TV]))(J:W.grownBy w2 x.v.ownBlock)(aa:x.v.ownBlock=some C\/C=W.heap.size)(aQ:∀c,c≠C->c≠go->W3.heap[c]? =w2.heap[c]?)(aV:W3.heap[C]? =(tZ w2 C (x.L.length*3) (ll (txt y.lab)) (lu y.lab.list) y.u).heap[C]?)(aW:W3.heap[go]? =(w2.setCell ⟨go,N*2,none⟩ (lh (some ⟨C,0,none⟩) (x.L.length+1) cap)).heap[go]?)(aC:W3.heap.size=w2.heap.size)(aD:W3.os=w2.os/\W3.tape=w2.tape/\W3.output=w2.output):
  ∃v',pJ W3 B bo bw vr (⟨v',x.L++[y],x.e⟩::Y)/\lN W3 bw aL IT/\iK B w W3:=by
 subst aM;obtain⟨Q,ae,ak,aR⟩:=hL;have af:go<w.heap.size/\B<=go:=⟨(h.row.block go rfl).2.1,(h.row.block go rfl).1⟩;have ag:∀c,Q c->c≠go:=λc hc e=>ae c hc (.inl (by subst e;exact .inr (.inr (.inr rfl))))
 have aF:∀c,aj c->c≠go:=λc hc e=>aO c hc (by subst e;exact .inr (.inr (.inr rfl)))
 have E:∀b,x.v.ownBlock=some b->b<w.heap.size/\Q b:=λb hb=>⟨(ak.1.block b hb).2.1,ak.2.1 b hb⟩
 have aG:C≠go:=by
  rintro rfl;rcases aa with aa|aa
  .exact ag _ (E _ aa).2 rfl
  .have:=Z.size;omega
 have hsz:w.heap.size<=w2.heap.size:=je Z.size J.size;have O:w.grownBy w2 x.v.ownBlock:=⟨J.os.trans Z.os,J.tape.trans Z.tape,J.output.trans Z.output,hsz,λc hc aS=>(J.block c (jq hc Z.size) aS).trans (Z.block c hc)⟩;have U:x.v.ownBlock=some C\/w.heap.size<=C:=aa.imp id λe=>by have:=Z.size;omega
 have ax:nP Xl 2 w2 B RT (lh (some ⟨go,0,none⟩) (N+1) aB) (x::Y).reverse:=h.row.keep λb hb=>by
  simp[jw]at hb;subst hb;exact O.block _ af.1 λe=>ag _ (E _ e.symm).2 rfl
 have aH:∀z:Fr,(z::Y).reverse[N]? =some z:=λz=>by simp[<-aN]
 have aI:∀z u:Fr,(z::Y).reverse.set N u=(u::Y).reverse:=λz u=>by simp[<-aN]
 have ai:=ax.set yu (aH x) (j:=0) (x:=lh (some ⟨C,0,none⟩) (x.L.length+1) cap) (z:=⟨lh (some ⟨C,0,none⟩) (x.L.length+1) cap,x.L++[y],x.e⟩) lM rfl;rw[aI,Nat.add_zero]at ai;have ay:=qm.push ak av O U aU (λc hc e=>ae c (E c e).2 (.inr hc)) aP;have ah:w.heap.size<=W3.heap.size:=by rw[aC];exact hsz
 have V:∀c,c<w.heap.size->¬Q c->c≠go->W3.heap[c]? =w.heap[c]? :=λc hc A hn=>by
  have:c≠C:=by
   rintro rfl;rcases U with e|e
   .exact A (E _ e).2
   .omega
  rw[aQ c this hn];exact O.block c hc λe=>A (E _ e.symm).2
 have au:∀c,Lp B bo bw (lh (some ⟨go,0,none⟩) (N+1) aB) c->¬Q c:=λc hc A=>ae c A (.inl hc)
 have aJ:=au bo (.inr (.inl rfl));have aK:=au bw (.inr (.inr (.inl rfl)));have az:bo≠go:=λe=>h.Xm (by subst e;rfl)
 have aA:bw≠go:=λe=>h.Yo (by subst e;rfl)
 refine⟨lh (some ⟨C,0,none⟩) (x.L.length+1) cap,⟨?_,?_,h.Xm,h.Yo,⟨λc=>Q c\/aj c\/(c=C/\C<W3.heap.size),λc hc hn=> ?_,?_,?_⟩,h.Eo,h.hbw,h.ne,jq h.lt ah⟩,?_,?_⟩
 .unfold lN
  rw[V bo h.ho.lt aJ az];exact h.ho
 .refine ai.keep λb hb=> ?_
  simp[jw]at hb;subst hb;exact aW
 .rcases hc with hc|hc|⟨rfl,_⟩
  .exact ae c hc (.inl hn)
  .exact aO c hc hn
  .rcases U with e|e
   .exact ae _ (E _ e).2 (.inl hn)
   .rcases hn with hn|rfl|rfl|hn
    .have:=af.2;omega
    .have:=h.ho.lt;omega
    .have:=h.lt;omega
    .simp[jw]at hn;exact aG hn.symm
 .refine ay.keep (by rw[sH,aC];exact iI _) (λc hc A=> ?_) λc hc A=> ?_
  .by_cases e:c=C
   .subst e;exact aV
   .rw[qo c e]
    refine aQ c e ?_;rcases A with A|A|A
    .exact ag c A
    .exact aF c A
    .exact absurd A e
  .rw[sH,<-aC]at hc
   rcases A with A|A|A
   .exact .inl A
   .exact .inr (.inl A)
   .exact .inr (.inr ⟨A,A▸hc⟩)
 .refine aR.keep ah (λc hc hn=>V c hc (λA=>hn (.inr A)) λe=>hn (.inl (.inl (by subst e;exact .inr (.inr (.inr rfl)))))) λc hc hn=> ?_
  rcases hn with hn|hn|hn|⟨rfl,_⟩
  .exact .inl (.inl hn)
  .exact .inr hn
  .exact .inl (.inr hn)
  .rcases U with e|e
   .exact .inr (E _ e).2
   .omega
 .unfold lN
  rw[V bw h.lt aK aA];exact hbw
 .refine⟨aD.1.trans O.os,aD.2.1.trans O.tape,aD.2.2.trans O.output,ah,λc hc=> ?_⟩
  have aT:c<w.heap.size:=by have:=af.1;have:=af.2;omega
  exact V c aT (au c (.inl hc)) (by have:=af.2;omega)
theorem Ak(x:Fr)(V:List Fr)(w:iH)(B bo bw:Nat)(vr:iJ)(y:nJ IL)(aU:Nat->Prop)(bz:Array iJ)(h:pJ w B bo bw vr (x::V))(hn:V.length<=100)(hl:x.L.length<=100000)(hbw:lN w bw bz IT)(ay:lX w aU y.u y.sub)(bA:∀c,aU c->¬Lp B bo bw vr c)(hL:Bt w (λc=>Lp B bo bw vr c\/aU c) (x::V))(bB:y.lab.text.length<=jb):
  iU iG 241 #[lC #[ll (txt y.lab),lu y.lab.list,y.u],lq (some ⟨bo,0,none⟩),lq (some ⟨bw,0,none⟩)] w
   λe w'=>e=lF (lD #[])/\∃v',pJ w' B bo bw vr (⟨v',x.L++[y],x.e⟩::V)/\lN w' bw bz IT/\iK B w w':=by
 obtain⟨u,aI⟩:=lV y.u;obtain⟨o,n,c,rfl,_⟩:∃o n c,u=lh o n c/\True:=by obtain⟨o,c,Y,_⟩:=lX.slice ay;exact⟨o,_,c,by rw[<-aI,Y],trivial⟩
 rw[aI]at ay⊢;obtain⟨g,hg⟩:=lV w.heap.size;obtain⟨oa,bL,aL⟩:=h.row.slice;have aM:(x::V).reverse.length=V.length+1:=lU;rw[aM]at aL;subst aL;obtain⟨go,rfl,bW,af,_,aV,Z,bC⟩:=nP.at_ h.row yu (i:=V.length) (y:=x) lU;have r0:w.cell? ⟨go,V.length*2,none⟩=some x.v:=Z 0 lM;have r1:w.cell? ⟨go,V.length*2+1,none⟩=some (lg lH (x.e:Nat)):=Z 1 lM;have o0:w.cell? ⟨bo,0,none⟩=some (lh (some ⟨go,0,none⟩) (V.length+1) bL):=h.ho.cell 0;have aW:=h.ho.lt;have aX:iW (w.cell? ⟨go,V.length*2,none⟩=some x.v):=iF r0;have aY:=iF (qD (T:=txt y.lab) (l:=y.lab.list) (t:=IT) ay);rw[hg]at aY;have H:=iF h;have bM:=iF hL;have bD:=iF hbw;have bN:=iF ay;have bO:=iF bA;clear h hL hbw ay aM bA;obtain⟨N,aZ⟩:=lV V.length;have az:=iF aZ;rw[aZ]at r0 r1 o0 hn Z aV;obtain⟨M,aJ⟩:=lV x.L.length;have aA:=iF aJ;obtain⟨ov,cv,ax⟩:∃ov cv,x.v=lh ov M cv:=by
  obtain⟨Q,_,Y,_⟩:=H.out.Yp;obtain⟨ov,cv,ag⟩:=Y.slice;exact⟨ov,cv,by rw[ag,aJ]⟩
 rw[aJ]at hl;rw[ax]at r0;rw[az.out,ax]at aX;clear Z aZ aJ;go_in;go_upto_region 1 with fail;generalize w.alloc (lG #[ll (txt y.lab),lu y.lab.list,lh o n c] IT)=w1 at*;obtain⟨aj,aN,bg,b0,b1,bq,aO⟩:=aY.out _ rfl;have bE:=(aj.cell (p:=⟨go,V.length*2,none⟩) (hg▸af)).trans (az.out▸r0);rw[az.out]at bE;have p0:=(aj.cell (p:=⟨bo,0,none⟩) (hg▸aW)).trans o0;have bF:=iF (iQ aj (iQ aN aO));clear aY aj aN aO r0 r1 o0;have hw1:w1.heap.size=g+1:=by rw[bg]
 have bP:go<w1.heap.size:=lK;have bX:(0:Int)<=(M:Int):=Int.natCast_nonneg _;have bY:(M:Int)<(M:Int)+1:=lK;have aP:∀b,(jD ov M cv).ownBlock=some b->b<g/\b≠go:=by
  obtain⟨Q,bG,aQ,_⟩:=H.out.Yp;intro b hb;rw[<-ax]at hb;refine⟨hg▸(aQ.1.block b hb).2.1,λe=> ?_⟩;subst e;exact bG _ (aQ.2.1 _ hb) (.inr (.inr (.inr rfl)))
 have ak:=iF aP;have aB:iW (∀W,w1.drew.alloc (lG #[ll ⟨#[]⟩,lu false,lh none 0 0] IT)=W->nP I9 3 W 0 IT (lh ov M cv) x.L/\lN W (g+1) #[ll ⟨#[]⟩,lu false,lh none 0 0] IT/\iK g w W/\W.heap.size=g+2):=iF λW e=>by
  subst e;have ah:iK g w (w1.drew.alloc (lG #[ll ⟨#[]⟩,lu false,lh none 0 0] IT)):=bF.out.1.drew.alloc (by rw[show w1.drew.heap.size=w1.heap.size from rfl];omega) _;have aR:(w1.drew.alloc (lG #[ll ⟨#[]⟩,lu false,lh none 0 0] IT)).heap.size=g+2:=by simp only[World.alloc,World.drew,Array.size_push];omega
  obtain⟨Q,_,Y,_⟩:=H.out.Yp;refine⟨?_,?_,ah,aR⟩
  .rw[<-ax]
   exact Y.1.keep λb hb=>ah.block b (hg▸(Y.1.block b hb).2.1)
  .have:=lN.new w1.drew #[ll ⟨#[]⟩,lu false,lh none 0 0] IT
   rwa [show w1.drew.heap.size=g+1 from hw1]at this
 have bQ:iW (∀C cap (W w2:iH),w1.drew.alloc (lG #[ll ⟨#[]⟩,lu false,lh none 0 0] IT)=W->nP I9 3 w2 0 IT (lh (some ⟨C,0,none⟩) (M+1) cap) (x.L++[TV])->W.grownBy w2 (jD ov M cv).ownBlock->((jD ov M cv).ownBlock=some C\/C=W.heap.size)->
   (w2.cell? ⟨go,N*2,none⟩=some (lh ov M cv)/\w2.cell? ⟨g,0,none⟩=some (ll (txt y.lab))/\w2.cell? ⟨g,1,none⟩=some (lu y.lab.list)/\w2.cell? ⟨g,2,none⟩=some (lh o n c))/\
   w2.frozen? ⟨go,N*2,none⟩=false/\C≠go/\C≠g/\(w2.cell? ⟨C,M*3,none⟩=some (ll ⟨#[]⟩)/\w2.cell? ⟨C,M*3+1,none⟩=some (lu false)/\w2.cell? ⟨C,M*3+2,none⟩=some (lh none 0 0))/\
   (w2.frozen? ⟨C,M*3,none⟩=false/\w2.frozen? ⟨C,M*3+1,none⟩=false/\w2.frozen? ⟨C,M*3+2,none⟩=false)/\M+1<=cap):=iF λC cap W w2 e Y ag ai=>by
  obtain⟨_,_,ah,aR⟩:=aB.out W e;have aC:go<g:=hg▸af;have f1:∀i,w2.cell? ⟨go,i,none⟩=w.cell? ⟨go,i,none⟩:=λi=>(ag.cell_far ⟨go,i,none⟩ (show go<W.heap.size by omega) (λe=>(ak.out _ e.symm).2 rfl)).trans (ah.cell (p:=⟨go,i,none⟩) aC)
  have f2:∀i,w2.frozen? ⟨go,i,none⟩=w.frozen? ⟨go,i,none⟩:=λi=>(ag.frozen_far ⟨go,i,none⟩ (show go<W.heap.size by omega) (λe=>(ak.out _ e.symm).2 rfl)).trans (ah.frozen (p:=⟨go,i,none⟩) aC)
  have aS:some g≠(jD ov M cv).ownBlock:=λe=>by have:=(ak.out _ e.symm).1;omega
  have f3:∀i,w2.cell? ⟨g,i,none⟩=w1.cell? ⟨g,i,none⟩:=λi=>by
   subst e;exact(ag.cell_far ⟨g,i,none⟩ (show g<_ by omega) aS).trans ((iL w1.heap.size w1).drew.alloc (iI _) _|>.cell (p:=⟨g,i,none⟩) (show g<w1.heap.size by omega))
  obtain⟨bZ,bR,_,_,_,aK,hc,bu⟩:=nP.at_ Y wy (i:=M) (y:=TV) (by rw[<-aA.out];simp);cases bR;refine⟨⟨?_,(f3 0).trans b0,(f3 1).trans b1,(f3 2).trans bq⟩,?_,?_,?_,⟨hc 0 lM,hc 1 lM,hc 2 lM⟩,⟨bu _,bu _,bu _⟩,aK⟩;.rw[f1];exact aX.out
  .rw[f2];exact bC _
  .rintro rfl
   rcases ai with ai|ai
   .exact(ak.out _ ai).2 rfl
   .omega
  .rintro rfl
   rcases ai with ai|ai
   .exact aS ai.symm
   .omega
 clear aP;go_upto_region 4 with fail;refine Fs (S:=λw'=>w'.cell? ⟨go,N*2,none⟩=some (lh ov M cv)/\w'.cell? ⟨g,0,none⟩=some (ll (txt y.lab))/\w'.cell? ⟨g,1,none⟩=some (lu y.lab.list)/\w'.cell? ⟨g,2,none⟩=some (lh o n c)) 7 lQ ⟨bE,b0,b1,bq⟩ (λJ=> ?_);refine rz (i:=0) (oi:= ?oi0) (v:= ?v0) ?hi0 lQ lQ lQ lQ lQ ?hQ0 (Or.inl ⟨?hw0,?hy0⟩) J ?a0Z;case hi0=>simp only[iP,iM,iO]<;>rfl
 case hQ0=>exact λ_ _ _ h=>h
 case hw0=>rfl
 case hy0=>(intro w A;(try dsimp only at A);go_simp;try rfl)
 simp only[jZ,iN,iR,iT];refine rz (i:=1) (oi:= ?oi1) (v:= ?v1) ?hi1 lQ lQ lQ lQ lQ ?hQ1 (Or.inl ⟨?hw1,?hy1⟩) J ?a00;case hi1=>simp only[iP,iM,iO]<;>rfl
 case hQ1=>exact λ_ _ _ h=>h
 case hw1=>rfl
 case hy1=>(intro w A;(try dsimp only at A);go_simp;try rfl)
 simp only[jZ,iN,iR,iT];refine rz (i:=2) (oi:= ?oi2) (v:= ?v2) ?hi2 lQ lQ lQ lQ lQ ?hQ2 (Or.inl ⟨?hw2,?hy2⟩) J ?a01;case hi2=>simp only[iP,iM,iO]<;>rfl
 case hQ2=>exact λ_ _ _ h=>h
 case hw2=>rfl
 case hy2=>(intro w A;(try dsimp only at A);go_simp;try rfl)
 simp only[jZ,iN,iR,iT];refine rz (i:=3) (oi:= ?oi3) (v:= ?v3) ?hi3 lQ lQ lQ lQ lQ ?hQ3 (Or.inl ⟨?hw3,?hy3⟩) J ?a02;case hi3=>simp only[iP,iM,iO]<;>rfl
 case hQ3=>exact λ_ _ _ h=>h
 case hw3=>rfl
 case hy3=>(intro w A;(try dsimp only at A);go_simp;try rfl)
 simp only[jZ,iN,iR,iT];refine rz (i:=4) (oi:= ?oi4) (v:= ?v4) ?hi4 lQ lQ lQ lQ lQ ?hQ4 (Or.inl ⟨?hw4,?hy4⟩) J ?a03;case hi4=>simp only[iP,iM,iO]<;>rfl
 case hQ4=>exact λ_ _ _ h=>h
 case hw4=>rfl
 case hy4=>(intro w A;(try dsimp only at A);go_simp;try rfl)
 simp only[jZ,iN,iR,iT];refine rz (i:=5) (oi:= ?oi5) (v:= ?v5) ?hi5 lQ lQ lQ lQ lQ ?hQ5 (Or.inl ⟨?hw5,?hy5⟩) J ?a04;case hi5=>simp only[iP,iM,iO]<;>rfl
 case hQ5=>exact λ_ _ _ h=>h
 case hw5=>rfl
 case hy5=>(intro w A;(try dsimp only at A);go_simp;try rfl)
 simp only[jZ,iN,iR,iT];refine Na (i:=6) (o:= ?oi6) lQ ?hi6 (λK E=> ?_);case hi6=>simp only[iP,iM,iO]<;>rfl
 go_simp;obtain⟨bH,bI,aT,bJ⟩:=aB.out _ rfl;have au:∀i,(w1.drew.alloc (lG #[ll ⟨#[]⟩,lu false,lh none 0 0] IT)).cell? ⟨g,i,none⟩=w1.cell? ⟨g,i,none⟩:=λi=>((iL w1.heap.size w1).drew.alloc (iI _) _).cell (p:=⟨g,i,none⟩) (show g<w1.heap.size by omega)
 refine E.out _ _ ⟨(aT.cell (p:=⟨go,N*2,none⟩) (hg▸af)).trans aX.out,(au 0).trans b0,(au 1).trans b1,(au 2).trans bq⟩ (λaD=> ?_);clear E K au bH bI aT bJ aD;try simp only[jZ,iN,iR,iT]
 refine Cf _ _ _ _ lQ (wpAny_of_held (S:=λ_=>True) _ _ _ _ ?_);refine wpAnyH_ready (rs:=[7]) lQ lU ?_;refine jU (o:= ?oi7) ?hi7 (λK E=> ?_) j3;case hi7=>simp only[iP,iM,iO]<;>rfl
 refine vM Nb (by rfl) _ _ (by rfl) (B:=0) (L:=x.L) (y:=TV) (by rfl) (aB.out _ (by rfl)).1 (by rfl) (aB.out _ (by rfl)).2.1 rfl lM (by rw[aA.out];omega) lK ?_;intro C cap w2 U aa av hlt;have cz:=iF (iQ U (iQ aa (iQ av hlt)));have aF:=iF (λW3=>Xn (W3:=W3) (W:=(w1.alloc (lG #[ll ⟨#[]⟩,lu false,lh none 0 0] IT)).drew) (N:=N) H.out bD.out (by rw[az.out]) az.out (by rw[aI];exact bN.out) bO.out bM.out bB (hg.symm▸(aB.out _ (by rfl)).2.2.1) U (by rw[ax];exact aa) (by rw[ax];exact av));rw[aA.out,aI]at aF;rw[aA.out]at U;rw[aA.out];obtain⟨bK,z0,O,cB,⟨bS,bT,bU⟩,⟨dw,dx,z3⟩,cK⟩:=bQ.out C cap _ w2 (by rfl) U aa av;obtain⟨bV,_⟩:=bK;clear U aa av hlt;refine E.out _ _ trivial (λae=> ?_);clear E K;try simp only[jZ,iN,iR,iT]
 refine jT (i:=8) (oi:= ?oi8) (v:= ?v8) ?hi8 lQ lQ lQ ?hQ8 (Or.inl ⟨?hw8,?hy8⟩) ae ?a05;case hi8=>simp only[iP,iM,iO]<;>rfl
 case hQ8=>exact λ_ _ _ h=>h
 case hw8=>rfl
 case hy8=>(intro w A;(try dsimp only at A);go_simp;try rfl)
 simp only[jZ,iN,iR,iT];refine jT (i:=10) (oi:= ?a2u) (v:= ?v10) ?YS lQ lQ lQ ?YT (Or.inl ⟨?YU,?YV⟩) ae ?YW;case YS=>simp only[iP,iM,iO]<;>rfl
 case YT=>exact λ_ _ _ h=>h
 case YU=>rfl
 case YV=>(intro w A;(try dsimp only at A);go_simp;try rfl)
 simp only[jZ,iN,iR,iT];refine jT (i:=11) (oi:= ?a2v) (v:= ?v11) ?YX lQ lQ lQ ?YY (Or.inl ⟨?YZ,?Y0⟩) ae ?Y1;case YX=>simp only[iP,iM,iO]<;>rfl
 case YY=>exact λ_ _ _ h=>h
 case YZ=>rfl
 case Y0=>(intro w A;(try dsimp only at A);go_simp;try rfl)
 simp only[jZ,iN,iR,iT];refine wpAnyH_ready (rs:=[9,12]) lQ lU ?_;refine jU (o:= ?oi9) ?hi9 (λK E=> ?_) ?more;case hi9=>simp only[iP,iM,iO]<;>rfl
 case more=>
  refine jU (o:= ?a06) ?SA (λK E=> ?_) j3;case SA=>simp only[iP,iM,iO]<;>rfl
  go_simp;refine E.out _ _ trivial (λaG=> ?_);clear E K;try simp only[jZ,iN,iR,iT]
  have cO:=(World.cell?_setCell_far w2 ⟨go,N*2,none⟩ ⟨C,M*3,none⟩ (lh (some ⟨C,0,none⟩) (M+1) cap) (Ne.symm O)).trans bS;have cZ:=(World.cell?_setCell_far w2 ⟨go,N*2,none⟩ ⟨C,M*3+1,none⟩ (lh (some ⟨C,0,none⟩) (M+1) cap) (Ne.symm O)).trans bT;have df:=(World.cell?_setCell_far w2 ⟨go,N*2,none⟩ ⟨C,M*3+2,none⟩ (lh (some ⟨C,0,none⟩) (M+1) cap) (Ne.symm O)).trans bU;refine wpAnyH_ready (rs:=[9]) lQ lU ?_;refine jU (o:= ?oi9) ?hi9 (λK E=> ?_) j3;case hi9=>simp only[iP,iM,iO]<;>rfl
  go_simp;refine E.out _ _ trivial (λaH=> ?_);clear E K;try simp only[jZ,iN,iR,iT]
  refine wpAnyH_done lQ ?_ _;go_end0;refine⟨rfl,aF.out _ (λc Y ag=> ?_) ?_ ?_ (by simp[jf]) ⟨rfl,rfl,rfl⟩⟩;.rw[pF,qo c Y,iX _ _ _ _ ag]
  .rw[pF]
   exact Nc _ _ _ _ (iX _ _ _ _ O)
  .rw[pF,qo go (Ne.symm O)]
 go_simp;refine E.out _ _ trivial (λaG=> ?_);clear E K;try simp only[jZ,iN,iR,iT]
 have dh:(((w2.setCell ⟨C,M*3,none⟩ (ll (txt y.lab))).setCell ⟨C,M*3+1,none⟩ (lu y.lab.list)).setCell ⟨C,M*3+2,none⟩ (lh o n c)).cell? ⟨go,N*2,none⟩=some (lh ov M cv):=by
  rw[World.cell?_setCell_far _ _ _ _ O,World.cell?_setCell_far _ _ _ _ O,World.cell?_setCell_far _ _ _ _ O];exact bV
 refine wpAnyH_ready (rs:=[12]) lQ lU ?_;refine jU (o:= ?a06) ?SA (λK E=> ?_) j3;case SA=>simp only[iP,iM,iO]<;>rfl
 go_simp;refine E.out _ _ trivial (λaH=> ?_);clear E K;try simp only[jZ,iN,iR,iT]
 refine wpAnyH_done lQ ?_ _;go_end0;refine⟨rfl,aF.out _ (λc Y ag=> ?_) ?_ ?_ (by simp[jf]) ⟨rfl,rfl,rfl⟩⟩;.rw[pF,iX _ _ _ _ ag,qo c Y]
 .rw[pF,iX _ _ _ _ O]
 .rw[pF]
  exact sO _ _ (qo go (Ne.symm O))
theorem QT{w w1:iH}{B bo bw:Nat}{vr:iJ}{J:Nat->Prop}{E:Array iJ}{T:ByteArray}{l:Bool}{v:iJ}{s:List (lL IL)}(h:pJ w B bo bw vr [])(hbw:lN w bw E IT)(O:lX w J v s)(Q:∀c,J c->¬Lp B bo bw vr c)(hc:E.size=3)(C:iK w.heap.size w w1):
  pJ (tZ w1 bw 0 (ll T) (lu l) v) B bo bw vr []/\lN (tZ w1 bw 0 (ll T) (lu l) v) bw #[ll T,lu l,v] IT/\lX (tZ w1 bw 0 (ll T) (lu l) v) J v s/\iK B w (tZ w1 bw 0 (ll T) (lu l) v):=by
 have N:=Below.blk C hbw h.lt;have hB:iK B w (tZ w1 bw 0 (ll T) (lu l) v):=by
  have U:=(C.mono (show B<=w.heap.size by have:=h.hbw;have:=h.lt;omega));exact ng.below (Ku w1 bw 0 (ll T) (lu l) v) U h.hbw (by have:=C.size;have:=h.hbw;have:=h.lt;omega)
 have A:∀c,c<w.heap.size->c≠bw->(tZ w1 bw 0 (ll T) (lu l) v).heap[c]? =w.heap[c]? :=λc hc hn=>(qo c hn).trans (C.block c hc)
 refine⟨⟨?_,h.row.keep λb hb=>A b (h.row.block b hb).2.1 (λe=>h.Yo (e▸hb)),h.Xm,h.Yo,trivial,h.Eo,h.hbw,h.ne,by rw[sH];exact jq h.lt C.size⟩,?_,?_,hB⟩
 .unfold lN
  rw[A bo h.ho.lt h.ne];exact h.ho
 .have:=(((N.set 0 (ll T)).set 1 (lu l)).set 2 v)
  have e:((E.setIfInBounds 0 (ll T)).setIfInBounds 1 (lu l)).setIfInBounds 2 v=#[ll T,lu l,v]:=by
   obtain⟨L⟩:=E
   match L,hc with
   |[a,b,c],_=>rfl
  rw[e]at this;exact this
 .exact Shape.lY.keep O (by rw[sH];exact C.size) (λ_ _ h=>h) λc hc V=>A c hc λe=>Q c V (.inr (.inr (.inl e)))
theorem xP(w:iH)(B bo bw:Nat)(vr:iJ)(y:nJ IL)(U:Nat->Prop)(a0 ak a2:iJ)(h:pJ w B bo bw vr [])(hbw:lN w bw #[a0,ak,a2] IT)(E:lX w U y.u y.sub)(aa:∀c,U c->¬Lp B bo bw vr c):
  iU iG 241 #[lC #[ll (txt y.lab),lu y.lab.list,y.u],lq (some ⟨bo,0,none⟩),lq (some ⟨bw,0,none⟩)] w
   λe w'=>e=lF (lD #[])/\pJ w' B bo bw vr []/\lN w' bw #[ll (txt y.lab),lu y.lab.list,y.u] IT/\lX w' U y.u y.sub/\iK B w w':=by
 obtain⟨u,ae⟩:=lV y.u;obtain⟨o,n,c,rfl,_⟩:∃o n c,u=lh o n c/\True:=by obtain⟨o,c,V,_⟩:=lX.slice E;exact⟨o,_,c,by rw[<-ae,V],trivial⟩
 rw[ae]at E⊢;obtain⟨g,hg⟩:=lV w.heap.size;obtain⟨oa,af,Q⟩:=h.row.slice;have J:vr=lh oa 0 af:=Q;have o0:w.cell? ⟨bo,0,none⟩=some (lh oa 0 af):=by rw[<-J];exact h.ho.cell 0
 have N:=h.ho.lt;have Y:=iF (qD (T:=txt y.lab) (l:=y.lab.list) (t:=IT) E);have O:=iF (λw1 V=>QT (w1:=w1) (T:=txt y.lab) (l:=y.lab.list) h hbw E aa rfl V);have A:=h.lt;have c0:=hbw.cell 0;have c1:=hbw.cell 1;have c2:=hbw.cell 2;obtain⟨z0,ag,ah⟩:=hbw.f3;rw[hg]at Y O A N;clear h hbw E aa Q J;go_in;go_upto_region 1 with fail;generalize w.alloc (lG #[ll (txt y.lab),lu y.lab.list,lh o n c] IT)=w1 at*;obtain⟨C,ai,au,b0,b1,av,aj⟩:=Y.out _ rfl;have p0:=(C.cell (p:=⟨bo,0,none⟩) N).trans o0;have ax:=(C.cell (p:=⟨bw,0,none⟩) A).trans c0;have ay:=(C.cell (p:=⟨bw,1,none⟩) A).trans c1;have az:=(C.cell (p:=⟨bw,2,none⟩) A).trans c2;have aA:=(C.frozen (p:=⟨bw,0,none⟩) A).trans z0;have aB:=(C.frozen (p:=⟨bw,1,none⟩) A).trans ag;have aC:=(C.frozen (p:=⟨bw,2,none⟩) A).trans ah;have Z:=iF (O.out _ C);clear Y C ai aj O c0 c1 c2 z0 ag ah;go_wp2_with fail;go_returns;exact⟨rfl,Z.out⟩
end
section
theorem Al{k:Nat}{l:List UInt8}{m:Nat}{y:lL IL×Nat×Nat}(h:rU k l m=.ok y):0<y.2.1/\y.2.1<=l.length:=⟨(xE k l m y h).1,(xE k l m y h).2.1⟩
theorem TW{k:Nat}:∀(f A:Nat)(l:List UInt8)(m:Nat)(sub:List (lL IL)),l.length<f->l.length<A->JS (rU k) f l m sub=JS (rU k) A l m sub:=by
 intro f;induction f with
 |zero=>intro A l m sub h;omega
 |succ f C=>
  intro A l m sub h J;cases A with
  |zero=>omega
  |succ A=>
   simp only[JS];split;.rfl
   .split
    .rfl
    .rename_i y E
     obtain⟨N,O⟩:=Al E;exact C A _ _ _ lW lW
def wY(s:List UInt8)(at_ A:Nat):List UInt8:=(s.drop at_).take (A - at_)
def Fu(k:Nat)(l:List UInt8)(m:Nat)(sub:List (lL IL)):Except Nat (List (lL IL)×Nat):=JS (rU k) (l.length+1) l m sub
def fin(s:List UInt8):List (List (lL IL)×Nat)->Nat->lL IL->Nat->Nat->Except Nat (lL IL×Nat×Nat)
 |[],_,x,p,m=> .ok (x,p,m)
 |(sub,e)::st,k,x,p,m=>match Fu k (wY s p e) m (sub++[x])with
  | .error er=> .error er
  | .ok y=>fin s st (k+1) (.node ⟨[],true⟩ y.1) e y.2
def cont(s:List UInt8)(sub:List (lL IL))(e:Nat)(st:List (List (lL IL)×Nat))(k p m:Nat):Except Nat (lL IL×Nat×Nat):=match Fu k (wY s p e) m sub with
  | .error er=> .error er
  | .ok y=>fin s st (k+1) (.node ⟨[],true⟩ y.1) e y.2
theorem TY(s:List UInt8)(sub:List (lL IL))(e:Nat)(st:List (List (lL IL)×Nat))(k:Nat)(x:lL IL)(p m:Nat):fin s ((sub,e)::st) k x p m=cont s (sub++[x]) e st k p m:=rfl
theorem TZ(s:List UInt8)(e:Nat):wY s e e=[]:=by simp[wY]
theorem OV(k m:Nat)(sub:List (lL IL)):Fu k [] m sub=.ok (sub,m):=by simp[Fu,JS]
theorem Ep{s:List UInt8}{sub:List (lL IL)}{e:Nat}{st:List (List (lL IL)×Nat)}{k m:Nat}:cont s sub e st k e m=fin s st (k+1) (.node ⟨[],true⟩ sub) e m:=by
 unfold cont;rw[TZ,OV]
theorem xQ{k:Nat}{l:List UInt8}{m:Nat}{sub:List (lL IL)}(h:l≠[]):Fu k l m sub=match rU k l m with
  | .error e=> .error (if e=2 then 3 else e)
  | .ok y=>Fu k (l.drop y.2.1) y.2.2 (sub++[y.1]):=by
 unfold Fu;conv=>lhs;rw[JS]
 rw[if_neg h];cases A:rU k l m with
 |error e=>rfl
 |ok y=>
  obtain⟨C,E⟩:=Al A;exact TW _ _ _ _ _ lW lU
theorem seg_length(s:List UInt8){p e:Nat}(A:p<=e)(C:e<=s.length):(wY s p e).length=e - p:=by simp[wY];omega
theorem Er(s:List UInt8){p e:Nat}(C:p<e)(A:e<=s.length):wY s p e≠[]:=λh=>by
 have:=congrArg List.length h;rw[seg_length s lK A]at this;simp at this;omega
theorem Am(s:List UInt8){p e n:Nat}(h:p+n<=e):(wY s p e).drop n=wY s (p+n) e:=by
 unfold wY;rw[List.drop_take,List.drop_drop,show e - p - n=e -(p+n)by omega]
theorem Kv(s:List UInt8){p e n:Nat}(h:p+n<=e):(wY s p e).take n=wY s p (p+n):=by
 unfold wY;rw[List.take_take,Nat.min_eq_left lK,show p+n - p=n by omega]
theorem T9{s:List UInt8}{sub:List (lL IL)}{e:Nat}{st:List (List (lL IL)×Nat)}{k p m er:Nat}(hp:p<e)(he:e<=s.length)(h:rU k (wY s p e) m=.error er):
  cont s sub e st k p m=.error (if er=2 then 3 else er):=by
 unfold cont;rw[xQ (Er s hp he),h]
theorem Xo{k:Nat}:∀(f:Nat)(l:List UInt8)(m:Nat)(sub:List (lL IL))(er:Nat),JS (rU k) f l m sub=.error er->er≠2:=by
 intro f;induction f with
 |zero=>intro l m sub er h;simp only[JS]at h;cases h;decide
 |succ f A=>
  intro l m sub er h;simp only[JS]at h;split at h;.cases h
  .split at h
   .cases h;split<;>omega
   .exact A _ _ _ _ h
theorem Kw{l:List UInt8}{m:Nat}(h:l≠[]):rU 0 l m=.error 6:=by simp[rU,h]
theorem HZ{k m:Nat}:rU k [] m=.error 2:=by cases k<;>simp[rU]
theorem Ky{k:Nat}{l:List UInt8}(h:l≠[]):rU (k+1) l 0=.error 4:=by simp[rU,h]
theorem Kz{k:Nat}{l:List UInt8}{m er:Nat}(h:l≠[])(A:hd l=.error er):rU (k+1) l (m+1)=.error er:=by simp[rU,h,A]
theorem Es{k:Nat}{l:List UInt8}{m z n:Nat}(h:l≠[])(A:hd l=.ok (false,z,n)):rU (k+1) l (m+1)=.ok (.node ⟨(l.drop z).take n,false⟩ [],z+n,m):=by simp[rU,h,A]
theorem Et{k:Nat}{l:List UInt8}{m z n:Nat}(h:l≠[])(A:hd l=.ok (true,z,n))(C:z+n<=l.length):rU (k+1) l (m+1)=match Fu k ((l.drop z).take n) m []with
  | .error e=> .error e
  | .ok y=> .ok (.node ⟨[],true⟩ y.1,z+n,y.2):=by
 simp only[rU,h,if_false,A,Nat.add_sub_cancel,if_true];rw[if_neg lK];have:((l.drop z).take n).length=n:=lW;unfold Fu;rw[this];cases JS (rU k) (n+1) ((l.drop z).take n) m []<;>rfl
theorem QU{s:List UInt8}{sub:List (lL IL)}{e:Nat}{st:List (List (lL IL)×Nat)}{k p m z n:Nat}(hp:p<e)(he:e<=s.length)(h:hd (wY s p e)=.ok (false,z,n))(A:z+n<=e - p):
  cont s sub e st (k+1) p (m+1)=cont s (sub++[.node ⟨wY s (p+z) (p+z+n),false⟩ []]) e st (k+1) (p+z+n) m:=by
 unfold cont;rw[xQ (Er s hp he),Es (Er s hp he) h];simp only;rw[Am s lK,Am s lK,Kv s lK,<-jI]
theorem QV{s:List UInt8}{sub:List (lL IL)}{e:Nat}{st:List (List (lL IL)×Nat)}{k p m z n:Nat}(hp:p<e)(he:e<=s.length)(h:hd (wY s p e)=.ok (true,z,n))(C:z+n<=e - p):
  cont s sub e st (k+1) p (m+1)=cont s [] (p+z+n) ((sub,e)::st) k (p+z) m:=by
 unfold cont;rw[xQ (Er s hp he),Et (Er s hp he) h (by rw[seg_length s lK he];omega)];rw[Am s lK,Kv s lK];cases A:Fu k (wY s (p+z) (p+z+n)) m []with
 |error er=>
  simp only;rw[if_neg (Xo _ _ _ _ _ A)]
 |ok y=>
  simp only[fin];rw[Am s lK,<-jI]
theorem zw{s:List UInt8}{k m z n:Nat}(h:hd s=.ok (true,z,n))(hs:s≠[])(A:z+n<=s.length):rU (k+1) s (m+1)=cont s [] (z+n) [] k z m:=by
 rw[Et hs h A];unfold cont;have:(s.drop z).take n=wY s z (z+n):=by unfold wY;rw[show z+n - z=n by omega]
 rw[this];cases Fu k (wY s z (z+n)) m []<;>rfl
end
end Go.Proofs.YtamfcjmhnndbdaaGreatDoor


