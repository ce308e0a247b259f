/- Part 14 of the proof. -/
import Derived.Test.YtamfcjmhnndbdaaGreatDoorZk00
import Derived.Test.YtamfcjmhnndbdaaGreatDoorZk09
import Derived.Test.YtamfcjmhnndbdaaGreatDoorZk10
import Derived.Test.YtamfcjmhnndbdaaGreatDoorZk05
import Derived.Test.YtamfcjmhnndbdaaGreatDoorZk11
import Derived.Test.YtamfcjmhnndbdaaGreatDoorZk13
import Derived.Laws.CopyOwn
import Derived.Lib.SliceRun
open Go.Value renaming agg→lC,bool→lu,int→lg,pointer→lq,slice→lh,string→ll,tuple→lD,ownBlock→jw
open Go.Obj renaming cells→lG
open Go.IntKind renaming i64→lH,u32→lJ,u64→lI
open Go.Ending renaming returned→lF,returned→jP
open Go.Lib renaming hid→iF,trimRightB→jL
open Go.Proofs.Tryz renaming prog→iG,underlying86→kC
open Go renaming World→iH,Value→iJ,Calls→iU,bodyPost_ret→iV,maxLen→jb,TypeId→jg,undef→jo,results→jr,Addr→kr,Oper→kH
open Nat renaming le_refl→iI,le_trans→je,lt_of_lt_of_le→jq,zero_le→jy,le_succ→jF,le_of_eq→kX
open Go.RowKit renaming Below→iK,Hid→iW
open Go.RowKit.Below renaming refl→iL,heap_setCell→iX
open List renaming getElem?_cons_succ→iM,setIfInBounds_toArray→iN,getElem?_cons_zero→iO,getElem?_toArray→iP,set_cons_zero→iR,set_cons_succ→iT,getElem?_eq_getElem→iZ,take_succ_cons→ji,take_zero→jC,getElem?_eq_some_iff→jH,length_drop→jS,length_eq_zero_iff→kR,size_toArray→kV
open And renaming intro→iQ
open ByteArray renaming size_extract→ja
open Go.World renaming setCell→jf,cell?→kZ
open Array renaming getElem?_eq_some_iff→jk,length_toList→jM
open Go.Code renaming region→jJ
open Go.Act renaming put→jZ
open Go.Sem renaming run→kJ
namespace Go.Proofs.YtamfcjmhnndbdaaGreatDoor
set_option linter.unusedVariables false
set_option linter.unusedSimpArgs false
set_option maxRecDepth 100000
set_option maxHeartbeats 8000000
variable {a0:Act}{e:jg}
section
open Go.RowKit
def VY:Array iJ:=#[ll ⟨#[]⟩,ll ⟨#[]⟩,lu false,lh none 0 0]
def RJ(g rb:Nat)(f:uN)(x:RC)(w0 W:iH):Prop:=iK g w0 W/\lN W g #[lg lI f.id,ll f.name,ll f.body] pg/\lN W (g+1) VY wX/\lN W rb x.cs CU
theorem RJ.up{g rb:Nat}{f:uN}{x:RC}{w0 W A:iH}(hl:g+1<rb)(h:RJ g rb f x w0 W)(_:rb<W.heap.size)(hb:iK (rb+1) W A):RJ g rb f x w0 A:=
 ⟨h.1.trans (hb.mono lK),Below.blk hb h.2.1 lK,Below.blk hb h.2.2.1 lK,Below.blk hb h.2.2.2 lK⟩
def De:List kH:=[⟨some 23,.move (.tmp 0),85,"registry.go:179",#[],none⟩,⟨some 24,.nilCheck (.tmp 23),0,"registry.go:179",#[⟨0,.data⟩],none⟩,⟨some 25,.fieldAddr 137 (.tmp 24) 3,0,"registry.go:179",#[⟨1,.data⟩],none⟩,⟨some 26,.fieldAddr 135 (.tmp 25) 1,0,"registry.go:179",#[⟨2,.data⟩],none⟩,⟨some 27,.load 133 (.tmp 26),133,"registry.go:179",#[⟨3,.data⟩],none⟩,⟨some 28,.fieldAddr 128 (.tmp 6) 1,0,"registry.go:179",#[],none⟩,⟨some 29,.load 63 (.tmp 28),63,"registry.go:179",#[⟨5,.data⟩],none⟩,⟨some 30,.fieldAddr 52 (.tmp 3) 2,0,"registry.go:179",#[],none⟩,⟨some 31,.load 9 (.tmp 30),9,"registry.go:179",#[⟨7,.data⟩],none⟩,⟨some 32,.call {callee:=.value (.tmp 27),args:=#[.tmp 29,.tmp 31],argTypes:=#[63,9]},115,"registry.go:179",#[⟨4,.data⟩,⟨6,.data⟩,⟨8,.data⟩],none⟩,⟨some 22,.move (.tmp 32),115,"registry.go:179",#[⟨9,.data⟩],none⟩,⟨some 33,.extract (.tmp 22) 0,47,"registry.go:179",#[⟨10,.data⟩],none⟩,⟨some 34,.extract (.tmp 22) 1,36,"registry.go:179",#[⟨10,.data⟩,⟨14,.gcOnly .lateStores⟩],none⟩,⟨some 8,.alloc 47,0,"registry.go:179",#[],none⟩,⟨none,.store 47 (.tmp 8) (.tmp 33),0,"registry.go:179",#[⟨13,.data⟩,⟨11,.data⟩,⟨9,.chain⟩,⟨0,.phase⟩,⟨1,.phase⟩,⟨2,.phase⟩,⟨3,.phase⟩,⟨4,.phase⟩,⟨5,.phase⟩,⟨6,.phase⟩,⟨7,.phase⟩,⟨8,.phase⟩,⟨9,.phase⟩,⟨10,.phase⟩,⟨11,.phase⟩,⟨12,.textOnly .lateStores⟩,⟨13,.phase⟩],none⟩,⟨some 9,.assign (.tmp 34),36,"registry.go:179",#[⟨12,.data⟩,⟨14,.chain⟩,⟨0,.phase⟩,⟨1,.phase⟩,⟨2,.phase⟩,⟨3,.phase⟩,⟨4,.phase⟩,⟨5,.phase⟩,⟨6,.phase⟩,⟨7,.phase⟩,⟨8,.phase⟩,⟨9,.phase⟩,⟨10,.phase⟩,⟨11,.phase⟩,⟨12,.phase⟩,⟨13,.phase⟩,⟨14,.phase⟩],none⟩]
section
variable (g r rb:Nat)(c:mU)(f:uN)(x:RC)(w0:iH)(fn:FuncId)(T:ByteArray)(li:Bool)(S:List (lL IL))(er:Nat)(Ps:Option kr->Nat->Prop)
def wC:Nat->iJ
 |0=> lq (some ⟨r,0,none⟩)
 |1=> lq (some ⟨r,0,none⟩)
 |2=> lq (some ⟨r,8,none⟩)
 |3=> lq (some ⟨r,9,none⟩)
 |4=> .func (.func fn) #[lC #[lg lH c.dep,lg lH c.mX]] #[]
 |5=> lq (some ⟨rb,3,none⟩)
 |6=> lC #[lg lH x.k,lg lH x.z,lh x.ou x.nu x.cu,lg lH x.tl]
 |7=> lq (some ⟨g,2,none⟩)
 |8=> ll f.body
 |12=> lg lH (er)
 |15=> lg lH (er)
 |_=>jo
structure a1o(D:Nat->Bool)(vs:Nat->iJ)(w:iH):Prop where
 mh:yN (RJ g rb f x w0) (rb) (λov cv=>#[ll T,lu li,lh ov S.length cv]) (er) (yM) IT (Ps) (S) (D 9) (D 10) (D 11) (D 13) (D 14) (vs 9) (vs 10) (vs 11) (vs 13) w
 val:∀j,(j !=9&&j !=10&&j !=11&&j !=13)=true->D j=true->vs j=wC g r rb c f x fn er j
variable {g r rb c f x w0 fn T li S er Ps}
theorem XH{id:Nat}{Q:Exit->Act->iH->Prop}{af:iH}(ht0:a0.tmps.getD 0 jo=lq (some ⟨r,0,none⟩))(Nn:∀W,RJ g rb f x w0 W->W.cell? ⟨r,9,none⟩=some (.func (.func fn) #[lC #[lg lH c.dep,lg lH c.mX]] #[]))(vT:a0.tmps.getD 6 jo=lq (some ⟨rb,0,none⟩))(ht3:a0.tmps.getD 3 jo=lq (some ⟨g,0,none⟩))(hget:∀W,RJ g rb f x w0 W->iU iG fn #[lC #[lg lH c.dep,lg lH c.mX],lC #[lg lH x.k,lg lH x.z,lh x.ou x.nu x.cu,lg lH x.tl],ll f.body] W λe Y=>∃ov cv,Ps ov cv/\e=lF (lD #[lC #[ll T,lu li,lh ov S.length cv],lg lH er])/\lX Y (λc=>W.heap.size<=c) (lh ov S.length cv) S/\iK W.heap.size W Y)(hcf:∀a b d W,kJ iG (callFunc fn #[a,b,d]) W=.ok (.enter fn #[a,b,d]) W)(oL:∀W Y,(RJ g rb f x w0) W->rb<W.heap.size->iK (rb+1) W Y->(RJ g rb f x w0) Y)(hsz:a0.tmps.size=48)(hI0:∀vs:Nat->iJ,(λw=>yN (RJ g rb f x w0) (rb) (λov cv=>#[ll T,lu li,lh ov S.length cv]) (er) (yM) IT (Ps) (S) false false false false false (vs 9) (vs 10) (vs 11) (vs 13) w) af.drew)(ag:∀(vs:Nat->iJ) (w:iH),yN (RJ g rb f x w0) (rb) (λov cv=>#[ll T,lu li,lh ov S.length cv]) (er) (yM) IT (Ps) (S) true true true true true (vs 9) (vs 10) (vs 11) (vs 13) w->Q .normal {a0 with tmps:=(((((((((((((((a0.tmps.setIfInBounds 23 (lq (some ⟨r,0,none⟩))).setIfInBounds 24 (lq (some ⟨r,0,none⟩))).setIfInBounds 25 (lq (some ⟨r,8,none⟩))).setIfInBounds 26 (lq (some ⟨r,9,none⟩))).setIfInBounds 27 (.func (.func fn) #[lC #[lg lH c.dep,lg lH c.mX]] #[])).setIfInBounds 28 (lq (some ⟨rb,3,none⟩))).setIfInBounds 29 (lC #[lg lH x.k,lg lH x.z,lh x.ou x.nu x.cu,lg lH x.tl])).setIfInBounds 30 (lq (some ⟨g,2,none⟩))).setIfInBounds 31 (ll f.body)).setIfInBounds 32 (vs 9)).setIfInBounds 22 (vs 10)).setIfInBounds 33 (vs 11)).setIfInBounds 34 (lg lH (er))).setIfInBounds 8 (vs 13)).setIfInBounds 9 (lg lH (er)))} w):
  (jJ id De.toArray true).wp iG Q a0 af:=by
 refine l6 16 48 (a1o g r rb c f x w0 fn T li S er Ps) lQ hsz lQ (.inl rfl) lQ ?_ ?_ ?_;.exact oo
 .refine pO λA az=> ?_
  clear hI0 ag hsz;replace ht0:=iF ht0;replace Nn:=iF Nn;replace vT:=iF vT;replace ht3:=iF ht3;replace hget:=iF hget;replace hcf:=iF hcf;replace oL:=iF oL;unfold De;simp only[ji,jC,o6];refine⟨?_,?_,?_,?_,?_,?_,?_,?_,?_,?_,?_,?_,?_,?_,?_,?_,trivial⟩<;>(intro D vs a w K hI hd E hw2 C U;subst az;unfold De);have aP:=(C 0 lM).trans ht0.out;rotate_left;have aK:=fe C hI.val E 23 0;rotate_left;have aL:=fe C hI.val E 24 1;rotate_left;have aM:=fe C hI.val E 25 2;rotate_left;have Nn:=Nn.out;have ah:=fe C hI.val E 26 3;simp only[wC]at ah;have c0:=Nn w hI.mh.bs;rotate_left;have aQ:=(C 6 lM).trans vT.out;rotate_left;have ai:=fe C hI.val E 28 5;simp only[wC]at ai;obtain⟨⟨c0,c1,c2,c3,c4,c5,c6⟩,_⟩:=nS hI.mh.bs.2.2.2;rotate_left;have e3:=(C 3 lM).trans ht3.out;rotate_left;have aj:=fe C hI.val E 30 7;simp only[wC]at aj;have hB:=hI.mh.bs.2.1;have c0:=hB.c2;clear hB;rotate_left
  .have hget:=hget.out
   have hcf:=hcf.out;have oL:=oL.out;have ak:=fe C hI.val E 27 4;have au:=fe C hI.val E 29 6;have av:=fe C hI.val E 31 8;simp only[wC]at ak au av;have aa:D 11=false:=by cases h:D 11 with|false=>rfl|true=>exact absurd (hI.mh.dm h) (by rw[hw2 10 lM lQ];decide)
   have J:=hI.mh;rw[hd,hw2 10 lM lQ,aa,hw2 14 lM lQ]at J;have aA:=hget w J.bs;clear hget;rw[if_pos (by rfl)];go_simp;refine aA.mono ?_;rintro e aR ⟨ov,cv,hp,rfl,hs,hb⟩;refine U _ _ _ rfl ⟨?_,Ko rfl hI.val⟩;rw[l7,lT D (show 10≠9 by decide),lT D (show 11≠9 by decide),lT D (show 13≠9 by decide),lT D (show 14≠9 by decide),nI,l8 vs _ (show 10≠9 by decide),l8 vs _ (show 11≠9 by decide),l8 vs _ (show 13≠9 by decide)];rw[hw2 10 lM lQ,aa,hw2 14 lM lQ];exact J.call oL hb hp hs
  .have d9:=E 9 lM lQ
   have aN:a.tmps.getD 32 jo=vs 9:=C 32 lM;have J:=hI.mh;rw[hd,d9,hw2 11 lM lQ,hw2 14 lM lQ]at J;go_simp;refine U _ _ _ rfl ⟨?_,Ko rfl hI.val⟩;rw[l7,lT D (show 9≠10 by decide),lT D (show 11≠10 by decide),lT D (show 13≠10 by decide),lT D (show 14≠10 by decide),nI,l8 vs _ (show 9≠10 by decide),l8 vs _ (show 11≠10 by decide),l8 vs _ (show 13≠10 by decide)];rw[d9,hw2 11 lM lQ,hw2 14 lM lQ];exact J.mv
  .have d10:=E 10 lM lQ
   have O:a.tmps.getD 22 jo=vs 10:=C 22 lM;have J:=hI.mh;have N:D 9=true:=hI.mh.done (by rw[d10]);rw[hd,N,d10,hw2 14 lM lQ]at J;obtain⟨ov,cv,ev,Z⟩:=J.ext;try dsimp only at ev Z
   have O:=O.trans ev;go_simp;refine U _ _ _ rfl ⟨?_,Ko rfl hI.val⟩;rw[l7,lT D (show 9≠11 by decide),lT D (show 10≠11 by decide),lT D (show 13≠11 by decide),lT D (show 14≠11 by decide),nI,l8 vs _ (show 9≠11 by decide),l8 vs _ (show 10≠11 by decide),l8 vs _ (show 13≠11 by decide)];rw[N,d10,hw2 14 lM lQ];exact Z
  .have d10:=E 10 lM lQ
   have O:a.tmps.getD 22 jo=vs 10:=C 22 lM;have N:D 9=true:=hI.mh.done (by rw[d10]);have J:=hI.mh;rw[N,d10]at J;obtain⟨ov,cv,ev⟩:=J.tup;try dsimp only at ev
   have O:=O.trans ev;go_simp;exact U (wC g r rb c f x fn er 12) _ _ rfl ⟨hI.mh,ry hI.val⟩
  .have oL:=oL.out
   have J:=hI.mh;rw[hd,hw2 14 lM lQ]at J;go_simp;refine U (lq (some ⟨w.heap.size,0,none⟩)) _ _ rfl ⟨?_,Ko rfl hI.val⟩;rw[l7,lT D (show 9≠13 by decide),lT D (show 10≠13 by decide),lT D (show 11≠13 by decide),lT D (show 14≠13 by decide),nI,l8 vs _ (show 9≠13 by decide),l8 vs _ (show 10≠13 by decide),l8 vs _ (show 11≠13 by decide)];rw[hw2 14 lM lQ];exact J.made oL
  .have oL:=oL.out
   have d13:=E 13 lM lQ;have ax:a.tmps.getD 8 jo=vs 13:=C 8 lM;have d11:=E 11 lM lQ;have ae:a.tmps.getD 33 jo=vs 11:=C 33 lM;have N:D 9=true:=hI.mh.done (E 10 lM lQ);have J:=hI.mh;rw[hd,N,E 10 lM lQ,d11,d13]at J;obtain⟨ov,cv,b,ay,aB,hB,Z⟩:=J.st oL;try dsimp only at ay Z
   have ae:=ae.trans ay;have ax:=ax.trans aB;have z0:=hB.cell 0;have aC:=hB.cell 1;have aD:=hB.cell 2;obtain⟨aS,f1,f2⟩:=hB.f3;simp only[yM,iP,iO,iM]at z0 aC aD;go_simp;rw[nO];refine U jo _ _ rfl ⟨?_,ry hI.val⟩;rw[l7,lT D (show 9≠14 by decide),lT D (show 10≠14 by decide),lT D (show 11≠14 by decide),lT D (show 13≠14 by decide),l8 vs _ (show 9≠14 by decide),l8 vs _ (show 10≠14 by decide),l8 vs _ (show 11≠14 by decide),l8 vs _ (show 13≠14 by decide)];rw[N,E 10 lM lQ,d11,d13];obtain⟨aF,aG,aH,aI,aJ⟩:=KQ _ _ _ _ _;exact Z _ aF aG aH aI aJ (Q6 hB)
  have aO:=fe C hI.val E 34 12;rotate_left
  all_goals
   try simp only[wC]at*
   go_simp;exact U _ _ _ rfl ⟨hI.mh,ry hI.val⟩
 .intro D vs w V hI
  have E:=hI.mh;rw[V 9 lM]at E;rw[V 10 lM]at E;rw[V 11 lM]at E;rw[V 13 lM]at E;rw[V 14 lM]at E;have q:=ag vs w E;rw[mQ hI.val V];unfold De;exact om
end
def mN(R:Except Nat Cb):ByteArray:=match R with| .error _=>⟨#[]⟩| .ok m=>m.name
def mT(R:Except Nat Cb):ByteArray:=match R with| .error _=>⟨#[]⟩| .ok m=>txt m.val.lab
def mL(R:Except Nat Cb):Bool:=match R with| .error _=>false| .ok m=>m.val.lab.list
def mS(R:Except Nat Cb):List (lL IL):=match R with| .error _=>[]| .ok m=>m.val.sub
def mE(R:Except Nat Cb):Nat:=match R with| .error er=>er| .ok _=>0
def XI(R:Except Nat Cb)(w:iH)(e:Ending)(w':iH):Prop:=
 ∃ov cv,((∃er,R=.error er)->ov=none/\cv=0)/\e=lF (lD #[lC #[ll (mN R),ll (mT R),lu (mL R),lh ov (mS R).length cv],lg lH (mE R:Nat)])/\lX w' (λc=>w.heap.size<=c) (lh ov (mS R).length cv) (mS R)/\iK w.heap.size w w'
theorem Ey{c:mU}{t:lL TL}{s:ByteArray}{er:Nat}(h:Bo c t s=.error er):er≠0:=by
 unfold Bo at h;split at h
 .unfold Ki at h
  split at h
  .rename_i e1 A
   unfold Fq at A;split at A
   .have E:=xV 8 t (RS.of s) (min c.mX 1024).toNat (Int.le_refl _)
    cases A;cases h;omega
   .cases A
  .split at h
   .cases h;decide
   .cases h
 .unfold xN at h
  split at h
  .split at h
   .rename_i e1 A
    unfold vI at A;split at A
    .rename_i C
     have:=xR _ _ _ _ C;cases A;cases h;omega
    .split at A
     .cases A;cases h;decide
     .cases A
   .split at h
    .cases h
    .rename_i J
     have:=zY t (by assumption);cases h;omega
  .cases h;decide
theorem Np(r bn bi:Nat)(c:mU)(L:List mW)(f:uN)(w:iH)(h:ow r bn bi c L w)(hc:mK c=true)(aS:c.wf)(bH:oG w)(aM:yK w)(hn:f.name.size<=jb)(hid:f.id<18446744073709551616)(aT:f.body.size<=100000)(hlt:r<w.heap.size/\bn<w.heap.size/\bi<w.heap.size):
  iU iG 64 #[lq (some ⟨r,0,none⟩),lC #[lg lI f.id,ll f.name,ll f.body]] w (XI (Ef c (L.map λx=>x.r) f) w):=by
 obtain⟨fn,aU,hcf,aV⟩:=UI c hc aS;obtain⟨g,hg⟩:=lV w.heap.size;have av:iW (∀W,iK g w W->iU iG 91 #[lq (some ⟨r,0,none⟩),lC #[lg lI f.id,ll f.name,ll f.body]] W λe w'=>e=lF (lD #[lC (rcO (M8 c L f)).cs,lu (M8 c L f).isSome])/\iK W.heap.size W w'):=iF λW hb=>by
  have:=hb.size;exact Zx r bn bi c L f W (h.below (hg.symm▸hb)) hn hid ⟨lK,lK,lK⟩
 have aW:iW (∀W,(w.alloc (lG #[lg lI f.id,ll f.name,ll f.body] pg)).alloc (lG #[ll ⟨#[]⟩,ll ⟨#[]⟩,lu false,lh none 0 0] wX)=W->lN W g #[lg lI f.id,ll f.name,ll f.body] pg/\lN W (g+1) VY wX/\iK g w W/\W.heap.size=g+2):=iF λW V=>by
  subst V;have bW:=(iL w.heap.size w).alloc (iI _) (lG #[lg lI f.id,ll f.name,ll f.body] pg);have a2:=bW.alloc lU (lG #[ll ⟨#[]⟩,ll ⟨#[]⟩,lu false,lh none 0 0] wX);have bN:=lN.new w #[lg lI f.id,ll f.name,ll f.body] pg;have bO:=lN.new (w.alloc (lG #[lg lI f.id,ll f.name,ll f.body] pg)) #[ll ⟨#[]⟩,ll ⟨#[]⟩,lu false,lh none 0 0] wX;rw[show(w.alloc (lG #[lg lI f.id,ll f.name,ll f.body] pg)).heap.size=g+1 by simp[hg]]at bO;rw[hg]at bN;exact⟨bN.alloc _,bO,hg▸a2,by simp[hg]⟩
 have aX:iW (∀W,iK g w W->W.cell? ⟨r,9,none⟩=some (.func (.func fn) #[lC #[lg lH c.dep,lg lH c.mX]] #[])):=iF λW hb=>by
  have:=(h.below (hg.symm▸hb)).rg.cell 9;rw[<-aU];exact this
 obtain⟨R,bI⟩:=lV (Ef c (L.map λx=>x.r) f);have Y:iW ((M8 c L f=none->R=.error 11)/\∀x,M8 c L f=some x->R=match Bo c x.r.ty f.body with| .error er=> .error (if er=2 then 3 else er)| .ok y=> .ok ⟨x.r.name,y⟩):=iF (by
  rw[<-bI];unfold Ef;rw[Xc];refine⟨λh=>by rw[h];rfl,λx h=>by rw[h];rfl⟩)
 have ax:iW (∀x,M8 c L f=some x->x∈L):=iF λx J=>by
  unfold M8 at J;split at J
  .split at J
   .exact List.mem_of_find?_eq_some J
   .cases J
  .split at J
   .exact List.mem_of_find?_eq_some J
   .cases J
 have ah:iW (∀x,M8 c L f=some x->∀W,iK g w W->iU iG fn #[lC #[lg lH c.dep,lg lH c.mX],lC #[lg lH x.r.ty.lab.kind,lg lH x.r.ty.lab.size,lh x.ou x.r.ty.sub.length x.cu,lg lH x.r.ty.lab.tail],ll f.body] W (Nl (Bo c x.r.ty f.body) W)):=iF λx J W hb=>by
  have bP:=ax.out x J;have ay:iK w.heap.size w W:=hg.symm▸hb;obtain⟨bX,m2,_⟩:=h.may x bP;exact(aV x.r.ty f.body W x.ou x.cu ((h.below ay).sub x bP) (bH.below ay bH.lt) (tu aM (mH.of (b:=w.heap.size) (q:=w.heap.size) ay) (by have:=aM.lt;omega) (by have:=aM.lt;omega)) bX m2 aT).mono λe w' h=>Ik h
 have aY:=iF hcf;rw[bI];obtain⟨bY,bJ⟩:=lV (XI R w);have aN:=iF bJ;rw[bJ];obtain⟨o,ho⟩:=lV (M8 c L f);rw[ho]at av Y ah;have dD:=iF hlt;clear h hc aS bH aM hn hid aT hlt aU hcf aV bI ho bJ ax;go_in;go_upto_region 1 with fail;obtain⟨az,aZ,aA,bg⟩:=aW.out _ rfl;generalize (w.alloc _).alloc _=w1 at*;obtain⟨c0,c1,c2⟩:=az.a3;have Z:=iF (iQ az (iQ aZ (iQ aA bg)));have aB:=iF (av.out _ aA);clear aW az aZ aA bg av;go_wp2_with fail;refine aB.out.mono ?_;rintro e w2 ⟨rfl,aa⟩;have ai:iW (lN w2 g #[lg lI f.id,ll f.name,ll f.body] pg/\lN w2 (g+1) VY wX/\iK g w w2/\g+2<=w2.heap.size):=iF ⟨Below.blk aa Z.out.1 Z.out.1.lt,Below.blk aa Z.out.2.1 Z.out.2.1.lt,Z.out.2.2.1.trans (aa.mono (by have:=Z.out.2.2.2;omega)),by have:=aa.size;have:=Z.out.2.2.2;omega⟩;clear aa Z aB c0 c1 c2;cases o with
 |none=>
  have ak:iW (R=.error 11):=iF (Y.out.1 rfl);have ae:iW (∀W,w2.alloc (lG Af.cs CU)=W->lN W (g+1) VY wX/\iK g w W):=iF λW V=>by
   subst V;have al:=(iL w2.heap.size w2).alloc (iI _) (lG Af.cs CU);obtain⟨_,C,bK,bZ⟩:=ai.out;exact⟨Below.blk al C C.lt,bK.trans (al.mono lK)⟩
  unfold rcO Af RC.cs at ae⊢;dsimp only[Option.isSome]at ae⊢;clear Y ah;go_upto_region 4 with fail;obtain⟨hB,A⟩:=ae.out _ rfl;generalize w2.alloc _=w3 at*;obtain⟨⟨cz,cB,cK,cO⟩,cZ,df,dh,dw⟩:=mg hB;have af:=iF (iQ hB A);clear hB A ae;go_wp2_with fail;rw[qK];obtain⟨⟨N,O,Q,U⟩,_⟩:=mg (pI (a:=ll ⟨#[]⟩) (b:=ll ⟨#[]⟩) (c:=lu false) (d:=lh none 0 0) af.out.1);have A:=qU (a:=ll ⟨#[]⟩) (b:=ll ⟨#[]⟩) (c:=lu false) (d:=lh none 0 0) af.out.2 (jF g);refine iV (v:=lD #[lC #[ll ⟨#[]⟩,ll ⟨#[]⟩,lu false,lh none 0 0],lg lH 11]) (by simp[jr,Tryz.results64,go_sem,N,O,Q,U]) rfl ?_;rw[<-aN.out,ak.out];exact⟨none,0,λ_=>⟨rfl,rfl⟩,rfl,tC _ _,hg.symm▸A⟩
 |some x=>
  have aj:iW (R=match Bo c x.r.ty f.body with| .error er=> .error (if er=2 then 3 else er)| .ok y=> .ok ⟨x.r.name,y⟩):=iF (Y.out.2 x rfl);have aC:=iF (ah.out x rfl);have aD:iW (∀er,Bo c x.r.ty f.body=.error er->er≠0):=iF λer h=>Ey h
  obtain⟨aF,bQ⟩:=lV (Bo c x.r.ty f.body);rw[bQ]at aj aC aD;obtain⟨rb,aG⟩:=lV w2.heap.size;have ae:iW (∀W,w2.alloc (lG x.rc.cs CU)=W->RJ g rb f x.rc w W/\rb<W.heap.size):=iF λW V=>by
   subst V;have al:=(iL w2.heap.size w2).alloc (iI _) (lG x.rc.cs CU);obtain⟨aO,C,bK,bZ⟩:=ai.out;exact⟨⟨bK.trans (al.mono lK),Below.blk al aO aO.lt,Below.blk al C C.lt,aG▸lN.new w2 _ _⟩,by simp[aG]⟩
  have bR:g+1<rb:=by have:=ai.out.2.2.2;omega
  unfold rcO;dsimp only[Option.isSome];unfold RC.cs at ae⊢;have bS:iW (x.rc.nm=x.r.name):=iF rfl;have bq:iW (∀W,iK g w W->iU iG fn #[lC #[lg lH c.dep,lg lH c.mX],lC #[lg lH x.rc.k,lg lH x.rc.z,lh x.rc.ou x.rc.nu x.rc.cu,lg lH x.rc.tl],ll f.body] W (Nl aF W)):=iF aC.out;clear aC Y ah bQ ai;generalize x.rc=X at*;generalize x.r.name=dx at*;go_upto_region 4 with fail;obtain⟨hB,bu⟩:=ae.out _ rfl;generalize w2.alloc _=w3 at*;clear ae;have af:=iF (iQ hB bu);clear hB bu aG;go_upto_region 6 with fail;obtain⟨T,aH⟩:=lV (qT aF);obtain⟨li,aI⟩:=lV (qL aF);obtain⟨S,bL⟩:=lV (qS aF);obtain⟨er,aJ⟩:=lV (qE aF);have bz:iW (∀W,RJ g rb f X w W->iU iG fn #[lC #[lg lH c.dep,lg lH c.mX],lC #[lg lH X.k,lg lH X.z,lh X.ou X.nu X.cu,lg lH X.tl],ll f.body] W λe bM=>∃ov cv,((∃er,aF=.error er)->ov=none/\cv=0)/\e=lF (lD #[lC #[ll T,lu li,lh ov S.length cv],lg lH er])/\lX bM (λc=>W.heap.size<=c) (lh ov S.length cv) S/\iK W.heap.size W bM):=iF λW V=>by
   have:=bq.out W V.1;unfold Nl qV at this;rw[aH,aI,bL,aJ]at this;exact this
  refine XH (g:=g) (r:=r) (rb:=rb) (c:=c) (f:=f) (x:=X) (w0:=w) (fn:=fn) (T:=T) (li:=li) (S:=S) (er:=er) (Ps:=λov cv=>(∃er,aF=.error er)->ov=none/\cv=0) (ht0:=by rfl) (vT:=by rfl) (ht3:=by rfl) (hsz:=by rfl) (Nn:=λW V=>aX.out W V.1) (hget:=bz.out) (hcf:=aY.out) (oL:=λW bM h=>h.up bR) (hI0:=λ_=>yN.ini ⟨af.out.1.1.trans ((mf w3).mono (by have:=af.out.2;omega)),af.out.1.2⟩ af.out.2) ?_;intro vs W hF;obtain⟨ov,cv,b,bA,bT,bB,bC,bD,bE,bF,ag⟩:=yN.fin hF;rw[bT,bB,bC,bD];obtain⟨hw1,hw2,hw3,hw4⟩:=hF.bs;have au:=iF (iQ bA (iQ bE (iQ ag (iQ hw1 hw3))));have aP:=iF (iQ aH (iQ aI (iQ bL aJ)));simp only[iN,iR,iT];obtain⟨⟨r0,r1,r2,r3,r4,dF,dG⟩,_⟩:=nS hw4;obtain⟨b0,b1,dz⟩:=bF.a3;obtain⟨⟨cz,cB,cK,cO⟩,cZ,df,dh,dw⟩:=mg hw3;have bG:iW (∀aQ,(∀c,c≠g+1->aQ.heap[c]? =W.heap[c]?)->aQ.heap.size=W.heap.size->lX aQ (λc=>w.heap.size<=c) (lh ov S.length cv) S):=iF λaQ aO C=>Shape.lY.keep ag (kX C.symm) (λc _ hc=>by have:=hc.1;show w.heap.size<=c;omega) λc _ hc=>aO c (by have:=hc.1;omega)
  clear hF bA bE ag hw1 hw2 hw3 hw4 bF aH aI bL aJ bq bz af aX aY bT bB bC bD;obtain⟨sn,aK⟩:=lV S.length;rw[aK]at dz bG⊢;have bU:=iF aK;clear aK;by_cases h0:er=0
  .subst h0
   have ak:iW (∃y,aF=.ok y):=iF (by
    cases aF with
    |error e1=>exact absurd aP.out.2.2.2 (aD.out e1 rfl)
    |ok y=>exact⟨y,rfl⟩)
   go_wp2_with fail;rw[qK];obtain⟨dA,dB,_⟩:=wB W (g+1) (ll X.nm) (ll T) (lu li) (lh ov sn cv);obtain⟨⟨N,O,Q,U⟩,_⟩:=mg (pI (a:=ll X.nm) (b:=ll T) (c:=lu li) (d:=lh ov sn cv) au.out.2.2.2.2);have A:=qU (a:=ll X.nm) (b:=ll T) (c:=lu li) (d:=lh ov sn cv) au.out.2.2.2.1 (jF g);refine iV (v:=lD #[lC #[ll X.nm,ll T,lu li,lh ov sn cv],lg lH 0]) (by simp[jr,Tryz.results64,go_sem,N,O,Q,U]) rfl ?_;obtain⟨y,dC⟩:=ak.out;have hs:=bG.out _ dA dB;obtain⟨aR,g2,g3,_⟩:=aP.out;have E:=aj.out;rw[dC]at E aR g2 g3;dsimp only at E;rw[<-aN.out,E];have aR:txt y.lab=T:=aR;have g2:y.lab.list=li:=g2;have g3:y.sub=S:=g3;have aL:=bU.out;rw[<-g3]at aL hs;refine⟨ov,cv,(λ⟨_,h⟩=>by cases h),?_,?_,hg.symm▸A⟩
   .show _=jP (lD #[lC #[ll dx,ll (txt y.lab),lu y.lab.list,lh ov y.sub.length cv],lg lH ((0:Nat):Int)])
    rw[aR,g2,aL,bS.out];rfl
   .show lX _ _ (lh ov y.sub.length cv) y.sub
    rw[aL];exact hs
  .have ak:iW (aF=.error er):=iF (by
    cases aF with
    |error e1=>rw[<-aP.out.2.2.2];rfl
    |ok y=>exact absurd aP.out.2.2.2.symm h0)
   have t0:((er:Int)==0)=false:=lW;have bV:((er:Int) !=0)=true:=lW;obtain⟨⟨N,O,Q,U⟩,_⟩:=mg (pI (a:=ll ⟨#[]⟩) (b:=ll ⟨#[]⟩) (c:=lu false) (d:=lh none 0 0) au.out.2.2.2.2);have A:=iF (qU (a:=ll ⟨#[]⟩) (b:=ll ⟨#[]⟩) (c:=lu false) (d:=lh none 0 0) au.out.2.2.2.1 (jF g));by_cases C:er=2
   .have E:iW (R=.error 3):=iF (by have:=aj.out;rw[ak.out]at this;rw[this,C];rfl)
    subst C;clear N O Q U t0 bV h0;go_wp2_with fail;rw[qK];obtain⟨⟨N,O,Q,U⟩,_⟩:=mg (pI (a:=ll ⟨#[]⟩) (b:=ll ⟨#[]⟩) (c:=lu false) (d:=lh none 0 0) au.out.2.2.2.2);refine iV (v:=lD #[lC #[ll ⟨#[]⟩,ll ⟨#[]⟩,lu false,lh none 0 0],lg lH 3]) (by simp[jr,Tryz.results64,go_sem,N,O,Q,U]) rfl ?_;rw[<-aN.out,E.out];exact⟨none,0,λ_=>⟨rfl,rfl⟩,rfl,tC _ _,hg.symm▸A.out⟩
   .have E:iW (R=.error er):=iF (by have:=aj.out;rw[ak.out]at this;rw[this];show Except.error (if er=2 then 3 else er)=_;rw[if_neg C])
    have dH:((er:Int)==2)=false:=lW;have dE:iW (er≠2/\er≠0):=iF ⟨C,h0⟩;clear N O Q U C h0;go_wp2_with fail;rw[qK];obtain⟨⟨N,O,Q,U⟩,_⟩:=mg (pI (a:=ll ⟨#[]⟩) (b:=ll ⟨#[]⟩) (c:=lu false) (d:=lh none 0 0) au.out.2.2.2.2);refine iV (v:=lD #[lC #[ll ⟨#[]⟩,ll ⟨#[]⟩,lu false,lh none 0 0],lg lH (er:Nat)]) (by simp[jr,Tryz.results64,go_sem,N,O,Q,U]) rfl ?_;rw[<-aN.out,E.out];exact⟨none,0,λ_=>⟨rfl,rfl⟩,rfl,tC _ _,hg.symm▸A.out⟩
abbrev XJ:jg:=89
abbrev Nq:jg:=28
structure Il(g kc km kt ka ks sb r mb:Nat)(c:mU)(s:ByteArray)(p:Nat)(w0:iH)(m:MS)(W:iH):Prop where
 cf:lN W kc #[lg lH c.fmt,lg lJ c.mag,lg lH c.nK,lg lH c.oF,lg lH c.dep,lg lH c.mX] rC
 mv:lN W km #[lq (some ⟨mb,0,none⟩)] XJ
 tx:lN W kt #[ll s] Ll
 at_:lN W ka #[lg lH p] InT
 sv:lN W ks #[lq (some ⟨sb,0,none⟩)] Nq
 se:W.cell? ⟨sb,0,none⟩=some (lq (some ⟨r,0,none⟩))/\sb<g
 mm:nD W (some (mb,m))
 rs:lN W g VY wX
 up:mH ka mb w0 W
 ne:kc≠mb/\km≠mb/\kt≠mb/\ka≠mb/\ks≠mb/\sb≠mb/\kc≠ka/\km≠ka/\kt≠ka/\ks≠ka/\sb≠ka
 lt:kc<g/\km<g/\kt<g/\ka<g/\ks<g/\mb<g/\w0.heap.size=g
section
variable {g kc km kt ka ks sb r mb:Nat}{c:mU}{s:ByteArray}{p:Nat}{w0:iH}{m m2:MS}{W W':iH}
theorem Il.up1(h:Il g kc km kt ka ks sb r mb c s p w0 m W){lim:Nat}(hg:g<=lim)(hl:lim<W.heap.size)(hb:iK (lim+1) W W'):Il g kc km kt ka ks sb r mb c s p w0 m W':=by
 have l:=h.lt;have e:=h.se;have q:∀{n:Nat}{cs:Array iJ}{t:jg},lN W n cs t->n<=lim->lN W' n cs t:=λhB hn=>Below.blk hb hB lK
 exact⟨q h.cf lK,q h.mv lK,q h.tx lK,q h.at_ lK,q h.sv lK,⟨(hb.cell (p:=⟨sb,0,none⟩) (show sb<lim+1 by omega)).trans e.1,e.2⟩,⟨q h.mm.1 lK,h.mm.2⟩,q h.rs lK,
  ⟨hb.os.trans h.up.os,hb.tape.trans h.up.tape,hb.output.trans h.up.output,je h.up.size hb.size,λk hk A C=>(hb.block k lK).trans (h.up.block k hk A C)⟩,h.ne,h.lt⟩
theorem Il.below(h:Il g kc km kt ka ks sb r mb c s p w0 m W)(hb:iK W.heap.size W W'):Il g kc km kt ka ks sb r mb c s p w0 m W':=
 h.up1 (iI g) h.rs.lt (hb.mono (by have:=h.rs.lt;omega))
theorem Il.drew(h:Il g kc km kt ka ks sb r mb c s p w0 m W):Il g kc km kt ka ks sb r mb c s p w0 m W.drew:=h.below (mf W)
theorem Il.turn(h:Il g kc km kt ka ks sb r mb c s p w0 m W)(hg:W.grownBy W' (some mb))(A:nD W' (some (mb,m2))):Il g kc km kt ka ks sb r mb c s p w0 m2 W':=by
 have l:=h.lt;have n:=h.ne;have e:=h.se;have q:∀{n:Nat}{cs:Array iJ}{t:jg},lN W n cs t->n≠mb->lN W' n cs t:=λhB hn=>mY hB hg λx C e=>hn (by cases C;exact e.symm)
 have hsz:=h.rs.lt;refine⟨q h.cf lK,q h.mv lK,q h.tx lK,q h.at_ lK,q h.sv lK,⟨?_,e.2⟩,A,q h.rs lK,?_,h.ne,h.lt⟩
 .have hb:=hg.block sb lK (by intro e;cases e;omega)
  simp only[kZ,hb];exact e.1
 .exact⟨hg.os.trans h.up.os,hg.tape.trans h.up.tape,hg.output.trans h.up.output,je h.up.size hg.size,λk hk E J=>(hg.block k (jq hk h.up.size) (by intro e;cases e;omega)).trans (h.up.block k hk E J)⟩
end
structure RL(g kc km kt ka ks sb r mb:Nat)(c:mU)(s:ByteArray)(p:Nat)(w0:iH)(m m2:MS)(y:QL)(d5 d10 d11:Bool)(v10:iJ)(W:iH):Prop where
 bs:Il g kc km kt ka ks sb r mb c s p w0 (if d5=true then m2 else m) W
 bk:d10=true->∃b,v10=lq (some ⟨b,0,none⟩)/\g<b/\lN W b (if d11=true then#[lg lI y.id,ll y.name,ll y.body]else#[lg lI 0,ll ⟨#[]⟩,ll ⟨#[]⟩]) pg
section
variable {g kc km kt ka ks sb r mb:Nat}{c:mU}{s:ByteArray}{p:Nat}{w0:iH}{m m2:MS}{y:QL}{d5 d10 d11:Bool}{v10:iJ}{W W':iH}
theorem RL.call(h:RL g kc km kt ka ks sb r mb c s p w0 m m2 y false d10 false v10 W)(hg:W.grownBy W' (some mb))(A:nD W' (some (mb,m2))):RL g kc km kt ka ks sb r mb c s p w0 m m2 y true d10 false v10 W':=by
 refine⟨h.bs.turn hg A,λhd=> ?_⟩;obtain⟨b,e1,e2,e3⟩:=h.bk hd;have l:=h.bs.lt;exact⟨b,e1,e2,mY e3 hg λx C=>by cases C;omega⟩
theorem RL.made(h:RL g kc km kt ka ks sb r mb c s p w0 m m2 y d5 false false v10 W):RL g kc km kt ka ks sb r mb c s p w0 m m2 y d5 true false (lq (some ⟨W.heap.size,0,none⟩)) (W.alloc (lG #[lg lI 0,ll ⟨#[]⟩,ll ⟨#[]⟩] pg)):=
 ⟨h.bs.below ((iL W.heap.size W).alloc (iI _) _),λ_=>⟨_,rfl,h.bs.rs.lt,lN.new W _ _⟩⟩
theorem RL.put{b:Nat}(h:RL g kc km kt ka ks sb r mb c s p w0 m m2 y true true false (lq (some ⟨b,0,none⟩)) W)(A:g<b)(hB:lN W b #[lg lI 0,ll ⟨#[]⟩,ll ⟨#[]⟩] pg):RL g kc km kt ka ks sb r mb c s p w0 m m2 y true true true (lq (some ⟨b,0,none⟩)) (vF W b (lg lI y.id) (ll y.name) (ll y.body)):=by
 have hb:iK (g+1) W (vF W b (lg lI y.id) (ll y.name) (ll y.body)):=
  (((iL (g+1) W).setCell (p:=⟨b,0,none⟩) (by show g+1<=b;omega) _).setCell (p:=⟨b,1,none⟩) (by show g+1<=b;omega) _).setCell (p:=⟨b,2,none⟩) (by show g+1<=b;omega) _
 exact⟨h.bs.up1 (iI g) h.bs.rs.lt hb,λ_=>⟨b,rfl,A,oz hB⟩⟩
end
def Im:List kH:=[⟨some 12,.load 24 (.tmp 0),24,"session.go:63",#[],none⟩,⟨some 13,.load 89 (.tmp 1),89,"session.go:63",#[],none⟩,⟨some 14,.load 9 (.tmp 2),9,"session.go:63",#[],none⟩,⟨some 15,.load 3 (.tmp 3),3,"session.go:63",#[],none⟩,⟨some 16,.slice 9 (.tmp 14) (some (.tmp 15)) none none,9,"session.go:63",#[⟨2,.data⟩,⟨3,.data⟩],none⟩,⟨some 17,.call {callee:=.value (.func 63),args:=#[.tmp 12,.tmp 13,.tmp 16],argTypes:=#[24,89,9]},98,"session.go:63",#[⟨0,.data⟩,⟨1,.data⟩,⟨4,.data⟩],none⟩,⟨some 11,.move (.tmp 17),98,"session.go:63",#[⟨5,.data⟩],none⟩,⟨some 18,.extract (.tmp 11) 0,52,"session.go:63",#[⟨6,.data⟩],none⟩,⟨some 19,.extract (.tmp 11) 1,3,"session.go:63",#[⟨6,.data⟩,⟨11,.gcOnly .lateStores⟩],none⟩,⟨some 20,.extract (.tmp 11) 2,36,"session.go:63",#[⟨6,.data⟩,⟨12,.gcOnly .lateStores⟩],none⟩,⟨some 7,.alloc 52,0,"session.go:63",#[],none⟩,⟨none,.store 52 (.tmp 7) (.tmp 18),0,"session.go:63",#[⟨10,.data⟩,⟨7,.data⟩,⟨5,.chain⟩,⟨0,.phase⟩,⟨1,.phase⟩,⟨2,.phase⟩,⟨3,.phase⟩,⟨4,.phase⟩,⟨5,.phase⟩,⟨6,.phase⟩,⟨7,.phase⟩,⟨8,.textOnly .lateStores⟩,⟨9,.textOnly .lateStores⟩,⟨10,.phase⟩],none⟩,⟨some 8,.assign (.tmp 19),3,"session.go:63",#[⟨8,.data⟩,⟨11,.chain⟩,⟨0,.phase⟩,⟨1,.phase⟩,⟨2,.phase⟩,⟨3,.phase⟩,⟨4,.phase⟩,⟨5,.phase⟩,⟨6,.phase⟩,⟨7,.phase⟩,⟨8,.phase⟩,⟨9,.textOnly .lateStores⟩,⟨10,.phase⟩,⟨11,.phase⟩],none⟩,⟨some 9,.assign (.tmp 20),36,"session.go:63",#[⟨9,.data⟩,⟨12,.chain⟩,⟨0,.phase⟩,⟨1,.phase⟩,⟨2,.phase⟩,⟨3,.phase⟩,⟨4,.phase⟩,⟨5,.phase⟩,⟨6,.phase⟩,⟨7,.phase⟩,⟨8,.phase⟩,⟨9,.phase⟩,⟨10,.phase⟩,⟨11,.phase⟩,⟨12,.phase⟩],none⟩]
section
variable (g kc km kt ka ks sb r mb:Nat)(c:mU)(s:ByteArray)(p:Nat)(w0:iH)(m m2:MS)(y:QL)
def Bz:Nat->iJ
 |0=> lC #[lg lH c.fmt,lg lJ c.mag,lg lH c.nK,lg lH c.oF,lg lH c.dep,lg lH c.mX]
 |1=> lq (some ⟨mb,0,none⟩)
 |2=> ll s
 |3=> lg lH p
 |4=> ll (s.extract p s.size)
 |5=> lD #[lC #[lg lI y.id,ll y.name,ll y.body],lg lH y.n,lg lH y.e]
 |6=> lD #[lC #[lg lI y.id,ll y.name,ll y.body],lg lH y.n,lg lH y.e]
 |7=> lC #[lg lI y.id,ll y.name,ll y.body]
 |8=> lg lH y.n
 |9=> lg lH y.e
 |12=> lg lH y.n
 |13=> lg lH y.e
 |_=>jo
structure a3l(D:Nat->Bool)(vs:Nat->iJ)(w:iH):Prop where
 mh:RL g kc km kt ka ks sb r mb c s p w0 m m2 y (D 5) (D 10) (D 11) (vs 10) w
 val:∀j,(j !=10)=true->D j=true->vs j=Bz mb c s p y j
variable {g kc km kt ka ks sb r mb c s p w0 m m2 y}
theorem ZN{id:Nat}{Q:Exit->Act->iH->Prop}{Y:iH}(ht0:a0.tmps.getD 0 jo=lq (some ⟨kc,0,none⟩))(ht1:a0.tmps.getD 1 jo=lq (some ⟨km,0,none⟩))(ht2:a0.tmps.getD 2 jo=lq (some ⟨kt,0,none⟩))(ht3:a0.tmps.getD 3 jo=lq (some ⟨ka,0,none⟩))(hp:p<=s.size/\s.size<=100000)(hnext:∀W,nD W (some (mb,m))->iU iG 63 #[lC #[lg lH c.fmt,lg lJ c.mag,lg lH c.nK,lg lH c.oF,lg lH c.dep,lg lH c.mX],lq (some ⟨mb,0,none⟩),ll (s.extract p s.size)] W λe Z=>W.grownBy Z (some mb)/\nD Z (some (mb,m2))/\e=lF y.v)(hsz:a0.tmps.size=41)(hI0:∀vs:Nat->iJ,(λw=>RL g kc km kt ka ks sb r mb c s p w0 m m2 y false false false (vs 10) w) Y.drew)(aa:∀(vs:Nat->iJ) (w:iH),RL g kc km kt ka ks sb r mb c s p w0 m m2 y true true true (vs 10) w->Q .normal {a0 with tmps:=(((((((((((((a0.tmps.setIfInBounds 12 (lC #[lg lH c.fmt,lg lJ c.mag,lg lH c.nK,lg lH c.oF,lg lH c.dep,lg lH c.mX])).setIfInBounds 13 (lq (some ⟨mb,0,none⟩))).setIfInBounds 14 (ll s)).setIfInBounds 15 (lg lH p)).setIfInBounds 16 (ll (s.extract p s.size))).setIfInBounds 17 (lD #[lC #[lg lI y.id,ll y.name,ll y.body],lg lH y.n,lg lH y.e])).setIfInBounds 11 (lD #[lC #[lg lI y.id,ll y.name,ll y.body],lg lH y.n,lg lH y.e])).setIfInBounds 18 (lC #[lg lI y.id,ll y.name,ll y.body])).setIfInBounds 19 (lg lH y.n)).setIfInBounds 20 (lg lH y.e)).setIfInBounds 7 (vs 10)).setIfInBounds 8 (lg lH y.n)).setIfInBounds 9 (lg lH y.e))} w):
  (jJ id Im.toArray true).wp iG Q a0 Y:=by
 refine l6 14 41 (a3l g kc km kt ka ks sb r mb c s p w0 m m2 y) lQ hsz lQ (.inl rfl) lQ ?_ ?_ ?_;.exact oo
 .refine pO λA av=> ?_
  clear hI0 aa hsz;replace ht0:=iF ht0;replace ht1:=iF ht1;replace ht2:=iF ht2;replace ht3:=iF ht3;replace hp:=iF hp;replace hnext:=iF hnext;unfold Im;simp only[ji,jC,o6];refine⟨?_,?_,?_,?_,?_,?_,?_,?_,?_,?_,?_,?_,?_,?_,trivial⟩<;>(intro D vs a w K hI hd E hw2 C N;subst av;unfold Im);have aF:=(C 0 lM).trans ht0.out;have hB:=hI.mh.bs.cf;obtain⟨c0,c1,c2,c3,c4,c5⟩:=hB.a6;clear hB;rotate_left;have e1:=(C 1 lM).trans ht1.out;have hB:=hI.mh.bs.mv;have c0:=hB.c0;clear hB;rotate_left;have e2:=(C 2 lM).trans ht2.out;have hB:=hI.mh.bs.tx;have c0:=hB.c0;clear hB;rotate_left;have e3:=(C 3 lM).trans ht3.out;have hB:=hI.mh.bs.at_;have c0:=hB.c0;clear hB;rotate_left;have hp:=hp.out;have ae:=fe C hI.val E 14 2;have af:=fe C hI.val E 15 3;simp only[Bz]at ae af;obtain⟨az,aA⟩:=hp;rotate_left
  .have hnext:=hnext.out
   have ag:=fe C hI.val E 12 0;have ah:=fe C hI.val E 13 1;have ai:=fe C hI.val E 16 4;simp only[Bz]at ag ah ai;have J:=hI.mh;rw[hd,hw2 11 lM lQ]at J;have ax:=hnext w J.bs.mm;clear hnext;rw[if_pos (by rfl)];go_simp;refine ax.mono ?_;rintro e aG ⟨hg,ay,rfl⟩;refine N (Bz mb c s p y 5) _ _ rfl ⟨?_,ry hI.val⟩;rw[l7,lT D (show 10≠5 by decide),lT D (show 11≠5 by decide),l8 vs _ (show 10≠5 by decide),hw2 11 lM lQ];exact J.call hg ay
  have aB:=fe C hI.val E 17 5;rotate_left;have U:=fe C hI.val E 11 6;rotate_left;have U:=fe C hI.val E 11 6;rotate_left;have U:=fe C hI.val E 11 6;rotate_left
  .have J:=hI.mh
   rw[hd,hw2 11 lM lQ]at J;go_simp;refine N (lq (some ⟨w.heap.size,0,none⟩)) _ _ rfl ⟨?_,Ko rfl hI.val⟩;rw[l7,lT D (show 5≠10 by decide),lT D (show 11≠10 by decide),nI,hw2 11 lM lQ];exact J.made
  .have d10:=E 10 lM lQ
   have aj:a.tmps.getD 7 jo=vs 10:=C 7 lM;have ak:=fe C hI.val E 18 7;simp only[Bz]at ak;have J:=hI.mh;rw[hd,E 5 lM lQ,d10]at J;obtain⟨b,V,au,hB⟩:=J.bk rfl;rw[if_neg lM]at hB;rw[V]at J;have aj:=aj.trans V;obtain⟨z0,aH,aI,aJ,f1,f2⟩:=FV hB;go_simp;rw[oQ];refine N jo _ _ rfl ⟨?_,ry hI.val⟩;rw[l7,lT D (show 5≠11 by decide),lT D (show 10≠11 by decide),l8 vs _ (show 10≠11 by decide),E 5 lM lQ,d10,V];exact J.put au hB
  have aC:=fe C hI.val E 19 8;rotate_left;have aD:=fe C hI.val E 20 9;rotate_left
  all_goals
   try simp only[Bz]at*
   go_simp;exact N _ _ _ rfl ⟨hI.mh,ry hI.val⟩
 .intro D vs w O hI
  have E:=hI.mh;rw[O 5 lM]at E;rw[O 10 lM]at E;rw[O 11 lM]at E;have q:=aa vs w E;rw[mQ hI.val O];unfold Im;exact om
end
def VZ(g kc km kt ka ks sb r mb:Nat)(c:mU)(s:ByteArray)(p:Nat)(w0:iH)(m:MS)(fb:Nat)(f:uN)(W:iH):Prop:=Il g kc km kt ka ks sb r mb c s p w0 m W/\lN W fb #[lg lI f.id,ll f.name,ll f.body] pg
theorem VZ.up1{g kc km kt ka ks sb r mb:Nat}{c:mU}{s:ByteArray}{p:Nat}{w0:iH}{m:MS}{fb:Nat}{f:uN}{W A:iH}(hg:g<fb)(h:VZ g kc km kt ka ks sb r mb c s p w0 m fb f W)(hl:fb<W.heap.size)(hb:iK (fb+1) W A):VZ g kc km kt ka ks sb r mb c s p w0 m fb f A:=
 ⟨h.1.up1 (Nat.le_of_lt hg) hl hb,Below.blk hb h.2 lK⟩
def Io:List kH:=[⟨some 26,.load 28 (.tmp 4),28,"session.go:67",#[],none⟩,⟨some 27,.nilCheck (.tmp 26),0,"session.go:67",#[⟨0,.data⟩],none⟩,⟨some 28,.fieldAddr 88 (.tmp 27) 0,0,"session.go:67",#[⟨1,.data⟩],none⟩,⟨some 29,.load 85 (.tmp 28),85,"session.go:67",#[⟨2,.data⟩],none⟩,⟨some 30,.load 52 (.tmp 7),52,"session.go:67",#[],none⟩,⟨some 31,.call {callee:=.value (.func 64),args:=#[.tmp 29,.tmp 30],argTypes:=#[85,52]},83,"session.go:67",#[⟨3,.data⟩,⟨4,.data⟩],none⟩,⟨some 25,.move (.tmp 31),83,"session.go:67",#[⟨5,.data⟩],none⟩,⟨some 32,.extract (.tmp 25) 0,49,"session.go:67",#[⟨6,.data⟩],none⟩,⟨some 33,.extract (.tmp 25) 1,36,"session.go:67",#[⟨6,.data⟩,⟨10,.gcOnly .lateStores⟩],none⟩,⟨some 10,.alloc 49,0,"session.go:67",#[],none⟩,⟨none,.store 49 (.tmp 10) (.tmp 32),0,"session.go:67",#[⟨9,.data⟩,⟨7,.data⟩,⟨5,.chain⟩,⟨0,.phase⟩,⟨1,.phase⟩,⟨2,.phase⟩,⟨3,.phase⟩,⟨4,.phase⟩,⟨5,.phase⟩,⟨6,.phase⟩,⟨7,.phase⟩,⟨8,.textOnly .lateStores⟩,⟨9,.phase⟩],none⟩,⟨some 9,.assign (.tmp 33),36,"session.go:67",#[⟨8,.data⟩,⟨10,.chain⟩,⟨0,.phase⟩,⟨1,.phase⟩,⟨2,.phase⟩,⟨3,.phase⟩,⟨4,.phase⟩,⟨5,.phase⟩,⟨6,.phase⟩,⟨7,.phase⟩,⟨8,.phase⟩,⟨9,.phase⟩,⟨10,.phase⟩],none⟩]
section
variable (g kc km kt ka ks sb r mb:Nat)(c:mU)(s:ByteArray)(p:Nat)(w0:iH)(m:MS)(fb:Nat)(f:uN)(nm T:ByteArray)(li:Bool)(S:List (lL IL))(er:Nat)(Ps:Option kr->Nat->Prop)
def Ez:Nat->iJ
 |0=> lq (some ⟨sb,0,none⟩)
 |1=> lq (some ⟨sb,0,none⟩)
 |2=> lq (some ⟨sb,0,none⟩)
 |3=> lq (some ⟨r,0,none⟩)
 |4=> lC #[lg lI f.id,ll f.name,ll f.body]
 |8=> lg lH (er)
 |11=> lg lH (er)
 |_=>jo
structure a3m(D:Nat->Bool)(vs:Nat->iJ)(w:iH):Prop where
 mh:yN (VZ g kc km kt ka ks sb r mb c s p w0 m fb f) (fb) (λov cv=>#[ll nm,ll T,lu li,lh ov S.length cv]) (er) (VY) wX (Ps) (S) (D 5) (D 6) (D 7) (D 9) (D 10) (vs 5) (vs 6) (vs 7) (vs 9) w
 val:∀j,(j !=5&&j !=6&&j !=7&&j !=9)=true->D j=true->vs j=Ez sb r f er j
variable {g kc km kt ka ks sb r mb c s p w0 m fb f nm T li S er Ps}
theorem ZO{id:Nat}{Q:Exit->Act->iH->Prop}{ag:iH}(Cu:a0.tmps.getD 4 jo=lq (some ⟨ks,0,none⟩))(Ch:a0.tmps.getD 7 jo=lq (some ⟨fb,0,none⟩))(hdec:∀W,VZ g kc km kt ka ks sb r mb c s p w0 m fb f W->iU iG 64 #[lq (some ⟨r,0,none⟩),lC #[lg lI f.id,ll f.name,ll f.body]] W λe Y=>∃ov cv,Ps ov cv/\e=lF (lD #[lC #[ll nm,ll T,lu li,lh ov S.length cv],lg lH er])/\lX Y (λc=>W.heap.size<=c) (lh ov S.length cv) S/\iK W.heap.size W Y)(oL:∀W Y,(VZ g kc km kt ka ks sb r mb c s p w0 m fb f) W->fb<W.heap.size->iK (fb+1) W Y->(VZ g kc km kt ka ks sb r mb c s p w0 m fb f) Y)(hsz:a0.tmps.size=41)(hI0:∀vs:Nat->iJ,(λw=>yN (VZ g kc km kt ka ks sb r mb c s p w0 m fb f) (fb) (λov cv=>#[ll nm,ll T,lu li,lh ov S.length cv]) (er) (VY) wX (Ps) (S) false false false false false (vs 5) (vs 6) (vs 7) (vs 9) w) ag.drew)(ah:∀(vs:Nat->iJ) (w:iH),yN (VZ g kc km kt ka ks sb r mb c s p w0 m fb f) (fb) (λov cv=>#[ll nm,ll T,lu li,lh ov S.length cv]) (er) (VY) wX (Ps) (S) true true true true true (vs 5) (vs 6) (vs 7) (vs 9) w->Q .normal {a0 with tmps:=(((((((((((a0.tmps.setIfInBounds 26 (lq (some ⟨sb,0,none⟩))).setIfInBounds 27 (lq (some ⟨sb,0,none⟩))).setIfInBounds 28 (lq (some ⟨sb,0,none⟩))).setIfInBounds 29 (lq (some ⟨r,0,none⟩))).setIfInBounds 30 (lC #[lg lI f.id,ll f.name,ll f.body])).setIfInBounds 31 (vs 5)).setIfInBounds 25 (vs 6)).setIfInBounds 32 (vs 7)).setIfInBounds 33 (lg lH (er))).setIfInBounds 10 (vs 9)).setIfInBounds 9 (lg lH (er)))} w):
  (jJ id Io.toArray true).wp iG Q a0 ag:=by
 refine l6 12 41 (a3m g kc km kt ka ks sb r mb c s p w0 m fb f nm T li S er Ps) lQ hsz lQ (.inl rfl) lQ ?_ ?_ ?_;.exact oo
 .refine pO λA ax=> ?_
  clear hI0 ah hsz;replace Cu:=iF Cu;replace Ch:=iF Ch;replace hdec:=iF hdec;replace oL:=iF oL;unfold Io;simp only[ji,jC,o6];refine⟨?_,?_,?_,?_,?_,?_,?_,?_,?_,?_,?_,?_,trivial⟩<;>(intro D vs a w K hI hd C hw2 E U;subst ax;unfold Io);have e4:=(E 4 lM).trans Cu.out;have hB:=hI.mh.bs.1.sv;have c0:=hB.c0;clear hB;rotate_left;have aG:=fe E hI.val C 26 0;rotate_left;have aH:=fe E hI.val C 27 1;rotate_left;have ai:=fe E hI.val C 28 2;simp only[Ez]at ai;have c0:=hI.mh.bs.1.se.1;rotate_left;have aK:=(E 7 lM).trans Ch.out;have hB:=hI.mh.bs.2;obtain⟨c0,c1,c2⟩:=hB.a3;clear hB;rotate_left
  .have hdec:=hdec.out
   have oL:=oL.out;have aj:=fe E hI.val C 29 3;have ak:=fe E hI.val C 30 4;simp only[Ez]at aj ak;have aa:D 7=false:=by cases h:D 7 with|false=>rfl|true=>exact absurd (hI.mh.dm h) (by rw[hw2 6 lM lQ];decide)
   have J:=hI.mh;rw[hd,hw2 6 lM lQ,aa,hw2 10 lM lQ]at J;have ay:=hdec w J.bs;clear hdec;rw[if_pos (by rfl)];go_simp;refine ay.mono ?_;rintro e aL ⟨ov,cv,hp,rfl,hs,hb⟩;refine U _ _ _ rfl ⟨?_,Ko rfl hI.val⟩;rw[l7,lT D (show 6≠5 by decide),lT D (show 7≠5 by decide),lT D (show 9≠5 by decide),lT D (show 10≠5 by decide),nI,l8 vs _ (show 6≠5 by decide),l8 vs _ (show 7≠5 by decide),l8 vs _ (show 9≠5 by decide)];rw[hw2 6 lM lQ,aa,hw2 10 lM lQ];exact J.call oL hb hp hs
  .have d5:=C 5 lM lQ
   have aI:a.tmps.getD 31 jo=vs 5:=E 31 lM;have J:=hI.mh;rw[hd,d5,hw2 7 lM lQ,hw2 10 lM lQ]at J;go_simp;refine U _ _ _ rfl ⟨?_,Ko rfl hI.val⟩;rw[l7,lT D (show 5≠6 by decide),lT D (show 7≠6 by decide),lT D (show 9≠6 by decide),lT D (show 10≠6 by decide),nI,l8 vs _ (show 5≠6 by decide),l8 vs _ (show 7≠6 by decide),l8 vs _ (show 9≠6 by decide)];rw[d5,hw2 7 lM lQ,hw2 10 lM lQ];exact J.mv
  .have d6:=C 6 lM lQ
   have O:a.tmps.getD 25 jo=vs 6:=E 25 lM;have J:=hI.mh;have N:D 5=true:=hI.mh.done (by rw[d6]);rw[hd,N,d6,hw2 10 lM lQ]at J;obtain⟨ov,cv,ev,Z⟩:=J.ext;try dsimp only at ev Z
   have O:=O.trans ev;go_simp;refine U _ _ _ rfl ⟨?_,Ko rfl hI.val⟩;rw[l7,lT D (show 5≠7 by decide),lT D (show 6≠7 by decide),lT D (show 9≠7 by decide),lT D (show 10≠7 by decide),nI,l8 vs _ (show 5≠7 by decide),l8 vs _ (show 6≠7 by decide),l8 vs _ (show 9≠7 by decide)];rw[N,d6,hw2 10 lM lQ];exact Z
  .have d6:=C 6 lM lQ
   have O:a.tmps.getD 25 jo=vs 6:=E 25 lM;have N:D 5=true:=hI.mh.done (by rw[d6]);have J:=hI.mh;rw[N,d6]at J;obtain⟨ov,cv,ev⟩:=J.tup;try dsimp only at ev
   have O:=O.trans ev;go_simp;exact U (Ez sb r f er 8) _ _ rfl ⟨hI.mh,ry hI.val⟩
  .have oL:=oL.out
   have J:=hI.mh;rw[hd,hw2 10 lM lQ]at J;go_simp;refine U (lq (some ⟨w.heap.size,0,none⟩)) _ _ rfl ⟨?_,Ko rfl hI.val⟩;rw[l7,lT D (show 5≠9 by decide),lT D (show 6≠9 by decide),lT D (show 7≠9 by decide),lT D (show 10≠9 by decide),nI,l8 vs _ (show 5≠9 by decide),l8 vs _ (show 6≠9 by decide),l8 vs _ (show 7≠9 by decide)];rw[hw2 10 lM lQ];exact J.made oL
  .have oL:=oL.out
   have d9:=C 9 lM lQ;have ae:a.tmps.getD 10 jo=vs 9:=E 10 lM;have au:=C 7 lM lQ;have af:a.tmps.getD 32 jo=vs 7:=E 32 lM;have N:D 5=true:=hI.mh.done (C 6 lM lQ);have J:=hI.mh;rw[hd,N,C 6 lM lQ,au,d9]at J;obtain⟨ov,cv,b,av,az,hB,Z⟩:=J.st oL;try dsimp only at av Z
   have af:=af.trans av;have ae:=ae.trans az;obtain⟨⟨z0,aM,aN,z3⟩,aO,f1,f2,f3⟩:=mg hB;go_simp;rw[qK];refine U jo _ _ rfl ⟨?_,ry hI.val⟩;rw[l7,lT D (show 5≠10 by decide),lT D (show 6≠10 by decide),lT D (show 7≠10 by decide),lT D (show 9≠10 by decide),l8 vs _ (show 5≠10 by decide),l8 vs _ (show 6≠10 by decide),l8 vs _ (show 7≠10 by decide),l8 vs _ (show 9≠10 by decide)];rw[N,C 6 lM lQ,au,d9];obtain⟨aA,aB,aC,aD,aF⟩:=wB _ _ _ _ _ _;exact Z _ aA aB aC aD aF (pI hB)
  have aJ:=fe E hI.val C 33 8;rotate_left
  all_goals
   try simp only[Ez]at*
   go_simp;exact U _ _ _ rfl ⟨hI.mh,ry hI.val⟩
 .intro D vs w V hI
  have C:=hI.mh;rw[V 5 lM]at C;rw[V 6 lM]at C;rw[V 7 lM]at C;rw[V 9 lM]at C;rw[V 10 lM]at C;have q:=ah vs w C;rw[mQ hI.val V];unfold Io;exact om
end
theorem Q7{s t:ByteArray}(h:zL s=some t):t.size<=s.size:=by
 unfold zL at h;split at h
 .cases h
  have A:=BQ s.data.toList;have C:s.data.toList.length=s.size:=lU;have E:(⟨(jL s.data.toList 0).toArray⟩:ByteArray).size=(jL s.data.toList 0).length:=kV;omega
 .cases h
def a1q(A:Except Nat Cb)(n:Nat)(M:Option (Nat×MS)):Except Nat (Cb×Nat)×Option (Nat×MS):=match A with
 | .error er=>(.error er,M)
 | .ok m=>(.ok (m,n),M)
def Yy(c:mU)(rows:List Row)(A:Except Nat (uN×Nat)×Option (Nat×MS)):Except Nat (Cb×Nat)×Option (Nat×MS):=match A with
 |(.error er,m2)=>(.error er,m2)
 |(.ok y,m2)=>a1q (Ef c rows y.1) y.2 m2
theorem XK(c:mU)(rows:List Row)(s:ByteArray)(mt:Option (Nat×MS)):qG c rows s mt=Yy c rows (pK c s mt):=rfl
theorem UJ{c:mU}{s:ByteArray}{mt:Option (Nat×MS)}{y:uN×Nat}(h:(pK c s mt).1=.ok y):y.1.name.size<=jb/\y.1.id<18446744073709551616:=by
 have hp:∀{most:Int},(mZ most s).e=0->(mZ most s).id<18446744073709551616:=by
  intro most h;unfold mZ at*;split
  .rename_i h0
   rw[if_pos h0]at h;split;.show(0:Nat)<_;decide
   .rename_i C
    rw[if_neg C]at h;dsimp only at*;split
    .rename_i A
     dsimp only;generalize E:ma _ 0 0=q at*;obtain⟨a,b,e⟩:=q;dsimp only at A⊢;subst A;exact(qQ E).2.1
    .show(0:Nat)<_;decide
  .show(0:Nat)<_;decide
 unfold pK at h;split at h
 .dsimp only at h
  unfold rW at h;split at h
  .cases h
   refine⟨?_,by show(0:Nat)<_;decide⟩;show(uS s).size<=jb;unfold uS;cases hg:zL (s.extract 4 16)with
   |none=>decide
   |some t=>
    have:=Q7 hg;simp only[ja]at this;show t.size<=jb;unfold jb;omega
  .cases h
 .split at h
  .dsimp only at h
   unfold uB at h;split at h;.cases h
   .rename_i h0
    cases h;exact⟨jy _,hp (by simpa using h0)⟩
  .unfold rM at h
   split at h;.cases h
   .rename_i h0
    split at h;.cases h
    .cases h
     exact⟨jy _,hp (by simpa using h0)⟩
theorem ow.lt3{r bn bi:Nat}{c:mU}{L:List mW}{w:iH}(h:ow r bn bi c L w):r<w.heap.size/\bn<w.heap.size/\bi<w.heap.size:=⟨h.rg.lt,h.nm.lt,h.id.lt⟩
theorem Ip{g kc km kt ka ks sb r mb:Nat}{c:mU}{s:ByteArray}{p:Nat}{w0:iH}{m:MS}{W:iH}{a b e d:iJ}(h:Il g kc km kt ka ks sb r mb c s p w0 m W):
  nD (wu W g a b e d) (some (mb,m))/\lN (wu W g a b e d) ka #[lg lH p] InT/\mH ka mb w0 (wu W g a b e d)/\∀(v:iJ)(S:List (lL IL)),(lX W (λc=>g<c) v S)->lX (wu W g a b e d) (λc=>w0.heap.size<=c) v S:=by
 obtain⟨A,C,E,J,N⟩:=wB W g a b e d;have l:=h.lt;have q:∀{n:Nat}{cs:Array iJ}{t:jg},lN W n cs t->n≠g->lN (wu W g a b e d) n cs t:=λhB hn=>by unfold lN at*;rw[A _ hn];exact hB
 refine⟨⟨q h.mm.1 lK,h.mm.2⟩,q h.at_ lK,⟨E.trans h.up.os,J.trans h.up.tape,N.trans h.up.output,by rw[C];exact h.up.size,λk hk O Q=>(A k lK).trans (h.up.block k hk O Q)⟩,λv S hs=> ?_⟩;exact Shape.lY.keep hs (kX C.symm) (λc _ hc=>by show w0.heap.size<=c;have:g<c:=hc;omega) λc _ hc=>A c (by have:g<c:=hc;omega)
structure NxE(kc km kt ka ks sb r mb:Nat)(c:mU)(s:ByteArray)(p:Nat)(m:MS)(W:iH):Prop where
 cf:lN W kc #[lg lH c.fmt,lg lJ c.mag,lg lH c.nK,lg lH c.oF,lg lH c.dep,lg lH c.mX] rC
 mv:lN W km #[lq (some ⟨mb,0,none⟩)] XJ
 tx:lN W kt #[ll s] Ll
 at_:lN W ka #[lg lH p] InT
 sv:lN W ks #[lq (some ⟨sb,0,none⟩)] Nq
 se:W.cell? ⟨sb,0,none⟩=some (lq (some ⟨r,0,none⟩))/\sb<W.heap.size
 mm:nD W (some (mb,m))
 ne:kc≠mb/\km≠mb/\kt≠mb/\ka≠mb/\ks≠mb/\sb≠mb/\kc≠ka/\km≠ka/\kt≠ka/\ks≠ka/\sb≠ka
def pU(R:Except Nat (Cb×Nat)):Except Nat Cb:=match R with| .error er=> .error er| .ok y=> .ok y.1
def goR(p:Nat)(R:Except Nat (Cb×Nat)):Nat:=match R with| .error _=>p| .ok y=>p+y.2
def EA(ka mb p:Nat)(R:Except Nat (Cb×Nat)×Option (Nat×MS))(w:iH)(e:Ending)(w':iH):Prop:=
 ∃ov cv,((∃er,pU R.1=.error er)->ov=none/\cv=0)/\e=lF (lD #[lC #[ll (mN (pU R.1)),ll (mT (pU R.1)),lu (mL (pU R.1)),lh ov (mS (pU R.1)).length cv],lg lH (mE (pU R.1):Nat)])/\
  lX w' (λc=>w.heap.size<=c) (lh ov (mS (pU R.1)).length cv) (mS (pU R.1))/\nD w' R.2/\lN w' ka #[lg lH (goR p R.1)] InT/\mH ka mb w w'
theorem Il.atp{g kc km kt ka ks sb r mb:Nat}{c:mU}{s:ByteArray}{p:Nat}{w0:iH}{m:MS}{W:iH}(h:Il g kc km kt ka ks sb r mb c s p w0 m W)(q:Nat):Il g kc km kt ka ks sb r mb c s q w0 m (W.setCell ⟨ka,0,none⟩ (lg lH q)):=by
 have l:=h.lt;have n:=h.ne;have e:=h.se;have o:∀{b:Nat}{cs:Array iJ}{t:jg},lN W b cs t->b≠ka->lN (W.setCell ⟨ka,0,none⟩ (lg lH q)) b cs t:=λhB hn=>hB.setOther (a:=⟨ka,0,none⟩) hn _
 refine⟨o h.cf lK,o h.mv lK,o h.tx lK,h.at_.set 0 _,o h.sv lK,⟨?_,e.2⟩,⟨o h.mm.1 lK,h.mm.2⟩,o h.rs lK,h.up.y7 0 _,h.ne,h.lt⟩;have hb:=iX W ⟨ka,0,none⟩ (lg lH q) sb (by show sb≠ka;omega);simp only[kZ,hb];exact e.1
theorem UK(kc km kt ka ks sb r mb bn bi:Nat)(c:mU)(L:List mW)(s:ByteArray)(p:Nat)(m:MS)(w:iH)(h:NxE kc km kt ka ks sb r mb c s p m w)(hc:mK c=true)(ah:c.wf)(hp:p<=s.size/\s.size<=100000)(ai:∀W,mH ka mb w W->ow r bn bi c L W/\oG W/\yK W):
  iU iG 62 #[lq (some ⟨kc,0,none⟩),lq (some ⟨km,0,none⟩),lq (some ⟨kt,0,none⟩),lq (some ⟨ka,0,none⟩),lq (some ⟨ks,0,none⟩)] w (EA ka mb p (qG c (L.map λx=>x.r) (s.extract p s.size) (some (mb,m))) w):=by
 obtain⟨g,hg⟩:=lV w.heap.size;have aj:(s.extract p s.size).size<=100000:=by simp only[ja];omega
 have bu:(s.extract p s.size).size<=jb:=je aj lM;have hrow:=xB c (s.extract p s.size) (some (mb,m));obtain⟨ae,O⟩:=lV (pK c (s.extract p s.size) (some (mb,m)));have hok:∀y,ae.1=.ok y->0<y.2/\y.2<=(s.extract p s.size).size/\y.1.body.size<=100000/\y.1.name.size<=jb/\y.1.id<18446744073709551616:=λy Y=>by
  rw[<-O]at Y;have V:=Eg hc aj Y;have aX:=UJ Y;exact⟨V.1,V.2.1,V.2.2,aX.1,aX.2⟩
 have bz:∀er,ae.1=.error er->1<=er:=λer he=>Bh c (s.extract p s.size) (some (mb,m)) er (O▸he)
 have bA:∀W,nD W (some (mb,m))->iU iG 63 #[lC #[lg lH c.fmt,lg lJ c.mag,lg lH c.nK,lg lH c.oF,lg lH c.dep,lg lH c.mX],lq (some ⟨mb,0,none⟩),ll (s.extract p s.size)] W λe w'=>W.grownBy w' (some mb)/\nD w' ae.2/\e=lF (VV ae.1).v:=λW dD=>by
  have:=QM c (s.extract p s.size) (some (mb,m)) W bu hc ah dD;rw[O]at this;exact this
 have ak:qG c (L.map λx=>x.r) (s.extract p s.size) (some (mb,m))=Yy c (L.map λx=>x.r) ae:=by rw[XK,O]
 rw[O]at hrow;obtain⟨cz,cB⟩:=ae;obtain⟨m2,rfl⟩:∃m2,cB=some (mb,m2):=by
  cases cB with
  |none=>cases hrow
  |some q=>obtain⟨aY,au⟩:=q;cases hrow;exact⟨au,rfl⟩
 dsimp only at*;have bB:iW (∀W,w.alloc (lG #[ll ⟨#[]⟩,ll ⟨#[]⟩,lu false,lh none 0 0] wX)=W->Il g kc km kt ka ks sb r mb c s p w m W):=iF λW bL=>by
  subst bL;have a:=(iL w.heap.size w).alloc (iI _) (lG VY wX);have q:∀{n:Nat}{cs:Array iJ}{t:jg},lN w n cs t->lN (w.alloc (lG VY wX)) n cs t:=λhB=>Below.blk a hB hB.lt
  have lt:∀{n:Nat}{cs:Array iJ}{t:jg},lN w n cs t->n<g:=λhB=>hg▸hB.lt
  exact⟨q h.cf,q h.mv,q h.tx,q h.at_,q h.sv,⟨(a.cell (p:=⟨sb,0,none⟩) h.se.2).trans h.se.1,hg▸h.se.2⟩,⟨q h.mm.1,h.mm.2⟩,hg▸lN.new w _ _,mH.of a,h.ne,⟨lt h.cf,lt h.mv,lt h.tx,lt h.at_,lt h.sv,lt h.mm.1,hg⟩⟩
 have av:=iF ai;have bM:=iF (iQ hc ah);have bN:=iF bA;have ax:=iF hok;have ay:=iF bz;obtain⟨bO,bC⟩:=lV (qG c (L.map λx=>x.r) (s.extract p s.size) (some (mb,m)));rw[bC]at ak⊢;have Z:=iF ak;obtain⟨dE,bP⟩:=lV (EA ka mb p bO w);have bQ:=iF bP;rw[bP];clear h hc ah ai aj bu hrow O hok bz bA ak bC bP;obtain⟨y,Y⟩:=lV (VV cz);rw[Y]at bN;have aZ:=iF Y;clear Y;go_in;go_upto_region 1 with fail;have bD:=bB.out _ rfl;generalize w.alloc _=w1 at*;have bE:=iF bD;clear bB bD;refine ZN (g:=g) (kc:=kc) (km:=km) (kt:=kt) (ka:=ka) (ks:=ks) (sb:=sb) (r:=r) (mb:=mb) (c:=c) (s:=s) (p:=p) (w0:=w) (m:=m) (m2:=m2) (y:=y) (ht0:=by rfl) (ht1:=by rfl) (ht2:=by rfl) (ht3:=by rfl) (hsz:=by rfl) (hp:=hp) (hnext:=bN.out) (hI0:=λ_=>⟨bE.out.drew,(λh=>by cases h)⟩) ?_;intro vs W hF;obtain⟨fb,bF,cK,hB⟩:=hF.bk rfl;have az:=hF.bs;simp only[if_true]at hB az;rw[bF];have aA:=iF az;have bg:=iF hB;simp only[iN,iR,iT];clear hF hB az bF bE bN;cases cz with
 |error er=>
  obtain rfl:y=⟨0,⟨#[]⟩,⟨#[]⟩,0,er⟩:=aZ.out.symm;have cO:=ay.out er rfl;have t0:((er:Int) !=0)=true:=lW;have bq:iW (bO=(.error er,some (mb,m2))):=Z;obtain⟨⟨bR,bS,bT,bU⟩,bV,aY,au,bW⟩:=mg aA.out.rs;dsimp only;clear Z ax ay aZ cO;go_wp2_with fail;rw[qK];obtain⟨⟨aB,aC,aD,aF⟩,_⟩:=mg (pI (a:=ll ⟨#[]⟩) (b:=ll ⟨#[]⟩) (c:=lu false) (d:=lh none 0 0) aA.out.rs);have A:=Ip (a:=ll ⟨#[]⟩) (b:=ll ⟨#[]⟩) (e:=lu false) (d:=lh none 0 0) aA.out;refine iV (v:=lD #[lC #[ll ⟨#[]⟩,ll ⟨#[]⟩,lu false,lh none 0 0],lg lH (er:Nat)]) (by simp[jr,Tryz.results62,go_sem,aB,aC,aD,aF]) rfl ?_;rw[<-bQ.out,bq.out];exact⟨none,0,λ_=>⟨rfl,rfl⟩,rfl,tC _ _,A.1,A.2.1,A.2.2.1⟩
 |ok z=>
  obtain⟨⟨af,fn,Q⟩,n⟩:=z;obtain rfl:y=⟨af,fn,Q,n,0⟩:=aZ.out.symm;obtain⟨aG,aH,aI,J,hid⟩:=ax.out _ rfl;dsimp only at aG aH aI J hid⊢;have bG:p+n<=s.size:=by simp only[ja]at aH;omega
  obtain⟨C,aa⟩:∃C,Ef c (L.map λx=>x.r) ⟨af,fn,Q⟩=C:=⟨_,rfl⟩;have bq:iW (bO=a1q C n (some (mb,m2))):=iF (by rw[<-aa];exact Z.out);have aJ:∀er,C=.error er->er≠0:=λer he=>by
   rw[<-aa]at he;unfold Ef at he;split at he;.cases he;decide
   .split at he
    .rename_i e1 V
     have:=Ey V;cases he;split<;>omega
    .cases he
  have bX:=iF aJ;have hdec:∀W,VZ g kc km kt ka ks sb r mb c s p w m2 fb ⟨af,fn,Q⟩ W->iU iG 64 #[lq (some ⟨r,0,none⟩),lC #[lg lI af,ll fn,ll Q]] W (XI C W):=λW bL=>by
   obtain⟨V,aX,dF⟩:=av.out W bL.1.up;have hb:=V.lt3;rw[<-aa];exact Np r bn bi c L ⟨af,fn,Q⟩ W V bM.out.1 bM.out.2 aX dF J hid aI hb
  have U:=iF hdec;clear hdec aJ aa Z ax ay aZ aI J hid aH bM av;obtain⟨nm,J⟩:=lV (mN C);obtain⟨T,aK⟩:=lV (mT C);obtain⟨li,aL⟩:=lV (mL C);obtain⟨S,bY⟩:=lV (mS C);obtain⟨er,aM⟩:=lV (mE C);unfold XI at U;rw[J,aK,aL,bY,aM]at U;have aN:=iF (iQ J (iQ aK (iQ aL (iQ bY aM))));clear J aK aL bY aM;go_upto_region 4 with fail;refine ZO (g:=g) (kc:=kc) (km:=km) (kt:=kt) (ka:=ka) (ks:=ks) (sb:=sb) (r:=r) (mb:=mb) (c:=c) (s:=s) (p:=p) (w0:=w) (m:=m2) (fb:=fb) (f:=⟨af,fn,Q⟩) (nm:=nm) (T:=T) (li:=li) (S:=S) (er:=er) (Ps:=λov cv=>(∃er,C=.error er)->ov=none/\cv=0) (Cu:=by rfl) (Ch:=by rfl) (hsz:=by rfl) (hdec:=U.out) (oL:=λW dH h=>h.up1 cK) (hI0:=λ_=>yN.ini ⟨aA.out.drew,Below.blk (mf _) bg.out bg.out.lt⟩ bg.out.lt) ?_;intro vs ag aO;obtain⟨ov,cv,b,bH,e5,cZ,df,dh,bI,aP,aQ⟩:=yN.fin aO;rw[e5,cZ,df,dh];have E:=iF aO.bs.1;have N:=iF (iQ bH (iQ bI aQ));obtain⟨⟨b0,b1,dw,b3⟩,_⟩:=mg aP;have dx:=iF aP;simp only[iN,iR,iT];clear aO bH bI aP aQ e5 cZ df dh aA bg U;obtain⟨sn,aR⟩:=lV S.length;rw[aR]at b3 dx N⊢;have bJ:=iF aR;clear aR;obtain⟨c3,f3⟩:=E.out.at_.b1;obtain⟨⟨bR,bS,bT,bU⟩,bV,aY,au,bW⟩:=mg E.out.rs;by_cases h0:er=0
  .subst h0
   obtain⟨mm,rfl⟩:∃mm,C=.ok mm:=by
    cases C with
    |error e1=>exact absurd aN.out.2.2.2.2 (bX.out e1 rfl)
    |ok mm=>exact⟨mm,rfl⟩
   have dz:IntKind.i64.wrap ((p:Int)+(n:Int))=((p+n:Nat):Int):=by rw[IntWalk.i64_in _ lK];simp
   obtain⟨aS,aT⟩:=lV (p+n);rw[aT]at dz;have dA:=iF aT;clear aT aG bG;go_upto_region 7 with fail;have bK:=E.out.atp aS;have aU:∀i,(ag.setCell ⟨ka,0,none⟩ (lg lH (aS:Nat))).cell? ⟨b,i,none⟩=ag.cell? ⟨b,i,none⟩:=λi=>by
    have hb:=iX ag ⟨ka,0,none⟩ (lg lH (aS:Nat)) b (by have:=N.out.2.1;have:=E.out.lt;show b≠ka;omega);simp only[kZ,hb]
   have dI:=(aU 0).trans b0;have dJ:=(aU 1).trans b1;have dK:=(aU 2).trans dw;have dL:=(aU 3).trans b3;have dB:iW (lX (ag.setCell ⟨ka,0,none⟩ (lg lH (aS:Nat))) (λc=>g<c) (lh ov sn cv) S):=iF (Shape.lY.keep N.out.2.2 (by simp[jf]) (λc _ hc=>by have:=hc.1;omega) λc _ hc=>iX ag ⟨ka,0,none⟩ (lg lH (aS:Nat)) c (by have:=hc.1;have:=E.out.lt;show c≠ka;omega));generalize ag.setCell _ _=dM at*;have aV:=iF bK;clear bK aU b0 b1 dw b3 bR bS bT bU bV aY au bW c3 f3 E;obtain⟨⟨bR,bS,bT,bU⟩,bV,aY,au,bW⟩:=mg aV.out.rs;go_wp2_with fail;rw[qK];obtain⟨⟨aB,aC,aD,aF⟩,_⟩:=mg (pI (a:=ll nm) (b:=ll T) (c:=lu li) (d:=lh ov sn cv) aV.out.rs);have A:=Ip (a:=ll nm) (b:=ll T) (e:=lu li) (d:=lh ov sn cv) aV.out;refine iV (v:=lD #[lC #[ll nm,ll T,lu li,lh ov sn cv],lg lH 0]) (by simp[jr,Tryz.results62,go_sem,aB,aC,aD,aF]) rfl ?_;obtain⟨bZ,g2,g3,g4,_⟩:=aN.out;have hs:=A.2.2.2 _ _ dB.out;rw[<-bQ.out,bq.out];have aW:=bJ.out;subst bZ g2 g3 g4 aW;exact⟨ov,cv,(λ⟨_,h⟩=>by cases h),rfl,hs,A.1,by show lN _ ka #[lg lH ((p+n:Nat):Int)] InT;rw[dA.out];exact A.2.1,A.2.2.1⟩
  .have t0:((er:Int)==0)=false:=lW
   have dC:C=.error er:=by
    cases C with
    |error e1=>rw[<-aN.out.2.2.2.2];rfl
    |ok mm=>exact absurd aN.out.2.2.2.2.symm h0
   subst dC;have dG:=iF h0;clear h0 aG bG c3 f3;go_wp2_with fail;rw[qK];obtain⟨⟨aB,aC,aD,aF⟩,_⟩:=mg (pI (a:=ll nm) (b:=ll T) (c:=lu li) (d:=lh ov sn cv) E.out.rs);have A:=Ip (a:=ll nm) (b:=ll T) (e:=lu li) (d:=lh ov sn cv) E.out;refine iV (v:=lD #[lC #[ll nm,ll T,lu li,lh ov sn cv],lg lH (er:Nat)]) (by simp[jr,Tryz.results62,go_sem,aB,aC,aD,aF]) rfl ?_;obtain⟨bZ,g2,g3,g4,_⟩:=aN.out;have hs:=A.2.2.2 _ _ (Shape.lY.keep N.out.2.2 (iI _) (λc _ hc=>by have:=hc.1;omega) λ_ _ _=>rfl);rw[<-bQ.out,bq.out];have aW:=bJ.out;subst bZ g2 g3 g4 aW;exact⟨ov,cv,λ_=>N.out.1 ⟨er,rfl⟩,rfl,hs,A.1,A.2.1,A.2.2.1⟩
theorem ZP:(Tryz.prog.info? uq).map (λi=>(i.zero,i.size,i.bytes))=some (some (lg .u8 0),1,1):=lQ
theorem KR(B:Nat)(v:iJ)(l:List UInt8)(w:iH)(h:mI w B uq v l)(hl:l.length<=100000)(hB:B<=w.heap.size):
  iU iG 94 #[v] w λe w'=>∃v',e=lF v'/\mI w' B uq v' l/\iK w.heap.size w w'/\(∃oa cap,v'=lh oa l.length cap):=by
 have ax:∀(w:iH)(a:Option kr)(n c U V:Nat),(binOp .eql RF (.slice a n c) (.slice none U V)).run iG w=.ok (.bool a.isNone) w:=λw a n c U V=>Lib.run_eql_slice_nil w _ _ a n c U V kC
 obtain⟨aj,hi,aa,ae,af⟩:=info_parts ZP;rcases h.2 with⟨rfl,h0⟩|⟨g,cap,ay,rfl,hb,hg,Y,ak,hsz,htake⟩
 .have:l=[]:=kR.1 h0
  subst this;clear h h0;go_in;go_wp2_with fail;go_returns;exact⟨_,rfl,mI.nil _ _ _,iL _ _,none,0,rfl⟩
 .have C:=λj (J:j<l.length)=>World.ownsRow.cells h (g:=g) rfl j (lg .u8 (l[j].toNat:Int)) (by simp[l5,iZ J])
  have au:=iF C;have ag:=iF hl;have ah:=iF hB;clear h hb hg Y ak hsz htake C hl hB;go_in;go_wp2_with (at_builtin;refine wpList_append_own _ rfl _ _ RF rfl w.heap.size uq aj (.int .u8 0) 1 1 kC hi aa ae af rfl lM _ _ _ rfl (World.ownsRow_made w #[] 0 (iI _) (jy _) rfl) ⟨g,0,none⟩ l.length cap (l5 l) rfl ?qc1 ?qc2 ?qc3 ?qc4 ?qc5 ?qc6 ?_);case qc1=>simp
  case qc2=>
   intro j u J;have Q:j<l.length:=by
    have:=(jH.1 J).1;simpa using this
   rw[Addr.add_lit];refine Lib.cell?_alloc_some _ ?_;have:=au.out j Q;rw[Addr.add_lit]at this;rw[this];have e:(l5 l)[j]? =some (lg .u8 (l[j].toNat:Int)):=by simp[l5,iZ Q]
   rw[e]at J;exact J
  case qc3=>exact si l
  case qc4=>have:=ag.out;unfold jb;omega
  case qc5=>have:=ag.out;omega
  case qc6=>simp
  intro v' w1 Z O av;go_wp2_with fail;go_returns;have A:mI w1 w.heap.size uq v' l:=Z;refine⟨v',rfl,?_,((iL _ w).alloc (iI _) _).grown O lU (by intro k hk;simp[jw]at hk;omega),?_⟩
  .refine⟨A.1,?_⟩
   rcases A.2 with h|⟨ai,E,N,e1,e2,r⟩
   .exact .inl h
   .exact .inr ⟨ai,E,N,e1,je ah.out e2,r⟩
  .rcases A.2 with⟨rfl,h0⟩|⟨ai,E,N,e1,_⟩
   .exact⟨none,0,by rw[h0]⟩
   .exact⟨_,E,e1⟩
theorem KS{w:iH}{B g cap:Nat}{A:Array iJ}{l:List UInt8}{n:Nat}(hb:B<=g)(hg:w.heap[g]? =some (lG A uq (0,0)))(E:l.length<=cap)(J:cap<=jb)(hsz:A.size=cap)(hn:n<=l.length):
  mI (w.setRow g (A.toList.take 0++(l5 (l.drop n)++A.toList.drop (0+(l5 (l.drop n)).length))).toArray) B uq (lh (some ⟨g,0,none⟩) (l.length - n) cap) (l.drop n)/\w.grownBy (w.setRow g (A.toList.take 0++(l5 (l.drop n)++A.toList.drop (0+(l5 (l.drop n)).length))).toArray) (some g):=by
 have hlen:(l.drop n).length=l.length - n:=jS;refine⟨⟨lU,.inr ⟨g,cap,_,by rw[hlen],hb,setRow_heap w g A _ uq _ hg,lK,J,?_,?_⟩⟩,⟨rfl,rfl,rfl,by simp[World.setRow],λi _ C=>setRow_other w g i _ (λe=>C (by rw[e]))⟩⟩;.simp[hsz];omega
 .simp
theorem UL{p:Prop}(h:p:=by
 go_in;go_wp2_with (with_reducible refine wpList_copy_nothing rfl (.tmp 7) (.tmp 10) RF RF rfl uq kC lQ _ _ _ _ _ _ rfl rfl (by simp[Nat.min_def]) ?_)
 .refine(CC.out _ _ HOWN.out HB.out.1).mono ?_
  rintro e w2 ⟨v',rfl,ho,hb2,hf⟩;go_wp2_with fail;go_returns;exact⟨v',rfl,ho,mV hb2,hf⟩
 .go_returns
  exact⟨_,rfl,HOWN.out,mV (iL _ _),_,_,rfl⟩):p:=h
theorem UM(B:Nat)(v:iJ)(l:List UInt8)(n:Nat)(w:iH)(h:mI w B uq v l)(hn:n<=l.length)(hl:l.length<=100000)(hB:B<=w.heap.size):
  iU iG 66 #[v,lg lH n] w λe w'=>∃v',e=lF v'/\mI w' B uq v' (l.drop n)/\w.grownBy w' v.ownBlock/\(∃oa cap,v'=lh oa (l.drop n).length cap):=by
 rcases h.2 with⟨rfl,h0⟩|⟨g,cap,Q,rfl,hb,hg,E,ag,hsz,htake⟩
 .have:l=[]:=kR.1 h0
  subst this;obtain rfl:n=0:=by simpa using hn
  clear h h0 hn;go_in;go_wp2_with (with_reducible refine wpList_copy_nothing rfl (.tmp 7) (.tmp 10) RF RF rfl uq kC lQ none none 0 0 0 0 rfl rfl rfl ?_);go_returns;exact⟨_,rfl,mI.nil _ _ _,⟨rfl,rfl,rfl,iI _,λ_ _ _=>rfl⟩,none,0,rfl⟩
 .have hlen:(l.drop n).length=l.length - n:=jS
  have A:=iF (KS (n:=n) hb hg E ag (by simpa using hsz) hn);have CC:=iF (λ(W:iH) (v':iJ) (h:mI W B uq v' (l.drop n)) (hB:B<=W.heap.size)=>KR B v' (l.drop n) W h lK hB);have av:=iF hlen;have HB:=iF (iQ hB (iQ hb (jk.1 hg).1));obtain⟨N,Z⟩:=lV l.length;have az:cap<=9223372036854775807:=by unfold jb at ag;omega
  have C:=λj (aa:j<l.length)=>World.ownsRow.cells h (g:=g) rfl j (lg .u8 (l[j].toNat:Int)) (by simp[l5,iZ aa])
  by_cases ai:n=l.length
  .
   subst ai;have hd:l.drop l.length=[]:=List.drop_length;have HOWN:iW (mI w B uq (lh (some ⟨g,0,none⟩) 0 cap) []):=iF ⟨rfl,.inr ⟨g,cap,Q,rfl,hb,hg,jy _,ag,hsz,by simp[l5]⟩⟩;rw[hd]at CC⊢;clear A C h hg htake hsz hb;rw[Z]at E hl⊢;have fin:∀{w':iH},True:=λ{_}=>trivial
   by_cases hc:N=cap
   .subst hc
    exact UL
   .have aA:N<cap:=lK
    have aB:((N:Int)==(cap:Int))=false:=lW;exact UL
  .have aj:n<l.length:=lK
   have ak:=jS (i:=n) (l:=l);have U:∀j v,(l5 (l.drop n))[j]? =some v->w.cell? ((⟨g,n,none⟩:kr).add j)=some v:=λj v aa=>by
    have aC:j<(l.drop n).length:=by
     have:=(jH.1 aa).1;simpa using this
    have J:=C (n+j) lK;rw[Addr.add_lit]at J⊢;rw[Nat.zero_add]at J;rw[J,<-aa];simp[l5,iZ (show n+j<l.length by omega)]
   obtain⟨M,ah⟩:=lV (l.length - n);have O:(l5 (l.drop n)).length=M:=by rw[o8,hlen,ah]
   have V:(l5 (l.drop n)).length=Nat.min (N - n) N:=by rw[O,<-ah,Z];simp[Nat.min_def]
   have Y:0+(l5 (l.drop n)).length<=Q.size:=by rw[O];omega
   have ae:=iF (iQ hg (iQ U (iQ V Y)));rw[<-hlen]at A;simp only[jC,List.nil_append,Nat.zero_add,o8]at A;have ax:(l.drop n).length<=cap:=lK;have ay:(l.drop n).length<=100000:=lK;have aD:iW (M<=N/\0<M):=iF lK;have aF:M<=cap:=lK;have aG:M<=100000:=lK;have aH:n<cap:=lK;have aI:n<=N:=lK;clear C U V Y O ak hlen av aj h hg htake hsz hb ah;rw[Z]at E hl⊢;clear Z hn ai;generalize aJ:l.drop n=au at*;go_in;go_wp2_with (with_reducible refine wpList_copy_own rfl (.tmp 7) (.tmp 10) RF RF rfl uq kC lQ g 0 N cap ⟨g,n,none⟩ (N - n) (cap - n) rfl rfl Q uq ae.out.1 (l5 au) ae.out.2.2.1 ae.out.2.1 ae.out.2.2.2 (si au) ?_)
   .obtain⟨J,af⟩:=A.out
    refine(CC.out _ _ J (je HB.out.1 af.size)).mono ?_;rintro e w2 ⟨v',rfl,ho,hb2,hf⟩;go_wp2_with fail;go_returns;exact⟨v',rfl,ho,nL af (mV hb2),hf⟩
   .obtain⟨J,af⟩:=A.out
    go_returns;exact⟨_,rfl,J,af,_,_,rfl⟩
abbrev MlT:jg:=35
structure Cx where
 m:Cb
 ov:Option kr
 cv:Nat
def Cx.u(y:Cx):iJ:=lh y.ov y.m.val.sub.length y.cv
def V3(y:Cx):List iJ:=[ll y.m.name,ll (txt y.m.val.lab),lu y.m.val.lab.list,y.u]
theorem Iq(y:Cx):(V3 y).length=4:=rfl
theorem ZQ:vL iG MlT wX 4:=⟨Tryz.underlying35,⟨.agg #[.string ⟨#[]⟩,.string ⟨#[]⟩,.bool false,.slice none 0 0],64,by
 obtain⟨i,A,C,E,J⟩:=info_parts (show(Tryz.prog.info? wX).map (λi=>(i.zero,i.size,i.bytes))=some (some (lC #[ll ⟨#[]⟩,ll ⟨#[]⟩,lu false,lh none 0 0]),4,64)by kernel_rfl);exact⟨i,A,C,E,J,lM,rfl⟩⟩,lM⟩
def oh(w:iH)(Q:Nat->Prop)(v:iJ)(L:List Cx):Prop:=
 nP V3 4 w 0 wX v L/\(∀b,v.ownBlock=some b->Q b)/\∀y,y∈L->lX w (λc=>Q c/\v.ownBlock≠some c) y.u y.m.val.sub
theorem oh.nil(w:iH)(Q:Nat->Prop):oh w Q (lh none 0 0) []:=⟨nP.nil w 0 wX,λb h=>by simp[jw]at h,λy h=>by cases h⟩
theorem oh.slice{w:iH}{Q:Nat->Prop}{v:iJ}{L:List Cx}(h:oh w Q v L):∃oa cap,v=lh oa L.length cap:=h.1.slice
theorem oh.keep{w w':iH}{Q Q':Nat->Prop}{v:iJ}{L:List Cx}(h:oh w Q v L)(hs:w.heap.size<=w'.heap.size)(hk:∀c,c<w.heap.size->Q c->w'.heap[c]? =w.heap[c]?)(C:∀c,c<w.heap.size->Q c->Q' c):oh w' Q' v L:=by
 refine⟨h.1.keep λb hb=>hk b (h.1.block b hb).2.1 (h.2.1 b hb),λb hb=>C b (h.1.block b hb).2.1 (h.2.1 b hb),λy E=> ?_⟩;exact Shape.lY.keep (h.2.2 y E) hs (λc hc A=>⟨C c hc A.1,A.2⟩) λc hc A=>hk c hc A.1
theorem oh.push{w w1:iH}{Q J:Nat->Prop}{v:iJ}{L:List Cx}{x:Cx}{g cap:Nat}(h:oh w Q v L)(hrow:nP V3 4 w1 0 wX (lh (some ⟨g,0,none⟩) (L.length+1) cap) (L++[x]))(hg:w.grownBy w1 v.ownBlock)(A:v.ownBlock=some g\/w.heap.size<=g)(O:lX w J x.u x.m.val.sub)(hxv:∀c,J c->v.ownBlock≠some c):
  oh w1 (λc=>Q c\/J c\/c=g) (lh (some ⟨g,0,none⟩) (L.length+1) cap) (L++[x]):=by
 have hgn:∀c,c<w.heap.size->v.ownBlock≠some c->c≠g:=λc hc N e=>by
  rcases A with A|A
  .exact N (by rw[A,e])
  .omega
 have E:∀c,c<w.heap.size->v.ownBlock≠some c->w1.heap[c]? =w.heap[c]? :=λc hc N=>hg.block c hc (λe=>N e.symm)
 refine⟨hrow,λb hb=> ?_,λy C=> ?_⟩
 .simp[jw]at hb
  exact .inr (.inr hb.symm)
 .rcases List.mem_append.1 C with C|C
  .refine Shape.lY.keep (h.2.2 y C) hg.size (λc hc hq=>⟨.inl hq.1,?_⟩) λc hc hq=>E c hc hq.2
   intro e;simp[jw]at e;exact hgn c hc hq.2 e.symm
  .simp at C
   subst C;refine Shape.lY.keep O hg.size (λc hc hq=>⟨.inr (.inl hq),?_⟩) λc hc hq=>E c hc (hxv c hq)
   exact Hz
structure qp(F:Nat->Prop)(w w':iH):Prop where
 os:w'.os=w.os
 tape:w'.tape=w.tape
 output:w'.output=w.output
 size:w.heap.size<=w'.heap.size
 block:∀k,k<w.heap.size->¬F k->w'.heap[k]? =w.heap[k]?
section
variable {F F':Nat->Prop}{u w w':iH}
theorem qp.refl(F:Nat->Prop)(w:iH):qp F w w:=⟨rfl,rfl,rfl,iI _,λ_ _ _=>rfl⟩
theorem qp.trans(h:qp F u w)(k:qp F' w w')(hF:∀c,c<u.heap.size->F' c->F c):qp F u w':=
 ⟨k.os.trans h.os,k.tape.trans h.tape,k.output.trans h.output,je h.size k.size,λi hi hn=>(k.block i (jq hi h.size) λA=>hn (hF i hi A)).trans (h.block i hi hn)⟩
theorem qp.of(h:iK w.heap.size w w'):qp F w w':=⟨h.os,h.tape,h.output,h.size,λk hk _=>h.block k hk⟩
theorem qp.of2{b q:Nat}(h:mH b q w w')(hb:b<w.heap.size->F b)(A:q<w.heap.size->F q):qp F w w':=
 ⟨h.os,h.tape,h.output,h.size,λk hk hn=>h.block k hk (λe=>hn (e▸hb (e▸hk))) (λe=>hn (e▸A (e▸hk)))⟩
theorem qp.grown{row:Option Nat}(h:w.grownBy w' row)(hb:∀b,row=some b->F b):qp F w w':=
 ⟨h.os,h.tape,h.output,h.size,λk hk hn=>h.block k hk λe=>hn (hb k e.symm)⟩
theorem qp.set(h:qp F u w){p:kr}(hp:p.block<u.heap.size->F p.block)(v:iJ):qp F u (w.setCell p v):=
 ⟨h.os,h.tape,h.output,by simpa [jf]using h.size,λk hk hn=>(iX w p v k (λe=>hn (e▸hp (e▸hk)))).trans (h.block k hk hn)⟩
theorem qp.blk(h:qp F w w'){c:Nat}{cs:Array iJ}{t:jg}(hc:lN w c cs t)(hn:¬F c):lN w' c cs t:=by
 unfold lN;rw[h.block c hc.lt hn];exact hc
theorem qp.below(h:qp F w w'){B:Nat}(hB:∀c,c<B->¬F c)(A:B<=w.heap.size):iK B w w':=⟨h.os,h.tape,h.output,h.size,λk hk=>h.block k lK (hB k hk)⟩
theorem qp.mono(h:qp F w w')(hF:∀c,c<w.heap.size->F c->F' c):qp F' w w':=⟨h.os,h.tape,h.output,h.size,λk hk hn=>h.block k hk λA=>hn (hF k hk A)⟩
end
theorem mI.kp{w w':iH}{F:Nat->Prop}{B:Nat}{v:iJ}{l:List UInt8}(h:mI w B e v l)(k:qp F w w')(hn:∀b,v.ownBlock=some b->¬F b):mI w' B e v l:=by
 refine⟨h.1,?_⟩;rcases h.2 with J|⟨g,cap,A,C,hg,E,r⟩
 .exact .inl J
 .refine .inr ⟨g,cap,A,C,hg,?_,r⟩
  rw[k.block g (jk.1 E).1 (hn g (by rw[C];rfl))];exact E
theorem mI.blk{w:iH}{B:Nat}{v:iJ}{l:List UInt8}(h:mI w B e v l):∀b,v.ownBlock=some b->B<=b/\b<w.heap.size:=by
 rcases h.2 with⟨rfl,_⟩|⟨g,cap,A,rfl,hb,hg,_⟩
 .intro b h;cases h
 .intro b h;cases h;exact⟨hb,(jk.1 hg).1⟩
theorem mI.form{w:iH}{B:Nat}{v:iJ}{l:List UInt8}(h:mI w B e v l):∃oa cap,v=lh oa l.length cap:=by
 rcases h.2 with⟨rfl,h0⟩|⟨g,cap,A,rfl,_⟩
 .exact⟨none,0,by rw[h0]⟩
 .exact⟨_,cap,rfl⟩
theorem EB(r bn bi:Nat)(c:mU)(L:List mW)(w:iH)(h:ow r bn bi c L w):
  iU iG 38 #[lq (some ⟨r,0,none⟩)] w λe w'=>e=lF (lC #[lg lH c.fmt,lg lJ c.mag,lg lH c.nK,lg lH c.oF,lg lH c.dep,lg lH c.mX])/\iK w.heap.size w w':=by
 obtain⟨g,hg⟩:=lV w.heap.size;have A:iW (∀W,w.alloc (lG #[lg lH 0,lg lJ 0,lg lH 0,lg lH 0,lg lH 0,lg lH 0] rC)=W->lN W g #[lg lH 0,lg lJ 0,lg lH 0,lg lH 0,lg lH 0,lg lH 0] rC/\iK g w W/\ow r bn bi c L W):=iF λW J=>by
  subst J;have a:=(iL w.heap.size w).alloc (iI _) (lG #[lg lH 0,lg lJ 0,lg lH 0,lg lH 0,lg lH 0,lg lH 0] rC);exact⟨hg▸lN.new w _ _,hg▸a,h.below a⟩
 rw[hg];clear h;go_in;go_upto_region 1 with fail;obtain⟨hB,hb,C⟩:=A.out _ rfl;generalize w.alloc _=w1 at*;obtain⟨c0,c1,c2,c3,c4,c5⟩:=C.rg.a6;obtain⟨Y,Z,aa,ae,af,ag,ah,f1,f2,f3,f4,ai⟩:=hB.b6;have E:=iF (iQ hB hb);clear A hB hb C;go_wp2_with fail
 have N:lN ((((((w1.setCell ⟨g,0,none⟩ (lg lH c.fmt)).setCell ⟨g,1,none⟩ (lg lJ c.mag)).setCell ⟨g,2,none⟩ (lg lH c.nK)).setCell ⟨g,3,none⟩ (lg lH c.oF)).setCell ⟨g,4,none⟩ (lg lH c.dep)).setCell ⟨g,5,none⟩ (lg lH c.mX)) g #[lg lH c.fmt,lg lJ c.mag,lg lH c.nK,lg lH c.oF,lg lH c.dep,lg lH c.mX] rC:=
  (((((E.out.1.set 0 _).set 1 _).set 2 _).set 3 _).set 4 _).set 5 _
 obtain⟨O,Q,U,V,d4,d5⟩:=N.a6;refine iV (v:=lC #[lg lH c.fmt,lg lJ c.mag,lg lH c.nK,lg lH c.oF,lg lH c.dep,lg lH c.mX]) (by simp[jr,Tryz.results38,go_sem,O,Q,U,V,d4,d5]) rfl ⟨rfl,?_⟩;exact(((((E.out.2.setCell (p:=⟨g,0,none⟩) (iI g) _).setCell (p:=⟨g,1,none⟩) (iI g) _).setCell (p:=⟨g,2,none⟩) (iI g) _).setCell (p:=⟨g,3,none⟩) (iI g) _).setCell (p:=⟨g,4,none⟩) (iI g) _).setCell (p:=⟨g,5,none⟩) (iI g) _
def EC(c:mU)(s:ByteArray):Nat:=
 if c.fmt=1 then if s.size<24 then 0 else 24+nT (s.extract 16 20).data.toList
 else if(nz c.nK s.data.toList).2.2≠0 then 0 else(nz c.nK s.data.toList).2.1+(nz c.nK s.data.toList).1
theorem Nr(c:mU)(hc:mK c=true)(s:ByteArray)(w:iH)(hs:s.size<=100000):
  iU iG 65 #[lC #[lg lH c.fmt,lg lJ c.mag,lg lH c.nK,lg lH c.oF,lg lH c.dep,lg lH c.mX],ll s] w λe w'=>e=lF (lg lH (EC c s:Nat))/\iK w.heap.size w w':=by
 obtain⟨_,⟨ak,au⟩,_⟩:=oV hc;have U:=iF (sN (w:=w) c (t:=rC));obtain⟨g,hg⟩:=lV w.heap.size;have Q:s.size<=jb:=je hs lM;have Y:=iF (λW=>uu c.nK s W lK Q);have C:(nz c.nK s.data.toList).2.2=0->((nz c.nK s.data.toList).1:Int)<=65536/\(nz c.nK s.data.toList).2.1<=10:=λh=>by
  generalize af:nz c.nK s.data.toList=q at*;obtain⟨a,b,e⟩:=q;dsimp only at h⊢;subst h;have:=xh af;omega
 obtain⟨N,O⟩:=lV (EC c s);have E:iW (N=if c.fmt=1 then if s.size<24 then 0 else 24+nT (s.extract 16 20).data.toList else if(nz c.nK s.data.toList).2.2≠0 then 0 else(nz c.nK s.data.toList).2.1+(nz c.nK s.data.toList).1):=iF O.symm;rw[O];rw[hg]at U⊢;clear O Q hc;generalize nz c.nK s.data.toList=q at*;obtain⟨a,b,er⟩:=q;dsimp only at*;go_in;go_upto_region 1 with fail;obtain⟨hb,c0,c1,c2,c3,c4,c5⟩:=U.out _ rfl;generalize w.alloc _=w1 at*;have HB:=iF hb;clear U hb;by_cases A:c.fmt=1
 .have ag:(c.fmt !=1)=false:=by simp[A]
  by_cases J:s.size<24
  .have HE:iW (N=0):=iF (by rw[E.out,if_pos A,if_pos J])
   have Z:decide ((s.size:Int)<24)=true:=lW;clear A J E C;exact Bg
  .have aa:(s.extract 16 20).size=4:=by simp only[ja];omega
   have HE:iW (N=24+nT (s.extract 16 20).data.toList):=iF (by rw[E.out,if_pos A,if_neg J]);have ah:=iF (qC (s.extract 16 20) w1 lK lK);have aA:nT (s.extract 16 20).data.toList<4294967296:=by
    have ae:=qH (s.extract 16 20).data.toList;have ai:(s.extract 16 20).data.toList.length=4:=by
     have:(s.extract 16 20).data.toList.length=(s.extract 16 20).size:=jM;omega
    rw[ai]at ae;exact ae
   have av:24<=s.size:=lK;have Z:decide ((s.size:Int)<24)=false:=lW;clear A J E C aa;generalize aj:s.extract 16 20=X at*;generalize nT X.data.toList=aB at*;go_wp2_with fail;all_goals try rw[aj]
   refine ah.out.mono ?_;rintro e w2 ⟨rfl,rfl⟩;go_wp2_with fail;go_returns;exact⟨by rw[HE.out];simp,HB.out⟩
 .have ag:(c.fmt !=1)=true:=by simp[A]
  have ax:=iF A;by_cases J:er=0
  .subst J
   obtain⟨ay,az⟩:=C rfl;have HE:iW (N=b+a):=iF (by rw[E.out,if_neg A,if_neg lU]);clear A E C;go_wp2_with fail;refine(Y.out _).mono ?_;rintro e w2 ⟨rfl,V⟩;subst V;go_wp2_with fail;go_returns;exact⟨by rw[HE.out];simp,HB.out⟩
  .have Z:((er:Int) !=0)=true:=lW
   have HE:iW (N=0):=iF (by rw[E.out,if_neg A,if_pos J]);clear A E C J;go_wp2_with fail;refine(Y.out _).mono ?_;rintro e w2 ⟨rfl,V⟩;subst V;exact Bg
end
end Go.Proofs.YtamfcjmhnndbdaaGreatDoor


