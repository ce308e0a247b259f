/- Part 20 of the proof. -/
import Derived.Test.YtamfcjmhnndbdaaGreatDoorZk00
import Derived.Test.YtamfcjmhnndbdaaGreatDoorZk09
import Derived.Test.YtamfcjmhnndbdaaGreatDoorZk03
import Derived.Test.YtamfcjmhnndbdaaGreatDoorZk14
import Derived.Test.YtamfcjmhnndbdaaGreatDoorZk15
import Derived.Test.YtamfcjmhnndbdaaGreatDoorZk17
import Derived.Test.YtamfcjmhnndbdaaGreatDoorZk18
import Derived.Test.YtamfcjmhnndbdaaGreatDoorZk19
open Go.Value renaming agg→lC,bool→lu,int→lg,pointer→lq,slice→lh,string→ll,tuple→lD,ownBlock→jw
open Go.Obj renaming cells→lG
open Go.IntKind renaming i64→lH,u32→lJ,u64→lI
open Go.Ending renaming returned→lF
open Go.Lib renaming hid→iF
open Go.Proofs.Tryz renaming prog→iG
open Go renaming World→iH,Value→iJ,Calls→iU,bodyPost_ret→iV,maxLen→jb,TypeId→jg,undef→jo,results→jr,Program→kg,Addr→kr,Oper→kH
open Nat renaming le_refl→iI,le_trans→je,zero_le→jy,lt_succ_self→jE,le_succ→jF,add_assoc→jI
open Go.RowKit renaming Below→iK,Hid→iW,intOf→jA
open Go.RowKit.Below renaming refl→iL
open List renaming getElem?_cons_succ→iM,setIfInBounds_toArray→iN,getElem?_cons_zero→iO,getElem?_toArray→iP,set_cons_zero→iR,set_cons_succ→iT,getElem?_eq_getElem→iZ,take_succ_cons→ji,length_append→jv,take_zero→jC,length_drop→jS,length_take→ky,size_toArray→kV,map_cons→kY
open And renaming intro→iQ
open Array renaming getElem?_eq_some_iff→jk,length_toList→jM
open UInt8 renaming ofNat→jl
open Go.Instr renaming index→jB,lookup→j5
open Go.Code renaming region→jJ
open Go.Act renaming put→jZ
open ByteArray renaming empty→kE
open Go.Sem renaming run→kJ
open Option.some renaming injEq→kM
open Go.World renaming cell?→kZ
namespace Go.Proofs.YtamfcjmhnndbdaaGreatDoor
set_option linter.unusedVariables false
set_option linter.unusedSimpArgs false
set_option maxRecDepth 100000
set_option maxHeartbeats 8000000
variable {a0:Act}{ops:Array kH}
section
open Go.RowKit Go.Maps
def V4:Array iJ:=#[lg lI 0,ll ⟨#[]⟩,ll ⟨#[]⟩]
structure EnB(g r bn bi:Nat)(c:mU)(L:List mW)(ms:Array iJ)(w0 W:iH):Prop where
 rg:ow r bn bi c L W
 ms:lN W g ms wX
 rs:lN W (g+1) V4 pg
 nV:iK g w0 W
 lt:w0.heap.size=g/\r<g/\bn<g/\bi<g
theorem EnB.below{g r bn bi:Nat}{c:mU}{L:List mW}{ms:Array iJ}{w0 W A:iH}(h:EnB g r bn bi c L ms w0 W)(hb:iK W.heap.size W A):EnB g r bn bi c L ms w0 A:=
 ⟨h.rg.below hb,Below.blk hb h.ms h.ms.lt,Below.blk hb h.rs h.rs.lt,h.nV.trans (hb.mono (by have:=h.ms.lt;omega)),h.lt⟩
structure X8(g r bn bi:Nat)(c:mU)(L:List mW)(ms:Array iJ)(w0:iH)(k:Nat)(x:RC)(da ds:Bool)(W:iH):Prop where
 b:EnB g r bn bi c L ms w0 W
 sz:W.heap.size=if da=true then k+1 else k
 bk:da=true->lN W k (if ds=true then x else Af).cs CU
 lt:g+1<k
theorem X8.made{g r bn bi:Nat}{c:mU}{L:List mW}{ms:Array iJ}{w0:iH}{k:Nat}{x:RC}{W:iH}(h:X8 g r bn bi c L ms w0 k x false false W):X8 g r bn bi c L ms w0 k x true false (W.alloc (lG Af.cs CU)):=by
 have A:W.heap.size=k:=by simpa using h.sz
 exact⟨h.b.below ((iL W.heap.size W).alloc (iI _) _),by simp[A],λ_=>A▸lN.new W Af.cs CU,h.lt⟩
theorem X8.put{g r bn bi:Nat}{c:mU}{L:List mW}{ms:Array iJ}{w0:iH}{k:Nat}{x:RC}{W:iH}(h:X8 g r bn bi c L ms w0 k x true false W)(h0:ow r bn bi c L w0):X8 g r bn bi c L ms w0 k x true true (Ag W k x):=by
 have l:=h.b.lt;have A:=h.lt;have hb:=sG (x:=x) h.b.nV (show g<=k by omega);exact⟨⟨h0.below (l.1▸hb),uK h.b.ms lK,uK h.b.rs lK,hb,l⟩,by rw[Gf];exact h.sz,λ_=>vJ (h.bk rfl),h.lt⟩
structure PN(g k:Nat)(ms:Array iJ)(x:RC)(w0 W:iH):Prop where
 nV:iK g w0 W
 ms:lN W g ms wX
 rs:lN W (g+1) V4 pg
 rw_:lN W k x.cs CU
theorem PN.up{g k:Nat}{ms:Array iJ}{x:RC}{w0 W A:iH}(h:PN g k ms x w0 W)(hb:iK W.heap.size W A):PN g k ms x w0 A:=
 ⟨h.nV.trans (hb.mono (by have:=h.ms.lt;omega)),Below.blk hb h.ms h.ms.lt,Below.blk hb h.rs h.rs.lt,Below.blk hb h.rw_ h.rw_.lt⟩
def Dn:List kH:=[⟨some 14,.move (.tmp 0),85,"registry.go:156",#[],none⟩,⟨some 15,.nilCheck (.tmp 14),0,"registry.go:156",#[⟨0,.data⟩],none⟩,⟨some 16,.fieldAddr 137 (.tmp 15) 1,0,"registry.go:156",#[⟨1,.data⟩],none⟩,⟨some 17,.load 130 (.tmp 16),130,"registry.go:156",#[⟨2,.data⟩],none⟩,⟨some 18,.fieldAddr 49 (.tmp 3) 0,0,"registry.go:156",#[],none⟩,⟨some 19,.load 9 (.tmp 18),9,"registry.go:156",#[⟨4,.data⟩],none⟩,⟨some 20,.lookup 130 (.tmp 17) (.tmp 19) true,129,"registry.go:156",#[⟨3,.data⟩,⟨5,.data⟩],none⟩,⟨some 13,.move (.tmp 20),129,"registry.go:156",#[⟨6,.data⟩],none⟩,⟨some 21,.extract (.tmp 13) 0,128,"registry.go:156",#[⟨7,.data⟩],none⟩,⟨some 22,.extract (.tmp 13) 1,4,"registry.go:156",#[⟨7,.data⟩,⟨11,.gcOnly .lateStores⟩],none⟩,⟨some 6,.alloc 128,0,"registry.go:156",#[],none⟩,⟨none,.store 128 (.tmp 6) (.tmp 21),0,"registry.go:156",#[⟨10,.data⟩,⟨8,.data⟩,⟨0,.phase⟩,⟨1,.phase⟩,⟨2,.phase⟩,⟨3,.phase⟩,⟨4,.phase⟩,⟨5,.phase⟩,⟨6,.phase⟩,⟨7,.phase⟩,⟨8,.phase⟩,⟨9,.textOnly .lateStores⟩,⟨10,.phase⟩],none⟩,⟨some 7,.assign (.tmp 22),4,"registry.go:156",#[⟨9,.data⟩,⟨11,.chain⟩,⟨0,.phase⟩,⟨1,.phase⟩,⟨2,.phase⟩,⟨3,.phase⟩,⟨4,.phase⟩,⟨5,.phase⟩,⟨6,.phase⟩,⟨7,.phase⟩,⟨8,.phase⟩,⟨9,.phase⟩,⟨10,.phase⟩,⟨11,.phase⟩],none⟩]
section
variable (g r bn bi:Nat)(c:mU)(L:List mW)(nm tx:ByteArray)(li:Bool)(oi:Option kr)(ni ci:Nat)(w0:iH)(k:Nat)(b:Bool)(x:RC)
def yG:Nat->iJ
 |0=> lq (some ⟨r,0,none⟩)
 |1=> lq (some ⟨r,0,none⟩)
 |2=> lq (some ⟨r,6,none⟩)
 |3=> .map (some bn)
 |4=> lq (some ⟨g,0,none⟩)
 |5=> ll nm
 |6=> lD #[lC #[lg lI x.i,ll x.nm,ll x.tx,lg lH x.k,lg lH x.z,lh x.ou x.nu x.cu,lg lH x.tl],lu b]
 |7=> lD #[lC #[lg lI x.i,ll x.nm,ll x.tx,lg lH x.k,lg lH x.z,lh x.ou x.nu x.cu,lg lH x.tl],lu b]
 |8=> lC #[lg lI x.i,ll x.nm,ll x.tx,lg lH x.k,lg lH x.z,lh x.ou x.nu x.cu,lg lH x.tl]
 |9=> lu b
 |10=> lq (some ⟨k,0,none⟩)
 |12=> lu b
 |_=>jo
structure a1H(D:Nat->Bool)(vs:Nat->iJ)(w:iH):Prop where
 mh:X8 g r bn bi c L #[ll nm,ll tx,lu li,lh oi ni ci] w0 k x (D 10) (D 11) w
 val:∀j,(true)=true->D j=true->vs j=yG g r bn nm k b x j
variable {g r bn bi c L nm tx li oi ni ci w0 k b x}
theorem X9{id:Nat}{Q:Exit->Act->iH->Prop}{U:iH}(ht0:a0.tmps.getD 0 jo=lq (some ⟨r,0,none⟩))(ht3:a0.tmps.getD 3 jo=lq (some ⟨g,0,none⟩))(hl:∀W,ow r bn bi c L W->(j5 130 (.map (some bn)) (ll nm) true).run iG W=.ok (lD #[lC #[lg lI x.i,ll x.nm,ll x.tx,lg lH x.k,lg lH x.z,lh x.ou x.nu x.cu,lg lH x.tl],lu b]) W)(h0:ow r bn bi c L w0)(hsz:a0.tmps.size=59)(hI0:∀vs:Nat->iJ,(λw=>X8 g r bn bi c L #[ll nm,ll tx,lu li,lh oi ni ci] w0 k x false false w) U.drew)(V:∀(vs:Nat->iJ) (w:iH),X8 g r bn bi c L #[ll nm,ll tx,lu li,lh oi ni ci] w0 k x true true w->Q .normal {a0 with tmps:=((((((((((((a0.tmps.setIfInBounds 14 (lq (some ⟨r,0,none⟩))).setIfInBounds 15 (lq (some ⟨r,0,none⟩))).setIfInBounds 16 (lq (some ⟨r,6,none⟩))).setIfInBounds 17 (.map (some bn))).setIfInBounds 18 (lq (some ⟨g,0,none⟩))).setIfInBounds 19 (ll nm)).setIfInBounds 20 (lD #[lC #[lg lI x.i,ll x.nm,ll x.tx,lg lH x.k,lg lH x.z,lh x.ou x.nu x.cu,lg lH x.tl],lu b])).setIfInBounds 13 (lD #[lC #[lg lI x.i,ll x.nm,ll x.tx,lg lH x.k,lg lH x.z,lh x.ou x.nu x.cu,lg lH x.tl],lu b])).setIfInBounds 21 (lC #[lg lI x.i,ll x.nm,ll x.tx,lg lH x.k,lg lH x.z,lh x.ou x.nu x.cu,lg lH x.tl])).setIfInBounds 22 (lu b)).setIfInBounds 6 (lq (some ⟨k,0,none⟩))).setIfInBounds 7 (lu b))} w):
  (jJ id Dn.toArray true).wp iG Q a0 U:=by
 refine l6 13 59 (a1H g r bn bi c L nm tx li oi ni ci w0 k b x) lQ hsz lQ (.inl rfl) lQ ?_ ?_ ?_;.exact oo
 .refine pO λA ah=> ?_
  clear hI0 V hsz;replace ht0:=iF ht0;replace ht3:=iF ht3;replace hl:=iF hl;replace h0:=iF h0;unfold Dn;simp only[ji,jC,o6];refine⟨?_,?_,?_,?_,?_,?_,?_,?_,?_,?_,?_,?_,?_,trivial⟩<;>(intro D vs a w K hI hd E hw2 C N;subst ah;unfold Dn);have ax:=(C 0 lM).trans ht0.out;rotate_left;have aj:=fe C hI.val E 14 0;rotate_left;have ak:=fe C hI.val E 15 1;rotate_left;have Y:=fe C hI.val E 16 2;simp only[yG]at Y;have c0:=hI.mh.b.rg.rg.c6;rotate_left;have e3:=(C 3 lM).trans ht3.out;rotate_left;have Z:=fe C hI.val E 18 4;simp only[yG]at Z;have c0:=hI.mh.b.ms.c0;rotate_left;have hl:=hl.out;have aa:=fe C hI.val E 17 3;have ae:=fe C hI.val E 19 5;simp only[yG]at aa ae;have q:=hl w hI.mh.b.rg;rotate_left;have au:=fe C hI.val E 20 6;rotate_left;have af:=fe C hI.val E 13 7;rotate_left;have af:=fe C hI.val E 13 7;rotate_left
  .have J:=hI.mh
   have d11:=hw2 11 lM lQ;rw[hd,d11]at J;have ay:w.heap.size=k:=by simpa using J.sz
   go_simp;refine N (lq (some ⟨k,0,none⟩)) _ _ rfl ⟨?_,ry hI.val⟩;rw[l7,lT D (show 11≠10 by decide),d11];exact J.made
  .have h0:=h0.out
   have ai:=fe C hI.val E 6 10;have ag:=fe C hI.val E 21 8;simp only[yG]at ai ag;have d10:=E 10 lM lQ;have J:=hI.mh;rw[d10,hd]at J;have hB:=J.bk rfl;obtain⟨⟨z0,az,aA,z3,z4,z5,aB⟩,aC,f1,f2,f3,f4,aD,aF⟩:=nS hB;go_simp;rw[yn];refine N jo _ _ rfl ⟨?_,ry hI.val⟩;rw[lT D (show 10≠11 by decide),d10,l7];exact J.put h0
  have av:=fe C hI.val E 22 9;rotate_left
  all_goals
   try simp only[yG]at*
   go_simp;exact N _ _ _ rfl ⟨hI.mh,ry hI.val⟩
 .intro D vs w O hI
  have E:=hI.mh;rw[O 10 lM]at E;rw[O 11 lM]at E;have q:=V vs w E;rw[mQ hI.val O];unfold Dn;exact om
end
def Dp:List kH:=[⟨some 27,.move (.tmp 0),85,"registry.go:160",#[],none⟩,⟨some 28,.nilCheck (.tmp 27),0,"registry.go:160",#[⟨0,.data⟩],none⟩,⟨some 29,.fieldAddr 137 (.tmp 28) 3,0,"registry.go:160",#[⟨1,.data⟩],none⟩,⟨some 30,.fieldAddr 135 (.tmp 29) 0,0,"registry.go:160",#[⟨2,.data⟩],none⟩,⟨some 31,.load 132 (.tmp 30),132,"registry.go:160",#[⟨3,.data⟩],none⟩,⟨some 32,.fieldAddr 128 (.tmp 6) 1,0,"registry.go:160",#[],none⟩,⟨some 33,.load 63 (.tmp 32),63,"registry.go:160",#[⟨5,.data⟩],none⟩,⟨some 34,.fieldAddr 49 (.tmp 3) 1,0,"registry.go:160",#[],none⟩,⟨some 35,.load 47 (.tmp 34),47,"registry.go:160",#[⟨7,.data⟩],none⟩,⟨some 36,.call {callee:=.value (.tmp 31),args:=#[.tmp 33,.tmp 35],argTypes:=#[63,47]},43,"registry.go:160",#[⟨4,.data⟩,⟨6,.data⟩,⟨8,.data⟩],none⟩,⟨some 26,.move (.tmp 36),43,"registry.go:160",#[⟨9,.data⟩],none⟩,⟨some 37,.extract (.tmp 26) 0,9,"registry.go:160",#[⟨10,.data⟩],none⟩,⟨some 38,.extract (.tmp 26) 1,36,"registry.go:160",#[⟨10,.data⟩,⟨13,.gcOnly .lateStores⟩],none⟩,⟨some 8,.assign (.tmp 37),9,"registry.go:160",#[⟨11,.data⟩,⟨9,.chain⟩,⟨0,.phase⟩,⟨1,.phase⟩,⟨2,.phase⟩,⟨3,.phase⟩,⟨4,.phase⟩,⟨5,.phase⟩,⟨6,.phase⟩,⟨7,.phase⟩,⟨8,.phase⟩,⟨9,.phase⟩,⟨10,.phase⟩,⟨11,.phase⟩,⟨12,.textOnly .lateStores⟩],none⟩,⟨some 9,.assign (.tmp 38),36,"registry.go:160",#[⟨12,.data⟩,⟨13,.chain⟩,⟨0,.phase⟩,⟨1,.phase⟩,⟨2,.phase⟩,⟨3,.phase⟩,⟨4,.phase⟩,⟨5,.phase⟩,⟨6,.phase⟩,⟨7,.phase⟩,⟨8,.phase⟩,⟨9,.phase⟩,⟨10,.phase⟩,⟨11,.phase⟩,⟨12,.phase⟩,⟨13,.phase⟩],none⟩]
section
variable (g r k:Nat)(c:mU)(x:RC)(nm tx:ByteArray)(li:Bool)(oi:Option kr)(ni ci:Nat)(w0:iH)(fn:FuncId)(T:ByteArray)(er:Int)
def uZ:Nat->iJ
 |0=> lq (some ⟨r,0,none⟩)
 |1=> lq (some ⟨r,0,none⟩)
 |2=> lq (some ⟨r,8,none⟩)
 |3=> lq (some ⟨r,8,none⟩)
 |4=> .func (.func fn) #[lC #[lg lH c.dep,lg lH c.mX]] #[]
 |5=> lq (some ⟨k,3,none⟩)
 |6=> lC #[lg lH x.k,lg lH x.z,lh x.ou x.nu x.cu,lg lH x.tl]
 |7=> lq (some ⟨g,1,none⟩)
 |8=> lC #[ll tx,lu li,lh oi ni ci]
 |9=> lD #[ll T,lg lH er]
 |10=> lD #[ll T,lg lH er]
 |11=> ll T
 |12=> lg lH er
 |13=> ll T
 |14=> lg lH er
 |_=>jo
structure VC(D:Nat->Bool)(vs:Nat->iJ)(w:iH):Prop where
 mh:PN g k #[ll nm,ll tx,lu li,lh oi ni ci] x w0 w
 val:∀j,(true)=true->D j=true->vs j=uZ g r k c x tx li oi ni ci fn T er j
variable {g r k c x nm tx li oi ni ci w0 fn T er}
theorem VD{D:Nat->Bool}{vs:Nat->iJ}{w w':iH}(h:VC g r k c x nm tx li oi ni ci w0 fn T er D vs w){i:Nat}(hi:True)(A:PN g k #[ll nm,ll tx,lu li,lh oi ni ci] x w0 w->PN g k #[ll nm,ll tx,lu li,lh oi ni ci] x w0 w'):VC g r k c x nm tx li oi ni ci w0 fn T er (wV D i) (wW vs i (uZ g r k c x tx li oi ni ci fn T er i)) w':=by
 refine⟨?_,ry h.val⟩;exact A h.mh
theorem Ya{id:Nat}{Q:Exit->Act->iH->Prop}{J:iH}(ht0:a0.tmps.getD 0 jo=lq (some ⟨r,0,none⟩))(FB:∀W,PN g k #[ll nm,ll tx,lu li,lh oi ni ci] x w0 W->W.cell? ⟨r,8,none⟩=some (.func (.func fn) #[lC #[lg lH c.dep,lg lH c.mX]] #[]))(vT:a0.tmps.getD 6 jo=lq (some ⟨k,0,none⟩))(ht3:a0.tmps.getD 3 jo=lq (some ⟨g,0,none⟩))(hput:∀W,PN g k #[ll nm,ll tx,lu li,lh oi ni ci] x w0 W->iU iG fn #[lC #[lg lH c.dep,lg lH c.mX],lC #[lg lH x.k,lg lH x.z,lh x.ou x.nu x.cu,lg lH x.tl],lC #[ll tx,lu li,lh oi ni ci]] W (p9 T er W))(hcf:∀a b d W,kJ iG (callFunc fn #[a,b,d]) W=.ok (.enter fn #[a,b,d]) W)(hsz:a0.tmps.size=59)(hI0:∀vs:Nat->iJ,(λw=>PN g k #[ll nm,ll tx,lu li,lh oi ni ci] x w0 w) J.drew)(N:∀(vs:Nat->iJ) (w:iH),PN g k #[ll nm,ll tx,lu li,lh oi ni ci] x w0 w->Q .normal {a0 with tmps:=(((((((((((((((a0.tmps.setIfInBounds 27 (lq (some ⟨r,0,none⟩))).setIfInBounds 28 (lq (some ⟨r,0,none⟩))).setIfInBounds 29 (lq (some ⟨r,8,none⟩))).setIfInBounds 30 (lq (some ⟨r,8,none⟩))).setIfInBounds 31 (.func (.func fn) #[lC #[lg lH c.dep,lg lH c.mX]] #[])).setIfInBounds 32 (lq (some ⟨k,3,none⟩))).setIfInBounds 33 (lC #[lg lH x.k,lg lH x.z,lh x.ou x.nu x.cu,lg lH x.tl])).setIfInBounds 34 (lq (some ⟨g,1,none⟩))).setIfInBounds 35 (lC #[ll tx,lu li,lh oi ni ci])).setIfInBounds 36 (lD #[ll T,lg lH er])).setIfInBounds 26 (lD #[ll T,lg lH er])).setIfInBounds 37 (ll T)).setIfInBounds 38 (lg lH er)).setIfInBounds 8 (ll T)).setIfInBounds 9 (lg lH er))} w):
  (jJ id Dp.toArray true).wp iG Q a0 J:=by
 refine l6 15 59 (VC g r k c x nm tx li oi ni ci w0 fn T er) lQ hsz lQ (.inl rfl) lQ ?_ ?_ ?_;.exact oo
 .refine pO λA ag=> ?_
  clear hI0 N hsz;replace ht0:=iF ht0;replace FB:=iF FB;replace vT:=iF vT;replace ht3:=iF ht3;replace hput:=iF hput;replace hcf:=iF hcf;unfold Dp;simp only[ji,jC,o6];refine⟨?_,?_,?_,?_,?_,?_,?_,?_,?_,?_,?_,?_,?_,?_,?_,trivial⟩<;>(intro D vs a w K hI hd E hw2 C O;subst ag;unfold Dp);have az:=(C 0 lM).trans ht0.out;rotate_left;have aj:=fe C hI.val E 27 0;rotate_left;have ak:=fe C hI.val E 28 1;rotate_left;have au:=fe C hI.val E 29 2;rotate_left;have FB:=FB.out;have U:=fe C hI.val E 30 3;simp only[uZ]at U;have c0:=FB w hI.mh;rotate_left;have aA:=(C 6 lM).trans vT.out;rotate_left;have V:=fe C hI.val E 32 5;simp only[uZ]at V;obtain⟨⟨c0,c1,c2,c3,c4,c5,c6⟩,_⟩:=nS hI.mh.rw_;rotate_left;have e3:=(C 3 lM).trans ht3.out;rotate_left;have Y:=fe C hI.val E 34 7;simp only[uZ]at Y;have hB:=hI.mh.ms;have c1:=hB.c1;have c2:=hB.c2;have c3:=hB.c3;clear hB;rotate_left
  .have hput:=hput.out
   have hcf:=hcf.out;have Z:=fe C hI.val E 31 4;have aa:=fe C hI.val E 33 6;have ae:=fe C hI.val E 35 8;simp only[uZ]at Z aa ae;have ah:=hput w hI.mh;clear hput;rw[if_pos (by rfl)];go_simp;refine ah.mono ?_;rintro e aB ⟨rfl,hb⟩;exact O (uZ g r k c x tx li oi ni ci fn T er 9) _ _ rfl (VD hI (i:=9) lM λh=>h.up hb)
  have av:=fe C hI.val E 36 9;rotate_left;have af:=fe C hI.val E 26 10;rotate_left;have af:=fe C hI.val E 26 10;rotate_left;have ax:=fe C hI.val E 37 11;rotate_left;have ay:=fe C hI.val E 38 12;rotate_left
  all_goals
   try simp only[uZ]at*
   go_simp;exact O _ _ _ rfl ⟨hI.mh,ry hI.val⟩
 .intro D vs w ai hI
  have E:=hI.mh;have q:=N vs w E;rw[mQ hI.val ai];unfold Dp;exact om
end
def IW(c:mU)(o:Option Row)(T:ByteArray)(er:Nat):uN×Nat:=match o with
 |none=>(⟨0,⟨#[]⟩,⟨#[]⟩⟩,11)
 |some x=>if er≠0 then(⟨0,⟨#[]⟩,⟨#[]⟩⟩,er)else if c.fmt=1 then(⟨0,x.name,T⟩,0)else(⟨x.id,⟨#[]⟩,T⟩,0)
def Cm(c:mU):FuncId:=if c.fmt=1 then 85 else 83
theorem VE(c:mU):∀a b d W,kJ iG (callFunc (Cm c) #[a,b,d]) W=.ok (.enter (Cm c) #[a,b,d]) W:=by
 unfold Cm;split<;>exact λ_ _ _ _=>rfl
theorem VF(c:mU):El c=.func (.func (Cm c)) #[lC #[lg lH c.dep,lg lH c.mX]] #[]:=by
 unfold El Cm;split<;>rfl
theorem NU(r bn bi:Nat)(c:mU)(L:List mW)(nm tx:ByteArray)(li:Bool)(oi:Option kr)(ni ci:Nat)(T:ByteArray)(er:Nat)(w:iH)(h:ow r bn bi c L w)(hn:nm.size<=jb)(hput:∀x,(L.find? λx=>decide (x.r.name=nm))=some x->∀W,iK w.heap.size w W->iU iG (Cm c) #[lC #[lg lH c.dep,lg lH c.mX],lC #[lg lH x.r.ty.lab.kind,lg lH x.r.ty.lab.size,lh x.ou x.r.ty.sub.length x.cu,lg lH x.r.ty.lab.tail],lC #[ll tx,lu li,lh oi ni ci]] W (p9 T er W)):
  iU iG 36 #[lq (some ⟨r,0,none⟩),lC #[ll nm,ll tx,lu li,lh oi ni ci]] w λe w'=>e=lF (lD #[lC #[lg lI (IW c ((L.find? λx=>decide (x.r.name=nm)).map λx=>x.r) T er).1.id,ll (IW c ((L.find? λx=>decide (x.r.name=nm)).map λx=>x.r) T er).1.name,ll (IW c ((L.find? λx=>decide (x.r.name=nm)).map λx=>x.r) T er).1.body],lg lH (IW c ((L.find? λx=>decide (x.r.name=nm)).map λx=>x.r) T er).2])/\iK w.heap.size w w':=by
 obtain⟨g,hg⟩:=lV w.heap.size;have aT:=h.lt3;have aA:iW (∀W,(w.alloc (lG #[ll nm,ll tx,lu li,lh oi ni ci] wX)).alloc (lG #[lg lI 0,ll ⟨#[]⟩,ll ⟨#[]⟩] pg)=W->EnB g r bn bi c L #[ll nm,ll tx,lu li,lh oi ni ci] w W/\W.heap.size=g+2):=iF λW V=>by
  subst V;have Q:=(iL w.heap.size w).alloc (iI _) (lG #[ll nm,ll tx,lu li,lh oi ni ci] wX);have a2:=Q.alloc lU (lG #[lg lI 0,ll ⟨#[]⟩,ll ⟨#[]⟩] pg);have aI:=lN.new (w.alloc (lG #[ll nm,ll tx,lu li,lh oi ni ci] wX)) #[lg lI 0,ll ⟨#[]⟩,ll ⟨#[]⟩] pg;rw[show(w.alloc (lG #[ll nm,ll tx,lu li,lh oi ni ci] wX)).heap.size=g+1 by simp[hg]]at aI;exact⟨⟨h.below a2,(hg▸lN.new w _ _:lN _ g _ _).alloc _,aI,hg▸a2,hg,lK⟩,by simp[hg]⟩
 have au:iW (∀W,ow r bn bi c L W->_):=iF λW V=>V.look nm hn
 have aC:=iF h;obtain⟨aD,ag,Y⟩:=vK L λx=>decide (x.r.name=nm)
 rw[ag]at au;unfold RC.cs at au;obtain⟨o,ho⟩:=lV ((L.find? λx=>decide (x.r.name=nm)));rw[ho]at au hput Y⊢;have aF:=iF hput;have aU:=iF Y;have aJ:=iF (VE c);have aK:=iF (VF c);obtain⟨E,aG⟩:=lV (IW c (o.map λx=>x.r) T er);have ax:=iF aG;rw[aG];obtain⟨⟨EX,ah,ai⟩,aj⟩:=E;rw[hg];dsimp only;clear h hn hput ho ag Y aG aT;go_in;go_upto_region 3 with fail;obtain⟨hI,aL⟩:=aA.out _ rfl;generalize (w.alloc _).alloc _=w1 at*;have av:=iF (iQ hI aL);clear aA hI aL;refine X9 (g:=g) (r:=r) (bn:=bn) (bi:=bi) (c:=c) (L:=L) (nm:=nm) (tx:=tx) (li:=li) (oi:=oi) (ni:=ni) (ci:=ci) (w0:=w) (k:=g+2) (b:=o.isSome) (x:=aD) (ht0:=by rfl) (ht3:=by rfl) (hl:=au.out) (h0:=aC.out) (hsz:=by rfl) (hI0:=λ_=>⟨av.out.1.below (mf w1),by simpa using av.out.2,(λh=>by cases h),lK⟩) ?_;intro vs Z hF;have J:=iF (iQ hF.b (iQ (hF.bk rfl:lN Z (g+2) aD.cs CU) (show Z.heap.size=g+3 by simpa using hF.sz)));clear hF av au;simp only[iN,iR,iT];obtain⟨aM,f1,f2⟩:=J.out.1.rs.f3;have z0:=J.out.1.rs.cell 0;have ay:=J.out.1.rs.cell 1;have az:=J.out.1.rs.cell 2;simp only[V4,iP,iO,iM]at z0 ay az;cases o with
 |none=>
  have N:iW (EX=0/\ah=⟨#[]⟩/\ai=⟨#[]⟩/\aj=11):=iF (by have:=ax.out;simp only[IW,Option.map]at this;injection this with a b;injection a with Q a2 a3;exact⟨Q.symm,a2.symm,a3.symm,b.symm⟩);go_wp2_with fail;have O:lN (((Z.setCell ⟨g+1,0,none⟩ (lg lI 0)).setCell ⟨g+1,1,none⟩ (ll ⟨#[]⟩)).setCell ⟨g+1,2,none⟩ (ll ⟨#[]⟩)) (g+1) #[lg lI 0,ll ⟨#[]⟩,ll ⟨#[]⟩] pg:=((J.out.1.rs.set 0 _).set 1 _).set 2 _;obtain⟨aa,ae,af⟩:=O.a3;have A:iK g w (((Z.setCell ⟨g+1,0,none⟩ (lg lI 0)).setCell ⟨g+1,1,none⟩ (ll ⟨#[]⟩)).setCell ⟨g+1,2,none⟩ (ll ⟨#[]⟩)):=((J.out.1.nV.setCell (p:=⟨g+1,0,none⟩) (jF g) _).setCell (p:=⟨g+1,1,none⟩) (jF g) _).setCell (p:=⟨g+1,2,none⟩) (jF g) _;generalize ((Z.setCell ⟨g+1,0,none⟩ _).setCell ⟨g+1,1,none⟩ _).setCell ⟨g+1,2,none⟩ _=aH at*;refine iV (v:=lD #[lC #[lg lI 0,ll ⟨#[]⟩,ll ⟨#[]⟩],lg lH 11]) (by simp[jr,Tryz.results36,go_sem,aa,ae,af]) rfl ⟨?_,A⟩;obtain⟨rfl,rfl,rfl,rfl⟩:=N.out;rfl
 |some x=>
  have ag:aD=x.rc:=aU.out;subst ag;have FB:∀W,PN g (g+2) #[ll nm,ll tx,lu li,lh oi ni ci] x.rc w W->W.cell? ⟨r,8,none⟩=some (.func (.func (Cm c)) #[lC #[lg lH c.dep,lg lH c.mX]] #[]):=λW V=>by
   have hB:=(aC.out.below (hg.symm▸V.nV)).rg.cell 8;rw[<-aK.out];exact hB
  have aN:=iF FB;clear FB;go_upto_region 6 with fail;have aO:PN g (g+2) #[ll nm,ll tx,lu li,lh oi ni ci] x.rc w Z.drew:=PN.up ⟨J.out.1.nV,J.out.1.ms,J.out.1.rs,J.out.2.1⟩ (mf Z);have aB:=iF (λ(W:iH) (V:PN g (g+2) #[ll nm,ll tx,lu li,lh oi ni ci] x.rc w W)=>aF.out x rfl W (hg.symm▸V.nV));refine Ya (g:=g) (r:=r) (k:=g+2) (c:=c) (x:=x.rc) (nm:=nm) (tx:=tx) (li:=li) (oi:=oi) (ni:=ni) (ci:=ci) (w0:=w) (fn:=Cm c) (T:=T) (er:=er) (ht0:=by rfl) (vT:=by rfl) (ht3:=by rfl) (FB:=aN.out) (hput:=aB.out) (hcf:=aJ.out) (hsz:=by rfl) (hI0:=λ_=>aO) ?_;intro bq U aP;have C:=iF aP;clear aP aO J aB aM f1 f2 z0 ay az;simp only[iN,iR,iT];obtain⟨aM,f1,f2⟩:=C.out.rs.f3;have z0:=C.out.rs.cell 0;have ay:=C.out.rs.cell 1;have az:=C.out.rs.cell 2;have c0:=(aC.out.below (hg.symm▸C.out.nV)).rg.cell 0;obtain⟨⟨aQ,aR,aS,aV,aW,aX,aY⟩,_⟩:=nS C.out.rw_;simp only[V4,iP,iO,iM]at z0 ay az c0;unfold mW.rc at aQ aR aS;dsimp only at aQ aR aS;clear aV aW aX aY;by_cases he:er=0
  .have aZ:((er:Int) !=0)=false:=by simp[he]
   by_cases ak:c.fmt=1
   .have bg:(c.fmt==1)=true:=by simp[ak]
    have N:iW (EX=0/\ah=x.r.name/\ai=T/\aj=0):=iF (by have:=ax.out;simp only[IW,Option.map]at this;rw[if_neg (by simp[he]),if_pos ak]at this;injection this with a b;injection a with Q a2 a3;exact⟨Q.symm,a2.symm,a3.symm,b.symm⟩);clear ak;go_wp2_with fail;have O:lN (((U.setCell ⟨g+1,0,none⟩ (lg lI 0)).setCell ⟨g+1,1,none⟩ (ll x.r.name)).setCell ⟨g+1,2,none⟩ (ll T)) (g+1) #[lg lI 0,ll x.r.name,ll T] pg:=((C.out.rs.set 0 _).set 1 _).set 2 _;obtain⟨aa,ae,af⟩:=O.a3;have A:iK g w (((U.setCell ⟨g+1,0,none⟩ (lg lI 0)).setCell ⟨g+1,1,none⟩ (ll x.r.name)).setCell ⟨g+1,2,none⟩ (ll T)):=((C.out.nV.setCell (p:=⟨g+1,0,none⟩) (jF g) _).setCell (p:=⟨g+1,1,none⟩) (jF g) _).setCell (p:=⟨g+1,2,none⟩) (jF g) _;generalize ((U.setCell ⟨g+1,0,none⟩ _).setCell ⟨g+1,1,none⟩ _).setCell ⟨g+1,2,none⟩ _=aH at*;refine iV (v:=lD #[lC #[lg lI 0,ll x.r.name,ll T],lg lH 0]) (by simp[jr,Tryz.results36,go_sem,aa,ae,af]) rfl ⟨?_,A⟩;obtain⟨rfl,rfl,rfl,rfl⟩:=N.out;rfl
   .have bg:(c.fmt==1)=false:=by simp[ak]
    have N:iW (EX=x.r.id/\ah=⟨#[]⟩/\ai=T/\aj=0):=iF (by have:=ax.out;simp only[IW,Option.map]at this;rw[if_neg (by simp[he]),if_neg ak]at this;injection this with a b;injection a with Q a2 a3;exact⟨Q.symm,a2.symm,a3.symm,b.symm⟩);clear ak;go_wp2_with fail;have O:lN (((U.setCell ⟨g+1,0,none⟩ (lg lI x.r.id)).setCell ⟨g+1,1,none⟩ (ll ⟨#[]⟩)).setCell ⟨g+1,2,none⟩ (ll T)) (g+1) #[lg lI x.r.id,ll ⟨#[]⟩,ll T] pg:=((C.out.rs.set 0 _).set 1 _).set 2 _;obtain⟨aa,ae,af⟩:=O.a3;have A:iK g w (((U.setCell ⟨g+1,0,none⟩ (lg lI x.r.id)).setCell ⟨g+1,1,none⟩ (ll ⟨#[]⟩)).setCell ⟨g+1,2,none⟩ (ll T)):=((C.out.nV.setCell (p:=⟨g+1,0,none⟩) (jF g) _).setCell (p:=⟨g+1,1,none⟩) (jF g) _).setCell (p:=⟨g+1,2,none⟩) (jF g) _;generalize ((U.setCell ⟨g+1,0,none⟩ _).setCell ⟨g+1,1,none⟩ _).setCell ⟨g+1,2,none⟩ _=aH at*;refine iV (v:=lD #[lC #[lg lI x.r.id,ll ⟨#[]⟩,ll T],lg lH 0]) (by simp[jr,Tryz.results36,go_sem,aa,ae,af]) rfl ⟨?_,A⟩;obtain⟨rfl,rfl,rfl,rfl⟩:=N.out;rfl
  .have aZ:((er:Int) !=0)=true:=lW
   have N:iW (EX=0/\ah=⟨#[]⟩/\ai=⟨#[]⟩/\aj=er):=iF (by have:=ax.out;simp only[IW,Option.map]at this;rw[if_pos he]at this;injection this with a b;injection a with Q a2 a3;exact⟨Q.symm,a2.symm,a3.symm,b.symm⟩);go_wp2_with fail;have O:lN (((U.setCell ⟨g+1,0,none⟩ (lg lI 0)).setCell ⟨g+1,1,none⟩ (ll ⟨#[]⟩)).setCell ⟨g+1,2,none⟩ (ll ⟨#[]⟩)) (g+1) #[lg lI 0,ll ⟨#[]⟩,ll ⟨#[]⟩] pg:=((C.out.rs.set 0 _).set 1 _).set 2 _;obtain⟨aa,ae,af⟩:=O.a3;have A:iK g w (((U.setCell ⟨g+1,0,none⟩ (lg lI 0)).setCell ⟨g+1,1,none⟩ (ll ⟨#[]⟩)).setCell ⟨g+1,2,none⟩ (ll ⟨#[]⟩)):=((C.out.nV.setCell (p:=⟨g+1,0,none⟩) (jF g) _).setCell (p:=⟨g+1,1,none⟩) (jF g) _).setCell (p:=⟨g+1,2,none⟩) (jF g) _;generalize ((U.setCell ⟨g+1,0,none⟩ _).setCell ⟨g+1,1,none⟩ _).setCell ⟨g+1,2,none⟩ _=aH at*;refine iV (v:=lD #[lC #[lg lI 0,ll ⟨#[]⟩,ll ⟨#[]⟩],lg lH er]) (by simp[jr,Tryz.results36,go_sem,aa,ae,af]) rfl ⟨?_,A⟩;obtain⟨rfl,rfl,rfl,rfl⟩:=N.out;rfl
def PO(W:iH)(b:Nat)(x y z:iJ):iH:=((W.setCell ⟨b,0,none⟩ x).setCell ⟨b,1,none⟩ y).setCell ⟨b,2,none⟩ z
theorem VG(W:iH)(b:Nat)(x y z:iJ):((W.setCell ⟨b,0,none⟩ x).setCell ⟨b,1,none⟩ y).setCell ⟨b,2,none⟩ z=PO W b x y z:=rfl
theorem Rw{W:iH}{b:Nat}{x y z A C E:iJ}{t:jg}(h:lN W b #[x,y,z] t):lN (PO W b A C E) b #[A,C,E] t:=((h.set 0 A).set 1 C).set 2 E
theorem Cn{B b:Nat}{w0 W:iH}{x y z:iJ}(h:iK B w0 W)(hb:B<=b):iK B w0 (PO W b x y z):=
 ((h.setCell (p:=⟨b,0,none⟩) hb x).setCell (p:=⟨b,1,none⟩) hb y).setCell (p:=⟨b,2,none⟩) hb z
structure NV(Bs:iH->Prop)(lim:Nat)(x y z:iJ)(da ds:Bool)(va:iJ)(W:iH):Prop where
 bs:Bs W
 al:da=true->∃b,va=lq (some ⟨b,0,none⟩)/\lim<=b/\lN W b (if ds=true then#[x,y,z]else V4) pg
 lt:lim<=W.heap.size
theorem PQ{p:Prop}(h:p:=by
 refine⟨oL _ _ h.bs (hb.mono h.lt),λhd=> ?_,je h.lt hb.size⟩;obtain⟨b,e,hl,hB⟩:=h.al hd;exact⟨b,e,hl,Below.blk hb hB hB.lt⟩):p:=h
theorem NV.below{Bs:iH->Prop}{lim:Nat}{x y z:iJ}{da ds:Bool}{va:iJ}{W A:iH}(oL:∀W A,Bs W->iK lim W A->Bs A)(h:NV Bs lim x y z da ds va W)(hb:iK W.heap.size W A):NV Bs lim x y z da ds va A:=by
 exact PQ
theorem NV.made{Bs:iH->Prop}{lim:Nat}{x y z va:iJ}{W:iH}(oL:∀W A,Bs W->iK lim W A->Bs A)(h:NV Bs lim x y z false false va W):NV Bs lim x y z true false (lq (some ⟨W.heap.size,0,none⟩)) (W.alloc (lG V4 pg)):=
 ⟨oL _ _ h.bs ((iL lim W).alloc h.lt _),λ_=>⟨_,rfl,h.lt,lN.new W V4 pg⟩,by have:=h.lt;simp;omega⟩
theorem NV.fill{Bs:iH->Prop}{lim:Nat}{x y z va:iJ}{W:iH}(oL:∀W A,Bs W->iK lim W A->Bs A)(h:NV Bs lim x y z true false va W):∃b,va=lq (some ⟨b,0,none⟩)/\lN W b V4 pg/\NV Bs lim x y z true true va (PO W b x y z):=by
 obtain⟨b,e,hl,hB⟩:=h.al rfl;have hB:lN W b V4 pg:=hB;exact⟨b,e,hB,oL _ _ h.bs (Cn (iL lim W) hl),λ_=>⟨b,e,hl,Rw hB⟩,je h.lt (Cn (iL lim W) hl).size⟩
def IX:List kH:=[⟨some 12,.move (.tmp 0),28,"session.go:118",#[],none⟩,⟨some 13,.nilCheck (.tmp 12),0,"session.go:118",#[⟨0,.data⟩],none⟩,⟨some 14,.fieldAddr 88 (.tmp 13) 0,0,"session.go:118",#[⟨1,.data⟩],none⟩,⟨some 15,.load 85 (.tmp 14),85,"session.go:118",#[⟨2,.data⟩],none⟩,⟨some 16,.load 49 (.tmp 3),49,"session.go:118",#[],none⟩,⟨some 17,.call {callee:=.value (.func 36),args:=#[.tmp 15,.tmp 16],argTypes:=#[85,49]},93,"session.go:118",#[⟨3,.data⟩,⟨4,.data⟩],none⟩,⟨some 11,.move (.tmp 17),93,"session.go:118",#[⟨5,.data⟩],none⟩,⟨some 18,.extract (.tmp 11) 0,52,"session.go:118",#[⟨6,.data⟩],none⟩,⟨some 19,.extract (.tmp 11) 1,36,"session.go:118",#[⟨6,.data⟩,⟨10,.gcOnly .lateStores⟩],none⟩,⟨some 6,.alloc 52,0,"session.go:118",#[],none⟩,⟨none,.store 52 (.tmp 6) (.tmp 18),0,"session.go:118",#[⟨9,.data⟩,⟨7,.data⟩,⟨5,.chain⟩,⟨0,.phase⟩,⟨1,.phase⟩,⟨2,.phase⟩,⟨3,.phase⟩,⟨4,.phase⟩,⟨5,.phase⟩,⟨6,.phase⟩,⟨7,.phase⟩,⟨8,.textOnly .lateStores⟩,⟨9,.phase⟩],none⟩,⟨some 7,.assign (.tmp 19),36,"session.go:118",#[⟨8,.data⟩,⟨10,.chain⟩,⟨0,.phase⟩,⟨1,.phase⟩,⟨2,.phase⟩,⟨3,.phase⟩,⟨4,.phase⟩,⟨5,.phase⟩,⟨6,.phase⟩,⟨7,.phase⟩,⟨8,.phase⟩,⟨9,.phase⟩,⟨10,.phase⟩],none⟩]
section
variable (g sb r:Nat)(nm tx:ByteArray)(li:Bool)(oi:Option kr)(ni ci:Nat)(F:uN)(er:Int)(lim:Nat)(Bs:iH->Prop)
def x9:Nat->iJ
 |0=> lq (some ⟨sb,0,none⟩)
 |1=> lq (some ⟨sb,0,none⟩)
 |2=> lq (some ⟨sb,0,none⟩)
 |3=> lq (some ⟨r,0,none⟩)
 |4=> lC #[ll nm,ll tx,lu li,lh oi ni ci]
 |5=> lD #[lC #[lg lI F.id,ll F.name,ll F.body],lg lH er]
 |6=> lD #[lC #[lg lI F.id,ll F.name,ll F.body],lg lH er]
 |7=> lC #[lg lI F.id,ll F.name,ll F.body]
 |8=> lg lH er
 |11=> lg lH er
 |_=>jo
structure a0l(D:Nat->Bool)(vs:Nat->iJ)(w:iH):Prop where
 mh:NV Bs lim (lg lI F.id) (ll F.name) (ll F.body) (D 9) (D 10) (vs 9) w
 val:∀j,(j !=9)=true->D j=true->vs j=x9 sb r nm tx li oi ni ci F er j
variable {g sb r nm tx li oi ni ci F er lim Bs}
theorem Yb{D:Nat->Bool}{vs:Nat->iJ}{w w':iH}(h:a0l sb r nm tx li oi ni ci F er lim Bs D vs w){i:Nat}(hi:i≠9/\i≠10)(A:NV Bs lim (lg lI F.id) (ll F.name) (ll F.body) (D 9) (D 10) (vs 9) w->NV Bs lim (lg lI F.id) (ll F.name) (ll F.body) (D 9) (D 10) (vs 9) w'):a0l sb r nm tx li oi ni ci F er lim Bs (wV D i) (wW vs i (x9 sb r nm tx li oi ni ci F er i)) w':=by
 refine⟨?_,ry h.val⟩;rw[lT D (show 9≠i by omega)];rw[lT D (show 10≠i by omega)];rw[l8 vs (x9 sb r nm tx li oi ni ci F er i) (show 9≠i by omega)];exact A h.mh
theorem a0m{id:Nat}{Q:Exit->Act->iH->Prop}{V:iH}(ht0:a0.tmps.getD 0 jo=lq (some ⟨sb,0,none⟩))(hb0:∀W,Bs W->W.cell? ⟨sb,0,none⟩=some (lq (some ⟨r,0,none⟩)))(ht3:a0.tmps.getD 3 jo=lq (some ⟨g,0,none⟩))(QI:∀W,Bs W->lN W g #[ll nm,ll tx,lu li,lh oi ni ci] wX)(oL:∀W N,Bs W->iK lim W N->Bs N)(henc:∀W,Bs W->iU iG 36 #[lq (some ⟨r,0,none⟩),lC #[ll nm,ll tx,lu li,lh oi ni ci]] W λe N=>e=lF (lD #[lC #[lg lI F.id,ll F.name,ll F.body],lg lH er])/\iK W.heap.size W N)(hsz:a0.tmps.size=44)(hI0:∀vs:Nat->iJ,(λw=>NV Bs lim (lg lI F.id) (ll F.name) (ll F.body) false false (vs 9) w) V.drew)(Y:∀(vs:Nat->iJ) (w:iH),NV Bs lim (lg lI F.id) (ll F.name) (ll F.body) true true (vs 9) w->Q .normal {a0 with tmps:=(((((((((((a0.tmps.setIfInBounds 12 (lq (some ⟨sb,0,none⟩))).setIfInBounds 13 (lq (some ⟨sb,0,none⟩))).setIfInBounds 14 (lq (some ⟨sb,0,none⟩))).setIfInBounds 15 (lq (some ⟨r,0,none⟩))).setIfInBounds 16 (lC #[ll nm,ll tx,lu li,lh oi ni ci])).setIfInBounds 17 (lD #[lC #[lg lI F.id,ll F.name,ll F.body],lg lH er])).setIfInBounds 11 (lD #[lC #[lg lI F.id,ll F.name,ll F.body],lg lH er])).setIfInBounds 18 (lC #[lg lI F.id,ll F.name,ll F.body])).setIfInBounds 19 (lg lH er)).setIfInBounds 6 (vs 9)).setIfInBounds 7 (lg lH er))} w):
  (jJ id IX.toArray true).wp iG Q a0 V:=by
 refine l6 12 44 (a0l sb r nm tx li oi ni ci F er lim Bs) lQ hsz lQ (.inl rfl) lQ ?_ ?_ ?_;.exact oo
 .refine pO λA ai=> ?_
  clear hI0 Y hsz;replace ht0:=iF ht0;replace hb0:=iF hb0;replace ht3:=iF ht3;replace QI:=iF QI;replace oL:=iF oL;replace henc:=iF henc;unfold IX;simp only[ji,jC,o6];refine⟨?_,?_,?_,?_,?_,?_,?_,?_,?_,?_,?_,?_,trivial⟩<;>(intro D vs a w K hI hd E hw2 C O;subst ai;unfold IX);have aB:=(C 0 lM).trans ht0.out;rotate_left;have ax:=fe C hI.val E 12 0;rotate_left;have ay:=fe C hI.val E 13 1;rotate_left;have hb0:=hb0.out;have Z:=fe C hI.val E 14 2;simp only[x9]at Z;have c0:=hb0 w hI.mh.bs;rotate_left;have QI:=QI.out;have e3:=(C 3 lM).trans ht3.out;have hB:=QI w hI.mh.bs;obtain⟨c0,c1,c2,c3⟩:=hB.a4;clear hB;rotate_left
  .have oL:=oL.out
   have henc:=henc.out;have aa:=fe C hI.val E 15 3;have ae:=fe C hI.val E 16 4;simp only[x9]at aa ae;have aj:=henc w hI.mh.bs;clear henc;rw[if_pos (by rfl)];go_simp;refine aj.mono ?_;rintro e aC ⟨rfl,hb⟩;exact O (x9 sb r nm tx li oi ni ci F er 5) _ _ rfl (Yb hI (i:=5) lM λh=>h.below oL hb)
  have az:=fe C hI.val E 17 5;rotate_left;have af:=fe C hI.val E 11 6;rotate_left;have af:=fe C hI.val E 11 6;rotate_left
  .have oL:=oL.out
   have J:=hI.mh;have d10:=hw2 10 lM lQ;rw[hd,d10]at J;go_simp;refine O (lq (some ⟨w.heap.size,0,none⟩)) _ _ rfl ⟨?_,Ko rfl hI.val⟩;rw[l7,lT D (show 10≠9 by decide),nI,d10];exact J.made oL
  .have oL:=oL.out
   have d9:=E 9 lM lQ;have ag:a.tmps.getD 6 jo=vs 9:=C 6 lM;have ah:=fe C hI.val E 18 7;simp only[x9]at ah;have J:=hI.mh;rw[d9,hd]at J;obtain⟨b,ev,hB,ak⟩:=J.fill oL;have ag:=ag.trans ev;have z0:=hB.cell 0;have au:=hB.cell 1;have av:=hB.cell 2;obtain⟨aD,f1,f2⟩:=hB.f3;simp only[V4,iP,iO,iM]at z0 au av;go_simp;rw[VG];refine O jo _ _ rfl ⟨?_,ry hI.val⟩;rw[l7,lT D (show 9≠10 by decide),l8 vs _ (show 9≠10 by decide),d9];exact ak
  have aA:=fe C hI.val E 19 8;rotate_left
  all_goals
   try simp only[x9]at*
   go_simp;exact O _ _ _ rfl ⟨hI.mh,ry hI.val⟩
 .intro D vs w U hI
  have E:=hI.mh;rw[U 9 lM]at E;rw[U 10 lM]at E;have q:=Y vs w E;rw[mQ hI.val U];unfold IX;exact om
end
def IY:List kH:=[⟨some 24,.move (.tmp 0),28,"session.go:122",#[],none⟩,⟨some 25,.nilCheck (.tmp 24),0,"session.go:122",#[⟨0,.data⟩],none⟩,⟨some 26,.fieldAddr 88 (.tmp 25) 0,0,"session.go:122",#[⟨1,.data⟩],none⟩,⟨some 27,.load 85 (.tmp 26),85,"session.go:122",#[⟨2,.data⟩],none⟩,⟨some 28,.call {callee:=.value (.func 38),args:=#[.tmp 27],argTypes:=#[85]},24,"session.go:122",#[⟨3,.data⟩],none⟩,⟨some 29,.load 52 (.tmp 6),52,"session.go:122",#[],none⟩,⟨some 30,.call {callee:=.value (.func 37),args:=#[.tmp 28,.tmp 29],argTypes:=#[24,52]},43,"session.go:122",#[⟨4,.data⟩,⟨5,.data⟩,⟨4,.chain⟩],none⟩,⟨some 23,.move (.tmp 30),43,"session.go:122",#[⟨6,.data⟩],none⟩,⟨some 31,.extract (.tmp 23) 0,9,"session.go:122",#[⟨7,.data⟩],none⟩,⟨some 32,.extract (.tmp 23) 1,36,"session.go:122",#[⟨7,.data⟩,⟨10,.gcOnly .lateStores⟩],none⟩,⟨some 8,.assign (.tmp 31),9,"session.go:122",#[⟨8,.data⟩,⟨6,.chain⟩,⟨0,.phase⟩,⟨1,.phase⟩,⟨2,.phase⟩,⟨3,.phase⟩,⟨4,.phase⟩,⟨5,.phase⟩,⟨6,.phase⟩,⟨7,.phase⟩,⟨8,.phase⟩,⟨9,.textOnly .lateStores⟩],none⟩,⟨some 7,.assign (.tmp 32),36,"session.go:122",#[⟨9,.data⟩,⟨10,.chain⟩,⟨0,.phase⟩,⟨1,.phase⟩,⟨2,.phase⟩,⟨3,.phase⟩,⟨4,.phase⟩,⟨5,.phase⟩,⟨6,.phase⟩,⟨7,.phase⟩,⟨8,.phase⟩,⟨9,.phase⟩,⟨10,.phase⟩],none⟩]
section
variable (sb r fb:Nat)(c:mU)(F:uN)(T:ByteArray)(er:Int)(Bs:iH->Prop)
def yc:Nat->iJ
 |0=> lq (some ⟨sb,0,none⟩)
 |1=> lq (some ⟨sb,0,none⟩)
 |2=> lq (some ⟨sb,0,none⟩)
 |3=> lq (some ⟨r,0,none⟩)
 |4=> lC #[lg lH c.fmt,lg lJ c.mag,lg lH c.nK,lg lH c.oF,lg lH c.dep,lg lH c.mX]
 |5=> lC #[lg lI F.id,ll F.name,ll F.body]
 |6=> lD #[ll T,lg lH er]
 |7=> lD #[ll T,lg lH er]
 |8=> ll T
 |9=> lg lH er
 |10=> ll T
 |11=> lg lH er
 |_=>jo
structure a0n(D:Nat->Bool)(vs:Nat->iJ)(w:iH):Prop where
 mh:Bs w
 val:∀j,(true)=true->D j=true->vs j=yc sb r c F T er j
variable {sb r fb c F T er Bs}
theorem PR{D:Nat->Bool}{vs:Nat->iJ}{w w':iH}(h:a0n sb r c F T er Bs D vs w){i:Nat}(hi:True)(A:Bs w->Bs w'):a0n sb r c F T er Bs (wV D i) (wW vs i (yc sb r c F T er i)) w':=by
 refine⟨?_,ry h.val⟩;exact A h.mh
theorem a0o{id:Nat}{Q:Exit->Act->iH->Prop}{U:iH}(ht0:a0.tmps.getD 0 jo=lq (some ⟨sb,0,none⟩))(hb0:∀W,Bs W->W.cell? ⟨sb,0,none⟩=some (lq (some ⟨r,0,none⟩)))(oL:∀W J,Bs W->iK W.heap.size W J->Bs J)(NW:∀W,Bs W->iU iG 38 #[lq (some ⟨r,0,none⟩)] W λe J=>e=lF (lC #[lg lH c.fmt,lg lJ c.mag,lg lH c.nK,lg lH c.oF,lg lH c.dep,lg lH c.mX])/\iK W.heap.size W J)(vT:a0.tmps.getD 6 jo=lq (some ⟨fb,0,none⟩))(hbf:∀W,Bs W->lN W fb #[lg lI F.id,ll F.name,ll F.body] pg)(hput:∀W,Bs W->iU iG 37 #[lC #[lg lH c.fmt,lg lJ c.mag,lg lH c.nK,lg lH c.oF,lg lH c.dep,lg lH c.mX],lC #[lg lI F.id,ll F.name,ll F.body]] W (p9 T er W))(hsz:a0.tmps.size=44)(hI0:∀vs:Nat->iJ,(λw=>Bs w) U.drew)(V:∀(vs:Nat->iJ) (w:iH),Bs w->Q .normal {a0 with tmps:=((((((((((((a0.tmps.setIfInBounds 24 (lq (some ⟨sb,0,none⟩))).setIfInBounds 25 (lq (some ⟨sb,0,none⟩))).setIfInBounds 26 (lq (some ⟨sb,0,none⟩))).setIfInBounds 27 (lq (some ⟨r,0,none⟩))).setIfInBounds 28 (lC #[lg lH c.fmt,lg lJ c.mag,lg lH c.nK,lg lH c.oF,lg lH c.dep,lg lH c.mX])).setIfInBounds 29 (lC #[lg lI F.id,ll F.name,ll F.body])).setIfInBounds 30 (lD #[ll T,lg lH er])).setIfInBounds 23 (lD #[ll T,lg lH er])).setIfInBounds 31 (ll T)).setIfInBounds 32 (lg lH er)).setIfInBounds 8 (ll T)).setIfInBounds 7 (lg lH er))} w):
  (jJ id IY.toArray true).wp iG Q a0 U:=by
 refine l6 12 44 (a0n sb r c F T er Bs) lQ hsz lQ (.inl rfl) lQ ?_ ?_ ?_;.exact oo
 .refine pO λA ag=> ?_
  clear hI0 V hsz;replace ht0:=iF ht0;replace hb0:=iF hb0;replace oL:=iF oL;replace NW:=iF NW;replace vT:=iF vT;replace hbf:=iF hbf;replace hput:=iF hput;unfold IY;simp only[ji,jC,o6];refine⟨?_,?_,?_,?_,?_,?_,?_,?_,?_,?_,?_,?_,trivial⟩<;>(intro D vs a w K hI hd E hw2 C N;subst ag;unfold IY);have ay:=(C 0 lM).trans ht0.out;rotate_left;have aj:=fe C hI.val E 24 0;rotate_left;have ak:=fe C hI.val E 25 1;rotate_left;have hb0:=hb0.out;have Y:=fe C hI.val E 26 2;simp only[yc]at Y;have c0:=hb0 w hI.mh;rotate_left
  .have oL:=oL.out
   have NW:=NW.out;have Z:=fe C hI.val E 27 3;simp only[yc]at Z;have O:=NW w hI.mh;clear NW;rw[if_pos (by rfl)];go_simp;refine O.mono ?_;rintro e ah ⟨rfl,hb⟩;exact N (yc sb r c F T er 4) _ _ rfl (PR hI (i:=4) lM λh=>oL _ _ h hb)
  have hbf:=hbf.out;have az:=(C 6 lM).trans vT.out;have hB:=hbf w hI.mh;obtain⟨c0,c1,c2⟩:=hB.a3;clear hB;rotate_left
  .have oL:=oL.out
   have hput:=hput.out;have aa:=fe C hI.val E 28 4;have ae:=fe C hI.val E 29 5;simp only[yc]at aa ae;have O:=hput w hI.mh;clear hput;rw[if_pos (by rfl)];go_simp;refine O.mono ?_;rintro e ah ⟨rfl,hb⟩;exact N (yc sb r c F T er 6) _ _ rfl (PR hI (i:=6) lM λh=>oL _ _ h hb)
  have au:=fe C hI.val E 30 6;rotate_left;have af:=fe C hI.val E 23 7;rotate_left;have af:=fe C hI.val E 23 7;rotate_left;have av:=fe C hI.val E 31 8;rotate_left;have ax:=fe C hI.val E 32 9;rotate_left
  all_goals
   try simp only[yc]at*
   go_simp;exact N _ _ _ rfl ⟨hI.mh,ry hI.val⟩
 .intro D vs w ai hI
  have E:=hI.mh;have q:=V vs w E;rw[mQ hI.val ai];unfold IY;exact om
end
def GA(A:Int)(T:ByteArray)(C:Int):ByteArray×Int:=if A≠0 then(⟨#[]⟩,A)else if C≠0 then(⟨#[]⟩,C)else(T,0)
theorem wQ.Ao{w0:iH}{G sb r:Nat}{bv:iJ}{buf:List UInt8}{nd fa la tt se:Int}{W:iH}(h:wQ w0 G sb r bv buf nd fa la tt se W)(x:Int):wQ w0 G sb r bv buf nd fa la tt x (W.setCell ⟨sb,6,none⟩ (lg lH x)):=⟨h.ss.set 6 _,h.kp 6 _,h.bwp 6 _,h.lt⟩
theorem VH(G sb r bn bi:Nat)(c:mU)(L:List mW)(buf:List UInt8)(nd fa:Int)(nm tx:ByteArray)(li:Bool)(oi:Option kr)(ni ci:Nat)(F:uN)(A C:Int)(T:ByteArray)(w:iH)(hs:tH w G r sb buf nd fa)(hlt:G<=sb/\G<=w.heap.size)(V:∀W,iK G w W->ow r bn bi c L W)(henc:∀W,iK w.heap.size w W->iU iG 36 #[lq (some ⟨r,0,none⟩),lC #[ll nm,ll tx,lu li,lh oi ni ci]] W λe aI=>e=lF (lD #[lC #[lg lI F.id,ll F.name,ll F.body],lg lH A])/\iK W.heap.size W aI)(hput:A=0->∀W,iK w.heap.size w W->iU iG 37 #[lC #[lg lH c.fmt,lg lJ c.mag,lg lH c.nK,lg lH c.oF,lg lH c.dep,lg lH c.mX],lC #[lg lI F.id,ll F.name,ll F.body]] W (p9 T C W)):
  iU iG 15 #[lq (some ⟨sb,0,none⟩),lC #[ll nm,ll tx,lu li,lh oi ni ci]] w λe w'=>e=lF (lD #[ll (GA A T C).1,lg lH (GA A T C).2])/\tH w' G r sb buf nd fa/\iK G w w':=by
 obtain⟨bv,la,tt,se,O,aj⟩:=hs;obtain⟨g,hg⟩:=lV w.heap.size;have aM:=iF (show wQ w G sb r bv buf nd fa la tt se w from⟨O,aj,iL G w,hlt.1,O.lt,hlt.2⟩);have ak:iW (∀W,w.alloc (lG #[ll nm,ll tx,lu li,lh oi ni ci] wX)=W->iK g w W/\lN W g #[ll nm,ll tx,lu li,lh oi ni ci] wX/\W.heap.size=g+1):=iF λW hW=>by
  exact Pz
 have aN:=iF O;have aC:=iF henc;have aD:=iF hput;have aF:=iF V;have aJ:iW (G<=g/\sb<g):=iF ⟨hg▸hlt.2,hg▸O.lt⟩;obtain⟨aO,Y⟩:=lV (GA A T C);have Z:=iF Y;rw[Y];obtain⟨RT,aG⟩:=aO;dsimp only;clear O aj hlt V henc hput Y;go_in;go_upto_region 3 with fail;obtain⟨au,av,ax⟩:=ak.out _ rfl;generalize w.alloc _=w1 at*;have U:=iF (iQ au (iQ av ax));clear ak au av ax;have aa:∀W,iK (g+1) w1 W->iK g w W:=λW hW=>U.out.1.trans (hW.mono (jF g))
 have ae:∀W,iK (g+1) w1 W->lN W sb (Cy r bv nd fa la tt se) Ir:=λW hW=>Below.blk (aa W hW) aN.out aJ.out.2
 have hb0:∀W,iK (g+1) w1 W->W.cell? ⟨sb,0,none⟩=some (lq (some ⟨r,0,none⟩)):=λW hW=>(ae W hW).cell 0
 have QI:∀W,iK (g+1) w1 W->lN W g #[ll nm,ll tx,lu li,lh oi ni ci] wX:=λW hW=>Below.blk hW U.out.2.1 (jE g)
 have af:NV (iK (g+1) w1) (g+1) (lg lI F.id) (ll F.name) (ll F.body) false false jo w1.drew:=⟨(mf w1).mono (by rw[U.out.2.2];exact iI _),(λh=>by cases h),by rw[<-U.out.2.2];exact(mf w1).size⟩;have ag:=iF aa;refine a0m (g:=g) (sb:=sb) (r:=r) (nm:=nm) (tx:=tx) (li:=li) (oi:=oi) (ni:=ni) (ci:=ci) (F:=F) (er:=A) (lim:=g+1) (Bs:=iK (g+1) w1) (ht0:=by rfl) (ht3:=by rfl) (hb0:=hb0) (QI:=QI) (oL:=λ_ _ h hb=>h.trans hb) (henc:=λW hW=>aC.out W (hg.symm▸ag.out W hW)) (hsz:=by rfl) (hI0:=λ_=>⟨af.bs,(λh=>by cases h),af.lt⟩) ?_;intro vs N hF;obtain⟨fb,ev,aK,ay⟩:=hF.al rfl;have az:wQ w G sb r bv buf nd fa la tt se N:=aM.out.below (hg.symm▸ag.out N hF.bs);have E:=iF (iQ hF.bs (iQ (ay:lN N fb #[lg lI F.id,ll F.name,ll F.body] pg) (iQ az hF.lt)));clear hF aK ay az af aa ae hb0 QI;simp only[iN,iR,iT];rw[ev];by_cases ah:A=0
 .subst ah
  go_upto_region 6 with fail;have aA:∀W,iK N.heap.size N W->iK g w W:=λW hW=>(ag.out N E.out.1).trans (hW.mono (by have:=E.out.2.2.2;omega))
  have aB:=iF aA;refine a0o (sb:=sb) (r:=r) (fb:=fb) (c:=c) (F:=F) (T:=T) (er:=C) (Bs:=iK N.heap.size N) (ht0:=by rfl) (vT:=by rfl) (hb0:=λW hW=>(Below.blk hW E.out.2.2.1.ss E.out.2.2.1.ss.lt).cell 0) (oL:=λW aI h hb=>h.trans (hb.mono h.size)) (NW:=λW hW=>EB r bn bi c L W (aF.out W ((aB.out W hW).mono aJ.out.1))) (hbf:=λW hW=>Below.blk hW E.out.2.1 E.out.2.1.lt) (hput:=λW hW=>aD.out rfl W (hg.symm▸aB.out W hW)) (hsz:=by rfl) (hI0:=λ_=>mf N) ?_;intro aP aQ aL;have J:=iF (E.out.2.2.1.below aL);clear aL aA;simp only[iN,iR,iT];by_cases ai:C=0
  .subst ai
   have Q:iW (RT=T/\aG=0):=iF (by have:=Z.out;unfold GA at this;rw[if_neg lU,if_neg lU]at this;injection this with a b;exact⟨a.symm,b.symm⟩);have c6:=J.out.ss.cell 6;have aR:=J.out.ss.free 6;simp only[Cy,iP,iO,iM]at c6;go_wp2_with fail;try go_returns
   refine⟨by rw[Q.out.1,Q.out.2];rfl,?_⟩;have aH:=λx=>J.out.Ao x
   exact⟨⟨_,_,_,_,(aH _).ss,(aH _).ob⟩,(aH _).bw⟩
  .have aS:(C !=0)=true:=by simp[ai]
   have Q:iW (RT=⟨#[]⟩/\aG=C):=iF (by have:=Z.out;unfold GA at this;rw[if_neg lU,if_pos ai]at this;injection this with a b;exact⟨a.symm,b.symm⟩);clear ai;go_wp2_with fail;try go_returns
   exact⟨by rw[Q.out.1,Q.out.2];rfl,⟨_,_,_,_,J.out.ss,J.out.ob⟩,J.out.bw⟩
 .have aT:(A !=0)=true:=by simp[ah]
  have Q:iW (RT=⟨#[]⟩/\aG=A):=iF (by have:=Z.out;unfold GA at this;rw[if_pos ah]at this;injection this with a b;exact⟨a.symm,b.symm⟩);clear ah;go_wp2_with fail;try go_returns
  exact⟨by rw[Q.out.1,Q.out.2];rfl,⟨_,_,_,_,E.out.2.2.1.ss,E.out.2.2.1.ob⟩,E.out.2.2.1.bw⟩
end
section
open Go.RowKit
def cA:mU:=⟨3,0,50,50,2,9⟩
def uM:ByteArray:=⟨#[112,105,110,103]⟩
def u8A:ByteArray:=⟨#[117,56]⟩
def eA:sP:=⟨5,uM,u8A⟩
def tyA:lL TL:=.node ⟨1,1,0⟩ []
def AQ:Row:=⟨5,uM,u8A,tyA⟩
def xA:lL IL:=.node ⟨[7],false⟩ []
def AR:ByteArray:=⟨#[4,5,1,0,7]⟩
theorem a3E:sI cA [eA]=.ok [AQ]:=by rfl
theorem a1I:ER tyA xA 2 9=0:=by rfl
theorem a3F:FE xA=⟨#[7]⟩:=by rfl
theorem a1J:(⟨(mJ (⟨#[7]⟩:ByteArray).size++[jl (4*((⟨#[7]⟩:ByteArray).size - 1))]++(⟨#[7]⟩:ByteArray).data.toList).toArray⟩:ByteArray)=⟨#[1,0,7]⟩:=by
 rw[show(⟨#[7]⟩:ByteArray).size=1 from rfl,oP 1 lM];rfl
theorem VI:AX 5 ⟨#[1,0,7]⟩=AR:=by
 unfold AX;rw[oP 5 lM];show(⟨(mJ 4).toArray⟩:ByteArray)++_++_=_;rw[oP 4 lM];rfl
theorem a1K:(VV (rM 50 50 AR none).1).e=0:=by rfl
theorem a1L(mb:Nat):∃nd,tF cA [AQ] mb [] 0 0 AR=([⟨uM,xA⟩],[],nd,0):=⟨_,by rfl⟩
abbrev WfT:jg:=141
def Rx:Array iJ:=#[.nilFunc,.nilFunc,.nilFunc,.nilFunc]
structure PS(Bs:iH->Prop)(lim:Nat)(x y z u:iJ)(da ds:Bool)(va:iJ)(W:iH):Prop where
 bs:Bs W
 al:da=true->∃b,va=lq (some ⟨b,0,none⟩)/\lim<=b/\lN W b (if ds=true then#[x,y,z,u]else Rx) WfT
 lt:lim<=W.heap.size
section
variable {Bs:iH->Prop}{lim:Nat}{x y z u:iJ}{da ds:Bool}{va:iJ}{W W':iH}
theorem PS.below(oL:∀W W',Bs W->iK lim W W'->Bs W')(h:PS Bs lim x y z u da ds va W)(hb:iK W.heap.size W W'):PS Bs lim x y z u da ds va W':=by
 exact PQ
theorem PS.made(oL:∀W W',Bs W->iK lim W W'->Bs W')(h:PS Bs lim x y z u false false va W):PS Bs lim x y z u true false (lq (some ⟨W.heap.size,0,none⟩)) (W.alloc (lG Rx WfT)):=
 ⟨oL _ _ h.bs ((iL lim W).alloc h.lt _),λ_=>⟨_,rfl,h.lt,lN.new W Rx WfT⟩,by have:=h.lt;simp;omega⟩
theorem PS.fill(oL:∀W W',Bs W->iK lim W W'->Bs W')(h:PS Bs lim x y z u true false va W):∃b,va=lq (some ⟨b,0,none⟩)/\lN W b Rx WfT/\PS Bs lim x y z u true true va (wu W b x y z u):=by
 obtain⟨b,e,hl,hB⟩:=h.al rfl;have hB:lN W b Rx WfT:=hB;exact⟨b,e,hB,oL _ _ h.bs (qU (iL lim W) hl),λ_=>⟨b,e,hl,pI hB⟩,je h.lt (qU (iL lim W) hl).size⟩
end
def Dq:List kH:=[⟨some 15,.call {callee:=.value (.func 68),args:=#[],argTypes:=#[]},142,"wire.go:86",#[],none⟩,⟨some 16,.fieldAddr 24 (.tmp 2) 0,0,"wire.go:86",#[],none⟩,⟨some 17,.load 3 (.tmp 16),3,"wire.go:86",#[⟨1,.data⟩],none⟩,⟨some 18,.index 142 (.tmp 15) (.tmp 17),141,"wire.go:86",#[⟨0,.data⟩,⟨2,.data⟩],none⟩,⟨some 6,.alloc 141,0,"wire.go:86",#[],none⟩,⟨none,.store 141 (.tmp 6) (.tmp 18),0,"wire.go:86",#[⟨4,.data⟩,⟨3,.data⟩,⟨0,.chain⟩,⟨0,.phase⟩,⟨1,.phase⟩,⟨2,.phase⟩,⟨3,.phase⟩,⟨4,.phase⟩],none⟩]
section
variable (g:Nat)(c:mU)(f1 f2 f3 f4:FuncId)(lim:Nat)(Bs:iH->Prop)
def wI:Nat->iJ
 |0=> lC xz
 |1=> lq (some ⟨g,0,none⟩)
 |2=> lg lH c.fmt
 |3=> lC #[.func (.func f1) #[] #[],.func (.func f2) #[] #[],.func (.func f3) #[] #[],.func (.func f4) #[] #[]]
 |_=>jo
structure VJ(D:Nat->Bool)(vs:Nat->iJ)(w:iH):Prop where
 mh:PS Bs lim (.func (.func f1) #[] #[]) (.func (.func f2) #[] #[]) (.func (.func f3) #[] #[]) (.func (.func f4) #[] #[]) (D 4) (D 5) (vs 4) w
 val:∀j,(j !=4)=true->D j=true->vs j=wI g c f1 f2 f3 f4 j
variable {g c f1 f2 f3 f4 lim Bs}
theorem VK{D:Nat->Bool}{vs:Nat->iJ}{w w':iH}(h:VJ g c f1 f2 f3 f4 lim Bs D vs w){i:Nat}(hi:i≠4/\i≠5)(A:PS Bs lim (.func (.func f1) #[] #[]) (.func (.func f2) #[] #[]) (.func (.func f3) #[] #[]) (.func (.func f4) #[] #[]) (D 4) (D 5) (vs 4) w->PS Bs lim (.func (.func f1) #[] #[]) (.func (.func f2) #[] #[]) (.func (.func f3) #[] #[]) (.func (.func f4) #[] #[]) (D 4) (D 5) (vs 4) w'):VJ g c f1 f2 f3 f4 lim Bs (wV D i) (wW vs i (wI g c f1 f2 f3 f4 i)) w':=by
 refine⟨?_,ry h.val⟩;rw[lT D (show 4≠i by omega)];rw[lT D (show 5≠i by omega)];rw[l8 vs (wI g c f1 f2 f3 f4 i) (show 4≠i by omega)];exact A h.mh
theorem Yc{id:Nat}{Q:Exit->Act->iH->Prop}{U:iH}(oL:∀W V,Bs W->iK lim W V->Bs V)(ht2:a0.tmps.getD 2 jo=lq (some ⟨g,0,none⟩))(hbc:∀W,Bs W->W.cell? ⟨g,0,none⟩=some (lg lH c.fmt))(hix:∀W,kJ iG (jB 142 (lC xz) (lg lH c.fmt)) W=.ok (lC #[.func (.func f1) #[] #[],.func (.func f2) #[] #[],.func (.func f3) #[] #[],.func (.func f4) #[] #[]]) W)(hsz:a0.tmps.size=48)(hI0:∀vs:Nat->iJ,(λw=>PS Bs lim (.func (.func f1) #[] #[]) (.func (.func f2) #[] #[]) (.func (.func f3) #[] #[]) (.func (.func f4) #[] #[]) false false (vs 4) w) U.drew)(Y:∀(vs:Nat->iJ) (w:iH),PS Bs lim (.func (.func f1) #[] #[]) (.func (.func f2) #[] #[]) (.func (.func f3) #[] #[]) (.func (.func f4) #[] #[]) true true (vs 4) w->Q .normal {a0 with tmps:=(((((a0.tmps.setIfInBounds 15 (lC xz)).setIfInBounds 16 (lq (some ⟨g,0,none⟩))).setIfInBounds 17 (lg lH c.fmt)).setIfInBounds 18 (lC #[.func (.func f1) #[] #[],.func (.func f2) #[] #[],.func (.func f3) #[] #[],.func (.func f4) #[] #[]])).setIfInBounds 6 (vs 4))} w):
  (jJ id Dq.toArray true).wp iG Q a0 U:=by
 refine l6 6 48 (VJ g c f1 f2 f3 f4 lim Bs) lQ hsz lQ (.inl rfl) lQ ?_ ?_ ?_;.exact oo
 .refine pO λA ah=> ?_
  clear hI0 Y hsz;replace oL:=iF oL;replace ht2:=iF ht2;replace hbc:=iF hbc;replace hix:=iF hix;unfold Dq;simp only[ji,jC,o6];refine⟨?_,?_,?_,?_,?_,?_,trivial⟩<;>(intro D vs a w K hI hd E hw2 C N;subst ah;unfold Dq)
  .have oL:=oL.out
   have ai:=zQ w;rw[if_pos (by rfl)];go_simp;refine ai.mono ?_;rintro e av ⟨rfl,hb⟩;exact N (wI g c f1 f2 f3 f4 0) _ _ rfl (VK hI (i:=0) lM λh=>h.below oL hb)
  have e2:=(C 2 lM).trans ht2.out;rotate_left;have hbc:=hbc.out;have Z:=fe C hI.val E 16 1;simp only[wI]at Z;have c0:=hbc w hI.mh.bs;rotate_left;have hix:=hix.out;have aa:=fe C hI.val E 15 0;have ae:=fe C hI.val E 17 2;simp only[wI]at aa ae;have q:=hix w;rotate_left
  .have oL:=oL.out
   have J:=hI.mh;have d5:=hw2 5 lM lQ;rw[hd,d5]at J;go_simp;refine N (lq (some ⟨w.heap.size,0,none⟩)) _ _ rfl ⟨?_,Ko rfl hI.val⟩;rw[l7,lT D (show 5≠4 by decide),nI,d5];exact J.made oL
  .have oL:=oL.out
   have d4:=E 4 lM lQ;have af:a.tmps.getD 6 jo=vs 4:=C 6 lM;have ag:=fe C hI.val E 18 3;simp only[wI]at ag;have J:=hI.mh;rw[d4,hd]at J;obtain⟨b,ev,hB,aj⟩:=J.fill oL;have af:=af.trans ev;have z0:=hB.cell 0;have ak:=hB.cell 1;have au:=hB.cell 2;have z3:=hB.cell 3;obtain⟨ax,ay,az,aA⟩:=hB.f4;simp only[Rx,iP,iO,iM]at z0 ak au z3;go_simp;rw[qK];refine N jo _ _ rfl ⟨?_,ry hI.val⟩;rw[l7,lT D (show 4≠5 by decide),l8 vs _ (show 4≠5 by decide),d4];exact aj
  all_goals
   go_simp;exact N _ _ _ rfl ⟨hI.mh,ry hI.val⟩
 .intro D vs w O hI
  have E:=hI.mh;rw[O 4 lM]at E;rw[O 5 lM]at E;have q:=Y vs w E;rw[mQ hI.val O];unfold Dq;exact om
end
end
section
open Go.RowKit Go.Maps
theorem NY(id:Nat)(b A:ByteArray)(w:iH)(hid:id<18446744073709551616)(hb:(mJ id).length+A.size<=65536)(C:iU iG 147 #[ll b] w (p9 A 0 w)):
  iU iG 109 #[lg lI id,ll b] w (p9 (AX id A) 0 w):=by
 have U:=iF (λW=>Qd id A W hid hb);have V:=iF C;obtain⟨Y,O⟩:=lV (p9 (AX id A) 0 w);have Z:=iF O;rw[O];clear hid hb C O;go_in;go_wp2_with fail;refine V.out.mono ?_;rintro e w2 ⟨rfl,E⟩;have J:=iF E;clear E;go_wp2_with fail;refine(U.out _).mono ?_;rintro e w3 ⟨rfl,N⟩;have Q:=iF N;clear N;go_wp2_with fail;try go_returns
 rw[<-Z.out];exact⟨rfl,J.out.trans (Q.out.mono J.out.size)⟩
theorem Li(F:uN)(w:iH):
  iU iG 96 #[lC #[lg lI F.id,ll F.name,ll F.body]] w λe w'=>e=lF (lu (decide (F.name.size=0)))/\iK w.heap.size w w':=by
 have A:=lN.new w #[lg lI F.id,ll F.name,ll F.body] pg;have c1:=A.c1;have C:=iF ((iL w.heap.size w).alloc (iI _) (lG #[lg lI F.id,ll F.name,ll F.body] pg));by_cases h:F.name.size=0
 .have E:(F.name.toList==([]:List UInt8))=true:=by rw[uU];simp[h]
  rw[decide_eq_true h];clear h A;go_in;go_wp2_with fail;go_returns;exact⟨rfl,C.out⟩
 .have E:(F.name.toList==([]:List UInt8))=false:=by rw[uU];simp[h]
  rw[decide_eq_false h];clear h A;go_in;go_wp2_with fail;go_returns;exact⟨rfl,C.out⟩
theorem VL{p:Prop}(h:p:=by
 subst hW;have a1:=(iL w.heap.size w).alloc (iI _) (lG #[lg lH c.fmt,lg lJ c.mag,lg lH c.nK,lg lH c.oF,lg lH c.dep,lg lH c.mX] rC);have k2:=lN.new (w.alloc (lG #[lg lH c.fmt,lg lJ c.mag,lg lH c.nK,lg lH c.oF,lg lH c.dep,lg lH c.mX] rC)) #[lg lI F.id,ll F.name,ll F.body] pg;rw[show(w.alloc (lG #[lg lH c.fmt,lg lJ c.mag,lg lH c.nK,lg lH c.oF,lg lH c.dep,lg lH c.mX] rC)).heap.size=g+1 by simp[hg]]at k2;exact⟨(hg▸lN.new w _ _:lN _ g _ _).alloc _,k2,a1.alloc lU _⟩):p:=h
theorem VM(c:mU)(F:uN)(A:ByteArray)(w:iH)(hid:F.id<18446744073709551616)(aa:(F.body.size:Int)<=c.oF)(ag:F.body.size<=100000)(hb:(mJ F.id).length+A.size<=65536)(E:∀W,iK w.heap.size w W->iU iG 147 #[ll F.body] W (p9 A 0 W)):
  iU iG 108 #[lC #[lg lH c.fmt,lg lJ c.mag,lg lH c.nK,lg lH c.oF,lg lH c.dep,lg lH c.mX],lC #[lg lI F.id,ll F.name,ll F.body]] w (p9 (AX F.id A) 0 w):=by
 obtain⟨g,hg⟩:=lV w.heap.size;have J:iW (∀W,(w.alloc (lG #[lg lH c.fmt,lg lJ c.mag,lg lH c.nK,lg lH c.oF,lg lH c.dep,lg lH c.mX] rC)).alloc (lG #[lg lI F.id,ll F.name,ll F.body] pg)=W->lN W g #[lg lH c.fmt,lg lJ c.mag,lg lH c.nK,lg lH c.oF,lg lH c.dep,lg lH c.mX] rC/\lN W (g+1) #[lg lI F.id,ll F.name,ll F.body] pg/\iK w.heap.size w W):=iF λW hW=>by
  exact VL
 have V:=iF (λ(W:iH) (hW:iK w.heap.size w W)=>NY F.id F.body A W hid hb (E W hW));have ai:decide ((F.body.size:Int)>c.oF)=false:=lW;have ah:decide (c.oF<(F.body.size:Int))=false:=lW;obtain⟨ae,Q⟩:=lV (p9 (AX F.id A) 0 w);have af:=iF Q;rw[Q];clear hid aa hb E Q;go_in;go_upto_region 1 with fail;obtain⟨hc,U,C⟩:=J.out _ rfl;generalize (w.alloc _).alloc _=w1 at*;have c3:=hc.c3;have aj:=U.c0;have f2:=U.c2;have N:=iF C;have Y:=iF (V.out w1 C);clear hc U C J V;go_wp2_with fail;refine Y.out.mono ?_;rintro e w2 ⟨rfl,O⟩;have Z:=iF O;clear O;go_wp2_with fail;try go_returns
 rw[<-af.out];exact⟨rfl,N.out.trans (Z.out.mono N.out.size)⟩
theorem Ry(c:mU)(F:uN)(aa:ByteArray)(w:iH)(hc:mK c=true)(au:c.wf)(aJ:c.fmt=3)(av:F.name.size=0)(hid:F.id<18446744073709551616)(aK:(F.body.size:Int)<=c.oF)(ax:F.body.size<=100000)(hb:(mJ F.id).length+aa.size<=65536)(af:(AX F.id aa).size<=jb)(ay:∀W,iK w.heap.size w W->iU iG 147 #[ll F.body] W (p9 aa 0 W))(ag:(VV (rM c.nK c.oF (AX F.id aa) none).1).e≠5):
  iU iG 37 #[lC #[lg lH c.fmt,lg lJ c.mag,lg lH c.nK,lg lH c.oF,lg lH c.dep,lg lH c.mX],lC #[lg lI F.id,ll F.name,ll F.body]] w (p9 (AX F.id aa) 0 w):=by
 obtain⟨g,hg⟩:=lV w.heap.size;have az:iW (∀W,(w.alloc (lG #[lg lH c.fmt,lg lJ c.mag,lg lH c.nK,lg lH c.oF,lg lH c.dep,lg lH c.mX] rC)).alloc (lG #[lg lI F.id,ll F.name,ll F.body] pg)=W->lN W g #[lg lH c.fmt,lg lJ c.mag,lg lH c.nK,lg lH c.oF,lg lH c.dep,lg lH c.mX] rC/\lN W (g+1) #[lg lI F.id,ll F.name,ll F.body] pg/\iK w.heap.size w W):=iF λW hW=>by
  exact VL
 have aL:iW (∀W,iU iG 67 #[lC #[lg lH c.fmt,lg lJ c.mag,lg lH c.nK,lg lH c.oF,lg lH c.dep,lg lH c.mX]] W λe w'=>e=lF (lu true)/\iK W.heap.size W w'):=iF λW=>hc▸zl c W
 have aQ:iW (∀W,iU iG 96 #[lC #[lg lI F.id,ll F.name,ll F.body]] W λe w'=>e=lF (lu true)/\iK W.heap.size W w'):=iF λW=>by have:=Li F W;rwa [decide_eq_true av]at this
 have aM:=iF (λ(W:iH) (hW:iK w.heap.size w W)=>VM c F aa W hid aK ax hb λaR aN=>ay aR (hW.trans (aN.mono hW.size)));obtain⟨P,aA⟩:=lV (AX F.id aa);rw[aA]at af ag aM⊢;obtain⟨y,aH⟩:=lV (VV (rM c.nK c.oF P none).1);have aS:iW (∀W,iU iG 110 #[lC #[lg lH c.fmt,lg lJ c.mag,lg lH c.nK,lg lH c.oF,lg lH c.dep,lg lH c.mX],lq none,ll P] W λe w'=>e=lF (lD #[lC #[lg lI y.id,ll y.name,ll y.body],lg lH y.n,lg lH y.e])/\iK W.heap.size W w'):=iF λW=>(DK c P none W af hc au trivial).mono λe w' h=>by
  obtain⟨ah,_,aO⟩:=Gb.1 h;rw[aH]at aO;exact⟨aO,ah.os,ah.tape,ah.output,ah.size,λk hk=>ah.block k hk (by simp[mr])⟩
 rw[aH]at ag;have aV:((y.e:Int)==5)=false:=sQ;have aB:iW (∀W,kJ iG (jB 142 (lC xz) (lg lH c.fmt)) W=.ok (lC #[.func (.func 96) #[] #[],.func (.func 108) #[] #[],.func (.func 110) #[] #[],.func (.func 107) #[] #[]]) W):=iF (aJ▸Oy);obtain⟨aT,aI⟩:=lV (p9 P 0 w);have aU:=iF aI;rw[aI];clear hc au aJ av hid aK ax hb af ay ag aI aA aH;go_in;go_upto_region 1 with fail;obtain⟨ai,aC,aD⟩:=az.out _ rfl;generalize (w.alloc _).alloc _=w1 at*;obtain⟨c0,c1,c2,c3,c4,c5⟩:=ai.a6;have N:=iF (iQ ai (iQ aC aD));clear ai aC aD az;go_wp2_with fail;refine(aL.out _).mono ?_;rintro e w2 ⟨rfl,ae⟩;have J:iW (lN w2 g #[lg lH c.fmt,lg lJ c.mag,lg lH c.nK,lg lH c.oF,lg lH c.dep,lg lH c.mX] rC/\lN w2 (g+1) #[lg lI F.id,ll F.name,ll F.body] pg/\iK w.heap.size w w2):=iF ⟨Below.blk ae N.out.1 N.out.1.lt,Below.blk ae N.out.2.1 N.out.2.1.lt,N.out.2.2.trans (ae.mono N.out.2.2.size)⟩;clear c0 c1 c2 c3 c4 c5 ae N aL;go_upto_region 3 with fail;refine Yc (g:=g) (c:=c) (f1:=96) (f2:=108) (f3:=110) (f4:=107) (lim:=w2.heap.size) (Bs:=iK w2.heap.size w2) (ht2:=by rfl) (oL:=λ_ _ h hb=>h.trans hb) (hbc:=λW hW=>(Below.blk hW J.out.1 J.out.1.lt).cell 0) (hix:=aB.out) (hsz:=by rfl) (hI0:=λ_=>⟨mf w2,(λh=>by cases h),(mf w2).size⟩) ?_;intro vs W3 hF;obtain⟨b,ev,aP,aF⟩:=hF.al rfl;have C:iW (lN W3 g #[lg lH c.fmt,lg lJ c.mag,lg lH c.nK,lg lH c.oF,lg lH c.dep,lg lH c.mX] rC/\lN W3 (g+1) #[lg lI F.id,ll F.name,ll F.body] pg/\iK w.heap.size w W3/\lN W3 b #[.func (.func 96) #[] #[],.func (.func 108) #[] #[],.func (.func 110) #[] #[],.func (.func 107) #[] #[]] WfT):=iF ⟨Below.blk hF.bs J.out.1 J.out.1.lt,Below.blk hF.bs J.out.2.1 J.out.2.1.lt,J.out.2.2.trans (hF.bs.mono J.out.2.2.size),aF⟩;clear hF aP aF J aB;simp only[iN,iR,iT];rw[ev];obtain⟨O,Q,U⟩:=C.out.2.2.2.a3;obtain⟨c0,c1,c2,c3,c4,c5⟩:=C.out.1.a6;obtain⟨z0,aj,ak⟩:=C.out.2.1.a3;go_wp2_with fail;refine(aQ.out _).mono ?_;rintro e aW ⟨rfl,V⟩;have A:=iF (iQ (Below.blk V C.out.1 C.out.1.lt) (iQ (Below.blk V C.out.2.1 C.out.2.1.lt) (iQ (C.out.2.2.1.trans (V.mono C.out.2.2.1.size)) (Below.blk V C.out.2.2.2 C.out.2.2.2.lt))));clear V O Q U c0 c1 c2 c3 c4 c5 z0 aj ak;obtain⟨O,Q,U⟩:=A.out.2.2.2.a3;obtain⟨c0,c1,c2,c3,c4,c5⟩:=A.out.1.a6;obtain⟨z0,aj,ak⟩:=A.out.2.1.a3;go_wp2_with fail;refine(aM.out _ A.out.2.2.1).mono ?_;rintro e aX ⟨rfl,Y⟩;have E:=iF (iQ (Below.blk Y A.out.1 A.out.1.lt) (iQ (Below.blk Y A.out.2.1 A.out.2.1.lt) (iQ (A.out.2.2.1.trans (Y.mono A.out.2.2.1.size)) (Below.blk Y A.out.2.2.2 A.out.2.2.2.lt))));clear Y O Q U c0 c1 c2 c3 c4 c5 z0 aj ak;obtain⟨O,Q,U⟩:=E.out.2.2.2.a3;obtain⟨c0,c1,c2,c3,c4,c5⟩:=E.out.1.a6;obtain⟨z0,aj,ak⟩:=E.out.2.1.a3;go_wp2_with fail;refine(aS.out _).mono ?_;rintro e aY ⟨rfl,Z⟩;have aG:=iF (iQ (Below.blk Z E.out.1 E.out.1.lt) (iQ (Below.blk Z E.out.2.1 E.out.2.1.lt) (iQ (E.out.2.2.1.trans (Z.mono E.out.2.2.1.size)) (Below.blk Z E.out.2.2.2 E.out.2.2.2.lt))));clear Z O Q U c0 c1 c2 c3 c4 c5 z0 aj ak;go_wp2_with fail;try go_returns
 rw[<-aU.out];exact⟨rfl,aG.out.2.2.1.trans ((iL _ _).alloc aG.out.2.2.1.size _)⟩
end
section
open Go.RowKit
theorem qW(P:kg)(g o:Nat)(t:jg)(C:Nat×Nat):∀(vs:List iJ)(i:Nat)(A:Array iJ)(w:iH),w.heap[g]? =some (lG A t C)->(C.2<=C.1\/A.size<=C.1)->o+i+vs.length<=A.size->(∀v∈vs,v.oneCell'=true)->
  (storeCells ⟨g,o,none⟩ vs i).run P w=.ok () (w.setRow g (A.toList.take (o+i)++vs++A.toList.drop (o+i+vs.length)).toArray)
 |[],i,A,w,hg,_,_,_=>by
  simp only[storeCells,List.append_nil,List.length_nil,Nat.add_zero,List.take_append_drop,Array.toArray_toList];rw[setRow_self w g A t C hg];rfl
 |v::rest,i,A,w,hg,J,hl,Q=>by
  have hi:o+i<A.size:=by simp at hl;omega
  have N:(⟨g,o,none⟩:kr).add i=⟨g,o+i,none⟩:=EZ;have E:w.cell? ⟨g,o+i,none⟩=some A[o+i]:=by simp[kZ,hg,hi]
  have O:w.frozen? ⟨g,o+i,none⟩=false:=by
   obtain⟨Y,U⟩:=C;simp only at J;have:¬(Y<=o+i/\o+i<U):=lK;simpa [World.frozen?,hg]using this
  have V:(store ((⟨g,o,none⟩:kr).add i) v).run P w=.ok () (w.setRow g (A.setIfInBounds (o+i) v)):=by
   rw[N,run_store P w _ v _ (Q v lU),E];simp[O,setCell_eq_setRow w g (o+i) A t C v hg]
  have Z:=qW P g o t C rest (i+1) (A.setIfInBounds (o+i) v) (w.setRow g (A.setIfInBounds (o+i) v)) (setRow_heap w g A _ t _ hg) (by simpa using J) (by simp at hl⊢;omega) (λx aa=>Q x (by simp[aa]));simp only[storeCells,Sem.run_bind,V,Result.andThen_ok,Z,setRow_setRow];congr 3;have e:=list_seg_step A.toList (o+i) v rest (by simp at hl⊢;omega);simpa [Array.toList_setIfInBounds,jI]using e
def qa(w:iH)(B:Nat)(e:jg)(v:iJ)(l:List UInt8):Prop:=
 (v=lh none 0 0/\l=[])\/∃g cap A C,v=lh (some ⟨g,0,none⟩) l.length cap/\B<=g/\w.heap[g]? =some (lG A e C)/\(C.2<=C.1\/A.size<=C.1)/\l.length<=cap/\cap<=jb/\A.size=cap/\A.toList.take l.length=l5 l
section
variable {P:kg}{t e s:jg}{w w':iH}{B:Nat}{v:iJ}{l:List UInt8}
theorem qa.of(h:mI w B e v l):qa w B e v l:=by
 obtain⟨V,A⟩:=h;rcases A with⟨rfl,A⟩|⟨g,cap,C,E,hg,J,N,O,Q,U⟩
 .exact .inl ⟨rfl,List.eq_nil_of_length_eq_zero A⟩
 .exact .inr ⟨g,cap,C,(0,0),E,hg,J,.inl (iI _),N,O,by simpa using Q,by simpa using U⟩
theorem qa.blk(h:qa w B e v l):∀b,v.ownBlock=some b->B<=b/\b<w.heap.size:=by
 intro k hk;rcases h with⟨rfl,_⟩|⟨g,cap,A,C,rfl,hb,hg,_⟩
 .simp[jw]at hk
 .simp[jw]at hk
  subst hk;exact⟨hb,(jk.1 hg).1⟩
theorem qa.kp{F:Nat->Prop}(h:qa w B e v l)(k:qp F w w')(hn:∀b,v.ownBlock=some b->¬F b):qa w' B e v l:=by
 rcases h with h|⟨g,cap,A,J,C,hg,E,r⟩
 .exact .inl h
 .exact .inr ⟨g,cap,A,J,C,hg,by rw[k.block g (jk.1 E).1 (hn g (by rw[C];rfl))];exact E,r⟩
theorem qa.below(h:qa w B e v l)(hb:iK w.heap.size w w'):qa w' B e v l:=h.kp (F:=λ_=>False) (qp.of hb) λ_ _ h=>h
theorem qa.alloc(h:qa w B e v l)(o:Obj):qa (w.alloc o) B e v l:=h.below ((iL w.heap.size w).alloc (iI _) o)
theorem qa.base{C:Nat}(h:qa w B e v l)(E:C<=B):qa w C e v l:=by
 rcases h with h|⟨g,cap,A,J,N,hg,r⟩
 .exact .inl h
 .exact .inr ⟨g,cap,A,J,N,je E hg,r⟩
theorem qa.cells(h:qa w B e v l){g:Nat}(hg:v.ownBlock=some g):∀j u,(l5 l)[j]? =some u->w.cell? ⟨g,j,none⟩=some u:=by
 intro j u A;rcases h with⟨rfl,_⟩|⟨J,cap,C,N,rfl,_,E,_,_,_,_,htake⟩
 .simp[jw]at hg
 .simp[jw]at hg
  subst hg;rw[cell_of_row w J j C e N E];rw[<-htake,List.getElem?_take]at A;split at A;.simpa using A
  .cases A
theorem qa.string(T:oN P t e s)(h:qa w B e v l):(convert t s v).run P w=.ok (ll ⟨l.toArray⟩) w:=by
 rcases h with⟨rfl,rfl⟩|⟨g,cap,C,J,rfl,hb,hg,E,A,N,hsz,htake⟩
 .exact Oc
 .have h:qa w B e (lh (some ⟨g,0,none⟩) l.length cap) l:=.inr ⟨g,cap,C,J,rfl,hb,hg,E,A,N,hsz,htake⟩
  refine run_convert_bytes_back w t s e ⟨g,0,none⟩ cap l T.ht T.he T.hs λj O=> ?_
  have:=h.cells (g:=g) rfl j (lg .u8 (l[j].toNat:Int)) (by simp[l5,iZ O]);have e1:(⟨g,0,none⟩:kr).add j=⟨g,j,none⟩:=EZ;rw[e1];exact this
theorem VN{p:Prop}(h:p:=by
 have:=qa.cells (.inr ⟨g,cap,cur,fz,rfl,hbg,hg,hfz,hnc,hcm,hcs,htake⟩:qa w B e (lh (some ⟨g,0,none⟩) l.length cap) l) (g:=g) rfl j u hu;have e1:(⟨g,0,none⟩:kr).add j=⟨g,j,none⟩:=EZ;rw[e1];exact this):p:=h
theorem IZ(T:oN P t e s)(ty:jg)(h:qa w B e v l)(m:List UInt8)(a:kr)(c:Nat)(C:∀j u,(l5 m)[j]? =some u->w.cell? (a.add j)=some u)(hlen:l.length+m.length<=140737488355328)(hB:B<=w.heap.size):
  ∃v' w',(Builtin.append_ #[t,t] ty #[v,lh (some a) m.length c]).run P w=.ok v' w'/\qa w' B e v' (l++m)/\w.grownBy w' v.ownBlock/\(v'.ownBlock=v.ownBlock\/∃g,v'.ownBlock=some g/\w.heap.size<=g):=by
 obtain⟨i,hi,Q,A,J⟩:=info_parts T.hi;rcases h with⟨rfl,rfl⟩|⟨g,cap,cur,fz,rfl,hbg,hg,hfz,hnc,hcm,hcs,htake⟩
 .obtain⟨v',w',U,Y,Z,ag⟩:=run_append_own (P:=P) w B t ty e i (lg .u8 0) 1 1 T.ht hi Q A J rfl lM (lh none 0 0) 0 [] (World.ownsRow_nil w B e 1) a m.length c (l5 m) lU C (si m) AV lK hB
  refine⟨v',w',U,qa.of ?_,Z,?_⟩
  .show w'.ownsRow B e 1 v' (([]:List UInt8)++m).length (l5 ([]++m))
   simpa using Y
  .rcases Y.2 with⟨rfl,_⟩|⟨g,cap,cur,rfl,hb,hg,_⟩
   .exact .inl rfl
   .refine .inr ⟨g,rfl,?_⟩
    by_cases ah:m.length=0;.have:=(ag.2 ⟨rfl,ah⟩);cases this
    .have hlt:=(jk.1 hg).1
     refine Nat.le_of_not_lt λaa=> ?_
     have aj:=Z.block g aa (by simp[jw]);obtain⟨ak,hi2,_⟩:=info_parts T.hi;have V:=run_append_nil (P:=P) w t ty e i (lg .u8 0) T.ht hi Q a m.length c (l5 m) (by simp[A]) C lK lK (by rw[J];omega);rw[V]at U;simp only[Result.ok.injEq,Value.slice.injEq,kM,Addr.mk.injEq]at U;omega
 .by_cases E:l.length+m.length<=cap
  .have ai:=run_firstCells_some (P:=P) w i.size m.length a m.length c (l5 m) (by simp[A]) C
   have O:=qW P g (l.length*i.size) e fz (l5 m) 0 cur w hg hfz (by simp[A];omega) (si m);simp only[Nat.add_zero]at O;refine⟨lh (some ⟨g,0,none⟩) (l.length+m.length) cap,w.setRow g (cur.toList.take (l.length*i.size)++l5 m++cur.toList.drop (l.length*i.size+(l5 m).length)).toArray,?_,.inr ⟨g,cap,_,fz,lU,hbg,setRow_heap w g cur _ e _ hg,?_,by simpa using E,hcm,?_,?_⟩,⟨rfl,rfl,rfl,lU,λk _ hk=>setRow_other w g k _ (λe=>hk (by simp[jw,e]))⟩,.inl rfl⟩;.simp[Builtin.append_,run_underlying T.ht,sizeOf,typeInfo,hi,Builtin.lenOf,E,ai,Addr.add_lit,O]
   .simp only[kV,jv,ky,jS,jM,o8,A,Nat.mul_one]
    rcases hfz with h|h
    .exact .inl h
    .exact .inr lK
   .simp only[kV,jv,ky,jS,jM,o8,A,Nat.mul_one]
    omega
   .simp only[A,Nat.mul_one]
    rw[htake,nQ];exact List.take_left' lU
  .have N:∀j u,(l5 l)[j]? =some u->w.cell? ((⟨g,0,none⟩:kr).add j)=some u:=λj u hu=>by
    exact VN
   have V:=run_append_grow (P:=P) w t ty e i (lg .u8 0) T.ht hi Q ⟨g,0,none⟩ l.length cap (l5 l) (by simp[A]) N a m.length c (l5 m) (by simp[A]) C lK lK (growslice_fits lK (by rw[J];omega));have ae:=grownCap_ge w (l.length+m.length) cap e;refine⟨_,_,V,.inr ⟨w.heap.size,grownCap w (l.length+m.length) cap e,_,(0,0),lU,hB,heap_alloc_new w.drew _,.inl (iI _),by simpa using ae,grownCap_le_maxLen w _ cap e AV,?_,?_⟩,⟨rfl,rfl,rfl,lU,λk hk _=>heap_alloc_old w.drew _ hk⟩,.inr ⟨_,rfl,iI _⟩⟩
   .have af:(Value.int IntKind.u8 0).cells.size=1:=rfl
    simp only[Array.size_append,kV,size_zeroCells,af,o8];omega
   .simp only[Array.toList_append,List.append_assoc]
    rw[<-List.append_assoc,<-nQ];exact List.take_left' lU
theorem NZ(T:oN P t e s){rest:List kH}{o:kH}{a:Act}{Q:Exit->Act->iH->Prop}(J:o.guard=none)(x y:Operand)(ho:o.op=.call {callee:=.builtin .append,args:=#[x,y],argTypes:=#[t,t]})(B:Nat)(v:iJ)(l m:List UInt8)(k:Nat)(hk:k=m.length)(w:iH)(cs:Array iJ)(N:cs.toList=l5 m)(Y:a.eval x=v)(E:qa w B e v l)(Z:a.eval y=lh (some ⟨w.heap.size,0,none⟩) k k)(hlen:l.length+k<=140737488355328)(hB:B<=w.heap.size)(h:∀v' w',qa w' B e v' (l++m)->w.grownBy w' v.ownBlock->(v'.ownBlock=v.ownBlock\/∃g,v'.ownBlock=some g/\w.heap.size<=g)->wpList P ops Q rest (a.put o.dst v') w'):
  wpList P ops Q (o::rest) a (w.alloc (lG cs e)):=by
 subst hk;have O:=(iL w.heap.size w).alloc (iI _) (lG cs e);have U:=lN.new w cs e;obtain⟨v',w',aa,ae,A,C⟩:=IZ (w:=w.alloc (lG cs e)) T o.type (E.alloc _) m ⟨w.heap.size,0,none⟩ m.length (λj u af=>by
  have e1:(⟨w.heap.size,0,none⟩:kr).add j=⟨w.heap.size,j,none⟩:=EZ;rw[e1,U.cell,<-af,<-N,Array.getElem?_toList]) hlen lW
 refine wpList_plain J λK ag=> ?_
 unfold Oper.wp execOp;simp only[ho,resolve,invoke,builtin,Sem.run_bind,Sem.run_pure,Result.andThen_ok,List.map_toArray,kY,List.map_nil,Y,Z,aa];refine ag _ _ (h v' w' ae ⟨A.os,A.tape,A.output,by have:=A.size;simp at this;omega,λc hc V=>(A.block c lW V).trans (O.block c hc)⟩ ?_);rcases C with C|⟨g,C,ah⟩
 .exact .inl C
 .exact .inr ⟨g,C,by simp at ah;omega⟩
theorem N7(T:oN P t e s){rest:List kH}{o:kH}{a:Act}{Q:Exit->Act->iH->Prop}(ae:o.guard=none)(x y:Operand)(ho:o.op=.call {callee:=.builtin .append,args:=#[x,y],argTypes:=#[t,s]})(B:Nat)(v:iJ)(l:List UInt8)(S:ByteArray)(w:iH)(ah:a.eval x=v)(aa:qa w B e v l)(ai:a.eval y=ll S)(hlen:l.length+S.size<=140737488355328)(hB:B<=w.heap.size)(h:∀v' w',qa w' B e v' (l++S.data.toList)->w.grownBy w' v.ownBlock->(v'.ownBlock=v.ownBlock\/∃g,v'.ownBlock=some g/\w.heap.size<=g)->wpList P ops Q rest (a.put o.dst v') w'):
  wpList P ops Q (o::rest) a w:=by
 obtain⟨i,hi,af,C,Y⟩:=info_parts T.hi;have e1:Lib.strCells S=l5 S.data.toList:=by simp[Lib.strCells,l5]
 have A:S.data.toList.length=S.size:=jM;refine wpList_plain ae λK aj=> ?_
 suffices∃v' w',(Builtin.append_ #[t,s] o.type #[v,ll S]).run P w=.ok v' w'/\qa w' B e v' (l++S.data.toList)/\w.grownBy w' v.ownBlock/\(v'.ownBlock=v.ownBlock\/∃g,v'.ownBlock=some g/\w.heap.size<=g)by
  obtain⟨v',w',J,ak,au,av⟩:=this;unfold Oper.wp execOp;simp only[ho,resolve,invoke,builtin,Sem.run_bind,Sem.run_pure,Result.andThen_ok,List.map_toArray,kY,List.map_nil,ah,ai,J];exact aj _ _ (h v' w' ak au av)
 rcases aa with⟨rfl,rfl⟩|⟨g,cap,cur,fz,rfl,hbg,hg,hfz,hnc,hcm,hcs,htake⟩
 .by_cases h0:S.size=0
  .have hn:S.data.toList=[]:=List.eq_nil_of_length_eq_zero lK
   have U:=Lib.run_firstCells_string (P:=P) w 1 S;refine⟨lh none 0 0,w,?_,.inl ⟨rfl,by rw[hn];rfl⟩,⟨rfl,rfl,rfl,iI _,λ_ _ _=>rfl⟩,.inl rfl⟩;rw[h0]at U;have ag:Lib.strCells S=[]:=by rw[e1,hn];rfl
   simp[Builtin.append_,run_underlying T.ht,run_underlying T.hs,sizeOf,typeInfo,hi,C,Builtin.lenOf,h0,U,ag,storeCells]
  .have J:=run_append_nil_string (P:=P) w t s o.type e i (lg .u8 0) T.ht T.hs hi af S lK (by simp at hlen;omega) (by rw[Y];simp at hlen;omega)
   have N:=grownCap_ge w S.size 0 e;refine⟨_,_,J,.inr ⟨w.heap.size,grownCap w S.size 0 e,_,(0,0),by simp[A],hB,heap_alloc_new w.drew _,.inl (iI _),by simpa [A]using N,grownCap_le_maxLen w _ 0 e (by simp at hlen;unfold jb;omega),?_,?_⟩,⟨rfl,rfl,rfl,lU,λk hk _=>heap_alloc_old w.drew _ hk⟩,.inr ⟨_,rfl,iI _⟩⟩
   .have O:(Value.int IntKind.u8 0).cells.size=1:=rfl
    have ax:S.data.size=S.size:=rfl;simp only[Array.size_append,Array.size_map,size_zeroCells,O,ax];omega
   .simp only[Array.toList_append,Array.toList_map,List.nil_append]
    exact List.take_left' lU
 .by_cases E:l.length+S.size<=cap
  .have U:=Lib.run_firstCells_string (P:=P) w 1 S
   have Z:=qW P g l.length e fz (Lib.strCells S) 0 cur w hg hfz (by simp[Lib.strCells_length];omega) (Lib.strCells_oneCell S);simp only[Nat.add_zero,Lib.strCells_length]at Z;refine⟨lh (some ⟨g,0,none⟩) (l.length+S.size) cap,w.setRow g (cur.toList.take l.length++Lib.strCells S++cur.toList.drop (l.length+S.size)).toArray,?_,.inr ⟨g,cap,_,fz,by simp[A],hbg,setRow_heap w g cur _ e _ hg,?_,by simpa [A]using E,hcm,?_,?_⟩,⟨rfl,rfl,rfl,lU,λk _ hk=>setRow_other w g k _ (λe=>hk (by simp[jw,e]))⟩,.inl rfl⟩;.simp[Builtin.append_,run_underlying T.ht,run_underlying T.hs,sizeOf,typeInfo,hi,C,Builtin.lenOf,E,U,Addr.add_lit,Z]
   .simp only[kV,jv,ky,jS,jM,Lib.strCells_length]
    rcases hfz with h|h
    .exact .inl h
    .exact .inr lK
   .simp only[kV,jv,ky,jS,jM,Lib.strCells_length]
    omega
   .rw[htake,nQ,e1]
    exact List.take_left' lU
  .have V:∀j u,(l5 l)[j]? =some u->w.cell? ((⟨g,0,none⟩:kr).add j)=some u:=λj u hu=>by
    exact VN
   have J:=Lib.run_append_grow_string (P:=P) w t s o.type e i (lg .u8 0) T.ht T.hs hi af ⟨g,0,none⟩ l.length cap (l5 l) (by simp[C]) V S lK lK (by rw[Y];exact growslice_fits lK lK);have N:=grownCap_ge w (l.length+S.size) cap e;refine⟨_,_,J,.inr ⟨w.heap.size,grownCap w (l.length+S.size) cap e,_,(0,0),by simp[A],hB,heap_alloc_new w.drew _,.inl (iI _),by simpa [A]using N,grownCap_le_maxLen w _ cap e AV,?_,?_⟩,⟨rfl,rfl,rfl,lU,λk hk _=>heap_alloc_old w.drew _ hk⟩,.inr ⟨_,rfl,iI _⟩⟩
   .have O:(Value.int IntKind.u8 0).cells.size=1:=rfl
    simp only[Array.size_append,kV,size_zeroCells,O,o8,Lib.strCells_length];omega
   .simp only[Array.toList_append,List.append_assoc]
    rw[<-List.append_assoc,e1,<-nQ];exact List.take_left' lU
end
end
section
open Go.RowKit Go.Maps
theorem N8(n:Nat)(h:n<=65536):(mJ n).length<=10:=by
 have:=uh 3 n lK;omega
end
section
open Go.RowKit
structure I1(B:Nat)(v:iJ)(w:iH)(v':iJ)(l:List UInt8)(w':iH):Prop where
 own:qa w' B 5 v' l
 kp:qp (λd=>v.ownBlock=some d) w w'
 at_:v'.ownBlock=v.ownBlock\/∃g,v'.ownBlock=some g/\w.heap.size<=g
theorem I1.of{B:Nat}{v v':iJ}{w w':iH}{l:List UInt8}(h:qa w' B 5 v' l)(k:w.grownBy w' v.ownBlock)(a:v'.ownBlock=v.ownBlock\/∃g,v'.ownBlock=some g/\w.heap.size<=g):I1 B v w v' l w':=⟨h,qp.grown k λ_ e=>e,a⟩
theorem I1.trans{B:Nat}{v v' v2:iJ}{w w' w2:iH}{l l2:List UInt8}(h:I1 B v w v' l w')(k:I1 B v' w' v2 l2 w2):I1 B v w v2 l2 w2:=by
 refine⟨k.own,h.kp.trans k.kp λc hc A=> ?_,?_⟩
 .rcases h.at_ with e|⟨g,e,hg⟩
  .rw[e]at A;exact A
  .rw[e]at A;cases A;omega
 .rcases k.at_ with e|⟨g,e,hg⟩
  .rw[e];exact h.at_
  .exact .inr ⟨g,e,je h.kp.size hg⟩
end
section
open Go.RowKit Go.Maps
theorem ES{P:kg}{t e s:jg}(T:oN P t e s)(S:ByteArray)(N:S.size<=1000000)(w:iH):
  ∃cap w',(convert s t (ll S)).run P w=.ok (lh (some ⟨w.heap.size,0,none⟩) S.size cap) w'/\qa w' w.heap.size e (lh (some ⟨w.heap.size,0,none⟩) S.size cap) S.data.toList/\iK w.heap.size w w'/\w'.heap.size=w.heap.size+1/\S.size<=cap/\cap<=jb:=by
 have A:S.data.toList.length=S.size:=jM;have C:=grownCap_ge w S.size 0 e;have E:=grownCap_le_maxLen w S.size 0 e AV;refine⟨_,_,run_bytes_of_string w s t e S T.hs T.ht T.he,.inr ⟨w.heap.size,grownCap w S.size 0 e,_,_,by rw[A],iI _,heap_alloc_new w.drew _,.inr (iI _),by rw[A];exact C,E,?_,?_⟩,((iL _ _).drew).alloc (iI _) _,lU,C,E⟩
 .have J:S.data.size=S.size:=rfl
  simp only[bytesRow,Array.size_append,Array.size_map,Array.size_replicate,J];omega
 .simp only[bytesRow,Array.toList_append,Array.toList_map]
  rw[List.take_left' lU];rfl
theorem a3G(B:Nat)(v:iJ)(l:List UInt8)(s:ByteArray)(w:iH)(J:qa w B 5 v l)(hl:l.length<=1000)(h0:s.size≠0)(U:s.size<=60)(hB:B<=w.heap.size):
  iU iG 185 #[v,ll s] w λe w'=>∃v',e=lF v'/\I1 B v w v' (l++[jl (4*(s.size - 1))]++s.data.toList) w':=by
 have t0:((s.size:Int)==0)=false:=sQ;go_in
 go_wp2_with (first
  |(at_builtin;refine NZ RD rfl _ _ rfl B v l [jl (4*(s.size - 1))] 1 rfl w _ (Dr (n:=4*(s.size - 1)) lK lK) rfl J rfl lK hB ?_;intro v' w' C A E;have N:=iF (I1.of C A E);have O:=je hB A.size;clear C A E)
  |(at_builtin;refine N7 RD rfl _ _ rfl B v' (l++[jl (4*(s.size - 1))]) s w' rfl N.out.own rfl lW O ?_;intro v2 w3 C A E;have Q:=iF (I1.of C A E);clear C A E))
 go_returns;exact⟨_,rfl,N.out.trans Q.out⟩
def S7(w0:iH)(g:Nat)(A:iJ)(out:List UInt8)(W:iH):Prop:=qa W (g+1) 5 A out/\iK g w0 W/\g+1<=W.heap.size
theorem a1M(s:ByteArray)(w:iH)(h0:s.size≠0)(aL:s.size<4):
  iU iG 147 #[ll s] w (p9 ⟨(mJ s.size++[jl (4*(s.size - 1))]++s.data.toList).toArray⟩ 0 w):=by
 have bg:=@run_makeMap iG;obtain⟨g,hg⟩:=lV w.heap.size;obtain⟨cap,w1,E,aC,U,af,_,_⟩:=ES RD s lK w;have aD:iW (∀v l W,qa W (g+1) 5 v l->l.length<=1000->g+1<=W.heap.size->_):=iF λv l W aM aN aO=>a3G (g+1) v l s W aM aN h0 lK aO
 have ag:iW (s.extract 0 s.size=s):=iF (ByteArray.extract_zero_size);obtain⟨N,av⟩:=lV s.size;have aF:=ag;rw[av]at aD⊢;obtain⟨bz,ax⟩:=lV (mJ N++[jl (4*(N - 1))]++s.data.toList);have aP:=iF ax;rw[ax];have ay:=iF (GX N w1 lK);have ah:=N8 N lK;rw[hg]at E af U;rw[av]at h0 aL E;have aG:=iF U;have aQ:=iF hg;have aR:=iF av;obtain⟨C,V⟩:∃S:ByteArray,(⟨(mJ N).toArray⟩:ByteArray)=S:=⟨_,rfl⟩;have Y:C.data.toList=mJ N:=by rw[<-V]
 have ai:=iF Y;have aj:=iF ah;rw[V]at ay;clear aC U V Y ah ag ax;go_in;go_wp2_with fail;refine ay.out.mono ?_;rintro e w2 ⟨rfl,J⟩;obtain⟨A,w3,Z,O,ak,aH,_,_⟩:=ES RD C (by have:=aj.out;have e:C.data.toList.length=C.size:=jM;rw[ai.out]at e;omega) w2;obtain⟨g2,au⟩:=lV w2.heap.size;have az:g+1<=g2:=by have:=J.size;omega
 have aI:iW (∀W,w3.alloc (.map #[] 0)=W->S7 w g (lh (some ⟨g2,0,none⟩) C.size A) (mJ N) W):=iF λW aS=>by
  subst aS;rw[au]at O aH;rw[ai.out]at O;have a3:=(iL w3.heap.size w3).alloc (iI _) (.map #[] 0);have b3:iK w1.heap.size w1 w3:=J.trans (ak.mono J.size);exact⟨(O.base az).below a3,aG.out.trans ((b3.trans (a3.mono b3.size)).mono lK),lW⟩
 rw[au]at Z;clear O ak J ay af;go_upto_region 6 with fail;have aT:=iF (aI.out _ rfl);generalize w3.alloc _=w4 at*;clear aI E Z;go_wp2_with fail;go_loopw [5,7,8] (λaU aV iv aA=>∃i:Nat,aU=lh (some ⟨g2,0,none⟩) C.size A/\aV=lg lH 0/\iv=lg lH i/\i<=N/\iW (S7 w g (lh (some ⟨g2,0,none⟩) C.size A) (mJ N) aA)) (λ_ _ iv _=>N -(jA iv).toNat);case atStart=>exact⟨0,rfl,rfl,rfl,jy _,aT⟩
 case round=>
  obtain⟨i,rfl,rfl,rfl,bq,Q⟩:=hrel;have c6:N<i+4:=lK;by_cases ci:i<N
  .go_wp2_with fail
   go_loopw [65,8] (λaB iv aA=>∃q:Nat,aB=lg lH q/\iv=lg lH ((i+q:Nat):Int)/\q<=1/\iW (S7 w g (lh (some ⟨g2,0,none⟩) C.size A) (mJ N) aA)) (λaB _ _=>1 -(jA aB).toNat);case atStart=>exact⟨0,rfl,rfl,lK,Q⟩
   case round=>
    obtain⟨q,rfl,rfl,bu,aJ⟩:=hrel;have c7:N<i+q+4:=lK;by_cases aW:q=0
    .subst aW
     go_wp2_with fail;go_roundw;case rel=>exact⟨0+1,by go_num,by go_num,lK,aJ⟩
     case measure=>(simp[jA]<;>omega)
    .obtain rfl:q=1:=lK
     go_wp2_with fail;go_roundw;case rel=>exact⟨i+1,rfl,rfl,rfl,lK,aJ⟩
     case measure=>simp[jA];omega
  .obtain rfl:i=N:=lK
   have aa:=aD.out _ _ wr Q.out.1 (by have:=aj.out;omega) Q.out.2.2;rw[aP.out]at aa;have aa:=iF aa;have aX:s.extract 0 i=s:=by have:=aF.out;rwa [aR.out]at this
   go_wp2_with fail;refine aa.out.mono ?_;rintro e w5 ⟨v1,rfl,ae⟩;have aY:=ae.own.string RD;have aK:iW (iK g w w5):=iF (Q.out.2.1.trans (ae.kp.below (λc hc aZ=>by have:=(Q.out.1.blk c aZ).1;omega) (by have:=Q.out.2.2;omega)));clear ae aa aX;go_wp2_with fail;try go_returns
   exact⟨rfl,by rw[aQ.out];exact aK.out⟩
end
end Go.Proofs.YtamfcjmhnndbdaaGreatDoor


