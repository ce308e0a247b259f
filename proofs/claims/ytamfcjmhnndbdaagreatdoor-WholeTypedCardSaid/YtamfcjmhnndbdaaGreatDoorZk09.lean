/- Part 9 of the proof. -/
import Derived.Test.YtamfcjmhnndbdaaGreatDoorZk06
import Derived.Test.YtamfcjmhnndbdaaGreatDoorZk00
import Derived.Test.YtamfcjmhnndbdaaGreatDoorZk05
import Derived.Test.YtamfcjmhnndbdaaGreatDoorZk07
import Derived.Test.YtamfcjmhnndbdaaGreatDoorZk08
open Go.Value renaming agg→lC,bool→lu,int→lg,pointer→lq,slice→lh,string→ll,tuple→lD
open Go.Obj renaming cells→lG
open Go.IntKind renaming i64→lH,u32→lJ,u64→lI
open Go.Ending renaming returned→lF
open Go.Lib renaming hid→iF
open Go.Proofs.Tryz renaming prog→iG
open Go renaming World→iH,Value→iJ,Calls→iU,bodyPost_ret→iV,maxLen→jb,TypeId→jg,undef→jo,results→jr,Program→kg,Addr→kr,Oper→kH
open Nat renaming le_refl→iI,zero_le→jy,lt_succ_self→jE,le_succ→jF,le_of_eq→kX
open Go.RowKit renaming Below→iK,Hid→iW,intOf→jA
open Go.RowKit.Below renaming refl→iL
open List renaming setIfInBounds_toArray→iN,set_cons_zero→iR,set_cons_succ→iT,getElem?_eq_getElem→iZ,mem_of_getElem?→jc,take_succ_cons→ji,take_zero→jC,take_length→kz,map_cons→kY
open And renaming intro→iQ
open Go.World renaming setCell→jf,cell?→kZ
open Go.Instr renaming index→jB,lookup→j5
open Go.Code renaming region→jJ
open Array renaming getElem?_modify→jK
open Go.Act renaming put→jZ
open Go.Sem renaming run→kJ
open Go.Lit renaming int→kP
namespace Go.Proofs.YtamfcjmhnndbdaaGreatDoor
set_option linter.unusedVariables false
set_option linter.unusedSimpArgs false
set_option maxRecDepth 100000
set_option maxHeartbeats 8000000
variable {p:Prop}{a0:Act}{κ:Type}{t:jg}
section
open Go.RowKit
structure QL where
 id:Nat
 name:ByteArray
 body:ByteArray
 n:Nat
 e:Nat
def QL.v(y:QL):iJ:=lD #[lC #[lg lI y.id,ll y.name,ll y.body],lg lH y.n,lg lH y.e]
def VV(R:Except Nat (uN×Nat)):QL:=match R with
 | .error er=>⟨0,⟨#[]⟩,⟨#[]⟩,0,er⟩
 | .ok y=>⟨y.1.id,y.1.name,y.1.body,y.2,0⟩
theorem Gb{R:Except Nat (uN×Nat)×Option (Nat×MS)}{mt:Option (Nat×MS)}{w w':iH}{e:Ending}:xx R mt w e w'<->w.grownBy w' (mr mt)/\nD w' R.2/\e=lF (VV R.1).v:=by
 unfold xx;obtain⟨A,m2⟩:=R;cases A with
 |error er=>exact Iff.rfl
 |ok y=>exact Iff.rfl
structure Kq(g:Nat)(c:mU)(w0:iH)(mt m2:Option (Nat×MS))(y:QL)(d8 d13 d14:Bool)(v:iJ)(w:iH):Prop where
 wn:FU g c w0 mt w
 mm:nD w (if d8=true then m2 else mt)
 blk:d13=true->∃b,v=lq (some ⟨b,0,none⟩)/\g+1<b/\lN w b (if d14=true then#[lg lI y.id,ll y.name,ll y.body]else#[lg lI 0,ll ⟨#[]⟩,ll ⟨#[]⟩]) pg
section
variable {g:Nat}{c:mU}{w0 w w':iH}{mt m2:Option (Nat×MS)}{y:QL}{d8 d13 d14:Bool}{v:iJ}
theorem Kq.below(h:Kq g c w0 mt m2 y d8 d13 d14 v w)(hb:iK w.heap.size w w'):Kq g c w0 mt m2 y d8 d13 d14 v w':=
 ⟨h.wn.below hb,h.mm.grown hb,λhd=>by obtain⟨b,C,E,A⟩:=h.blk hd;exact⟨b,C,E,Below.blk hb A A.lt⟩⟩
theorem Kq.call(h:Kq g c w0 mt m2 y false d13 d14 v w)(hg:w.grownBy w' (mr mt))(A:nD w' m2)(hlt:∀x,mr mt=some x->x<g):Kq g c w0 mt m2 y true d13 d14 v w':=
 ⟨h.wn.grow hg hlt,A,λhd=>by obtain⟨b,C,E,J⟩:=h.blk hd;exact⟨b,C,E,mY J hg λx N=>by have:=hlt x N;omega⟩⟩
theorem Kq.made(h:Kq g c w0 mt m2 y d8 false false v w):Kq g c w0 mt m2 y d8 true false (lq (some ⟨w.heap.size,0,none⟩)) (w.alloc (lG #[lg lI 0,ll ⟨#[]⟩,ll ⟨#[]⟩] pg)):=by
 have hb:=(iL w.heap.size w).alloc (iI _) (lG #[lg lI 0,ll ⟨#[]⟩,ll ⟨#[]⟩] pg);exact⟨h.wn.below hb,h.mm.grown hb,λ_=>⟨w.heap.size,rfl,h.wn.res.lt,lN.new w _ _⟩⟩
theorem Kq.put{b:Nat}(h:Kq g c w0 mt m2 y true true false (lq (some ⟨b,0,none⟩)) w)(E:w0.heap.size<=g)(hlt:∀x,mr m2=some x->x<g)(A:g+1<b)(hB:lN w b #[lg lI 0,ll ⟨#[]⟩,ll ⟨#[]⟩] pg):Kq g c w0 mt m2 y true true true (lq (some ⟨b,0,none⟩)) (vF w b (lg lI y.id) (ll y.name) (ll y.body)):=
 have C:=WE (a:=lg lI y.id) (b:=ll y.name) (d:=ll y.body) h.wn hB A E hlt h.mm
 ⟨C.wn,C.mm,λ_=>⟨b,rfl,A,C.fr⟩⟩
end
def Ej:List kH:=[⟨some 17,.call {callee:=.value (.func 68),args:=#[],argTypes:=#[]},142,"wire.go:105",#[],none⟩,⟨some 18,.fieldAddr 24 (.tmp 3) 0,0,"wire.go:105",#[],none⟩,⟨some 19,.load 3 (.tmp 18),3,"wire.go:105",#[⟨1,.data⟩],none⟩,⟨some 20,.index 142 (.tmp 17) (.tmp 19),141,"wire.go:105",#[⟨0,.data⟩,⟨2,.data⟩],none⟩,⟨some 21,.field 141 (.tmp 20) 2,122,"wire.go:105",#[⟨3,.data⟩],none⟩,⟨some 22,.load 24 (.tmp 3),24,"wire.go:105",#[],none⟩,⟨some 23,.move (.tmp 1),89,"wire.go:105",#[],none⟩,⟨some 24,.move (.tmp 2),9,"wire.go:105",#[],none⟩,⟨some 25,.call {callee:=.value (.tmp 21),args:=#[.tmp 22,.tmp 23,.tmp 24],argTypes:=#[24,89,9]},98,"wire.go:105",#[⟨4,.data⟩,⟨5,.data⟩,⟨6,.data⟩,⟨7,.data⟩,⟨0,.chain⟩],none⟩,⟨some 16,.move (.tmp 25),98,"wire.go:105",#[⟨8,.data⟩],none⟩,⟨some 26,.extract (.tmp 16) 0,52,"wire.go:105",#[⟨9,.data⟩],none⟩,⟨some 27,.extract (.tmp 16) 1,3,"wire.go:105",#[⟨9,.data⟩,⟨14,.gcOnly .lateStores⟩],none⟩,⟨some 28,.extract (.tmp 16) 2,36,"wire.go:105",#[⟨9,.data⟩,⟨15,.gcOnly .lateStores⟩],none⟩,⟨some 9,.alloc 52,0,"wire.go:105",#[],none⟩,⟨none,.store 52 (.tmp 9) (.tmp 26),0,"wire.go:105",#[⟨13,.data⟩,⟨10,.data⟩,⟨8,.chain⟩,⟨0,.phase⟩,⟨1,.phase⟩,⟨2,.phase⟩,⟨3,.phase⟩,⟨4,.phase⟩,⟨5,.phase⟩,⟨6,.phase⟩,⟨7,.phase⟩,⟨8,.phase⟩,⟨9,.phase⟩,⟨10,.phase⟩,⟨11,.textOnly .lateStores⟩,⟨12,.textOnly .lateStores⟩,⟨13,.phase⟩],none⟩,⟨some 10,.assign (.tmp 27),3,"wire.go:105",#[⟨11,.data⟩,⟨14,.chain⟩,⟨0,.phase⟩,⟨1,.phase⟩,⟨2,.phase⟩,⟨3,.phase⟩,⟨4,.phase⟩,⟨5,.phase⟩,⟨6,.phase⟩,⟨7,.phase⟩,⟨8,.phase⟩,⟨9,.phase⟩,⟨10,.phase⟩,⟨11,.phase⟩,⟨12,.textOnly .lateStores⟩,⟨13,.phase⟩,⟨14,.phase⟩],none⟩,⟨some 11,.assign (.tmp 28),36,"wire.go:105",#[⟨12,.data⟩,⟨15,.chain⟩,⟨0,.phase⟩,⟨1,.phase⟩,⟨2,.phase⟩,⟨3,.phase⟩,⟨4,.phase⟩,⟨5,.phase⟩,⟨6,.phase⟩,⟨7,.phase⟩,⟨8,.phase⟩,⟨9,.phase⟩,⟨10,.phase⟩,⟨11,.phase⟩,⟨12,.phase⟩,⟨13,.phase⟩,⟨14,.phase⟩,⟨15,.phase⟩],none⟩]
section
variable (g:Nat)(c:mU)(fn:FuncId)(row:iJ)(w0:iH)(mt m2:Option (Nat×MS))(s:ByteArray)(y:QL)
def qR:Nat->iJ
 |0=> lC xz
 |1=> lq (some ⟨g,0,none⟩)
 |2=> lg lH c.fmt
 |3=>row
 |4=> .func (.func fn) #[] #[]
 |5=> lC #[lg lH c.fmt,lg lJ c.mag,lg lH c.nK,lg lH c.oF,lg lH c.dep,lg lH c.mX]
 |6=>FJ mt
 |7=> ll s
 |8=>y.v
 |9=>y.v
 |10=> lC #[lg lI y.id,ll y.name,ll y.body]
 |11=> lg lH y.n
 |12=> lg lH y.e
 |15=> lg lH y.n
 |16=> lg lH y.e
 |_=>jo
structure Zr(D:Nat->Bool)(vs:Nat->iJ)(w:iH):Prop where
 mh:Kq g c w0 mt m2 y (D 8) (D 13) (D 14) (vs 13) w
 val:∀j,(j !=13)=true->D j=true->vs j=qR g c fn row mt s y j
variable {g c fn row w0 mt m2 s y}
theorem WY{D:Nat->Bool}{vs:Nat->iJ}{w w':iH}(h:Zr g c fn row w0 mt m2 s y D vs w){i:Nat}(hi:i≠8/\i≠13/\i≠14)(A:Kq g c w0 mt m2 y (D 8) (D 13) (D 14) (vs 13) w->Kq g c w0 mt m2 y (D 8) (D 13) (D 14) (vs 13) w'):Zr g c fn row w0 mt m2 s y (wV D i) (wW vs i (qR g c fn row mt s y i)) w':=by
 refine⟨?_,ry h.val⟩;rw[lT D (show 8≠i by omega)];rw[lT D (show 13≠i by omega)];rw[lT D (show 14≠i by omega)];rw[l8 vs (qR g c fn row mt s y i) (show 13≠i by omega)];exact A h.mh
theorem om(h:p:=by
 simp only[ji,jC,wP,jZ];exact q):p:=h
theorem oo(h:p:=by
 exact λvs=>⟨hI0 vs,λj _ h=>by cases h⟩):p:=h
theorem Zt{id:Nat}{Q:Exit->Act->iH->Prop}{Z:iH}(ht3:a0.tmps.getD 3 jo=lq (some ⟨g,0,none⟩))(hrow:∀W,(jB 142 (lC xz) (lg lH c.fmt)).run iG W=.ok row W)(FX:∀W,(Instr.field 141 row 2).run iG W=.ok (.func (.func fn) #[] #[]) W)(ht1:a0.tmps.getD 1 jo=FJ mt)(ht2:a0.tmps.getD 2 jo=ll s)(hlt:∀x,mr mt=some x->x<g)(hcf:∀a b d W,kJ iG (callFunc fn #[a,b,d]) W=.ok (.enter fn #[a,b,d]) W)(hcall:∀W,nD W mt->iU iG fn #[lC #[lg lH c.fmt,lg lJ c.mag,lg lH c.nK,lg lH c.oF,lg lH c.dep,lg lH c.mX],FJ mt,ll s] W λe aa=>W.grownBy aa (mr mt)/\nD aa m2/\e=lF y.v)(hm2:mr m2=mr mt)(hw0:w0.heap.size<=g)(hsz:a0.tmps.size=35)(hI0:∀vs:Nat->iJ,(λw=>Kq g c w0 mt m2 y false false false (vs 13) w) Z.drew)(ae:∀(vs:Nat->iJ) (w:iH),Kq g c w0 mt m2 y true true true (vs 13) w->Q .normal {a0 with tmps:=((((((((((((((((a0.tmps.setIfInBounds 17 (lC xz)).setIfInBounds 18 (lq (some ⟨g,0,none⟩))).setIfInBounds 19 (lg lH c.fmt)).setIfInBounds 20 (row)).setIfInBounds 21 (.func (.func fn) #[] #[])).setIfInBounds 22 (lC #[lg lH c.fmt,lg lJ c.mag,lg lH c.nK,lg lH c.oF,lg lH c.dep,lg lH c.mX])).setIfInBounds 23 (FJ mt)).setIfInBounds 24 (ll s)).setIfInBounds 25 (y.v)).setIfInBounds 16 (y.v)).setIfInBounds 26 (lC #[lg lI y.id,ll y.name,ll y.body])).setIfInBounds 27 (lg lH y.n)).setIfInBounds 28 (lg lH y.e)).setIfInBounds 9 (vs 13)).setIfInBounds 10 (lg lH y.n)).setIfInBounds 11 (lg lH y.e))} w):
  (jJ id Ej.toArray true).wp iG Q a0 Z:=by
 refine l6 17 35 (Zr g c fn row w0 mt m2 s y) lQ hsz lQ (.inl rfl) lQ ?_ ?_ ?_;.exact oo
 .refine pO λA aB=> ?_
  clear hI0 ae hsz;replace ht3:=iF ht3;replace hrow:=iF hrow;replace FX:=iF FX;replace ht1:=iF ht1;replace ht2:=iF ht2;replace hlt:=iF hlt;replace hcf:=iF hcf;replace hcall:=iF hcall;replace hm2:=iF hm2;replace hw0:=iF hw0;unfold Ej;simp only[ji,jC,o6];refine⟨?_,?_,?_,?_,?_,?_,?_,?_,?_,?_,?_,?_,?_,?_,?_,?_,?_,trivial⟩<;>(intro D vs a w K hI hd E hw2 C O;subst aB;unfold Ej)
  .rw[if_pos (by rfl)]
   have aC:=zQ w;go_simp;refine aC.mono ?_;rintro e aD ⟨rfl,hb⟩;exact O (qR g c fn row mt s y 0) _ _ rfl (WY hI (i:=0) lM λh=>h.below hb)
  have e3:=(C 3 lM).trans ht3.out;rotate_left;have af:=fe C hI.val E 18 1;simp only[qR]at af;have c0:w.cell? ⟨g,0,none⟩=some (lg lH c.fmt):=hI.mh.wn.cf.cell 0;rotate_left;have hrow:=hrow.out;have Y:=fe C hI.val E 17 0;have ag:=fe C hI.val E 19 2;simp only[qR]at Y ag;have ah:=hrow w;unfold xz at ah Y;rotate_left;have FX:=FX.out;have ai:=fe C hI.val E 20 3;simp only[qR]at ai;have ah:=FX w;rotate_left;have e3:=(C 3 lM).trans ht3.out;obtain⟨c0,c1,c2,c3,c4,c5⟩:=hI.mh.wn.cf.a6;rotate_left;have e1:=(C 1 lM).trans ht1.out;rotate_left;have e2:=(C 2 lM).trans ht2.out;rotate_left
  .have hlt:=hlt.out
   have hcf:=hcf.out;have hcall:=hcall.out;have aj:=fe C hI.val E 21 4;have ak:=fe C hI.val E 22 5;have au:=fe C hI.val E 23 6;have av:=fe C hI.val E 24 7;simp only[qR]at aj ak au av;have N:=hI.mh;rw[hd]at N;have aF:=hcall w N.mm;rw[if_pos (by rfl)];go_simp;refine aF.mono ?_;rintro e aD ⟨hg,hm2,rfl⟩;refine O (qR g c fn row mt s y 8) _ _ rfl ⟨?_,ry hI.val⟩;rw[l7,lT D (show 13≠8 by decide),lT D (show 14≠8 by decide),l8 vs _ (show 13≠8 by decide)];exact N.call hg hm2 hlt
  have aH:=fe C hI.val E 25 8;rotate_left;have J:=fe C hI.val E 16 9;simp only[qR]at J;unfold QL.v at J;rotate_left;have J:=fe C hI.val E 16 9;simp only[qR]at J;unfold QL.v at J;rotate_left;have J:=fe C hI.val E 16 9;simp only[qR]at J;unfold QL.v at J;rotate_left
  .have N:=hI.mh
   rw[hd,hw2 14 lM lQ]at N;go_simp;refine O (lq (some ⟨w.heap.size,0,none⟩)) _ _ rfl ⟨?_,Ko rfl hI.val⟩;rw[l7,lT D (show 8≠13 by decide),lT D (show 14≠13 by decide),nI];rw[hw2 14 lM lQ];exact N.made
  .have hlt:=hlt.out
   have hm2:=hm2.out;have hw0:=hw0.out;have d13:=E 13 lM lQ;have ax:a.tmps.getD 9 jo=vs 13:=C 9 lM;have ay:=fe C hI.val E 26 10;simp only[qR]at ay;have az:D 8=true:=E 8 lM lQ;have N:=hI.mh;rw[hd,az,d13]at N;obtain⟨b,U,aA,hB⟩:=N.blk rfl;have ax:=ax.trans U;obtain⟨z0,aK,aL,aM,f1,f2⟩:=FV hB;go_simp;refine O jo _ _ rfl ⟨?_,ry hI.val⟩;rw[l7,lT D (show 8≠14 by decide),lT D (show 13≠14 by decide),l8 vs _ (show 13≠14 by decide)];rw[az,d13,U];rw[U]at N;exact N.put hw0 (λx aG=>hlt x (hm2▸aG)) aA hB
  have aI:=fe C hI.val E 27 11;rotate_left;have aJ:=fe C hI.val E 28 12;rotate_left
  all_goals
   try simp only[qR]at*
   go_simp;exact O _ _ _ rfl ⟨hI.mh,ry hI.val⟩
 .intro D vs w V hI
  have E:=hI.mh;rw[V 8 lM]at E;rw[V 13 lM]at E;rw[V 14 lM]at E;have q:=ae vs w E;rw[mQ hI.val V];unfold Ej;exact om
end
theorem WZ{id:Nat}{Q:Exit->Act->iH->Prop}{w w0:iH}{g:Nat}{c:mU}{fn:FuncId}{row:iJ}{mt m2:Option (Nat×MS)}{s:ByteArray}{y:QL}(N:a0.tmps.getD 1 jo=FJ mt)(O:a0.tmps.getD 2 jo=ll s)(U:a0.tmps.getD 3 jo=lq (some ⟨g,0,none⟩))(hsz:a0.tmps.size=35)(hrow:∀W,(jB 142 (lC xz) (lg lH c.fmt)).run iG W=.ok row W)(FX:∀W,(Instr.field 141 row 2).run iG W=.ok (.func (.func fn) #[] #[]) W)(hI0:FU g c w0 mt w)(A:nD w mt)(hm2:mr m2=mr mt)(hw0:w0.heap.size<=g)(hlt:∀x,mr mt=some x->x<g)(hcf:∀a b d W,kJ iG (callFunc fn #[a,b,d]) W=.ok (.enter fn #[a,b,d]) W)(hcall:∀W,nD W mt->iU iG fn #[lC #[lg lH c.fmt,lg lJ c.mag,lg lH c.nK,lg lH c.oF,lg lH c.dep,lg lH c.mX],FJ mt,ll s] W λe C=>W.grownBy C (mr mt)/\nD C m2/\e=lF y.v)(V:∀(vs:Nat->iJ) (b:Nat) W,WnF g c w0 mt m2 (lg lI y.id) (ll y.name) (ll y.body) b W->g+1<b->Q .normal {a0 with tmps:=(((((((((((((((a0.tmps.setIfInBounds 17 (vs 0)).setIfInBounds 18 (vs 1)).setIfInBounds 19 (vs 2)).setIfInBounds 20 (vs 3)).setIfInBounds 21 (vs 4)).setIfInBounds 22 (vs 5)).setIfInBounds 23 (vs 6)).setIfInBounds 24 (vs 7)).setIfInBounds 25 (vs 8)).setIfInBounds 16 (vs 9)).setIfInBounds 26 (vs 10)).setIfInBounds 27 (vs 11)).setIfInBounds 28 (vs 12)).setIfInBounds 9 (lq (some ⟨b,0,none⟩))).setIfInBounds 10 (lg lH y.n)).setIfInBounds 11 (lg lH y.e)} W):
  (jJ id Ej.toArray true).wp iG Q a0 w:=by
 refine Zt (ht3:=U) (hrow:=hrow) (FX:=FX) (ht1:=N) (ht2:=O) (hlt:=hlt) (hcf:=hcf) (hcall:=hcall) (hm2:=hm2) (hw0:=hw0) (hsz:=hsz) (hI0:=λ_=>⟨hI0.drew,(WC A:nD w.drew mt),nofun⟩) ?_;intro vs W hI;obtain⟨b,E,J,hB⟩:=hI.blk rfl;have q:=V (qR g c fn row mt s y) b W ⟨hI.wn,hB,hI.mm⟩ J;rw[<-E]at q;exact q
theorem Xa(c:mU)(s:ByteArray)(mt:Option (Nat×MS))(hs:s.size<=jb)(hc:mK c=true)(E:c.wf):∃(fn:FuncId) (row:iJ),(∀W,(jB 142 (lC xz) (lg lH c.fmt)).run iG W=.ok row W)/\
  (∀W,(Instr.field 141 row 2).run iG W=.ok (.func (.func fn) #[] #[]) W)/\(∀a b d W,kJ iG (callFunc fn #[a,b,d]) W=.ok (.enter fn #[a,b,d]) W)/\
  ∀W,nD W mt->iU iG fn #[lC #[lg lH c.fmt,lg lJ c.mag,lg lH c.nK,lg lH c.oF,lg lH c.dep,lg lH c.mX],FJ mt,ll s] W λe A=>W.grownBy A (mr mt)/\nD A (pK c s mt).2/\e=lF (VV (pK c s mt).1).v:=by
 have O:=(oV hc).1;have key:∀k:Nat,c.fmt=k->∀f,Yj k=.func (.func f) #[] #[]->∀W,nD W mt->iU iG f #[lC #[lg lH c.fmt,lg lJ c.mag,lg lH c.nK,lg lH c.oF,lg lH c.dep,lg lH c.mX],FJ mt,ll s] W λe A=>W.grownBy A (mr mt)/\nD A (pK c s mt).2/\e=lF (VV (pK c s mt).1).v:=by
  intro k hk f J W N;obtain⟨Q,C,hcall⟩:=SQ c k hk s mt W hs hc E N;rw[J]at C;cases C;exact hcall.mono λe A h=>Gb.1 h
 have hk:c.fmt=1\/c.fmt=2\/c.fmt=3:=lK;rcases hk with hk|hk|hk
 .have hix:=WG
  rw[<-hk]at hix;exact⟨100,_,hix,λW=>Mm _ _ _ _ W,λ_ _ _ _=>rfl,key 1 hk _ rfl⟩
 .have hix:=WH
  rw[<-hk]at hix;exact⟨105,_,hix,λW=>Mm _ _ _ _ W,λ_ _ _ _=>rfl,key 2 hk _ rfl⟩
 .have hix:=Oy
  rw[<-hk]at hix;exact⟨110,_,hix,λW=>Mm _ _ _ _ W,λ_ _ _ _=>rfl,key 3 hk _ rfl⟩
theorem QM(c:mU)(s:ByteArray)(mt:Option (Nat×MS))(w:iH)(hs:s.size<=jb)(hc:mK c=true)(Z:c.wf)(N:nD w mt):
  iU iG 63 #[c.v,FJ mt,ll s] w λe w'=>w.grownBy w' (mr mt)/\nD w' (pK c s mt).2/\e=lF (VV (pK c s mt).1).v:=by
 obtain⟨fn,row,hrow,FX,hcf,hcall⟩:=Xa c s mt hs hc Z;have C:=xB c s mt;have O:=iF (xy N);have aa:=Bh c s mt;have ae:=iF (zl c);rw[hc]at ae;obtain⟨g,hg⟩:=lV w.heap.size;have af:iW (∀W,(w.alloc (lG #[lg lH c.fmt,lg lJ c.mag,lg lH c.nK,lg lH c.oF,lg lH c.dep,lg lH c.mX] rC)).alloc (lG #[lg lI 0,ll ⟨#[]⟩,ll ⟨#[]⟩] pg)=W->FU g c w mt W/\nD W mt):=iF λW h=>by
  subst h;have aF:=(iL w.heap.size w).alloc (iI _) (lG #[lg lH c.fmt,lg lJ c.mag,lg lH c.nK,lg lH c.oF,lg lH c.dep,lg lH c.mX] rC);have U:=aF.alloc lU (lG #[lg lI 0,ll ⟨#[]⟩,ll ⟨#[]⟩] pg);have aS:(w.alloc (lG #[lg lH c.fmt,lg lJ c.mag,lg lH c.nK,lg lH c.oF,lg lH c.dep,lg lH c.mX] rC)).heap.size=g+1:=by simp[hg]
  have aG:=lN.new w #[lg lH c.fmt,lg lJ c.mag,lg lH c.nK,lg lH c.oF,lg lH c.dep,lg lH c.mX] rC;have A:=lN.new (w.alloc (lG #[lg lH c.fmt,lg lJ c.mag,lg lH c.nK,lg lH c.oF,lg lH c.dep,lg lH c.mX] rC)) #[lg lI 0,ll ⟨#[]⟩,ll ⟨#[]⟩] pg;rw[aS]at A;exact⟨⟨hg▸aG.alloc _,A,mV U⟩,N.grown U⟩
 rw[hg]at O;generalize (pK c s mt).2=m2 at*;obtain⟨y,ah⟩:=lV (VV (pK c s mt).1);have aT:iW ((y.e=0/\True)\/(y.e≠0/\y.id=0/\y.name=⟨#[]⟩/\y.body=⟨#[]⟩/\y.n=0)):=iF (by
  rw[<-ah];cases aU:(pK c s mt).1 with
  |error er=>
   have:=aa er aU;exact .inr ⟨by show er≠0;omega,rfl,rfl,rfl,rfl⟩
  |ok z=>exact .inl ⟨rfl,trivial⟩)
 rw[ah]at hcall⊢;clear ah aa;have V:=iF (λ(id:Nat) (Q:Exit->Act->iH->Prop) (a0:Act) (W:iH) (ai:a0.tmps.getD 1 jo=FJ mt) (aj:a0.tmps.getD 2 jo=ll s) (ak:a0.tmps.getD 3 jo=lq (some ⟨g,0,none⟩)) (hsz:a0.tmps.size=35) hI0 hM0 hQ=>
  WZ (id:=id) (Q:=Q) (a0:=a0) (w:=W) (w0:=w) (c:=c) (y:=y) ai aj ak hsz hrow FX hI0 hM0 C (kX hg) O.out hcf hcall hQ)
 have aH:=iF C;clear hrow FX hcf hcall Z hc hs N C;obtain⟨f,m,fr,bq,bu,it⟩:=c;unfold mU.v mU.cs at*;dsimp only at*;go_in;go_upto_region 1 with fail;obtain⟨hI,ag⟩:=af.out _ rfl;generalize (w.alloc _).alloc _=w1 at*;have aI:=iF hI;have aJ:=iF ag;obtain⟨_,aK,aL,aM,aN,aO,aP⟩:=hI.s;clear hI af ag;dsimp only at aK aL aM aN aO aP;go_wp2_with fail;refine(ae.out _).mono ?_;rintro e w2 ⟨rfl,A⟩;have aQ:=iF (aI.out.below A);have au:=iF (aJ.out.grown A);clear A aI aJ aK aL aM aN aO aP;go_upto_region 3 with fail;refine V.out _ _ _ _ rfl rfl rfl rfl aQ.out au.out ?_;intro vs b W hF aZ;clear V;have J:=iF hF;generalize vs 0=v0;generalize vs 1=v1;generalize vs 2=v2;generalize vs 3=v3;generalize vs 4=v4;generalize vs 5=v5;generalize vs 6=v6;generalize vs 7=bz;generalize vs 8=bA;generalize vs 9=v9;generalize vs 10=v10;generalize vs 11=v11;generalize vs 12=bg;obtain⟨av,ax,ay,aV,az⟩:=y;dsimp only at*;obtain⟨r0,r1,r2,z0,bB,bC⟩:=J.out.wn.res.b3;obtain⟨bD,bE,bF⟩:=J.out.fr.a3;clear hF;have aR:=iF (λ(a b c:iJ)=>oz (a:=a) (b:=b) (c:=c) J.out.wn.res);have Y:=iF (λ(a b c:iJ)=>zm (a:=a) (b:=b) (c:=c) ⟨J.out.wn.res,J.out.mm,J.out.wn.gr⟩ (λx aW=>O.out x (aH.out▸aW)) hg);simp only[iN,iR,iT];rcases aT.out with⟨E,_⟩|⟨E,ai,aj,ak,aX⟩
 .subst E
  go_wp2_with fail;rw[oQ];obtain⟨e1,e2⟩:=Y.out (lg lI av) (ll ax) (ll ay);have aA:=aR.out (lg lI av) (ll ax) (ll ay);obtain⟨aB,aC,aD⟩:=aA.a3;refine iV (v:=lD #[lC #[lg lI av,ll ax,ll ay],lg lH (aV:Nat),lg lH 0]) (by simp[jr,Tryz.results63,go_sem,aB,aC,aD]) rfl ⟨e1,e2,rfl⟩
 .subst ai aj ak aX
  have aY:((az:Int) !=0)=true:=lW;have E:iW (az≠0):=E;go_wp2_with fail;rw[oQ];obtain⟨e1,e2⟩:=Y.out (lg lI 0) (ll ⟨#[]⟩) (ll ⟨#[]⟩);have aA:=aR.out (lg lI 0) (ll ⟨#[]⟩) (ll ⟨#[]⟩);obtain⟨aB,aC,aD⟩:=aA.a3;refine iV (v:=lD #[lC #[lg lI 0,ll ⟨#[]⟩,ll ⟨#[]⟩],lg lH 0,lg lH (az:Nat)]) (by simp[jr,Tryz.results63,go_sem,aB,aC,aD]) rfl ⟨e1,e2,rfl⟩
def p0(a:TL)(_:List (lL TL)):Bool:=decide (a.tail=0)
theorem Zu(x:lL TL):x.all p0=(decide (x.lab.tail=0)&&lL.mR p0 x.sub):=by
 cases x with
 |node a s=>rfl
theorem Xb(a:TL)(s:List (lL TL)):(lL.node a s).all p0=(decide (a.tail=0)&&lL.mR p0 s):=rfl
theorem QN(x:lL TL):∀(w:iH)(v:iJ),mD w v x.sub->
  iU iG 172 #[lC #[lg lH x.lab.kind,lg lH x.lab.size,v,lg lH x.lab.tail]] w λe w'=>e=lF (lu (lL.mR p0 x.sub))/\iK w.heap.size w w':=by
 induction x using lL.ind with
 |h a s aC=>
  intro w v Y;simp only[lL.oD,lL.nk]at Y⊢;obtain⟨oa,cap,rfl,ay,ah⟩:=mD.slice Y;obtain⟨g,hg⟩:=lV w.heap.size;have Z:=iF (rP (k:=a.kind) (z:=a.size) (l:=a.tail) (t:=63) Y);have aD:s.length<=9223372036854775807:=by unfold jb at ah;omega
  obtain⟨M,az⟩:=lV s.length;have aF:=iF az;have aP:=iF aC;obtain⟨R,aA⟩:=lV (lL.mR p0 s);have aG:=iF aA;rw[hg]at Z⊢;rw[az]at Z aD⊢;rw[aA];clear Y ay ah aC az aA;go_in;go_upto_region 1 with fail;generalize w.alloc (lG #[lg lH a.kind,lg lH a.size,lh oa M cap,lg lH a.tail] 63)=w1 at*;obtain⟨ai,ht1,hsz,c0,c1,c2,c3⟩:=Z.out _ rfl;have aa:=iF (iQ ai ht1);clear Z ai ht1 c0 c1 c3;go_wp2_with fail;clear c2;go_loopw [4,8] (λ_ iv aQ=>∃k:Nat,iv=lg lH k/\k<=M/\iW (lL.mR p0 (s.take k)=true)/\iW (iK (g+1) w1 aQ)) (λ_ iv _=>M -(jA iv).toNat);case atStart=>exact⟨0,rfl,lK,by simp[iW,lL.mR],iF (iL _ _)⟩
  case round=>
   obtain⟨k,rfl,hk,aH,J⟩:=hrel;have HF:iW (iK g w wr):=iF (aa.out.1.trans (J.out.mono lK));have aI:g+1<=wr.heap.size:=by have:=J.out.size;omega
   by_cases c:k<M
   .obtain⟨y,ae⟩:∃y,s[k]? =some y:=⟨_,iZ (by rw[aF.out];exact c)⟩
    obtain⟨b,off,u,rfl,hlt,aR,aS,aJ,aT,af,aK⟩:=mD.at_ (Shape.lY.below aa.out.2 (hsz▸J.out)) ae;obtain⟨ou,cu,rfl,_,_⟩:=mD.slice af;obtain⟨N,aj⟩:=lV y.sub.length;rw[aj]at af aJ;clear aj;have ag:iW (lL.mR p0 (s.take (k+1))=y.all p0):=iF (by rw[lL.sD ae,aH.out];rfl);have A:iW (y.all p0=false->R=false):=iF λh=>by rw[<-aG.out];exact lL.sF ae h
    have O:=iF (Zu y);have aU:=iF af;have aL:=iF (aP.out y (jc ae))
    have aM:iW (∀W,wr.alloc (lG #[lg lH y.lab.kind,lg lH y.lab.size,lh ou N cu,lg lH y.lab.tail] 63)=W->iK wr.heap.size wr W/\mD W (lh ou N cu) y.sub/\W.heap.size=wr.heap.size+1/\
      lN W wr.heap.size #[lg lH y.lab.kind,lg lH y.lab.size,lh ou N cu,lg lH y.lab.tail] 63):=iF λW h=>by
     subst h;have ak:=(iL wr.heap.size wr).alloc (iI _) (lG #[lg lH y.lab.kind,lg lH y.lab.size,lh ou N cu,lg lH y.lab.tail] 63);exact⟨ak,Shape.lY.below aU.out ak,lU,lN.new wr _ _⟩
    clear af aK;go_upto_region 4 with fail;generalize wr.alloc (lG #[lg lH y.lab.kind,lg lH y.lab.size,lh ou N cu,lg lH y.lab.tail] 63)=w4 at*;obtain⟨au,Cu,aW,av⟩:=aM.out _ rfl;obtain⟨b0,b1,aX,b3⟩:=av.a4;have ax:=iF (aL.out w4 (lh ou N cu) Cu);have Q:=iF (J.out.trans (au.mono aI));have U:g+1<=w4.heap.size:=lK;clear aM au Cu av aL aR aS aJ aT;generalize lL.mR p0 y.sub=q at*;rcases a1b y.lab.tail 0 with⟨t0,aB⟩|⟨t0,aB⟩
    .cases q with
     |true=>
      have aN:iW (lL.mR p0 (s.take (k+1))=true):=iF (by rw[ag.out,O.out,decide_eq_true aB.out];rfl);clear ag A O;go_wp2_with fail;refine(ax.out).mono ?_;rintro e w5 ⟨rfl,C⟩;have E:=iF (Q.out.trans (C.mono U));clear C;go_wp2_with fail;go_roundw;case rel=>exact⟨k+1,by go_num,lK,aN,E⟩
      case measure=>simp[jA];omega
     |false=>
      have V:iW (R=false):=iF (A.out (by rw[O.out,Bool.and_false]));clear ag A O;go_wp2_with fail;refine(ax.out).mono ?_;rintro e w5 ⟨rfl,C⟩;have E:=iF (aa.out.1.trans ((Q.out.trans (C.mono U)).mono (jF g)));clear C;go_wp2_with fail;go_returns;exact⟨by rw[V.out];rfl,E.out⟩
    .have V:iW (R=false):=iF (A.out (by rw[O.out,decide_eq_false aB.out];rfl))
     have E:=iF (aa.out.1.trans (Q.out.mono (jF g)));clear ag A O;go_wp2_with fail;go_returns;exact⟨by rw[V.out];rfl,E.out⟩
   .obtain rfl:k=M:=lK
    have HE:iW (R=true):=by
     unfold iW;have aV:s.take k=s:=by rw[<-aF.out,kz]
     have aO:=aH.out;rw[aV]at aO;rw[<-aG.out,aO]
    exact CQ
theorem QO(x:lL TL):∀(w:iH)(v:iJ),mD w v x.sub->
  iU iG 88 #[lC #[lg lH x.lab.kind,lg lH x.lab.size,v,lg lH x.lab.tail]] w λe w'=>e=lF (lu (!x.all p0))/\iK w.heap.size w w':=by
 induction x using lL.ind with
 |h a s aa=>
  intro w v A;simp only[lL.oD,lL.nk]at A⊢;have C:=iF (Xb a s);obtain⟨oa,cap,rfl,U,O⟩:=mD.slice A;obtain⟨g,hg⟩:=lV w.heap.size;have E:=iF (rP (k:=a.kind) (z:=a.size) (l:=a.tail) (t:=63) A);have ae:s.length<=9223372036854775807:=by unfold jb at O;omega
  obtain⟨M,V⟩:=lV s.length;have af:=iF V;have ax:=iF aa;obtain⟨R,Y⟩:=lV (lL.mR p0 s);have ag:=iF Y;rw[hg]at E⊢;rw[V]at E ae⊢;rw[Y]at C;generalize (lL.node a s).all p0=av at*;clear A U O aa V Y;have t0:=a1b a.tail 0;go_in;go_upto_region 1 with fail;generalize w.alloc (lG #[lg lH a.kind,lg lH a.size,lh oa M cap,lg lH a.tail] 63)=w1 at*;obtain⟨Q,ht1,hsz,c0,c1,c2,c3⟩:=E.out _ rfl;have Z:=iF (iQ Q ht1);clear E Q ht1;rcases t0 with⟨t0,J⟩|⟨t0,J⟩
  case inr=>
   have HE:iW ((!av)=true):=iF (by rw[C.out,decide_eq_false J.out];rfl);go_wp2_with fail;go_returns;exact⟨by rw[HE.out];rfl,Z.out.1⟩
  have ah:iW (av=R):=iF (by rw[C.out,decide_eq_true J.out];rfl);clear C J;go_wp2_with fail;clear c0 c1 c3 t0;go_loopw [3] (λiv ay=>∃k:Nat,iv=lg lH k/\k<=M/\iW (lL.mR p0 (s.take k)=true)/\iW (iK (g+1) w1 ay)) (λiv _=>M -(jA iv).toNat);case atStart=>exact⟨0,rfl,lK,by simp[iW,lL.mR],iF (iL _ _)⟩
  case round=>
   obtain⟨k,rfl,hk,ai,hbe⟩:=hrel;have aA:wr.cell? ⟨g,2,none⟩=some (lh oa M cap):=(hbe.out.cell (p:=⟨g,2,none⟩) (jE g)).trans c2;have HF:iW (iK g w wr):=iF (Z.out.1.trans (hbe.out.mono lK));have hgr:g+1<=wr.heap.size:=by have:=hbe.out.size;omega
   by_cases c:k<M
   .obtain⟨y,N⟩:∃y,s[k]? =some y:=⟨_,iZ (by rw[af.out];exact c)⟩
    obtain⟨b,off,u,rfl,hlt,aB,aC,aD,aF,aj,ak⟩:=mD.at_ (Shape.lY.below Z.out.2 (hsz▸hbe.out)) N;have HT:iW (lL.mR p0 (s.take (k+1))=y.all p0):=iF (by rw[lL.sD N,ai.out];rfl);have HFa:iW (y.all p0=false->R=false):=iF λh=>by rw[<-ag.out];exact lL.sF N h
    have CY:=iF (ax.out y (jc N) wr u aj);clear aj ak;generalize y.all p0=q at*;cases q with
    |true=>
     exact Mo
    |false=>
     have HE:iW ((!av)=true):=iF (by rw[ah.out,HFa.out rfl];rfl);exact Ta
   .obtain rfl:k=M:=lK
    have HE:iW ((!av)=false):=by
     unfold iW;have az:s.take k=s:=by rw[<-af.out,kz]
     have au:=ai.out;rw[az]at au;rw[ah.out,<-ag.out,au];rfl
    exact CQ
theorem TI(x:lL TL)(w:iH)(v:iJ)(N:mD w v x.sub)(hc:x.count<=1000):
  iU iG 54 #[lC #[lg lH x.lab.kind,lg lH x.lab.size,v,lg lH x.lab.tail]] w λe w'=>e=lF (lu (lL.mR p0 x.sub&&nG x))/\iK w.heap.size w w':=by
 obtain⟨oa,cap,rfl,O,C⟩:=mD.slice N;obtain⟨g,hg⟩:=lV w.heap.size;have A:=iF (rP (k:=x.lab.kind) (z:=x.lab.size) (l:=x.lab.tail) (t:=63) N);have af:x.sub.length<=9223372036854775807:=by unfold jb at C;omega
 have Q:=iF (λ(W:iH) (h:mD W (lh oa x.sub.length cap) x.sub)=>Hf x W _ h hc);obtain⟨M,U⟩:=lV x.sub.length;have ag:=iF U;obtain⟨R,V⟩:=lV (lL.mR p0 x.sub);have ah:=iF V;rw[hg]at A⊢;rw[U]at A af Q⊢;rw[V];generalize nG x=mt at*;clear N O C U V hc;go_in;go_upto_region 1 with fail;generalize w.alloc (lG #[lg lH x.lab.kind,lg lH x.lab.size,lh oa M cap,lg lH x.lab.tail] 63)=w1 at*;obtain⟨E,ht1,hsz,c0,c1,c2,c3⟩:=A.out _ rfl;have Y:=iF (iQ E ht1);have Z:=iF (iQ c0 (iQ c1 (iQ c2 c3)));clear A E ht1;go_wp2_with fail;clear c0 c1 c3;go_loopw [3] (λiv ay=>∃k:Nat,iv=lg lH k/\k<=M/\iW (lL.mR p0 (x.sub.take k)=true)/\iW (iK (g+1) w1 ay)) (λiv _=>M -(jA iv).toNat);case atStart=>exact⟨0,rfl,lK,by simp[iW,lL.mR],iF (iL _ _)⟩
 case round=>
  obtain⟨k,rfl,hk,ai,hbe⟩:=hrel;have aA:wr.cell? ⟨g,2,none⟩=some (lh oa M cap):=(hbe.out.cell (p:=⟨g,2,none⟩) (jE g)).trans c2;have aj:iW (iK g w wr):=iF (Y.out.1.trans (hbe.out.mono lK));have hgr:g+1<=wr.heap.size:=by have:=hbe.out.size;omega
  by_cases c:k<M
  .obtain⟨y,aa⟩:∃y,x.sub[k]? =some y:=⟨_,iZ (by rw[ag.out];exact c)⟩
   obtain⟨b,off,u,rfl,hlt,aB,aC,aD,aF,ak,au⟩:=mD.at_ (Shape.lY.below Y.out.2 (hsz▸hbe.out)) aa;have HT:iW (lL.mR p0 (x.sub.take (k+1))=y.all p0):=iF (by rw[lL.sD aa,ai.out];rfl);have J:iW (y.all p0=false->R=false):=iF λh=>by rw[<-ah.out];exact lL.sF aa h
   have CY:=iF (QO y wr u ak);clear ak au;generalize y.all p0=q at*;cases q with
   |true=>
    exact Mo
   |false=>
    have ae:iW (R=false):=iF (J.out rfl);clear J;go_wp2_with fail;refine(CY.out).mono ?_;rintro e w5 ⟨rfl,hb5⟩;have Zh:=iF (aj.out.trans (hb5.mono lK));clear hb5;go_wp2_with fail;go_returns;exact⟨by rw[ae.out,Bool.false_and];rfl,Zh.out⟩
  .obtain rfl:k=M:=lK
   have ae:iW (R=true):=by
    unfold iW;have az:x.sub.take k=x.sub:=by rw[<-ag.out,kz]
    have av:=ai.out;rw[az]at av;rw[<-ah.out,av]
   have aG:=(hbe.out.cell (p:=⟨g,0,none⟩) (jE g)).trans Z.out.1;have aH:=(hbe.out.cell (p:=⟨g,1,none⟩) (jE g)).trans Z.out.2.1;have aI:=(hbe.out.cell (p:=⟨g,3,none⟩) (jE g)).trans Z.out.2.2.2;have ax:=iF (Q.out wr (Shape.lY.below Y.out.2 (hsz▸hbe.out)));clear Q;go_wp2_with fail;refine(ax.out).mono ?_;rintro e w5 ⟨rfl,hb5⟩;have Zh:=iF (aj.out.trans (hb5.mono lK));clear hb5;go_wp2_with fail;go_returns;exact⟨by rw[ae.out,Bool.true_and];rfl,Zh.out⟩
theorem Gc(x:lL TL)(w:iH)(v:iJ)(Z:mD w v x.sub)(U:oG w):
  iU iG 122 #[lC #[lg lH x.lab.kind,lg lH x.lab.size,v,lg lH x.lab.tail]] w λe w'=>e=lF (lu (lL.mR p0 x.sub&&nG x))/\iK w.heap.size w w':=by
 have N:=U.lt;have V:=iF (rP (k:=x.lab.kind) (z:=x.lab.size) (l:=x.lab.tail) (t:=63) Z);obtain⟨g,hg⟩:=lV w.heap.size;rw[hg]at V N⊢;have ah:=iF (λ(W:iH) (h:iK g w W)=>U.below h N);clear Z U;have C:=iF (λ(W:iH) (h:mD W v x.sub) (ai:oG W)=>zV x W v h ai);have aa:=iF (λ(W:iH) (h:mD W v x.sub)=>QN x W v h);generalize nG x=mt at*;generalize lL.mR p0 x.sub=R at*;go_in;go_upto_region 1 with fail;generalize w.alloc (lG #[lg lH x.lab.kind,lg lH x.lab.size,v,lg lH x.lab.tail] 63)=w1 at*;obtain⟨E,ht1,hsz,c0,c1,c2,c3⟩:=V.out _ rfl;have O:=iF (C.out w1 ht1 (ah.out w1 E));have Y:=iF (iQ E ht1);have hlt:g<w1.heap.size:=lK;have aj:=iF hsz;clear V E ht1 C hsz;cases mt with
 |false=>
  go_wp2_with fail;refine(O.out).mono ?_;rintro e w2 ⟨rfl,A⟩;have J:=iF (Y.out.1.trans (A.mono lK));clear A;go_wp2_with fail;go_returns;exact⟨by rw[Bool.and_false];rfl,J.out⟩
 |true=>
  go_wp2_with fail;refine(O.out).mono ?_;rintro e w2 ⟨rfl,A⟩;have J:=iF (Y.out.1.trans (A.mono lK));have ak:=(A.cell (p:=⟨g,0,none⟩) hlt).trans c0;have au:=(A.cell (p:=⟨g,1,none⟩) hlt).trans c1;have av:=(A.cell (p:=⟨g,2,none⟩) hlt).trans c2;have ax:=(A.cell (p:=⟨g,3,none⟩) hlt).trans c3;have ae:=iF (aa.out w2 (Shape.lY.below Y.out.2 A));have af:g<=w2.heap.size:=by have:=A.size;omega
  clear A c0 c1 c2 c3 aa;go_wp2_with fail;refine(ae.out).mono ?_;rintro e w3 ⟨rfl,Q⟩;have ag:=iF (J.out.trans (Q.mono af));clear Q;go_wp2_with fail;go_returns;exact⟨by rw[Bool.and_true];rfl,ag.out⟩
end
section
open Go.RowKit Go.Maps
noncomputable def strKeys{P:kg}{k:jg}(hk:P.underlying k=some .string):Cs P k ByteArray where
 kv:=ll
 kl s:=.string s.data.toList
 ok s:=s.size<=jb
 K:=string_keyed hk
 lay x hx:=Go.WideMaps.keyOf_string_mk hk hx
 inv v l h:=by obtain⟨s,A,C,_⟩:=Go.WideMaps.string_of_keyOf hk h;exact⟨s,A,C⟩
 inj x y h:=Go.WideShapes.bytes_inj (by simpa using h)
 key x:=trivial
def qj:Fh (Array iJ) where
 ev a:=lC a
 R v:=match v with| lC a=>some (.held a,[])|_=>none
 lay x:=rfl
 inv v z h:=by
  cases v<;>simp at h;exact⟨_,rfl,h.symm⟩
noncomputable def NmK:Cs iG 9 ByteArray:=strKeys Tryz.underlying9
noncomputable def IdK:Cs iG 50 Int:=intKeys Tryz.underlying50
abbrev Zv:jg:=137
abbrev CU:jg:=128
structure RC where
 i:Nat
 nm:ByteArray
 tx:ByteArray
 k:Int
 z:Int
 ou:Option kr
 nu:Nat
 cu:Nat
 tl:Int
def RC.cs(x:RC):Array iJ:=#[lg lI x.i,ll x.nm,ll x.tx,lg lH x.k,lg lH x.z,lh x.ou x.nu x.cu,lg lH x.tl]
def Af:RC:=⟨0,⟨#[]⟩,⟨#[]⟩,0,0,none,0,0,0⟩
structure mW where
 r:Row
 ou:Option kr
 cu:Nat
def mW.rc(x:mW):RC:=⟨x.r.id,x.r.name,x.r.text,x.r.ty.lab.kind,x.r.ty.lab.size,x.ou,x.r.ty.sub.length,x.cu,x.r.ty.lab.tail⟩
def El(c:mU):iJ:=if c.fmt=1 then .func (.func 85) #[lC #[lg lH c.dep,lg lH c.mX]] #[]else .func (.func 83) #[lC #[lg lH c.dep,lg lH c.mX]] #[]
def Gd(c:mU):iJ:=if c.fmt=1 then .func (.func 86) #[lC #[lg lH c.dep,lg lH c.mX]] #[]else .func (.func 84) #[lC #[lg lH c.dep,lg lH c.mX]] #[]
structure ow(r bn bi:Nat)(c:mU)(L:List mW)(w:iH):Prop where
 rg:lN w r #[lg lH c.fmt,lg lJ c.mag,lg lH c.nK,lg lH c.oF,lg lH c.dep,lg lH c.mX,.map (some bn),.map (some bi),El c,Gd c] Zv
 nm:oU NmK qj w bn L.length (L.map λx=>(x.r.name,x.rc.cs))
 id:oU IdK qj w bi L.length (L.map λx=>((x.r.id:Int),x.rc.cs))
 sub:∀x,x∈L->mD w (lh x.ou x.r.ty.sub.length x.cu) x.r.ty.sub
 may:∀x,x∈L->nG x.r.ty=true/\(c.fmt=1->(lL.mR p0 x.r.ty.sub&&nG x.r.ty)=true)/\x.r.name.size<=12
theorem ow.below{r bn bi:Nat}{c:mU}{L:List mW}{w w':iH}(h:ow r bn bi c L w)(hb:iK w.heap.size w w'):ow r bn bi c L w':=
 ⟨Below.blk hb h.rg h.rg.lt,h.nm.below hb,h.id.below hb,λx A=>Shape.lY.below (h.sub x A) hb,h.may⟩
theorem yS[DecidableEq κ](f:mW->κ)(k:κ):∀L:List mW,vo (L.map λx=>(f x,x.rc.cs)) k=(L.find? λx=>decide (f x=k)).map λx=>x.rc.cs
 |[]=>rfl
 |x::L=>by
  have A:=yS f k L;unfold vo at*;rw[kY,List.find?_cons,List.find?_cons];dsimp only;rw[show(f x==k)=decide (f x=k)from rfl];cases decide (f x=k)with
  |true=>rfl
  |false=>exact A
theorem row_zero(w:iH):(zeroValue CU).run iG w=.ok (qj.ev Af.cs) w:=rfl
def Zw(L:List mW)(p:mW->Bool):RC:=match L.find? p with|some x=>x.rc|none=>Af
theorem Kr[DecidableEq κ](f:mW->κ)(k:κ)(L:List mW):(vo (L.map λx=>(f x,x.rc.cs)) k).getD Af.cs=(Zw L λx=>decide (f x=k)).cs/\(vo (L.map λx=>(f x,x.rc.cs)) k).isSome=(L.find? λx=>decide (f x=k)).isSome:=by
 rw[yS];unfold Zw;cases L.find? λx=>decide (f x=k)with
 |none=>exact⟨rfl,rfl⟩
 |some x=>exact⟨rfl,rfl⟩
theorem ow.look{r bn bi:Nat}{c:mU}{L:List mW}{w:iH}(h:ow r bn bi c L w)(s:ByteArray)(hs:s.size<=jb):
  (j5 130 (.map (some bn)) (ll s) true).run iG w=.ok (lD #[lC (Zw L λx=>decide (x.r.name=s)).cs,lu (L.find? λx=>decide (x.r.name=s)).isSome]) w:=by
 have A:=oU.look_ok (x:=s) h.nm Tryz.underlying130 row_zero hs;obtain⟨e1,e2⟩:=Kr (λx:mW=>x.r.name) s L;rw[e1,e2]at A;exact A
theorem OQ{n:Nat}(hn:n<18446744073709551616):(kP lI (n:Int)).wf=true:=by
 have:(0:Int)<=n/\(n:Int)<=18446744073709551615:=lK;simpa [Lit.wf,IntKind.min,IntKind.max,IntKind.signed,IntKind.bits]using this
theorem ow.Yn{r bn bi:Nat}{c:mU}{L:List mW}{w:iH}(h:ow r bn bi c L w)(n:Nat)(hn:n<18446744073709551616):
  (j5 131 (.map (some bi)) (lg lI n) true).run iG w=.ok (lD #[lC (Zw L λx=>decide ((x.r.id:Int)=(n:Int))).cs,lu (L.find? λx=>decide ((x.r.id:Int)=(n:Int))).isSome]) w:=by
 have A:=oU.look_ok (x:=(n:Int)) h.id Tryz.underlying131 row_zero (OQ hn);obtain⟨e1,e2⟩:=Kr (λx:mW=>(x.r.id:Int)) (n:Int) L;rw[e1,e2]at A;exact A
def M8(c:mU)(L:List mW)(f:uN):Option mW:=
 if c.fmt=1 then if f.id=0 then L.find? λx=>decide (x.r.name=f.name)else none else if f.name.size=0 then L.find? λx=>decide ((x.r.id:Int)=(f.id:Int))else none
def rcO:Option mW->RC
 |some x=>x.rc
 |none=>Af
theorem Xc(c:mU)(L:List mW)(f:uN):ofF c (L.map λx=>x.r) f=(M8 c L f).map λx=>x.r:=by
 unfold ofF M8;split
 .split
  .rw[List.find?_map];rfl
  .rfl
 .split
  .rw[List.find?_map]
   have:((λr:Row=>decide (r.id=f.id))∘λx:mW=>x.r)=λx:mW=>decide ((x.r.id:Int)=(f.id:Int)):=funext λx=>decide_eq_decide.2 (by show x.r.id=f.id<->(x.r.id:Int)=(f.id:Int);omega)
   rw[this]
  .rfl
theorem Xd(L:List mW)(p:mW->Bool):Zw L p=rcO (L.find? p):=by
 unfold Zw;cases L.find? p<;>rfl
def Ag(w:iH)(k:Nat)(x:RC):iH:=((((((w.setCell ⟨k,0,none⟩ (lg lI x.i)).setCell ⟨k,1,none⟩ (ll x.nm)).setCell ⟨k,2,none⟩ (ll x.tx)).setCell ⟨k,3,none⟩ (lg lH x.k)).setCell ⟨k,4,none⟩ (lg lH x.z)).setCell ⟨k,5,none⟩ (lh x.ou x.nu x.cu)).setCell ⟨k,6,none⟩ (lg lH x.tl)
theorem yn(w:iH)(k:Nat)(x:RC):((((((w.setCell ⟨k,0,none⟩ (lg lI x.i)).setCell ⟨k,1,none⟩ (ll x.nm)).setCell ⟨k,2,none⟩ (ll x.tx)).setCell ⟨k,3,none⟩ (lg lH x.k)).setCell ⟨k,4,none⟩ (lg lH x.z)).setCell ⟨k,5,none⟩ (lh x.ou x.nu x.cu)).setCell ⟨k,6,none⟩ (lg lH x.tl)=Ag w k x:=rfl
theorem vJ{w:iH}{k:Nat}{x y:RC}(h:lN w k y.cs t):lN (Ag w k x) k x.cs t:=by
 have q:=((((((h.set 0 (lg lI x.i)).set 1 (ll x.nm)).set 2 (ll x.tx)).set 3 (lg lH x.k)).set 4 (lg lH x.z)).set 5 (lh x.ou x.nu x.cu)).set 6 (lg lH x.tl);simp only[RC.cs,iN,iR,iT]at q;exact q
theorem QP{w:iH}{k c:Nat}{x:RC}(h:c≠k):(Ag w k x).heap[c]? =w.heap[c]? :=by
 unfold Ag;simp[jf,jK,Ne.symm h]
theorem Gf(w:iH)(k:Nat)(x:RC):(Ag w k x).heap.size=w.heap.size:=by simp[Ag,jf]
theorem sG{B k:Nat}{w0 w:iH}{x:RC}(h:iK B w0 w)(hk:B<=k):iK B w0 (Ag w k x):=
 ((((((h.setCell (p:=⟨k,0,none⟩) hk _).setCell (p:=⟨k,1,none⟩) hk _).setCell (p:=⟨k,2,none⟩) hk _).setCell (p:=⟨k,3,none⟩) hk _).setCell (p:=⟨k,4,none⟩) hk _).setCell (p:=⟨k,5,none⟩) hk _).setCell (p:=⟨k,6,none⟩) hk _
theorem uK{w:iH}{k c:Nat}{x:RC}{cs:Array iJ}(h:lN w c cs t)(A:c≠k):lN (Ag w k x) c cs t:=by
 unfold lN at*;rw[QP A];exact h
theorem nS{W:iH}{k:Nat}{x:RC}(h:lN W k x.cs t):(W.cell? ⟨k,0,none⟩=some (lg lI x.i)/\W.cell? ⟨k,1,none⟩=some (ll x.nm)/\W.cell? ⟨k,2,none⟩=some (ll x.tx)/\W.cell? ⟨k,3,none⟩=some (lg lH x.k)/\W.cell? ⟨k,4,none⟩=some (lg lH x.z)/\W.cell? ⟨k,5,none⟩=some (lh x.ou x.nu x.cu)/\W.cell? ⟨k,6,none⟩=some (lg lH x.tl))/\
  W.frozen? ⟨k,0,none⟩=false/\W.frozen? ⟨k,1,none⟩=false/\W.frozen? ⟨k,2,none⟩=false/\W.frozen? ⟨k,3,none⟩=false/\W.frozen? ⟨k,4,none⟩=false/\W.frozen? ⟨k,5,none⟩=false/\W.frozen? ⟨k,6,none⟩=false:=
 ⟨⟨h.cell 0,h.cell 1,h.cell 2,h.cell 3,h.cell 4,h.cell 5,h.cell 6⟩,h.free 0,h.free 1,h.free 2,h.free 3,h.free 4,h.free 5,h.free 6⟩
structure QQ(g r bn bi:Nat)(c:mU)(L:List mW)(f:uN)(w0:iH)(x:RC)(W:iH):Prop where
 rg:ow r bn bi c L W
 fr:lN W g #[lg lI f.id,ll f.name,ll f.body] pg
 rs:lN W (g+1) Af.cs CU
 fo:lN W (g+2) x.cs CU
 nV:iK g w0 W
 lt:r<g/\bn<g/\bi<g/\w0.heap.size=g
theorem mf(w:iH):iK w.heap.size w w.drew:=⟨rfl,rfl,rfl,iI _,λ_ _=>rfl⟩
theorem QQ.drew{g r bn bi:Nat}{c:mU}{L:List mW}{f:uN}{w0:iH}{x:RC}{W:iH}(h:QQ g r bn bi c L f w0 x W):QQ g r bn bi c L f w0 x W.drew:=
 ⟨h.rg.below (mf _),h.fr,h.rs,h.fo,h.nV.trans ((mf _).mono (by have:=h.fr.lt;omega)),h.lt⟩
theorem QQ.put{g r bn bi:Nat}{c:mU}{L:List mW}{f:uN}{w0:iH}{x y:RC}{W:iH}(h:QQ g r bn bi c L f w0 x W)(h0:ow r bn bi c L w0):QQ g r bn bi c L f w0 y (Ag W (g+2) y):=by
 have hb:=sG (x:=y) h.nV (show g<=g+2 by omega);exact⟨h0.below (h.lt.2.2.2▸hb),uK h.fr lK,uK h.rs lK,vJ h.fo,hb,h.lt⟩
def CV:List kH:=[⟨some 21,.move (.tmp 0),85,"registry.go:144",#[],none⟩,⟨some 22,.nilCheck (.tmp 21),0,"registry.go:144",#[⟨0,.data⟩],none⟩,⟨some 23,.fieldAddr 137 (.tmp 22) 1,0,"registry.go:144",#[⟨1,.data⟩],none⟩,⟨some 24,.load 130 (.tmp 23),130,"registry.go:144",#[⟨2,.data⟩],none⟩,⟨some 25,.fieldAddr 52 (.tmp 3) 1,0,"registry.go:144",#[],none⟩,⟨some 26,.load 9 (.tmp 25),9,"registry.go:144",#[⟨4,.data⟩],none⟩,⟨some 27,.lookup 130 (.tmp 24) (.tmp 26) true,129,"registry.go:144",#[⟨3,.data⟩,⟨5,.data⟩],none⟩,⟨some 20,.move (.tmp 27),129,"registry.go:144",#[⟨6,.data⟩],none⟩,⟨some 28,.extract (.tmp 20) 0,128,"registry.go:144",#[⟨7,.data⟩],none⟩,⟨some 29,.extract (.tmp 20) 1,4,"registry.go:144",#[⟨7,.data⟩,⟨10,.gcOnly .lateStores⟩],none⟩,⟨none,.store 128 (.tmp 6) (.tmp 28),0,"registry.go:144",#[⟨8,.data⟩,⟨0,.phase⟩,⟨1,.phase⟩,⟨2,.phase⟩,⟨3,.phase⟩,⟨4,.phase⟩,⟨5,.phase⟩,⟨6,.phase⟩,⟨7,.phase⟩,⟨8,.phase⟩,⟨9,.textOnly .lateStores⟩],none⟩,⟨some 7,.assign (.tmp 29),4,"registry.go:144",#[⟨9,.data⟩,⟨10,.chain⟩,⟨0,.phase⟩,⟨1,.phase⟩,⟨2,.phase⟩,⟨3,.phase⟩,⟨4,.phase⟩,⟨5,.phase⟩,⟨6,.phase⟩,⟨7,.phase⟩,⟨8,.phase⟩,⟨9,.phase⟩,⟨10,.phase⟩],none⟩]
section
variable (g r bn bi:Nat)(c:mU)(L:List mW)(f:uN)(w0:iH)(b:Bool)(x:RC)
def yo:Nat->iJ
 |0=> lq (some ⟨r,0,none⟩)
 |1=> lq (some ⟨r,0,none⟩)
 |2=> lq (some ⟨r,6,none⟩)
 |3=> .map (some bn)
 |4=> lq (some ⟨g,1,none⟩)
 |5=> ll f.name
 |6=> lD #[lC #[lg lI x.i,ll x.nm,ll x.tx,lg lH x.k,lg lH x.z,lh x.ou x.nu x.cu,lg lH x.tl],lu b]
 |7=> lD #[lC #[lg lI x.i,ll x.nm,ll x.tx,lg lH x.k,lg lH x.z,lh x.ou x.nu x.cu,lg lH x.tl],lu b]
 |8=> lC #[lg lI x.i,ll x.nm,ll x.tx,lg lH x.k,lg lH x.z,lh x.ou x.nu x.cu,lg lH x.tl]
 |9=> lu b
 |11=> lu b
 |_=>jo
structure a1g(D:Nat->Bool)(vs:Nat->iJ)(w:iH):Prop where
 mh:QQ g r bn bi c L f w0 (if(D 10)=true then x else Af) w
 val:∀j,(true)=true->D j=true->vs j=yo g r bn f b x j
variable {g r bn bi c L f w0 b x}
theorem TJ(h:p:=by
 have hW:=hI.mh;rw[hd]at hW;obtain⟨⟨z0,z1,z2,z3,z4,z5,z6⟩,f0,f1,f2,f3,f4,f5,f6⟩:=nS hW.fo;go_simp;rw[yn];refine hK jo _ _ rfl ⟨?_,ry hI.val⟩;rw[l7];exact hW.put h0):p:=h
theorem Xe{id:Nat}{Q:Exit->Act->iH->Prop}{J:iH}(ht0:a0.tmps.getD 0 jo=lq (some ⟨r,0,none⟩))(ht3:a0.tmps.getD 3 jo=lq (some ⟨g,0,none⟩))(hl:∀W,ow r bn bi c L W->(j5 130 (.map (some bn)) (ll f.name) true).run iG W=.ok (lD #[lC #[lg lI x.i,ll x.nm,ll x.tx,lg lH x.k,lg lH x.z,lh x.ou x.nu x.cu,lg lH x.tl],lu b]) W)(vT:a0.tmps.getD 6 jo=lq (some ⟨g+2,0,none⟩))(h0:ow r bn bi c L w0)(hsz:a0.tmps.size=54)(hI0:∀vs:Nat->iJ,(λw=>QQ g r bn bi c L f w0 (if false=true then x else Af) w) J.drew)(N:∀(vs:Nat->iJ) (w:iH),QQ g r bn bi c L f w0 (if true=true then x else Af) w->Q .normal {a0 with tmps:=(((((((((((a0.tmps.setIfInBounds 21 (lq (some ⟨r,0,none⟩))).setIfInBounds 22 (lq (some ⟨r,0,none⟩))).setIfInBounds 23 (lq (some ⟨r,6,none⟩))).setIfInBounds 24 (.map (some bn))).setIfInBounds 25 (lq (some ⟨g,1,none⟩))).setIfInBounds 26 (ll f.name)).setIfInBounds 27 (lD #[lC #[lg lI x.i,ll x.nm,ll x.tx,lg lH x.k,lg lH x.z,lh x.ou x.nu x.cu,lg lH x.tl],lu b])).setIfInBounds 20 (lD #[lC #[lg lI x.i,ll x.nm,ll x.tx,lg lH x.k,lg lH x.z,lh x.ou x.nu x.cu,lg lH x.tl],lu b])).setIfInBounds 28 (lC #[lg lI x.i,ll x.nm,ll x.tx,lg lH x.k,lg lH x.z,lh x.ou x.nu x.cu,lg lH x.tl])).setIfInBounds 29 (lu b)).setIfInBounds 7 (lu b))} w):
  (jJ id CV.toArray true).wp iG Q a0 J:=by
 refine l6 12 54 (a1g g r bn bi c L f w0 b x) lQ hsz lQ (.inl rfl) lQ ?_ ?_ ?_;.exact oo
 .refine pO λA af=> ?_
  clear hI0 N hsz;replace ht0:=iF ht0;replace ht3:=iF ht3;replace hl:=iF hl;replace vT:=iF vT;replace h0:=iF h0;unfold CV;simp only[ji,jC,o6];refine⟨?_,?_,?_,?_,?_,?_,?_,?_,?_,?_,?_,?_,trivial⟩<;>(intro D vs a w K hI hd E hw2 C hK;subst af;unfold CV);have ak:=(C 0 lM).trans ht0.out;rotate_left;have ag:=fe C hI.val E 21 0;rotate_left;have ah:=fe C hI.val E 22 1;rotate_left;have O:=fe C hI.val E 23 2;simp only[yo]at O;have c0:=hI.mh.rg.rg.c6;rotate_left;have e3:=(C 3 lM).trans ht3.out;rotate_left;have U:=fe C hI.val E 25 4;simp only[yo]at U;have c0:=hI.mh.fr.c1;rotate_left;have hl:=hl.out;have V:=fe C hI.val E 24 3;have Y:=fe C hI.val E 26 5;simp only[yo]at V Y;have q:=hl w hI.mh.rg;rotate_left;have ai:=fe C hI.val E 27 6;rotate_left;have Z:=fe C hI.val E 20 7;rotate_left;have Z:=fe C hI.val E 20 7;rotate_left
  .have h0:=h0.out
   have au:=(C 6 lM).trans vT.out;have aa:=fe C hI.val E 28 8;simp only[yo]at aa;exact TJ
  have aj:=fe C hI.val E 29 9;rotate_left
  all_goals
   try simp only[yo]at*
   go_simp;exact hK _ _ _ rfl ⟨hI.mh,ry hI.val⟩
 .intro D vs w ae hI
  have E:=hI.mh;rw[ae 10 lM]at E;have q:=N vs w E;rw[mQ hI.val ae];unfold CV;exact om
end
def CW:List kH:=[⟨some 43,.move (.tmp 0),85,"registry.go:146",#[],none⟩,⟨some 44,.nilCheck (.tmp 43),0,"registry.go:146",#[⟨0,.data⟩],none⟩,⟨some 45,.fieldAddr 137 (.tmp 44) 2,0,"registry.go:146",#[⟨1,.data⟩],none⟩,⟨some 46,.load 131 (.tmp 45),131,"registry.go:146",#[⟨2,.data⟩],none⟩,⟨some 47,.fieldAddr 52 (.tmp 3) 0,0,"registry.go:146",#[],none⟩,⟨some 48,.load 50 (.tmp 47),50,"registry.go:146",#[⟨4,.data⟩],none⟩,⟨some 49,.lookup 131 (.tmp 46) (.tmp 48) true,129,"registry.go:146",#[⟨3,.data⟩,⟨5,.data⟩],none⟩,⟨some 42,.move (.tmp 49),129,"registry.go:146",#[⟨6,.data⟩],none⟩,⟨some 50,.extract (.tmp 42) 0,128,"registry.go:146",#[⟨7,.data⟩],none⟩,⟨some 51,.extract (.tmp 42) 1,4,"registry.go:146",#[⟨7,.data⟩,⟨10,.gcOnly .lateStores⟩],none⟩,⟨none,.store 128 (.tmp 6) (.tmp 50),0,"registry.go:146",#[⟨8,.data⟩,⟨0,.phase⟩,⟨1,.phase⟩,⟨2,.phase⟩,⟨3,.phase⟩,⟨4,.phase⟩,⟨5,.phase⟩,⟨6,.phase⟩,⟨7,.phase⟩,⟨8,.phase⟩,⟨9,.textOnly .lateStores⟩],none⟩,⟨some 7,.assign (.tmp 51),4,"registry.go:146",#[⟨9,.data⟩,⟨10,.chain⟩,⟨0,.phase⟩,⟨1,.phase⟩,⟨2,.phase⟩,⟨3,.phase⟩,⟨4,.phase⟩,⟨5,.phase⟩,⟨6,.phase⟩,⟨7,.phase⟩,⟨8,.phase⟩,⟨9,.phase⟩,⟨10,.phase⟩],none⟩]
section
variable (g r bn bi:Nat)(c:mU)(L:List mW)(f:uN)(w0:iH)(b:Bool)(x:RC)
def yt:Nat->iJ
 |0=> lq (some ⟨r,0,none⟩)
 |1=> lq (some ⟨r,0,none⟩)
 |2=> lq (some ⟨r,7,none⟩)
 |3=> .map (some bi)
 |4=> lq (some ⟨g,0,none⟩)
 |5=> lg lI f.id
 |6=> lD #[lC #[lg lI x.i,ll x.nm,ll x.tx,lg lH x.k,lg lH x.z,lh x.ou x.nu x.cu,lg lH x.tl],lu b]
 |7=> lD #[lC #[lg lI x.i,ll x.nm,ll x.tx,lg lH x.k,lg lH x.z,lh x.ou x.nu x.cu,lg lH x.tl],lu b]
 |8=> lC #[lg lI x.i,ll x.nm,ll x.tx,lg lH x.k,lg lH x.z,lh x.ou x.nu x.cu,lg lH x.tl]
 |9=> lu b
 |11=> lu b
 |_=>jo
structure a1h(D:Nat->Bool)(vs:Nat->iJ)(w:iH):Prop where
 mh:QQ g r bn bi c L f w0 (if(D 10)=true then x else Af) w
 val:∀j,(true)=true->D j=true->vs j=yt g r bi f b x j
variable {g r bn bi c L f w0 b x}
theorem Xf{id:Nat}{Q:Exit->Act->iH->Prop}{J:iH}(ht0:a0.tmps.getD 0 jo=lq (some ⟨r,0,none⟩))(ht3:a0.tmps.getD 3 jo=lq (some ⟨g,0,none⟩))(hl:∀W,ow r bn bi c L W->(j5 131 (.map (some bi)) (lg lI f.id) true).run iG W=.ok (lD #[lC #[lg lI x.i,ll x.nm,ll x.tx,lg lH x.k,lg lH x.z,lh x.ou x.nu x.cu,lg lH x.tl],lu b]) W)(vT:a0.tmps.getD 6 jo=lq (some ⟨g+2,0,none⟩))(h0:ow r bn bi c L w0)(hsz:a0.tmps.size=54)(hI0:∀vs:Nat->iJ,(λw=>QQ g r bn bi c L f w0 (if false=true then x else Af) w) J.drew)(N:∀(vs:Nat->iJ) (w:iH),QQ g r bn bi c L f w0 (if true=true then x else Af) w->Q .normal {a0 with tmps:=(((((((((((a0.tmps.setIfInBounds 43 (lq (some ⟨r,0,none⟩))).setIfInBounds 44 (lq (some ⟨r,0,none⟩))).setIfInBounds 45 (lq (some ⟨r,7,none⟩))).setIfInBounds 46 (.map (some bi))).setIfInBounds 47 (lq (some ⟨g,0,none⟩))).setIfInBounds 48 (lg lI f.id)).setIfInBounds 49 (lD #[lC #[lg lI x.i,ll x.nm,ll x.tx,lg lH x.k,lg lH x.z,lh x.ou x.nu x.cu,lg lH x.tl],lu b])).setIfInBounds 42 (lD #[lC #[lg lI x.i,ll x.nm,ll x.tx,lg lH x.k,lg lH x.z,lh x.ou x.nu x.cu,lg lH x.tl],lu b])).setIfInBounds 50 (lC #[lg lI x.i,ll x.nm,ll x.tx,lg lH x.k,lg lH x.z,lh x.ou x.nu x.cu,lg lH x.tl])).setIfInBounds 51 (lu b)).setIfInBounds 7 (lu b))} w):
  (jJ id CW.toArray true).wp iG Q a0 J:=by
 refine l6 12 54 (a1h g r bn bi c L f w0 b x) lQ hsz lQ (.inl rfl) lQ ?_ ?_ ?_;.exact oo
 .refine pO λA af=> ?_
  clear hI0 N hsz;replace ht0:=iF ht0;replace ht3:=iF ht3;replace hl:=iF hl;replace vT:=iF vT;replace h0:=iF h0;unfold CW;simp only[ji,jC,o6];refine⟨?_,?_,?_,?_,?_,?_,?_,?_,?_,?_,?_,?_,trivial⟩<;>(intro D vs a w K hI hd E hw2 C hK;subst af;unfold CW);have ak:=(C 0 lM).trans ht0.out;rotate_left;have ag:=fe C hI.val E 43 0;rotate_left;have ah:=fe C hI.val E 44 1;rotate_left;have O:=fe C hI.val E 45 2;simp only[yt]at O;have c0:=hI.mh.rg.rg.c7;rotate_left;have e3:=(C 3 lM).trans ht3.out;rotate_left;have U:=fe C hI.val E 47 4;simp only[yt]at U;have c0:=hI.mh.fr.c0;rotate_left;have hl:=hl.out;have V:=fe C hI.val E 46 3;have Y:=fe C hI.val E 48 5;simp only[yt]at V Y;have q:=hl w hI.mh.rg;rotate_left;have ai:=fe C hI.val E 49 6;rotate_left;have Z:=fe C hI.val E 42 7;rotate_left;have Z:=fe C hI.val E 42 7;rotate_left
  .have h0:=h0.out
   have au:=(C 6 lM).trans vT.out;have aa:=fe C hI.val E 50 8;simp only[yt]at aa;exact TJ
  have aj:=fe C hI.val E 51 9;rotate_left
  all_goals
   try simp only[yt]at*
   go_simp;exact hK _ _ _ rfl ⟨hI.mh,ry hI.val⟩
 .intro D vs w ae hI
  have E:=hI.mh;rw[ae 10 lM]at E;have q:=N vs w E;rw[mQ hI.val ae];unfold CW;exact om
end
theorem vK(L:List mW)(p:mW->Bool):∃x:RC,Zw L p=x/\x=rcO (L.find? p):=⟨_,rfl,Xd L p⟩
theorem TK(h:p:=by
 have hF:=HI.out;clear h2 HR HL6 HX6 HI;have HF:=iF hF;clear hF;obtain⟨⟨z0,z1,z2,z3,z4,z5,z6⟩,_⟩:=nS HF.out.fo;obtain⟨⟨y0,y1,y2,y3,y4,y5,y6⟩,q0,q1,q2,q3,q4,q5,q6⟩:=nS HF.out.rs;unfold Af at y0 y1 y2 y3 y4 y5 y6;dsimp only at y0 y1 y2 y3 y4 y5 y6;go_wp2_with fail;rw[yn _ _ Af];obtain⟨⟨d0,d1,d2,d3,d4,d5,d6⟩,_⟩:=nS (vJ (x:=Af) HF.out.rs);have hbel:=sG (x:=Af) HF.out.nV (jF g);generalize Ag _ _ Af=W9 at*;refine iV (v:=lD #[lC Af.cs,lu false]) (by simp[jr,Tryz.results91,go_sem,d0,d1,d2,d3,d4,d5,d6,RC.cs]) rfl ⟨?_,hbel⟩;rw[HE.out];rfl):p:=h
theorem Zx(r bn bi:Nat)(c:mU)(L:List mW)(f:uN)(w:iH)(h:ow r bn bi c L w)(hn:f.name.size<=jb)(hid:f.id<18446744073709551616)(hlt:r<w.heap.size/\bn<w.heap.size/\bi<w.heap.size):
  iU iG 91 #[lq (some ⟨r,0,none⟩),lC #[lg lI f.id,ll f.name,ll f.body]] w λe w'=>e=lF (lD #[lC (rcO (M8 c L f)).cs,lu (M8 c L f).isSome])/\iK w.heap.size w w':=by
 obtain⟨g,hg⟩:=lV w.heap.size;have Y:iW (∀W,((w.alloc (lG #[lg lI f.id,ll f.name,ll f.body] pg)).alloc (lG #[lg lI 0,ll ⟨#[]⟩,ll ⟨#[]⟩,lg lH 0,lg lH 0,lh none 0 0,lg lH 0] CU)).alloc (lG #[lg lI 0,ll ⟨#[]⟩,ll ⟨#[]⟩,lg lH 0,lg lH 0,lh none 0 0,lg lH 0] CU)=W->QQ g r bn bi c L f w Af W):=iF λW E=>by
  subst E;have aB:=(iL w.heap.size w).alloc (iI _) (lG #[lg lI f.id,ll f.name,ll f.body] pg);have a2:=aB.alloc lU (lG #[lg lI 0,ll ⟨#[]⟩,ll ⟨#[]⟩,lg lH 0,lg lH 0,lh none 0 0,lg lH 0] CU);have a3:=a2.alloc lW (lG #[lg lI 0,ll ⟨#[]⟩,ll ⟨#[]⟩,lg lH 0,lg lH 0,lh none 0 0,lg lH 0] CU);have ai:=lN.new w #[lg lI f.id,ll f.name,ll f.body] pg;have aj:=lN.new (w.alloc (lG #[lg lI f.id,ll f.name,ll f.body] pg)) #[lg lI 0,ll ⟨#[]⟩,ll ⟨#[]⟩,lg lH 0,lg lH 0,lh none 0 0,lg lH 0] CU;have ak:=lN.new ((w.alloc (lG #[lg lI f.id,ll f.name,ll f.body] pg)).alloc (lG #[lg lI 0,ll ⟨#[]⟩,ll ⟨#[]⟩,lg lH 0,lg lH 0,lh none 0 0,lg lH 0] CU)) #[lg lI 0,ll ⟨#[]⟩,ll ⟨#[]⟩,lg lH 0,lg lH 0,lh none 0 0,lg lH 0] CU;rw[show(w.alloc (lG #[lg lI f.id,ll f.name,ll f.body] pg)).heap.size=g+1 by simp[hg]]at aj;rw[show((w.alloc (lG #[lg lI f.id,ll f.name,ll f.body] pg)).alloc (lG #[lg lI 0,ll ⟨#[]⟩,ll ⟨#[]⟩,lg lH 0,lg lH 0,lh none 0 0,lg lH 0] CU)).heap.size=g+2 by simp[hg]]at ak;rw[hg]at ai;exact⟨h.below a3,(ai.alloc _).alloc _,aj.alloc _,ak,hg▸a3,⟨lK,lK,lK,hg⟩⟩
 have C:iW (∀W,ow r bn bi c L W->_):=iF λW E=>E.look f.name hn
 have HL6:iW (∀W,ow r bn bi c L W->_):=iF λW E=>E.Yn f.id hid
 have au:=iF h;have av:∀b1 ag,decide (c.fmt=1)=b1->decide (f.id=0)=ag->decide (f.name.size=0)=decide (f.name.size=0)->M8 c L f=if b1 then if ag then L.find? λx=>decide (x.r.name=f.name)else none else if decide (f.name.size=0)then L.find? λx=>decide ((x.r.id:Int)=(f.id:Int))else none:=by
  intro b1 ag A h2 _;subst A h2;unfold M8;simp only[decide_eq_true_eq]
 have HR:=iF av;obtain⟨J,Z,N⟩:=vK L λx=>decide (x.r.name=f.name)
 obtain⟨O,aa,Q⟩:=vK L λx=>decide ((x.r.id:Int)=(f.id:Int))
 rw[Z]at C;rw[aa]at HL6;unfold RC.cs at C HL6;have ae:=iF N;have HX6:=iF Q;generalize ax:(L.find? λx=>decide (x.r.name=f.name))=o4 at*;generalize ay:(L.find? λx=>decide ((x.r.id:Int)=(f.id:Int)))=az at*;obtain⟨V,af⟩:=lV (M8 c L f);rw[af]at HR⊢;rw[hg];clear h hn hlt Z aa N Q ax ay av af hid;go_in;go_upto_region 2 with fail;have hI:=Y.out _ rfl;generalize ((w.alloc _).alloc _).alloc _=w1 at*;have HI:=iF hI;have c0:=hI.rg.rg.c0;obtain⟨aD,f1⟩:=hI.fr.a2;clear hI Y;by_cases A:c.fmt=1
 .have aC:(c.fmt==1)=true:=by simp[A]
  have aA:(c.fmt !=1)=false:=by simp[A]
  have U:=iF A;clear A;by_cases h2:f.id=0
  .have ah:((f.id:Int)==0)=true:=by simp[h2]
   have HE:iW (V=o4):=iF (by rw[HR.out true true (by simp[U.out]) (by simp[h2]) rfl];rfl);clear h2 HR HL6 HX6;go_upto_region 4 with fail;refine Xe (ht0:=by rfl) (ht3:=by rfl) (vT:=by rfl) (hl:=C.out) (h0:=au.out) (hsz:=by rfl) (hI0:=λ_=>HI.out.drew) ?_;intro vs W hF;clear HI;simp only[iN,iR,iT];have HF:=iF hF;clear hF;obtain⟨⟨z0,z1,z2,z3,z4,z5,z6⟩,_⟩:=nS HF.out.fo;obtain⟨⟨y0,y1,y2,y3,y4,y5,y6⟩,q0,q1,q2,q3,q4,q5,q6⟩:=nS HF.out.rs;unfold Af at y0 y1 y2 y3 y4 y5 y6;dsimp only at y0 y1 y2 y3 y4 y5 y6;go_wp2_with fail;rw[yn _ _ J];obtain⟨⟨d0,d1,d2,d3,d4,d5,d6⟩,_⟩:=nS (vJ (x:=J) HF.out.rs);have hbel:=sG (x:=J) HF.out.nV (jF g);generalize Ag _ _ J=W9 at*;refine iV (v:=lD #[lC J.cs,lu o4.isSome]) (by simp[jr,Tryz.results91,go_sem,d0,d1,d2,d3,d4,d5,d6,RC.cs]) rfl ⟨?_,hbel⟩;rw[HE.out,ae.out]
  .have ah:((f.id:Int)==0)=false:=lW
   have HE:iW (V=none):=iF (by rw[HR.out true false (by simp[U.out]) (by simp[h2]) rfl];rfl);exact TK
 .have aC:(c.fmt==1)=false:=by simp[A]
  have aA:(c.fmt !=1)=true:=by simp[A]
  have U:=iF A;clear A;by_cases h2:f.name.size=0
  .have ah:(f.name.toList==([]:List UInt8))=true:=by rw[uU];simp[h2]
   have HE:iW (V=az):=iF (by rw[HR.out false _ (by simp[U.out]) rfl rfl,decide_eq_true h2];rfl);clear h2 HR C ae;go_upto_region 6 with fail;refine Xf (ht0:=by rfl) (ht3:=by rfl) (vT:=by rfl) (hl:=HL6.out) (h0:=au.out) (hsz:=by rfl) (hI0:=λ_=>HI.out.drew) ?_;intro vs W hF;clear HI;simp only[iN,iR,iT];have HF:=iF hF;clear hF;obtain⟨⟨z0,z1,z2,z3,z4,z5,z6⟩,_⟩:=nS HF.out.fo;obtain⟨⟨y0,y1,y2,y3,y4,y5,y6⟩,q0,q1,q2,q3,q4,q5,q6⟩:=nS HF.out.rs;unfold Af at y0 y1 y2 y3 y4 y5 y6;dsimp only at y0 y1 y2 y3 y4 y5 y6;go_wp2_with fail;rw[yn _ _ O];obtain⟨⟨d0,d1,d2,d3,d4,d5,d6⟩,_⟩:=nS (vJ (x:=O) HF.out.rs);have hbel:=sG (x:=O) HF.out.nV (jF g);generalize Ag _ _ O=W9 at*;refine iV (v:=lD #[lC O.cs,lu az.isSome]) (by simp[jr,Tryz.results91,go_sem,d0,d1,d2,d3,d4,d5,d6,RC.cs]) rfl ⟨?_,hbel⟩;rw[HE.out,HX6.out]
  .have ah:(f.name.toList==([]:List UInt8))=false:=by rw[uU];simp[h2]
   have HE:iW (V=none):=iF (by rw[HR.out false _ (by simp[U.out]) rfl rfl,decide_eq_false h2];rfl);exact TK
end
section
open Go.RowKit
theorem wo{g:Nat}{w W:iH}{a b c:iJ}(hB:∃a0 b0 c0,lN W g #[a0,b0,c0] IT)(hb:iK g w W):lN (nA W g a b c) g #[a,b,c] IT/\iK g w (nA W g a b c):=by
 obtain⟨a0,b0,c0,h⟩:=hB;exact⟨((h.set 0 a).set 1 b).set 2 c,((hb.setCell (p:=⟨g,0,none⟩) lU _).setCell (p:=⟨g,1,none⟩) lU _).setCell (p:=⟨g,2,none⟩) lU _⟩
theorem Bq(s:ByteArray)(w:iH):
  iU iG 227 #[ll s] w λe w'=>e=lF (lC #[ll s,lu false,lh none 0 0])/\iK w.heap.size w w':=by
 obtain⟨g,hg⟩:=lV w.heap.size;have C:=lN.new w #[ll ⟨#[]⟩,lu false,lh none 0 0] IT;have E:=(iL w.heap.size w).alloc (iI _) (lG #[ll ⟨#[]⟩,lu false,lh none 0 0] IT);rw[hg]at C E⊢;have J:=iF C;have N:=iF E;clear C E;go_in;go_upto_region 1 with fail;have hw1:=J.out;have A:=N.out;generalize w.alloc _=w1 at*;obtain⟨Z,aa,ae,z0,af,ag⟩:=hw1.b3;have O:=iF A;have Q:=iF hw1;clear A hw1;go_wp2_with fail;rw[nO];obtain⟨hB,hb⟩:=wo (a:=ll s) (b:=lu false) (c:=lh none 0 0) ⟨_,_,_,Q.out⟩ O.out;obtain⟨U,V,Y⟩:=hB.a3;refine iV (v:=lC #[ll s,lu false,lh none 0 0]) (by simp[jr,Tryz.results227,go_sem,U,V,Y]) rfl ⟨rfl,hb⟩
theorem Hy(n:Nat)(w:iH)(s:ByteArray)(hL:∀W,iU iG 202 #[lg lI n] W λe w'=>e=lF (ll s)/\iK W.heap.size W w'):
  iU iG 248 #[lg lI n] w λe w'=>e=lF (lC #[ll s,lu false,lh none 0 0])/\iK w.heap.size w w':=by
 obtain⟨g,hg⟩:=lV w.heap.size;have U:=lN.new w #[ll ⟨#[]⟩,lu false,lh none 0 0] IT;have V:=(iL w.heap.size w).alloc (iI _) (lG #[ll ⟨#[]⟩,lu false,lh none 0 0] IT);rw[hg]at U V⊢;have aa:=iF U;have ae:=iF V;have af:=iF hL;have ag:=iF (Bq s);clear U V hL;go_in;go_upto_region 1 with fail;have hw1:=aa.out;have N:=ae.out;generalize w.alloc _=w1 at*;have Y:=iF N;have J:=iF hw1;clear N hw1;go_wp2_with fail;refine(af.out _).mono ?_;rintro e w2 ⟨rfl,C⟩;have A:=iF (Below.blk C J.out J.out.lt);have O:=iF (Y.out.trans (C.mono (by have:=J.out.lt;omega)));clear C J Y;go_wp2_with fail;refine(ag.out _).mono ?_;rintro e w3 ⟨rfl,E⟩;have Q:=iF (Below.blk E A.out A.out.lt);have Z:=iF (O.out.trans (E.mono (by have:=A.out.lt;omega)));obtain⟨ak,au,av,z0,ax,ay⟩:=Q.out.b3;clear E A O;go_wp2_with fail;rw[nO];obtain⟨hB,hb⟩:=wo (a:=ll s) (b:=lu false) (c:=lh none 0 0) ⟨_,_,_,Q.out⟩ Z.out;obtain⟨ah,ai,aj⟩:=hB.a3;refine iV (v:=lC #[ll s,lu false,lh none 0 0]) (by simp[jr,Tryz.results248,go_sem,ah,ai,aj]) rfl ⟨rfl,hb⟩
abbrev Cw:jg:=258
def yT(cb:Nat):iJ:=.func (.func 145) #[lq (some ⟨cb,0,none⟩)] #[]
def Ah(cb:Nat):iJ:=.func (.func 191) #[lq (some ⟨cb,0,none⟩)] #[]
def AU(cb:Nat):iJ:=.func (.func 146) #[lq (some ⟨cb,0,none⟩)] #[]
def zC(cb:Nat):iJ:=.func (.func 189) #[lq (some ⟨cb,0,none⟩)] #[]
def yU(fb:Nat):iJ:=.func (.func 209) #[] #[lq (some ⟨fb,0,none⟩)]
def Ce(cb lb fb:Nat):Array iJ:=#[yT cb,Ah cb,AU cb,zC cb,yU fb,lq (some ⟨lb,0,none⟩)]
structure yV(cb lb fb:Nat)(r:RS)(l:Nat)(w:iH):Prop where
 rd:tT w cb r
 ok:(r.Ok/\r.t.size<=100000)/\l<=1024
 lf:lN w lb #[lg lH (l:Nat)] 3
 fr:lN w fb #[lq (some ⟨cb,0,none⟩)] 193
 tab:yK w
 ne:cb≠lb/\fb≠cb/\fb≠lb/\0≠cb/\0≠lb
section
variable {cb lb fb l:Nat}{r:RS}{w w':iH}
theorem tu{b q:Nat}(h:yK w)(u:mH b q w w')(A:0≠b)(C:0≠q):yK w':=by
 have hb:=u.block 0 h.lt A C;exact OL
theorem uW{b q:Nat}(h:ng b w w'):mH b q w w':=⟨h.os,h.tape,h.output,h.size,λk hk hb _=>h.block k hk (by simpa using hb)⟩
theorem yV.below(h:yV cb lb fb r l w)(hb:iK w.heap.size w w'):yV cb lb fb r l w':=
 ⟨Below.blk hb h.rd (lN.lt h.rd),h.ok,Below.blk hb h.lf h.lf.lt,Below.blk hb h.fr h.fr.lt,tu h.tab (mH.of (b:=cb) (q:=lb) hb) h.ne.2.2.2.1 h.ne.2.2.2.2,h.ne⟩
theorem yV.turn{r':RS}(h:yV cb lb fb r l w)(A:ng cb w w')(C:tT w' cb r')(ho:r'.Ok/\r'.t.size<=100000):yV cb lb fb r' l w':=
 have u:=uW (q:=lb) A
 ⟨C,⟨ho,h.ok.2⟩,A.blk h.lf (Ne.symm h.ne.1),A.blk h.fr h.ne.2.1,tu h.tab u h.ne.2.2.2.1 h.ne.2.2.2.2,h.ne⟩
theorem yV.y7(h:yV cb lb fb r l w)(m:Nat)(A:m<=1024):yV cb lb fb r m (w.setCell ⟨lb,0,none⟩ (lg lH (m:Nat))):=
 ⟨lN.setOther (a:=⟨lb,0,none⟩) h.rd h.ne.1 _,⟨h.ok.1,A⟩,h.lf.set 0 _,lN.setOther (a:=⟨lb,0,none⟩) h.fr h.ne.2.2.1 _,tu h.tab ((mH.refl cb lb w).Lu 0 _) h.ne.2.2.2.1 h.ne.2.2.2.2,h.ne⟩
end
theorem TM(h:p:=by
 unfold RS.comp at hf⊢;split at hf
 .rename_i h0
  rw[if_pos h0];dsimp only at hf⊢;split at hf;.rename_i h1;exact absurd rfl hf
  .rename_i h1;rw[if_neg h1];exact jy _
 .rename_i h0
  rw[if_neg h0];exact jy _):p:=h
theorem Em(cb lb fb l:Nat)(r:RS)(most:Nat)(w:iH)(h:yV cb lb fb r l w)(O:most<=65536):
  iU iG 209 #[lg lH most,lq (some ⟨fb,0,none⟩)] w λe w'=>e=lF (lg lH (r.comp most).2)/\yV cb lb fb (r.comp most).1 l w'/\ng cb w w':=by
 have c0:=h.fr.c0;have E:=iF (QK cb r most w h.ok.1.1 h.rd lK h.tab h.ne.2.2.2.1);have N:(r.comp most).2<=65536:=by
  by_cases hf:(r.comp most).1.f=0;.have:=yj hf;omega
  .exact TM
 have J:=iF (λw' (A:ng cb w w') C=>h.turn A C ⟨h.ok.1.1.comp most,by rw[MW];exact h.ok.1.2⟩);clear h;generalize r.comp most=y at*;obtain⟨r2,n⟩:=y;dsimp only at*;go_in;go_wp2_with fail;refine E.out.mono ?_;rintro e w2 ⟨rfl,A,C⟩;go_wp2_with fail;go_returns;exact⟨rfl,J.out w2 A C,A⟩
end
end Go.Proofs.YtamfcjmhnndbdaaGreatDoor


