/- Part 9 of the proof. -/
import Derived.Test.YtamfcjmhnndbdaaGreatDoorZm06
import Derived.Test.YtamfcjmhnndbdaaGreatDoorZm00
import Derived.Test.YtamfcjmhnndbdaaGreatDoorZm05
import Derived.Test.YtamfcjmhnndbdaaGreatDoorZm07
import Derived.Test.YtamfcjmhnndbdaaGreatDoorZm08
open Go.Value renaming agg→nD,bool→nC,int→nk,pointer→nA,slice→ny,string→nz,tuple→nE
open Go.Obj renaming cells→nH
open Go.IntKind renaming i64→nI,u32→nK,u64→nJ
open Go.Ending renaming returned→nG
open Go.Lib renaming hid→jH
open Go.Proofs.Tryz renaming prog→jI,underlying9→mH
open Go renaming World→jJ,Value→jP,Calls→jV,bodyPost_ret→jZ,maxLen→j3,TypeId→ko,undef→kI,results→kQ,Addr→lH,Oper→lY,Program→ma
open Nat renaming le_refl→jK,zero_le→kH,add_assoc→kR,le_succ→kV,lt_succ_self→lK,le_of_eq→mR
open List renaming setIfInBounds_toArray→jL,getElem?_cons_succ→jM,getElem?_cons_zero→jN,getElem?_toArray→jO,set_cons_zero→jQ,set_cons_succ→jR,getElem?_eq_getElem→jW,take_succ_cons→ky,mem_of_getElem?→kK,take_zero→kL,getElem?_eq_some_iff→lF,take_length→l9,map_cons→mQ
open Go.RowKit renaming Below→jS,Hid→jX,intOf→kT
open Go.RowKit.Below renaming refl→jT
open And renaming intro→jU
open Go.World renaming setCell→kz,cell?→mI
open Go.Act renaming put→kE
open Go.Instr renaming index→kS,lookup→lW
open Go.Code renaming region→ll
open Array renaming getElem?_modify→lu
open Go.Lit renaming int→lI
open Go.Sem renaming run→l7
open Option renaming none→V,some→U
open Go.Addr renaming mk→Z
namespace Go.Proofs.YtamfcjmhnndbdaaGreatDoor
set_option linter.unusedVariables false
set_option linter.unusedSimpArgs false
set_option maxRecDepth 100000
set_option maxHeartbeats 8000000
variable {p:Prop}{a0:Act}{κ:Type}{t:ko}
section
open Go.RowKit
structure RZ where
 id:Nat
 name:ByteArray
 body:ByteArray
 n:Nat
 e:Nat
def RZ.v(y:RZ):jP:=nE #[nD #[nk nJ y.id,nz y.name,nz y.body],nk nI y.n,nk nI y.e]
def Ux(R:Except Nat (vP×Nat)):RZ:=match R with
 | .error er=>⟨0,⟨#[]⟩,⟨#[]⟩,0,er⟩
 | .ok y=>⟨y.1.id,y.1.name,y.1.body,y.2,0⟩
theorem Jo{R:Except Nat (vP×Nat)×Option (Nat×MS)}{mt:Option (Nat×MS)}{w w':jJ}{e:Ending}:zH R mt w e w'<->w.grownBy w' (oM mt)/\pO w' R.2/\e=nG (Ux R.1).v:=by
 unfold zH;obtain⟨A,m2⟩:=R;cases A with
 |error er=>exact Iff.rfl
 |ok y=>exact Iff.rfl
structure Ni(g:Nat)(c:oF)(w0:jJ)(mt m2:Option (Nat×MS))(y:RZ)(d8 d13 d14:Bool)(v:jP)(w:jJ):Prop where
 wn:Jc g c w0 mt w
 mm:pO w (if d8=true then m2 else mt)
 blk:d13=true->∃b,v=nA (U (Z b 0 V))/\g+1<b/\nP w b (if d14=true then#[nk nJ y.id,nz y.name,nz y.body]else#[nk nJ 0,nz ⟨#[]⟩,nz ⟨#[]⟩]) rq
section
variable {g:Nat}{c:oF}{w0 w w':jJ}{mt m2:Option (Nat×MS)}{y:RZ}{d8 d13 d14:Bool}{v:jP}
theorem Ni.below(h:Ni g c w0 mt m2 y d8 d13 d14 v w)(hb:jS w.heap.size w w'):Ni g c w0 mt m2 y d8 d13 d14 v w':=
 ⟨h.wn.below hb,h.mm.grown hb,λhd=>by obtain⟨b,h1,h2,A⟩:=h.blk hd;exact⟨b,h1,h2,Below.blk hb A A.lt⟩⟩
theorem Ni.call(h:Ni g c w0 mt m2 y false d13 d14 v w)(hg:w.grownBy w' (oM mt))(A:pO w' m2)(hlt:∀x,oM mt=U x->x<g):Ni g c w0 mt m2 y true d13 d14 v w':=
 ⟨h.wn.grow hg hlt,A,λhd=>by obtain⟨b,h1,h2,C⟩:=h.blk hd;exact⟨b,h1,h2,pg C hg λx E=>by have:=hlt x E;omega⟩⟩
theorem Ni.made(h:Ni g c w0 mt m2 y d8 false false v w):Ni g c w0 mt m2 y d8 true false (nA (U (Z w.heap.size 0 V))) (w.alloc (nH #[nk nJ 0,nz ⟨#[]⟩,nz ⟨#[]⟩] rq)):=by
 have hb:=(jT w.heap.size w).alloc (jK _) (nH #[nk nJ 0,nz ⟨#[]⟩,nz ⟨#[]⟩] rq);exact⟨h.wn.below hb,h.mm.grown hb,λ_=>⟨w.heap.size,rfl,h.wn.res.lt,nP.new w _ _⟩⟩
theorem Ni.put{b:Nat}(h:Ni g c w0 mt m2 y true true false (nA (U (Z b 0 V))) w)(E:w0.heap.size<=g)(hlt:∀x,oM m2=U x->x<g)(A:g+1<b)(hB:nP w b #[nk nJ 0,nz ⟨#[]⟩,nz ⟨#[]⟩] rq):Ni g c w0 mt m2 y true true true (nA (U (Z b 0 V))) (xZ w b (nk nJ y.id) (nz y.name) (nz y.body)):=
 have C:=a0M (a:=nk nJ y.id) (b:=nz y.name) (d:=nz y.body) h.wn hB A E hlt h.mm
 ⟨C.wn,C.mm,λ_=>⟨b,rfl,A,C.fr⟩⟩
end
noncomputable def GH:List lY:=cO (cL (cR (cR (cB Tryz.f63))))
section
variable (g:Nat)(c:oF)(fn:FuncId)(row:jP)(w0:jJ)(mt m2:Option (Nat×MS))(s:ByteArray)(y:RZ)
def tQ:Nat->jP
 |0=> nD zi
 |1=> nA (U (Z g 0 V))
 |2=> nk nI c.fmt
 |3=>row
 |4=> .func (.func fn) #[] #[]
 |5=> nD #[nk nI c.fmt,nk nK c.mag,nk nI c.pF,nk nI c.qc,nk nI c.dep,nk nI c.oV]
 |6=>IZ mt
 |7=> nz s
 |8=>y.v
 |9=>y.v
 |10=> nD #[nk nJ y.id,nz y.name,nz y.body]
 |11=> nk nI y.n
 |12=> nk nI y.e
 |15=> nk nI y.n
 |16=> nk nI y.e
 |_=>kI
structure a3S(D:Nat->Bool)(vs:Nat->jP)(w:jJ):Prop where
 oH:Ni g c w0 mt m2 y (D 8) (D 13) (D 14) (vs 13) w
 val:∀j,(j !=13)=true->D j=true->vs j=tQ g c fn row mt s y j
variable {g c fn row w0 mt m2 s y}
theorem a01{D:Nat->Bool}{vs:Nat->jP}{w w':jJ}(h:a3S g c fn row w0 mt m2 s y D vs w){i:Nat}(hi:i≠8/\i≠13/\i≠14)(A:Ni g c w0 mt m2 y (D 8) (D 13) (D 14) (vs 13) w->Ni g c w0 mt m2 y (D 8) (D 13) (D 14) (vs 13) w'):a3S g c fn row w0 mt m2 s y (zm D i) (zn vs i (tQ g c fn row mt s y i)) w':=by
 refine⟨?_,uK h.val⟩;rw[nR D (show 8≠i by omega)];rw[nR D (show 13≠i by omega)];rw[nR D (show 14≠i by omega)];rw[om vs (tQ g c fn row mt s y i) (show 13≠i by omega)];exact A h.oH
theorem qH(h:p:=by
 simp only[ky,kL,xy,kE];exact q):p:=h
theorem qB(h:p:=by
 exact λvs=>⟨hI0 vs,λj _ h=>by cases h⟩):p:=h
theorem a3T{id:Nat}{Q:Exit->Act->jJ->Prop}{ae:jJ}(ht3:a0.tmps.getD 3 kI=nA (U (Z g 0 V)))(hrow:∀W,(kS 142 (nD zi) (nk nI c.fmt)).run jI W=.ok row W)(Jh:∀W,(Instr.field 141 row 2).run jI W=.ok (.func (.func fn) #[] #[]) W)(ht1:a0.tmps.getD 1 kI=IZ mt)(ht2:a0.tmps.getD 2 kI=nz s)(hlt:∀x,oM mt=U x->x<g)(hcf:∀a b d W,l7 jI (callFunc fn #[a,b,d]) W=.ok (.enter fn #[a,b,d]) W)(hcall:∀W,pO W mt->jV jI fn #[nD #[nk nI c.fmt,nk nK c.mag,nk nI c.pF,nk nI c.qc,nk nI c.dep,nk nI c.oV],IZ mt,nz s] W λe af=>W.grownBy af (oM mt)/\pO af m2/\e=nG y.v)(hm2:oM m2=oM mt)(hw0:w0.heap.size<=g)(hsz:a0.tmps.size=35)(hI0:∀vs:Nat->jP,(λw=>Ni g c w0 mt m2 y false false false (vs 13) w) ae.drew)(ag:∀(vs:Nat->jP) (w:jJ),Ni g c w0 mt m2 y true true true (vs 13) w->Q .normal {a0 with tmps:=((((((((((((((((a0.tmps.setIfInBounds 17 (nD zi)).setIfInBounds 18 (nA (U (Z g 0 V)))).setIfInBounds 19 (nk nI c.fmt)).setIfInBounds 20 (row)).setIfInBounds 21 (.func (.func fn) #[] #[])).setIfInBounds 22 (nD #[nk nI c.fmt,nk nK c.mag,nk nI c.pF,nk nI c.qc,nk nI c.dep,nk nI c.oV])).setIfInBounds 23 (IZ mt)).setIfInBounds 24 (nz s)).setIfInBounds 25 (y.v)).setIfInBounds 16 (y.v)).setIfInBounds 26 (nD #[nk nJ y.id,nz y.name,nz y.body])).setIfInBounds 27 (nk nI y.n)).setIfInBounds 28 (nk nI y.e)).setIfInBounds 9 (vs 13)).setIfInBounds 10 (nk nI y.n)).setIfInBounds 11 (nk nI y.e))} w):
  (ll id GH.toArray true).wp jI Q a0 ae:=by
 refine og 17 35 (a3S g c fn row w0 mt m2 s y) nN hsz nN (.inl rfl) nN ?_ ?_ ?_;.exact qB
 .refine rM λA aD=> ?_
  clear hI0 ag hsz;replace ht3:=jH ht3;replace hrow:=jH hrow;replace Jh:=jH Jh;replace ht1:=jH ht1;replace ht2:=jH ht2;replace hlt:=jH hlt;replace hcf:=jH hcf;replace hcall:=jH hcall;replace hm2:=jH hm2;replace hw0:=jH hw0;dsimp+instances only[GH,cO,cL,cR,cB,Tryz.f63];simp only[ky,kL,qW];refine⟨?_,?_,?_,?_,?_,?_,?_,?_,?_,?_,?_,?_,?_,?_,?_,?_,?_,trivial⟩<;>(intro D vs a w K hI hd E hw2 C N;subst aD;dsimp+instances only[GH,cO,cL,cR,cB,Tryz.f63])
  .rw[if_pos (by rfl)]
   have aF:=Cw w;go_simp;refine aF.mono ?_;rintro e aG ⟨rfl,hb⟩;exact N (tQ g c fn row mt s y 0) _ _ rfl (a01 hI (i:=0) nO λh=>h.below hb)
  have e3:=(C 3 nO).trans ht3.out;rotate_left;have ah:=fe C hI.val E 18 1;simp only[tQ]at ah;have c0:w.cell? (Z g 0 V)=U (nk nI c.fmt):=hI.oH.wn.cf.cell 0;rotate_left;have hrow:=hrow.out;have aa:=fe C hI.val E 17 0;have ai:=fe C hI.val E 19 2;simp only[tQ]at aa ai;have aj:=hrow w;unfold zi at aj aa;rotate_left;have Jh:=Jh.out;have ak:=fe C hI.val E 20 3;simp only[tQ]at ak;have aj:=Jh w;rotate_left;have e3:=(C 3 nO).trans ht3.out;obtain⟨c0,c1,c2,c3,c4,c5⟩:=hI.oH.wn.cf.a6;rotate_left;have e1:=(C 1 nO).trans ht1.out;rotate_left;have e2:=(C 2 nO).trans ht2.out;rotate_left
  .have hlt:=hlt.out
   have hcf:=hcf.out;have hcall:=hcall.out;have au:=fe C hI.val E 21 4;have av:=fe C hI.val E 22 5;have ax:=fe C hI.val E 23 6;have ay:=fe C hI.val E 24 7;simp only[tQ]at au av ax ay;have J:=hI.oH;rw[hd]at J;have aH:=hcall w J.mm;rw[if_pos (by rfl)];go_simp;refine aH.mono ?_;rintro e aG ⟨hg,hm2,rfl⟩;refine N (tQ g c fn row mt s y 8) _ _ rfl ⟨?_,uK hI.val⟩;rw[oo,nR D (show 13≠8 by decide),nR D (show 14≠8 by decide),om vs _ (show 13≠8 by decide)];exact J.call hg hm2 hlt
  have aJ:=fe C hI.val E 25 8;rotate_left;have I:=fe C hI.val E 16 9;simp only[tQ]at I;unfold RZ.v at I;rotate_left;have I:=fe C hI.val E 16 9;simp only[tQ]at I;unfold RZ.v at I;rotate_left;have I:=fe C hI.val E 16 9;simp only[tQ]at I;unfold RZ.v at I;rotate_left
  .have J:=hI.oH
   rw[hd,hw2 14 nO nN]at J;go_simp;refine N (nA (U (Z w.heap.size 0 V))) _ _ rfl ⟨?_,KG rfl hI.val⟩;rw[oo,nR D (show 8≠13 by decide),nR D (show 14≠13 by decide),pG];rw[hw2 14 nO nN];exact J.made
  .have hlt:=hlt.out
   have hm2:=hm2.out;have hw0:=hw0.out;have d13:=E 13 nO nN;have az:a.tmps.getD 9 kI=vs 13:=C 9 nO;have aA:=fe C hI.val E 26 10;simp only[tQ]at aA;have aB:D 8=true:=E 8 nO nN;have J:=hI.oH;rw[hd,aB,d13]at J;obtain⟨b,O,aC,hB⟩:=J.blk rfl;have az:=az.trans O;obtain⟨z0,aM,aN,aO,f1,f2⟩:=Jd hB;go_simp;refine N kI _ _ rfl ⟨?_,uK hI.val⟩;rw[oo,nR D (show 8≠14 by decide),nR D (show 13≠14 by decide),om vs _ (show 13≠14 by decide)];rw[aB,d13,O];rw[O]at J;exact J.put hw0 (λx aI=>hlt x (hm2▸aI)) aC hB
  have aK:=fe C hI.val E 27 11;rotate_left;have aL:=fe C hI.val E 28 12;rotate_left
  all_goals
   try simp only[tQ]at*
   go_simp;exact N _ _ _ rfl ⟨hI.oH,uK hI.val⟩
 .intro D vs w Y hI
  have E:=hI.oH;rw[Y 8 nO]at E;rw[Y 13 nO]at E;rw[Y 14 nO]at E;have q:=ag vs w E;rw[oW hI.val Y];dsimp+instances only[GH,cO,cL,cR,cB,Tryz.f63];exact qH
end
theorem a02{id:Nat}{Q:Exit->Act->jJ->Prop}{w w0:jJ}{g:Nat}{c:oF}{fn:FuncId}{row:jP}{mt m2:Option (Nat×MS)}{s:ByteArray}{y:RZ}(h1:a0.tmps.getD 1 kI=IZ mt)(h2:a0.tmps.getD 2 kI=nz s)(J:a0.tmps.getD 3 kI=nA (U (Z g 0 V)))(hsz:a0.tmps.size=35)(hrow:∀W,(kS 142 (nD zi) (nk nI c.fmt)).run jI W=.ok row W)(Jh:∀W,(Instr.field 141 row 2).run jI W=.ok (.func (.func fn) #[] #[]) W)(hI0:Jc g c w0 mt w)(A:pO w mt)(hm2:oM m2=oM mt)(hw0:w0.heap.size<=g)(hlt:∀x,oM mt=U x->x<g)(hcf:∀a b d W,l7 jI (callFunc fn #[a,b,d]) W=.ok (.enter fn #[a,b,d]) W)(hcall:∀W,pO W mt->jV jI fn #[nD #[nk nI c.fmt,nk nK c.mag,nk nI c.pF,nk nI c.qc,nk nI c.dep,nk nI c.oV],IZ mt,nz s] W λe C=>W.grownBy C (oM mt)/\pO C m2/\e=nG y.v)(N:∀(vs:Nat->jP) (b:Nat) W,WnF g c w0 mt m2 (nk nJ y.id) (nz y.name) (nz y.body) b W->g+1<b->Q .normal {a0 with tmps:=(((((((((((((((a0.tmps.setIfInBounds 17 (vs 0)).setIfInBounds 18 (vs 1)).setIfInBounds 19 (vs 2)).setIfInBounds 20 (vs 3)).setIfInBounds 21 (vs 4)).setIfInBounds 22 (vs 5)).setIfInBounds 23 (vs 6)).setIfInBounds 24 (vs 7)).setIfInBounds 25 (vs 8)).setIfInBounds 16 (vs 9)).setIfInBounds 26 (vs 10)).setIfInBounds 27 (vs 11)).setIfInBounds 28 (vs 12)).setIfInBounds 9 (nA (U (Z b 0 V)))).setIfInBounds 10 (nk nI y.n)).setIfInBounds 11 (nk nI y.e)} W):
  (ll id GH.toArray true).wp jI Q a0 w:=by
 refine a3T (ht3:=J) (hrow:=hrow) (Jh:=Jh) (ht1:=h1) (ht2:=h2) (hlt:=hlt) (hcf:=hcf) (hcall:=hcall) (hm2:=hm2) (hw0:=hw0) (hsz:=hsz) (hI0:=λ_=>⟨hI0.drew,(a0L A:pO w.drew mt),nofun⟩) ?_;intro vs W hI;obtain⟨b,E,I,hB⟩:=hI.blk rfl;have q:=N (tQ g c fn row mt s y) b W ⟨hI.wn,hB,hI.mm⟩ I;rw[<-E]at q;exact q
theorem a03(c:oF)(s:ByteArray)(mt:Option (Nat×MS))(hs:s.size<=j3)(hc:oJ c=true)(E:c.wf):∃(fn:FuncId) (row:jP),(∀W,(kS 142 (nD zi) (nk nI c.fmt)).run jI W=.ok row W)/\
  (∀W,(Instr.field 141 row 2).run jI W=.ok (.func (.func fn) #[] #[]) W)/\(∀a b d W,l7 jI (callFunc fn #[a,b,d]) W=.ok (.enter fn #[a,b,d]) W)/\
  ∀W,pO W mt->jV jI fn #[nD #[nk nI c.fmt,nk nK c.mag,nk nI c.pF,nk nI c.qc,nk nI c.dep,nk nI c.oV],IZ mt,nz s] W λe A=>W.grownBy A (oM mt)/\pO A (qw c s mt).2/\e=nG (Ux (qw c s mt).1).v:=by
 have N:=(qU hc).1;have key:∀k:Nat,c.fmt=k->∀f,WE k=.func (.func f) #[] #[]->∀W,pO W mt->jV jI f #[nD #[nk nI c.fmt,nk nK c.mag,nk nI c.pF,nk nI c.qc,nk nI c.dep,nk nI c.oV],IZ mt,nz s] W λe A=>W.grownBy A (oM mt)/\pO A (qw c s mt).2/\e=nG (Ux (qw c s mt).1).v:=by
  intro k hk f I W J;obtain⟨O,C,hcall⟩:=MN c k hk s mt W hs hc E J;rw[I]at C;cases C;exact hcall.mono λe A h=>Jo.1 h
 have hk:c.fmt=1\/c.fmt=2\/c.fmt=3:=nL;rcases hk with hk|hk|hk
 .have hix:=Rw
  rw[<-hk]at hix;exact⟨100,_,hix,λW=>Pw _ _ _ _ W,λ_ _ _ _=>rfl,key 1 hk _ rfl⟩
 .have hix:=Rx
  rw[<-hk]at hix;exact⟨105,_,hix,λW=>Pw _ _ _ _ W,λ_ _ _ _=>rfl,key 2 hk _ rfl⟩
 .have hix:=Ry
  rw[<-hk]at hix;exact⟨110,_,hix,λW=>Pw _ _ _ _ W,λ_ _ _ _=>rfl,key 3 hk _ rfl⟩
theorem Uy(c:oF)(s:ByteArray)(mt:Option (Nat×MS))(w:jJ)(hs:s.size<=j3)(hc:oJ c=true)(ae:c.wf)(J:pO w mt):
  jV jI 63 #[c.v,IZ mt,nz s] w λe w'=>w.grownBy w' (oM mt)/\pO w' (qw c s mt).2/\e=nG (Ux (qw c s mt).1).v:=by
 obtain⟨fn,row,hrow,Jh,hcf,hcall⟩:=a03 c s mt hs hc ae;have C:=zJ c s mt;have N:=jH (zI J);have af:=DX c s mt;have ag:=jH (BM c);rw[hc]at ag;obtain⟨g,hg⟩:=nV w.heap.size;have ah:jX (∀W,(w.alloc (nH #[nk nI c.fmt,nk nK c.mag,nk nI c.pF,nk nI c.qc,nk nI c.dep,nk nI c.oV] tC)).alloc (nH #[nk nJ 0,nz ⟨#[]⟩,nz ⟨#[]⟩] rq)=W->Jc g c w mt W/\pO W mt):=jH λW h=>by
  subst h;have aD:=(jT w.heap.size w).alloc (jK _) (nH #[nk nI c.fmt,nk nK c.mag,nk nI c.pF,nk nI c.qc,nk nI c.dep,nk nI c.oV] tC);have O:=aD.alloc nS (nH #[nk nJ 0,nz ⟨#[]⟩,nz ⟨#[]⟩] rq);have aO:(w.alloc (nH #[nk nI c.fmt,nk nK c.mag,nk nI c.pF,nk nI c.qc,nk nI c.dep,nk nI c.oV] tC)).heap.size=g+1:=by simp[hg]
  have aF:=nP.new w #[nk nI c.fmt,nk nK c.mag,nk nI c.pF,nk nI c.qc,nk nI c.dep,nk nI c.oV] tC;have A:=nP.new (w.alloc (nH #[nk nI c.fmt,nk nK c.mag,nk nI c.pF,nk nI c.qc,nk nI c.dep,nk nI c.oV] tC)) #[nk nJ 0,nz ⟨#[]⟩,nz ⟨#[]⟩] rq;rw[aO]at A;exact⟨⟨hg▸aF.alloc _,A,o6 O⟩,J.grown O⟩
 rw[hg]at N;generalize (qw c s mt).2=m2 at*;obtain⟨y,aj⟩:=nV (Ux (qw c s mt).1);have aP:jX ((y.e=0/\True)\/(y.e≠0/\y.id=0/\y.name=⟨#[]⟩/\y.body=⟨#[]⟩/\y.n=0)):=jH (by
  rw[<-aj];cases aQ:(qw c s mt).1 with
  |error er=>
   have:=af er aQ;exact .inr ⟨by show er≠0;omega,rfl,rfl,rfl,rfl⟩
  |ok z=>exact .inl ⟨rfl,trivial⟩)
 rw[aj]at hcall⊢;clear aj af;have Y:=jH (λ(id:Nat) (Q:Exit->Act->jJ->Prop) (a0:Act) (W:jJ) (h1:a0.tmps.getD 1 kI=IZ mt) (h2:a0.tmps.getD 2 kI=nz s) (ak:a0.tmps.getD 3 kI=nA (U (Z g 0 V))) (hsz:a0.tmps.size=35) hI0 hM0 hQ=>
  a02 (id:=id) (Q:=Q) (a0:=a0) (w:=W) (w0:=w) (c:=c) (y:=y) h1 h2 ak hsz hrow Jh hI0 hM0 C (mR hg) N hcf hcall hQ)
 have aG:=jH C;clear hrow Jh hcf hcall ae hc hs J C;obtain⟨f,m,fr,aX,aY,aZ⟩:=c;unfold oF.v oF.cs at*;dsimp only at*;go_in;go_upto_region 1 with fail;obtain⟨hI,ai⟩:=ah.out _ rfl;generalize (w.alloc _).alloc _=w1 at*;have aH:=jH hI;have aI:=jH ai;obtain⟨_,aJ,x1,x2,x3,aK,aL⟩:=hI.s;clear hI ah ai;dsimp only at aJ x1 x2 x3 aK aL;go_wp2_with fail;refine(ag _).mono ?_;rintro e w2 ⟨rfl,A⟩;have aM:=jH (aH.below A);have au:=jH (aI.grown A);clear A aH aI aJ x1 x2 x3 aK aL;go_upto_region 3 with fail;refine Y _ _ _ _ rfl rfl rfl rfl aM au ?_;intro vs b W hF aV;clear Y;have I:=jH hF;generalize vs 0=v0;generalize vs 1=v1;generalize vs 2=v2;generalize vs 3=v3;generalize vs 4=v4;generalize vs 5=v5;generalize vs 6=v6;generalize vs 7=bg;generalize vs 8=v8;generalize vs 9=v9;generalize vs 10=v10;generalize vs 11=v11;generalize vs 12=aW;obtain⟨av,ax,ay,aR,az⟩:=y;dsimp only at*;obtain⟨r0,r1,r2,z0,bq,bu⟩:=I.wn.res.b3;obtain⟨bz,bA,y2⟩:=I.fr.a3;clear hF;have aN:=jH (λ(a b c:jP)=>qD (a:=a) (b:=b) (c:=c) I.wn.res);have aa:=jH (λ(a b c:jP)=>BN (a:=a) (b:=b) (c:=c) ⟨I.wn.res,I.mm,I.wn.gr⟩ (λx aS=>N.out x (aG.out▸aS)) hg);simp only[jL,jQ,jR];rcases aP.out with⟨E,_⟩|⟨E,h1,h2,ak,aT⟩
 .subst E
  go_wp2_with fail;rw[qR];obtain⟨e1,e2⟩:=aa.out (nk nJ av) (nz ax) (nz ay);have aA:=aN.out (nk nJ av) (nz ax) (nz ay);obtain⟨aB,aC,d2⟩:=aA.a3;refine jZ (v:=nE #[nD #[nk nJ av,nz ax,nz ay],nk nI (aR:Nat),nk nI 0]) (by simp[kQ,Tryz.results63,go_sem,aB,aC,d2]) rfl ⟨e1,e2,rfl⟩
 .subst h1 h2 ak aT
  have aU:((az:Int) !=0)=true:=nT;have E:jX (az≠0):=E;go_wp2_with fail;rw[qR];obtain⟨e1,e2⟩:=aa.out (nk nJ 0) (nz ⟨#[]⟩) (nz ⟨#[]⟩);have aA:=aN.out (nk nJ 0) (nz ⟨#[]⟩) (nz ⟨#[]⟩);obtain⟨aB,aC,d2⟩:=aA.a3;refine jZ (v:=nE #[nD #[nk nJ 0,nz ⟨#[]⟩,nz ⟨#[]⟩],nk nI 0,nk nI (az:Nat)]) (by simp[kQ,Tryz.results63,go_sem,aB,aC,d2]) rfl ⟨e1,e2,rfl⟩
def p0(a:TL)(_:List (nM TL)):Bool:=decide (a.tail=0)
theorem a3U(x:nM TL):x.all p0=(decide (x.lab.tail=0)&&nM.o7 p0 x.sub):=by
 cases x with
 |node a s=>rfl
theorem a04(a:TL)(s:List (nM TL)):(nM.node a s).all p0=(decide (a.tail=0)&&nM.o7 p0 s):=rfl
theorem Uz(x:nM TL):∀(w:jJ)(v:jP),oQ w v x.sub->
  jV jI 172 #[nD #[nk nI x.lab.kind,nk nI x.lab.size,v,nk nI x.lab.tail]] w λe w'=>e=nG (nC (nM.o7 p0 x.sub))/\jS w.heap.size w w':=by
 induction x using nM.ind with
 |h a s aF=>
  intro w v aa;simp only[nM.qx,nM.oZ]at aa⊢;obtain⟨oa,cap,rfl,aA,aj⟩:=oQ.slice aa;obtain⟨g,hg⟩:=nV w.heap.size;have ae:=jH (uH (k:=a.kind) (z:=a.size) (l:=a.tail) (t:=63) aa);have aG:s.length<=9223372036854775807:=by unfold j3 at aj;omega
  obtain⟨M,aB⟩:=nV s.length;have aH:=jH aB;have aQ:=jH aF;obtain⟨R,aC⟩:=nV (nM.o7 p0 s);have aI:=jH aC;rw[hg]at ae⊢;rw[aB]at ae aG⊢;rw[aC];clear aa aA aj aF aB aC;go_in;go_upto_region 1 with fail;generalize w.alloc (nH #[nk nI a.kind,nk nI a.size,ny oa M cap,nk nI a.tail] 63)=w1 at*;obtain⟨ak,ht1,hsz,c0,c1,c2,c3⟩:=ae.out _ rfl;have af:=jH (jU ak ht1);clear ae ak ht1 c0 c1 c3;go_wp2_with fail;clear c2;go_loopw [4,8] (λ_ iv aR=>∃k:Nat,iv=nk nI k/\k<=M/\jX (nM.o7 p0 (s.take k)=true)/\jX (jS (g+1) w1 aR)) (λ_ iv _=>M -(kT iv).toNat);case atStart=>exact⟨0,rfl,nL,by simp[jX,nM.o7],jH (jT _ _)⟩
  case round=>
   obtain⟨k,rfl,hk,aJ,I⟩:=hrel;have HF:jX (jS g w wr):=jH (af.1.trans (I.mono nL));have aK:g+1<=wr.heap.size:=by have:=I.size;omega
   by_cases c:k<M
   .obtain⟨y,ag⟩:∃y,s[k]? =U y:=⟨_,jW (by rw[aH.out];exact c)⟩
    obtain⟨b,off,u,rfl,hlt,aS,aT,y2,aU,ah,aL⟩:=oQ.at_ (Shape.nX.below af.2 (hsz▸I.out)) ag;obtain⟨ou,cu,rfl,_,_⟩:=oQ.slice ah;obtain⟨J,au⟩:=nV y.sub.length;rw[au]at ah y2;clear au;have ai:jX (nM.o7 p0 (s.take (k+1))=y.all p0):=jH (by rw[nM.wD ag,aJ.out];rfl);have A:jX (y.all p0=false->R=false):=jH λh=>by rw[<-aI.out];exact nM.tO ag h
    have N:=jH (a3U y);have aV:=jH ah;have aM:=jH (aQ y (kK ag))
    have aN:jX (∀W,wr.alloc (nH #[nk nI y.lab.kind,nk nI y.lab.size,ny ou J cu,nk nI y.lab.tail] 63)=W->jS wr.heap.size wr W/\oQ W (ny ou J cu) y.sub/\W.heap.size=wr.heap.size+1/\
      nP W wr.heap.size #[nk nI y.lab.kind,nk nI y.lab.size,ny ou J cu,nk nI y.lab.tail] 63):=jH λW h=>by
     subst h;have av:=(jT wr.heap.size wr).alloc (jK _) (nH #[nk nI y.lab.kind,nk nI y.lab.size,ny ou J cu,nk nI y.lab.tail] 63);exact⟨av,Shape.nX.below aV av,nS,nP.new wr _ _⟩
    clear ah aL;go_upto_region 4 with fail;generalize wr.alloc (nH #[nk nI y.lab.kind,nk nI y.lab.size,ny ou J cu,nk nI y.lab.tail] 63)=w4 at*;obtain⟨ax,EU,aW,ay⟩:=aN.out _ rfl;obtain⟨b0,b1,aX,b3⟩:=ay.a4;have az:=jH (aM w4 (ny ou J cu) EU);have O:=jH (I.trans (ax.mono aK));have Q:g+1<=w4.heap.size:=nL;clear aN ax EU ay aM aS aT y2 aU;generalize nM.o7 p0 y.sub=q at*;rcases a6f y.lab.tail 0 with⟨t0,aD⟩|⟨t0,aD⟩
    .cases q with
     |true=>
      have aO:jX (nM.o7 p0 (s.take (k+1))=true):=jH (by rw[ai.out,N.out,decide_eq_true aD.out];rfl);clear ai A N;go_wp2_with fail;refine(az).mono ?_;rintro e w5 ⟨rfl,C⟩;have E:=jH (O.trans (C.mono Q));clear C;go_wp2_with fail;go_roundw;case rel=>exact⟨k+1,by go_num,nL,aO,E⟩
      case measure=>simp[kT];omega
     |false=>
      have Y:jX (R=false):=jH (A (by rw[N.out,Bool.and_false]));clear ai A N;go_wp2_with fail;refine(az).mono ?_;rintro e w5 ⟨rfl,C⟩;have E:=jH (af.1.trans ((O.trans (C.mono Q)).mono (kV g)));clear C;go_wp2_with fail;go_returns;exact⟨by rw[Y.out];rfl,E.out⟩
    .have Y:jX (R=false):=jH (A (by rw[N.out,decide_eq_false aD.out];rfl))
     have E:=jH (af.1.trans (O.mono (kV g)));clear ai A N;go_wp2_with fail;go_returns;exact⟨by rw[Y.out];rfl,E.out⟩
   .obtain rfl:k=M:=nL
    have HE:jX (R=true):=by
     unfold jX;have h1:s.take k=s:=by rw[<-aH.out,l9]
     have aP:=aJ.out;rw[h1]at aP;rw[<-aI.out,aP]
    exact Ff
theorem Xv(h:p:=by
 go_wp2_with fail;refine(CY).mono ?_;rintro e w5 ⟨rfl,hb5⟩;have HB5:=jH (hbe.trans (hb5.mono hgr));clear hb5;go_wp2_with fail;go_roundw;case rel=>exact⟨k+1,by go_num,nL,HT,HB5⟩
 case measure=>simp[kT];omega):p:=h
theorem UA(x:nM TL):∀(w:jJ)(v:jP),oQ w v x.sub->
  jV jI 88 #[nD #[nk nI x.lab.kind,nk nI x.lab.size,v,nk nI x.lab.tail]] w λe w'=>e=nG (nC (!x.all p0))/\jS w.heap.size w w':=by
 induction x using nM.ind with
 |h a s ag=>
  intro w v A;simp only[nM.qx,nM.oZ]at A⊢;have C:=jH (a04 a s);obtain⟨oa,cap,rfl,Y,N⟩:=oQ.slice A;obtain⟨g,hg⟩:=nV w.heap.size;have E:=jH (uH (k:=a.kind) (z:=a.size) (l:=a.tail) (t:=63) A);have ah:s.length<=9223372036854775807:=by unfold j3 at N;omega
  obtain⟨M,aa⟩:=nV s.length;have ai:=jH aa;have aA:=jH ag;obtain⟨R,ae⟩:=nV (nM.o7 p0 s);have aj:=jH ae;rw[hg]at E⊢;rw[aa]at E ah⊢;rw[ae]at C;generalize (nM.node a s).all p0=az at*;clear A Y N ag aa ae;have t0:=a6f a.tail 0;go_in;go_upto_region 1 with fail;generalize w.alloc (nH #[nk nI a.kind,nk nI a.size,ny oa M cap,nk nI a.tail] 63)=w1 at*;obtain⟨O,ht1,hsz,c0,c1,c2,c3⟩:=E.out _ rfl;have af:=jH (jU O ht1);clear E O ht1;rcases t0 with⟨t0,I⟩|⟨t0,I⟩
  case inr=>
   have HE:jX ((!az)=true):=jH (by rw[C.out,decide_eq_false I.out];rfl);go_wp2_with fail;go_returns;exact⟨by rw[HE.out];rfl,af.1⟩
  have ak:jX (az=R):=jH (by rw[C.out,decide_eq_true I.out];rfl);clear C I;go_wp2_with fail;clear c0 c1 c3 t0;go_loopw [3] (λiv aB=>∃k:Nat,iv=nk nI k/\k<=M/\jX (nM.o7 p0 (s.take k)=true)/\jX (jS (g+1) w1 aB)) (λiv _=>M -(kT iv).toNat);case atStart=>exact⟨0,rfl,nL,by simp[jX,nM.o7],jH (jT _ _)⟩
  case round=>
   obtain⟨k,rfl,hk,au,hbe⟩:=hrel;have aC:wr.cell? (Z g 2 V)=U (ny oa M cap):=(hbe.cell (p:=(Z g 2 V)) (lK g)).trans c2;have HF:jX (jS g w wr):=jH (af.1.trans (hbe.mono nL));have hgr:g+1<=wr.heap.size:=by have:=hbe.size;omega
   by_cases c:k<M
   .obtain⟨y,J⟩:∃y,s[k]? =U y:=⟨_,jW (by rw[ai.out];exact c)⟩
    obtain⟨b,off,u,rfl,hlt,aD,aF,y2,aG,av,ax⟩:=oQ.at_ (Shape.nX.below af.2 (hsz▸hbe.out)) J;have HT:jX (nM.o7 p0 (s.take (k+1))=y.all p0):=jH (by rw[nM.wD J,au.out];rfl);have Q:jX (y.all p0=false->R=false):=jH λh=>by rw[<-aj.out];exact nM.tO J h
    have CY:=jH (aA y (kK J) wr u av);clear av ax;generalize y.all p0=q at*;cases q with
    |true=>
     exact Xv
    |false=>
     have HE:jX ((!az)=true):=jH (by rw[ak.out,Q.out rfl];rfl);clear Q;go_wp2_with fail;refine(CY).mono ?_;rintro e w5 ⟨rfl,hb5⟩;have HB5:=jH (HF.trans (hb5.mono nL));clear hb5;go_wp2_with fail;go_returns;exact⟨by rw[HE.out];rfl,HB5.out⟩
   .obtain rfl:k=M:=nL
    have HE:jX ((!az)=false):=by
     unfold jX;have h1:s.take k=s:=by rw[<-ai.out,l9]
     have ay:=au.out;rw[h1]at ay;rw[ak.out,<-aj.out,ay];rfl
    exact Ff
theorem Xw(x:nM TL)(w:jJ)(v:jP)(J:oQ w v x.sub)(hc:x.count<=1000):
  jV jI 54 #[nD #[nk nI x.lab.kind,nk nI x.lab.size,v,nk nI x.lab.tail]] w λe w'=>e=nG (nC (nM.o7 p0 x.sub&&p9 x))/\jS w.heap.size w w':=by
 obtain⟨oa,cap,rfl,N,C⟩:=oQ.slice J;obtain⟨g,hg⟩:=nV w.heap.size;have A:=jH (uH (k:=x.lab.kind) (z:=x.lab.size) (l:=x.lab.tail) (t:=63) J);have ah:x.sub.length<=9223372036854775807:=by unfold j3 at C;omega
 have O:=jH (λ(W:jJ) (h:oQ W (ny oa x.sub.length cap) x.sub)=>RG x W _ h hc);obtain⟨M,Q⟩:=nV x.sub.length;have ai:=jH Q;obtain⟨R,Y⟩:=nV (nM.o7 p0 x.sub);have aj:=jH Y;rw[hg]at A⊢;rw[Q]at A ah O⊢;rw[Y];generalize p9 x=mt at*;clear J N C Q Y hc;go_in;go_upto_region 1 with fail;generalize w.alloc (nH #[nk nI x.lab.kind,nk nI x.lab.size,ny oa M cap,nk nI x.lab.tail] 63)=w1 at*;obtain⟨E,ht1,hsz,c0,c1,c2,c3⟩:=A.out _ rfl;have aa:=jH (jU E ht1);have ae:=jH (jU c0 (jU c1 (jU c2 c3)));clear A E ht1;go_wp2_with fail;clear c0 c1 c3;go_loopw [3] (λiv aA=>∃k:Nat,iv=nk nI k/\k<=M/\jX (nM.o7 p0 (x.sub.take k)=true)/\jX (jS (g+1) w1 aA)) (λiv _=>M -(kT iv).toNat);case atStart=>exact⟨0,rfl,nL,by simp[jX,nM.o7],jH (jT _ _)⟩
 case round=>
  obtain⟨k,rfl,hk,ak,hbe⟩:=hrel;have aB:wr.cell? (Z g 2 V)=U (ny oa M cap):=(hbe.cell (p:=(Z g 2 V)) (lK g)).trans c2;have au:jX (jS g w wr):=jH (aa.1.trans (hbe.mono nL));have hgr:g+1<=wr.heap.size:=by have:=hbe.size;omega
  by_cases c:k<M
  .obtain⟨y,af⟩:∃y,x.sub[k]? =U y:=⟨_,jW (by rw[ai.out];exact c)⟩
   obtain⟨b,off,u,rfl,hlt,aC,aD,y2,aF,av,ax⟩:=oQ.at_ (Shape.nX.below aa.2 (hsz▸hbe.out)) af;have HT:jX (nM.o7 p0 (x.sub.take (k+1))=y.all p0):=jH (by rw[nM.wD af,ak.out];rfl);have I:jX (y.all p0=false->R=false):=jH λh=>by rw[<-aj.out];exact nM.tO af h
   have CY:=jH (UA y wr u av);clear av ax;generalize y.all p0=q at*;cases q with
   |true=>
    exact Xv
   |false=>
    have ag:jX (R=false):=jH (I rfl);clear I;go_wp2_with fail;refine(CY).mono ?_;rintro e w5 ⟨rfl,hb5⟩;have HB5:=jH (au.trans (hb5.mono nL));clear hb5;go_wp2_with fail;go_returns;exact⟨by rw[ag.out,Bool.false_and];rfl,HB5.out⟩
  .obtain rfl:k=M:=nL
   have ag:jX (R=true):=by
    unfold jX;have h1:x.sub.take k=x.sub:=by rw[<-ai.out,l9]
    have ay:=ak.out;rw[h1]at ay;rw[<-aj.out,ay]
   have aG:=(hbe.cell (p:=(Z g 0 V)) (lK g)).trans ae.1;have aH:=(hbe.cell (p:=(Z g 1 V)) (lK g)).trans ae.2.1;have aI:=(hbe.cell (p:=(Z g 3 V)) (lK g)).trans ae.2.2.2;have az:=jH (O wr (Shape.nX.below aa.2 (hsz▸hbe.out)));clear O;go_wp2_with fail;refine(az).mono ?_;rintro e w5 ⟨rfl,hb5⟩;have HB5:=jH (au.trans (hb5.mono nL));clear hb5;go_wp2_with fail;go_returns;exact⟨by rw[ag.out,Bool.true_and];rfl,HB5.out⟩
theorem D6(x:nM TL)(w:jJ)(v:jP)(ae:oQ w v x.sub)(Q:pW w):
  jV jI 122 #[nD #[nk nI x.lab.kind,nk nI x.lab.size,v,nk nI x.lab.tail]] w λe w'=>e=nG (nC (nM.o7 p0 x.sub&&p9 x))/\jS w.heap.size w w':=by
 have J:=Q.lt;have Y:=jH (uH (k:=x.lab.kind) (z:=x.lab.size) (l:=x.lab.tail) (t:=63) ae);obtain⟨g,hg⟩:=nV w.heap.size;rw[hg]at Y J⊢;have aj:=jH (λ(W:jJ) (h:jS g w W)=>Q.below h J);clear ae Q;have C:=jH (λ(W:jJ) (h:oQ W v x.sub) (h2:pW W)=>CE x W v h h2);have af:=jH (λ(W:jJ) (h:oQ W v x.sub)=>Uz x W v h);generalize p9 x=mt at*;generalize nM.o7 p0 x.sub=R at*;go_in;go_upto_region 1 with fail;generalize w.alloc (nH #[nk nI x.lab.kind,nk nI x.lab.size,v,nk nI x.lab.tail] 63)=w1 at*;obtain⟨E,ht1,hsz,c0,c1,c2,c3⟩:=Y.out _ rfl;have N:=jH (C w1 ht1 (aj w1 E));have aa:=jH (jU E ht1);have hlt:g<w1.heap.size:=nL;have ak:=jH hsz;clear Y E ht1 C hsz;cases mt with
 |false=>
  go_wp2_with fail;refine(N).mono ?_;rintro e w2 ⟨rfl,A⟩;have I:=jH (aa.1.trans (A.mono nL));clear A;go_wp2_with fail;go_returns;exact⟨by rw[Bool.and_false];rfl,I.out⟩
 |true=>
  go_wp2_with fail;refine(N).mono ?_;rintro e w2 ⟨rfl,A⟩;have I:=jH (aa.1.trans (A.mono nL));have au:=(A.cell (p:=(Z g 0 V)) hlt).trans c0;have av:=(A.cell (p:=(Z g 1 V)) hlt).trans c1;have d2:=(A.cell (p:=(Z g 2 V)) hlt).trans c2;have ax:=(A.cell (p:=(Z g 3 V)) hlt).trans c3;have ag:=jH (af w2 (Shape.nX.below aa.2 A));have ah:g<=w2.heap.size:=by have:=A.size;omega
  clear A c0 c1 c2 c3 af;go_wp2_with fail;refine(ag).mono ?_;rintro e w3 ⟨rfl,O⟩;have ai:=jH (I.trans (O.mono ah));clear O;go_wp2_with fail;go_returns;exact⟨by rw[Bool.and_true];rfl,ai.out⟩
end
section
open Go.RowKit Go.Maps
noncomputable def strKeys{P:ma}{k:ko}(hk:P.underlying k=U .string):DV P k ByteArray where
 kv:=nz
 kl s:=.string s.data.toList
 ok s:=s.size<=j3
 K:=string_keyed hk
 lay x hx:=Go.WideMaps.keyOf_string_mk hk hx
 inv v l h:=by obtain⟨s,h1,h2,_⟩:=Go.WideMaps.string_of_keyOf hk h;exact⟨s,h1,h2⟩
 inj x y h:=Go.WideShapes.bytes_inj (by simpa using h)
 key x:=trivial
def sH:Gd (Array jP) where
 ev a:=nD a
 R v:=match v with| nD a=>U (.held a,[])|_=>V
 lay x:=rfl
 inv v z h:=by
  cases v<;>simp at h;exact⟨_,rfl,h.symm⟩
noncomputable def NmK:DV jI 9 ByteArray:=strKeys mH
noncomputable def IdK:DV jI 50 Int:=intKeys Tryz.underlying50
abbrev RgT:ko:=137
abbrev Fg:ko:=128
structure RC where
 i:Nat
 nm:ByteArray
 tx:ByteArray
 k:Int
 z:Int
 ou:Option lH
 nu:Nat
 cu:Nat
 tl:Int
def RC.cs(x:RC):Array jP:=#[nk nJ x.i,nz x.nm,nz x.tx,nk nI x.k,nk nI x.z,ny x.ou x.nu x.cu,nk nI x.tl]
def C8:RC:=⟨0,⟨#[]⟩,⟨#[]⟩,0,0,V,0,0,0⟩
structure oO where
 r:Row
 ou:Option lH
 cu:Nat
def oO.rc(x:oO):RC:=⟨x.r.id,x.r.name,x.r.text,x.r.ty.lab.kind,x.r.ty.lab.size,x.ou,x.r.ty.sub.length,x.cu,x.r.ty.lab.tail⟩
def GI(c:oF):jP:=if c.fmt=1 then .func (.func 85) #[nD #[nk nI c.dep,nk nI c.oV]] #[]else .func (.func 83) #[nD #[nk nI c.dep,nk nI c.oV]] #[]
def Jp(c:oF):jP:=if c.fmt=1 then .func (.func 86) #[nD #[nk nI c.dep,nk nI c.oV]] #[]else .func (.func 84) #[nD #[nk nI c.dep,nk nI c.oV]] #[]
structure qi(r bn bi:Nat)(c:oF)(L:List oO)(w:jJ):Prop where
 rg:nP w r #[nk nI c.fmt,nk nK c.mag,nk nI c.pF,nk nI c.qc,nk nI c.dep,nk nI c.oV,.map (U bn),.map (U bi),GI c,Jp c] RgT
 nm:qC NmK sH w bn L.length (L.map λx=>(x.r.name,x.rc.cs))
 id:qC IdK sH w bi L.length (L.map λx=>((x.r.id:Int),x.rc.cs))
 sq:∀x,x∈L->oh.nX w (λk=>r<k) (ny x.ou x.r.ty.sub.length x.cu) x.r.ty.sub
 may:∀x,x∈L->p9 x.r.ty=true/\(c.fmt=1->(nM.o7 p0 x.r.ty.sub&&p9 x.r.ty)=true)/\x.r.name.size<=12
theorem qi.sub{r bn bi:Nat}{c:oF}{L:List oO}{w:jJ}(h:qi r bn bi c L w)(x:oO)(A:x∈L):oQ w (ny x.ou x.r.ty.sub.length x.cu) x.r.ty.sub:=(h.sq x A).keep (jK _) (λ_ _ _=>trivial) λ_ _ _=>rfl
theorem qi.below{r bn bi:Nat}{c:oF}{L:List oO}{w w':jJ}(h:qi r bn bi c L w)(hb:jS w.heap.size w w'):qi r bn bi c L w':=
 ⟨Below.blk hb h.rg h.rg.lt,h.nm.below hb,h.id.below hb,λx A=>Shape.nX.below (h.sq x A) hb,h.may⟩
theorem Bj[DecidableEq κ](f:oO->κ)(k:κ):∀L:List oO,uF (L.map λx=>(f x,x.rc.cs)) k=(L.find? λx=>decide (f x=k)).map λx=>x.rc.cs
 |[]=>rfl
 |x::L=>by
  have A:=Bj f k L;unfold uF at*;rw[mQ,List.find?_cons,List.find?_cons];dsimp only;rw[show(f x==k)=decide (f x=k)from rfl];cases decide (f x=k)with
  |true=>rfl
  |false=>exact A
theorem row_zero(w:jJ):(zeroValue Fg).run jI w=.ok (sH.ev C8.cs) w:=rfl
def fnd(L:List oO)(p:oO->Bool):RC:=match L.find? p with|some x=>x.rc|none=>C8
theorem Nj[DecidableEq κ](f:oO->κ)(k:κ)(L:List oO):(uF (L.map λx=>(f x,x.rc.cs)) k).getD C8.cs=(fnd L λx=>decide (f x=k)).cs/\(uF (L.map λx=>(f x,x.rc.cs)) k).isSome=(L.find? λx=>decide (f x=k)).isSome:=by
 rw[Bj];unfold fnd;cases L.find? λx=>decide (f x=k)with
 |none=>exact⟨rfl,rfl⟩
 |some x=>exact⟨rfl,rfl⟩
theorem qi.look{r bn bi:Nat}{c:oF}{L:List oO}{w:jJ}(h:qi r bn bi c L w)(s:ByteArray)(hs:s.size<=j3):
  (lW 130 (.map (U bn)) (nz s) true).run jI w=.ok (nE #[nD (fnd L λx=>decide (x.r.name=s)).cs,nC (L.find? λx=>decide (x.r.name=s)).isSome]) w:=by
 have h1:=qC.look_ok (x:=s) h.nm Tryz.underlying130 row_zero hs;obtain⟨e1,e2⟩:=Nj (λx:oO=>x.r.name) s L;rw[e1,e2]at h1;exact h1
theorem R3{n:Nat}(hn:n<18446744073709551616):(lI nJ (n:Int)).wf=true:=by
 have:(0:Int)<=n/\(n:Int)<=18446744073709551615:=nL;simpa [Lit.wf,IntKind.min,IntKind.max,IntKind.signed,IntKind.bits]using this
theorem qi.a2F{r bn bi:Nat}{c:oF}{L:List oO}{w:jJ}(h:qi r bn bi c L w)(n:Nat)(hn:n<18446744073709551616):
  (lW 131 (.map (U bi)) (nk nJ n) true).run jI w=.ok (nE #[nD (fnd L λx=>decide ((x.r.id:Int)=(n:Int))).cs,nC (L.find? λx=>decide ((x.r.id:Int)=(n:Int))).isSome]) w:=by
 have h1:=qC.look_ok (x:=(n:Int)) h.id Tryz.underlying131 row_zero (R3 hn);obtain⟨e1,e2⟩:=Nj (λx:oO=>(x.r.id:Int)) (n:Int) L;rw[e1,e2]at h1;exact h1
def P7(c:oF)(L:List oO)(f:vP):Option oO:=
 if c.fmt=1 then if f.id=0 then L.find? λx=>decide (x.r.name=f.name)else V else if f.name.size=0 then L.find? λx=>decide ((x.r.id:Int)=(f.id:Int))else V
def rcO:Option oO->RC
 |some x=>x.rc
 |none=>C8
theorem a05(c:oF)(L:List oO)(f:vP):ofF c (L.map λx=>x.r) f=(P7 c L f).map λx=>x.r:=by
 unfold ofF P7;split
 .split
  .rw[List.find?_map];rfl
  .rfl
 .split
  .rw[List.find?_map]
   have:((λr:Row=>decide (r.id=f.id))∘λx:oO=>x.r)=λx:oO=>decide ((x.r.id:Int)=(f.id:Int)):=funext λx=>decide_eq_decide.2 (by show x.r.id=f.id<->(x.r.id:Int)=(f.id:Int);omega)
   rw[this]
  .rfl
theorem a06(L:List oO)(p:oO->Bool):fnd L p=rcO (L.find? p):=by
 unfold fnd;cases L.find? p<;>rfl
def C9(w:jJ)(k:Nat)(x:RC):jJ:=((((((w.setCell (Z k 0 V) (nk nJ x.i)).setCell (Z k 1 V) (nz x.nm)).setCell (Z k 2 V) (nz x.tx)).setCell (Z k 3 V) (nk nI x.k)).setCell (Z k 4 V) (nk nI x.z)).setCell (Z k 5 V) (ny x.ou x.nu x.cu)).setCell (Z k 6 V) (nk nI x.tl)
theorem Av(w:jJ)(k:Nat)(x:RC):((((((w.setCell (Z k 0 V) (nk nJ x.i)).setCell (Z k 1 V) (nz x.nm)).setCell (Z k 2 V) (nz x.tx)).setCell (Z k 3 V) (nk nI x.k)).setCell (Z k 4 V) (nk nI x.z)).setCell (Z k 5 V) (ny x.ou x.nu x.cu)).setCell (Z k 6 V) (nk nI x.tl)=C9 w k x:=rfl
theorem yf{w:jJ}{k:Nat}{x y:RC}(h:nP w k y.cs t):nP (C9 w k x) k x.cs t:=by
 have q:=((((((h.set 0 (nk nJ x.i)).set 1 (nz x.nm)).set 2 (nz x.tx)).set 3 (nk nI x.k)).set 4 (nk nI x.z)).set 5 (ny x.ou x.nu x.cu)).set 6 (nk nI x.tl);simp only[RC.cs,jL,jQ,jR]at q;exact q
theorem UB{w:jJ}{k c:Nat}{x:RC}(h:c≠k):(C9 w k x).heap[c]? =w.heap[c]? :=by
 unfold C9;simp[kz,lu,Ne.symm h]
theorem Jq(w:jJ)(k:Nat)(x:RC):(C9 w k x).heap.size=w.heap.size:=by simp[C9,kz]
theorem uW{B k:Nat}{w0 w:jJ}{x:RC}(h:jS B w0 w)(hk:B<=k):jS B w0 (C9 w k x):=
 ((((((h.setCell (p:=(Z k 0 V)) hk _).setCell (p:=(Z k 1 V)) hk _).setCell (p:=(Z k 2 V)) hk _).setCell (p:=(Z k 3 V)) hk _).setCell (p:=(Z k 4 V)) hk _).setCell (p:=(Z k 5 V)) hk _).setCell (p:=(Z k 6 V)) hk _
theorem wR{w:jJ}{k c:Nat}{x:RC}{cs:Array jP}(h:nP w c cs t)(A:c≠k):nP (C9 w k x) c cs t:=by
 unfold nP at*;rw[UB A];exact h
theorem qh{W:jJ}{k:Nat}{x:RC}(h:nP W k x.cs t):(W.cell? (Z k 0 V)=U (nk nJ x.i)/\W.cell? (Z k 1 V)=U (nz x.nm)/\W.cell? (Z k 2 V)=U (nz x.tx)/\W.cell? (Z k 3 V)=U (nk nI x.k)/\W.cell? (Z k 4 V)=U (nk nI x.z)/\W.cell? (Z k 5 V)=U (ny x.ou x.nu x.cu)/\W.cell? (Z k 6 V)=U (nk nI x.tl))/\
  W.frozen? (Z k 0 V)=false/\W.frozen? (Z k 1 V)=false/\W.frozen? (Z k 2 V)=false/\W.frozen? (Z k 3 V)=false/\W.frozen? (Z k 4 V)=false/\W.frozen? (Z k 5 V)=false/\W.frozen? (Z k 6 V)=false:=
 ⟨⟨h.cell 0,h.cell 1,h.cell 2,h.cell 3,h.cell 4,h.cell 5,h.cell 6⟩,h.free 0,h.free 1,h.free 2,h.free 3,h.free 4,h.free 5,h.free 6⟩
structure UC(g r bn bi:Nat)(c:oF)(L:List oO)(f:vP)(w0:jJ)(x:RC)(W:jJ):Prop where
 rg:qi r bn bi c L W
 fr:nP W g #[nk nJ f.id,nz f.name,nz f.body] rq
 rs:nP W (g+1) C8.cs Fg
 fo:nP W (g+2) x.cs Fg
 pR:jS g w0 W
 lt:r<g/\bn<g/\bi<g/\w0.heap.size=g
theorem oC(w:jJ):jS w.heap.size w w.drew:=⟨rfl,rfl,rfl,jK _,λ_ _=>rfl⟩
theorem UC.drew{g r bn bi:Nat}{c:oF}{L:List oO}{f:vP}{w0:jJ}{x:RC}{W:jJ}(h:UC g r bn bi c L f w0 x W):UC g r bn bi c L f w0 x W.drew:=
 ⟨h.rg.below (oC _),h.fr,h.rs,h.fo,h.pR.trans ((oC _).mono (by have:=h.fr.lt;omega)),h.lt⟩
theorem UC.put{g r bn bi:Nat}{c:oF}{L:List oO}{f:vP}{w0:jJ}{x y:RC}{W:jJ}(h:UC g r bn bi c L f w0 x W)(h0:qi r bn bi c L w0):UC g r bn bi c L f w0 y (C9 W (g+2) y):=by
 have hb:=uW (x:=y) h.pR (show g<=g+2 by omega);exact⟨h0.below (h.lt.2.2.2▸hb),wR h.fr nL,wR h.rs nL,yf h.fo,hb,h.lt⟩
noncomputable def Fh:List lY:=cO (cL (cR (cL (cL (cR (cR (cR (cB Tryz.f91))))))))
section
variable (g r bn bi:Nat)(c:oF)(L:List oO)(f:vP)(w0:jJ)(b:Bool)(x:RC)
def Aw:Nat->jP
 |0=> nA (U (Z r 0 V))
 |1=> nA (U (Z r 0 V))
 |2=> nA (U (Z r 6 V))
 |3=> .map (U bn)
 |4=> nA (U (Z g 1 V))
 |5=> nz f.name
 |6=> nE #[nD #[nk nJ x.i,nz x.nm,nz x.tx,nk nI x.k,nk nI x.z,ny x.ou x.nu x.cu,nk nI x.tl],nC b]
 |7=> nE #[nD #[nk nJ x.i,nz x.nm,nz x.tx,nk nI x.k,nk nI x.z,ny x.ou x.nu x.cu,nk nI x.tl],nC b]
 |8=> nD #[nk nJ x.i,nz x.nm,nz x.tx,nk nI x.k,nk nI x.z,ny x.ou x.nu x.cu,nk nI x.tl]
 |9=> nC b
 |11=> nC b
 |_=>kI
structure a6k(D:Nat->Bool)(vs:Nat->jP)(w:jJ):Prop where
 oH:UC g r bn bi c L f w0 (if(D 10)=true then x else C8) w
 val:∀j,(true)=true->D j=true->vs j=Aw g r bn f b x j
variable {g r bn bi c L f w0 b x}
theorem Xx(h:p:=by
 have hW:=hI.oH;rw[hd]at hW;obtain⟨⟨z0,z1,z2,z3,z4,z5,z6⟩,f0,f1,f2,f3,f4,f5,f6⟩:=qh hW.fo;go_simp;rw[Av];refine hK kI _ _ rfl ⟨?_,uK hI.val⟩;rw[oo];exact hW.put h0):p:=h
theorem a07{id:Nat}{Q:Exit->Act->jJ->Prop}{I:jJ}(ht0:a0.tmps.getD 0 kI=nA (U (Z r 0 V)))(ht3:a0.tmps.getD 3 kI=nA (U (Z g 0 V)))(hl:∀W,qi r bn bi c L W->(lW 130 (.map (U bn)) (nz f.name) true).run jI W=.ok (nE #[nD #[nk nJ x.i,nz x.nm,nz x.tx,nk nI x.k,nk nI x.z,ny x.ou x.nu x.cu,nk nI x.tl],nC b]) W)(Ay:a0.tmps.getD 6 kI=nA (U (Z (g+2) 0 V)))(h0:qi r bn bi c L w0)(hsz:a0.tmps.size=54)(hI0:∀vs:Nat->jP,(λw=>UC g r bn bi c L f w0 (if false=true then x else C8) w) I.drew)(J:∀(vs:Nat->jP) (w:jJ),UC g r bn bi c L f w0 (if true=true then x else C8) w->Q .normal {a0 with tmps:=(((((((((((a0.tmps.setIfInBounds 21 (nA (U (Z r 0 V)))).setIfInBounds 22 (nA (U (Z r 0 V)))).setIfInBounds 23 (nA (U (Z r 6 V)))).setIfInBounds 24 (.map (U bn))).setIfInBounds 25 (nA (U (Z g 1 V)))).setIfInBounds 26 (nz f.name)).setIfInBounds 27 (nE #[nD #[nk nJ x.i,nz x.nm,nz x.tx,nk nI x.k,nk nI x.z,ny x.ou x.nu x.cu,nk nI x.tl],nC b])).setIfInBounds 20 (nE #[nD #[nk nJ x.i,nz x.nm,nz x.tx,nk nI x.k,nk nI x.z,ny x.ou x.nu x.cu,nk nI x.tl],nC b])).setIfInBounds 28 (nD #[nk nJ x.i,nz x.nm,nz x.tx,nk nI x.k,nk nI x.z,ny x.ou x.nu x.cu,nk nI x.tl])).setIfInBounds 29 (nC b)).setIfInBounds 7 (nC b))} w):
  (ll id Fh.toArray true).wp jI Q a0 I:=by
 refine og 12 54 (a6k g r bn bi c L f w0 b x) nN hsz nN (.inl rfl) nN ?_ ?_ ?_;.exact qB
 .refine rM λA ah=> ?_
  clear hI0 J hsz;replace ht0:=jH ht0;replace ht3:=jH ht3;replace hl:=jH hl;replace Ay:=jH Ay;replace h0:=jH h0;dsimp+instances only[Fh,cO,cL,cR,cB,Tryz.f91];simp only[ky,kL,qW];refine⟨?_,?_,?_,?_,?_,?_,?_,?_,?_,?_,?_,?_,trivial⟩<;>(intro D vs a w K hI hd E hw2 C hK;subst ah;dsimp+instances only[Fh,cO,cL,cR,cB,Tryz.f91]);have av:=(C 0 nO).trans ht0.out;rotate_left;have ai:=fe C hI.val E 21 0;rotate_left;have aj:=fe C hI.val E 22 1;rotate_left;have N:=fe C hI.val E 23 2;simp only[Aw]at N;have c0:=hI.oH.rg.rg.c6;rotate_left;have e3:=(C 3 nO).trans ht3.out;rotate_left;have O:=fe C hI.val E 25 4;simp only[Aw]at O;have c0:=hI.oH.fr.c1;rotate_left;have hl:=hl.out;have Y:=fe C hI.val E 24 3;have aa:=fe C hI.val E 26 5;simp only[Aw]at Y aa;have q:=hl w hI.oH.rg;rotate_left;have ak:=fe C hI.val E 27 6;rotate_left;have ae:=fe C hI.val E 20 7;rotate_left;have ae:=fe C hI.val E 20 7;rotate_left
  .have h0:=h0.out
   have ax:=(C 6 nO).trans Ay.out;have af:=fe C hI.val E 28 8;simp only[Aw]at af;exact Xx
  have au:=fe C hI.val E 29 9;rotate_left
  all_goals
   try simp only[Aw]at*
   go_simp;exact hK _ _ _ rfl ⟨hI.oH,uK hI.val⟩
 .intro D vs w ag hI
  have E:=hI.oH;rw[ag 10 nO]at E;have q:=J vs w E;rw[oW hI.val ag];dsimp+instances only[Fh,cO,cL,cR,cB,Tryz.f91];exact qH
end
noncomputable def Fj:List lY:=cO (cL (cR (cR (cR (cL (cL (cR (cR (cR (cB Tryz.f91))))))))))
section
variable (g r bn bi:Nat)(c:oF)(L:List oO)(f:vP)(w0:jJ)(b:Bool)(x:RC)
def Az:Nat->jP
 |0=> nA (U (Z r 0 V))
 |1=> nA (U (Z r 0 V))
 |2=> nA (U (Z r 7 V))
 |3=> .map (U bi)
 |4=> nA (U (Z g 0 V))
 |5=> nk nJ f.id
 |6=> nE #[nD #[nk nJ x.i,nz x.nm,nz x.tx,nk nI x.k,nk nI x.z,ny x.ou x.nu x.cu,nk nI x.tl],nC b]
 |7=> nE #[nD #[nk nJ x.i,nz x.nm,nz x.tx,nk nI x.k,nk nI x.z,ny x.ou x.nu x.cu,nk nI x.tl],nC b]
 |8=> nD #[nk nJ x.i,nz x.nm,nz x.tx,nk nI x.k,nk nI x.z,ny x.ou x.nu x.cu,nk nI x.tl]
 |9=> nC b
 |11=> nC b
 |_=>kI
structure a6l(D:Nat->Bool)(vs:Nat->jP)(w:jJ):Prop where
 oH:UC g r bn bi c L f w0 (if(D 10)=true then x else C8) w
 val:∀j,(true)=true->D j=true->vs j=Az g r bi f b x j
variable {g r bn bi c L f w0 b x}
theorem a08{id:Nat}{Q:Exit->Act->jJ->Prop}{I:jJ}(ht0:a0.tmps.getD 0 kI=nA (U (Z r 0 V)))(ht3:a0.tmps.getD 3 kI=nA (U (Z g 0 V)))(hl:∀W,qi r bn bi c L W->(lW 131 (.map (U bi)) (nk nJ f.id) true).run jI W=.ok (nE #[nD #[nk nJ x.i,nz x.nm,nz x.tx,nk nI x.k,nk nI x.z,ny x.ou x.nu x.cu,nk nI x.tl],nC b]) W)(Ay:a0.tmps.getD 6 kI=nA (U (Z (g+2) 0 V)))(h0:qi r bn bi c L w0)(hsz:a0.tmps.size=54)(hI0:∀vs:Nat->jP,(λw=>UC g r bn bi c L f w0 (if false=true then x else C8) w) I.drew)(J:∀(vs:Nat->jP) (w:jJ),UC g r bn bi c L f w0 (if true=true then x else C8) w->Q .normal {a0 with tmps:=(((((((((((a0.tmps.setIfInBounds 43 (nA (U (Z r 0 V)))).setIfInBounds 44 (nA (U (Z r 0 V)))).setIfInBounds 45 (nA (U (Z r 7 V)))).setIfInBounds 46 (.map (U bi))).setIfInBounds 47 (nA (U (Z g 0 V)))).setIfInBounds 48 (nk nJ f.id)).setIfInBounds 49 (nE #[nD #[nk nJ x.i,nz x.nm,nz x.tx,nk nI x.k,nk nI x.z,ny x.ou x.nu x.cu,nk nI x.tl],nC b])).setIfInBounds 42 (nE #[nD #[nk nJ x.i,nz x.nm,nz x.tx,nk nI x.k,nk nI x.z,ny x.ou x.nu x.cu,nk nI x.tl],nC b])).setIfInBounds 50 (nD #[nk nJ x.i,nz x.nm,nz x.tx,nk nI x.k,nk nI x.z,ny x.ou x.nu x.cu,nk nI x.tl])).setIfInBounds 51 (nC b)).setIfInBounds 7 (nC b))} w):
  (ll id Fj.toArray true).wp jI Q a0 I:=by
 refine og 12 54 (a6l g r bn bi c L f w0 b x) nN hsz nN (.inl rfl) nN ?_ ?_ ?_;.exact qB
 .refine rM λA ah=> ?_
  clear hI0 J hsz;replace ht0:=jH ht0;replace ht3:=jH ht3;replace hl:=jH hl;replace Ay:=jH Ay;replace h0:=jH h0;dsimp+instances only[Fj,cO,cL,cR,cB,Tryz.f91];simp only[ky,kL,qW];refine⟨?_,?_,?_,?_,?_,?_,?_,?_,?_,?_,?_,?_,trivial⟩<;>(intro D vs a w K hI hd E hw2 C hK;subst ah;dsimp+instances only[Fj,cO,cL,cR,cB,Tryz.f91]);have av:=(C 0 nO).trans ht0.out;rotate_left;have ai:=fe C hI.val E 43 0;rotate_left;have aj:=fe C hI.val E 44 1;rotate_left;have N:=fe C hI.val E 45 2;simp only[Az]at N;have c0:=hI.oH.rg.rg.c7;rotate_left;have e3:=(C 3 nO).trans ht3.out;rotate_left;have O:=fe C hI.val E 47 4;simp only[Az]at O;have c0:=hI.oH.fr.c0;rotate_left;have hl:=hl.out;have Y:=fe C hI.val E 46 3;have aa:=fe C hI.val E 48 5;simp only[Az]at Y aa;have q:=hl w hI.oH.rg;rotate_left;have ak:=fe C hI.val E 49 6;rotate_left;have ae:=fe C hI.val E 42 7;rotate_left;have ae:=fe C hI.val E 42 7;rotate_left
  .have h0:=h0.out
   have ax:=(C 6 nO).trans Ay.out;have af:=fe C hI.val E 50 8;simp only[Az]at af;exact Xx
  have au:=fe C hI.val E 51 9;rotate_left
  all_goals
   try simp only[Az]at*
   go_simp;exact hK _ _ _ rfl ⟨hI.oH,uK hI.val⟩
 .intro D vs w ag hI
  have E:=hI.oH;rw[ag 10 nO]at E;have q:=J vs w E;rw[oW hI.val ag];dsimp+instances only[Fj,cO,cL,cR,cB,Tryz.f91];exact qH
end
theorem yg(L:List oO)(p:oO->Bool):∃x:RC,fnd L p=x/\x=rcO (L.find? p):=⟨_,rfl,a06 L p⟩
theorem Xy(h:p:=by
 have hF:=HI.out;clear h2 HR HL6 HX6 HI;have HF:=jH hF;clear hF;obtain⟨⟨z0,z1,z2,z3,z4,z5,z6⟩,_⟩:=qh HF.fo;obtain⟨⟨y0,y1,y2,y3,y4,y5,y6⟩,q0,q1,q2,q3,q4,q5,q6⟩:=qh HF.rs;unfold C8 at y0 y1 y2 y3 y4 y5 y6;dsimp only at y0 y1 y2 y3 y4 y5 y6;go_wp2_with fail;rw[Av _ _ C8];obtain⟨⟨d0,d1,d2,d3,d4,d5,d6⟩,_⟩:=qh (yf (x:=C8) HF.rs);have hbel:=uW (x:=C8) HF.pR (kV g);generalize C9 _ _ C8=W9 at*;refine jZ (v:=nE #[nD C8.cs,nC false]) (by simp[kQ,Tryz.results91,go_sem,d0,d1,d2,d3,d4,d5,d6,RC.cs]) rfl ⟨?_,hbel⟩;rw[HE.out];rfl):p:=h
theorem a3Y(r bn bi:Nat)(c:oF)(L:List oO)(f:vP)(w:jJ)(h:qi r bn bi c L w)(hn:f.name.size<=j3)(hid:f.id<18446744073709551616)(hlt:r<w.heap.size/\bn<w.heap.size/\bi<w.heap.size):
  jV jI 91 #[nA (U (Z r 0 V)),nD #[nk nJ f.id,nz f.name,nz f.body]] w λe w'=>e=nG (nE #[nD (rcO (P7 c L f)).cs,nC (P7 c L f).isSome])/\jS w.heap.size w w':=by
 obtain⟨g,hg⟩:=nV w.heap.size;have Y:jX (∀W,((w.alloc (nH #[nk nJ f.id,nz f.name,nz f.body] rq)).alloc (nH #[nk nJ 0,nz ⟨#[]⟩,nz ⟨#[]⟩,nk nI 0,nk nI 0,ny V 0 0,nk nI 0] Fg)).alloc (nH #[nk nJ 0,nz ⟨#[]⟩,nz ⟨#[]⟩,nk nI 0,nk nI 0,ny V 0 0,nk nI 0] Fg)=W->UC g r bn bi c L f w C8 W):=jH λW C=>by
  subst C;have a1:=(jT w.heap.size w).alloc (jK _) (nH #[nk nJ f.id,nz f.name,nz f.body] rq);have a2:=a1.alloc nS (nH #[nk nJ 0,nz ⟨#[]⟩,nz ⟨#[]⟩,nk nI 0,nk nI 0,ny V 0 0,nk nI 0] Fg);have a3:=a2.alloc nT (nH #[nk nJ 0,nz ⟨#[]⟩,nz ⟨#[]⟩,nk nI 0,nk nI 0,ny V 0 0,nk nI 0] Fg);have aj:=nP.new w #[nk nJ f.id,nz f.name,nz f.body] rq;have ak:=nP.new (w.alloc (nH #[nk nJ f.id,nz f.name,nz f.body] rq)) #[nk nJ 0,nz ⟨#[]⟩,nz ⟨#[]⟩,nk nI 0,nk nI 0,ny V 0 0,nk nI 0] Fg;have au:=nP.new ((w.alloc (nH #[nk nJ f.id,nz f.name,nz f.body] rq)).alloc (nH #[nk nJ 0,nz ⟨#[]⟩,nz ⟨#[]⟩,nk nI 0,nk nI 0,ny V 0 0,nk nI 0] Fg)) #[nk nJ 0,nz ⟨#[]⟩,nz ⟨#[]⟩,nk nI 0,nk nI 0,ny V 0 0,nk nI 0] Fg;rw[show(w.alloc (nH #[nk nJ f.id,nz f.name,nz f.body] rq)).heap.size=g+1 by simp[hg]]at ak;rw[show((w.alloc (nH #[nk nJ f.id,nz f.name,nz f.body] rq)).alloc (nH #[nk nJ 0,nz ⟨#[]⟩,nz ⟨#[]⟩,nk nI 0,nk nI 0,ny V 0 0,nk nI 0] Fg)).heap.size=g+2 by simp[hg]]at au;rw[hg]at aj;exact⟨h.below a3,(aj.alloc _).alloc _,ak.alloc _,au,hg▸a3,⟨nL,nL,nL,hg⟩⟩
 have A:jX (∀W,qi r bn bi c L W->_):=jH λW C=>C.look f.name hn
 have HL6:jX (∀W,qi r bn bi c L W->_):=jH λW C=>C.a2F f.id hid
 have av:=jH h;have ax:∀b1 ah,decide (c.fmt=1)=b1->decide (f.id=0)=ah->decide (f.name.size=0)=decide (f.name.size=0)->P7 c L f=if b1 then if ah then L.find? λx=>decide (x.r.name=f.name)else V else if decide (f.name.size=0)then L.find? λx=>decide ((x.r.id:Int)=(f.id:Int))else V:=by
  intro b1 ah h1 h2 _;subst h1 h2;unfold P7;simp only[decide_eq_true_eq]
 have HR:=jH ax;obtain⟨E,aa,I⟩:=yg L λx=>decide (x.r.name=f.name)
 obtain⟨J,ae,N⟩:=yg L λx=>decide ((x.r.id:Int)=(f.id:Int))
 rw[aa]at A;rw[ae]at HL6;unfold RC.cs at A HL6;have af:=jH I;have HX6:=jH N;generalize ay:(L.find? λx=>decide (x.r.name=f.name))=o4 at*;generalize az:(L.find? λx=>decide ((x.r.id:Int)=(f.id:Int)))=aA at*;obtain⟨Q,ag⟩:=nV (P7 c L f);rw[ag]at HR⊢;rw[hg];clear h hn hlt aa ae I N ay az ax ag hid;go_in;go_upto_region 2 with fail;have hI:=Y.out _ rfl;generalize ((w.alloc _).alloc _).alloc _=w1 at*;have HI:=jH hI;have c0:=hI.rg.rg.c0;obtain⟨aD,f1⟩:=hI.fr.a2;clear hI Y;by_cases h1:c.fmt=1
 .have aC:(c.fmt==1)=true:=by simp[h1]
  have aB:(c.fmt !=1)=false:=by simp[h1]
  have O:=jH h1;clear h1;by_cases h2:f.id=0
  .have ai:((f.id:Int)==0)=true:=by simp[h2]
   have HE:jX (Q=o4):=jH (by rw[HR.out true true (by simp[O.out]) (by simp[h2]) rfl];rfl);clear h2 HR HL6 HX6;go_upto_region 4 with fail;refine a07 (ht0:=by rfl) (ht3:=by rfl) (Ay:=by rfl) (hl:=A.out) (h0:=av.out) (hsz:=by rfl) (hI0:=λ_=>HI.drew) ?_;intro vs W hF;clear HI;simp only[jL,jQ,jR];have HF:=jH hF;clear hF;obtain⟨⟨z0,z1,z2,z3,z4,z5,z6⟩,_⟩:=qh HF.fo;obtain⟨⟨y0,y1,y2,y3,y4,y5,y6⟩,q0,q1,q2,q3,q4,q5,q6⟩:=qh HF.rs;unfold C8 at y0 y1 y2 y3 y4 y5 y6;dsimp only at y0 y1 y2 y3 y4 y5 y6;go_wp2_with fail;rw[Av _ _ E];obtain⟨⟨d0,d1,d2,d3,d4,d5,d6⟩,_⟩:=qh (yf (x:=E) HF.rs);have hbel:=uW (x:=E) HF.pR (kV g);generalize C9 _ _ E=W9 at*;refine jZ (v:=nE #[nD E.cs,nC o4.isSome]) (by simp[kQ,Tryz.results91,go_sem,d0,d1,d2,d3,d4,d5,d6,RC.cs]) rfl ⟨?_,hbel⟩;rw[HE.out,af.out]
  .have ai:((f.id:Int)==0)=false:=nT
   have HE:jX (Q=V):=jH (by rw[HR.out true false (by simp[O.out]) (by simp[h2]) rfl];rfl);exact Xy
 .have aC:(c.fmt==1)=false:=by simp[h1]
  have aB:(c.fmt !=1)=true:=by simp[h1]
  have O:=jH h1;clear h1;by_cases h2:f.name.size=0
  .have ai:(f.name.toList==([]:List UInt8))=true:=by rw[Fe];simp[h2]
   have HE:jX (Q=aA):=jH (by rw[HR.out false _ (by simp[O.out]) rfl rfl,decide_eq_true h2];rfl);clear h2 HR A af;go_upto_region 6 with fail;refine a08 (ht0:=by rfl) (ht3:=by rfl) (Ay:=by rfl) (hl:=HL6.out) (h0:=av.out) (hsz:=by rfl) (hI0:=λ_=>HI.drew) ?_;intro vs W hF;clear HI;simp only[jL,jQ,jR];have HF:=jH hF;clear hF;obtain⟨⟨z0,z1,z2,z3,z4,z5,z6⟩,_⟩:=qh HF.fo;obtain⟨⟨y0,y1,y2,y3,y4,y5,y6⟩,q0,q1,q2,q3,q4,q5,q6⟩:=qh HF.rs;unfold C8 at y0 y1 y2 y3 y4 y5 y6;dsimp only at y0 y1 y2 y3 y4 y5 y6;go_wp2_with fail;rw[Av _ _ J];obtain⟨⟨d0,d1,d2,d3,d4,d5,d6⟩,_⟩:=qh (yf (x:=J) HF.rs);have hbel:=uW (x:=J) HF.pR (kV g);generalize C9 _ _ J=W9 at*;refine jZ (v:=nE #[nD J.cs,nC aA.isSome]) (by simp[kQ,Tryz.results91,go_sem,d0,d1,d2,d3,d4,d5,d6,RC.cs]) rfl ⟨?_,hbel⟩;rw[HE.out,HX6.out]
  .have ai:(f.name.toList==([]:List UInt8))=false:=by rw[Fe];simp[h2]
   have HE:jX (Q=V):=jH (by rw[HR.out false _ (by simp[O.out]) rfl rfl,decide_eq_false h2];rfl);exact Xy
end
section
open Go.RowKit
theorem yN{g:Nat}{w W:jJ}{a b c:jP}(hB:∃a0 b0 c0,nP W g #[a0,b0,c0] IT)(hb:jS g w W):nP (pM W g a b c) g #[a,b,c] IT/\jS g w (pM W g a b c):=by
 obtain⟨a0,b0,c0,h⟩:=hB;exact⟨((h.set 0 a).set 1 b).set 2 c,((hb.setCell (p:=(Z g 0 V)) nS _).setCell (p:=(Z g 1 V)) nS _).setCell (p:=(Z g 2 V)) nS _⟩
theorem D7(s:ByteArray)(w:jJ):
  jV jI 227 #[nz s] w λe w'=>e=nG (nD #[nz s,nC false,ny V 0 0])/\jS w.heap.size w w':=by
 obtain⟨g,hg⟩:=nV w.heap.size;have C:=nP.new w #[nz ⟨#[]⟩,nC false,ny V 0 0] IT;have E:=(jT w.heap.size w).alloc (jK _) (nH #[nz ⟨#[]⟩,nC false,ny V 0 0] IT);rw[hg]at C E⊢;have I:=jH C;have J:=jH E;clear C E;go_in;go_upto_region 1 with fail;have hw1:=I.out;have A:=J.out;generalize w.alloc _=w1 at*;obtain⟨aa,ae,y2,z0,af,ag⟩:=hw1.b3;have N:=jH A;have O:=jH hw1;clear A hw1;go_wp2_with fail;rw[qb];obtain⟨hB,hb⟩:=yN (a:=nz s) (b:=nC false) (c:=ny V 0 0) ⟨_,_,_,O.out⟩ N.out;obtain⟨Q,Y,d2⟩:=hB.a3;refine jZ (v:=nD #[nz s,nC false,ny V 0 0]) (by simp[kQ,Tryz.results227,go_sem,Q,Y,d2]) rfl ⟨rfl,hb⟩
theorem KH(n:Nat)(w:jJ)(s:ByteArray)(hL:∀W,jV jI 202 #[nk nJ n] W λe w'=>e=nG (nz s)/\jS W.heap.size W w'):
  jV jI 248 #[nk nJ n] w λe w'=>e=nG (nD #[nz s,nC false,ny V 0 0])/\jS w.heap.size w w':=by
 obtain⟨g,hg⟩:=nV w.heap.size;have Q:=nP.new w #[nz ⟨#[]⟩,nC false,ny V 0 0] IT;have Y:=(jT w.heap.size w).alloc (jK _) (nH #[nz ⟨#[]⟩,nC false,ny V 0 0] IT);rw[hg]at Q Y⊢;have af:=jH Q;have ag:=jH Y;have ah:=jH hL;have ai:=jH (D7 s);clear Q Y hL;go_in;go_upto_region 1 with fail;have hw1:=af.out;have J:=ag.out;generalize w.alloc _=w1 at*;have aa:=jH J;have I:=jH hw1;clear J hw1;go_wp2_with fail;refine(ah _).mono ?_;rintro e w2 ⟨rfl,C⟩;have A:=jH (Below.blk C I I.lt);have N:=jH (aa.trans (C.mono (by have:=I.lt;omega)));clear C I aa;go_wp2_with fail;refine(ai _).mono ?_;rintro e w3 ⟨rfl,E⟩;have O:=jH (Below.blk E A A.lt);have ae:=jH (N.trans (E.mono (by have:=A.lt;omega)));obtain⟨au,av,y2,z0,ax,ay⟩:=O.b3;clear E A N;go_wp2_with fail;rw[qb];obtain⟨hB,hb⟩:=yN (a:=nz s) (b:=nC false) (c:=ny V 0 0) ⟨_,_,_,O.out⟩ ae.out;obtain⟨aj,ak,d2⟩:=hB.a3;refine jZ (v:=nD #[nz s,nC false,ny V 0 0]) (by simp[kQ,Tryz.results248,go_sem,aj,ak,d2]) rfl ⟨rfl,hb⟩
abbrev EZ:ko:=258
def Bl(cb:Nat):jP:=.func (.func 145) #[nA (U (Z cb 0 V))] #[]
def Da(cb:Nat):jP:=.func (.func 191) #[nA (U (Z cb 0 V))] #[]
def Dz(cb:Nat):jP:=.func (.func 146) #[nA (U (Z cb 0 V))] #[]
def Ci(cb:Nat):jP:=.func (.func 189) #[nA (U (Z cb 0 V))] #[]
def Bn(fb:Nat):jP:=.func (.func 209) #[] #[nA (U (Z fb 0 V))]
def EJ(cb lb fb:Nat):Array jP:=#[Bl cb,Da cb,Dz cb,Ci cb,Bn fb,nA (U (Z lb 0 V))]
structure Bo(cb lb fb:Nat)(r:RS)(l:Nat)(w:jJ):Prop where
 rd:vW w cb r
 ok:(r.Ok/\r.t.size<=100000)/\l<=1024
 lf:nP w lb #[nk nI (l:Nat)] 3
 fr:nP w fb #[nA (U (Z cb 0 V))] 193
 tab:uV w
 ne:cb≠lb/\fb≠cb/\fb≠lb/\0≠cb/\0≠lb
section
variable {cb lb fb l:Nat}{r:RS}{w w':jJ}
theorem vJ{b q:Nat}(h:uV w)(u:oN b q w w')(h1:0≠b)(h2:0≠q):uV w':=by
 have hb:=u.block 0 h.lt h1 h2;exact RU
theorem xz{b q:Nat}(h:pE b w w'):oN b q w w':=⟨h.os,h.tape,h.output,h.size,λk hk hb _=>h.block k hk (by simpa using hb)⟩
theorem Bo.below(h:Bo cb lb fb r l w)(hb:jS w.heap.size w w'):Bo cb lb fb r l w':=
 ⟨Below.blk hb h.rd (nP.lt h.rd),h.ok,Below.blk hb h.lf h.lf.lt,Below.blk hb h.fr h.fr.lt,vJ h.tab (oN.of (b:=cb) (q:=lb) hb) h.ne.2.2.2.1 h.ne.2.2.2.2,h.ne⟩
theorem Bo.turn{r':RS}(h:Bo cb lb fb r l w)(A:pE cb w w')(C:vW w' cb r')(ho:r'.Ok/\r'.t.size<=100000):Bo cb lb fb r' l w':=
 have u:=xz (q:=lb) A
 ⟨C,⟨ho,h.ok.2⟩,A.blk h.lf (Ne.symm h.ne.1),A.blk h.fr h.ne.2.1,vJ h.tab u h.ne.2.2.2.1 h.ne.2.2.2.2,h.ne⟩
theorem Bo.Bv(h:Bo cb lb fb r l w)(m:Nat)(A:m<=1024):Bo cb lb fb r m (w.setCell (Z lb 0 V) (nk nI (m:Nat))):=
 ⟨nP.setOther (a:=(Z lb 0 V)) h.rd h.ne.1 _,⟨h.ok.1,A⟩,h.lf.set 0 _,nP.setOther (a:=(Z lb 0 V)) h.fr h.ne.2.2.1 _,vJ h.tab ((oN.refl cb lb w).OJ 0 _) h.ne.2.2.2.1 h.ne.2.2.2.2,h.ne⟩
end
theorem Xz(h:p:=by
 unfold RS.comp at hf⊢;split at hf
 .rename_i h0
  rw[if_pos h0];dsimp only at hf⊢;split at hf;.rename_i h1;exact absurd rfl hf
  .rename_i h1;rw[if_neg h1];exact kH _
 .rename_i h0
  rw[if_neg h0];exact kH _):p:=h
theorem GJ(cb lb fb l:Nat)(r:RS)(most:Nat)(w:jJ)(h:Bo cb lb fb r l w)(N:most<=65536):
  jV jI 209 #[nk nI most,nA (U (Z fb 0 V))] w λe w'=>e=nG (nk nI (r.comp most).2)/\Bo cb lb fb (r.comp most).1 l w'/\pE cb w w':=by
 have c0:=h.fr.c0;have E:=jH (Uv cb r most w h.ok.1.1 h.rd nL h.tab h.ne.2.2.2.1);have J:(r.comp most).2<=65536:=by
  by_cases hf:(r.comp most).1.f=0;.have:=Jj hf;omega
  .exact Xz
 have I:=jH (λw' (A:pE cb w w') C=>h.turn A C ⟨h.ok.1.1.comp most,by rw[Xq];exact h.ok.1.2⟩);clear h;generalize r.comp most=y at*;obtain⟨r2,n⟩:=y;dsimp only at*;go_in;go_wp2_with fail;refine E.mono ?_;rintro e w2 ⟨rfl,A,C⟩;go_wp2_with fail;go_returns;exact⟨rfl,I w2 A C,A⟩
abbrev rU:ko:=63
theorem R4{w:jJ}{Q:Nat->Prop}{oa:Option lH}{n cap:Nat}{s:List (nM TL)}(h:oh.nX w Q (ny oa n cap) s){i:Nat}{x:nM TL}(A:s[i]? =U x):
  ∃b off ou cu,oa=U (Z b off V)/\b<w.heap.size/\Q b/\w.cell? (Z b (off+i*4) V)=U (nk nI x.lab.kind)/\w.cell? (Z b (off+i*4+1) V)=U (nk nI x.lab.size)/\
   w.cell? (Z b (off+i*4+2) V)=U (ny ou x.sub.length cu)/\w.cell? (Z b (off+i*4+3) V)=U (nk nI x.lab.tail)/\oh.nX w Q (ny ou x.sub.length cu) x.sub:=by
 obtain⟨N,C,E,h1,h2,I⟩:=Shape.nX.get h;cases E;obtain⟨b,off,u,e,hb,J,ho,hc,hs⟩:=I i x A;obtain⟨ou,cu,rfl,_⟩:=hs;exact⟨b,off,ou,cu,e,hb,J,by simpa [oh,kR]using hc 0 nO,by simpa [oh,kR]using hc 1 nO,by simpa [oh,kR]using hc 2 nO,by simpa [oh,kR]using hc 3 nO,⟨ou,cu,rfl,‹_›⟩⟩
def D8(Q:Nat->Prop)(y:nM TL)(b:Bool)(w:jJ)(e:Ending)(w':jJ):Prop:=
 ∃ou cu,e=nG (nE #[nD #[nk nI y.lab.kind,nk nI y.lab.size,ny ou y.sub.length cu,nk nI y.lab.tail],nC b])/\oh.nX w' Q (ny ou y.sub.length cu) y.sub/\jS w.heap.size w w'
def yO(w:jJ)(k:Nat)(a b c d:jP):jJ:=(((w.setCell (Z k 0 V) a).setCell (Z k 1 V) b).setCell (Z k 2 V) c).setCell (Z k 3 V) d
theorem tF(w:jJ)(k:Nat)(a b c d:jP):(((w.setCell (Z k 0 V) a).setCell (Z k 1 V) b).setCell (Z k 2 V) c).setCell (Z k 3 V) d=yO w k a b c d:=rfl
theorem tT{B k:Nat}{w0 w:jJ}{a b c d:jP}(h:jS B w0 w)(hk:B<=k):jS B w0 (yO w k a b c d):=
 (((h.setCell (p:=(Z k 0 V)) hk _).setCell (p:=(Z k 1 V)) hk _).setCell (p:=(Z k 2 V)) hk _).setCell (p:=(Z k 3 V)) hk _
theorem rD{w:jJ}{k:Nat}{a b c d a0 b0 c0 A:jP}(h:nP w k #[a0,b0,c0,A] t):nP (yO w k a b c d) k #[a,b,c,d] t:=(((h.set 0 a).set 1 b).set 2 c).set 3 d
theorem oG{W:jJ}{k:Nat}{a b c d:jP}(h:nP W k #[a,b,c,d] t):(W.cell? (Z k 0 V)=U a/\W.cell? (Z k 1 V)=U b/\W.cell? (Z k 2 V)=U c/\W.cell? (Z k 3 V)=U d)/\
  W.frozen? (Z k 0 V)=false/\W.frozen? (Z k 1 V)=false/\W.frozen? (Z k 2 V)=false/\W.frozen? (Z k 3 V)=false:=⟨⟨h.cell 0,h.cell 1,h.cell 2,h.cell 3⟩,h.free 0,h.free 1,h.free 2,h.free 3⟩
theorem XA{w:jJ}{g:Nat}(hg:w.heap.size=g):∀W,w.alloc (nH #[nk nI 0,nk nI 0,ny V 0 0,nk nI 0] rU)=W->jS g w W/\nP W g #[nk nI 0,nk nI 0,ny V 0 0,nk nI 0] rU:=by
 rintro W rfl;subst hg;exact⟨(jT _ _).alloc (jK _) _,nP.new w _ _⟩
theorem a09(tb i:Nat)(a:TL)(y:nM TL)(ot:Option lH)(n ct:Nat)(s:List (nM TL))(Q:Nat->Prop)(w:jJ)(ht:nP w tb #[nk nI a.kind,nk nI a.size,ny ot n ct,nk nI a.tail] rU)(hs:oh.nX w Q (ny ot n ct) s)(Y:s[0]? =U y):
  jV jI 250 #[nk nI i,nA (U (Z tb 0 V))] w (D8 Q y true w):=by
 obtain⟨ay,ag,ah,az,aA,_⟩:=Shape.nX.get hs;have hlen:0<s.length:=(lF.1 Y).1;cases ah;obtain⟨b,off,ou,cu,rfl,hb,ai,c0,c1,c2,c3,C⟩:=R4 hs Y;rw[Nat.zero_mul,Nat.add_zero]at c0 c1 c2 c3;obtain⟨g,hg⟩:=nV w.heap.size;have aa:=jH (XA hg);have A:b<g:=hg▸hb;have ae:tb<g:=hg▸ht.lt;have O:=jH (λW (h:jS g w W)=>(Shape.nX.below C (hg.symm▸h):oh.nX W Q (ny ou y.sub.length cu) y.sub));have af:jX (∀W,jS g w W->(W.cell? (Z tb 2 V)=U (ny (U (Z b off V)) s.length ct))/\W.cell? (Z b off V)=U (nk nI y.lab.kind)/\W.cell? (Z b (off+1) V)=U (nk nI y.lab.size)/\W.cell? (Z b (off+2) V)=U (ny ou y.sub.length cu)/\W.cell? (Z b (off+3) V)=U (nk nI y.lab.tail)):=jH λW h=>
  ⟨(h.cell (p:=(Z tb 2 V)) ae).trans (ht.cell 2),(h.cell (p:=(Z b off V)) A).trans c0,(h.cell (p:=(Z b (off+1) V)) A).trans c1,(h.cell (p:=(Z b (off+2) V)) A).trans c2,(h.cell (p:=(Z b (off+3) V)) A).trans c3⟩
 unfold D8;rw[hg];clear ht hs C c0 c1 c2 c3 hb ai;generalize s.length=N at*;generalize y.sub.length=M at*;go_in;go_upto_region 1 with fail;obtain⟨E,I⟩:=aa.out _ rfl;generalize w.alloc _=w1 at*;obtain⟨aB,e1,e2,e3,e4⟩:=af.out _ E;obtain⟨⟨aC,aD,y2,aF⟩,aG,aH,aI,aJ⟩:=oG I;have aj:=jH E;have ak:=jH I;clear aa E I af;go_wp2_with fail;rw[tF];obtain⟨⟨au,av,d2,ax⟩,_⟩:=oG (rD (a:=nk nI y.lab.kind) (b:=nk nI y.lab.size) (c:=ny ou M cu) (d:=nk nI y.lab.tail) ak);have J:=tT (a:=nk nI y.lab.kind) (b:=nk nI y.lab.size) (c:=ny ou M cu) (d:=nk nI y.lab.tail) aj (jK g);refine jZ (v:=nE #[nD #[nk nI y.lab.kind,nk nI y.lab.size,ny ou M cu,nk nI y.lab.tail],nC true]) (by simp[kQ,Tryz.results250,go_sem,au,av,d2,ax]) rfl ⟨ou,cu,rfl,O _ J,J⟩
structure LK(g tb rb cb lb fb:Nat)(r:RS)(a:TL)(ot:Option lH)(n ct:Nat)(w0:jJ)(k z:Int)(ou:Option lH)(nu cu:Nat)(tl:Int)(W:jJ):Prop where
 tb:nP W tb #[nk nI a.kind,nk nI a.size,ny ot n ct,nk nI a.tail] rU
 rb:nP W rb (EJ cb lb fb) EZ
 rd:vW W cb r
 rs:nP W g #[nk nI k,nk nI z,ny ou nu cu,nk nI tl] rU
 pR:jS g w0 W
theorem LK.drewN{g tb rb cb lb fb:Nat}{r:RS}{a:TL}{ot:Option lH}{n ct:Nat}{w0:jJ}{k z:Int}{ou:Option lH}{nu cu:Nat}{tl:Int}{W:jJ}(h:LK g tb rb cb lb fb r a ot n ct w0 k z ou nu cu tl W)(m:Nat):LK g tb rb cb lb fb r a ot n ct w0 k z ou nu cu tl (W.drewN m):=
 ⟨h.tb,h.rb,h.rd,h.rs,⟨h.pR.os,h.pR.tape,h.pR.output,h.pR.size,h.pR.block⟩⟩
theorem LK.drew{g tb rb cb lb fb:Nat}{r:RS}{a:TL}{ot:Option lH}{n ct:Nat}{w0:jJ}{k z:Int}{ou:Option lH}{nu cu:Nat}{tl:Int}{W:jJ}(h:LK g tb rb cb lb fb r a ot n ct w0 k z ou nu cu tl W):LK g tb rb cb lb fb r a ot n ct w0 k z ou nu cu tl W.drew:=
 ⟨h.tb,h.rb,h.rd,h.rs,⟨h.pR.os,h.pR.tape,h.pR.output,h.pR.size,h.pR.block⟩⟩
theorem LK.put{g tb rb cb lb fb:Nat}{r:RS}{a:TL}{ot:Option lH}{n ct:Nat}{w0:jJ}{k z J N:Int}{ou A:Option lH}{nu cu C E:Nat}{tl I:Int}{W:jJ}(h:LK g tb rb cb lb fb r a ot n ct w0 k z ou nu cu tl W)(h1:tb<g)(h2:rb<g)(O:cb<g):
  LK g tb rb cb lb fb r a ot n ct w0 J N A C E I (yO W g (nk nI J) (nk nI N) (ny A C E) (nk nI I)):=
 have o:∀{c:Nat}{cs:Array jP}{t:ko},nP W c cs t->c≠g->nP (yO W g (nk nI J) (nk nI N) (ny A C E) (nk nI I)) c cs t:=λh hn=>
  (((h.setOther (a:=(Z g 0 V)) hn _).setOther (a:=(Z g 1 V)) hn _).setOther (a:=(Z g 2 V)) hn _).setOther (a:=(Z g 3 V)) hn _
 ⟨o h.tb nL,o h.rb nL,o h.rd nL,rD h.rs,tT h.pR (jK g)⟩
noncomputable def Fp:List lY:=cO (cL (cR (cB Tryz.f251)))
section
variable (g tb rb cb lb fb:Nat)(r:RS)(ta:TL)(bo off n ct:Nat)(w0:jJ)(ix:Nat)(k z:Int)(ou:Option lH)(nu cu:Nat)(tl:Int)
def tH:Nat->jP
 |0=> nA (U (Z tb 2 V))
 |1=> ny (U (Z bo off V)) n ct
 |2=> nk nI ix
 |3=> nA (U (Z bo (off+ix*4) V))
 |4=> nD #[nk nI k,nk nI z,ny ou nu cu,nk nI tl]
 |5=> nk nI ix
 |6=> nA (U (Z tb 2 V))
 |7=> ny (U (Z bo off V)) n ct
 |8=> nk nI n
 |9=> nA (U (Z tb 3 V))
 |10=> nk nI ta.tail
 |11=> nk nI ((n:Int) - ta.tail)
 |12=> nC true
 |13=> nC true
 |18=> nC true
 |20=> nC true
 |_=>kI
structure a6n(D:Nat->Bool)(vs:Nat->jP)(w:jJ):Prop where
 oH:LK g tb rb cb lb fb r ta (U (Z bo off V)) n ct w0 (if(D 19)=true then k else 0) (if(D 19)=true then z else 0) (if(D 19)=true then ou else V) (if(D 19)=true then nu else 0) (if(D 19)=true then cu else 0) (if(D 19)=true then tl else 0) w
 val:∀j,(true)=true->D j=true->vs j=tH tb ta bo off n ct ix k z ou nu cu tl j
variable {g tb rb cb lb fb r ta bo off n ct w0 ix k z ou nu cu tl}
theorem XB(h:p:=by
 have hW:=hI.oH;rw[hd]at hW;obtain⟨⟨y0,y1,y2,y3⟩,q0,q1,q2,q3⟩:=oG hW.rs;go_simp;rw[tF];refine hK kI _ _ rfl ⟨?_,uK hI.val⟩;rw[oo];exact hW.put hlt.1 hlt.2.1 hlt.2.2):p:=h
theorem a1a{id:Nat}{Q:Exit->Act->jJ->Prop}{N:jJ}(ht1:a0.tmps.getD 1 kI=nA (U (Z tb 0 V)))(ht0:a0.tmps.getD 0 kI=nk nI ix)(hin:ix<n)(hn:n<=100000)(hel:∀W,jS g w0 W->W.cell? (Z bo (off+ix*4) V)=U (nk nI k)/\W.cell? (Z bo (off+ix*4+1) V)=U (nk nI z)/\W.cell? (Z bo (off+ix*4+2) V)=U (ny ou nu cu)/\W.cell? (Z bo (off+ix*4+3) V)=U (nk nI tl))(htl:0<=ta.tail/\ta.tail<=100000)(hb:decide ((ix:Int)<(n:Int) - ta.tail)=true)(ht2:a0.tmps.getD 2 kI=nA (U (Z rb 0 V)))(EU:a0.tmps.getD 4 kI=nA (U (Z g 0 V)))(hlt:tb<g/\rb<g/\cb<g)(hsz:a0.tmps.size=25)(hI0:∀vs:Nat->jP,(λw=>LK g tb rb cb lb fb r ta (U (Z bo off V)) n ct w0 (if false=true then k else 0) (if false=true then z else 0) (if false=true then ou else V) (if false=true then nu else 0) (if false=true then cu else 0) (if false=true then tl else 0) w) N.drew)(O:∀(vs:Nat->jP) (w:jJ),LK g tb rb cb lb fb r ta (U (Z bo off V)) n ct w0 (if true=true then k else 0) (if true=true then z else 0) (if true=true then ou else V) (if true=true then nu else 0) (if true=true then cu else 0) (if true=true then tl else 0) w->Q .normal {a0 with tmps:=((((((((((((((((((((a0.tmps.setIfInBounds 6 (nA (U (Z tb 2 V)))).setIfInBounds 7 (ny (U (Z bo off V)) n ct)).setIfInBounds 8 (nk nI ix)).setIfInBounds 9 (nA (U (Z bo (off+ix*4) V)))).setIfInBounds 10 (nD #[nk nI k,nk nI z,ny ou nu cu,nk nI tl])).setIfInBounds 11 (nk nI ix)).setIfInBounds 12 (nA (U (Z tb 2 V)))).setIfInBounds 13 (ny (U (Z bo off V)) n ct)).setIfInBounds 14 (nk nI n)).setIfInBounds 15 (nA (U (Z tb 3 V)))).setIfInBounds 16 (nk nI ta.tail)).setIfInBounds 17 (nk nI ((n:Int) - ta.tail))).setIfInBounds 18 (nC true)).setIfInBounds 19 (nC true)).setIfInBounds 20 (kI)).setIfInBounds 21 (kI)).setIfInBounds 22 (kI)).setIfInBounds 23 (kI)).setIfInBounds 24 (nC true)).setIfInBounds 5 (nC true))} w):
  (ll id Fp.toArray true).wp jI Q a0 N:=by
 refine og 21 25 (a6n g tb rb cb lb fb r ta bo off n ct w0 ix k z ou nu cu tl) nN hsz nN (.inl rfl) nN ?_ ?_ ?_;.exact qB
 .refine rM λA au=> ?_
  clear hI0 O hsz;replace ht1:=jH ht1;replace ht0:=jH ht0;replace hin:=jH hin;replace hn:=jH hn;replace hel:=jH hel;replace htl:=jH htl;replace hb:=jH hb;replace ht2:=jH ht2;replace EU:=jH EU;replace hlt:=jH hlt;dsimp+instances only[Fp,cO,cL,cR,cB,Tryz.f251];simp only[ky,kL,qW];refine⟨?_,?_,?_,?_,?_,?_,?_,?_,?_,?_,?_,?_,?_,?_,?_,?_,?_,?_,?_,?_,?_,trivial⟩<;>(intro D vs a w K hI hd E hw2 C hK;subst au;dsimp+instances only[Fp,cO,cL,cR,cB,Tryz.f251]);have e1:=(C 1 nO).trans ht1.out;rotate_left;have av:=fe C hI.val E 6 0;simp only[tH]at av;have c0:=hI.oH.tb.c2;rotate_left;have ax:=(C 0 nO).trans ht0.out;rotate_left;have hin:=hin.out;have hn:=hn.out;have aH:=fe C hI.val E 7 1;have aI:=fe C hI.val E 8 2;rotate_left;have hel:=hel.out;have ay:=fe C hI.val E 9 3;simp only[tH]at ay;obtain⟨c0,c1,c2,c3⟩:=hel w hI.oH.pR;rotate_left;have ax:=(C 0 nO).trans ht0.out;rotate_left;have e1:=(C 1 nO).trans ht1.out;rotate_left;have Y:=fe C hI.val E 12 6;simp only[tH]at Y;have c0:=hI.oH.tb.c2;rotate_left;have az:=fe C hI.val E 13 7;rotate_left;have e1:=(C 1 nO).trans ht1.out;rotate_left;have aa:=fe C hI.val E 15 9;simp only[tH]at aa;have c0:=hI.oH.tb.c3;rotate_left;have htl:=htl.out;have hn:=hn.out;have ae:=fe C hI.val E 14 8;have af:=fe C hI.val E 16 10;simp only[tH]at ae af;have aA:IntKind.i64.wrap ((n:Int) - ta.tail)=(n:Int) - ta.tail:=IntWalk.i64_in _ nL;rotate_left;have hb:=hb.out;have aB:=fe C hI.val E 11 5;have aC:=fe C hI.val E 17 11;rotate_left;have aD:=fe C hI.val E 18 12;rotate_left;have e2:=(C 2 nO).trans ht2.out;have I:=fe C hI.val E 19 13;simp only[tH]at I;have J:=uq I;rotate_left;have ag:=fe C hI.val E 20 14;have I:=fe C hI.val E 19 13;simp only[tH]at ag I;have J:=uq I;rotate_left;have ah:=fe C hI.val E 21 15;have I:=fe C hI.val E 19 13;simp only[tH]at ah I;have J:=uq I;rotate_left;have ai:=fe C hI.val E 22 16;have I:=fe C hI.val E 19 13;simp only[tH]at ai I;have J:=uq I;rotate_left;have I:=fe C hI.val E 19 13;have aF:=fe C hI.val E 23 17;rotate_left
  .have hlt:=hlt.out
   have e4:=(C 4 nO).trans EU.out;have aj:=fe C hI.val E 10 4;simp only[tH]at aj;exact XB
  have aG:=fe C hI.val E 24 18;rotate_left
  all_goals
   try simp only[tH]at*
   go_simp;exact hK _ _ _ rfl ⟨hI.oH,uK hI.val⟩
 .intro D vs w ak hI
  have E:=hI.oH;rw[ak 19 nO]at E;have q:=O vs w E;rw[oW hI.val ak];dsimp+instances only[Fp,cO,cL,cR,cB,Tryz.f251];exact qH
end
noncomputable def Fq:List lY:=cO (cL (cR (cB Tryz.f251)))
section
variable (g tb rb cb lb fb:Nat)(r:RS)(ta:TL)(bo off n ct:Nat)(w0:jJ)(ix:Nat)(k z:Int)(ou:Option lH)(nu cu:Nat)(tl:Int)
def si:Nat->jP
 |0=> nA (U (Z tb 2 V))
 |1=> ny (U (Z bo off V)) n ct
 |2=> nk nI ix
 |3=> nA (U (Z bo (off+ix*4) V))
 |4=> nD #[nk nI k,nk nI z,ny ou nu cu,nk nI tl]
 |5=> nk nI ix
 |6=> nA (U (Z tb 2 V))
 |7=> ny (U (Z bo off V)) n ct
 |8=> nk nI n
 |9=> nA (U (Z tb 3 V))
 |10=> nk nI ta.tail
 |11=> nk nI ((n:Int) - ta.tail)
 |12=> nC false
 |13=> nC false
 |14=> nA (U (Z rb 3 V))
 |15=>Ci cb
 |16=> nk nI ((r.t.size:Int) - r.p)
 |17=> nC (decide (r.p<r.t.size))
 |18=> nC (decide (r.p<r.t.size))
 |20=> nC (decide (r.p<r.t.size))
 |_=>kI
structure XC(D:Nat->Bool)(vs:Nat->jP)(w:jJ):Prop where
 oH:LK g tb rb cb lb fb r ta (U (Z bo off V)) n ct w0 (if(D 19)=true then k else 0) (if(D 19)=true then z else 0) (if(D 19)=true then ou else V) (if(D 19)=true then nu else 0) (if(D 19)=true then cu else 0) (if(D 19)=true then tl else 0) w
 val:∀j,(true)=true->D j=true->vs j=si tb rb cb r ta bo off n ct ix k z ou nu cu tl j
variable {g tb rb cb lb fb r ta bo off n ct w0 ix k z ou nu cu tl}
theorem XD{D:Nat->Bool}{vs:Nat->jP}{w w':jJ}(h:XC g tb rb cb lb fb r ta bo off n ct w0 ix k z ou nu cu tl D vs w){i:Nat}(hi:i≠19)(A:LK g tb rb cb lb fb r ta (U (Z bo off V)) n ct w0 (if(D 19)=true then k else 0) (if(D 19)=true then z else 0) (if(D 19)=true then ou else V) (if(D 19)=true then nu else 0) (if(D 19)=true then cu else 0) (if(D 19)=true then tl else 0) w->LK g tb rb cb lb fb r ta (U (Z bo off V)) n ct w0 (if(D 19)=true then k else 0) (if(D 19)=true then z else 0) (if(D 19)=true then ou else V) (if(D 19)=true then nu else 0) (if(D 19)=true then cu else 0) (if(D 19)=true then tl else 0) w'):XC g tb rb cb lb fb r ta bo off n ct w0 ix k z ou nu cu tl (zm D i) (zn vs i (si tb rb cb r ta bo off n ct ix k z ou nu cu tl i)) w':=by
 refine⟨?_,uK h.val⟩;rw[nR D (show 19≠i by omega)];exact A h.oH
theorem a1b{id:Nat}{Q:Exit->Act->jJ->Prop}{O:jJ}(ht1:a0.tmps.getD 1 kI=nA (U (Z tb 0 V)))(ht0:a0.tmps.getD 0 kI=nk nI ix)(hin:ix<n)(hn:n<=100000)(hel:∀W,jS g w0 W->W.cell? (Z bo (off+ix*4) V)=U (nk nI k)/\W.cell? (Z bo (off+ix*4+1) V)=U (nk nI z)/\W.cell? (Z bo (off+ix*4+2) V)=U (ny ou nu cu)/\W.cell? (Z bo (off+ix*4+3) V)=U (nk nI tl))(htl:0<=ta.tail/\ta.tail<=100000)(hb:decide ((ix:Int)<(n:Int) - ta.tail)=false)(ht2:a0.tmps.getD 2 kI=nA (U (Z rb 0 V)))(hok:r.Ok)(EU:a0.tmps.getD 4 kI=nA (U (Z g 0 V)))(hlt:tb<g/\rb<g/\cb<g)(hsz:a0.tmps.size=25)(hI0:∀vs:Nat->jP,(λw=>LK g tb rb cb lb fb r ta (U (Z bo off V)) n ct w0 (if false=true then k else 0) (if false=true then z else 0) (if false=true then ou else V) (if false=true then nu else 0) (if false=true then cu else 0) (if false=true then tl else 0) w) O.drew)(Y:∀(vs:Nat->jP) (w:jJ),LK g tb rb cb lb fb r ta (U (Z bo off V)) n ct w0 (if true=true then k else 0) (if true=true then z else 0) (if true=true then ou else V) (if true=true then nu else 0) (if true=true then cu else 0) (if true=true then tl else 0) w->Q .normal {a0 with tmps:=((((((((((((((((((((a0.tmps.setIfInBounds 6 (nA (U (Z tb 2 V)))).setIfInBounds 7 (ny (U (Z bo off V)) n ct)).setIfInBounds 8 (nk nI ix)).setIfInBounds 9 (nA (U (Z bo (off+ix*4) V)))).setIfInBounds 10 (nD #[nk nI k,nk nI z,ny ou nu cu,nk nI tl])).setIfInBounds 11 (nk nI ix)).setIfInBounds 12 (nA (U (Z tb 2 V)))).setIfInBounds 13 (ny (U (Z bo off V)) n ct)).setIfInBounds 14 (nk nI n)).setIfInBounds 15 (nA (U (Z tb 3 V)))).setIfInBounds 16 (nk nI ta.tail)).setIfInBounds 17 (nk nI ((n:Int) - ta.tail))).setIfInBounds 18 (nC false)).setIfInBounds 19 (nC false)).setIfInBounds 20 (nA (U (Z rb 3 V)))).setIfInBounds 21 (Ci cb)).setIfInBounds 22 (nk nI ((r.t.size:Int) - r.p))).setIfInBounds 23 (nC (decide (r.p<r.t.size)))).setIfInBounds 24 (nC (decide (r.p<r.t.size)))).setIfInBounds 5 (nC (decide (r.p<r.t.size))))} w):
  (ll id Fq.toArray true).wp jI Q a0 O:=by
 refine og 21 25 (XC g tb rb cb lb fb r ta bo off n ct w0 ix k z ou nu cu tl) nN hsz nN (.inl rfl) nN ?_ ?_ ?_;.exact qB
 .refine rM λA au=> ?_
  clear hI0 Y hsz;replace ht1:=jH ht1;replace ht0:=jH ht0;replace hin:=jH hin;replace hn:=jH hn;replace hel:=jH hel;replace htl:=jH htl;replace hb:=jH hb;replace ht2:=jH ht2;replace hok:=jH hok;replace EU:=jH EU;replace hlt:=jH hlt;dsimp+instances only[Fq,cO,cL,cR,cB,Tryz.f251];simp only[ky,kL,qW];refine⟨?_,?_,?_,?_,?_,?_,?_,?_,?_,?_,?_,?_,?_,?_,?_,?_,?_,?_,?_,?_,?_,trivial⟩<;>(intro D vs a w K hI hd E hw2 C hK;subst au;dsimp+instances only[Fq,cO,cL,cR,cB,Tryz.f251]);have e1:=(C 1 nO).trans ht1.out;rotate_left;have av:=fe C hI.val E 6 0;simp only[si]at av;have c0:=hI.oH.tb.c2;rotate_left;have ax:=(C 0 nO).trans ht0.out;rotate_left;have hin:=hin.out;have hn:=hn.out;have aI:=fe C hI.val E 7 1;have aJ:=fe C hI.val E 8 2;rotate_left;have hel:=hel.out;have ay:=fe C hI.val E 9 3;simp only[si]at ay;obtain⟨c0,c1,c2,c3⟩:=hel w hI.oH.pR;rotate_left;have ax:=(C 0 nO).trans ht0.out;rotate_left;have e1:=(C 1 nO).trans ht1.out;rotate_left;have aa:=fe C hI.val E 12 6;simp only[si]at aa;have c0:=hI.oH.tb.c2;rotate_left;have aA:=fe C hI.val E 13 7;rotate_left;have e1:=(C 1 nO).trans ht1.out;rotate_left;have ae:=fe C hI.val E 15 9;simp only[si]at ae;have c0:=hI.oH.tb.c3;rotate_left;have htl:=htl.out;have hn:=hn.out;have af:=fe C hI.val E 14 8;have ag:=fe C hI.val E 16 10;simp only[si]at af ag;have aB:IntKind.i64.wrap ((n:Int) - ta.tail)=(n:Int) - ta.tail:=IntWalk.i64_in _ nL;rotate_left;have hb:=hb.out;have aC:=fe C hI.val E 11 5;have aD:=fe C hI.val E 17 11;rotate_left;have aF:=fe C hI.val E 18 12;rotate_left;have e2:=(C 2 nO).trans ht2.out;have I:=fe C hI.val E 19 13;simp only[si]at I;have J:=uq I;rotate_left;have ah:=fe C hI.val E 20 14;have I:=fe C hI.val E 19 13;simp only[si]at ah I;have J:=uq I;have c0:=hI.oH.rb.cell 3;simp only[EJ,jO,jN,jM]at c0;rotate_left
  .have hok:=hok.out
   have N:=fe C hI.val E 21 15;have I:=fe C hI.val E 19 13;simp only[si]at N I;have J:=uq I;have az:=Es cb r w hok hI.oH.rd;unfold Ci at N;go_simp;refine az.mono ?_;rintro e aK ⟨rfl,m,rfl⟩;exact hK (si tb rb cb r ta bo off n ct ix k z ou nu cu tl 16) _ _ rfl (XD hI (i:=16) nO λh=>h.drewN m)
  have ai:=fe C hI.val E 22 16;have I:=fe C hI.val E 19 13;simp only[si]at ai I;have J:=uq I;rotate_left;have I:=fe C hI.val E 19 13;have aG:=fe C hI.val E 23 17;rotate_left
  .have hlt:=hlt.out
   have e4:=(C 4 nO).trans EU.out;have aj:=fe C hI.val E 10 4;simp only[si]at aj;exact XB
  have aH:=fe C hI.val E 24 18;rotate_left
  all_goals
   try simp only[si]at*
   go_simp;exact hK _ _ _ rfl ⟨hI.oH,uK hI.val⟩
 .intro D vs w ak hI
  have E:=hI.oH;rw[ak 19 nO]at E;have q:=Y vs w E;rw[oW hI.val ak];dsimp+instances only[Fq,cO,cL,cR,cB,Tryz.f251];exact qH
end
theorem a1c(tb rb cb lb fb ix:Nat)(r:RS)(ta:TL)(y:nM TL)(ot:Option lH)(n ct:Nat)(s:List (nM TL))(Q:Nat->Prop)(w:jJ)(ht:nP w tb #[nk nI ta.kind,nk nI ta.size,ny ot n ct,nk nI ta.tail] rU)(O:nP w rb (EJ cb lb fb) EZ)(C:vW w cb r)(hok:r.Ok)(hs:oh.nX w Q (ny ot n ct) s)(ak:s[ix]? =U y)(hn:s.length<=100000)(htl:0<=ta.tail/\ta.tail<=100000):
  jV jI 251 #[nk nI ix,nA (U (Z tb 0 V)),nA (U (Z rb 0 V))] w (D8 Q y (decide ((ix:Int)<s.length - ta.tail)||decide (r.p<r.t.size)) w):=by
 obtain⟨aB,ax,ay,aC,aD,_⟩:=Shape.nX.get hs;have hlen:ix<s.length:=(lF.1 ak).1;cases ay;obtain⟨b,off,ou,cu,rfl,hb,az,c0,c1,c2,c3,I⟩:=R4 hs ak;obtain⟨g,hg⟩:=nV w.heap.size;have au:=jH (XA hg);have A:b<g:=hg▸hb;have hlt:tb<g/\rb<g/\cb<g:=⟨hg▸ht.lt,hg▸O.lt,hg▸nP.lt C⟩;have J:=jH (λW (h:jS g w W)=>(Shape.nX.below I (hg.symm▸h):oh.nX W Q (ny ou y.sub.length cu) y.sub));have Y:jX (∀W,jS g w W->W.cell? (Z b (off+ix*4) V)=U (nk nI y.lab.kind)/\W.cell? (Z b (off+ix*4+1) V)=U (nk nI y.lab.size)/\W.cell? (Z b (off+ix*4+2) V)=U (ny ou y.sub.length cu)/\W.cell? (Z b (off+ix*4+3) V)=U (nk nI y.lab.tail)):=jH λW h=>
  ⟨(h.cell (p:=(Z b (off+ix*4) V)) A).trans c0,(h.cell (p:=(Z b (off+ix*4+1) V)) A).trans c1,(h.cell (p:=(Z b (off+ix*4+2) V)) A).trans c2,(h.cell (p:=(Z b (off+ix*4+3) V)) A).trans c3⟩
 have av:jX (∀W,jS g w W->nP W g #[nk nI 0,nk nI 0,ny V 0 0,nk nI 0] rU->LK g tb rb cb lb fb r ta (U (Z b off V)) s.length ct w 0 0 V 0 0 0 W):=jH λW h hk=>
  have ag:jS w.heap.size w W:=hg.symm▸h
  ⟨Below.blk ag ht ht.lt,Below.blk ag O O.lt,Below.blk ag C (nP.lt C),hk,h⟩
 unfold D8;rw[hg];clear ht O C hs I c0 c1 c2 c3 hb az A;generalize y.sub.length=M at*;generalize s.length=N at*;have aA:∀b0,jX (decide ((ix:Int)<(N:Int) - ta.tail)=b0)->decide ((ix:Int)<(N:Int) - ta.tail)=b0:=λ_ h=>h.out
 obtain⟨b0,hb0⟩:=nV (decide ((ix:Int)<(N:Int) - ta.tail));rw[hb0];have aa:=jH hb0;clear hb0 aA;go_in;go_upto_region 1 with fail;obtain⟨ae,af⟩:=au.out _ rfl;generalize w.alloc _=w1 at*;have E:=jH (av _ ae af);clear au ae af av;cases b0 with
 |true=>
  refine a1a (g:=g) (tb:=tb) (rb:=rb) (cb:=cb) (lb:=lb) (fb:=fb) (r:=r) (ta:=ta) (bo:=b) (off:=off) (n:=N) (ct:=ct) (w0:=w) (ix:=ix) (k:=y.lab.kind) (z:=y.lab.size) (ou:=ou) (nu:=M) (cu:=cu) (tl:=y.lab.tail) (ht0:=by rfl) (ht1:=by rfl) (ht2:=by rfl) (EU:=by rfl) (hsz:=by rfl) (hI0:=λ_=>E.drew) (hin:=hlen) (hn:=hn) (hel:=Y.out) (htl:=htl) (hb:=aa.out) (hlt:=hlt) ?_;intro vs W hI;simp only[if_true]at hI;clear E;simp only[jL,jQ,jR];obtain⟨⟨ah,ai,d2,aj⟩,_⟩:=oG hI.rs;go_wp2_with fail;refine jZ (v:=nE #[nD #[nk nI y.lab.kind,nk nI y.lab.size,ny ou M cu,nk nI y.lab.tail],nC true]) (by simp[kQ,Tryz.results251,go_sem,ah,ai,d2,aj]) rfl ?_;exact⟨ou,cu,rfl,J _ hI.pR,hI.pR⟩
 |false=>
  refine a1b (g:=g) (tb:=tb) (rb:=rb) (cb:=cb) (lb:=lb) (fb:=fb) (r:=r) (ta:=ta) (bo:=b) (off:=off) (n:=N) (ct:=ct) (w0:=w) (ix:=ix) (k:=y.lab.kind) (z:=y.lab.size) (ou:=ou) (nu:=M) (cu:=cu) (tl:=y.lab.tail) (ht0:=by rfl) (ht1:=by rfl) (ht2:=by rfl) (EU:=by rfl) (hsz:=by rfl) (hI0:=λ_=>E.drew) (hin:=hlen) (hn:=hn) (hel:=Y.out) (htl:=htl) (hb:=aa.out) (hlt:=hlt) (hok:=hok) ?_;intro vs W hI;simp only[if_true]at hI;clear E;simp only[jL,jQ,jR];obtain⟨⟨ah,ai,d2,aj⟩,_⟩:=oG hI.rs;go_wp2_with fail;refine jZ (v:=nE #[nD #[nk nI y.lab.kind,nk nI y.lab.size,ny ou M cu,nk nI y.lab.tail],nC (decide (r.p<r.t.size))]) (by simp[kQ,Tryz.results251,go_sem,ah,ai,d2,aj]) rfl ?_;exact⟨ou,cu,rfl,J _ hI.pR,hI.pR⟩
end
end Go.Proofs.YtamfcjmhnndbdaaGreatDoor


