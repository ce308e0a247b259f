/- Part 17 of the proof. -/
import Derived.Test.YtamfcjmhnndbdaaGreatDoorZm08
import Derived.Test.YtamfcjmhnndbdaaGreatDoorZm09
import Derived.Test.YtamfcjmhnndbdaaGreatDoorZm00
import Derived.Test.YtamfcjmhnndbdaaGreatDoorZm03
import Derived.Test.YtamfcjmhnndbdaaGreatDoorZm04
import Derived.Test.YtamfcjmhnndbdaaGreatDoorZm13
import Derived.Test.YtamfcjmhnndbdaaGreatDoorZm14
import Derived.Test.YtamfcjmhnndbdaaGreatDoorZm16
import Derived.Laws.CopyOwn
import Derived.Lib.Strings
import Derived.DeepKeys4
open Go.Value renaming agg→nD,bool→nC,int→nk,pointer→nA,slice→ny,string→nz,tuple→nE,ownBlock→kJ,int→lQ
open Go.Obj renaming cells→nH
open Go.IntKind renaming i64→nI,u32→nK,u64→nJ
open Go.Ending renaming returned→nG
open Go.Lib renaming hid→jH,strCells→mD
open Go.Proofs.Tryz renaming prog→jI,underlying86→l6,underlying9→mH
open Go renaming World→jJ,Value→jP,Calls→jV,maxLen→j3,TypeId→ko,undef→kI,Addr→lH,Oper→lY,Program→ma,wpQuiet_nil→mK
open Nat renaming le_refl→jK,le_trans→jY,zero_le→kH,add_assoc→kR,le_succ→kV,lt_succ_self→lK
open List renaming setIfInBounds_toArray→jL,getElem?_cons_succ→jM,getElem?_cons_zero→jN,getElem?_toArray→jO,set_cons_zero→jQ,set_cons_succ→jR,getElem?_eq_getElem→jW,length_append→j5,take_succ_cons→ky,take_zero→kL,length_drop→kX,replicate→lh,getD_eq_getElem?_getD→lL,range→l5,length_take→mi,append_assoc→mG,size_toArray→mP,map_cons→mQ,length_eq_zero_iff→mU,drop_succ_cons→mW,take_append_drop→ng
open Go.RowKit renaming Below→jS,Hid→jX,intOf→kT
open Go.RowKit.Below renaming refl→jT
open And renaming intro→jU
open Bool renaming and_eq_true→j4
open UInt8 renaming ofNat→kg,toNat_inj→lX
open Array renaming getElem?_eq_some_iff→ku,length_toList→kY
open Go.Act renaming put→kE
open Go.Instr renaming index→kS
open Go.Code renaming region→ll
open Go.Lit renaming int→lI
open Go.Sem renaming run→l7
open Option.some renaming inj→l8,injEq→mF
open Go.World renaming cell?→mI
open Option renaming none→V,some→U
open Go.Addr renaming mk→Z
namespace Go.Proofs.YtamfcjmhnndbdaaGreatDoor
set_option linter.unusedVariables false
set_option linter.unusedSimpArgs false
set_option maxRecDepth 100000
set_option maxHeartbeats 8000000
variable {a0:Act}{ops:Array lY}
section
open Go.RowKit Go.Maps
def SG(W:jJ)(b:Nat)(x y z:jP):jJ:=((W.setCell (Z b 0 V) x).setCell (Z b 1 V) y).setCell (Z b 2 V) z
theorem YW(W:jJ)(b:Nat)(x y z:jP):((W.setCell (Z b 0 V) x).setCell (Z b 1 V) y).setCell (Z b 2 V) z=SG W b x y z:=rfl
theorem U9{W:jJ}{b:Nat}{x y z A C E:jP}{t:ko}(h:nP W b #[x,y,z] t):nP (SG W b A C E) b #[A,C,E] t:=((h.set 0 A).set 1 C).set 2 E
theorem EM{B b:Nat}{w0 W:jJ}{x y z:jP}(h:jS B w0 W)(hb:B<=b):jS B w0 (SG W b x y z):=
 ((h.setCell (p:=(Z b 0 V)) hb x).setCell (p:=(Z b 1 V)) hb y).setCell (p:=(Z b 2 V)) hb z
structure Qy(Bs:jJ->Prop)(lim:Nat)(x y z:jP)(da ds:Bool)(va:jP)(W:jJ):Prop where
 bs:Bs W
 al:da=true->∃b,va=nA (U (Z b 0 V))/\lim<=b/\nP W b (if ds=true then#[x,y,z]else zf3) rq
 lt:lim<=W.heap.size
theorem SH{p:Prop}(h:p:=by
 refine⟨qN _ _ h.bs (hb.mono h.lt),λhd=> ?_,jY h.lt hb.size⟩;obtain⟨b,e,hl,hB⟩:=h.al hd;exact⟨b,e,hl,Below.blk hb hB hB.lt⟩):p:=h
theorem Qy.below{Bs:jJ->Prop}{lim:Nat}{x y z:jP}{da ds:Bool}{va:jP}{W A:jJ}(qN:∀W A,Bs W->jS lim W A->Bs A)(h:Qy Bs lim x y z da ds va W)(hb:jS W.heap.size W A):Qy Bs lim x y z da ds va A:=by
 exact SH
theorem Qy.made{Bs:jJ->Prop}{lim:Nat}{x y z va:jP}{W:jJ}(qN:∀W A,Bs W->jS lim W A->Bs A)(h:Qy Bs lim x y z false false va W):Qy Bs lim x y z true false (nA (U (Z W.heap.size 0 V))) (W.alloc (nH zf3 rq)):=
 ⟨qN _ _ h.bs ((jT lim W).alloc h.lt _),λ_=>⟨_,rfl,h.lt,nP.new W zf3 rq⟩,by have:=h.lt;simp;omega⟩
theorem Qy.fill{Bs:jJ->Prop}{lim:Nat}{x y z va:jP}{W:jJ}(qN:∀W A,Bs W->jS lim W A->Bs A)(h:Qy Bs lim x y z true false va W):∃b,va=nA (U (Z b 0 V))/\nP W b zf3 rq/\Qy Bs lim x y z true true va (SG W b x y z):=by
 obtain⟨b,e,hl,hB⟩:=h.al rfl;have hB:nP W b zf3 rq:=hB;exact⟨b,e,hB,qN _ _ h.bs (EM (jT lim W) hl),λ_=>⟨b,e,hl,U9 hB⟩,jY h.lt (EM (jT lim W) hl).size⟩
noncomputable def Lg:List lY:=cO (cL (cR (cR (cB Tryz.f15))))
section
variable (g sb r:Nat)(nm tx:ByteArray)(li:Bool)(oi:Option lH)(ni ci:Nat)(F:vP)(er:Int)(lim:Nat)(Bs:jJ->Prop)
def Ad:Nat->jP
 |0=> nA (U (Z sb 0 V))
 |1=> nA (U (Z sb 0 V))
 |2=> nA (U (Z sb 0 V))
 |3=> nA (U (Z r 0 V))
 |4=> nD #[nz nm,nz tx,nC li,ny oi ni ci]
 |5=> nE #[nD #[nk nJ F.id,nz F.name,nz F.body],nk nI er]
 |6=> nE #[nD #[nk nJ F.id,nz F.name,nz F.body],nk nI er]
 |7=> nD #[nk nJ F.id,nz F.name,nz F.body]
 |8=> nk nI er
 |11=> nk nI er
 |_=>kI
structure a4F(D:Nat->Bool)(vs:Nat->jP)(w:jJ):Prop where
 oH:Qy Bs lim (nk nJ F.id) (nz F.name) (nz F.body) (D 9) (D 10) (vs 9) w
 val:∀j,(j !=9)=true->D j=true->vs j=Ad sb r nm tx li oi ni ci F er j
variable {g sb r nm tx li oi ni ci F er lim Bs}
theorem a1X{D:Nat->Bool}{vs:Nat->jP}{w w':jJ}(h:a4F sb r nm tx li oi ni ci F er lim Bs D vs w){i:Nat}(hi:i≠9/\i≠10)(A:Qy Bs lim (nk nJ F.id) (nz F.name) (nz F.body) (D 9) (D 10) (vs 9) w->Qy Bs lim (nk nJ F.id) (nz F.name) (nz F.body) (D 9) (D 10) (vs 9) w'):a4F sb r nm tx li oi ni ci F er lim Bs (zm D i) (zn vs i (Ad sb r nm tx li oi ni ci F er i)) w':=by
 refine⟨?_,uK h.val⟩;rw[nR D (show 9≠i by omega)];rw[nR D (show 10≠i by omega)];rw[om vs (Ad sb r nm tx li oi ni ci F er i) (show 9≠i by omega)];exact A h.oH
theorem a4G{id:Nat}{Q:Exit->Act->jJ->Prop}{Y:jJ}(ht0:a0.tmps.getD 0 kI=nA (U (Z sb 0 V)))(hb0:∀W,Bs W->W.cell? (Z sb 0 V)=U (nA (U (Z r 0 V))))(ht3:a0.tmps.getD 3 kI=nA (U (Z g 0 V)))(Ut:∀W,Bs W->nP W g #[nz nm,nz tx,nC li,ny oi ni ci] zq)(qN:∀W J,Bs W->jS lim W J->Bs J)(henc:∀W,Bs W->jV jI 36 #[nA (U (Z r 0 V)),nD #[nz nm,nz tx,nC li,ny oi ni ci]] W λe J=>e=nG (nE #[nD #[nk nJ F.id,nz F.name,nz F.body],nk nI er])/\jS W.heap.size W J)(hsz:a0.tmps.size=44)(hI0:∀vs:Nat->jP,(λw=>Qy Bs lim (nk nJ F.id) (nz F.name) (nz F.body) false false (vs 9) w) Y.drew)(aa:∀(vs:Nat->jP) (w:jJ),Qy Bs lim (nk nJ F.id) (nz F.name) (nz F.body) true true (vs 9) w->Q .normal {a0 with tmps:=(((((((((((a0.tmps.setIfInBounds 12 (nA (U (Z sb 0 V)))).setIfInBounds 13 (nA (U (Z sb 0 V)))).setIfInBounds 14 (nA (U (Z sb 0 V)))).setIfInBounds 15 (nA (U (Z r 0 V)))).setIfInBounds 16 (nD #[nz nm,nz tx,nC li,ny oi ni ci])).setIfInBounds 17 (nE #[nD #[nk nJ F.id,nz F.name,nz F.body],nk nI er])).setIfInBounds 11 (nE #[nD #[nk nJ F.id,nz F.name,nz F.body],nk nI er])).setIfInBounds 18 (nD #[nk nJ F.id,nz F.name,nz F.body])).setIfInBounds 19 (nk nI er)).setIfInBounds 6 (vs 9)).setIfInBounds 7 (nk nI er))} w):
  (ll id Lg.toArray true).wp jI Q a0 Y:=by
 refine og 12 44 (a4F sb r nm tx li oi ni ci F er lim Bs) nN hsz nN (.inl rfl) nN ?_ ?_ ?_;.exact qB
 .refine rM λA ak=> ?_
  clear hI0 aa hsz;replace ht0:=jH ht0;replace hb0:=jH hb0;replace ht3:=jH ht3;replace Ut:=jH Ut;replace qN:=jH qN;replace henc:=jH henc;dsimp+instances only[Lg,cO,cL,cR,cB,Tryz.f15];simp only[ky,kL,qW];refine⟨?_,?_,?_,?_,?_,?_,?_,?_,?_,?_,?_,?_,trivial⟩<;>(intro D vs a w K hI hd E hw2 C N;subst ak;dsimp+instances only[Lg,cO,cL,cR,cB,Tryz.f15]);have aD:=(C 0 nO).trans ht0.out;rotate_left;have az:=fe C hI.val E 12 0;rotate_left;have aA:=fe C hI.val E 13 1;rotate_left;have hb0:=hb0.out;have ae:=fe C hI.val E 14 2;simp only[Ad]at ae;have c0:=hb0 w hI.oH.bs;rotate_left;have Ut:=Ut.out;have e3:=(C 3 nO).trans ht3.out;have hB:=Ut w hI.oH.bs;obtain⟨c0,c1,c2,c3⟩:=hB.a4;clear hB;rotate_left
  .have qN:=qN.out
   have henc:=henc.out;have af:=fe C hI.val E 15 3;have ag:=fe C hI.val E 16 4;simp only[Ad]at af ag;have au:=henc w hI.oH.bs;clear henc;rw[if_pos (by rfl)];go_simp;refine au.mono ?_;rintro e aF ⟨rfl,hb⟩;exact N (Ad sb r nm tx li oi ni ci F er 5) _ _ rfl (a1X hI (i:=5) nO λh=>h.below qN hb)
  have aB:=fe C hI.val E 17 5;rotate_left;have ah:=fe C hI.val E 11 6;rotate_left;have ah:=fe C hI.val E 11 6;rotate_left
  .have qN:=qN.out
   have I:=hI.oH;have d10:=hw2 10 nO nN;rw[hd,d10]at I;go_simp;refine N (nA (U (Z w.heap.size 0 V))) _ _ rfl ⟨?_,KG rfl hI.val⟩;rw[oo,nR D (show 10≠9 by decide),pG,d10];exact I.made qN
  .have qN:=qN.out
   have d9:=E 9 nO nN;have ai:a.tmps.getD 6 kI=vs 9:=C 6 nO;have aj:=fe C hI.val E 18 7;simp only[Ad]at aj;have I:=hI.oH;rw[d9,hd]at I;obtain⟨b,ev,hB,av⟩:=I.fill qN;have ai:=ai.trans ev;have z0:=hB.cell 0;have ax:=hB.cell 1;have ay:=hB.cell 2;obtain⟨aG,f1,f2⟩:=hB.f3;simp only[zf3,jO,jN,jM]at z0 ax ay;go_simp;rw[YW];refine N kI _ _ rfl ⟨?_,uK hI.val⟩;rw[oo,nR D (show 9≠10 by decide),om vs _ (show 9≠10 by decide),d9];exact av
  have aC:=fe C hI.val E 19 8;rotate_left
  all_goals
   try simp only[Ad]at*
   go_simp;exact N _ _ _ rfl ⟨hI.oH,uK hI.val⟩
 .intro D vs w O hI
  have E:=hI.oH;rw[O 9 nO]at E;rw[O 10 nO]at E;have q:=aa vs w E;rw[oW hI.val O];dsimp+instances only[Lg,cO,cL,cR,cB,Tryz.f15];exact qH
end
noncomputable def Lh:List lY:=cO (cL (cR (cR (cR (cR (cB Tryz.f15))))))
section
variable (sb r fb:Nat)(c:oF)(F:vP)(T:ByteArray)(er:Int)(Bs:jJ->Prop)
def Ae:Nat->jP
 |0=> nA (U (Z sb 0 V))
 |1=> nA (U (Z sb 0 V))
 |2=> nA (U (Z sb 0 V))
 |3=> nA (U (Z r 0 V))
 |4=> nD #[nk nI c.fmt,nk nK c.mag,nk nI c.pF,nk nI c.qc,nk nI c.dep,nk nI c.oV]
 |5=> nD #[nk nJ F.id,nz F.name,nz F.body]
 |6=> nE #[nz T,nk nI er]
 |7=> nE #[nz T,nk nI er]
 |8=> nz T
 |9=> nk nI er
 |10=> nz T
 |11=> nk nI er
 |_=>kI
structure a4H(D:Nat->Bool)(vs:Nat->jP)(w:jJ):Prop where
 oH:Bs w
 val:∀j,(true)=true->D j=true->vs j=Ae sb r c F T er j
variable {sb r fb c F T er Bs}
theorem SI{D:Nat->Bool}{vs:Nat->jP}{w w':jJ}(h:a4H sb r c F T er Bs D vs w){i:Nat}(hi:True)(A:Bs w->Bs w'):a4H sb r c F T er Bs (zm D i) (zn vs i (Ae sb r c F T er i)) w':=by
 refine⟨?_,uK h.val⟩;exact A h.oH
theorem a4I{id:Nat}{Q:Exit->Act->jJ->Prop}{O:jJ}(ht0:a0.tmps.getD 0 kI=nA (U (Z sb 0 V)))(hb0:∀W,Bs W->W.cell? (Z sb 0 V)=U (nA (U (Z r 0 V))))(qN:∀W I,Bs W->jS W.heap.size W I->Bs I)(Qz:∀W,Bs W->jV jI 38 #[nA (U (Z r 0 V))] W λe I=>e=nG (nD #[nk nI c.fmt,nk nK c.mag,nk nI c.pF,nk nI c.qc,nk nI c.dep,nk nI c.oV])/\jS W.heap.size W I)(Ay:a0.tmps.getD 6 kI=nA (U (Z fb 0 V)))(hbf:∀W,Bs W->nP W fb #[nk nJ F.id,nz F.name,nz F.body] rq)(hput:∀W,Bs W->jV jI 37 #[nD #[nk nI c.fmt,nk nK c.mag,nk nI c.pF,nk nI c.qc,nk nI c.dep,nk nI c.oV],nD #[nk nJ F.id,nz F.name,nz F.body]] W (pV T er W))(hsz:a0.tmps.size=44)(hI0:∀vs:Nat->jP,(λw=>Bs w) O.drew)(Y:∀(vs:Nat->jP) (w:jJ),Bs w->Q .normal {a0 with tmps:=((((((((((((a0.tmps.setIfInBounds 24 (nA (U (Z sb 0 V)))).setIfInBounds 25 (nA (U (Z sb 0 V)))).setIfInBounds 26 (nA (U (Z sb 0 V)))).setIfInBounds 27 (nA (U (Z r 0 V)))).setIfInBounds 28 (nD #[nk nI c.fmt,nk nK c.mag,nk nI c.pF,nk nI c.qc,nk nI c.dep,nk nI c.oV])).setIfInBounds 29 (nD #[nk nJ F.id,nz F.name,nz F.body])).setIfInBounds 30 (nE #[nz T,nk nI er])).setIfInBounds 23 (nE #[nz T,nk nI er])).setIfInBounds 31 (nz T)).setIfInBounds 32 (nk nI er)).setIfInBounds 8 (nz T)).setIfInBounds 7 (nk nI er))} w):
  (ll id Lh.toArray true).wp jI Q a0 O:=by
 refine og 12 44 (a4H sb r c F T er Bs) nN hsz nN (.inl rfl) nN ?_ ?_ ?_;.exact qB
 .refine rM λA ai=> ?_
  clear hI0 Y hsz;replace ht0:=jH ht0;replace hb0:=jH hb0;replace qN:=jH qN;replace Qz:=jH Qz;replace Ay:=jH Ay;replace hbf:=jH hbf;replace hput:=jH hput;dsimp+instances only[Lh,cO,cL,cR,cB,Tryz.f15];simp only[ky,kL,qW];refine⟨?_,?_,?_,?_,?_,?_,?_,?_,?_,?_,?_,?_,trivial⟩<;>(intro D vs a w K hI hd E hw2 C J;subst ai;dsimp+instances only[Lh,cO,cL,cR,cB,Tryz.f15]);have aA:=(C 0 nO).trans ht0.out;rotate_left;have au:=fe C hI.val E 24 0;rotate_left;have av:=fe C hI.val E 25 1;rotate_left;have hb0:=hb0.out;have aa:=fe C hI.val E 26 2;simp only[Ae]at aa;have c0:=hb0 w hI.oH;rotate_left
  .have qN:=qN.out
   have Qz:=Qz.out;have ae:=fe C hI.val E 27 3;simp only[Ae]at ae;have N:=Qz w hI.oH;clear Qz;rw[if_pos (by rfl)];go_simp;refine N.mono ?_;rintro e aj ⟨rfl,hb⟩;exact J (Ae sb r c F T er 4) _ _ rfl (SI hI (i:=4) nO λh=>qN _ _ h hb)
  have hbf:=hbf.out;have aB:=(C 6 nO).trans Ay.out;have hB:=hbf w hI.oH;obtain⟨c0,c1,c2⟩:=hB.a3;clear hB;rotate_left
  .have qN:=qN.out
   have hput:=hput.out;have af:=fe C hI.val E 28 4;have ag:=fe C hI.val E 29 5;simp only[Ae]at af ag;have N:=hput w hI.oH;clear hput;rw[if_pos (by rfl)];go_simp;refine N.mono ?_;rintro e aj ⟨rfl,hb⟩;exact J (Ae sb r c F T er 6) _ _ rfl (SI hI (i:=6) nO λh=>qN _ _ h hb)
  have ax:=fe C hI.val E 30 6;rotate_left;have ah:=fe C hI.val E 23 7;rotate_left;have ah:=fe C hI.val E 23 7;rotate_left;have ay:=fe C hI.val E 31 8;rotate_left;have az:=fe C hI.val E 32 9;rotate_left
  all_goals
   try simp only[Ae]at*
   go_simp;exact J _ _ _ rfl ⟨hI.oH,uK hI.val⟩
 .intro D vs w ak hI
  have E:=hI.oH;have q:=Y vs w E;rw[oW hI.val ak];dsimp+instances only[Lh,cO,cL,cR,cB,Tryz.f15];exact qH
end
def Ho(A:Int)(T:ByteArray)(C:Int):ByteArray×Int:=if A≠0 then(⟨#[]⟩,A)else if C≠0 then(⟨#[]⟩,C)else(T,0)
theorem zb.a9q{w0:jJ}{G:Nat->Prop}{sb r:Nat}{bv:jP}{buf:List UInt8}{nd fa la tt se:Int}{W:jJ}(h:zb w0 G sb r bv buf nd fa la tt se W)(x:Int):zb w0 G sb r bv buf nd fa la tt x (W.setCell (Z sb 6 V) (nk nI x)):=⟨h.ss.set 6 _,h.kp 6 _,h.bwp 6 _,h.lt,h.fr⟩
theorem Va(G:Nat->Prop)(sb r bn bi:Nat)(c:oF)(L:List oO)(buf:List UInt8)(nd fa:Int)(nm tx:ByteArray)(li:Bool)(oi:Option lH)(ni ci:Nat)(F:vP)(A C:Int)(T:ByteArray)(w:jJ)(hs:yV w G r sb buf nd fa)(aa:∀W,jS w.heap.size w W->qi r bn bi c L W)(henc:∀W,jS w.heap.size w W->jV jI 36 #[nA (U (Z r 0 V)),nD #[nz nm,nz tx,nC li,ny oi ni ci]] W λe aL=>e=nG (nE #[nD #[nk nJ F.id,nz F.name,nz F.body],nk nI A])/\jS W.heap.size W aL)(hput:A=0->∀W,jS w.heap.size w W->jV jI 37 #[nD #[nk nI c.fmt,nk nK c.mag,nk nI c.pF,nk nI c.qc,nk nI c.dep,nk nI c.oV],nD #[nk nJ F.id,nz F.name,nz F.body]] W (pV T C W)):
  jV jI 15 #[nA (U (Z sb 0 V)),nD #[nz nm,nz tx,nC li,ny oi ni ci]] w λe w'=>e=nG (nE #[nz (Ho A T C).1,nk nI (Ho A T C).2])/\yV w' G r sb buf nd fa/\qJ G w w':=by
 obtain⟨bv,la,tt,se,O,av,ae,af⟩:=hs;obtain⟨g,hg⟩:=nV w.heap.size;have aO:=jH (show zb w G sb r bv buf nd fa la tt se w from⟨O,av,qJ.refl G w,⟨ae,O.lt⟩,λb hb=> .inl (af b hb)⟩);have I:=jH (jU ae af);have ax:jX (∀W,w.alloc (nH #[nz nm,nz tx,nC li,ny oi ni ci] zq)=W->jS g w W/\nP W g #[nz nm,nz tx,nC li,ny oi ni ci] zq/\W.heap.size=g+1):=jH λW hW=>by
  exact SB
 have aP:=jH O;have aG:=jH henc;have aH:=jH hput;have aI:=jH aa;have aQ:jX (sb<g):=jH (hg▸O.lt);obtain⟨aR,ag⟩:=nV (Ho A T C);have ah:=jH ag;rw[ag];obtain⟨RT,aJ⟩:=aR;dsimp only;clear O av ae af aa henc hput ag;go_in;go_upto_region 3 with fail;obtain⟨ay,az,aA⟩:=ax.out _ rfl;generalize w.alloc _=w1 at*;have Y:=jH (jU ay (jU az aA));clear ax ay az aA;have ai:∀W,jS (g+1) w1 W->jS g w W:=λW hW=>Y.1.trans (hW.mono (kV g))
 have aj:∀W,jS (g+1) w1 W->nP W sb (Ee r bv nd fa la tt se) Jt:=λW hW=>Below.blk (ai W hW) aP aQ.out
 have hb0:∀W,jS (g+1) w1 W->W.cell? (Z sb 0 V)=U (nA (U (Z r 0 V))):=λW hW=>(aj W hW).cell 0
 have Ut:∀W,jS (g+1) w1 W->nP W g #[nz nm,nz tx,nC li,ny oi ni ci] zq:=λW hW=>Below.blk hW Y.2.1 (lK g)
 have ak:Qy (jS (g+1) w1) (g+1) (nk nJ F.id) (nz F.name) (nz F.body) false false kI w1.drew:=⟨(oC w1).mono (by rw[Y.2.2];exact jK _),(λh=>by cases h),by rw[<-Y.2.2];exact(oC w1).size⟩;have au:=jH ai;refine a4G (g:=g) (sb:=sb) (r:=r) (nm:=nm) (tx:=tx) (li:=li) (oi:=oi) (ni:=ni) (ci:=ci) (F:=F) (er:=A) (lim:=g+1) (Bs:=jS (g+1) w1) (ht0:=by rfl) (ht3:=by rfl) (hb0:=hb0) (Ut:=Ut) (qN:=λ_ _ h hb=>h.trans hb) (henc:=λW hW=>aG.out W (hg.symm▸au.out W hW)) (hsz:=by rfl) (hI0:=λ_=>⟨ak.bs,(λh=>by cases h),ak.lt⟩) ?_;intro vs N hF;obtain⟨fb,ev,aM,aB⟩:=hF.al rfl;have aC:zb w G sb r bv buf nd fa la tt se N:=aO.below (hg.symm▸au.out N hF.bs);have E:=jH (jU hF.bs (jU (aB:nP N fb #[nk nJ F.id,nz F.name,nz F.body] rq) (jU aC hF.lt)));clear hF aM aB aC ak ai aj hb0 Ut;simp only[jL,jQ,jR];rw[ev];by_cases h1:A=0
 .subst h1
  go_upto_region 6 with fail;have aD:∀W,jS N.heap.size N W->jS g w W:=λW hW=>(au N E.1).trans (hW.mono (by have:=E.2.2.2;omega))
  have aF:=jH aD;refine a4I (sb:=sb) (r:=r) (fb:=fb) (c:=c) (F:=F) (T:=T) (er:=C) (Bs:=jS N.heap.size N) (ht0:=by rfl) (Ay:=by rfl) (hb0:=λW hW=>(Below.blk hW E.2.2.1.ss E.2.2.1.ss.lt).cell 0) (qN:=λW aL h hb=>h.trans (hb.mono h.size)) (Qz:=λW hW=>G7 r bn bi c L W (aI W (hg.symm▸aF.out W hW))) (hbf:=λW hW=>Below.blk hW E.2.1 E.2.1.lt) (hput:=λW hW=>aH.out rfl W (hg.symm▸aF.out W hW)) (hsz:=by rfl) (hI0:=λ_=>oC N) ?_;intro aS aT aN;have J:=jH (E.2.2.1.below aN);clear aN aD;simp only[jL,jQ,jR];by_cases h2:C=0
  .subst h2
   have Q:jX (RT=T/\aJ=0):=jH (by have:=ah.out;unfold Ho at this;rw[if_neg nS,if_neg nS]at this;injection this with a b;exact⟨a.symm,b.symm⟩);have c6:=J.ss.cell 6;have aU:=J.ss.free 6;simp only[Ee,jO,jN,jM]at c6;go_wp2_with fail;try go_returns
   refine⟨by rw[Q.1,Q.2];rfl,?_⟩;have aK:=λx=>J.a9q x
   exact⟨⟨_,_,_,_,(aK _).ss,(aK _).ob,I.1,I.2⟩,(aK _).bw⟩
  .have aV:(C !=0)=true:=by simp[h2]
   have Q:jX (RT=⟨#[]⟩/\aJ=C):=jH (by have:=ah.out;unfold Ho at this;rw[if_neg nS,if_pos h2]at this;injection this with a b;exact⟨a.symm,b.symm⟩);clear h2;go_wp2_with fail;try go_returns
   exact⟨by rw[Q.1,Q.2];rfl,⟨_,_,_,_,J.ss,J.ob,I.1,I.2⟩,J.bw⟩
 .have aW:(A !=0)=true:=by simp[h1]
  have Q:jX (RT=⟨#[]⟩/\aJ=A):=jH (by have:=ah.out;unfold Ho at this;rw[if_pos h1]at this;injection this with a b;exact⟨a.symm,b.symm⟩);clear h1;go_wp2_with fail;try go_returns
  exact⟨by rw[Q.1,Q.2];rfl,⟨_,_,_,_,E.2.2.1.ss,E.2.2.1.ob,I.1,I.2⟩,E.2.2.1.bw⟩
theorem YX{G:Nat}{w W:jJ}(k:qJ (λb=>G<=b) w W)(C:G<=w.heap.size):jS G w W:=k.below (λc hc A=>by have A:G<=c:=A;omega) C
end
section
open Go.RowKit
abbrev WfT:ko:=141
def Vb:Array jP:=#[.nilFunc,.nilFunc,.nilFunc,.nilFunc]
structure SK(Bs:jJ->Prop)(lim:Nat)(x y z u:jP)(da ds:Bool)(va:jP)(W:jJ):Prop where
 bs:Bs W
 al:da=true->∃b,va=nA (U (Z b 0 V))/\lim<=b/\nP W b (if ds=true then#[x,y,z,u]else Vb) WfT
 lt:lim<=W.heap.size
section
variable {Bs:jJ->Prop}{lim:Nat}{x y z u:jP}{da ds:Bool}{va:jP}{W W':jJ}
theorem SK.below(qN:∀W W',Bs W->jS lim W W'->Bs W')(h:SK Bs lim x y z u da ds va W)(hb:jS W.heap.size W W'):SK Bs lim x y z u da ds va W':=by
 exact SH
theorem SK.made(qN:∀W W',Bs W->jS lim W W'->Bs W')(h:SK Bs lim x y z u false false va W):SK Bs lim x y z u true false (nA (U (Z W.heap.size 0 V))) (W.alloc (nH Vb WfT)):=
 ⟨qN _ _ h.bs ((jT lim W).alloc h.lt _),λ_=>⟨_,rfl,h.lt,nP.new W Vb WfT⟩,by have:=h.lt;simp;omega⟩
theorem SK.fill(qN:∀W W',Bs W->jS lim W W'->Bs W')(h:SK Bs lim x y z u true false va W):∃b,va=nA (U (Z b 0 V))/\nP W b Vb WfT/\SK Bs lim x y z u true true va (yO W b x y z u):=by
 obtain⟨b,e,hl,hB⟩:=h.al rfl;have hB:nP W b Vb WfT:=hB;exact⟨b,e,hB,qN _ _ h.bs (tT (jT lim W) hl),λ_=>⟨b,e,hl,rD hB⟩,jY h.lt (tT (jT lim W) hl).size⟩
end
noncomputable def FI:List lY:=cO (cL (cR (cR (cB Tryz.f37))))
section
variable (g:Nat)(c:oF)(f1 f2 f3 f4:FuncId)(lim:Nat)(Bs:jJ->Prop)
def yX:Nat->jP
 |0=> nD zi
 |1=> nA (U (Z g 0 V))
 |2=> nk nI c.fmt
 |3=> nD #[.func (.func f1) #[] #[],.func (.func f2) #[] #[],.func (.func f3) #[] #[],.func (.func f4) #[] #[]]
 |_=>kI
structure YY(D:Nat->Bool)(vs:Nat->jP)(w:jJ):Prop where
 oH:SK Bs lim (.func (.func f1) #[] #[]) (.func (.func f2) #[] #[]) (.func (.func f3) #[] #[]) (.func (.func f4) #[] #[]) (D 4) (D 5) (vs 4) w
 val:∀j,(j !=4)=true->D j=true->vs j=yX g c f1 f2 f3 f4 j
variable {g c f1 f2 f3 f4 lim Bs}
theorem YZ{D:Nat->Bool}{vs:Nat->jP}{w w':jJ}(h:YY g c f1 f2 f3 f4 lim Bs D vs w){i:Nat}(hi:i≠4/\i≠5)(A:SK Bs lim (.func (.func f1) #[] #[]) (.func (.func f2) #[] #[]) (.func (.func f3) #[] #[]) (.func (.func f4) #[] #[]) (D 4) (D 5) (vs 4) w->SK Bs lim (.func (.func f1) #[] #[]) (.func (.func f2) #[] #[]) (.func (.func f3) #[] #[]) (.func (.func f4) #[] #[]) (D 4) (D 5) (vs 4) w'):YY g c f1 f2 f3 f4 lim Bs (zm D i) (zn vs i (yX g c f1 f2 f3 f4 i)) w':=by
 refine⟨?_,uK h.val⟩;rw[nR D (show 4≠i by omega)];rw[nR D (show 5≠i by omega)];rw[om vs (yX g c f1 f2 f3 f4 i) (show 4≠i by omega)];exact A h.oH
theorem a1Y{id:Nat}{Q:Exit->Act->jJ->Prop}{O:jJ}(qN:∀W Y,Bs W->jS lim W Y->Bs Y)(ht2:a0.tmps.getD 2 kI=nA (U (Z g 0 V)))(hbc:∀W,Bs W->W.cell? (Z g 0 V)=U (nk nI c.fmt))(hix:∀W,l7 jI (kS 142 (nD zi) (nk nI c.fmt)) W=.ok (nD #[.func (.func f1) #[] #[],.func (.func f2) #[] #[],.func (.func f3) #[] #[],.func (.func f4) #[] #[]]) W)(hsz:a0.tmps.size=48)(hI0:∀vs:Nat->jP,(λw=>SK Bs lim (.func (.func f1) #[] #[]) (.func (.func f2) #[] #[]) (.func (.func f3) #[] #[]) (.func (.func f4) #[] #[]) false false (vs 4) w) O.drew)(aa:∀(vs:Nat->jP) (w:jJ),SK Bs lim (.func (.func f1) #[] #[]) (.func (.func f2) #[] #[]) (.func (.func f3) #[] #[]) (.func (.func f4) #[] #[]) true true (vs 4) w->Q .normal {a0 with tmps:=(((((a0.tmps.setIfInBounds 15 (nD zi)).setIfInBounds 16 (nA (U (Z g 0 V)))).setIfInBounds 17 (nk nI c.fmt)).setIfInBounds 18 (nD #[.func (.func f1) #[] #[],.func (.func f2) #[] #[],.func (.func f3) #[] #[],.func (.func f4) #[] #[]])).setIfInBounds 6 (vs 4))} w):
  (ll id FI.toArray true).wp jI Q a0 O:=by
 refine og 6 48 (YY g c f1 f2 f3 f4 lim Bs) nN hsz nN (.inl rfl) nN ?_ ?_ ?_;.exact qB
 .refine rM λA aj=> ?_
  clear hI0 aa hsz;replace qN:=jH qN;replace ht2:=jH ht2;replace hbc:=jH hbc;replace hix:=jH hix;dsimp+instances only[FI,cO,cL,cR,cB,Tryz.f37];simp only[ky,kL,qW];refine⟨?_,?_,?_,?_,?_,?_,trivial⟩<;>(intro D vs a w K hI hd E hw2 C J;subst aj;dsimp+instances only[FI,cO,cL,cR,cB,Tryz.f37])
  .have qN:=qN.out
   have ak:=Cw w;rw[if_pos (by rfl)];go_simp;refine ak.mono ?_;rintro e ay ⟨rfl,hb⟩;exact J (yX g c f1 f2 f3 f4 0) _ _ rfl (YZ hI (i:=0) nO λh=>h.below qN hb)
  have e2:=(C 2 nO).trans ht2.out;rotate_left;have hbc:=hbc.out;have ae:=fe C hI.val E 16 1;simp only[yX]at ae;have c0:=hbc w hI.oH.bs;rotate_left;have hix:=hix.out;have af:=fe C hI.val E 15 0;have ag:=fe C hI.val E 17 2;simp only[yX]at af ag;have q:=hix w;rotate_left
  .have qN:=qN.out
   have I:=hI.oH;have d5:=hw2 5 nO nN;rw[hd,d5]at I;go_simp;refine J (nA (U (Z w.heap.size 0 V))) _ _ rfl ⟨?_,KG rfl hI.val⟩;rw[oo,nR D (show 5≠4 by decide),pG,d5];exact I.made qN
  .have qN:=qN.out
   have d4:=E 4 nO nN;have ah:a.tmps.getD 6 kI=vs 4:=C 6 nO;have ai:=fe C hI.val E 18 3;simp only[yX]at ai;have I:=hI.oH;rw[d4,hd]at I;obtain⟨b,ev,hB,au⟩:=I.fill qN;have ah:=ah.trans ev;have z0:=hB.cell 0;have av:=hB.cell 1;have ax:=hB.cell 2;have z3:=hB.cell 3;obtain⟨az,aA,aB,aC⟩:=hB.f4;simp only[Vb,jO,jN,jM]at z0 av ax z3;go_simp;rw[tF];refine J kI _ _ rfl ⟨?_,uK hI.val⟩;rw[oo,nR D (show 4≠5 by decide),om vs _ (show 4≠5 by decide),d4];exact au
  all_goals
   go_simp;exact J _ _ _ rfl ⟨hI.oH,uK hI.val⟩
 .intro D vs w N hI
  have E:=hI.oH;rw[N 4 nO]at E;rw[N 5 nO]at E;have q:=aa vs w E;rw[oW hI.val N];dsimp+instances only[FI,cO,cL,cR,cB,Tryz.f37];exact qH
end
end
section
open Go.RowKit Go.Maps
def EN(A:Bool)(P:ByteArray)(er:Int)(C:Nat):ByteArray×Int:=
 if A=false then(⟨#[]⟩,1)else if er≠0 then(⟨#[]⟩,er)else if C=5 then(⟨#[]⟩,5)else(P,0)
theorem wpB{g b:Nat}{c1 c2 c3:Array jP}{C E t3:ko}{w W A:jJ}(h:nP W g c1 C/\nP W (g+1) c2 E/\jS w.heap.size w W/\nP W b c3 t3)(hb:jS W.heap.size W A):
  nP A g c1 C/\nP A (g+1) c2 E/\jS w.heap.size w A/\nP A b c3 t3:=
 ⟨Below.blk hb h.1 h.1.lt,Below.blk hb h.2.1 h.2.1.lt,h.2.2.1.trans (hb.mono h.2.2.1.size),Below.blk hb h.2.2.2 h.2.2.2.lt⟩
theorem Y0{p:Prop}(h:p:=by
 have a1:=(jT w.heap.size w).alloc (jK _) (nH #[nk nI c.fmt,nk nK c.mag,nk nI c.pF,nk nI c.qc,nk nI c.dep,nk nI c.oV] tC);have k2:=nP.new (w.alloc (nH #[nk nI c.fmt,nk nK c.mag,nk nI c.pF,nk nI c.qc,nk nI c.dep,nk nI c.oV] tC)) #[nk nJ F.id,nz F.name,nz F.body] rq;rw[show(w.alloc (nH #[nk nI c.fmt,nk nK c.mag,nk nI c.pF,nk nI c.qc,nk nI c.dep,nk nI c.oV] tC)).heap.size=g+1 by simp[hg]]at k2;exact⟨(hg▸nP.new w _ _:nP _ g _ _).alloc _,k2,a1.alloc nS _⟩):p:=h
theorem Vd(c:oF)(F:vP)(f1 f2 f3 f4:FuncId)(I:Bool)(P:ByteArray)(er:Int)(y:RZ)(w:jJ)(hc:oJ c=true)(hix:∀W,l7 jI (kS 142 (nD zi) (nk nI c.fmt)) W=.ok (nD #[.func (.func f1) #[] #[],.func (.func f2) #[] #[],.func (.func f3) #[] #[],.func (.func f4) #[] #[]]) W)(aQ:∀a W,l7 jI (callFunc f1 #[a]) W=.ok (.enter f1 #[a]) W)(aR:∀a b W,l7 jI (callFunc f2 #[a,b]) W=.ok (.enter f2 #[a,b]) W)(aS:∀a b d W,l7 jI (callFunc f3 #[a,b,d]) W=.ok (.enter f3 #[a,b,d]) W)(ah:∀W,jV jI f1 #[nD #[nk nJ F.id,nz F.name,nz F.body]] W λe w'=>e=nG (nC I)/\jS W.heap.size W w')(hput:I=true->∀W,jS w.heap.size w W->jV jI f2 #[nD #[nk nI c.fmt,nk nK c.mag,nk nI c.pF,nk nI c.qc,nk nI c.dep,nk nI c.oV],nD #[nk nJ F.id,nz F.name,nz F.body]] W (pV P er W))(hnext:er=0->∀W,jV jI f3 #[nD #[nk nI c.fmt,nk nK c.mag,nk nI c.pF,nk nI c.qc,nk nI c.dep,nk nI c.oV],nA V,nz P] W λe w'=>e=nG (nE #[nD #[nk nJ y.id,nz y.name,nz y.body],nk nI y.n,nk nI y.e])/\jS W.heap.size W w'):
  jV jI 37 #[nD #[nk nI c.fmt,nk nK c.mag,nk nI c.pF,nk nI c.qc,nk nI c.dep,nk nI c.oV],nD #[nk nJ F.id,nz F.name,nz F.body]] w (pV (EN I P er y.e).1 (EN I P er y.e).2 w):=by
 obtain⟨g,hg⟩:=nV w.heap.size;have av:jX (∀W,(w.alloc (nH #[nk nI c.fmt,nk nK c.mag,nk nI c.pF,nk nI c.qc,nk nI c.dep,nk nI c.oV] tC)).alloc (nH #[nk nJ F.id,nz F.name,nz F.body] rq)=W->nP W g #[nk nI c.fmt,nk nK c.mag,nk nI c.pF,nk nI c.qc,nk nI c.dep,nk nI c.oV] tC/\nP W (g+1) #[nk nJ F.id,nz F.name,nz F.body] rq/\jS w.heap.size w W):=jH λW aF=>by
  subst aF;exact Y0
 have aH:jX (∀W,jV jI 67 #[nD #[nk nI c.fmt,nk nK c.mag,nk nI c.pF,nk nI c.qc,nk nI c.dep,nk nI c.oV]] W λe w'=>e=nG (nC true)/\jS W.heap.size W w'):=jH λW=>hc▸BM c W
 have aM:=jH ah;have aN:=jH hput;have aO:=jH hnext;have ax:=jH hix;obtain⟨aI,ai⟩:=nV (EN I P er y.e);have ak:=jH ai;obtain⟨aP,aG⟩:=nV (pV aI.1 aI.2 w);have au:=jH aG;rw[ai,aG];clear hc hix ah hput hnext aG ai;go_in;go_upto_region 1 with fail;obtain⟨aj,ay,az⟩:=av.out _ rfl;generalize (w.alloc _).alloc _=w1 at*;obtain⟨c0,c1,c2,c3,c4,c5⟩:=aj.a6;have E:=jH (jU aj (jU ay az));clear aj ay az av;go_wp2_with fail;refine(aH _).mono ?_;rintro e w2 ⟨rfl,Y⟩;have A:jX (nP w2 g #[nk nI c.fmt,nk nK c.mag,nk nI c.pF,nk nI c.qc,nk nI c.dep,nk nI c.oV] tC/\nP w2 (g+1) #[nk nJ F.id,nz F.name,nz F.body] rq/\jS w.heap.size w w2):=jH ⟨Below.blk Y E.1 E.1.lt,Below.blk Y E.2.1 E.2.1.lt,E.2.2.trans (Y.mono E.2.2.size)⟩;clear c0 c1 c2 c3 c4 c5 Y E aH;go_upto_region 3 with fail;refine a1Y (g:=g) (c:=c) (f1:=f1) (f2:=f2) (f3:=f3) (f4:=f4) (lim:=w2.heap.size) (Bs:=jS w2.heap.size w2) (ht2:=by rfl) (qN:=λ_ _ h hb=>h.trans hb) (hbc:=λW aF=>(Below.blk aF A.1 A.1.lt).cell 0) (hix:=ax.out) (hsz:=by rfl) (hI0:=λ_=>⟨oC w2,(λh=>by cases h),(oC w2).size⟩) ?_;intro vs W3 hF;obtain⟨b,ev,aJ,aA⟩:=hF.al rfl;have aa:jX (nP W3 g #[nk nI c.fmt,nk nK c.mag,nk nI c.pF,nk nI c.qc,nk nI c.dep,nk nI c.oV] tC/\nP W3 (g+1) #[nk nJ F.id,nz F.name,nz F.body] rq/\jS w.heap.size w W3/\nP W3 b #[.func (.func f1) #[] #[],.func (.func f2) #[] #[],.func (.func f3) #[] #[],.func (.func f4) #[] #[]] WfT):=jH ⟨Below.blk hF.bs A.1 A.1.lt,Below.blk hF.bs A.2.1 A.2.1.lt,A.2.2.trans (hF.bs.mono A.2.2.size),aA⟩;clear hF aJ aA A ax;simp only[jL,jQ,jR];rw[ev];obtain⟨J,N,O⟩:=aa.2.2.2.a3;obtain⟨c0,c1,c2,c3,c4,c5⟩:=aa.1.a6;obtain⟨z0,af,ag⟩:=aa.2.1.a3;go_wp2_with fail;refine(aM _).mono ?_;rintro e aT ⟨rfl,aB⟩;have C:=jH (wpB aa aB);clear aB J N O c0 c1 c2 c3 c4 c5 z0 af ag;cases I with
 |false=>
  obtain⟨J,N,O⟩:=C.2.2.2.a3;obtain⟨c0,c1,c2,c3,c4,c5⟩:=C.1.a6;obtain⟨z0,af,ag⟩:=C.2.1.a3;go_wp2_with fail;try go_returns
  rw[<-au.out,<-ak.out];exact⟨by rfl,C.2.2.1⟩
 |true=>
  obtain⟨J,N,O⟩:=C.2.2.2.a3;obtain⟨c0,c1,c2,c3,c4,c5⟩:=C.1.a6;obtain⟨z0,af,ag⟩:=C.2.1.a3;go_wp2_with fail;refine(aN (by trivial) _ C.2.2.1).mono ?_;rintro e aU ⟨rfl,aC⟩;have Q:=jH (wpB C aC);clear aC J N O c0 c1 c2 c3 c4 c5 z0 af ag;obtain⟨J,N,O⟩:=Q.2.2.2.a3;obtain⟨c0,c1,c2,c3,c4,c5⟩:=Q.1.a6;obtain⟨z0,af,ag⟩:=Q.2.1.a3;by_cases h0:er=0
  .subst h0
   go_wp2_with fail;refine(aO (by trivial) _).mono ?_;rintro e aV ⟨rfl,aD⟩;have ae:=jH (wpB Q aD);clear aD J N O c0 c1 c2 c3 c4 c5 z0 af ag;by_cases aK:y.e=5
   .have aL:((y.e:Int)==5)=true:=Tp
    go_wp2_with fail;try go_returns
    rw[<-au.out,<-ak.out];exact⟨by unfold EN;rw[if_neg nO,if_neg nO,if_pos aK];rfl,ae.2.2.1.trans ((jT _ _).alloc ae.2.2.1.size _)⟩
   .have aL:((y.e:Int)==5)=false:=wG
    go_wp2_with fail;try go_returns
    rw[<-au.out,<-ak.out];exact⟨by unfold EN;rw[if_neg nO,if_neg nO,if_neg aK];rfl,ae.2.2.1.trans ((jT _ _).alloc ae.2.2.1.size _)⟩
  .have aL:((er:Int)==0)=false:=by rw[beq_eq_false_iff_ne];exact h0
   go_wp2_with fail;try go_returns
   rw[<-au.out,<-ak.out];exact⟨by unfold EN;rw[if_neg nO,if_pos h0];rfl,Q.2.2.1⟩
end
section
open Go.RowKit
section
variable {P:ma}
theorem Li(w:jJ)(J N ty elem:ko)(g C E:Nat)(s:ByteArray)(A:Array jP)(t:ko)(O:P.underlying J=U (.slice elem))(hs:(P.info? elem).map (·.size)=U 1)(hg:w.heap[g]? =U (.cells A t (0,0)))(hn:s.size<=C)(Q:s.size<=A.size):
  (Builtin.copy_ #[J,N] ty #[ny (U (Z g 0 V)) C E,nz s]).run P w=.ok (goInt s.size) (w.setRow g (nU s.data.toList++A.toList.drop s.size).toArray):=by
 have hl:(nU s.data.toList).length=s.size:=nS;have hst:=run_storeCells_at P g 0 t (nU s.data.toList) 0 A w hg (by rw[hl];omega) (rO _);have he:(s.extract 0 s.size)=s:=nS;cases I:P.info? elem with
 |none=>simp[I]at hs
 |some i=>
  have hi:i.size=1:=by simpa [I]using hs
  have hb:(Array.map (λb:UInt8=>lQ .u8 (b.toNat:Int)) s.data).toList=nU s.data.toList:=by simp[nU]
  simp[Builtin.copy_,run_underlying O,Builtin.lenOf,Builtin.firstCells,sizeOf,typeInfo,I,hi,Nat.min_eq_left hn,he,nU]at hst⊢;have ht:List.take s.size (List.map (λb:UInt8=>lQ .u8 (b.toNat:Int)) s.data.toList)=List.map (λb:UInt8=>lQ .u8 (b.toNat:Int)) s.data.toList:=List.take_of_length_le nS;rw[ht,hst];rfl
end
def xE(s:ByteArray):List UInt8:=s.data.toList++lh (12 - s.size) 0
theorem yY(s:ByteArray)(h:s.size<=12):(xE s).length=12:=by simp[xE];omega
theorem Ei{s:ByteArray}(h:sw s.data.toList=true):1<=s.size/\s.size<=12:=by
 simp only[sw,j4,decide_eq_true_eq]at h;have hl:s.data.toList.length=s.size:=nS;omega
theorem a1Z(s:ByteArray)(w:jJ)(hs:s.size<=j3):
  jV jI 128 #[nz s] w (pV (if sw s.data.toList=true then⟨(xE s).toArray⟩else⟨#[]⟩) (if sw s.data.toList=true then 0 else 11) w):=by
 have E:=jH (Kj s w hs);cases C:sw s.data.toList with
 |false=>
  rw[C]at E;rw[if_neg nO,if_neg nO];clear C;go_in;go_wp2_with fail;refine E.mono ?_;rintro e w2 ⟨rfl,rfl⟩;go_wp2_with fail;go_returns;exact⟨rfl,jT _ _⟩
 |true=>
  rw[C]at E;rw[if_pos rfl,if_pos rfl];have A:=Ei C;have af:=jH A;obtain⟨T,J⟩:∃T,(⟨(xE s).toArray⟩:ByteArray)=T:=⟨_,rfl⟩;have ag:=jH J;rw[J];obtain⟨g,hg⟩:=nV w.heap.size;have Q:jX (∀W,w.alloc (nH (lh 12 (lQ .u8 0)).toArray 214)=W->W.heap[g]? =U (nH (lh 12 (lQ .u8 0)).toArray 214 (0,0))/\jS w.heap.size w W):=jH λW h=>by
   subst h;exact⟨by rw[<-hg];exact nP.new w _ _,(jT _ w).alloc (jK _) _⟩
  clear C A J;go_in;go_wp2_with fail;refine E.mono ?_;rintro e w2 ⟨rfl,rfl⟩;go_upto_region 4 with fail;generalize Y:w2.alloc _=w3;obtain⟨hB,hb⟩:=Q.out _ Y;clear Y;have A:=af.out;have aa:jX (∀W,w3.setRow g (nU s.data.toList++(lh 12 (lQ .u8 0)).toArray.toList.drop s.size).toArray=W->(convert 86 9 (ny (U (Z g 0 V)) 12 12)).run jI W=.ok (nz T) W/\jS w2.heap.size w2 W):=jH λW h=>by
   subst h;have he:nU s.data.toList++(lh 12 (lQ .u8 0)).toArray.toList.drop s.size=nU (xE s):=by
    rw[xE,o8];simp only[nU,List.map_replicate,List.drop_replicate,List.toList_toArray];rfl
   rw[he];have hh:=setRow_heap w3 g _ (nU (xE s)).toArray _ _ hB;have hl:=yY s A.2;refine⟨?_,below_setRow hb nL _⟩;have:=run_convert_bytes_back (P:=jI) (w3.setRow g (nU (xE s)).toArray) 86 9 5 (Z g 0 V) 12 (xE s) l6 Tryz.underlying5 mH λj ah=>by
    have N:((Z g 0 V):lH).add j=(Z g j V):=FM;rw[N];simp only[mI,hh];simp[nU,ah]
   rw[hl,ag.out]at this;exact this
  have O:=Li (P:=jI) w3 86 9 3 5 g 12 12 s _ _ l6 nN hB A.2 (by rw[mP,List.length_replicate];exact A.2);obtain⟨w4,hw4⟩:=nV (w3.setRow g (nU s.data.toList++(lh 12 (lQ .u8 0)).toArray.toList.drop s.size).toArray);rw[hw4]at O;obtain⟨hst,I⟩:=aa.out _ hw4;have ae:=jH I;clear aa I hB A hb Q hw4;go_wp2_with fail;go_returns;exact⟨rfl,ae.out⟩
def JB(m:Nat)(nm b:ByteArray):List UInt8:=vX 4 m++xE nm++vX 4 b.size++checkN b.data.toList++b.data.toList
def vS(m:Nat)(nm b:ByteArray):ByteArray×Int:=if sw nm.data.toList=true then if b.size<=65536 then(⟨(JB m nm b).toArray⟩,0)else(⟨#[]⟩,5)else(⟨#[]⟩,11)
theorem Y1(m:Nat)(nm b:ByteArray)(w:jJ)(aB:m<4294967296)(hn:nm.size<=j3)(hb:b.size<=1000000000):
  jV jI 99 #[nk nK m,nz nm,nz b] w (pV (vS m nm b).1 (vS m nm b).2 w):=by
 have E:=jH (a1Z nm w hn);have af:=jH (λW=>uS m 4 W nL nO nO nL);have N:=jH (λ(W:jJ) (h:b.size<=65536)=>EC b W nL);obtain⟨R,J⟩:=nV (vS m nm b);have I:=jH J;rw[J];cases A:sw nm.data.toList with
 |false=>
  rw[A]at E;have E:jX (jV jI 128 #[nz nm] w (pV ⟨#[]⟩ 11 w)):=E;have HE:jX (R=(⟨#[]⟩,11)):=jH (by rw[<-I.out];unfold vS;rw[A];rfl);clear A J I af N;go_in;go_wp2_with fail;refine E.mono ?_;rintro e w2 ⟨rfl,C⟩;have HB2:=jH C;clear C;exact DZ
 |true=>
  rw[A]at E;have ag:=Ei A;have hl:=yY nm ag.2;have E:jX (jV jI 128 #[nz nm] w (pV ⟨(xE nm).toArray⟩ 0 w)):=E;by_cases h1:b.size<=65536
  .have ak:decide ((b.size:Int)>65536)=false:=nT
   have ah:decide (65536<(b.size:Int))=false:=nT;have HE:jX (R=(⟨(JB m nm b).toArray⟩,0)):=jH (by rw[<-I.out];unfold vS;rw[A,if_pos rfl,if_pos h1]);have ai:=jH (λW=>N.out W h1);have au:=jH (λW=>uS b.size 4 W nL nO nO nL);have av:(⟨(vX 4 m).toArray⟩:ByteArray).size=4:=by rw[size_mk,qG]
   have ax:(⟨(xE nm).toArray⟩:ByteArray).size=12:=by rw[size_mk,hl]
   have ay:(⟨(vX 4 b.size).toArray⟩:ByteArray).size=4:=by rw[size_mk,qG]
   have az:(⟨(checkN b.data.toList).toArray⟩:ByteArray).size=4:=by rw[size_mk,Be]
   have aA:jX ((⟨(vX 4 m).toArray⟩:ByteArray)++⟨(xE nm).toArray⟩++⟨(vX 4 b.size).toArray⟩++⟨(checkN b.data.toList).toArray⟩++b=⟨(JB m nm b).toArray⟩):=jH (by
    apply ByteArray.ext;apply Array.ext';simp[JB])
   generalize (⟨(vX 4 m).toArray⟩:ByteArray)=aC at*;generalize (⟨(xE nm).toArray⟩:ByteArray)=aD at*;generalize (⟨(vX 4 b.size).toArray⟩:ByteArray)=t3 at*;generalize (⟨(checkN b.data.toList).toArray⟩:ByteArray)=t4 at*;have aF:=jH (jU av (jU ax (jU ay az)));clear A J I ag hl h1 N;go_in;go_wp2_with fail;refine E.mono ?_;rintro e w2 ⟨rfl,C⟩;have HB2:=jH C;clear C;go_wp2_with fail;refine(af _).mono ?_;rintro e w3 ⟨rfl,O⟩;have Q:=jH (HB2.trans (O.mono HB2.size));clear O;go_wp2_with fail;refine(au _).mono ?_;rintro e w4 ⟨rfl,Y⟩;have aa:=jH (Q.trans (Y.mono Q.size));clear Y;go_wp2_with fail;refine(ai _).mono ?_;rintro e w5 ⟨rfl,ae⟩;have aj:=jH (aa.trans (ae.mono aa.size));clear ae;go_wp2_with fail;go_returns;exact⟨by rw[HE.out,<-aA.out];rfl,aj.out⟩
  .have ak:decide ((b.size:Int)>65536)=true:=nT
   have ah:decide (65536<(b.size:Int))=true:=nT;have HE:jX (R=(⟨#[]⟩,5)):=jH (by rw[<-I.out];unfold vS;rw[A,if_pos rfl,if_neg h1]);clear A J I af N ag hl h1;go_in;go_wp2_with fail;refine E.mono ?_;rintro e w2 ⟨rfl,C⟩;have HB2:=jH C;clear C;exact DZ
def QA(n:Nat):List UInt8:=if n=0 then []else if n<=60 then [kg (4*(n - 1))]else if n<=256 then [240,kg (n - 1)]else 244::vX 2 (n - 1)
theorem tX(P:ma)(g o:Nat)(t:ko)(C:Nat×Nat):∀(vs:List jP)(i:Nat)(A:Array jP)(w:jJ),w.heap[g]? =U (nH A t C)->(C.2<=C.1\/A.size<=C.1)->o+i+vs.length<=A.size->(∀v∈vs,v.oneCell'=true)->
  (storeCells (Z g o V) vs i).run P w=.ok () (w.setRow g (A.toList.take (o+i)++vs++A.toList.drop (o+i+vs.length)).toArray)
 |[],i,A,w,hg,_,_,_=>by
  simp only[storeCells,List.append_nil,List.length_nil,Nat.add_zero,ng,Array.toArray_toList];rw[setRow_self w g A t C hg];rfl
 |v::rest,i,A,w,hg,I,hl,h1=>by
  have hi:o+i<A.size:=by simp at hl;omega
  have J:((Z g o V):lH).add i=(Z g (o+i) V):=FM;have E:w.cell? (Z g (o+i) V)=U A[o+i]:=by simp[mI,hg,hi]
  have N:w.frozen? (Z g (o+i) V)=false:=by
   obtain⟨lo,O⟩:=C;simp only at I;have:¬(lo<=o+i/\o+i<O):=nL;simpa [World.frozen?,hg]using this
  have hst:(store (((Z g o V):lH).add i) v).run P w=.ok () (w.setRow g (A.setIfInBounds (o+i) v)):=by
   rw[J,run_store P w _ v _ (h1 v nS),E];simp[N,setCell_eq_setRow w g (o+i) A t C v hg]
  have Q:=tX P g o t C rest (i+1) (A.setIfInBounds (o+i) v) (w.setRow g (A.setIfInBounds (o+i) v)) (setRow_heap w g A _ t _ hg) (by simpa using I) (by simp at hl⊢;omega) (λx Y=>h1 x (by simp[Y]));simp only[storeCells,Sem.run_bind,hst,Result.andThen_ok,Q,setRow_setRow];congr 3;have e:=list_seg_step A.toList (o+i) v rest (by simp at hl⊢;omega);simpa [Array.toList_setIfInBounds,kR]using e
def rH(w:jJ)(B:Nat)(e:ko)(v:jP)(l:List UInt8):Prop:=
 (v=ny V 0 0/\l=[])\/∃g cap A C,v=ny (U (Z g 0 V)) l.length cap/\B<=g/\w.heap[g]? =U (nH A e C)/\(C.2<=C.1\/A.size<=C.1)/\l.length<=cap/\cap<=j3/\A.size=cap/\A.toList.take l.length=nU l
section
variable {P:ma}{t e s:ko}{w w':jJ}{B:Nat}{v:jP}{l:List UInt8}
theorem rH.of(h:ow w B e v l):rH w B e v l:=by
 obtain⟨h1,h2⟩:=h;rcases h2 with⟨rfl,h2⟩|⟨g,cap,A,C,hg,hh,E,I,J,N⟩
 .exact .inl ⟨rfl,List.eq_nil_of_length_eq_zero h2⟩
 .exact .inr ⟨g,cap,A,(0,0),C,hg,hh,.inl (jK _),E,I,by simpa using J,by simpa using N⟩
theorem rH.blk(h:rH w B e v l):∀b,v.ownBlock=U b->B<=b/\b<w.heap.size:=by
 intro k hk;rcases h with⟨rfl,_⟩|⟨g,cap,A,C,rfl,hb,hg,_⟩
 .simp[kJ]at hk
 .simp[kJ]at hk
  subst hk;exact⟨hb,(ku.1 hg).1⟩
theorem rH.kp{F:Nat->Prop}(h:rH w B e v l)(k:qJ F w w')(hn:∀b,v.ownBlock=U b->¬F b):rH w' B e v l:=by
 rcases h with h|⟨g,cap,A,E,C,hg,hh,r⟩
 .exact .inl h
 .exact .inr ⟨g,cap,A,E,C,hg,by rw[k.block g (ku.1 hh).1 (hn g (by rw[C];rfl))];exact hh,r⟩
theorem rH.below(h:rH w B e v l)(hb:jS w.heap.size w w'):rH w' B e v l:=h.kp (F:=λ_=>False) (qJ.of hb) λ_ _ h=>h
theorem rH.alloc(h:rH w B e v l)(o:Obj):rH (w.alloc o) B e v l:=h.below ((jT w.heap.size w).alloc (jK _) o)
theorem rH.base{C:Nat}(h:rH w B e v l)(E:C<=B):rH w C e v l:=by
 rcases h with h|⟨g,cap,A,I,J,hg,r⟩
 .exact .inl h
 .exact .inr ⟨g,cap,A,I,J,jY E hg,r⟩
theorem rH.cells(h:rH w B e v l){g:Nat}(hg:v.ownBlock=U g):∀j u,(nU l)[j]? =U u->w.cell? (Z g j V)=U u:=by
 intro j u A;rcases h with⟨rfl,_⟩|⟨I,cap,C,J,rfl,_,E,_,_,_,_,htake⟩
 .simp[kJ]at hg
 .simp[kJ]at hg
  subst hg;rw[cell_of_row w I j C e J E];rw[<-htake,List.getElem?_take]at A;split at A;.simpa using A
  .cases A
theorem rH.string(T:pX P t e s)(h:rH w B e v l):(convert t s v).run P w=.ok (nz ⟨l.toArray⟩) w:=by
 rcases h with⟨rfl,rfl⟩|⟨g,cap,C,I,rfl,hb,hg,E,A,J,hsz,htake⟩
 .exact Re
 .have h:rH w B e (ny (U (Z g 0 V)) l.length cap) l:=.inr ⟨g,cap,C,I,rfl,hb,hg,E,A,J,hsz,htake⟩
  refine run_convert_bytes_back w t s e (Z g 0 V) cap l T.ht T.he T.hs λj N=> ?_
  have:=h.cells (g:=g) rfl j (nk .u8 (l[j].toNat:Int)) (by simp[nU,jW N]);have e1:((Z g 0 V):lH).add j=(Z g j V):=FM;rw[e1];exact this
theorem Y2{p:Prop}(h:p:=by
 have:=rH.cells (.inr ⟨g,cap,cur,fz,rfl,hbg,hg,hfz,hnc,hcm,hcs,htake⟩:rH w B e (ny (U (Z g 0 V)) l.length cap) l) (g:=g) rfl j u hu;have e1:((Z g 0 V):lH).add j=(Z g j V):=FM;rw[e1];exact this):p:=h
theorem Lj(T:pX P t e s)(ty:ko)(h:rH w B e v l)(m:List UInt8)(a:lH)(c:Nat)(C:∀j u,(nU m)[j]? =U u->w.cell? (a.add j)=U u)(hlen:l.length+m.length<=140737488355328)(hB:B<=w.heap.size):
  ∃v' w',(Builtin.append_ #[t,t] ty #[v,ny (U a) m.length c]).run P w=.ok v' w'/\rH w' B e v' (l++m)/\w.grownBy w' v.ownBlock/\(v'.ownBlock=v.ownBlock\/∃g,v'.ownBlock=U g/\w.heap.size<=g):=by
 obtain⟨i,hi,N,A,I⟩:=info_parts T.hi;rcases h with⟨rfl,rfl⟩|⟨g,cap,cur,fz,rfl,hbg,hg,hfz,hnc,hcm,hcs,htake⟩
 .obtain⟨v',w',h1,h2,Q,af⟩:=run_append_own (P:=P) w B t ty e i (nk .u8 0) 1 1 T.ht hi N A I rfl nO (ny V 0 0) 0 [] (World.ownsRow_nil w B e 1) a m.length c (nU m) nS C (rO m) yD nL hB
  refine⟨v',w',h1,rH.of ?_,Q,?_⟩
  .show w'.ownsRow B e 1 v' (([]:List UInt8)++m).length (nU ([]++m))
   simpa using h2
  .rcases h2.2 with⟨rfl,_⟩|⟨g,cap,cur,rfl,hb,hg,_⟩
   .exact .inl rfl
   .refine .inr ⟨g,rfl,?_⟩
    by_cases ag:m.length=0;.have:=(af.2 ⟨rfl,ag⟩);cases this
    .have hlt:=(ku.1 hg).1
     refine Nat.le_of_not_lt λY=> ?_
     have ai:=Q.block g Y (by simp[kJ]);obtain⟨aj,hi2,_⟩:=info_parts T.hi;have O:=run_append_nil (P:=P) w t ty e i (nk .u8 0) T.ht hi N a m.length c (nU m) (by simp[A]) C nL nL (by rw[I];omega);rw[O]at h1;simp only[Result.ok.injEq,Value.slice.injEq,mF,Addr.mk.injEq]at h1;omega
 .by_cases E:l.length+m.length<=cap
  .have ah:=run_firstCells_some (P:=P) w i.size m.length a m.length c (nU m) (by simp[A]) C
   have hst:=tX P g (l.length*i.size) e fz (nU m) 0 cur w hg hfz (by simp[A];omega) (rO m);simp only[Nat.add_zero]at hst;refine⟨ny (U (Z g 0 V)) (l.length+m.length) cap,w.setRow g (cur.toList.take (l.length*i.size)++nU m++cur.toList.drop (l.length*i.size+(nU m).length)).toArray,?_,.inr ⟨g,cap,_,fz,nS,hbg,setRow_heap w g cur _ e _ hg,?_,by simpa using E,hcm,?_,?_⟩,⟨rfl,rfl,rfl,nS,λk _ hk=>setRow_other w g k _ (λe=>hk (by simp[kJ,e]))⟩,.inl rfl⟩;.simp[Builtin.append_,run_underlying T.ht,sizeOf,typeInfo,hi,Builtin.lenOf,E,ah,Addr.add_lit,hst]
   .simp only[mP,j5,mi,kX,kY,qZ,A,Nat.mul_one]
    rcases hfz with h|h
    .exact .inl h
    .exact .inr nL
   .simp only[mP,j5,mi,kX,kY,qZ,A,Nat.mul_one]
    omega
   .simp only[A,Nat.mul_one]
    rw[htake,o8];exact List.take_left' nS
  .have J:∀j u,(nU l)[j]? =U u->w.cell? (((Z g 0 V):lH).add j)=U u:=λj u hu=>by
    exact Y2
   have O:=run_append_grow (P:=P) w t ty e i (nk .u8 0) T.ht hi N (Z g 0 V) l.length cap (nU l) (by simp[A]) J a m.length c (nU m) (by simp[A]) C nL nL (growslice_fits nL (by rw[I];omega));have aa:=grownCap_ge w (l.length+m.length) cap e;refine⟨_,_,O,.inr ⟨w.heap.size,grownCap w (l.length+m.length) cap e,_,(0,0),nS,hB,heap_alloc_new w.drew _,.inl (jK _),by simpa using aa,grownCap_le_maxLen w _ cap e yD,?_,?_⟩,⟨rfl,rfl,rfl,nS,λk hk _=>heap_alloc_old w.drew _ hk⟩,.inr ⟨_,rfl,jK _⟩⟩
   .have ae:(lQ IntKind.u8 0).cells.size=1:=rfl
    simp only[Array.size_append,mP,size_zeroCells,ae,qZ];omega
   .simp only[Array.toList_append,mG]
    rw[<-mG,<-o8];exact List.take_left' nS
theorem wX(T:pX P t e s){rest:List lY}{o:lY}{a:Act}{Q:Exit->Act->jJ->Prop}(I:o.guard=V)(x y:Operand)(ho:o.op=.call {callee:=.builtin .append,args:=#[x,y],argTypes:=#[t,t]})(B:Nat)(v:jP)(l m:List UInt8)(k:Nat)(hk:k=m.length)(w:jJ)(cs:Array jP)(J:cs.toList=nU m)(aa:a.eval x=v)(E:rH w B e v l)(ae:a.eval y=ny (U (Z w.heap.size 0 V)) k k)(hlen:l.length+k<=140737488355328)(hB:B<=w.heap.size)(h:∀v' w',rH w' B e v' (l++m)->w.grownBy w' v.ownBlock->(v'.ownBlock=v.ownBlock\/∃g,v'.ownBlock=U g/\w.heap.size<=g)->wpList P ops Q rest (a.put o.dst v') w'):
  wpList P ops Q (o::rest) a (w.alloc (nH cs e)):=by
 subst hk;have N:=(jT w.heap.size w).alloc (jK _) (nH cs e);have O:=nP.new w cs e;obtain⟨v',w',af,h2,A,C⟩:=Lj (w:=w.alloc (nH cs e)) T o.type (E.alloc _) m (Z w.heap.size 0 V) m.length (λj u ag=>by
  have e1:((Z w.heap.size 0 V):lH).add j=(Z w.heap.size j V):=FM;rw[e1,O.cell,<-ag,<-J,Array.getElem?_toList]) hlen nT
 refine wpList_plain I λK ah=> ?_
 unfold Oper.wp execOp;simp only[ho,resolve,invoke,builtin,Sem.run_bind,Sem.run_pure,Result.andThen_ok,List.map_toArray,mQ,List.map_nil,aa,ae,af];refine ah _ _ (h v' w' h2 ⟨A.os,A.tape,A.output,by have:=A.size;simp at this;omega,λc hc Y=>(A.block c nT Y).trans (N.block c hc)⟩ ?_);rcases C with C|⟨g,C,ai⟩
 .exact .inl C
 .exact .inr ⟨g,C,by simp at ai;omega⟩
theorem wY(T:pX P t e s){rest:List lY}{o:lY}{a:Act}{Q:Exit->Act->jJ->Prop}(af:o.guard=V)(x y:Operand)(ho:o.op=.call {callee:=.builtin .append,args:=#[x,y],argTypes:=#[t,s]})(B:Nat)(v:jP)(l:List UInt8)(S:ByteArray)(w:jJ)(ai:a.eval x=v)(ae:rH w B e v l)(aj:a.eval y=nz S)(hlen:l.length+S.size<=140737488355328)(hB:B<=w.heap.size)(h:∀v' w',rH w' B e v' (l++S.data.toList)->w.grownBy w' v.ownBlock->(v'.ownBlock=v.ownBlock\/∃g,v'.ownBlock=U g/\w.heap.size<=g)->wpList P ops Q rest (a.put o.dst v') w'):
  wpList P ops Q (o::rest) a w:=by
 obtain⟨i,hi,ag,C,aa⟩:=info_parts T.hi;have e1:mD S=nU S.data.toList:=by simp[mD,nU]
 have A:S.data.toList.length=S.size:=kY;refine wpList_plain af λK ak=> ?_
 suffices∃v' w',(Builtin.append_ #[t,s] o.type #[v,nz S]).run P w=.ok v' w'/\rH w' B e v' (l++S.data.toList)/\w.grownBy w' v.ownBlock/\(v'.ownBlock=v.ownBlock\/∃g,v'.ownBlock=U g/\w.heap.size<=g)by
  obtain⟨v',w',I,h2,au,av⟩:=this;unfold Oper.wp execOp;simp only[ho,resolve,invoke,builtin,Sem.run_bind,Sem.run_pure,Result.andThen_ok,List.map_toArray,mQ,List.map_nil,ai,aj,I];exact ak _ _ (h v' w' h2 au av)
 rcases ae with⟨rfl,rfl⟩|⟨g,cap,cur,fz,rfl,hbg,hg,hfz,hnc,hcm,hcs,htake⟩
 .by_cases h0:S.size=0
  .have hn:S.data.toList=[]:=List.eq_nil_of_length_eq_zero nL
   have O:=Lib.run_firstCells_string (P:=P) w 1 S;refine⟨ny V 0 0,w,?_,.inl ⟨rfl,by rw[hn];rfl⟩,⟨rfl,rfl,rfl,jK _,λ_ _ _=>rfl⟩,.inl rfl⟩;rw[h0]at O;have ah:mD S=[]:=by rw[e1,hn];rfl
   simp[Builtin.append_,run_underlying T.ht,run_underlying T.hs,sizeOf,typeInfo,hi,C,Builtin.lenOf,h0,O,ah,storeCells]
  .have I:=run_append_nil_string (P:=P) w t s o.type e i (nk .u8 0) T.ht T.hs hi ag S nL (by simp at hlen;omega) (by rw[aa];simp at hlen;omega)
   have J:=grownCap_ge w S.size 0 e;refine⟨_,_,I,.inr ⟨w.heap.size,grownCap w S.size 0 e,_,(0,0),by simp[A],hB,heap_alloc_new w.drew _,.inl (jK _),by simpa [A]using J,grownCap_le_maxLen w _ 0 e (by simp at hlen;unfold j3;omega),?_,?_⟩,⟨rfl,rfl,rfl,nS,λk hk _=>heap_alloc_old w.drew _ hk⟩,.inr ⟨_,rfl,jK _⟩⟩
   .have N:(lQ IntKind.u8 0).cells.size=1:=rfl
    have h1:S.data.size=S.size:=rfl;simp only[Array.size_append,Array.size_map,size_zeroCells,N,h1];omega
   .simp only[Array.toList_append,Array.toList_map,List.nil_append]
    exact List.take_left' nS
 .by_cases E:l.length+S.size<=cap
  .have O:=Lib.run_firstCells_string (P:=P) w 1 S
   have hst:=tX P g l.length e fz (mD S) 0 cur w hg hfz (by simp[Lib.strCells_length];omega) (Lib.strCells_oneCell S);simp only[Nat.add_zero,Lib.strCells_length]at hst;refine⟨ny (U (Z g 0 V)) (l.length+S.size) cap,w.setRow g (cur.toList.take l.length++mD S++cur.toList.drop (l.length+S.size)).toArray,?_,.inr ⟨g,cap,_,fz,by simp[A],hbg,setRow_heap w g cur _ e _ hg,?_,by simpa [A]using E,hcm,?_,?_⟩,⟨rfl,rfl,rfl,nS,λk _ hk=>setRow_other w g k _ (λe=>hk (by simp[kJ,e]))⟩,.inl rfl⟩;.simp[Builtin.append_,run_underlying T.ht,run_underlying T.hs,sizeOf,typeInfo,hi,C,Builtin.lenOf,E,O,Addr.add_lit,hst]
   .simp only[mP,j5,mi,kX,kY,Lib.strCells_length]
    rcases hfz with h|h
    .exact .inl h
    .exact .inr nL
   .simp only[mP,j5,mi,kX,kY,Lib.strCells_length]
    omega
   .rw[htake,o8,e1]
    exact List.take_left' nS
  .have Y:∀j u,(nU l)[j]? =U u->w.cell? (((Z g 0 V):lH).add j)=U u:=λj u hu=>by
    exact Y2
   have I:=Lib.run_append_grow_string (P:=P) w t s o.type e i (nk .u8 0) T.ht T.hs hi ag (Z g 0 V) l.length cap (nU l) (by simp[C]) Y S nL nL (by rw[aa];exact growslice_fits nL nL);have J:=grownCap_ge w (l.length+S.size) cap e;refine⟨_,_,I,.inr ⟨w.heap.size,grownCap w (l.length+S.size) cap e,_,(0,0),by simp[A],hB,heap_alloc_new w.drew _,.inl (jK _),by simpa [A]using J,grownCap_le_maxLen w _ cap e yD,?_,?_⟩,⟨rfl,rfl,rfl,nS,λk hk _=>heap_alloc_old w.drew _ hk⟩,.inr ⟨_,rfl,jK _⟩⟩
   .have N:(lQ IntKind.u8 0).cells.size=1:=rfl
    simp only[Array.size_append,mP,size_zeroCells,N,qZ,Lib.strCells_length];omega
   .simp only[Array.toList_append,mG]
    rw[<-mG,e1,<-o8];exact List.take_left' nS
end
end
section
open Go.RowKit Go.Maps
structure Q4 where
 a:UInt8
 b:UInt8
 c:UInt8
 d:UInt8
 deriving DecidableEq
def xS(l:List UInt8)(i:Nat):Q4:=⟨l.getD i 0,l.getD (i+1) 0,l.getD (i+2) 0,l.getD (i+3) 0⟩
abbrev VP:=List (Q4×Nat)
def qO(l:List UInt8):Nat->Nat->VP->VP
 |0,_,mp=>mp
 |n+1,i,mp=>qO l n (i+1) (if i+4<=l.length then(xS l i,i)::mp.filter (λp=>p.1 !=xS l i)else mp)
def q9(l:List UInt8)(i j:Nat):Nat->Nat->Nat
 |0,n=>n
 |f+1,n=>if max i j+n<l.length/\l[i+n]? =l[j+n]? then q9 l i j f (n+1)else n
def rf(l:List UInt8)(i j:Nat):Nat:=q9 l i j 64 0
def Af(n d:Nat):List UInt8:=if n<=11/\d<2048 then [kg (1+4*(n - 4)+32*(d/256)),kg (d % 256)]else kg (2+4*(n - 1))::vX 2 d
def zt(x:List UInt8):List UInt8:=QA x.length++x
structure OH where
 i:Nat
 pend:Nat
 out:List UInt8
 mp:VP
def JC(l:List UInt8)(s:OH):Option Nat:=if s.i+4<=l.length then uF s.mp (xS l s.i)else V
def rF(l:List UInt8)(s:OH):OH:=match JC l s with
 |some j=>⟨s.i+rf l j s.i,s.i+rf l j s.i,s.out++zt ((l.take s.i).drop s.pend)++Af (rf l j s.i) (s.i - j),qO l (rf l j s.i) s.i s.mp⟩
 |none=>⟨s.i+1,s.pend,s.out,qO l 1 s.i s.mp⟩
def uM(l:List UInt8):Nat->OH->OH
 |0,s=>s
 |f+1,s=>if s.i<l.length then uM l f (rF l s)else s
def yx(l:List UInt8):OH:=⟨0,0,oI l.length,[]⟩
def Hq(l:List UInt8):List UInt8:=(uM l l.length (yx l)).out++zt (l.drop (uM l l.length (yx l)).pend)
def Y3(l:List UInt8)(i:Nat)(mp:VP):Prop:=∀k j,uF mp k=U j->j<i/\j+4<=l.length/\xS l j=k
theorem Y4{κ X:Type}[DecidableEq κ](mp:List (κ×X))(x k:κ)(y:X):uF ((x,y)::mp.filter (λp=>p.1 !=x)) k=if x=k then U y else uF mp k:=by
 unfold uF;rw[List.find?_cons];by_cases h:x=k;.subst h;simp
 .rw[if_neg h,show((x,y).1==k)=false by simpa using h]
  dsimp only;congr 1;rw[List.find?_filter];congr 1
  funext p;by_cases hp:p.1=k
  .have h2:¬k=x:=λe=>h e.symm
   simp[hp,h2]
  .simp[hp]
theorem Y3.fill{l:List UInt8}:∀{n i:Nat}{mp:VP},Y3 l i mp->Y3 l (i+n) (qO l n i mp)
 |0,i,mp,h=>h
 |n+1,i,mp,h=>by
  unfold qO;rw[show i+(n+1)=i+1+n by omega];refine Y3.fill (n:=n) ?_;intro k j hk;split at hk
  .rename_i A
   rw[Y4]at hk;split at hk
   .rename_i e
    cases hk;exact⟨nL,A,e⟩
   .have:=h k j hk
    exact⟨nL,this.2⟩
  .have:=h k j hk
   exact⟨nL,this.2⟩
theorem Ag{l:List UInt8}{i j:Nat}:∀ f n:Nat,n<=q9 l i j f n/\q9 l i j f n<=n+f/\(max i j+n<=l.length->max i j+q9 l i j f n<=l.length)/\∀q,n<=q->q<q9 l i j f n->l[i+q]? =l[j+q]?
 |0,n=>⟨jK _,jK _,id,λq h1 h2=>by unfold q9 at h2;omega⟩
 |f+1,n=>by
  unfold q9;split
  .rename_i h
   obtain⟨h1,h2,A,C⟩:=(Ag f (n+1):n+1<=q9 l i j f (n+1)/\_);refine⟨nL,nL,λ_=>A nL,λq I E=> ?_⟩;by_cases e:q=n;.subst e;exact h.2
   .exact C q nL E
  .exact⟨jK _,nL,id,λq h1 h2=>by omega⟩
theorem getD_at{l:List UInt8}{i j:Nat}(hi:i<l.length)(A:j<l.length)(h:l.getD i 0=l.getD j 0):l[i]? =l[j]? :=by
 rw[lL,lL,jW hi,jW A]at h;rw[jW hi,jW A];exact congrArg U h
theorem a4J{l:List UInt8}{i j:Nat}(hi:i+4<=l.length)(J:j+4<=l.length)(h:xS l i=xS l j):4<=rf l i j:=by
 unfold rf;simp only[xS,Q4.mk.injEq]at h;have A:=getD_at nL nL h.1;have C:=getD_at nL nL h.2.1;have E:=getD_at nL nL h.2.2.1;have I:=getD_at nL nL h.2.2.2;have N:max i j+4<=l.length:=nL;rw[q9,if_pos ⟨nL,A⟩,q9,if_pos ⟨nL,C⟩,q9,if_pos ⟨nL,E⟩,q9,if_pos ⟨nL,I⟩];exact(Ag _ _).1
theorem Y5{l:List UInt8}{i j:Nat}(hi:i<=l.length)(C:j<=l.length):rf l i j<=64/\i+rf l i j<=l.length/\j+rf l i j<=l.length:=by
 unfold rf;obtain⟨h1,h2,A,E⟩:=Ag (l:=l) (i:=i) (j:=j) 64 0;have:=A nL;omega
theorem Ll(x:List UInt8):(zt x).length<=x.length+3:=by
 unfold zt QA;have h2:(vX 2 (x.length - 1)).length=2:=qG 2 _
 (repeat' split)<;>simp[h2]<;>omega
theorem Y6(n d:Nat):(Af n d).length<=3:=by
 unfold Af;have h2:(vX 2 d).length=2:=qG 2 _;split<;>simp[h2]
structure Ah(l:List UInt8)(s:OH):Prop where
 il:s.i<=l.length
 pi:s.pend<=s.i
 mp:Y3 l s.i s.mp
 ol:s.out.length<=16+8*s.pend
theorem Hr(n:Nat)(h:n<=65536):(oI n).length<=10:=by
 have:=uf 3 n nL;omega
theorem Ah.ini(l:List UInt8)(h:l.length<=65536):Ah l (yx l):=
 ⟨kH _,jK _,λk j hk=>by simp[yx,uF]at hk,by have:=Hr l.length h;simp[yx];omega⟩
theorem NZ{l:List UInt8}{s:OH}(h:Ah l s){j:Nat}(A:JC l s=U j):s.i+4<=l.length/\j<s.i/\xS l j=xS l s.i/\4<=rf l j s.i/\rf l j s.i<=64/\s.i+rf l j s.i<=l.length:=by
 unfold JC at A;split at A
 .rename_i C
  obtain⟨h1,h2,E⟩:=h.mp _ _ A;have:=Y5 (l:=l) (i:=j) (j:=s.i) nL nL;exact⟨C,h1,E,a4J h2 C E,this.1,this.2.2⟩
 .cases A
theorem Ah.step{l:List UInt8}{s:OH}(h:Ah l s)(hi:s.i<l.length):Ah l (rF l s)/\s.i<(rF l s).i:=by
 unfold rF;split
 .rename_i j A
  obtain⟨h1,h2,E,I,J,C⟩:=NZ h A;refine⟨⟨C,jK _,h.mp.fill,?_⟩,by dsimp only;omega⟩;have a:=Ll ((l.take s.i).drop s.pend);have b:=Y6 (rf l j s.i) (s.i - j);have c:((l.take s.i).drop s.pend).length=s.i - s.pend:=by rw[kX,mi];omega
  have d:=h.ol;have e:=h.pi;simp only[j5];omega
 .exact⟨⟨by dsimp only;omega,by have:=h.pi;dsimp only;omega,h.mp.fill (n:=1),h.ol⟩,by dsimp only;omega⟩
theorem QB{l:List UInt8}:∀(f:Nat)(s:OH),¬s.i<l.length->uM l f s=s
 |0,s,_=>rfl
 |f+1,s,h=>by unfold uM;rw[if_neg h]
end
section
open Go.RowKit
structure ve(B:Nat)(v:jP)(w:jJ)(v':jP)(l:List UInt8)(w':jJ):Prop where
 own:rH w' B 5 v' l
 kp:qJ (λd=>v.ownBlock=U d) w w'
 at_:v'.ownBlock=v.ownBlock\/∃g,v'.ownBlock=U g/\w.heap.size<=g
theorem ve.refl{B:Nat}{v:jP}{w:jJ}{l:List UInt8}(h:rH w B 5 v l):ve B v w v l w:=⟨h,qJ.refl _ _,.inl rfl⟩
theorem ve.of{B:Nat}{v v':jP}{w w':jJ}{l:List UInt8}(h:rH w' B 5 v' l)(k:w.grownBy w' v.ownBlock)(a:v'.ownBlock=v.ownBlock\/∃g,v'.ownBlock=U g/\w.heap.size<=g):ve B v w v' l w':=⟨h,qJ.grown k λ_ e=>e,a⟩
theorem ve.below{B:Nat}{v:jP}{w w':jJ}{l:List UInt8}(h:rH w B 5 v l)(hb:jS w.heap.size w w'):ve B v w v l w':=⟨h.below hb,qJ.of hb,.inl rfl⟩
theorem ve.trans{B:Nat}{v v' v2:jP}{w w' w2:jJ}{l l2:List UInt8}(h:ve B v w v' l w')(k:ve B v' w' v2 l2 w2):ve B v w v2 l2 w2:=by
 refine⟨k.own,h.kp.trans k.kp λc hc A=> ?_,?_⟩
 .rcases h.at_ with e|⟨g,e,hg⟩
  .rw[e]at A;exact A
  .rw[e]at A;cases A;omega
 .rcases k.at_ with e|⟨g,e,hg⟩
  .rw[e];exact h.at_
  .exact .inr ⟨g,e,jY h.kp.size hg⟩
theorem EO(B:Nat)(v:jP)(l:List UInt8)(s:ByteArray)(w:jJ)(C:rH w B 5 v l)(hl:l.length<=1000000)(hs:s.size<=65536)(hB:B<=w.heap.size):
  jV jI 185 #[v,nz s] w λe w'=>∃v',e=nG v'/\ve B v w v' (l++zt s.data.toList) w':=by
 have ag:s.data.toList.length=s.size:=kY;have E:jX (zt s.data.toList=QA s.size++s.data.toList):=jH (by unfold zt;rw[ag]);by_cases h0:s.size=0
 .have O:jX (l++zt s.data.toList=l):=jH (by
   have e:s.data.toList=[]:=mU.1 nL;rw[E.out,e,h0];simp[QA])
  have t0:((s.size:Int)==0)=true:=by simp[h0]
  have az:=jH C;clear C h0 ag E;go_in;go_wp2_with fail;go_returns;exact⟨v,rfl,by rw[O.out];exact ve.refl az.out⟩
 .have t0:((s.size:Int)==0)=false:=wG
  by_cases Y:s.size<=60
  .have O:jX (zt s.data.toList=[kg (4*(s.size - 1))]++s.data.toList):=jH (by rw[E.out];unfold QA;rw[if_neg h0,if_pos Y])
   clear E;go_in
   go_wp2_with (first
    |(at_builtin;refine wX Ch rfl _ _ rfl B v l [kg (4*(s.size - 1))] 1 rfl w _ (xW (n:=4*(s.size - 1)) nL nL) rfl C rfl nL hB ?_;intro v' w' h1 h2 A;have N:=jH (ve.of h1 h2 A);have I:=jY hB h2.size;clear h1 h2 A)
    |(at_builtin;refine wY Ch rfl _ _ rfl B v' (l++[kg (4*(s.size - 1))]) s w' rfl N.own rfl nT I ?_;intro v2 w3 h1 h2 A;have J:=jH (ve.of h1 h2 A);clear h1 h2 A))
   go_returns;exact⟨_,rfl,by rw[O.out,<-mG];exact N.trans J.out⟩
  .by_cases aa:s.size<=256
   .have O:jX (zt s.data.toList=[240,kg (s.size - 1)]++s.data.toList):=jH (by rw[E.out];unfold QA;rw[if_neg h0,if_neg Y,if_pos aa])
    clear E;have aj:∀x:Int,x=((s.size - 1:Nat):Int)->[lQ .u8 240,lQ .u8 x]=nU [240,kg (s.size - 1)]:=λx aA=>by
     have:=xW (n:=s.size - 1) aA nL;simp only[nU,mQ,List.map_nil]at this⊢;rw[List.cons.injEq]at this;rw[this.1];rfl
    go_in
    go_wp2_with (first
     |(at_builtin;refine wX Ch rfl _ _ rfl B v l [240,kg (s.size - 1)] 2 rfl w _ (aj _ nL) rfl C rfl nL hB ?_;intro v' w' h1 h2 A;have N:=jH (ve.of h1 h2 A);have I:=jY hB h2.size;clear h1 h2 A)
     |(at_builtin;refine wY Ch rfl _ _ rfl B v' (l++[240,kg (s.size - 1)]) s w' rfl N.own rfl nT I ?_;intro v2 w3 h1 h2 A;have J:=jH (ve.of h1 h2 A);clear h1 h2 A))
    go_returns;exact⟨_,rfl,by rw[O.out,<-mG];exact N.trans J.out⟩
   .have O:jX (zt s.data.toList=[244]++vX 2 (s.size - 1)++s.data.toList):=jH (by rw[E.out];unfold QA;rw[if_neg h0,if_neg Y,if_neg aa];rfl)
    clear E;have ah:=qG 2 (s.size - 1);have c0:=uS (s.size - 1) 2 w nL nO nO nL;rw[show((s.size - 1:Nat):Int)=(s.size:Int) - 1 by omega]at c0;obtain⟨S,ak⟩:∃S:ByteArray,(⟨(vX 2 (s.size - 1)).toArray⟩:ByteArray)=S:=⟨_,rfl⟩;have ae:S.data.toList=vX 2 (s.size - 1):=by rw[<-ak]
    have aC:S.size=2:=by
     have e:S.data.toList.length=S.size:=kY;rw[<-e,ae,ah]
    rw[ak]at c0;have aB:=jH c0;have av:=jH ae;have au:=jH C;clear c0 ak ae C ah;go_in;go_wp2_with fail;refine aB.mono ?_;rintro e w2 ⟨rfl,af⟩;have Q:=jH (ve.below au af);have ai:B<=w2.heap.size:=jY hB af.size;clear af
    go_wp2_with (first
     |(at_builtin;refine wX Ch rfl _ _ rfl B v l [244] 1 rfl w2 _ (xW (n:=244) nL nL) rfl Q.own rfl nL ai ?_;intro v' w' h1 h2 A;have N:=jH (ve.of h1 h2 A);have I:=jY ai h2.size;clear h1 h2 A)
     |(at_builtin;refine wY Ch rfl _ _ rfl B v' (l++[244]) S w' rfl N.own rfl nT I ?_;intro v2 w3 h1 h2 A;have J:=jH (ve.of h1 h2 A);have ax:=jY I h2.size;clear h1 h2 A)
     |(at_builtin;refine wY Ch rfl _ _ rfl B v2 (l++[244]++S.data.toList) s w3 rfl J.own rfl nT ax ?_;intro v3 w4 h1 h2 A;have ay:=jH (ve.of h1 h2 A);clear h1 h2 A))
    go_returns;refine⟨_,rfl,?_⟩;have:=((Q.trans N).trans J).trans ay.out;rw[av.out]at this;rw[O.out];simpa using this
theorem Y7(B:Nat)(v:jP)(l:List UInt8)(n d:Nat)(w:jJ)(C:rH w B 5 v l)(hl:l.length<=1000000)(hn:4<=n/\n<=64)(hd:d<=65535)(hB:B<=w.heap.size):
  jV jI 187 #[v,nk nI n,nk nI d] w λe w'=>∃v',e=nG v'/\ve B v w v' (l++Af n d) w':=by
 by_cases h0:n<=11/\d<2048
 .have N:jX (Af n d=[kg (1+4*(n - 4)+32*(d/256)),kg (d % 256)]):=jH (by unfold Af;rw[if_pos h0])
  have ah:decide ((n:Int)<=11)=true:=nT;have ax:decide ((d:Int)<2048)=true:=nT;obtain⟨q,ai⟩:=nV (d/256);obtain⟨r,aj⟩:=nV (d % 256);rw[ai,aj]at N;have aF:q<8:=nL;have Im:r<256:=nL;have ay:(d:Int)/256=(q:Int):=nL;have az:(d:Int) % 256=(r:Int):=nL;have aG:Int.tdiv (d:Int) 256=(q:Int):=by rw[Int.tdiv_eq_ediv_of_nonneg nL];exact ay
  have aH:Int.tmod (d:Int) 256=(r:Int):=by rw[Int.tmod_eq_emod_of_nonneg nL];exact az
  have ae:∀x y:Int,x=((1+4*(n - 4)+32*q:Nat):Int)->y=(r:Int)->[lQ .u8 x,lQ .u8 y]=nU [kg (1+4*(n - 4)+32*q),kg r]:=λx y aA aB=>by
   have e1:=xW (n:=1+4*(n - 4)+32*q) aA nL;have e2:=xW (n:=r) aB nL;simp only[nU,mQ,List.map_nil]at e1 e2⊢;rw[List.cons.injEq]at e1 e2;rw[e1.1,e2.1]
  have aC:n<=11:=h0.1;clear h0 ai aj;go_in;go_wp2_with (at_builtin;go_loud (refine wX Ch rfl _ _ rfl B v l [kg (1+4*(n - 4)+32*q),kg r] 2 rfl w _ (ae _ _ nL nL) rfl C rfl nL hB ?_);intro v' w' h1 h2 A;have O:=jH (ve.of h1 h2 A);clear h1 h2 A);go_returns;exact⟨_,rfl,by rw[N.out];exact O.out⟩
 .have N:jX (Af n d=[kg (2+4*(n - 1))]++vX 2 d):=jH (by unfold Af;rw[if_neg h0];rfl)
  have Y:=qG 2 d;have c0:=uS d 2 w nL nO nO nL;obtain⟨S,af⟩:∃S:ByteArray,(⟨(vX 2 d).toArray⟩:ByteArray)=S:=⟨_,rfl⟩;have I:S.data.toList=vX 2 d:=by rw[<-af]
  have aI:S.size=2:=by
   have e:S.data.toList.length=S.size:=kY;rw[<-e,I,Y]
  rw[af]at c0;have aD:=jH c0;have ak:=jH I;have ag:=jH C;clear c0 af I C Y;have Q:(decide ((n:Int)<=11)=false)\/(decide ((n:Int)<=11)=true/\decide ((d:Int)<2048)=false):=by
   by_cases h:n<=11;.exact .inr ⟨nT,nT⟩
   .exact .inl nT
  clear h0;rcases Q with ah|⟨ah,ax⟩
  all_goals
   go_in;go_wp2_with fail;refine aD.mono ?_;rintro e w2 ⟨rfl,J⟩;have E:=jH (ve.below ag J);have aa:B<=w2.heap.size:=jY hB J.size;clear J
   go_wp2_with (first
    |(at_builtin;refine wX Ch rfl _ _ rfl B v l [kg (2+4*(n - 1))] 1 rfl w2 _ (xW (n:=2+4*(n - 1)) nL nL) rfl E.own rfl nL aa ?_;intro v' w' h1 h2 A;have O:=jH (ve.of h1 h2 A);have au:=jY aa h2.size;clear h1 h2 A)
    |(at_builtin;refine wY Ch rfl _ _ rfl B v' (l++[kg (2+4*(n - 1))]) S w' rfl O.own rfl nT au ?_;intro v2 w3 h1 h2 A;have av:=jH (ve.of h1 h2 A);clear h1 h2 A))
   go_returns;refine⟨_,rfl,?_⟩;have:=(E.trans O).trans av.out;rw[ak.out]at this;rw[N.out];simpa using this
theorem N7(s:ByteArray)(i:Nat)(h:i<s.size)(x:Int)(A:x=(i:Int))(w:jJ):(kS 9 (nz s) (nk nI x)).run jI w=.ok (nk .u8 ((s[i]).toNat:Int)) w:=by
 subst A;rw[run_index_string w 9 s .i64 i mH];simp[h]
theorem Ve{l:List UInt8}{i j f n:Nat}(h:max i j+n<l.length)(h2:l[i+n]? =l[j+n]?):q9 l i j (f+1) n=q9 l i j f (n+1):=by
 rw[q9,if_pos ⟨h,h2⟩]
theorem Ht{l:List UInt8}{i j f n:Nat}(h:¬(max i j+n<l.length/\l[i+n]? =l[j+n]?)):q9 l i j (f+1) n=n:=by
 rw[q9,if_neg h]
theorem QC{p:Prop}(h:p:=by
 refine mK ?_;intro x;go_wp2_with fail;go_returns;exact⟨by rw[HE.out];rfl,HBX x⟩):p:=h
theorem Y8(s:ByteArray)(i j:Nat)(w:jJ)(hs:s.size<=65536)(aA:i<j)(ax:j<=s.size):
  jV jI 186 #[nz s,nk nI i,nk nI j] w λe w'=>e=nG (nk nI (rf s.data.toList i j:Nat))/\jS w.heap.size w w':=by
 obtain⟨L,hL⟩:=nV s.size;have Q:s.data.toList.length=s.size:=kY;have Y:max i j=j:=nL;have aa:∀q (h:q<s.size),s.data.toList[q]? =U (s[q]'h):=λq h=>by
  rw[jW nL];rfl
 obtain⟨R,ag⟩:=nV (rf s.data.toList i j);have ay:jX (q9 s.data.toList i j 64 0=R):=jH ag;have ah:=jH hL;have ae:=jH Q;have E:=jH aa;have af:=jH Y;rw[ag];rw[hL]at hs ax;have aF:(if(i:Int)<(j:Int)then(j:Int)else(i:Int))=(j:Int):=by split<;>omega
 clear ag Q aa Y;go_in;go_wp2_with fail;go_loopw [7] (λai az=>∃n:Nat,ai=nk nI n/\n<=64/\jX (q9 s.data.toList i j (64 - n) n=R)/\jX (jS w.heap.size w az)) (λai _=>64 -(kT ai).toNat);case atStart=>exact⟨0,rfl,nL,ay,jH (jT _ _)⟩
 case round=>
  obtain⟨n,rfl,hn,N,au⟩:=hrel;have HBX:jX (∀x:rP wr,jS w.heap.size w x.at_):=jH λx=>au.trans (x.is.mono au.size)
  by_cases aB:n<64
  .have aj:jX (64 - n=(64 -(n+1))+1):=jH nL
   have C:jX (decide ((n:Int)<64)=true):=jH nT;by_cases cl:j+n<L
   .have O:jX (decide (j+n<L)=true):=jH nT
    have I:jX (decide (max (i:Int) (j:Int)+(n:Int)<(L:Int))=true):=jH (by rw[decide_eq_true_eq];omega);have A:j+n<s.size:=by rw[ah.out];exact cl
    have hin:i+n<s.size:=by rw[ah.out];omega
    have aC:=λW=>N7 s (i+n) hin ((i:Int)+(n:Int)) nL W
    have aD:=λW=>N7 s (j+n) A ((j:Int)+(n:Int)) nL W
    by_cases J:s[i+n]'hin=s[j+n]'A
    .have av:jX (q9 s.data.toList i j (64 -(n+1)) (n+1)=R):=jH (by
      rw[<-N.out,aj.out];exact(Ve (by rw[ae.out,af.out];exact A) (by rw[E.out _ hin,E.out _ A,J])).symm)
     have ak:jX ((((s[i+n]'hin).toNat:Int)==((s[j+n]'A).toNat:Int))=true):=jH (by rw[J];simp);go_upto_region 4 with fail;refine oz nN nN ?_;repeat(first|(go_big_quiet_step (fail))|(rw[C.out])|(rw[O.out])|(rw[I.out])|(rw[ak.out]))
     refine mK ?_;intro x;go_wp2_with fail;go_roundw;case rel=>exact⟨n+1,by go_num,nL,av,jH (HBX x)⟩
     case measure=>simp[kT];omega
    .have HE:jX (R=n):=jH (by
      rw[<-N.out,aj.out];exact Ht (λh=>J (by have:=h.2;rw[E.out _ hin,E.out _ A]at this;exact l8 this)))
     have ak:jX ((((s[i+n]'hin).toNat:Int)==((s[j+n]'A).toNat:Int))=false):=jH (by
      rw[beq_eq_false_iff_ne];intro h;exact J (lX.1 nL))
     go_upto_region 4 with fail;refine oz nN nN ?_;repeat(first|(go_big_quiet_step (fail))|(rw[C.out])|(rw[O.out])|(rw[I.out])|(rw[ak.out]))
     exact QC
   .have HE:jX (R=n):=jH (by
     rw[<-N.out,aj.out];exact Ht (λh=>by have h1:=h.1;rw[ae.out,af.out,ah.out]at h1;exact cl h1))
    have O:jX (decide (j+n<L)=false):=jH nT;have I:jX (decide (max (i:Int) (j:Int)+(n:Int)<(L:Int))=false):=jH (by rw[decide_eq_false_iff_not];omega);go_upto_region 4 with fail;refine oz nN nN ?_;repeat(first|(go_big_quiet_step (fail))|(rw[C.out])|(rw[O.out])|(rw[I.out]))
    exact QC
  .have HE:jX (R=n):=jH (by
    rw[<-N.out,show 64 - n=0 by omega];rfl)
   have C:jX (decide ((n:Int)<64)=false):=jH nT;go_upto_region 4 with fail;refine oz nN nN ?_;repeat(first|(go_big_quiet_step (fail))|(rw[C.out]))
   exact QC
end
section
open Go.RowKit Go.Maps
abbrev K4T:ko:=224
def Q4.cs(q:Q4):List jP:=[nk .u8 (q.a.toNat:Int),nk .u8 (q.b.toNat:Int),nk .u8 (q.c.toNat:Int),nk .u8 (q.d.toNat:Int)]
def Q4.v(q:Q4):jP:=nD q.cs.toArray
theorem N8:Tryz.prog.cellsOf K4T=4:=nN
theorem Y9:Tryz.prog.cellsOf 5=1:=nN
theorem Za:Tryz.prog.keyType K4T=true:=nN
theorem SL:∃d,Tryz.prog.types.size=d+1:=⟨Tryz.prog.types.size - 1,by
 have:0<Tryz.prog.types.size:=of_decide_eq_true nN;omega⟩
theorem SN(d:Nat)(cs:List jP):Tryz.prog.keyLits (d+2) K4T cs=if cs.length=4 then((l5 4).mapM λi=>Tryz.prog.keyLits (d+1) 5 ((cs.drop (i*1)).take 1)).map List.flatten else V:=by
 rw[Program.keyLits.eq_def];simp only[Tryz.underlying224,N8,Y9]
theorem SQ(d:Nat)(v:jP):Tryz.prog.keyLits (d+1) 5 [v]=match v with| nk q n=>if q=.u8/\(lI .u8 n).wf=true then U [lI .u8 n]else V|_=>V:=by
 rw[Program.keyLits.eq_def];simp only[Tryz.underlying5];cases v<;>rfl
theorem a6H(b:UInt8):(lI .u8 (b.toNat:Int)).wf=true:=by
 have h:=b.toNat_lt;simp only[Lit.wf,j4,decide_eq_true_eq];have h1:IntKind.u8.min=0:=rfl;have h2:IntKind.u8.max=255:=rfl;rw[h1,h2];omega
theorem Zb{n:Int}(h:(lI .u8 n).wf=true):∃b:UInt8,n=(b.toNat:Int):=by
 simp only[Lit.wf,j4,decide_eq_true_eq]at h;have h1:IntKind.u8.min=0:=rfl;have h2:IntKind.u8.max=255:=rfl;rw[h1,h2]at h;exact⟨kg n.toNat,by rw[FO _ nL];omega⟩
theorem a6I(b:UInt8):(lI .u8 (b.toNat:Int)).keyBytes=[b]:=by
 have h:=b.toNat_lt;have e:((b.toNat:Int) % 2^8).toNat=b.toNat:=nL;show bytesBE (8/8) (((b.toNat:Int) % 2^8).toNat)=[b];rw[e];show [kg (b.toNat % 256)]=[b];rw[Nat.mod_eq_of_lt h];simp
theorem a13(d:Nat)(q:Q4):Tryz.prog.keyLits (d+2) K4T q.cs=U [lI .u8 (q.a.toNat:Int),lI .u8 (q.b.toNat:Int),lI .u8 (q.c.toNat:Int),lI .u8 (q.d.toNat:Int)]:=by
 rw[SN,if_pos (show q.cs.length=4 from rfl)];have A:l5 4=[0,1,2,3]:=rfl;simp[A,Q4.cs,SQ,a6H]
theorem QD(d:Nat)(cs:List jP)(E:List Lit)(h:Tryz.prog.keyLits (d+2) K4T cs=U E):∃q:Q4,cs=q.cs/\E=[lI .u8 (q.a.toNat:Int),lI .u8 (q.b.toNat:Int),lI .u8 (q.c.toNat:Int),lI .u8 (q.d.toNat:Int)]:=by
 rw[SN]at h;split at h
 .rename_i hl
  have one:∀(v:jP)(l:List Lit),Tryz.prog.keyLits (d+1) 5 [v]=U l->∃b:UInt8,v=nk .u8 (b.toNat:Int)/\l=[lI .u8 (b.toNat:Int)]:=by
   intro v l A;rw[SQ]at A;split at A
   .split at A
    .rename_i q n I
     cases A;obtain⟨rfl,J⟩:=I;obtain⟨b,rfl⟩:=Zb J;exact⟨b,rfl,rfl⟩
    .cases A
   .cases A
  match cs,hl with
  |[v0,v1,v2,v3],_=>
   have N:l5 4=[0,1,2,3]:=rfl;simp only[N,List.mapM_cons,List.mapM_nil]at h;simp only[Nat.zero_mul,Nat.one_mul,Nat.reduceMul,List.drop_zero,mW,ky,kL]at h;cases h0:Tryz.prog.keyLits (d+1) 5 [v0]with
   |none=>rw[h0]at h;cases h
   |some Q=>
    cases h1:Tryz.prog.keyLits (d+1) 5 [v1]with
    |none=>rw[h0,h1]at h;cases h
    |some Y=>
     cases h2:Tryz.prog.keyLits (d+1) 5 [v2]with
     |none=>rw[h0,h1,h2]at h;cases h
     |some l2=>
      cases C:Tryz.prog.keyLits (d+1) 5 [v3]with
      |none=>rw[h0,h1,h2,C]at h;cases h
      |some aa=>
       rw[h0,h1,h2,C]at h;obtain⟨b0,rfl,rfl⟩:=one _ _ h0;obtain⟨b1,rfl,rfl⟩:=one _ _ h1;obtain⟨O,rfl,rfl⟩:=one _ _ h2;obtain⟨b3,rfl,rfl⟩:=one _ _ C;simp at h;exact⟨⟨b0,b1,O,b3⟩,rfl,h.symm⟩
 .cases h
theorem a4K:WideMaps.KeyLaw jI K4T:=deep_law_laid nN (m:=2) nL (of_decide_eq_true nN) nN nN
theorem N9(q:Q4):keyBytes [lI .u8 (q.a.toNat:Int),lI .u8 (q.b.toNat:Int),lI .u8 (q.c.toNat:Int),lI .u8 (q.d.toNat:Int)]=[q.a,q.b,q.c,q.d]:=by
 simp[keyBytes,a6I]
noncomputable def QE:DV jI K4T Q4 where
 kv:=Q4.v
 kl q:=Lit.string [q.a,q.b,q.c,q.d]
 ok q:=True
 K:=Keyed.of_law a4K
 lay q _:=by
  obtain⟨d,hd⟩:=SL;unfold keyOf;simp only[Tryz.underlying224,Za,Bool.true_and];rw[if_pos (by simp[Q4.v,Value.formed,Tryz.underlying224,N8,Q4.cs]),hd,show Q4.v q=.agg q.cs.toArray from rfl,show(Value.agg q.cs.toArray).cells.toList=q.cs from rfl,a13,Option.map_some,N9]
 inv v l h:=by
  obtain⟨d,hd⟩:=SL;unfold keyOf at h;simp only[Tryz.underlying224,Za,Bool.true_and]at h;split at h
  .rename_i A
   rw[hd]at h;cases hk:Tryz.prog.keyLits (d+2) K4T v.cells.toList with
   |none=>rw[hk]at h;cases h
   |some C=>
    rw[hk]at h;obtain⟨q,h1,rfl⟩:=QD _ _ _ hk;rw[Option.map_some,N9]at h;cases h;refine⟨q,?_,rfl⟩;cases v with
    |agg cs=>
     show Value.agg cs=nD q.cs.toArray;have:cs.toList=q.cs:=h1;rw[<-this]
    |_=>simp[Value.formed,Tryz.underlying224]at A
  .cases h
 inj x y h:=by
  cases x;cases y
  simpa using h
 key q:=trivial
end
end Go.Proofs.YtamfcjmhnndbdaaGreatDoor


