/- Part 17 of the proof. -/
import Derived.Test.YtamfcjmhnndbdaaGreatDoorZu08
import Derived.Test.YtamfcjmhnndbdaaGreatDoorZu09
import Derived.Test.YtamfcjmhnndbdaaGreatDoorZu00
import Derived.Test.YtamfcjmhnndbdaaGreatDoorZu03
import Derived.Test.YtamfcjmhnndbdaaGreatDoorZu04
import Derived.Test.YtamfcjmhnndbdaaGreatDoorZu13
import Derived.Test.YtamfcjmhnndbdaaGreatDoorZu14
import Derived.Test.YtamfcjmhnndbdaaGreatDoorZu16
import Derived.Laws.CopyOwn
import Derived.Lib.Strings
import Derived.DeepKeys4
open Go.Value renaming agg→nC,bool→nA,int→ng,pointer→nz,slice→nk,string→ny,tuple→nD,ownBlock→kJ,int→lT
open Go.Obj renaming cells→nG
open Go.IntKind renaming i64→nH,u32→nJ,u64→nI
open Go.Ending renaming returned→nE
open Go.Lib renaming hid→jH
open Go.Proofs.Tryz renaming prog→jI,underlying86→l8,underlying9→mR
open Go renaming World→jJ,Value→jP,Calls→jV,maxLen→j5,TypeId→ko,undef→kH,Oper→lX,Addr→l5,wpQuiet_nil→mJ,Program→mK
open List renaming setIfInBounds_toArray→jK,getElem?_cons_succ→jM,getElem?_cons_zero→jN,getElem?_toArray→jO,set_cons_zero→jQ,set_cons_succ→jR,getElem?_eq_getElem→jX,length_append→jY,take_succ_cons→ky,take_zero→kQ,length_drop→kS,length_take→kY,replicate→lu,append_assoc→lD,getD_eq_getElem?_getD→lN,range→l7,length_eq_zero_iff→mf,map_cons→mH,getElem?_take→mM,size_toArray→mP,take_append_drop→mQ,drop_succ_cons→mX
open Nat renaming le_refl→jL,le_trans→kg,zero_le→kI,add_assoc→kP,le_succ→kX,lt_succ_self→lM
open Go.RowKit renaming Below→jS,Hid→jW,intOf→kW
open Go.RowKit.Below renaming refl→jT
open And renaming intro→jU
open UInt8 renaming ofNat→jZ,toNat_inj→lU
open Bool renaming and_eq_true→j3
open Array renaming getElem?_eq_some_iff→ku,length_toList→kV
open Go.Act renaming put→kE
open Go.Instr renaming index→kR
open Go.Code renaming region→lg
open Go.Lit renaming int→lJ
open Option.some renaming inj→ma,injEq→mI
open Go.Sem renaming run→mi
open Go.World renaming cell?→mW
namespace Go.Proofs.YtamfcjmhnndbdaaGreatDoor
set_option linter.unusedVariables false
set_option linter.unusedSimpArgs false
set_option maxRecDepth 100000
set_option maxHeartbeats 8000000
variable {a0:Act}{ops:Array lX}
section
open Go.RowKit Go.Maps
def SV(W:jJ)(b:Nat)(x y z:jP):jJ:=((W.setCell ⟨b,0,none⟩ x).setCell ⟨b,1,none⟩ y).setCell ⟨b,2,none⟩ z
theorem YV(W:jJ)(b:Nat)(x y z:jP):((W.setCell ⟨b,0,none⟩ x).setCell ⟨b,1,none⟩ y).setCell ⟨b,2,none⟩ z=SV W b x y z:=rfl
theorem U9{W:jJ}{b:Nat}{x y z A C E:jP}{t:ko}(h:nO W b #[x,y,z] t):nO (SV W b A C E) b #[A,C,E] t:=((h.set 0 A).set 1 C).set 2 E
theorem EN{B b:Nat}{w0 W:jJ}{x y z:jP}(h:jS B w0 W)(hb:B<=b):jS B w0 (SV W b x y z):=
 ((h.setCell (p:=⟨b,0,none⟩) hb x).setCell (p:=⟨b,1,none⟩) hb y).setCell (p:=⟨b,2,none⟩) hb z
structure QD(Bs:jJ->Prop)(lim:Nat)(x y z:jP)(da ds:Bool)(va:jP)(W:jJ):Prop where
 bs:Bs W
 al:da=true->∃b,va=nz (some ⟨b,0,none⟩)/\lim<=b/\nO W b (if ds=true then#[x,y,z]else zf3) rq
 lt:lim<=W.heap.size
theorem SX{p:Prop}(h:p:=by
 refine⟨qO _ _ h.bs (hb.mono h.lt),λhd=> ?_,kg h.lt hb.size⟩;obtain⟨b,e,hl,hB⟩:=h.al hd;exact⟨b,e,hl,Below.blk hb hB hB.lt⟩):p:=h
theorem QD.below{Bs:jJ->Prop}{lim:Nat}{x y z:jP}{da ds:Bool}{va:jP}{W A:jJ}(qO:∀W A,Bs W->jS lim W A->Bs A)(h:QD Bs lim x y z da ds va W)(hb:jS W.heap.size W A):QD Bs lim x y z da ds va A:=by
 exact SX
theorem QD.made{Bs:jJ->Prop}{lim:Nat}{x y z va:jP}{W:jJ}(qO:∀W A,Bs W->jS lim W A->Bs A)(h:QD Bs lim x y z false false va W):QD Bs lim x y z true false (nz (some ⟨W.heap.size,0,none⟩)) (W.alloc (nG zf3 rq)):=
 ⟨qO _ _ h.bs ((jT lim W).alloc h.lt _),λ_=>⟨_,rfl,h.lt,nO.new W zf3 rq⟩,by have:=h.lt;simp;omega⟩
theorem QD.fill{Bs:jJ->Prop}{lim:Nat}{x y z va:jP}{W:jJ}(qO:∀W A,Bs W->jS lim W A->Bs A)(h:QD Bs lim x y z true false va W):∃b,va=nz (some ⟨b,0,none⟩)/\nO W b zf3 rq/\QD Bs lim x y z true true va (SV W b x y z):=by
 obtain⟨b,e,hl,hB⟩:=h.al rfl;have hB:nO W b zf3 rq:=hB;exact⟨b,e,hB,qO _ _ h.bs (EN (jT lim W) hl),λ_=>⟨b,e,hl,U9 hB⟩,kg h.lt (EN (jT lim W) hl).size⟩
noncomputable def Lj:List lX:=cO (cL (cR (cR (cB Tryz.f15))))
section
variable (g sb r:Nat)(nm tx:ByteArray)(li:Bool)(oi:Option l5)(ni ci:Nat)(F:vS)(er:Int)(lim:Nat)(Bs:jJ->Prop)
def Ab:Nat->jP
 |0=> nz (some ⟨sb,0,none⟩)
 |1=> nz (some ⟨sb,0,none⟩)
 |2=> nz (some ⟨sb,0,none⟩)
 |3=> nz (some ⟨r,0,none⟩)
 |4=> nC #[ny nm,ny tx,nA li,nk oi ni ci]
 |5=> nD #[nC #[ng nI F.id,ny F.name,ny F.body],ng nH er]
 |6=> nD #[nC #[ng nI F.id,ny F.name,ny F.body],ng nH er]
 |7=> nC #[ng nI F.id,ny F.name,ny F.body]
 |8=> ng nH er
 |11=> ng nH er
 |_=>kH
structure a4q(D:Nat->Bool)(vs:Nat->jP)(w:jJ):Prop where
 oJ:QD Bs lim (ng nI F.id) (ny F.name) (ny F.body) (D 9) (D 10) (vs 9) w
 val:∀j,(j !=9)=true->D j=true->vs j=Ab sb r nm tx li oi ni ci F er j
variable {g sb r nm tx li oi ni ci F er lim Bs}
theorem a1O{D:Nat->Bool}{vs:Nat->jP}{w w':jJ}(h:a4q sb r nm tx li oi ni ci F er lim Bs D vs w){i:Nat}(hi:i≠9/\i≠10)(A:QD Bs lim (ng nI F.id) (ny F.name) (ny F.body) (D 9) (D 10) (vs 9) w->QD Bs lim (ng nI F.id) (ny F.name) (ny F.body) (D 9) (D 10) (vs 9) w'):a4q sb r nm tx li oi ni ci F er lim Bs (zm D i) (zn vs i (Ab sb r nm tx li oi ni ci F er i)) w':=by
 refine⟨?_,uR h.val⟩;rw[nS D (show 9≠i by omega)];rw[nS D (show 10≠i by omega)];rw[oo vs (Ab sb r nm tx li oi ni ci F er i) (show 9≠i by omega)];exact A h.oJ
theorem a4r{id:Nat}{Q:Exit->Act->jJ->Prop}{U:jJ}(ht0:a0.tmps.getD 0 kH=nz (some ⟨sb,0,none⟩))(hb0:∀W,Bs W->W.cell? ⟨sb,0,none⟩=some (nz (some ⟨r,0,none⟩)))(ht3:a0.tmps.getD 3 kH=nz (some ⟨g,0,none⟩))(Uz:∀W,Bs W->nO W g #[ny nm,ny tx,nA li,nk oi ni ci] zq)(qO:∀W J,Bs W->jS lim W J->Bs J)(henc:∀W,Bs W->jV jI 36 #[nz (some ⟨r,0,none⟩),nC #[ny nm,ny tx,nA li,nk oi ni ci]] W λe J=>e=nE (nD #[nC #[ng nI F.id,ny F.name,ny F.body],ng nH er])/\jS W.heap.size W J)(hsz:a0.tmps.size=44)(hI0:∀vs:Nat->jP,(λw=>QD Bs lim (ng nI F.id) (ny F.name) (ny F.body) false false (vs 9) w) U.drew)(V:∀(vs:Nat->jP) (w:jJ),QD Bs lim (ng nI F.id) (ny F.name) (ny F.body) true true (vs 9) w->Q .normal {a0 with tmps:=(((((((((((a0.tmps.setIfInBounds 12 (nz (some ⟨sb,0,none⟩))).setIfInBounds 13 (nz (some ⟨sb,0,none⟩))).setIfInBounds 14 (nz (some ⟨sb,0,none⟩))).setIfInBounds 15 (nz (some ⟨r,0,none⟩))).setIfInBounds 16 (nC #[ny nm,ny tx,nA li,nk oi ni ci])).setIfInBounds 17 (nD #[nC #[ng nI F.id,ny F.name,ny F.body],ng nH er])).setIfInBounds 11 (nD #[nC #[ng nI F.id,ny F.name,ny F.body],ng nH er])).setIfInBounds 18 (nC #[ng nI F.id,ny F.name,ny F.body])).setIfInBounds 19 (ng nH er)).setIfInBounds 6 (vs 9)).setIfInBounds 7 (ng nH er))} w):
  (lg id Lj.toArray true).wp jI Q a0 U:=by
 refine og 12 44 (a4q sb r nm tx li oi ni ci F er lim Bs) nM hsz nM (.inl rfl) nM ?_ ?_ ?_;.exact qF
 .refine rV λA ah=> ?_
  clear hI0 V hsz;replace ht0:=jH ht0;replace hb0:=jH hb0;replace ht3:=jH ht3;replace Uz:=jH Uz;replace qO:=jH qO;replace henc:=jH henc;dsimp+instances only[Lj,cO,cL,cR,cB,Tryz.f15];simp only[ky,kQ,rz];refine⟨?_,?_,?_,?_,?_,?_,?_,?_,?_,?_,?_,?_,trivial⟩<;>(intro D vs a w K hI hd E hw2 C N;subst ah;dsimp+instances only[Lj,cO,cL,cR,cB,Tryz.f15]);have aA:=(C 0 nN).trans ht0.out;rotate_left;have av:=fe C hI.val E 12 0;rotate_left;have ax:=fe C hI.val E 13 1;rotate_left;have hb0:=hb0.out;have Y:=fe C hI.val E 14 2;simp only[Ab]at Y;have c0:=hb0 w hI.oJ.bs;rotate_left;have Uz:=Uz.out;have e3:=(C 3 nN).trans ht3.out;have hB:=Uz w hI.oJ.bs;obtain⟨c0,c1,c2,c3⟩:=hB.a4;clear hB;rotate_left
  .have qO:=qO.out
   have henc:=henc.out;have Z:=fe C hI.val E 15 3;have aa:=fe C hI.val E 16 4;simp only[Ab]at Z aa;have ai:=henc w hI.oJ.bs;clear henc;rw[if_pos (by rfl)];go_simp;refine ai.mono ?_;rintro e aB ⟨rfl,hb⟩;exact N (Ab sb r nm tx li oi ni ci F er 5) _ _ rfl (a1O hI (i:=5) nN λh=>h.below qO hb)
  have ay:=fe C hI.val E 17 5;rotate_left;have ae:=fe C hI.val E 11 6;rotate_left;have ae:=fe C hI.val E 11 6;rotate_left
  .have qO:=qO.out
   have I:=hI.oJ;have d10:=hw2 10 nN nM;rw[hd,d10]at I;go_simp;refine N (nz (some ⟨w.heap.size,0,none⟩)) _ _ rfl ⟨?_,OP rfl hI.val⟩;rw[ow,nS D (show 10≠9 by decide),p9,d10];exact I.made qO
  .have qO:=qO.out
   have d9:=E 9 nN nM;have af:a.tmps.getD 6 kH=vs 9:=C 6 nN;have ag:=fe C hI.val E 18 7;simp only[Ab]at ag;have I:=hI.oJ;rw[d9,hd]at I;obtain⟨b,ev,hB,aj⟩:=I.fill qO;have af:=af.trans ev;have z0:=hB.cell 0;have ak:=hB.cell 1;have au:=hB.cell 2;obtain⟨aC,f1,f2⟩:=hB.f3;simp only[zf3,jO,jN,jM]at z0 ak au;go_simp;rw[YV];refine N kH _ _ rfl ⟨?_,uR hI.val⟩;rw[ow,nS D (show 9≠10 by decide),oo vs _ (show 9≠10 by decide),d9];exact aj
  have az:=fe C hI.val E 19 8;rotate_left
  all_goals
   try simp only[Ab]at*
   go_simp;exact N _ _ _ rfl ⟨hI.oJ,uR hI.val⟩
 .intro D vs w O hI
  have E:=hI.oJ;rw[O 9 nN]at E;rw[O 10 nN]at E;have q:=V vs w E;rw[oW hI.val O];dsimp+instances only[Lj,cO,cL,cR,cB,Tryz.f15];exact qD
end
noncomputable def Ll:List lX:=cO (cL (cR (cR (cR (cR (cB Tryz.f15))))))
section
variable (sb r fb:Nat)(c:oK)(F:vS)(T:ByteArray)(er:Int)(Bs:jJ->Prop)
def Ac:Nat->jP
 |0=> nz (some ⟨sb,0,none⟩)
 |1=> nz (some ⟨sb,0,none⟩)
 |2=> nz (some ⟨sb,0,none⟩)
 |3=> nz (some ⟨r,0,none⟩)
 |4=> nC #[ng nH c.fmt,ng nJ c.mag,ng nH c.pO,ng nH c.qj,ng nH c.dep,ng nH c.oZ]
 |5=> nC #[ng nI F.id,ny F.name,ny F.body]
 |6=> nD #[ny T,ng nH er]
 |7=> nD #[ny T,ng nH er]
 |8=> ny T
 |9=> ng nH er
 |10=> ny T
 |11=> ng nH er
 |_=>kH
structure a4s(D:Nat->Bool)(vs:Nat->jP)(w:jJ):Prop where
 oJ:Bs w
 val:∀j,(true)=true->D j=true->vs j=Ac sb r c F T er j
variable {sb r fb c F T er Bs}
theorem SY{D:Nat->Bool}{vs:Nat->jP}{w w':jJ}(h:a4s sb r c F T er Bs D vs w){i:Nat}(hi:True)(A:Bs w->Bs w'):a4s sb r c F T er Bs (zm D i) (zn vs i (Ac sb r c F T er i)) w':=by
 refine⟨?_,uR h.val⟩;exact A h.oJ
theorem a4t{id:Nat}{Q:Exit->Act->jJ->Prop}{O:jJ}(ht0:a0.tmps.getD 0 kH=nz (some ⟨sb,0,none⟩))(hb0:∀W,Bs W->W.cell? ⟨sb,0,none⟩=some (nz (some ⟨r,0,none⟩)))(qO:∀W I,Bs W->jS W.heap.size W I->Bs I)(QE:∀W,Bs W->jV jI 38 #[nz (some ⟨r,0,none⟩)] W λe I=>e=nE (nC #[ng nH c.fmt,ng nJ c.mag,ng nH c.pO,ng nH c.qj,ng nH c.dep,ng nH c.oZ])/\jS W.heap.size W I)(Aq:a0.tmps.getD 6 kH=nz (some ⟨fb,0,none⟩))(hbf:∀W,Bs W->nO W fb #[ng nI F.id,ny F.name,ny F.body] rq)(hput:∀W,Bs W->jV jI 37 #[nC #[ng nH c.fmt,ng nJ c.mag,ng nH c.pO,ng nH c.qj,ng nH c.dep,ng nH c.oZ],nC #[ng nI F.id,ny F.name,ny F.body]] W (pR T er W))(hsz:a0.tmps.size=44)(hI0:∀vs:Nat->jP,(λw=>Bs w) O.drew)(U:∀(vs:Nat->jP) (w:jJ),Bs w->Q .normal {a0 with tmps:=((((((((((((a0.tmps.setIfInBounds 24 (nz (some ⟨sb,0,none⟩))).setIfInBounds 25 (nz (some ⟨sb,0,none⟩))).setIfInBounds 26 (nz (some ⟨sb,0,none⟩))).setIfInBounds 27 (nz (some ⟨r,0,none⟩))).setIfInBounds 28 (nC #[ng nH c.fmt,ng nJ c.mag,ng nH c.pO,ng nH c.qj,ng nH c.dep,ng nH c.oZ])).setIfInBounds 29 (nC #[ng nI F.id,ny F.name,ny F.body])).setIfInBounds 30 (nD #[ny T,ng nH er])).setIfInBounds 23 (nD #[ny T,ng nH er])).setIfInBounds 31 (ny T)).setIfInBounds 32 (ng nH er)).setIfInBounds 8 (ny T)).setIfInBounds 7 (ng nH er))} w):
  (lg id Ll.toArray true).wp jI Q a0 O:=by
 refine og 12 44 (a4s sb r c F T er Bs) nM hsz nM (.inl rfl) nM ?_ ?_ ?_;.exact qF
 .refine rV λA af=> ?_
  clear hI0 U hsz;replace ht0:=jH ht0;replace hb0:=jH hb0;replace qO:=jH qO;replace QE:=jH QE;replace Aq:=jH Aq;replace hbf:=jH hbf;replace hput:=jH hput;dsimp+instances only[Ll,cO,cL,cR,cB,Tryz.f15];simp only[ky,kQ,rz];refine⟨?_,?_,?_,?_,?_,?_,?_,?_,?_,?_,?_,?_,trivial⟩<;>(intro D vs a w K hI hd E hw2 C J;subst af;dsimp+instances only[Ll,cO,cL,cR,cB,Tryz.f15]);have ax:=(C 0 nN).trans ht0.out;rotate_left;have ai:=fe C hI.val E 24 0;rotate_left;have aj:=fe C hI.val E 25 1;rotate_left;have hb0:=hb0.out;have V:=fe C hI.val E 26 2;simp only[Ac]at V;have c0:=hb0 w hI.oJ;rotate_left
  .have qO:=qO.out
   have QE:=QE.out;have Y:=fe C hI.val E 27 3;simp only[Ac]at Y;have N:=QE w hI.oJ;clear QE;rw[if_pos (by rfl)];go_simp;refine N.mono ?_;rintro e ag ⟨rfl,hb⟩;exact J (Ac sb r c F T er 4) _ _ rfl (SY hI (i:=4) nN λh=>qO _ _ h hb)
  have hbf:=hbf.out;have ay:=(C 6 nN).trans Aq.out;have hB:=hbf w hI.oJ;obtain⟨c0,c1,c2⟩:=hB.a3;clear hB;rotate_left
  .have qO:=qO.out
   have hput:=hput.out;have Z:=fe C hI.val E 28 4;have aa:=fe C hI.val E 29 5;simp only[Ac]at Z aa;have N:=hput w hI.oJ;clear hput;rw[if_pos (by rfl)];go_simp;refine N.mono ?_;rintro e ag ⟨rfl,hb⟩;exact J (Ac sb r c F T er 6) _ _ rfl (SY hI (i:=6) nN λh=>qO _ _ h hb)
  have ak:=fe C hI.val E 30 6;rotate_left;have ae:=fe C hI.val E 23 7;rotate_left;have ae:=fe C hI.val E 23 7;rotate_left;have au:=fe C hI.val E 31 8;rotate_left;have av:=fe C hI.val E 32 9;rotate_left
  all_goals
   try simp only[Ac]at*
   go_simp;exact J _ _ _ rfl ⟨hI.oJ,uR hI.val⟩
 .intro D vs w ah hI
  have E:=hI.oJ;have q:=U vs w E;rw[oW hI.val ah];dsimp+instances only[Ll,cO,cL,cR,cB,Tryz.f15];exact qD
end
def Bl(A:Int)(T:ByteArray)(C:Int):ByteArray×Int:=if A≠0 then(⟨#[]⟩,A)else if C≠0 then(⟨#[]⟩,C)else(T,0)
theorem ze.a81{w0:jJ}{G sb r:Nat}{bv:jP}{buf:List UInt8}{nd fa la tt se:Int}{W:jJ}(h:ze w0 G sb r bv buf nd fa la tt se W)(x:Int):ze w0 G sb r bv buf nd fa la tt x (W.setCell ⟨sb,6,none⟩ (ng nH x)):=⟨h.ss.set 6 _,h.kp 6 _,h.bwp 6 _,h.lt⟩
theorem YW(G sb r bn bi:Nat)(c:oK)(L:List oV)(buf:List UInt8)(nd fa:Int)(nm tx:ByteArray)(li:Bool)(oi:Option l5)(ni ci:Nat)(F:vS)(A C:Int)(T:ByteArray)(w:jJ)(hs:xI w G r sb buf nd fa)(hlt:G<=sb/\G<=w.heap.size)(U:∀W,jS G w W->qp r bn bi c L W)(henc:∀W,jS w.heap.size w W->jV jI 36 #[nz (some ⟨r,0,none⟩),nC #[ny nm,ny tx,nA li,nk oi ni ci]] W λe aH=>e=nE (nD #[nC #[ng nI F.id,ny F.name,ny F.body],ng nH A])/\jS W.heap.size W aH)(hput:A=0->∀W,jS w.heap.size w W->jV jI 37 #[nC #[ng nH c.fmt,ng nJ c.mag,ng nH c.pO,ng nH c.qj,ng nH c.dep,ng nH c.oZ],nC #[ng nI F.id,ny F.name,ny F.body]] W (pR T C W)):
  jV jI 15 #[nz (some ⟨sb,0,none⟩),nC #[ny nm,ny tx,nA li,nk oi ni ci]] w λe w'=>e=nE (nD #[ny (Bl A T C).1,ng nH (Bl A T C).2])/\xI w' G r sb buf nd fa/\jS G w w':=by
 obtain⟨bv,la,tt,se,N,ai⟩:=hs;obtain⟨g,hg⟩:=nT w.heap.size;have aL:=jH (show ze w G sb r bv buf nd fa la tt se w from⟨N,ai,jT G w,hlt.1,N.lt,hlt.2⟩);have aj:jW (∀W,w.alloc (nG #[ny nm,ny tx,nA li,nk oi ni ci] zq)=W->jS g w W/\nO W g #[ny nm,ny tx,nA li,nk oi ni ci] zq/\W.heap.size=g+1):=jH λW hW=>by
  exact SN
 have aM:=jH N;have aB:=jH henc;have aC:=jH hput;have aD:=jH U;have aI:jW (G<=g/\sb<g):=jH ⟨hg▸hlt.2,hg▸N.lt⟩;obtain⟨aN,V⟩:=nT (Bl A T C);have Y:=jH V;rw[V];obtain⟨RT,aF⟩:=aN;dsimp only;clear N ai hlt U henc hput V;go_in;go_upto_region 3 with fail;obtain⟨ak,au,av⟩:=aj.out _ rfl;generalize w.alloc _=w1 at*;have Q:=jH (jU ak (jU au av));clear aj ak au av;have Z:∀W,jS (g+1) w1 W->jS g w W:=λW hW=>Q.1.trans (hW.mono (kX g))
 have aa:∀W,jS (g+1) w1 W->nO W sb (E5 r bv nd fa la tt se) K4:=λW hW=>Below.blk (Z W hW) aM aI.2
 have hb0:∀W,jS (g+1) w1 W->W.cell? ⟨sb,0,none⟩=some (nz (some ⟨r,0,none⟩)):=λW hW=>(aa W hW).cell 0
 have Uz:∀W,jS (g+1) w1 W->nO W g #[ny nm,ny tx,nA li,nk oi ni ci] zq:=λW hW=>Below.blk hW Q.2.1 (lM g)
 have ae:QD (jS (g+1) w1) (g+1) (ng nI F.id) (ny F.name) (ny F.body) false false kH w1.drew:=⟨(oz w1).mono (by rw[Q.2.2];exact jL _),(λh=>by cases h),by rw[<-Q.2.2];exact(oz w1).size⟩;have af:=jH Z;refine a4r (g:=g) (sb:=sb) (r:=r) (nm:=nm) (tx:=tx) (li:=li) (oi:=oi) (ni:=ni) (ci:=ci) (F:=F) (er:=A) (lim:=g+1) (Bs:=jS (g+1) w1) (ht0:=by rfl) (ht3:=by rfl) (hb0:=hb0) (Uz:=Uz) (qO:=λ_ _ h hb=>h.trans hb) (henc:=λW hW=>aB.out W (hg.symm▸af.out W hW)) (hsz:=by rfl) (hI0:=λ_=>⟨ae.bs,(λh=>by cases h),ae.lt⟩) ?_;intro vs J hF;obtain⟨fb,ev,aJ,ax⟩:=hF.al rfl;have ay:ze w G sb r bv buf nd fa la tt se J:=aL.below (hg.symm▸af.out J hF.bs);have E:=jH (jU hF.bs (jU (ax:nO J fb #[ng nI F.id,ny F.name,ny F.body] rq) (jU ay hF.lt)));clear hF aJ ax ay ae Z aa hb0 Uz;simp only[jK,jQ,jR];rw[ev];by_cases ag:A=0
 .subst ag
  go_upto_region 6 with fail;have az:∀W,jS J.heap.size J W->jS g w W:=λW hW=>(af J E.1).trans (hW.mono (by have:=E.2.2.2;omega))
  have aA:=jH az;refine a4t (sb:=sb) (r:=r) (fb:=fb) (c:=c) (F:=F) (T:=T) (er:=C) (Bs:=jS J.heap.size J) (ht0:=by rfl) (Aq:=by rfl) (hb0:=λW hW=>(Below.blk hW E.2.2.1.ss E.2.2.1.ss.lt).cell 0) (qO:=λW aH h hb=>h.trans (hb.mono h.size)) (QE:=λW hW=>Hf r bn bi c L W (aD W ((aA W hW).mono aI.1))) (hbf:=λW hW=>Below.blk hW E.2.1 E.2.1.lt) (hput:=λW hW=>aC.out rfl W (hg.symm▸aA.out W hW)) (hsz:=by rfl) (hI0:=λ_=>oz J) ?_;intro aO aP aK;have I:=jH (E.2.2.1.below aK);clear aK az;simp only[jK,jQ,jR];by_cases ah:C=0
  .subst ah
   have O:jW (RT=T/\aF=0):=jH (by have:=Y.out;unfold Bl at this;rw[if_neg nR,if_neg nR]at this;injection this with a b;exact⟨a.symm,b.symm⟩);have c6:=I.ss.cell 6;have aQ:=I.ss.free 6;simp only[E5,jO,jN,jM]at c6;go_wp2_with fail;try go_returns
   refine⟨by rw[O.1,O.2];rfl,?_⟩;have aG:=λx=>I.a81 x
   exact⟨⟨_,_,_,_,(aG _).ss,(aG _).ob⟩,(aG _).bw⟩
  .have aR:(C !=0)=true:=by simp[ah]
   have O:jW (RT=⟨#[]⟩/\aF=C):=jH (by have:=Y.out;unfold Bl at this;rw[if_neg nR,if_pos ah]at this;injection this with a b;exact⟨a.symm,b.symm⟩);clear ah;go_wp2_with fail;try go_returns
   exact⟨by rw[O.1,O.2];rfl,⟨_,_,_,_,I.ss,I.ob⟩,I.bw⟩
 .have aS:(A !=0)=true:=by simp[ag]
  have O:jW (RT=⟨#[]⟩/\aF=A):=jH (by have:=Y.out;unfold Bl at this;rw[if_pos ag]at this;injection this with a b;exact⟨a.symm,b.symm⟩);clear ag;go_wp2_with fail;try go_returns
  exact⟨by rw[O.1,O.2];rfl,⟨_,_,_,_,E.2.2.1.ss,E.2.2.1.ob⟩,E.2.2.1.bw⟩
end
section
open Go.RowKit
abbrev WfT:ko:=141
def Va:Array jP:=#[.nilFunc,.nilFunc,.nilFunc,.nilFunc]
structure S9(Bs:jJ->Prop)(lim:Nat)(x y z u:jP)(da ds:Bool)(va:jP)(W:jJ):Prop where
 bs:Bs W
 al:da=true->∃b,va=nz (some ⟨b,0,none⟩)/\lim<=b/\nO W b (if ds=true then#[x,y,z,u]else Va) WfT
 lt:lim<=W.heap.size
section
variable {Bs:jJ->Prop}{lim:Nat}{x y z u:jP}{da ds:Bool}{va:jP}{W W':jJ}
theorem S9.below(qO:∀W W',Bs W->jS lim W W'->Bs W')(h:S9 Bs lim x y z u da ds va W)(hb:jS W.heap.size W W'):S9 Bs lim x y z u da ds va W':=by
 exact SX
theorem S9.made(qO:∀W W',Bs W->jS lim W W'->Bs W')(h:S9 Bs lim x y z u false false va W):S9 Bs lim x y z u true false (nz (some ⟨W.heap.size,0,none⟩)) (W.alloc (nG Va WfT)):=
 ⟨qO _ _ h.bs ((jT lim W).alloc h.lt _),λ_=>⟨_,rfl,h.lt,nO.new W Va WfT⟩,by have:=h.lt;simp;omega⟩
theorem S9.fill(qO:∀W W',Bs W->jS lim W W'->Bs W')(h:S9 Bs lim x y z u true false va W):∃b,va=nz (some ⟨b,0,none⟩)/\nO W b Va WfT/\S9 Bs lim x y z u true true va (yQ W b x y z u):=by
 obtain⟨b,e,hl,hB⟩:=h.al rfl;have hB:nO W b Va WfT:=hB;exact⟨b,e,hB,qO _ _ h.bs (tY (jT lim W) hl),λ_=>⟨b,e,hl,rD hB⟩,kg h.lt (tY (jT lim W) hl).size⟩
end
noncomputable def FH:List lX:=cO (cL (cR (cR (cB Tryz.f37))))
section
variable (g:Nat)(c:oK)(f1 f2 f3 f4:FuncId)(lim:Nat)(Bs:jJ->Prop)
def yZ:Nat->jP
 |0=> nC zi
 |1=> nz (some ⟨g,0,none⟩)
 |2=> ng nH c.fmt
 |3=> nC #[.func (.func f1) #[] #[],.func (.func f2) #[] #[],.func (.func f3) #[] #[],.func (.func f4) #[] #[]]
 |_=>kH
structure YX(D:Nat->Bool)(vs:Nat->jP)(w:jJ):Prop where
 oJ:S9 Bs lim (.func (.func f1) #[] #[]) (.func (.func f2) #[] #[]) (.func (.func f3) #[] #[]) (.func (.func f4) #[] #[]) (D 4) (D 5) (vs 4) w
 val:∀j,(j !=4)=true->D j=true->vs j=yZ g c f1 f2 f3 f4 j
variable {g c f1 f2 f3 f4 lim Bs}
theorem YY{D:Nat->Bool}{vs:Nat->jP}{w w':jJ}(h:YX g c f1 f2 f3 f4 lim Bs D vs w){i:Nat}(hi:i≠4/\i≠5)(A:S9 Bs lim (.func (.func f1) #[] #[]) (.func (.func f2) #[] #[]) (.func (.func f3) #[] #[]) (.func (.func f4) #[] #[]) (D 4) (D 5) (vs 4) w->S9 Bs lim (.func (.func f1) #[] #[]) (.func (.func f2) #[] #[]) (.func (.func f3) #[] #[]) (.func (.func f4) #[] #[]) (D 4) (D 5) (vs 4) w'):YX g c f1 f2 f3 f4 lim Bs (zm D i) (zn vs i (yZ g c f1 f2 f3 f4 i)) w':=by
 refine⟨?_,uR h.val⟩;rw[nS D (show 4≠i by omega)];rw[nS D (show 5≠i by omega)];rw[oo vs (yZ g c f1 f2 f3 f4 i) (show 4≠i by omega)];exact A h.oJ
theorem a1P{id:Nat}{Q:Exit->Act->jJ->Prop}{O:jJ}(qO:∀W U,Bs W->jS lim W U->Bs U)(ht2:a0.tmps.getD 2 kH=nz (some ⟨g,0,none⟩))(hbc:∀W,Bs W->W.cell? ⟨g,0,none⟩=some (ng nH c.fmt))(hix:∀W,mi jI (kR 142 (nC zi) (ng nH c.fmt)) W=.ok (nC #[.func (.func f1) #[] #[],.func (.func f2) #[] #[],.func (.func f3) #[] #[],.func (.func f4) #[] #[]]) W)(hsz:a0.tmps.size=48)(hI0:∀vs:Nat->jP,(λw=>S9 Bs lim (.func (.func f1) #[] #[]) (.func (.func f2) #[] #[]) (.func (.func f3) #[] #[]) (.func (.func f4) #[] #[]) false false (vs 4) w) O.drew)(V:∀(vs:Nat->jP) (w:jJ),S9 Bs lim (.func (.func f1) #[] #[]) (.func (.func f2) #[] #[]) (.func (.func f3) #[] #[]) (.func (.func f4) #[] #[]) true true (vs 4) w->Q .normal {a0 with tmps:=(((((a0.tmps.setIfInBounds 15 (nC zi)).setIfInBounds 16 (nz (some ⟨g,0,none⟩))).setIfInBounds 17 (ng nH c.fmt)).setIfInBounds 18 (nC #[.func (.func f1) #[] #[],.func (.func f2) #[] #[],.func (.func f3) #[] #[],.func (.func f4) #[] #[]])).setIfInBounds 6 (vs 4))} w):
  (lg id FH.toArray true).wp jI Q a0 O:=by
 refine og 6 48 (YX g c f1 f2 f3 f4 lim Bs) nM hsz nM (.inl rfl) nM ?_ ?_ ?_;.exact qF
 .refine rV λA ag=> ?_
  clear hI0 V hsz;replace qO:=jH qO;replace ht2:=jH ht2;replace hbc:=jH hbc;replace hix:=jH hix;dsimp+instances only[FH,cO,cL,cR,cB,Tryz.f37];simp only[ky,kQ,rz];refine⟨?_,?_,?_,?_,?_,?_,trivial⟩<;>(intro D vs a w K hI hd E hw2 C J;subst ag;dsimp+instances only[FH,cO,cL,cR,cB,Tryz.f37])
  .have qO:=qO.out
   have ah:=Cu w;rw[if_pos (by rfl)];go_simp;refine ah.mono ?_;rintro e au ⟨rfl,hb⟩;exact J (yZ g c f1 f2 f3 f4 0) _ _ rfl (YY hI (i:=0) nN λh=>h.below qO hb)
  have e2:=(C 2 nN).trans ht2.out;rotate_left;have hbc:=hbc.out;have Y:=fe C hI.val E 16 1;simp only[yZ]at Y;have c0:=hbc w hI.oJ.bs;rotate_left;have hix:=hix.out;have Z:=fe C hI.val E 15 0;have aa:=fe C hI.val E 17 2;simp only[yZ]at Z aa;have q:=hix w;rotate_left
  .have qO:=qO.out
   have I:=hI.oJ;have d5:=hw2 5 nN nM;rw[hd,d5]at I;go_simp;refine J (nz (some ⟨w.heap.size,0,none⟩)) _ _ rfl ⟨?_,OP rfl hI.val⟩;rw[ow,nS D (show 5≠4 by decide),p9,d5];exact I.made qO
  .have qO:=qO.out
   have d4:=E 4 nN nM;have ae:a.tmps.getD 6 kH=vs 4:=C 6 nN;have af:=fe C hI.val E 18 3;simp only[yZ]at af;have I:=hI.oJ;rw[d4,hd]at I;obtain⟨b,ev,hB,ai⟩:=I.fill qO;have ae:=ae.trans ev;have z0:=hB.cell 0;have aj:=hB.cell 1;have ak:=hB.cell 2;have z3:=hB.cell 3;obtain⟨av,ax,ay,az⟩:=hB.f4;simp only[Va,jO,jN,jM]at z0 aj ak z3;go_simp;rw[tJ];refine J kH _ _ rfl ⟨?_,uR hI.val⟩;rw[ow,nS D (show 4≠5 by decide),oo vs _ (show 4≠5 by decide),d4];exact ai
  all_goals
   go_simp;exact J _ _ _ rfl ⟨hI.oJ,uR hI.val⟩
 .intro D vs w N hI
  have E:=hI.oJ;rw[N 4 nN]at E;rw[N 5 nN]at E;have q:=V vs w E;rw[oW hI.val N];dsimp+instances only[FH,cO,cL,cR,cB,Tryz.f37];exact qD
end
end
section
open Go.RowKit Go.Maps
def Dp(A:Bool)(P:ByteArray)(er:Int)(C:Nat):ByteArray×Int:=
 if A=false then(⟨#[]⟩,1)else if er≠0 then(⟨#[]⟩,er)else if C=5 then(⟨#[]⟩,5)else(P,0)
theorem wpB{g b:Nat}{c1 c2 c3:Array jP}{C E t3:ko}{w W A:jJ}(h:nO W g c1 C/\nO W (g+1) c2 E/\jS w.heap.size w W/\nO W b c3 t3)(hb:jS W.heap.size W A):
  nO A g c1 C/\nO A (g+1) c2 E/\jS w.heap.size w A/\nO A b c3 t3:=
 ⟨Below.blk hb h.1 h.1.lt,Below.blk hb h.2.1 h.2.1.lt,h.2.2.1.trans (hb.mono h.2.2.1.size),Below.blk hb h.2.2.2 h.2.2.2.lt⟩
theorem YZ{p:Prop}(h:p:=by
 have a1:=(jT w.heap.size w).alloc (jL _) (nG #[ng nH c.fmt,ng nJ c.mag,ng nH c.pO,ng nH c.qj,ng nH c.dep,ng nH c.oZ] tV);have k2:=nO.new (w.alloc (nG #[ng nH c.fmt,ng nJ c.mag,ng nH c.pO,ng nH c.qj,ng nH c.dep,ng nH c.oZ] tV)) #[ng nI F.id,ny F.name,ny F.body] rq;rw[show(w.alloc (nG #[ng nH c.fmt,ng nJ c.mag,ng nH c.pO,ng nH c.qj,ng nH c.dep,ng nH c.oZ] tV)).heap.size=g+1 by simp[hg]]at k2;exact⟨(hg▸nO.new w _ _:nO _ g _ _).alloc _,k2,a1.alloc nR _⟩):p:=h
theorem Vb(c:oK)(F:vS)(f1 f2 f3 f4:FuncId)(I:Bool)(P:ByteArray)(er:Int)(y:R8)(w:jJ)(hc:oM c=true)(hix:∀W,mi jI (kR 142 (nC zi) (ng nH c.fmt)) W=.ok (nC #[.func (.func f1) #[] #[],.func (.func f2) #[] #[],.func (.func f3) #[] #[],.func (.func f4) #[] #[]]) W)(aN:∀a W,mi jI (callFunc f1 #[a]) W=.ok (.enter f1 #[a]) W)(aO:∀a b W,mi jI (callFunc f2 #[a,b]) W=.ok (.enter f2 #[a,b]) W)(aP:∀a b d W,mi jI (callFunc f3 #[a,b,d]) W=.ok (.enter f3 #[a,b,d]) W)(ae:∀W,jV jI f1 #[nC #[ng nI F.id,ny F.name,ny F.body]] W λe w'=>e=nE (nA I)/\jS W.heap.size W w')(hput:I=true->∀W,jS w.heap.size w W->jV jI f2 #[nC #[ng nH c.fmt,ng nJ c.mag,ng nH c.pO,ng nH c.qj,ng nH c.dep,ng nH c.oZ],nC #[ng nI F.id,ny F.name,ny F.body]] W (pR P er W))(hnext:er=0->∀W,jV jI f3 #[nC #[ng nH c.fmt,ng nJ c.mag,ng nH c.pO,ng nH c.qj,ng nH c.dep,ng nH c.oZ],nz none,ny P] W λe w'=>e=nE (nD #[nC #[ng nI y.id,ny y.name,ny y.body],ng nH y.n,ng nH y.e])/\jS W.heap.size W w'):
  jV jI 37 #[nC #[ng nH c.fmt,ng nJ c.mag,ng nH c.pO,ng nH c.qj,ng nH c.dep,ng nH c.oZ],nC #[ng nI F.id,ny F.name,ny F.body]] w (pR (Dp I P er y.e).1 (Dp I P er y.e).2 w):=by
 obtain⟨g,hg⟩:=nT w.heap.size;have aj:jW (∀W,(w.alloc (nG #[ng nH c.fmt,ng nJ c.mag,ng nH c.pO,ng nH c.qj,ng nH c.dep,ng nH c.oZ] tV)).alloc (nG #[ng nI F.id,ny F.name,ny F.body] rq)=W->nO W g #[ng nH c.fmt,ng nJ c.mag,ng nH c.pO,ng nH c.qj,ng nH c.dep,ng nH c.oZ] tV/\nO W (g+1) #[ng nI F.id,ny F.name,ny F.body] rq/\jS w.heap.size w W):=jH λW aB=>by
  subst aB;exact YZ
 have aD:jW (∀W,jV jI 67 #[nC #[ng nH c.fmt,ng nJ c.mag,ng nH c.pO,ng nH c.qj,ng nH c.dep,ng nH c.oZ]] W λe w'=>e=nE (nA true)/\jS W.heap.size W w'):=jH λW=>hc▸BH c W
 have aJ:=jH ae;have aK:=jH hput;have aL:=jH hnext;have ak:=jH hix;obtain⟨aF,af⟩:=nT (Dp I P er y.e);have ah:=jH af;obtain⟨aM,aC⟩:=nT (pR aF.1 aF.2 w);have ai:=jH aC;rw[af,aC];clear hc hix ae hput hnext aC af;go_in;go_upto_region 1 with fail;obtain⟨ag,au,av⟩:=aj.out _ rfl;generalize (w.alloc _).alloc _=w1 at*;obtain⟨c0,c1,c2,c3,c4,c5⟩:=ag.a6;have E:=jH (jU ag (jU au av));clear ag au av aj;go_wp2_with fail;refine(aD _).mono ?_;rintro e w2 ⟨rfl,U⟩;have A:jW (nO w2 g #[ng nH c.fmt,ng nJ c.mag,ng nH c.pO,ng nH c.qj,ng nH c.dep,ng nH c.oZ] tV/\nO w2 (g+1) #[ng nI F.id,ny F.name,ny F.body] rq/\jS w.heap.size w w2):=jH ⟨Below.blk U E.1 E.1.lt,Below.blk U E.2.1 E.2.1.lt,E.2.2.trans (U.mono E.2.2.size)⟩;clear c0 c1 c2 c3 c4 c5 U E aD;go_upto_region 3 with fail;refine a1P (g:=g) (c:=c) (f1:=f1) (f2:=f2) (f3:=f3) (f4:=f4) (lim:=w2.heap.size) (Bs:=jS w2.heap.size w2) (ht2:=by rfl) (qO:=λ_ _ h hb=>h.trans hb) (hbc:=λW aB=>(Below.blk aB A.1 A.1.lt).cell 0) (hix:=ak.out) (hsz:=by rfl) (hI0:=λ_=>⟨oz w2,(λh=>by cases h),(oz w2).size⟩) ?_;intro vs W3 hF;obtain⟨b,ev,aG,ax⟩:=hF.al rfl;have V:jW (nO W3 g #[ng nH c.fmt,ng nJ c.mag,ng nH c.pO,ng nH c.qj,ng nH c.dep,ng nH c.oZ] tV/\nO W3 (g+1) #[ng nI F.id,ny F.name,ny F.body] rq/\jS w.heap.size w W3/\nO W3 b #[.func (.func f1) #[] #[],.func (.func f2) #[] #[],.func (.func f3) #[] #[],.func (.func f4) #[] #[]] WfT):=jH ⟨Below.blk hF.bs A.1 A.1.lt,Below.blk hF.bs A.2.1 A.2.1.lt,A.2.2.trans (hF.bs.mono A.2.2.size),ax⟩;clear hF aG ax A ak;simp only[jK,jQ,jR];rw[ev];obtain⟨J,N,O⟩:=V.2.2.2.a3;obtain⟨c0,c1,c2,c3,c4,c5⟩:=V.1.a6;obtain⟨z0,Z,aa⟩:=V.2.1.a3;go_wp2_with fail;refine(aJ _).mono ?_;rintro e aQ ⟨rfl,ay⟩;have C:=jH (wpB V ay);clear ay J N O c0 c1 c2 c3 c4 c5 z0 Z aa;cases I with
 |false=>
  obtain⟨J,N,O⟩:=C.2.2.2.a3;obtain⟨c0,c1,c2,c3,c4,c5⟩:=C.1.a6;obtain⟨z0,Z,aa⟩:=C.2.1.a3;go_wp2_with fail;try go_returns
  rw[<-ai.out,<-ah.out];exact⟨by rfl,C.2.2.1⟩
 |true=>
  obtain⟨J,N,O⟩:=C.2.2.2.a3;obtain⟨c0,c1,c2,c3,c4,c5⟩:=C.1.a6;obtain⟨z0,Z,aa⟩:=C.2.1.a3;go_wp2_with fail;refine(aK (by trivial) _ C.2.2.1).mono ?_;rintro e aR ⟨rfl,az⟩;have Q:=jH (wpB C az);clear az J N O c0 c1 c2 c3 c4 c5 z0 Z aa;obtain⟨J,N,O⟩:=Q.2.2.2.a3;obtain⟨c0,c1,c2,c3,c4,c5⟩:=Q.1.a6;obtain⟨z0,Z,aa⟩:=Q.2.1.a3;by_cases h0:er=0
  .subst h0
   go_wp2_with fail;refine(aL (by trivial) _).mono ?_;rintro e aS ⟨rfl,aA⟩;have Y:=jH (wpB Q aA);clear aA J N O c0 c1 c2 c3 c4 c5 z0 Z aa;by_cases aH:y.e=5
   .have aI:((y.e:Int)==5)=true:=Ty
    go_wp2_with fail;try go_returns
    rw[<-ai.out,<-ah.out];exact⟨by unfold Dp;rw[if_neg nN,if_neg nN,if_pos aH];rfl,Y.2.2.1.trans ((jT _ _).alloc Y.2.2.1.size _)⟩
   .have aI:((y.e:Int)==5)=false:=wL
    go_wp2_with fail;try go_returns
    rw[<-ai.out,<-ah.out];exact⟨by unfold Dp;rw[if_neg nN,if_neg nN,if_neg aH];rfl,Y.2.2.1.trans ((jT _ _).alloc Y.2.2.1.size _)⟩
  .have aI:((er:Int)==0)=false:=by rw[beq_eq_false_iff_ne];exact h0
   go_wp2_with fail;try go_returns
   rw[<-ai.out,<-ah.out];exact⟨by unfold Dp;rw[if_neg nN,if_pos h0];rfl,Q.2.2.1⟩
end
section
open Go.RowKit
section
variable {P:mK}
theorem Lp(w:jJ)(J N ty elem:ko)(g C E:Nat)(s:ByteArray)(A:Array jP)(t:ko)(O:P.underlying J=some (.slice elem))(hs:(P.info? elem).map (·.size)=some 1)(hg:w.heap[g]? =some (.cells A t (0,0)))(hn:s.size<=C)(Q:s.size<=A.size):
  (Builtin.copy_ #[J,N] ty #[nk (some ⟨g,0,none⟩) C E,ny s]).run P w=.ok (goInt s.size) (w.setRow g (nU s.data.toList++A.toList.drop s.size).toArray):=by
 have hl:(nU s.data.toList).length=s.size:=nR;have hst:=run_storeCells_at P g 0 t (nU s.data.toList) 0 A w hg (by rw[hl];omega) (rM _);have he:(s.extract 0 s.size)=s:=nR;cases I:P.info? elem with
 |none=>simp[I]at hs
 |some i=>
  have hi:i.size=1:=by simpa [I]using hs
  have hb:(Array.map (λb:UInt8=>lT .u8 (b.toNat:Int)) s.data).toList=nU s.data.toList:=by simp[nU]
  simp[Builtin.copy_,run_underlying O,Builtin.lenOf,Builtin.firstCells,sizeOf,typeInfo,I,hi,Nat.min_eq_left hn,he,nU]at hst⊢;have ht:List.take s.size (List.map (λb:UInt8=>lT .u8 (b.toNat:Int)) s.data.toList)=List.map (λb:UInt8=>lT .u8 (b.toNat:Int)) s.data.toList:=List.take_of_length_le nR;rw[ht,hst];rfl
end
def uU(s:ByteArray):List UInt8:=s.data.toList++lu (12 - s.size) 0
theorem uQ(s:ByteArray)(h:s.size<=12):(uU s).length=12:=by simp[uU];omega
theorem yE{s:ByteArray}(h:qX s.data.toList=true):1<=s.size/\s.size<=12:=by
 simp only[qX,j3,decide_eq_true_eq]at h;have hl:s.data.toList.length=s.size:=nR;omega
theorem a1Q(s:ByteArray)(w:jJ)(hs:s.size<=j5):
  jV jI 128 #[ny s] w (pR (if qX s.data.toList=true then⟨(uU s).toArray⟩else⟨#[]⟩) (if qX s.data.toList=true then 0 else 11) w):=by
 have E:=jH (Kl s w hs);cases C:qX s.data.toList with
 |false=>
  rw[C]at E;rw[if_neg nN,if_neg nN];clear C;go_in;go_wp2_with fail;refine E.mono ?_;rintro e w2 ⟨rfl,rfl⟩;go_wp2_with fail;go_returns;exact⟨rfl,jT _ _⟩
 |true=>
  rw[C]at E;rw[if_pos rfl,if_pos rfl];have A:=yE C;have Z:=jH A;obtain⟨T,J⟩:∃T,(⟨(uU s).toArray⟩:ByteArray)=T:=⟨_,rfl⟩;have aa:=jH J;rw[J];obtain⟨g,hg⟩:=nT w.heap.size;have Q:jW (∀W,w.alloc (nG (lu 12 (lT .u8 0)).toArray 214)=W->W.heap[g]? =some (nG (lu 12 (lT .u8 0)).toArray 214 (0,0))/\jS w.heap.size w W):=jH λW h=>by
   subst h;exact⟨by rw[<-hg];exact nO.new w _ _,(jT _ w).alloc (jL _) _⟩
  clear C A J;go_in;go_wp2_with fail;refine E.mono ?_;rintro e w2 ⟨rfl,rfl⟩;go_upto_region 4 with fail;generalize U:w2.alloc _=w3;obtain⟨hB,hb⟩:=Q.out _ U;clear U;have A:=Z.out;have V:jW (∀W,w3.setRow g (nU s.data.toList++(lu 12 (lT .u8 0)).toArray.toList.drop s.size).toArray=W->(convert 86 9 (nk (some ⟨g,0,none⟩) 12 12)).run jI W=.ok (ny T) W/\jS w2.heap.size w2 W):=jH λW h=>by
   subst h;have he:nU s.data.toList++(lu 12 (lT .u8 0)).toArray.toList.drop s.size=nU (uU s):=by
    rw[uU,pg];simp only[nU,List.map_replicate,List.drop_replicate,List.toList_toArray];rfl
   rw[he];have ae:=setRow_heap w3 g _ (nU (uU s)).toArray _ _ hB;have hl:=uQ s A.2;refine⟨?_,below_setRow hb nK _⟩;have:=run_convert_bytes_back (P:=jI) (w3.setRow g (nU (uU s)).toArray) 86 9 5 ⟨g,0,none⟩ 12 (uU s) l8 Tryz.underlying5 mR λj af=>by
    have N:(⟨g,0,none⟩:l5).add j=⟨g,j,none⟩:=FM;rw[N];simp only[mW,ae];simp[nU,af]
   rw[hl,aa.out]at this;exact this
  have O:=Lp (P:=jI) w3 86 9 3 5 g 12 12 s _ _ l8 nM hB A.2 (by rw[mP,List.length_replicate];exact A.2);obtain⟨w4,hw4⟩:=nT (w3.setRow g (nU s.data.toList++(lu 12 (lT .u8 0)).toArray.toList.drop s.size).toArray);rw[hw4]at O;obtain⟨hst,I⟩:=V.out _ hw4;have Y:=jH I;clear V I hB A hb Q hw4;go_wp2_with fail;go_returns;exact⟨rfl,Y.out⟩
def Bn(m:Nat)(nm b:ByteArray):List UInt8:=vJ 4 m++uU nm++vJ 4 b.size++checkN b.data.toList++b.data.toList
def uf(m:Nat)(nm b:ByteArray):ByteArray×Int:=if qX nm.data.toList=true then if b.size<=65536 then(⟨(Bn m nm b).toArray⟩,0)else(⟨#[]⟩,5)else(⟨#[]⟩,11)
theorem Y0(m:Nat)(nm b:ByteArray)(w:jJ)(az:m<4294967296)(hn:nm.size<=j5)(hb:b.size<=1000000000):
  jV jI 99 #[ng nJ m,ny nm,ny b] w (pR (uf m nm b).1 (uf m nm b).2 w):=by
 have E:=jH (a1Q nm w hn);have aa:=jH (λW=>uX m 4 W nK nN nN nK);have O:=jH (λ(W:jJ) (h:b.size<=65536)=>EC b W nK);obtain⟨R,J⟩:=nT (uf m nm b);have I:=jH J;rw[J];cases A:qX nm.data.toList with
 |false=>
  rw[A]at E;have E:jW (jV jI 128 #[ny nm] w (pR ⟨#[]⟩ 11 w)):=E;have HE:jW (R=(⟨#[]⟩,11)):=jH (by rw[<-I.out];unfold uf;rw[A];rfl);clear A J I aa O;go_in;go_wp2_with fail;refine E.mono ?_;rintro e w2 ⟨rfl,C⟩;have HB2:=jH C;clear C;exact D6
 |true=>
  rw[A]at E;have ae:=yE A;have hl:=uQ nm ae.2;have E:jW (jV jI 128 #[ny nm] w (pR ⟨(uU nm).toArray⟩ 0 w)):=E;by_cases N:b.size<=65536
  .have ai:decide ((b.size:Int)>65536)=false:=nQ
   have af:decide (65536<(b.size:Int))=false:=nQ;have HE:jW (R=(⟨(Bn m nm b).toArray⟩,0)):=jH (by rw[<-I.out];unfold uf;rw[A,if_pos rfl,if_pos N]);have ag:=jH (λW=>O.out W N);have aj:=jH (λW=>uX b.size 4 W nK nN nN nK);have ak:(⟨(vJ 4 m).toArray⟩:ByteArray).size=4:=by rw[size_mk,pF]
   have au:(⟨(uU nm).toArray⟩:ByteArray).size=12:=by rw[size_mk,hl]
   have av:(⟨(vJ 4 b.size).toArray⟩:ByteArray).size=4:=by rw[size_mk,pF]
   have ax:(⟨(checkN b.data.toList).toArray⟩:ByteArray).size=4:=by rw[size_mk,A7]
   have ay:jW ((⟨(vJ 4 m).toArray⟩:ByteArray)++⟨(uU nm).toArray⟩++⟨(vJ 4 b.size).toArray⟩++⟨(checkN b.data.toList).toArray⟩++b=⟨(Bn m nm b).toArray⟩):=jH (by
    apply ByteArray.ext;apply Array.ext';simp[Bn])
   generalize (⟨(vJ 4 m).toArray⟩:ByteArray)=aA at*;generalize (⟨(uU nm).toArray⟩:ByteArray)=aB at*;generalize (⟨(vJ 4 b.size).toArray⟩:ByteArray)=t3 at*;generalize (⟨(checkN b.data.toList).toArray⟩:ByteArray)=t4 at*;have aC:=jH (jU ak (jU au (jU av ax)));clear A J I ae hl N O;go_in;go_wp2_with fail;refine E.mono ?_;rintro e w2 ⟨rfl,C⟩;have HB2:=jH C;clear C;go_wp2_with fail;refine(aa _).mono ?_;rintro e w3 ⟨rfl,Q⟩;have U:=jH (HB2.trans (Q.mono HB2.size));clear Q;go_wp2_with fail;refine(aj _).mono ?_;rintro e w4 ⟨rfl,V⟩;have Y:=jH (U.trans (V.mono U.size));clear V;go_wp2_with fail;refine(ag _).mono ?_;rintro e w5 ⟨rfl,Z⟩;have ah:=jH (Y.trans (Z.mono Y.size));clear Z;go_wp2_with fail;go_returns;exact⟨by rw[HE.out,<-ay.out];rfl,ah.out⟩
  .have ai:decide ((b.size:Int)>65536)=true:=nQ
   have af:decide (65536<(b.size:Int))=true:=nQ;have HE:jW (R=(⟨#[]⟩,5)):=jH (by rw[<-I.out];unfold uf;rw[A,if_pos rfl,if_neg N]);clear A J I aa O ae hl N;go_in;go_wp2_with fail;refine E.mono ?_;rintro e w2 ⟨rfl,C⟩;have HB2:=jH C;clear C;exact D6
def Ob(n:Nat):List UInt8:=if n=0 then []else if n<=60 then [jZ (4*(n - 1))]else if n<=256 then [240,jZ (n - 1)]else 244::vJ 2 (n - 1)
theorem ug(P:mK)(g o:Nat)(t:ko)(C:Nat×Nat):∀(vs:List jP)(i:Nat)(A:Array jP)(w:jJ),w.heap[g]? =some (nG A t C)->(C.2<=C.1\/A.size<=C.1)->o+i+vs.length<=A.size->(∀v∈vs,v.oneCell'=true)->
  (storeCells ⟨g,o,none⟩ vs i).run P w=.ok () (w.setRow g (A.toList.take (o+i)++vs++A.toList.drop (o+i+vs.length)).toArray)
 |[],i,A,w,hg,_,_,_=>by
  simp only[storeCells,List.append_nil,List.length_nil,Nat.add_zero,mQ,Array.toArray_toList];rw[setRow_self w g A t C hg];rfl
 |v::rest,i,A,w,hg,I,hl,O=>by
  have hi:o+i<A.size:=by simp at hl;omega
  have J:(⟨g,o,none⟩:l5).add i=⟨g,o+i,none⟩:=FM;have E:w.cell? ⟨g,o+i,none⟩=some A[o+i]:=by simp[mW,hg,hi]
  have N:w.frozen? ⟨g,o+i,none⟩=false:=by
   obtain⟨U,Q⟩:=C;simp only at I;have:¬(U<=o+i/\o+i<Q):=nK;simpa [World.frozen?,hg]using this
  have hst:(store ((⟨g,o,none⟩:l5).add i) v).run P w=.ok () (w.setRow g (A.setIfInBounds (o+i) v)):=by
   rw[J,run_store P w _ v _ (O v nR),E];simp[N,setCell_eq_setRow w g (o+i) A t C v hg]
  have V:=ug P g o t C rest (i+1) (A.setIfInBounds (o+i) v) (w.setRow g (A.setIfInBounds (o+i) v)) (setRow_heap w g A _ t _ hg) (by simpa using I) (by simp at hl⊢;omega) (λx Y=>O x (by simp[Y]));simp only[storeCells,Sem.run_bind,hst,Result.andThen_ok,V,setRow_setRow];congr 3;have e:=list_seg_step A.toList (o+i) v rest (by simp at hl⊢;omega);simpa [Array.toList_setIfInBounds,kP]using e
def rG(w:jJ)(B:Nat)(e:ko)(v:jP)(l:List UInt8):Prop:=
 (v=nk none 0 0/\l=[])\/∃g cap A C,v=nk (some ⟨g,0,none⟩) l.length cap/\B<=g/\w.heap[g]? =some (nG A e C)/\(C.2<=C.1\/A.size<=C.1)/\l.length<=cap/\cap<=j5/\A.size=cap/\A.toList.take l.length=nU l
section
variable {P:mK}{t e s:ko}{w w':jJ}{B:Nat}{v:jP}{l:List UInt8}
theorem rG.of(h:oD w B e v l):rG w B e v l:=by
 obtain⟨U,A⟩:=h;rcases A with⟨rfl,A⟩|⟨g,cap,C,E,hg,I,J,N,O,Q⟩
 .exact .inl ⟨rfl,List.eq_nil_of_length_eq_zero A⟩
 .exact .inr ⟨g,cap,C,(0,0),E,hg,I,.inl (jL _),J,N,by simpa using O,by simpa using Q⟩
theorem rG.blk(h:rG w B e v l):∀b,v.ownBlock=some b->B<=b/\b<w.heap.size:=by
 intro k hk;rcases h with⟨rfl,_⟩|⟨g,cap,A,C,rfl,hb,hg,_⟩
 .simp[kJ]at hk
 .simp[kJ]at hk
  subst hk;exact⟨hb,(ku.1 hg).1⟩
theorem rG.kp{F:Nat->Prop}(h:rG w B e v l)(k:sD F w w')(hn:∀b,v.ownBlock=some b->¬F b):rG w' B e v l:=by
 rcases h with h|⟨g,cap,A,I,C,hg,E,r⟩
 .exact .inl h
 .exact .inr ⟨g,cap,A,I,C,hg,by rw[k.block g (ku.1 E).1 (hn g (by rw[C];rfl))];exact E,r⟩
theorem rG.below(h:rG w B e v l)(hb:jS w.heap.size w w'):rG w' B e v l:=h.kp (F:=λ_=>False) (sD.of hb) λ_ _ h=>h
theorem rG.alloc(h:rG w B e v l)(o:Obj):rG (w.alloc o) B e v l:=h.below ((jT w.heap.size w).alloc (jL _) o)
theorem rG.base{C:Nat}(h:rG w B e v l)(E:C<=B):rG w C e v l:=by
 rcases h with h|⟨g,cap,A,I,J,hg,r⟩
 .exact .inl h
 .exact .inr ⟨g,cap,A,I,J,kg E hg,r⟩
theorem rG.cells(h:rG w B e v l){g:Nat}(hg:v.ownBlock=some g):∀j u,(nU l)[j]? =some u->w.cell? ⟨g,j,none⟩=some u:=by
 intro j u A;rcases h with⟨rfl,_⟩|⟨I,cap,C,J,rfl,_,E,_,_,_,_,htake⟩
 .simp[kJ]at hg
 .simp[kJ]at hg
  subst hg;rw[cell_of_row w I j C e J E];rw[<-htake,mM]at A;split at A;.simpa using A
  .cases A
theorem rG.string(T:ql P t e s)(h:rG w B e v l):(convert t s v).run P w=.ok (ny ⟨l.toArray⟩) w:=by
 rcases h with⟨rfl,rfl⟩|⟨g,cap,C,I,rfl,hb,hg,E,A,J,hsz,htake⟩
 .exact Ri
 .have h:rG w B e (nk (some ⟨g,0,none⟩) l.length cap) l:=.inr ⟨g,cap,C,I,rfl,hb,hg,E,A,J,hsz,htake⟩
  refine run_convert_bytes_back w t s e ⟨g,0,none⟩ cap l T.ht T.he T.hs λj N=> ?_
  have:=h.cells (g:=g) rfl j (ng .u8 (l[j].toNat:Int)) (by simp[nU,jX N]);have e1:(⟨g,0,none⟩:l5).add j=⟨g,j,none⟩:=FM;rw[e1];exact this
theorem Y1{p:Prop}(h:p:=by
 have:=rG.cells (.inr ⟨g,cap,cur,fz,rfl,hbg,hg,hfz,hnc,hcm,hcs,htake⟩:rG w B e (nk (some ⟨g,0,none⟩) l.length cap) l) (g:=g) rfl j u hu;have e1:(⟨g,0,none⟩:l5).add j=⟨g,j,none⟩:=FM;rw[e1];exact this):p:=h
theorem Lr(T:ql P t e s)(ty:ko)(h:rG w B e v l)(m:List UInt8)(a:l5)(c:Nat)(C:∀j u,(nU m)[j]? =some u->w.cell? (a.add j)=some u)(hlen:l.length+m.length<=140737488355328)(hB:B<=w.heap.size):
  ∃v' w',(Builtin.append_ #[t,t] ty #[v,nk (some a) m.length c]).run P w=.ok v' w'/\rG w' B e v' (l++m)/\w.grownBy w' v.ownBlock/\(v'.ownBlock=v.ownBlock\/∃g,v'.ownBlock=some g/\w.heap.size<=g):=by
 obtain⟨i,hi,N,A,I⟩:=info_parts T.hi;rcases h with⟨rfl,rfl⟩|⟨g,cap,cur,fz,rfl,hbg,hg,hfz,hnc,hcm,hcs,htake⟩
 .obtain⟨v',w',O,U,V,ae⟩:=run_append_own (P:=P) w B t ty e i (ng .u8 0) 1 1 T.ht hi N A I rfl nN (nk none 0 0) 0 [] (World.ownsRow_nil w B e 1) a m.length c (nU m) nR C (rM m) zg nK hB
  refine⟨v',w',O,rG.of ?_,V,?_⟩
  .show w'.ownsRow B e 1 v' (([]:List UInt8)++m).length (nU ([]++m))
   simpa using U
  .rcases U.2 with⟨rfl,_⟩|⟨g,cap,cur,rfl,hb,hg,_⟩
   .exact .inl rfl
   .refine .inr ⟨g,rfl,?_⟩
    by_cases af:m.length=0;.have:=(ae.2 ⟨rfl,af⟩);cases this
    .have hlt:=(ku.1 hg).1
     refine Nat.le_of_not_lt λY=> ?_
     have ah:=V.block g Y (by simp[kJ]);obtain⟨ai,hi2,_⟩:=info_parts T.hi;have Q:=run_append_nil (P:=P) w t ty e i (ng .u8 0) T.ht hi N a m.length c (nU m) (by simp[A]) C nK nK (by rw[I];omega);rw[Q]at O;simp only[Result.ok.injEq,Value.slice.injEq,mI,Addr.mk.injEq]at O;omega
 .by_cases E:l.length+m.length<=cap
  .have ag:=run_firstCells_some (P:=P) w i.size m.length a m.length c (nU m) (by simp[A]) C
   have hst:=ug P g (l.length*i.size) e fz (nU m) 0 cur w hg hfz (by simp[A];omega) (rM m);simp only[Nat.add_zero]at hst;refine⟨nk (some ⟨g,0,none⟩) (l.length+m.length) cap,w.setRow g (cur.toList.take (l.length*i.size)++nU m++cur.toList.drop (l.length*i.size+(nU m).length)).toArray,?_,.inr ⟨g,cap,_,fz,nR,hbg,setRow_heap w g cur _ e _ hg,?_,by simpa using E,hcm,?_,?_⟩,⟨rfl,rfl,rfl,nR,λk _ hk=>setRow_other w g k _ (λe=>hk (by simp[kJ,e]))⟩,.inl rfl⟩;.simp[Builtin.append_,run_underlying T.ht,sizeOf,typeInfo,hi,Builtin.lenOf,E,ag,Addr.add_lit,hst]
   .simp only[mP,jY,kY,kS,kV,qW,A,Nat.mul_one]
    rcases hfz with h|h
    .exact .inl h
    .exact .inr nK
   .simp only[mP,jY,kY,kS,kV,qW,A,Nat.mul_one]
    omega
   .simp only[A,Nat.mul_one]
    rw[htake,pg];exact List.take_left' nR
  .have J:∀j u,(nU l)[j]? =some u->w.cell? ((⟨g,0,none⟩:l5).add j)=some u:=λj u hu=>by
    exact Y1
   have Q:=run_append_grow (P:=P) w t ty e i (ng .u8 0) T.ht hi N ⟨g,0,none⟩ l.length cap (nU l) (by simp[A]) J a m.length c (nU m) (by simp[A]) C nK nK (growslice_fits nK (by rw[I];omega));have Z:=grownCap_ge w (l.length+m.length) cap e;refine⟨_,_,Q,.inr ⟨w.heap.size,grownCap w (l.length+m.length) cap e,_,(0,0),nR,hB,heap_alloc_new w.drew _,.inl (jL _),by simpa using Z,grownCap_le_maxLen w _ cap e zg,?_,?_⟩,⟨rfl,rfl,rfl,nR,λk hk _=>heap_alloc_old w.drew _ hk⟩,.inr ⟨_,rfl,jL _⟩⟩
   .have aa:(lT IntKind.u8 0).cells.size=1:=rfl
    simp only[Array.size_append,mP,size_zeroCells,aa,qW];omega
   .simp only[Array.toList_append,lD]
    rw[<-lD,<-pg];exact List.take_left' nR
theorem xe(T:ql P t e s){rest:List lX}{o:lX}{a:Act}{Q:Exit->Act->jJ->Prop}(I:o.guard=none)(x y:Operand)(ho:o.op=.call {callee:=.builtin .append,args:=#[x,y],argTypes:=#[t,t]})(B:Nat)(v:jP)(l m:List UInt8)(k:Nat)(hk:k=m.length)(w:jJ)(cs:Array jP)(J:cs.toList=nU m)(V:a.eval x=v)(E:rG w B e v l)(Y:a.eval y=nk (some ⟨w.heap.size,0,none⟩) k k)(hlen:l.length+k<=140737488355328)(hB:B<=w.heap.size)(h:∀v' w',rG w' B e v' (l++m)->w.grownBy w' v.ownBlock->(v'.ownBlock=v.ownBlock\/∃g,v'.ownBlock=some g/\w.heap.size<=g)->wpList P ops Q rest (a.put o.dst v') w'):
  wpList P ops Q (o::rest) a (w.alloc (nG cs e)):=by
 subst hk;have N:=(jT w.heap.size w).alloc (jL _) (nG cs e);have O:=nO.new w cs e;obtain⟨v',w',Z,aa,A,C⟩:=Lr (w:=w.alloc (nG cs e)) T o.type (E.alloc _) m ⟨w.heap.size,0,none⟩ m.length (λj u ae=>by
  have e1:(⟨w.heap.size,0,none⟩:l5).add j=⟨w.heap.size,j,none⟩:=FM;rw[e1,O.cell,<-ae,<-J,Array.getElem?_toList]) hlen nQ
 refine wpList_plain I λK af=> ?_
 unfold Oper.wp execOp;simp only[ho,resolve,invoke,builtin,Sem.run_bind,Sem.run_pure,Result.andThen_ok,List.map_toArray,mH,List.map_nil,V,Y,Z];refine af _ _ (h v' w' aa ⟨A.os,A.tape,A.output,by have:=A.size;simp at this;omega,λc hc U=>(A.block c nQ U).trans (N.block c hc)⟩ ?_);rcases C with C|⟨g,C,ag⟩
 .exact .inl C
 .exact .inr ⟨g,C,by simp at ag;omega⟩
theorem xg(T:ql P t e s){rest:List lX}{o:lX}{a:Act}{Q:Exit->Act->jJ->Prop}(Z:o.guard=none)(x y:Operand)(ho:o.op=.call {callee:=.builtin .append,args:=#[x,y],argTypes:=#[t,s]})(B:Nat)(v:jP)(l:List UInt8)(S:ByteArray)(w:jJ)(af:a.eval x=v)(Y:rG w B e v l)(ag:a.eval y=ny S)(hlen:l.length+S.size<=140737488355328)(hB:B<=w.heap.size)(h:∀v' w',rG w' B e v' (l++S.data.toList)->w.grownBy w' v.ownBlock->(v'.ownBlock=v.ownBlock\/∃g,v'.ownBlock=some g/\w.heap.size<=g)->wpList P ops Q rest (a.put o.dst v') w'):
  wpList P ops Q (o::rest) a w:=by
 obtain⟨i,hi,aa,C,V⟩:=info_parts T.hi;have e1:Lib.strCells S=nU S.data.toList:=by simp[Lib.strCells,nU]
 have A:S.data.toList.length=S.size:=kV;refine wpList_plain Z λK ah=> ?_
 suffices∃v' w',(Builtin.append_ #[t,s] o.type #[v,ny S]).run P w=.ok v' w'/\rG w' B e v' (l++S.data.toList)/\w.grownBy w' v.ownBlock/\(v'.ownBlock=v.ownBlock\/∃g,v'.ownBlock=some g/\w.heap.size<=g)by
  obtain⟨v',w',I,ai,aj,ak⟩:=this;unfold Oper.wp execOp;simp only[ho,resolve,invoke,builtin,Sem.run_bind,Sem.run_pure,Result.andThen_ok,List.map_toArray,mH,List.map_nil,af,ag,I];exact ah _ _ (h v' w' ai aj ak)
 rcases Y with⟨rfl,rfl⟩|⟨g,cap,cur,fz,rfl,hbg,hg,hfz,hnc,hcm,hcs,htake⟩
 .by_cases h0:S.size=0
  .have hn:S.data.toList=[]:=List.eq_nil_of_length_eq_zero nK
   have O:=Lib.run_firstCells_string (P:=P) w 1 S;refine⟨nk none 0 0,w,?_,.inl ⟨rfl,by rw[hn];rfl⟩,⟨rfl,rfl,rfl,jL _,λ_ _ _=>rfl⟩,.inl rfl⟩;rw[h0]at O;have ae:Lib.strCells S=[]:=by rw[e1,hn];rfl
   simp[Builtin.append_,run_underlying T.ht,run_underlying T.hs,sizeOf,typeInfo,hi,C,Builtin.lenOf,h0,O,ae,storeCells]
  .have I:=run_append_nil_string (P:=P) w t s o.type e i (ng .u8 0) T.ht T.hs hi aa S nK (by simp at hlen;omega) (by rw[V];simp at hlen;omega)
   have J:=grownCap_ge w S.size 0 e;refine⟨_,_,I,.inr ⟨w.heap.size,grownCap w S.size 0 e,_,(0,0),by simp[A],hB,heap_alloc_new w.drew _,.inl (jL _),by simpa [A]using J,grownCap_le_maxLen w _ 0 e (by simp at hlen;unfold j5;omega),?_,?_⟩,⟨rfl,rfl,rfl,nR,λk hk _=>heap_alloc_old w.drew _ hk⟩,.inr ⟨_,rfl,jL _⟩⟩
   .have N:(lT IntKind.u8 0).cells.size=1:=rfl
    have au:S.data.size=S.size:=rfl;simp only[Array.size_append,Array.size_map,size_zeroCells,N,au];omega
   .simp only[Array.toList_append,Array.toList_map,List.nil_append]
    exact List.take_left' nR
 .by_cases E:l.length+S.size<=cap
  .have O:=Lib.run_firstCells_string (P:=P) w 1 S
   have hst:=ug P g l.length e fz (Lib.strCells S) 0 cur w hg hfz (by simp[Lib.strCells_length];omega) (Lib.strCells_oneCell S);simp only[Nat.add_zero,Lib.strCells_length]at hst;refine⟨nk (some ⟨g,0,none⟩) (l.length+S.size) cap,w.setRow g (cur.toList.take l.length++Lib.strCells S++cur.toList.drop (l.length+S.size)).toArray,?_,.inr ⟨g,cap,_,fz,by simp[A],hbg,setRow_heap w g cur _ e _ hg,?_,by simpa [A]using E,hcm,?_,?_⟩,⟨rfl,rfl,rfl,nR,λk _ hk=>setRow_other w g k _ (λe=>hk (by simp[kJ,e]))⟩,.inl rfl⟩;.simp[Builtin.append_,run_underlying T.ht,run_underlying T.hs,sizeOf,typeInfo,hi,C,Builtin.lenOf,E,O,Addr.add_lit,hst]
   .simp only[mP,jY,kY,kS,kV,Lib.strCells_length]
    rcases hfz with h|h
    .exact .inl h
    .exact .inr nK
   .simp only[mP,jY,kY,kS,kV,Lib.strCells_length]
    omega
   .rw[htake,pg,e1]
    exact List.take_left' nR
  .have U:∀j u,(nU l)[j]? =some u->w.cell? ((⟨g,0,none⟩:l5).add j)=some u:=λj u hu=>by
    exact Y1
   have I:=Lib.run_append_grow_string (P:=P) w t s o.type e i (ng .u8 0) T.ht T.hs hi aa ⟨g,0,none⟩ l.length cap (nU l) (by simp[C]) U S nK nK (by rw[V];exact growslice_fits nK nK);have J:=grownCap_ge w (l.length+S.size) cap e;refine⟨_,_,I,.inr ⟨w.heap.size,grownCap w (l.length+S.size) cap e,_,(0,0),by simp[A],hB,heap_alloc_new w.drew _,.inl (jL _),by simpa [A]using J,grownCap_le_maxLen w _ cap e zg,?_,?_⟩,⟨rfl,rfl,rfl,nR,λk hk _=>heap_alloc_old w.drew _ hk⟩,.inr ⟨_,rfl,jL _⟩⟩
   .have N:(lT IntKind.u8 0).cells.size=1:=rfl
    simp only[Array.size_append,mP,size_zeroCells,N,qW,Lib.strCells_length];omega
   .simp only[Array.toList_append,lD]
    rw[<-lD,e1,<-pg];exact List.take_left' nR
end
end
section
open Go.RowKit Go.Maps
structure Q4 where
 a:UInt8
 b:UInt8
 c:UInt8
 d:UInt8
 deriving DecidableEq
def xZ(l:List UInt8)(i:Nat):Q4:=⟨l.getD i 0,l.getD (i+1) 0,l.getD (i+2) 0,l.getD (i+3) 0⟩
abbrev VR:=List (Q4×Nat)
def qP(l:List UInt8):Nat->Nat->VR->VR
 |0,_,mp=>mp
 |n+1,i,mp=>qP l n (i+1) (if i+4<=l.length then(xZ l i,i)::mp.filter (λp=>p.1 !=xZ l i)else mp)
def q9(l:List UInt8)(i j:Nat):Nat->Nat->Nat
 |0,n=>n
 |f+1,n=>if max i j+n<l.length/\l[i+n]? =l[j+n]? then q9 l i j f (n+1)else n
def qG(l:List UInt8)(i j:Nat):Nat:=q9 l i j 64 0
def xJ(n d:Nat):List UInt8:=if n<=11/\d<2048 then [jZ (1+4*(n - 4)+32*(d/256)),jZ (d % 256)]else jZ (2+4*(n - 1))::vJ 2 d
def xx(x:List UInt8):List UInt8:=Ob x.length++x
structure Oc where
 i:Nat
 pend:Nat
 out:List UInt8
 mp:VR
def JI(l:List UInt8)(s:Oc):Option Nat:=if s.i+4<=l.length then uK s.mp (xZ l s.i)else none
def rf(l:List UInt8)(s:Oc):Oc:=match JI l s with
 |some j=>⟨s.i+qG l j s.i,s.i+qG l j s.i,s.out++xx ((l.take s.i).drop s.pend)++xJ (qG l j s.i) (s.i - j),qP l (qG l j s.i) s.i s.mp⟩
 |none=>⟨s.i+1,s.pend,s.out,qP l 1 s.i s.mp⟩
def rX(l:List UInt8):Nat->Oc->Oc
 |0,s=>s
 |f+1,s=>if s.i<l.length then rX l f (rf l s)else s
def uC(l:List UInt8):Oc:=⟨0,0,nZ l.length,[]⟩
def tF(l:List UInt8):List UInt8:=(rX l l.length (uC l)).out++xx (l.drop (rX l l.length (uC l)).pend)
def Y2(l:List UInt8)(i:Nat)(mp:VR):Prop:=∀k j,uK mp k=some j->j<i/\j+4<=l.length/\xZ l j=k
theorem Y3{κ X:Type}[DecidableEq κ](mp:List (κ×X))(x k:κ)(y:X):uK ((x,y)::mp.filter (λp=>p.1 !=x)) k=if x=k then some y else uK mp k:=by
 unfold uK;rw[List.find?_cons];by_cases h:x=k;.subst h;simp
 .rw[if_neg h,show((x,y).1==k)=false by simpa using h]
  dsimp only;congr 1;rw[List.find?_filter];congr 1
  funext p;by_cases hp:p.1=k
  .have A:¬k=x:=λe=>h e.symm
   simp[hp,A]
  .simp[hp]
theorem Y2.fill{l:List UInt8}:∀{n i:Nat}{mp:VR},Y2 l i mp->Y2 l (i+n) (qP l n i mp)
 |0,i,mp,h=>h
 |n+1,i,mp,h=>by
  unfold qP;rw[show i+(n+1)=i+1+n by omega];refine Y2.fill (n:=n) ?_;intro k j hk;split at hk
  .rename_i A
   rw[Y3]at hk;split at hk
   .rename_i e
    cases hk;exact⟨nK,A,e⟩
   .have:=h k j hk
    exact⟨nK,this.2⟩
  .have:=h k j hk
   exact⟨nK,this.2⟩
theorem xK{l:List UInt8}{i j:Nat}:∀ f n:Nat,n<=q9 l i j f n/\q9 l i j f n<=n+f/\(max i j+n<=l.length->max i j+q9 l i j f n<=l.length)/\∀q,n<=q->q<q9 l i j f n->l[i+q]? =l[j+q]?
 |0,n=>⟨jL _,jL _,id,λq C A=>by unfold q9 at A;omega⟩
 |f+1,n=>by
  unfold q9;split
  .rename_i h
   obtain⟨C,A,E,I⟩:=(xK f (n+1):n+1<=q9 l i j f (n+1)/\_);refine⟨nK,nK,λ_=>E nK,λq N J=> ?_⟩;by_cases e:q=n;.subst e;exact h.2
   .exact I q nK J
  .exact⟨jL _,nK,id,λq C A=>by omega⟩
theorem getD_at{l:List UInt8}{i j:Nat}(hi:i<l.length)(A:j<l.length)(h:l.getD i 0=l.getD j 0):l[i]? =l[j]? :=by
 rw[lN,lN,jX hi,jX A]at h;rw[jX hi,jX A];exact congrArg some h
theorem a4u{l:List UInt8}{i j:Nat}(hi:i+4<=l.length)(J:j+4<=l.length)(h:xZ l i=xZ l j):4<=qG l i j:=by
 unfold qG;simp only[xZ,Q4.mk.injEq]at h;have A:=getD_at nK nK h.1;have C:=getD_at nK nK h.2.1;have E:=getD_at nK nK h.2.2.1;have I:=getD_at nK nK h.2.2.2;have N:max i j+4<=l.length:=nK;rw[q9,if_pos ⟨nK,A⟩,q9,if_pos ⟨nK,C⟩,q9,if_pos ⟨nK,E⟩,q9,if_pos ⟨nK,I⟩];exact(xK _ _).1
theorem Y4{l:List UInt8}{i j:Nat}(hi:i<=l.length)(C:j<=l.length):qG l i j<=64/\i+qG l i j<=l.length/\j+qG l i j<=l.length:=by
 unfold qG;obtain⟨E,I,A,J⟩:=xK (l:=l) (i:=i) (j:=j) 64 0;have:=A nK;omega
theorem Lt(x:List UInt8):(xx x).length<=x.length+3:=by
 unfold xx Ob;have A:(vJ 2 (x.length - 1)).length=2:=pF 2 _
 (repeat' split)<;>simp[A]<;>omega
theorem Y5(n d:Nat):(xJ n d).length<=3:=by
 unfold xJ;have A:(vJ 2 d).length=2:=pF 2 _;split<;>simp[A]
structure yF(l:List UInt8)(s:Oc):Prop where
 il:s.i<=l.length
 pi:s.pend<=s.i
 mp:Y2 l s.i s.mp
 ol:s.out.length<=16+8*s.pend
theorem Hw(n:Nat)(h:n<=65536):(nZ n).length<=10:=by
 have:=sN 3 n nK;omega
theorem yF.ini(l:List UInt8)(h:l.length<=65536):yF l (uC l):=
 ⟨kI _,jL _,λk j hk=>by simp[uC,uK]at hk,by have:=Hw l.length h;simp[uC];omega⟩
theorem Hy{l:List UInt8}{s:Oc}(h:yF l s){j:Nat}(A:JI l s=some j):s.i+4<=l.length/\j<s.i/\xZ l j=xZ l s.i/\4<=qG l j s.i/\qG l j s.i<=64/\s.i+qG l j s.i<=l.length:=by
 unfold JI at A;split at A
 .rename_i C
  obtain⟨I,J,E⟩:=h.mp _ _ A;have:=Y4 (l:=l) (i:=j) (j:=s.i) nK nK;exact⟨C,I,E,a4u J C E,this.1,this.2.2⟩
 .cases A
theorem yF.step{l:List UInt8}{s:Oc}(h:yF l s)(hi:s.i<l.length):yF l (rf l s)/\s.i<(rf l s).i:=by
 unfold rf;split
 .rename_i j A
  obtain⟨E,I,J,N,O,C⟩:=Hy h A;refine⟨⟨C,jL _,h.mp.fill,?_⟩,by dsimp only;omega⟩;have a:=Lt ((l.take s.i).drop s.pend);have b:=Y5 (qG l j s.i) (s.i - j);have c:((l.take s.i).drop s.pend).length=s.i - s.pend:=by rw[kS,kY];omega
  have d:=h.ol;have e:=h.pi;simp only[jY];omega
 .exact⟨⟨by dsimp only;omega,by have:=h.pi;dsimp only;omega,h.mp.fill (n:=1),h.ol⟩,by dsimp only;omega⟩
theorem QF{l:List UInt8}:∀(f:Nat)(s:Oc),¬s.i<l.length->rX l f s=s
 |0,s,_=>rfl
 |f+1,s,h=>by unfold rX;rw[if_neg h]
end
section
open Go.RowKit
structure vv(B:Nat)(v:jP)(w:jJ)(v':jP)(l:List UInt8)(w':jJ):Prop where
 own:rG w' B 5 v' l
 kp:sD (λd=>v.ownBlock=some d) w w'
 at_:v'.ownBlock=v.ownBlock\/∃g,v'.ownBlock=some g/\w.heap.size<=g
theorem vv.refl{B:Nat}{v:jP}{w:jJ}{l:List UInt8}(h:rG w B 5 v l):vv B v w v l w:=⟨h,sD.refl _ _,.inl rfl⟩
theorem vv.of{B:Nat}{v v':jP}{w w':jJ}{l:List UInt8}(h:rG w' B 5 v' l)(k:w.grownBy w' v.ownBlock)(a:v'.ownBlock=v.ownBlock\/∃g,v'.ownBlock=some g/\w.heap.size<=g):vv B v w v' l w':=⟨h,sD.grown k λ_ e=>e,a⟩
theorem vv.below{B:Nat}{v:jP}{w w':jJ}{l:List UInt8}(h:rG w B 5 v l)(hb:jS w.heap.size w w'):vv B v w v l w':=⟨h.below hb,sD.of hb,.inl rfl⟩
theorem vv.trans{B:Nat}{v v' v2:jP}{w w' w2:jJ}{l l2:List UInt8}(h:vv B v w v' l w')(k:vv B v' w' v2 l2 w2):vv B v w v2 l2 w2:=by
 refine⟨k.own,h.kp.trans k.kp λc hc A=> ?_,?_⟩
 .rcases h.at_ with e|⟨g,e,hg⟩
  .rw[e]at A;exact A
  .rw[e]at A;cases A;omega
 .rcases k.at_ with e|⟨g,e,hg⟩
  .rw[e];exact h.at_
  .exact .inr ⟨g,e,kg h.kp.size hg⟩
theorem EO(B:Nat)(v:jP)(l:List UInt8)(s:ByteArray)(w:jJ)(I:rG w B 5 v l)(hl:l.length<=1000000)(hs:s.size<=65536)(hB:B<=w.heap.size):
  jV jI 185 #[v,ny s] w λe w'=>∃v',e=nE v'/\vv B v w v' (l++xx s.data.toList) w':=by
 have af:s.data.toList.length=s.size:=kV;have J:jW (xx s.data.toList=Ob s.size++s.data.toList):=jH (by unfold xx;rw[af]);by_cases h0:s.size=0
 .have U:jW (l++xx s.data.toList=l):=jH (by
   have e:s.data.toList=[]:=mf.1 nK;rw[J.out,e,h0];simp[Ob])
  have t0:((s.size:Int)==0)=true:=by simp[h0]
  have ay:=jH I;clear I h0 af J;go_in;go_wp2_with fail;go_returns;exact⟨v,rfl,by rw[U.out];exact vv.refl ay.out⟩
 .have t0:((s.size:Int)==0)=false:=wL
  by_cases Y:s.size<=60
  .have U:jW (xx s.data.toList=[jZ (4*(s.size - 1))]++s.data.toList):=jH (by rw[J.out];unfold Ob;rw[if_neg h0,if_pos Y])
   clear J;go_in
   go_wp2_with (first
    |(at_builtin;refine xe Ch rfl _ _ rfl B v l [jZ (4*(s.size - 1))] 1 rfl w _ (yf (n:=4*(s.size - 1)) nK nK) rfl I rfl nK hB ?_;intro v' w' C A E;have Q:=jH (vv.of C A E);have N:=kg hB A.size;clear C A E)
    |(at_builtin;refine xg Ch rfl _ _ rfl B v' (l++[jZ (4*(s.size - 1))]) s w' rfl Q.own rfl nQ N ?_;intro v2 w3 C A E;have O:=jH (vv.of C A E);clear C A E))
   go_returns;exact⟨_,rfl,by rw[U.out,<-lD];exact Q.trans O.out⟩
  .by_cases Z:s.size<=256
   .have U:jW (xx s.data.toList=[240,jZ (s.size - 1)]++s.data.toList):=jH (by rw[J.out];unfold Ob;rw[if_neg h0,if_neg Y,if_pos Z])
    clear J;have ai:∀x:Int,x=((s.size - 1:Nat):Int)->[lT .u8 240,lT .u8 x]=nU [240,jZ (s.size - 1)]:=λx az=>by
     have:=yf (n:=s.size - 1) az nK;simp only[nU,mH,List.map_nil]at this⊢;rw[List.cons.injEq]at this;rw[this.1];rfl
    go_in
    go_wp2_with (first
     |(at_builtin;refine xe Ch rfl _ _ rfl B v l [240,jZ (s.size - 1)] 2 rfl w _ (ai _ nK) rfl I rfl nK hB ?_;intro v' w' C A E;have Q:=jH (vv.of C A E);have N:=kg hB A.size;clear C A E)
     |(at_builtin;refine xg Ch rfl _ _ rfl B v' (l++[240,jZ (s.size - 1)]) s w' rfl Q.own rfl nQ N ?_;intro v2 w3 C A E;have O:=jH (vv.of C A E);clear C A E))
    go_returns;exact⟨_,rfl,by rw[U.out,<-lD];exact Q.trans O.out⟩
   .have U:jW (xx s.data.toList=[244]++vJ 2 (s.size - 1)++s.data.toList):=jH (by rw[J.out];unfold Ob;rw[if_neg h0,if_neg Y,if_neg Z];rfl)
    clear J;have ag:=pF 2 (s.size - 1);have c0:=uX (s.size - 1) 2 w nK nN nN nK;rw[show((s.size - 1:Nat):Int)=(s.size:Int) - 1 by omega]at c0;obtain⟨S,aj⟩:∃S:ByteArray,(⟨(vJ 2 (s.size - 1)).toArray⟩:ByteArray)=S:=⟨_,rfl⟩;have aa:S.data.toList=vJ 2 (s.size - 1):=by rw[<-aj]
    have aB:S.size=2:=by
     have e:S.data.toList.length=S.size:=kV;rw[<-e,aa,ag]
    rw[aj]at c0;have aA:=jH c0;have au:=jH aa;have ak:=jH I;clear c0 aj aa I ag;go_in;go_wp2_with fail;refine aA.mono ?_;rintro e w2 ⟨rfl,ae⟩;have V:=jH (vv.below ak ae);have ah:B<=w2.heap.size:=kg hB ae.size;clear ae
    go_wp2_with (first
     |(at_builtin;refine xe Ch rfl _ _ rfl B v l [244] 1 rfl w2 _ (yf (n:=244) nK nK) rfl V.own rfl nK ah ?_;intro v' w' C A E;have Q:=jH (vv.of C A E);have N:=kg ah A.size;clear C A E)
     |(at_builtin;refine xg Ch rfl _ _ rfl B v' (l++[244]) S w' rfl Q.own rfl nQ N ?_;intro v2 w3 C A E;have O:=jH (vv.of C A E);have av:=kg N A.size;clear C A E)
     |(at_builtin;refine xg Ch rfl _ _ rfl B v2 (l++[244]++S.data.toList) s w3 rfl O.own rfl nQ av ?_;intro v3 w4 C A E;have ax:=jH (vv.of C A E);clear C A E))
    go_returns;refine⟨_,rfl,?_⟩;have:=((V.trans Q).trans O).trans ax.out;rw[au.out]at this;rw[U.out];simpa using this
theorem Y6(B:Nat)(v:jP)(l:List UInt8)(n d:Nat)(w:jJ)(I:rG w B 5 v l)(hl:l.length<=1000000)(hn:4<=n/\n<=64)(hd:d<=65535)(hB:B<=w.heap.size):
  jV jI 187 #[v,ng nH n,ng nH d] w λe w'=>∃v',e=nE v'/\vv B v w v' (l++xJ n d) w':=by
 by_cases h0:n<=11/\d<2048
 .have Q:jW (xJ n d=[jZ (1+4*(n - 4)+32*(d/256)),jZ (d % 256)]):=jH (by unfold xJ;rw[if_pos h0])
  have ag:decide ((n:Int)<=11)=true:=nQ;have av:decide ((d:Int)<2048)=true:=nQ;obtain⟨q,ah⟩:=nT (d/256);obtain⟨r,ai⟩:=nT (d % 256);rw[ah,ai]at Q;have aD:q<8:=nK;have Iz:r<256:=nK;have ax:(d:Int)/256=(q:Int):=nK;have ay:(d:Int) % 256=(r:Int):=nK;have aF:Int.tdiv (d:Int) 256=(q:Int):=by rw[Int.tdiv_eq_ediv_of_nonneg nK];exact ax
  have aG:Int.tmod (d:Int) 256=(r:Int):=by rw[Int.tmod_eq_emod_of_nonneg nK];exact ay
  have aa:∀x y:Int,x=((1+4*(n - 4)+32*q:Nat):Int)->y=(r:Int)->[lT .u8 x,lT .u8 y]=nU [jZ (1+4*(n - 4)+32*q),jZ r]:=λx y az aA=>by
   have e1:=yf (n:=1+4*(n - 4)+32*q) az nK;have e2:=yf (n:=r) aA nK;simp only[nU,mH,List.map_nil]at e1 e2⊢;rw[List.cons.injEq]at e1 e2;rw[e1.1,e2.1]
  have aB:n<=11:=h0.1;clear h0 ah ai;go_in;go_wp2_with (at_builtin;go_loud (refine xe Ch rfl _ _ rfl B v l [jZ (1+4*(n - 4)+32*q),jZ r] 2 rfl w _ (aa _ _ nK nK) rfl I rfl nK hB ?_);intro v' w' C A E;have U:=jH (vv.of C A E);clear C A E);go_returns;exact⟨_,rfl,by rw[Q.out];exact U.out⟩
 .have Q:jW (xJ n d=[jZ (2+4*(n - 1))]++vJ 2 d):=jH (by unfold xJ;rw[if_neg h0];rfl)
  have Y:=pF 2 d;have c0:=uX d 2 w nK nN nN nK;obtain⟨S,ae⟩:∃S:ByteArray,(⟨(vJ 2 d).toArray⟩:ByteArray)=S:=⟨_,rfl⟩;have N:S.data.toList=vJ 2 d:=by rw[<-ae]
  have aH:S.size=2:=by
   have e:S.data.toList.length=S.size:=kV;rw[<-e,N,Y]
  rw[ae]at c0;have aC:=jH c0;have aj:=jH N;have af:=jH I;clear c0 ae N I Y;have V:(decide ((n:Int)<=11)=false)\/(decide ((n:Int)<=11)=true/\decide ((d:Int)<2048)=false):=by
   by_cases h:n<=11;.exact .inr ⟨nQ,nQ⟩
   .exact .inl nQ
  clear h0;rcases V with ag|⟨ag,av⟩
  all_goals
   go_in;go_wp2_with fail;refine aC.mono ?_;rintro e w2 ⟨rfl,O⟩;have J:=jH (vv.below af O);have Z:B<=w2.heap.size:=kg hB O.size;clear O
   go_wp2_with (first
    |(at_builtin;refine xe Ch rfl _ _ rfl B v l [jZ (2+4*(n - 1))] 1 rfl w2 _ (yf (n:=2+4*(n - 1)) nK nK) rfl J.own rfl nK Z ?_;intro v' w' C A E;have U:=jH (vv.of C A E);have ak:=kg Z A.size;clear C A E)
    |(at_builtin;refine xg Ch rfl _ _ rfl B v' (l++[jZ (2+4*(n - 1))]) S w' rfl U.own rfl nQ ak ?_;intro v2 w3 C A E;have au:=jH (vv.of C A E);clear C A E))
   go_returns;refine⟨_,rfl,?_⟩;have:=(J.trans U).trans au.out;rw[aj.out]at this;rw[Q.out];simpa using this
theorem Od(s:ByteArray)(i:Nat)(h:i<s.size)(x:Int)(A:x=(i:Int))(w:jJ):(kR 9 (ny s) (ng nH x)).run jI w=.ok (ng .u8 ((s[i]).toNat:Int)) w:=by
 subst A;rw[run_index_string w 9 s .i64 i mR];simp[h]
theorem Vd{l:List UInt8}{i j f n:Nat}(h:max i j+n<l.length)(A:l[i+n]? =l[j+n]?):q9 l i j (f+1) n=q9 l i j f (n+1):=by
 rw[q9,if_pos ⟨h,A⟩]
theorem Hz{l:List UInt8}{i j f n:Nat}(h:¬(max i j+n<l.length/\l[i+n]? =l[j+n]?)):q9 l i j (f+1) n=n:=by
 rw[q9,if_neg h]
theorem QG{p:Prop}(h:p:=by
 refine mJ ?_;intro x;go_wp2_with fail;go_returns;exact⟨by rw[HE.out];rfl,HBX x⟩):p:=h
theorem Y7(s:ByteArray)(i j:Nat)(w:jJ)(hs:s.size<=65536)(ay:i<j)(au:j<=s.size):
  jV jI 186 #[ny s,ng nH i,ng nH j] w λe w'=>e=nE (ng nH (qG s.data.toList i j:Nat))/\jS w.heap.size w w':=by
 obtain⟨L,hL⟩:=nT s.size;have Q:s.data.toList.length=s.size:=kV;have U:max i j=j:=nK;have V:∀q (h:q<s.size),s.data.toList[q]? =some (s[q]'h):=λq h=>by
  rw[jX nK];rfl
 obtain⟨R,aa⟩:=nT (qG s.data.toList i j);have av:jW (q9 s.data.toList i j 64 0=R):=jH aa;have ae:=jH hL;have Y:=jH Q;have E:=jH V;have Z:=jH U;rw[aa];rw[hL]at hs au;have aC:(if(i:Int)<(j:Int)then(j:Int)else(i:Int))=(j:Int):=by split<;>omega
 clear aa Q V U;go_in;go_wp2_with fail;go_loopw [7] (λaf ax=>∃n:Nat,af=ng nH n/\n<=64/\jW (q9 s.data.toList i j (64 - n) n=R)/\jW (jS w.heap.size w ax)) (λaf _=>64 -(kW af).toNat);case atStart=>exact⟨0,rfl,nK,av,jH (jT _ _)⟩
 case round=>
  obtain⟨n,rfl,hn,N,ai⟩:=hrel;have HBX:jW (∀x:sM wr,jS w.heap.size w x.at_):=jH λx=>ai.trans (x.is.mono ai.size)
  by_cases az:n<64
  .have ag:jW (64 - n=(64 -(n+1))+1):=jH nK
   have C:jW (decide ((n:Int)<64)=true):=jH nQ;by_cases cl:j+n<L
   .have O:jW (decide (j+n<L)=true):=jH nQ
    have I:jW (decide (max (i:Int) (j:Int)+(n:Int)<(L:Int))=true):=jH (by rw[decide_eq_true_eq];omega);have A:j+n<s.size:=by rw[ae.out];exact cl
    have hin:i+n<s.size:=by rw[ae.out];omega
    have aA:=λW=>Od s (i+n) hin ((i:Int)+(n:Int)) nK W
    have aB:=λW=>Od s (j+n) A ((j:Int)+(n:Int)) nK W
    by_cases J:s[i+n]'hin=s[j+n]'A
    .have aj:jW (q9 s.data.toList i j (64 -(n+1)) (n+1)=R):=jH (by
      rw[<-N.out,ag.out];exact(Vd (by rw[Y.out,Z.out];exact A) (by rw[E.out _ hin,E.out _ A,J])).symm)
     have ah:jW ((((s[i+n]'hin).toNat:Int)==((s[j+n]'A).toNat:Int))=true):=jH (by rw[J];simp);go_upto_region 4 with fail;refine oC nM nM ?_;repeat(first|(go_big_quiet_step (fail))|(rw[C.out])|(rw[O.out])|(rw[I.out])|(rw[ah.out]))
     refine mJ ?_;intro x;go_wp2_with fail;go_roundw;case rel=>exact⟨n+1,by go_num,nK,aj,jH (HBX x)⟩
     case measure=>simp[kW];omega
    .have HE:jW (R=n):=jH (by
      rw[<-N.out,ag.out];exact Hz (λh=>J (by have:=h.2;rw[E.out _ hin,E.out _ A]at this;exact ma this)))
     have ah:jW ((((s[i+n]'hin).toNat:Int)==((s[j+n]'A).toNat:Int))=false):=jH (by
      rw[beq_eq_false_iff_ne];intro h;exact J (lU.1 nK))
     go_upto_region 4 with fail;refine oC nM nM ?_;repeat(first|(go_big_quiet_step (fail))|(rw[C.out])|(rw[O.out])|(rw[I.out])|(rw[ah.out]))
     exact QG
   .have HE:jW (R=n):=jH (by
     rw[<-N.out,ag.out];exact Hz (λh=>by have ak:=h.1;rw[Y.out,Z.out,ae.out]at ak;exact cl ak))
    have O:jW (decide (j+n<L)=false):=jH nQ;have I:jW (decide (max (i:Int) (j:Int)+(n:Int)<(L:Int))=false):=jH (by rw[decide_eq_false_iff_not];omega);go_upto_region 4 with fail;refine oC nM nM ?_;repeat(first|(go_big_quiet_step (fail))|(rw[C.out])|(rw[O.out])|(rw[I.out]))
    exact QG
  .have HE:jW (R=n):=jH (by
    rw[<-N.out,show 64 - n=0 by omega];rfl)
   have C:jW (decide ((n:Int)<64)=false):=jH nQ;go_upto_region 4 with fail;refine oC nM nM ?_;repeat(first|(go_big_quiet_step (fail))|(rw[C.out]))
   exact QG
end
section
open Go.RowKit Go.Maps
abbrev K4T:ko:=224
def Q4.cs(q:Q4):List jP:=[ng .u8 (q.a.toNat:Int),ng .u8 (q.b.toNat:Int),ng .u8 (q.c.toNat:Int),ng .u8 (q.d.toNat:Int)]
def Q4.v(q:Q4):jP:=nC q.cs.toArray
theorem Oe:Tryz.prog.cellsOf K4T=4:=nM
theorem Y8:Tryz.prog.cellsOf 5=1:=nM
theorem Y9:Tryz.prog.keyType K4T=true:=nM
theorem Ta:∃d,Tryz.prog.types.size=d+1:=⟨Tryz.prog.types.size - 1,by
 have:0<Tryz.prog.types.size:=of_decide_eq_true nM;omega⟩
theorem Tc(d:Nat)(cs:List jP):Tryz.prog.keyLits (d+2) K4T cs=if cs.length=4 then((l7 4).mapM λi=>Tryz.prog.keyLits (d+1) 5 ((cs.drop (i*1)).take 1)).map List.flatten else none:=by
 rw[Program.keyLits.eq_def];simp only[Tryz.underlying224,Oe,Y8]
theorem Td(d:Nat)(v:jP):Tryz.prog.keyLits (d+1) 5 [v]=match v with| ng q n=>if q=.u8/\(lJ .u8 n).wf=true then some [lJ .u8 n]else none|_=>none:=by
 rw[Program.keyLits.eq_def];simp only[Tryz.underlying5];cases v<;>rfl
theorem a6t(b:UInt8):(lJ .u8 (b.toNat:Int)).wf=true:=by
 have h:=b.toNat_lt;simp only[Lit.wf,j3,decide_eq_true_eq];have A:IntKind.u8.min=0:=rfl;have C:IntKind.u8.max=255:=rfl;rw[A,C];omega
theorem Za{n:Int}(h:(lJ .u8 n).wf=true):∃b:UInt8,n=(b.toNat:Int):=by
 simp only[Lit.wf,j3,decide_eq_true_eq]at h;have A:IntKind.u8.min=0:=rfl;have C:IntKind.u8.max=255:=rfl;rw[A,C]at h;exact⟨jZ n.toNat,by rw[zu _ nK];omega⟩
theorem a6u(b:UInt8):(lJ .u8 (b.toNat:Int)).keyBytes=[b]:=by
 have h:=b.toNat_lt;have e:((b.toNat:Int) % 2^8).toNat=b.toNat:=nK;show bytesBE (8/8) (((b.toNat:Int) % 2^8).toNat)=[b];rw[e];show [jZ (b.toNat % 256)]=[b];rw[Nat.mod_eq_of_lt h];simp
theorem a1S(d:Nat)(q:Q4):Tryz.prog.keyLits (d+2) K4T q.cs=some [lJ .u8 (q.a.toNat:Int),lJ .u8 (q.b.toNat:Int),lJ .u8 (q.c.toNat:Int),lJ .u8 (q.d.toNat:Int)]:=by
 rw[Tc,if_pos (show q.cs.length=4 from rfl)];have A:l7 4=[0,1,2,3]:=rfl;simp[A,Q4.cs,Td,a6t]
theorem QH(d:Nat)(cs:List jP)(J:List Lit)(h:Tryz.prog.keyLits (d+2) K4T cs=some J):∃q:Q4,cs=q.cs/\J=[lJ .u8 (q.a.toNat:Int),lJ .u8 (q.b.toNat:Int),lJ .u8 (q.c.toNat:Int),lJ .u8 (q.d.toNat:Int)]:=by
 rw[Tc]at h;split at h
 .rename_i hl
  have one:∀(v:jP)(l:List Lit),Tryz.prog.keyLits (d+1) 5 [v]=some l->∃b:UInt8,v=ng .u8 (b.toNat:Int)/\l=[lJ .u8 (b.toNat:Int)]:=by
   intro v l A;rw[Td]at A;split at A
   .split at A
    .rename_i q n N
     cases A;obtain⟨rfl,O⟩:=N;obtain⟨b,rfl⟩:=Za O;exact⟨b,rfl,rfl⟩
    .cases A
   .cases A
  match cs,hl with
  |[v0,v1,v2,v3],_=>
   have Q:l7 4=[0,1,2,3]:=rfl;simp only[Q,List.mapM_cons,List.mapM_nil]at h;simp only[Nat.zero_mul,Nat.one_mul,Nat.reduceMul,List.drop_zero,mX,ky,kQ]at h;cases h0:Tryz.prog.keyLits (d+1) 5 [v0]with
   |none=>rw[h0]at h;cases h
   |some V=>
    cases C:Tryz.prog.keyLits (d+1) 5 [v1]with
    |none=>rw[h0,C]at h;cases h
    |some Y=>
     cases E:Tryz.prog.keyLits (d+1) 5 [v2]with
     |none=>rw[h0,C,E]at h;cases h
     |some l2=>
      cases I:Tryz.prog.keyLits (d+1) 5 [v3]with
      |none=>rw[h0,C,E,I]at h;cases h
      |some Z=>
       rw[h0,C,E,I]at h;obtain⟨b0,rfl,rfl⟩:=one _ _ h0;obtain⟨b1,rfl,rfl⟩:=one _ _ C;obtain⟨U,rfl,rfl⟩:=one _ _ E;obtain⟨b3,rfl,rfl⟩:=one _ _ I;simp at h;exact⟨⟨b0,b1,U,b3⟩,rfl,h.symm⟩
 .cases h
theorem a4v:WideMaps.KeyLaw jI K4T:=deep_law_laid nM (m:=2) nK (of_decide_eq_true nM) nM nM
theorem Og(q:Q4):keyBytes [lJ .u8 (q.a.toNat:Int),lJ .u8 (q.b.toNat:Int),lJ .u8 (q.c.toNat:Int),lJ .u8 (q.d.toNat:Int)]=[q.a,q.b,q.c,q.d]:=by
 simp[keyBytes,a6u]
noncomputable def QI:DX jI K4T Q4 where
 kv:=Q4.v
 kl q:=Lit.string [q.a,q.b,q.c,q.d]
 ok q:=True
 K:=Keyed.of_law a4v
 lay q _:=by
  obtain⟨d,hd⟩:=Ta;unfold keyOf;simp only[Tryz.underlying224,Y9,Bool.true_and];rw[if_pos (by simp[Q4.v,Value.formed,Tryz.underlying224,Oe,Q4.cs]),hd,show Q4.v q=.agg q.cs.toArray from rfl,show(Value.agg q.cs.toArray).cells.toList=q.cs from rfl,a1S,Option.map_some,Og]
 inv v l h:=by
  obtain⟨d,hd⟩:=Ta;unfold keyOf at h;simp only[Tryz.underlying224,Y9,Bool.true_and]at h;split at h
  .rename_i A
   rw[hd]at h;cases hk:Tryz.prog.keyLits (d+2) K4T v.cells.toList with
   |none=>rw[hk]at h;cases h
   |some E=>
    rw[hk]at h;obtain⟨q,C,rfl⟩:=QH _ _ _ hk;rw[Option.map_some,Og]at h;cases h;refine⟨q,?_,rfl⟩;cases v with
    |agg cs=>
     show Value.agg cs=nC q.cs.toArray;have:cs.toList=q.cs:=C;rw[<-this]
    |_=>simp[Value.formed,Tryz.underlying224]at A
  .cases h
 inj x y h:=by
  cases x;cases y
  simpa using h
 key q:=trivial
end
end Go.Proofs.YtamfcjmhnndbdaaGreatDoor


