/- Part 14 of the proof. -/
import Derived.Test.YtamfcjmhnndbdaaGreatDoorZu09
import Derived.Test.YtamfcjmhnndbdaaGreatDoorZu00
import Derived.Test.YtamfcjmhnndbdaaGreatDoorZu03
import Derived.Test.YtamfcjmhnndbdaaGreatDoorZu07
import Derived.Test.YtamfcjmhnndbdaaGreatDoorZu13
import Derived.RegionTactic
import Derived.BigRegion
import Derived.ChangeAlike
import Derived.Deep.QuietTactic
import Derived.BigQuiet
open Go.Value renaming agg→nC,bool→nA,int→ng,pointer→nz,slice→nk,string→ny,tuple→nD,ownBlock→kJ,slice→kM
open Go.Obj renaming cells→nG
open Go.IntKind renaming i64→nH,u32→nJ,u64→nI
open Go.Ending renaming returned→nE
open Go.Lib renaming hid→jH
open Go.Proofs.Tryz renaming prog→jI
open Go renaming World→jJ,Value→jP,Calls→jV,maxLen→j5,TypeId→ko,undef→kH,Oper→lX,Addr→l5,Program→mK
open List renaming setIfInBounds_toArray→jK,getElem?_cons_succ→jM,getElem?_cons_zero→jN,getElem?_toArray→jO,set_cons_zero→jQ,set_cons_succ→jR,length_append→jY,take_succ_cons→ky,length_cons→kD,take_zero→kQ,length_drop→kS,getElem?_eq_some_iff→ll,mem_cons→mD,size_toArray→mP,take_append_drop→mQ
open Nat renaming le_refl→jL,le_trans→kg,lt_of_lt_of_le→kG,zero_le→kI,lt_or_ge→lh,le_of_eq→mV
open Go.RowKit renaming Below→jS,Hid→jW,intOf→kW
open Go.RowKit.Below renaming refl→jT
open And renaming intro→jU
open UInt8 renaming ofNat→jZ,toNat_inj→lU
open Bool renaming and_eq_true→j3,false_eq_true→lF
open ByteArray renaming size_extract→kz
open Go.World renaming setCell→kC,cell?→mW
open Go.Act renaming put→kE
open Go.Code renaming region→lg
open Array renaming getD_eq_getD_getElem?→lK
open Go.Instr renaming lookup→lV
open Option.some renaming inj→ma
namespace Go.Proofs.YtamfcjmhnndbdaaGreatDoor
set_option linter.unusedVariables false
set_option linter.unusedSimpArgs false
set_option maxRecDepth 100000
set_option maxHeartbeats 8000000
variable {a0:Act}{α:Type}
section
open Go.RowKit
abbrev K4:ko:=88
def E5(r:Nat)(bv:jP)(nd fa la tt se:Int):Array jP:=#[nz (some ⟨r,0,none⟩),bv,ng nH nd,ng nH fa,ng nH la,ng nH tt,ng nH se]
structure N1C(ks sb r:Nat)(bv:jP)(nd fa la tt se:Int)(Bs:jJ->Prop)(W:jJ):Prop where
 bs:Bs W
 sv:nO W ks #[nz (some ⟨sb,0,none⟩)] Qq
 ss:nO W sb (E5 r bv nd fa la tt se) K4
structure E8(ks kc kt ka sb r:Nat)(c:oK)(s:ByteArray)(p:Nat)(bv:jP)(nd fa la tt se:Int)(Bs:jJ->Prop)(W:jJ):Prop where
 sv:nO W ks #[nz (some ⟨sb,0,none⟩)] Qq
 ss:nO W sb (E5 r bv nd fa la tt se) K4
 cf:nO W kc #[ng nH c.fmt,ng nJ c.mag,ng nH c.pO,ng nH c.qj,ng nH c.dep,ng nH c.oZ] tV
 tx:nO W kt #[ny s] OO
 at_:nO W ka #[ng nH p] InT
 bs:Bs W
 ne:ks≠sb/\kc≠sb/\kt≠sb/\ka≠sb
theorem E8.below{ks kc kt ka sb r:Nat}{c:oK}{s:ByteArray}{p:Nat}{bv:jP}{nd fa la tt se:Int}{Bs:jJ->Prop}{W A:jJ}(qO:∀W A,Bs W->jS W.heap.size W A->Bs A)(h:E8 ks kc kt ka sb r c s p bv nd fa la tt se Bs W)(hb:jS W.heap.size W A):E8 ks kc kt ka sb r c s p bv nd fa la tt se Bs A:=
 ⟨Below.blk hb h.sv h.sv.lt,Below.blk hb h.ss h.ss.lt,Below.blk hb h.cf h.cf.lt,Below.blk hb h.tx h.tx.lt,Below.blk hb h.at_ h.at_.lt,qO _ _ h.bs hb,h.ne⟩
theorem E8.put{ks kc kt ka sb r:Nat}{c:oK}{s:ByteArray}{p:Nat}{bv:jP}{nd fa la tt se:Int}{Bs:jJ->Prop}{W:jJ}(LW:∀W i v,Bs W->Bs (W.setCell ⟨sb,i,none⟩ v))(h:E8 ks kc kt ka sb r c s p bv nd fa la tt se Bs W)(n2:Int):E8 ks kc kt ka sb r c s p bv n2 fa la tt se Bs (W.setCell ⟨sb,2,none⟩ (ng nH n2)):=
 have n:=h.ne;have o:∀{b:Nat}{cs:Array jP}{t:ko},nO W b cs t->b≠sb->nO (W.setCell ⟨sb,2,none⟩ (ng nH n2)) b cs t:=λhB hn=>hB.setOther (a:=⟨sb,2,none⟩) hn _
 ⟨o h.sv n.1,h.ss.set 2 _,o h.cf n.2.1,o h.tx n.2.2.1,o h.at_ n.2.2.2,LW _ _ _ h.bs,h.ne⟩
structure BU(ks ka sb r G p:Nat)(buf:List UInt8)(bo:Option l5)(bc:Nat)(nd fa la tt se:Int)(Bs:jJ->Prop)(d6 d9:Bool)(v6:jP)(W:jJ):Prop where
 sv:nO W ks #[nz (some ⟨sb,0,none⟩)] Qq
 at_:nO W ka #[ng nH p] InT
 ss:nO W sb (E5 r (if d9=true then v6 else nk bo buf.length bc) nd fa la tt se) K4
 ob:d6=false->oD W G wN (nk bo buf.length bc) buf
 od:d6=true->(∃oa cap,v6=nk oa (buf.drop p).length cap)/\oD W G wN v6 (buf.drop p)
 bs:Bs W
 dn:d9=true->d6=true
 ne:ks≠sb/\ka≠sb/\G<=sb/\G<=W.heap.size/\∀b,(kM bo buf.length bc).ownBlock=some b->b≠ks/\b≠ka/\b≠sb
section
variable {ks ka sb r G p:Nat}{buf:List UInt8}{bo:Option l5}{bc:Nat}{nd fa la tt se:Int}{Bs:jJ->Prop}{d6 d9:Bool}{v6 v6':jP}{W W':jJ}
theorem BU.call(hBg:∀W W',Bs W->W.grownBy W' (kM bo buf.length bc).ownBlock->Bs W')(h:BU ks ka sb r G p buf bo bc nd fa la tt se Bs false false v6 W)(hg:W.grownBy W' (kM bo buf.length bc).ownBlock)(ho:oD W' G wN v6' (buf.drop p))(A:∃oa cap,v6'=nk oa (buf.drop p).length cap):
  BU ks ka sb r G p buf bo bc nd fa la tt se Bs true false v6' W':=by
 have n:=h.ne;have q:∀{c:Nat}{cs:Array jP}{t:ko},nO W c cs t->(∀b,(kM bo buf.length bc).ownBlock=some b->b≠c)->nO W' c cs t:=λhB hn=>o8 hB hg hn
 exact⟨q h.sv λb hb=>(n.2.2.2.2 b hb).1,q h.at_ λb hb=>(n.2.2.2.2 b hb).2.1,q h.ss λb hb=>(n.2.2.2.2 b hb).2.2,(λh=>by cases h),λ_=>⟨A,ho⟩,hBg _ _ h.bs hg,λ_=>rfl,⟨n.1,n.2.1,n.2.2.1,kg n.2.2.2.1 hg.size,n.2.2.2.2⟩⟩
theorem BU.put(LW:∀W i v,Bs W->Bs (W.setCell ⟨sb,i,none⟩ v))(A:∀b,v6.ownBlock=some b->b≠sb)(h:BU ks ka sb r G p buf bo bc nd fa la tt se Bs true false v6 W):BU ks ka sb r G p buf bo bc nd fa la tt se Bs true true v6 (W.setCell ⟨sb,1,none⟩ v6):=by
 have n:=h.ne;have o:∀{b:Nat}{cs:Array jP}{t:ko},nO W b cs t->b≠sb->nO (W.setCell ⟨sb,1,none⟩ v6) b cs t:=λhB hn=>hB.setOther (a:=⟨sb,1,none⟩) hn _
 refine⟨o h.sv n.1,o h.at_ n.2.1,h.ss.set 1 _,(λh=>by cases h),λ_=>⟨(h.od rfl).1,?_⟩,LW _ _ _ h.bs,λ_=>rfl,⟨n.1,n.2.1,n.2.2.1,by simpa [kC]using n.2.2.2.1,n.2.2.2.2⟩⟩;exact oD.kp (h.od rfl).2 (F:=λk=>k=sb) (sD.set (F:=λk=>k=sb) (p:=⟨sb,1,none⟩) (sD.refl _ W) (λ_=>rfl) v6) λb hb e=>A b hb e
end
noncomputable def K5:List lX:=cO (cL (cL (cR (cB Tryz.f34))))
section
variable (ks sb r:Nat)(bo:Option l5)(bn bc:Nat)(nd fa la tt se:Int)(Bs:jJ->Prop)
def K6:Nat->jP
 |0=> nz (some ⟨sb,0,none⟩)
 |1=> nz (some ⟨sb,0,none⟩)
 |2=> nz (some ⟨sb,1,none⟩)
 |3=> nk bo bn bc
 |4=> ng nH bn
 |5=> nz (some ⟨sb,0,none⟩)
 |6=> nz (some ⟨sb,0,none⟩)
 |7=> nz (some ⟨sb,2,none⟩)
 |8=> ng nH nd
 |9=> nA (decide ((bn:Int)<nd))
 |_=>kH
structure a8Q(D:Nat->Bool)(vs:Nat->jP)(w:jJ):Prop where
 oJ:N1C ks sb r (nk bo bn bc) nd fa la tt se Bs w
 val:∀j,(true)=true->D j=true->vs j=K6 sb bo bn bc nd j
variable {ks sb r bo bn bc nd fa la tt se Bs}
theorem a4b{id:Nat}{Q:Exit->Act->jJ->Prop}{I:jJ}(ht2:a0.tmps.getD 2 kH=nz (some ⟨ks,0,none⟩))(hsz:a0.tmps.size=73)(hI0:∀vs:Nat->jP,(λw=>N1C ks sb r (nk bo bn bc) nd fa la tt se Bs w) I.drew)(J:∀(vs:Nat->jP) (w:jJ),N1C ks sb r (nk bo bn bc) nd fa la tt se Bs w->Q .normal {a0 with tmps:=((((((((((a0.tmps.setIfInBounds 12 (nz (some ⟨sb,0,none⟩))).setIfInBounds 13 (nz (some ⟨sb,0,none⟩))).setIfInBounds 14 (nz (some ⟨sb,1,none⟩))).setIfInBounds 15 (nk bo bn bc)).setIfInBounds 16 (ng nH bn)).setIfInBounds 17 (nz (some ⟨sb,0,none⟩))).setIfInBounds 18 (nz (some ⟨sb,0,none⟩))).setIfInBounds 19 (nz (some ⟨sb,2,none⟩))).setIfInBounds 20 (ng nH nd)).setIfInBounds 21 (nA (decide ((bn:Int)<nd))))} w):
  (lg id K5.toArray true).wp jI Q a0 I:=by
 refine og 10 73 (a8Q ks sb r bo bn bc nd fa la tt se Bs) nM hsz nM (.inl rfl) nM ?_ ?_ ?_;.exact qF
 .refine rV λA U=> ?_
  clear hI0 J hsz;replace ht2:=jH ht2;dsimp+instances only[K5,cO,cL,cR,cB,Tryz.f34];simp only[ky,kQ,rz];refine⟨?_,?_,?_,?_,?_,?_,?_,?_,?_,?_,trivial⟩<;>(intro D vs a w K hI hd E hw2 C V;subst U;dsimp+instances only[K5,cO,cL,cR,cB,Tryz.f34]);have e2:=(C 2 nN).trans ht2.out;have hB:=hI.oJ.sv;have c0:=hB.c0;clear hB;rotate_left;have Z:=fe C hI.val E 12 0;rotate_left;have aa:=fe C hI.val E 13 1;rotate_left;have N:=fe C hI.val E 14 2;simp only[K6]at N;have hB:=hI.oJ.ss;have c0:=hB.cell 1;simp only[E5,jO,jN,jM]at c0;clear hB;rotate_left;have ae:=fe C hI.val E 15 3;rotate_left;have e2:=(C 2 nN).trans ht2.out;have hB:=hI.oJ.sv;have c0:=hB.c0;clear hB;rotate_left;have af:=fe C hI.val E 17 5;rotate_left;have ag:=fe C hI.val E 18 6;rotate_left;have O:=fe C hI.val E 19 7;simp only[K6]at O;have hB:=hI.oJ.ss;have c0:=hB.cell 2;simp only[E5,jO,jN,jM]at c0;clear hB;rotate_left;have ah:=fe C hI.val E 16 4;have ai:=fe C hI.val E 20 8;rotate_left
  all_goals
   try simp only[K6]at*
   go_simp;exact V _ _ _ rfl ⟨hI.oJ,uR hI.val⟩
 .intro D vs w Y hI
  have E:=hI.oJ;have q:=J vs w E;rw[oW hI.val Y];dsimp+instances only[K5,cO,cL,cR,cB,Tryz.f34];exact qD
end
noncomputable def Fx:List lX:=cO (cL (cR (cL (cR (cR (cR (cR (cR (cR (cR (cR (cR (cB Tryz.f34)))))))))))))
section
variable (ks kc kt ka sb r:Nat)(c:oK)(s:ByteArray)(p:Nat)(bv:jP)(nd fa la tt se:Int)(n2:Nat)(Bs:jJ->Prop)
def yT:Nat->jP
 |0=> nz (some ⟨sb,0,none⟩)
 |1=> nC #[ng nH c.fmt,ng nJ c.mag,ng nH c.pO,ng nH c.qj,ng nH c.dep,ng nH c.oZ]
 |2=> ny s
 |3=> ng nH p
 |4=> ny (s.extract p s.size)
 |5=> ng nH n2
 |6=> nz (some ⟨sb,0,none⟩)
 |7=> nz (some ⟨sb,2,none⟩)
 |_=>kH
structure Yk(D:Nat->Bool)(vs:Nat->jP)(w:jJ):Prop where
 oJ:E8 ks kc kt ka sb r c s p bv (if(D 8)=true then n2 else nd) fa la tt se Bs w
 val:∀j,(true)=true->D j=true->vs j=yT sb c s p n2 j
variable {ks kc kt ka sb r c s p bv nd fa la tt se n2 Bs}
theorem Yl{D:Nat->Bool}{vs:Nat->jP}{w w':jJ}(h:Yk ks kc kt ka sb r c s p bv nd fa la tt se n2 Bs D vs w){i:Nat}(hi:i≠8)(A:E8 ks kc kt ka sb r c s p bv (if(D 8)=true then n2 else nd) fa la tt se Bs w->E8 ks kc kt ka sb r c s p bv (if(D 8)=true then n2 else nd) fa la tt se Bs w'):Yk ks kc kt ka sb r c s p bv nd fa la tt se n2 Bs (zm D i) (zn vs i (yT sb c s p n2 i)) w':=by
 refine⟨?_,uR h.val⟩;rw[nS D (show 8≠i by omega)];exact A h.oJ
theorem a1y{id:Nat}{Q:Exit->Act->jJ->Prop}{O:jJ}(ht2:a0.tmps.getD 2 kH=nz (some ⟨ks,0,none⟩))(ht5:a0.tmps.getD 5 kH=nz (some ⟨kc,0,none⟩))(Aq:a0.tmps.getD 6 kH=nz (some ⟨kt,0,none⟩))(EK:a0.tmps.getD 7 kH=nz (some ⟨ka,0,none⟩))(hp:p<=s.size/\s.size<=100000)(Hl:∀W,jV jI 65 #[nC #[ng nH c.fmt,ng nJ c.mag,ng nH c.pO,ng nH c.qj,ng nH c.dep,ng nH c.oZ],ny (s.extract p s.size)] W λe I=>e=nE (ng nH n2)/\jS W.heap.size W I)(qO:∀W I,Bs W->jS W.heap.size W I->Bs I)(LW:∀W i v,Bs W->Bs (W.setCell ⟨sb,i,none⟩ v))(hsz:a0.tmps.size=73)(hI0:∀vs:Nat->jP,(λw=>E8 ks kc kt ka sb r c s p bv (if false=true then n2 else nd) fa la tt se Bs w) O.drew)(U:∀(vs:Nat->jP) (w:jJ),E8 ks kc kt ka sb r c s p bv (if true=true then n2 else nd) fa la tt se Bs w->Q .normal {a0 with tmps:=((((((((a0.tmps.setIfInBounds 51 (nz (some ⟨sb,0,none⟩))).setIfInBounds 52 (nC #[ng nH c.fmt,ng nJ c.mag,ng nH c.pO,ng nH c.qj,ng nH c.dep,ng nH c.oZ])).setIfInBounds 53 (ny s)).setIfInBounds 54 (ng nH p)).setIfInBounds 55 (ny (s.extract p s.size))).setIfInBounds 56 (ng nH n2)).setIfInBounds 57 (nz (some ⟨sb,0,none⟩))).setIfInBounds 58 (nz (some ⟨sb,2,none⟩)))} w):
  (lg id Fx.toArray true).wp jI Q a0 O:=by
 refine og 9 73 (Yk ks kc kt ka sb r c s p bv nd fa la tt se n2 Bs) nM hsz nM (.inl rfl) nM ?_ ?_ ?_;.exact qF
 .refine rV λA ah=> ?_
  clear hI0 U hsz;replace ht2:=jH ht2;replace ht5:=jH ht5;replace Aq:=jH Aq;replace EK:=jH EK;replace hp:=jH hp;replace Hl:=jH Hl;replace qO:=jH qO;replace LW:=jH LW;dsimp+instances only[Fx,cO,cL,cR,cB,Tryz.f34];simp only[ky,kQ,rz];refine⟨?_,?_,?_,?_,?_,?_,?_,?_,?_,trivial⟩<;>(intro D vs a w K hI hd E hw2 C J;subst ah;dsimp+instances only[Fx,cO,cL,cR,cB,Tryz.f34]);have e2:=(C 2 nN).trans ht2.out;have hB:=hI.oJ.sv;have c0:=hB.c0;clear hB;rotate_left;have e5:=(C 5 nN).trans ht5.out;have hB:=hI.oJ.cf;obtain⟨c0,c1,c2,c3,c4,c5⟩:=hB.a6;clear hB;rotate_left;have ax:=(C 6 nN).trans Aq.out;have hB:=hI.oJ.tx;have c0:=hB.c0;clear hB;rotate_left;have ay:=(C 7 nN).trans EK.out;have hB:=hI.oJ.at_;have c0:=hB.c0;clear hB;rotate_left;have hp:=hp.out;have V:=fe C hI.val E 53 2;have Y:=fe C hI.val E 54 3;simp only[yT]at V Y;obtain⟨aj,ak⟩:=hp;rotate_left
  .have Hl:=Hl.out
   have qO:=qO.out;have Z:=fe C hI.val E 52 1;have aa:=fe C hI.val E 55 4;simp only[yT]at Z aa;have ai:=Hl w;clear Hl;rw[if_pos (by rfl)];go_simp;refine ai.mono ?_;rintro e az ⟨rfl,hb⟩;exact J (yT sb c s p n2 5) _ _ rfl (Yl hI (i:=5) nN λh=>h.below qO hb)
  have au:=fe C hI.val E 51 0;rotate_left;have av:=fe C hI.val E 57 6;rotate_left
  .have LW:=LW.out
   have ae:=fe C hI.val E 56 5;have af:=fe C hI.val E 58 7;simp only[yT]at ae af;have N:=hI.oJ;rw[hd]at N;have hB:=N.ss;have c0:=hB.cell 2;have aA:=hB.free 2;simp only[E5,lF,if_false,jO,jN,jM]at c0;clear hB;go_simp;refine J kH _ _ rfl ⟨?_,uR hI.val⟩;rw[ow];exact N.put LW _
  all_goals
   try simp only[yT]at*
   go_simp;exact J _ _ _ rfl ⟨hI.oJ,uR hI.val⟩
 .intro D vs w ag hI
  have E:=hI.oJ;rw[ag 8 nN]at E;have q:=U vs w E;rw[oW hI.val ag];dsimp+instances only[Fx,cO,cL,cR,cB,Tryz.f34];exact qD
end
noncomputable def Fy:List lX:=cO (cL (cR (cR (cR (cR (cR (cR (cR (cR (cR (cR (cB Tryz.f34))))))))))))
section
variable (ks ka sb r G p:Nat)(buf:List UInt8)(bo:Option l5)(bc:Nat)(nd fa la tt se:Int)(Bs:jJ->Prop)
def Dh:Nat->jP
 |0=> nz (some ⟨sb,0,none⟩)
 |1=> nz (some ⟨sb,0,none⟩)
 |2=> nz (some ⟨sb,0,none⟩)
 |3=> nz (some ⟨sb,1,none⟩)
 |4=> nk bo buf.length bc
 |5=> ng nH p
 |7=> nz (some ⟨sb,0,none⟩)
 |8=> nz (some ⟨sb,1,none⟩)
 |_=>kH
structure a6i(D:Nat->Bool)(vs:Nat->jP)(w:jJ):Prop where
 oJ:BU ks ka sb r G p buf bo bc nd fa la tt se Bs (D 6) (D 9) (vs 6) w
 val:∀j,(j !=6)=true->D j=true->vs j=Dh sb p buf bo bc j
variable {ks ka sb r G p buf bo bc nd fa la tt se Bs}
theorem Sy{id:Nat}{Q:Exit->Act->jJ->Prop}{U:jJ}(ht2:a0.tmps.getD 2 kH=nz (some ⟨ks,0,none⟩))(EK:a0.tmps.getD 7 kH=nz (some ⟨ka,0,none⟩))(hp:p<=buf.length/\buf.length<=100000)(hBg:∀W V,Bs W->W.grownBy V (kM bo buf.length bc).ownBlock->Bs V)(LW:∀W i v,Bs W->Bs (W.setCell ⟨sb,i,none⟩ v))(hBo:∀W v,Bs W->oD W G wN v (buf.drop p)->∀b,v.ownBlock=some b->b≠sb)(hsz:a0.tmps.size=73)(hI0:∀vs:Nat->jP,(λw=>BU ks ka sb r G p buf bo bc nd fa la tt se Bs false false (vs 6) w) U.drew)(Y:∀(vs:Nat->jP) (w:jJ),BU ks ka sb r G p buf bo bc nd fa la tt se Bs true true (vs 6) w->Q .normal {a0 with tmps:=(((((((((a0.tmps.setIfInBounds 63 (nz (some ⟨sb,0,none⟩))).setIfInBounds 64 (nz (some ⟨sb,0,none⟩))).setIfInBounds 65 (nz (some ⟨sb,0,none⟩))).setIfInBounds 66 (nz (some ⟨sb,1,none⟩))).setIfInBounds 67 (nk bo buf.length bc)).setIfInBounds 68 (ng nH p)).setIfInBounds 69 (vs 6)).setIfInBounds 70 (nz (some ⟨sb,0,none⟩))).setIfInBounds 71 (nz (some ⟨sb,1,none⟩)))} w):
  (lg id Fy.toArray true).wp jI Q a0 U:=by
 refine og 10 73 (a6i ks ka sb r G p buf bo bc nd fa la tt se Bs) nM hsz nM (.inl rfl) nM ?_ ?_ ?_;.exact qF
 .refine rV λA aj=> ?_
  clear hI0 Y hsz;replace ht2:=jH ht2;replace EK:=jH EK;replace hp:=jH hp;replace hBg:=jH hBg;replace LW:=jH LW;replace hBo:=jH hBo;dsimp+instances only[Fy,cO,cL,cR,cB,Tryz.f34];simp only[ky,kQ,rz];refine⟨?_,?_,?_,?_,?_,?_,?_,?_,?_,?_,trivial⟩<;>(intro D vs a w K hI hd E hw2 C N;subst aj;dsimp+instances only[Fy,cO,cL,cR,cB,Tryz.f34]);have e2:=(C 2 nN).trans ht2.out;have hB:=hI.oJ.sv;have c0:=hB.c0;clear hB;rotate_left;have e2:=(C 2 nN).trans ht2.out;have hB:=hI.oJ.sv;have c0:=hB.c0;clear hB;rotate_left;have ax:=fe C hI.val E 64 1;rotate_left;have ay:=fe C hI.val E 65 2;rotate_left;have Z:=fe C hI.val E 66 3;simp only[Dh]at Z;have hB:=hI.oJ.ss;rw[hw2 9 nN nM,if_neg nN]at hB;have c0:=hB.cell 1;simp only[E5,jO,jN,jM]at c0;clear hB;rotate_left;have aB:=(C 7 nN).trans EK.out;have hB:=hI.oJ.at_;have c0:=hB.c0;clear hB;rotate_left
  .have hp:=hp.out
   have hBg:=hBg.out;have aa:=fe C hI.val E 67 4;have ae:=fe C hI.val E 68 5;simp only[Dh]at aa ae;have I:=hI.oJ;have af:D 9=false:=by cases h:D 9 with|false=>rfl|true=>exact absurd (hI.oJ.dn h) (by rw[hd];decide)
   rw[hd,af]at I;have ak:=Yj G _ buf p w (I.ob rfl) hp.1 hp.2 I.ne.2.2.2.1;rw[if_pos (by rfl)];go_simp;refine ak.mono ?_;rintro e aC ⟨v6,rfl,ho,hg,au⟩;refine N v6 _ _ rfl ⟨?_,OP rfl hI.val⟩;rw[ow,nS D (show 9≠6 by decide),p9,af];exact I.call hBg hg ho au
  have az:=fe C hI.val E 63 0;rotate_left;have aA:=fe C hI.val E 70 7;rotate_left
  .have LW:=LW.out
   have hBo:=hBo.out;have d6:=E 6 nN nM;have J:a.tmps.getD 69 kH=vs 6:=C 69 nN;have ag:=fe C hI.val E 71 8;simp only[Dh]at ag;have I:=hI.oJ;rw[hd,d6]at I;obtain⟨oa,cap,ah⟩:=(I.od rfl).1;have ai:=hBo w _ I.bs (I.od rfl).2;have av:=I.put LW ai;have J:=J.trans ah;have hB:=I.ss;have c0:=hB.cell 1;have aD:=hB.free 1;simp only[E5,lF,if_false,jO,jN,jM]at c0;clear hB;go_simp;refine N kH _ _ rfl ⟨?_,uR hI.val⟩;rw[ow,nS D (show 6≠9 by decide),oo vs _ (show 6≠9 by decide),d6];rw[<-kS,<-ah];exact av
  all_goals
   try simp only[Dh]at*
   go_simp;exact N _ _ _ rfl ⟨hI.oJ,uR hI.val⟩
 .intro D vs w O hI
  have E:=hI.oJ;rw[O 6 nN]at E;rw[O 9 nN]at E;have q:=Y vs w E;rw[oW hI.val O];dsimp+instances only[Fy,cO,cL,cR,cB,Tryz.f34];exact qD
end
theorem Ym{c:oK}{rows:List Row}{f:vS}{er:Nat}(h:KJ c rows f=.error er):er≠0:=by
 unfold KJ at h;split at h;.cases h;decide
 .split at h
  .rename_i e1 A
   have:=G9 A;cases h;split<;>omega
  .cases h
theorem U0{c:oK}{rows:List Row}{s:ByteArray}{mt:Option (Nat×MS)}{er:Nat}(h:(uy c rows s mt).1=.error er):er≠0:=by
 unfold uy at h;split at h
 .rename_i e1 m2 A
  have:=DZ c s mt e1 (by rw[A]);cases h;omega
 .rename_i y m2 A
  split at h
  .rename_i e1 C
   have:=Ym C;cases h;exact this
  .cases h
theorem Yn{c:oK}(hc:oM c=true){rows:List Row}{s:ByteArray}(hs:s.size<=100000){mt:Option (Nat×MS)}{y:IU×Nat}(h:(uy c rows s mt).1=.ok y):0<y.2/\y.2<=s.size:=by
 unfold uy at h;split at h;.cases h
 .rename_i z m2 A
  have:=Nn hc hs (y:=z) (mt:=mt) (by rw[A]);split at h;.cases h
  .cases h;exact⟨this.1,this.2.1⟩
theorem JC(c:oK)(rows:List Row)(s:ByteArray)(n p:Nat)(mt:Option (Nat×MS)){y:IU×Nat}{m2:Option (Nat×MS)}(h:uy c rows (s.extract p s.size) mt=(.ok y,m2)):xw c rows s (n+1) p mt=⟨y.1::(xw c rows s n (p+y.2) m2).told,(xw c rows s n (p+y.2) m2).at_,(xw c rows s n (p+y.2) m2).err,(xw c rows s n (p+y.2) m2).mt⟩:=by
 rw[xw,h]
theorem NR(c:oK)(rows:List Row)(s:ByteArray)(n p:Nat)(mt:Option (Nat×MS)){er:Nat}{m2:Option (Nat×MS)}(h:uy c rows (s.extract p s.size) mt=(.error er,m2)):xw c rows s (n+1) p mt=⟨[],p,er,m2⟩:=by
 rw[xw,h]
structure E9(w0:jJ)(G g kc kt ka kx sb r mb:Nat)(c:oK)(s:ByteArray)(p:Nat)(m:MS)(bo:Option l5)(bc:Nat)(buf:List UInt8)(nd fa la tt se:Int)(lv:jP)(Lm:List He)(W:jJ):Prop where
 nx:NxE kc (g+1) kt ka g sb r mb c s p m W
 ss:nO W sb (E5 r (nk bo buf.length bc) nd fa la tt se) K4
 ob:oD W G wN (nk bo buf.length bc) buf
 lm:qJ W (λd=>ka<d/\d≠kx) lv Lm
 kp:sD (λk=>k=sb\/k=mb\/(kM bo buf.length bc).ownBlock=some k) w0 W
 lt:w0.heap.size=g/\sb<g/\mb<g/\sb≠mb/\G<=sb/\G<=mb/\G<=g/\g+2<=kc/\g+2<=kt/\g+2<=ka/\kc<W.heap.size/\kt<W.heap.size/\ka<W.heap.size/\kc<ka/\kt<ka/\ka<kx
 bl:∀b,(kM bo buf.length bc).ownBlock=some b->G<=b/\b<g/\b≠sb/\b≠mb
section
variable {w0:jJ}{G g kc kt ka kx sb r mb:Nat}{c:oK}{s:ByteArray}{p:Nat}{m m2:MS}{bo:Option l5}{bc:Nat}{buf:List UInt8}{nd fa la tt se:Int}{lv lv2:jP}{Lm Lm2:List He}{W W':jJ}
theorem E9.kpf(h:E9 w0 G g kc kt ka kx sb r mb c s p m bo bc buf nd fa la tt se lv Lm W){F:Nat->Prop}(k:sD F W W')(hF:∀d,F d->ka<d)(hl:qJ W' (λd=>ka<d/\d≠kx) lv2 Lm2):E9 w0 G g kc kt ka kx sb r mb c s p m bo bc buf nd fa la tt se lv2 Lm2 W':=by
 have l:=h.lt;have n:=h.nx;have q:∀{d:Nat}{cs:Array jP}{t:ko},nO W d cs t->(d<g+2\/d=kc\/d=kt\/d=ka)->nO W' d cs t:=λhB hd=>k.blk hB λA=>by have:=hF _ A;omega
 refine⟨⟨q n.cf nK,q n.mv nK,q n.tx nK,q n.at_ nK,q n.sv nK,⟨?_,kG n.se.2 k.size⟩,⟨q n.mm.1 nK,n.mm.2⟩,n.ne⟩,q h.ss nK,h.ob.kp k λb hb A=>by have:=hF _ A;have:=h.bl b hb;omega,hl,?_,?_,h.bl⟩
 .have:=k.block sb n.se.2 λA=>by have:=hF _ A;omega
  simp only[mW,this];exact n.se.1
 .exact h.kp.trans k λd hd A=>by have:=hF _ A;omega
 .have:=k.size
  omega
theorem E9.below(h:E9 w0 G g kc kt ka kx sb r mb c s p m bo bc buf nd fa la tt se lv Lm W)(hb:jS W.heap.size W W'):E9 w0 G g kc kt ka kx sb r mb c s p m bo bc buf nd fa la tt se lv Lm W':=
 h.kpf (F:=λ_=>False) (sD.of hb) (λ_ h=>h.elim) (qJ.keep h.lm hb.size (λd hd _=>hb.block d hd) λ_ _ h=>h)
theorem E9.next{E:Nat}(h:E9 w0 G g kc kt ka kx sb r mb c s p m bo bc buf nd fa la tt se lv Lm W)(A:oN ka mb W W')(J:pJ W' (some (mb,m2)))(N:nO W' ka #[ng nH E] InT):E9 w0 G g kc kt ka kx sb r mb c s E m2 bo bc buf nd fa la tt se lv Lm W':=by
 have l:=h.lt;have n:=h.nx;have q:∀{d:Nat}{cs:Array jP}{t:ko},nO W d cs t->d≠ka->d≠mb->nO W' d cs t:=λhB O Q=>A.blk hB O Q
 refine⟨⟨q n.cf nK nK,q n.mv nK nK,q n.tx nK nK,N,q n.sv nK nK,⟨?_,kG n.se.2 A.size⟩,J,n.ne⟩,q h.ss nK nK,?_,qJ.keep h.lm A.size (λd hd I=>A.block d hd (by have:=I.1;omega) (by have:=I.1;omega)) λ_ _ h=>h,?_,?_,h.bl⟩
 .have:=A.block sb n.se.2 nK nK
  simp only[mW,this];exact n.se.1
 .exact h.ob.kp (F:=λd=>d=ka\/d=mb) (sD.of2 A (λ_=> .inl rfl) (λ_=> .inr rfl)) λb hb C=>by have:=h.bl b hb;omega
 .exact h.kp.trans (F':=λd=>d=ka\/d=mb) (sD.of2 A (λ_=> .inl rfl) (λ_=> .inr rfl)) λd hd C=>by
   rcases C with C|C
   .omega
   .exact .inr (.inl C)
 .have:=A.size
  omega
theorem E9.low(h:E9 w0 G g kc kt ka kx sb r mb c s p m bo bc buf nd fa la tt se lv Lm W):jS G w0 W:=h.kp.below (λd hd A=>by
 have l:=h.lt;rcases A with A|A|A
 .omega
 .omega
 .have:=h.bl d A;omega) (by have:=h.lt;omega)
theorem Yo{G ka mb:Nat}{w0 W W':jJ}(h:jS G w0 W)(A:oN ka mb W W')(C:G<=ka)(E:G<=mb)(I:G<=W.heap.size):jS G w0 W':=G7 h A C E I
end
def lenOf:jP->Nat
 | nk _ n _=>n
 |_=>0
structure a6j(G sb r mb:Nat)(c:oK)(R:a0T)(bo:Option l5)(bc:Nat)(buf:List UInt8)(nd fa la tt se:Int)(w:jJ)(lv:jP)(w':jJ):Prop where
 msgs:∃Lm:List He,(∃oa cap,lv=nk oa Lm.length cap)/\qJ w' (λd=>w.heap.size<=d) lv Lm/\Lm.map (λy=>y.m)=R.told
 ses:∃bo' bc',nO w' sb (E5 r (nk bo' (buf.drop R.at_).length bc') (if R.err=2 then(Hg c ((⟨buf.toArray⟩:ByteArray).extract R.at_ (⟨buf.toArray⟩:ByteArray).size):Int)else nd) (if R.err=2 then fa else(R.err:Int)) la tt se) K4/\oD w' G wN (nk bo' (buf.drop R.at_).length bc') (buf.drop R.at_)/\∀b,(kM bo' (buf.drop R.at_).length bc').ownBlock=some b->b≠sb
 mt:pJ w' R.mt
 kp:sD (λk=>k=sb\/k=mb\/(kM bo buf.length bc).ownBlock=some k) w w'
def yU(G sb r mb:Nat)(c:oK)(rows:List Row)(m:MS)(bo:Option l5)(bc:Nat)(buf:List UInt8)(nd fa la tt se:Int)(w:jJ)(e:Ending)(w':jJ):Prop:=
 if(buf.length:Int)<nd then e=nE (nk none 0 0)/\jS w.heap.size w w'
 else∃lv,e=nE lv/\a6j G sb r mb c (xw c rows ⟨buf.toArray⟩ (buf.length+1) 0 (some (mb,m))) bo bc buf nd fa la tt se w lv w'
theorem a1z(l:List UInt8):(⟨l.toArray⟩:ByteArray).size=l.length:=mP
theorem Hm{w:jJ}{G:Nat}{v:jP}{l:List UInt8}(h:oD w G wN v l){b:Nat}(hb:v.ownBlock=some b){cs:Array jP}{sb:Nat}(hs:nO w sb cs K4):b≠sb:=by
 rintro rfl;rcases h.2 with⟨rfl,_⟩|⟨g,cap,C,rfl,_,hg,_⟩
 .cases hb
 .cases hb
  have A:w.heap[g]? =some (nG cs K4 (0,0)):=hs;rw[A]at hg;have:K4=wN:=by
   injection hg with e
   injection e
  exact absurd this nN
structure xY(w0:jJ)(sb mb ka:Nat)(m:MS)(bv lv:jP)(Lm:List He)(W:jJ):Prop where
 lm:qJ W (λd=>ka<d) lv Lm
 mt:pJ W (some (mb,m))
 kp:sD (λk=>k=sb\/k=mb\/bv.ownBlock=some k) w0 W
 ss:∃cs,nO W sb cs K4
 lt:w0.heap.size<=ka/\sb<w0.heap.size/\mb<w0.heap.size/\sb≠mb/\∀b,bv.ownBlock=some b->b<w0.heap.size/\b≠sb/\b≠mb
section
variable {w0:jJ}{sb mb ka:Nat}{m:MS}{bv lv:jP}{Lm:List He}{W W':jJ}
theorem xY.kpf(h:xY w0 sb mb ka m bv lv Lm W){F:Nat->Prop}(k:sD F W W')(hF:∀d,F d->d=sb\/bv.ownBlock=some d)(hs:∃cs,nO W' sb cs K4):xY w0 sb mb ka m bv lv Lm W':=by
 have l:=h.lt;have C:∀d,F d->d<w0.heap.size/\d≠mb:=λd hd=>by
  rcases hF d hd with e|e
  .omega
  .have:=l.2.2.2.2 d e;omega
 refine⟨qJ.keep h.lm k.size (λd hd E=>k.block d hd λA=>by have:=C d A;omega) λ_ _ h=>h,⟨k.blk h.mt.1 λA=>(C _ A).2 rfl,h.mt.2⟩,h.kp.trans k λd _ A=> ?_,hs,l⟩;rcases hF d A with e|e
 .exact .inl e
 .exact .inr (.inr e)
theorem xY.below(h:xY w0 sb mb ka m bv lv Lm W)(hb:jS W.heap.size W W'):xY w0 sb mb ka m bv lv Lm W':=
 h.kpf (F:=λ_=>False) (sD.of hb) (λ_ h=>h.elim) (h.ss.imp λ_ k=>Below.blk hb k k.lt)
theorem xY.put(h:xY w0 sb mb ka m bv lv Lm W)(i:Nat)(v:jP):xY w0 sb mb ka m bv lv Lm (W.setCell ⟨sb,i,none⟩ v):=
 h.kpf (F:=λd=>d=sb) (sD.set (F:=λd=>d=sb) (p:=⟨sb,i,none⟩) (sD.refl _ W) (λ_=>rfl) v) (λ_ h=> .inl h) (h.ss.elim λcs k=>⟨_,k.set i v⟩)
theorem xY.grow(h:xY w0 sb mb ka m bv lv Lm W)(hg:W.grownBy W' bv.ownBlock):xY w0 sb mb ka m bv lv Lm W':=
 h.kpf (F:=λd=>bv.ownBlock=some d) (sD.grown hg λ_ e=>e) (λ_ h=> .inr h) (h.ss.imp λ_ k=>o8 k hg λx A=>(h.lt.2.2.2.2 x A).2.1)
end
def IX(w0:jJ)(G sb mb ka:Nat)(m:MS)(bo:Option l5)(bc:Nat)(buf:List UInt8)(lv:jP)(Lm:List He)(W:jJ):Prop:=
 xY w0 sb mb ka m (nk bo buf.length bc) lv Lm W/\oD W G wN (nk bo buf.length bc) buf/\G<=W.heap.size/\G<=sb/\w0.heap.size<=W.heap.size/\ka≠sb
section
variable {w0:jJ}{G g kc kt ka kx sb r mb n2 q:Nat}{c:oK}{s:ByteArray}{m:MS}{bo:Option l5}{bc:Nat}{buf:List UInt8}{nd fa la tt se:Int}{lv v6:jP}{Lm:List He}{W W':jJ}{TOT:a0T}{e1:Nat}
theorem IX.below(h:IX w0 G sb mb ka m bo bc buf lv Lm W)(hb:jS W.heap.size W W'):IX w0 G sb mb ka m bo bc buf lv Lm W':=
 ⟨h.1.below hb,h.2.1.kp (sD.of (F:=λ_=>False) hb) λ_ _ h=>h,kg h.2.2.1 hb.size,h.2.2.2.1,kg h.2.2.2.2.1 hb.size,h.2.2.2.2.2⟩
theorem IX.put(h:IX w0 G sb mb ka m bo bc buf lv Lm W)(i:Nat)(v:jP):IX w0 G sb mb ka m bo bc buf lv Lm (W.setCell ⟨sb,i,none⟩ v):=
 ⟨h.1.put i v,h.2.1.kp (sD.set (F:=λd=>d=sb) (p:=⟨sb,i,none⟩) (sD.refl _ W) (λ_=>rfl) v) λb hb e=>(h.1.lt.2.2.2.2 b hb).2.1 e,by simpa [kC]using h.2.2.1,h.2.2.2.1,by simpa [kC]using h.2.2.2.2.1,h.2.2.2.2.2⟩
theorem E9.fin(h:E9 w0 G g kc kt ka kx sb r mb c s q m bo bc buf nd fa la tt se lv Lm W):IX w0 G sb mb ka m bo bc buf lv Lm W:=by
 have l:=h.lt;refine⟨⟨qJ.keep h.lm (jL _) (λ_ _ _=>rfl) λ_ _ h=>h.1,h.nx.mm,h.kp,⟨_,h.ss⟩,nK,nK,nK,nK,λb hb=> ?_⟩,h.ob,nK,nK,nK,nK⟩;have:=h.bl b hb;omega
theorem E9.a6k(h:E9 w0 G g kc kt ka kx sb r mb c s q m bo bc buf nd fa la tt se lv Lm W):E8 g kc kt ka sb r c s q (nk bo buf.length bc) nd fa la tt se (IX w0 G sb mb ka m bo bc buf lv Lm) W:=by
 have l:=h.lt;exact⟨h.nx.sv,h.ss,h.nx.cf,h.nx.tx,h.nx.at_,h.fin,nK,nK,nK,nK⟩
theorem Sz(A:nO W g #[nz (some ⟨sb,0,none⟩)] Qq)(C:nO W ka #[ng nH q] InT)(E:nO W sb (E5 r (nk bo buf.length bc) nd fa la tt se) K4)(h:IX w0 G sb mb ka m bo bc buf lv Lm W)(hg:w0.heap.size=g):BU g ka sb r G q buf bo bc nd fa la tt se (xY w0 sb mb ka m (nk bo buf.length bc) lv Lm) false false v6 W:=by
 have l:=h.1.lt;refine⟨A,C,E,λ_=>h.2.1,(λh=>by cases h),h.1,(λh=>by cases h),nK,h.2.2.2.2.2,h.2.2.2.1,h.2.2.1,λb hb=> ?_⟩;have:=l.2.2.2.2 b hb;omega
theorem E9.Sz(h:E9 w0 G g kc kt ka kx sb r mb c s q m bo bc buf nd fa la tt se lv Lm W)(e:Int):BU g ka sb r G q buf bo bc nd e la tt se (xY w0 sb mb ka m (nk bo buf.length bc) lv Lm) false false v6 (W.setCell ⟨sb,3,none⟩ (ng nH e)):=by
 have l:=h.lt;exact Go.Proofs.YtamfcjmhnndbdaaGreatDoor.Sz (h.nx.sv.setOther (a:=⟨sb,3,none⟩) (by show g≠sb;omega) _) (h.nx.at_.setOther (a:=⟨sb,3,none⟩) (by show ka≠sb;omega) _) (h.ss.set 3 _) (h.fin.put 3 _) l.1
theorem a1A{rows:List Row}{mm:MS}(A:¬(buf.length:Int)<nd)(I:xw c rows ⟨buf.toArray⟩ (buf.length+1) 0 (some (mb,mm))=⟨Lm.map λy=>y.m,q,e1,some (mb,m)⟩)(h:BU g ka sb r G q buf bo bc (if e1=2 then(Hg c ((⟨buf.toArray⟩:ByteArray).extract q (⟨buf.toArray⟩:ByteArray).size):Int)else nd) (if e1=2 then fa else(e1:Int)) la tt se (xY w0 sb mb ka m (nk bo buf.length bc) lv Lm) true true v6 W):
  yU G sb r mb c rows mm bo bc buf nd fa la tt se w0 (nE lv) W:=by
 unfold yU;rw[if_neg A];obtain⟨⟨C,E,rfl⟩,ho⟩:=h.od rfl;refine⟨lv,rfl,?_⟩;rw[I];exact⟨⟨Lm,h.bs.lm.slice,qJ.keep h.bs.lm (jL _) (λ_ _ _=>rfl) λd _ hd=>by have:=h.bs.lt.1;omega,rfl⟩,⟨C,E,h.ss,ho,λb hb=>h.bs.ss.elim λcs k=>Hm ho hb k⟩,h.bs.mt,h.bs.kp⟩
end
theorem SA{p:Prop}(h:p:=by
 clear hF5;simp only[jK,jQ,jR];go_wp2_with fail;try go_returns
 exact HP5):p:=h
theorem a1B(G sb r mb bn bi:Nat)(c:oK)(L:List oV)(m:MS)(bo:Option l5)(bc:Nat)(buf:List UInt8)(nd fa la tt se:Int)(w:jJ)(hc:oM c=true)(df:c.wf)(aV:nO w sb (E5 r (nk bo buf.length bc) nd fa la tt se) K4)(aW:oD w G wN (nk bo buf.length bc) buf)(aX:pJ w (some (mb,m)))(dh:∀b,(kM bo buf.length bc).ownBlock=some b->b≠sb/\b≠mb)(aG:sb≠mb/\G<=sb/\G<=mb)(hlen:buf.length<=100000)(aY:∀W,jS G w W->qp r bn bi c L W/\qo W/\xm W):
  jV jI 34 #[nz (some ⟨sb,0,none⟩),nz (some ⟨mb,0,none⟩)] w (yU G sb r mb c (L.map λx=>x.r) m bo bc buf nd fa la tt se w):=by
 obtain⟨g,hg⟩:=nT w.heap.size;obtain⟨s,aZ⟩:∃s,(⟨buf.toArray⟩:ByteArray)=s:=⟨_,rfl⟩;have hsz:s.size=buf.length:=aZ▸a1z buf;obtain⟨gJ,dw⟩:=nT buf.length;have dx:sb<g/\mb<g:=⟨hg▸aV.lt,hg▸nO.lt aX.1⟩;have bg:=λb hb=>oD.blk aW b hb
 have dz:jW (∀W,(w.alloc (nG #[nz (some ⟨sb,0,none⟩)] Qq)).alloc (nG #[nz (some ⟨mb,0,none⟩)] MtT)=W->nO W g #[nz (some ⟨sb,0,none⟩)] Qq/\nO W (g+1) #[nz (some ⟨mb,0,none⟩)] MtT/\jS g w W/\W.heap.size=g+2):=jH λW aA=>by
  subst aA;have dP:=(jT w.heap.size w).alloc (jL _) (nG #[nz (some ⟨sb,0,none⟩)] Qq);have a2:=dP.alloc nR (nG #[nz (some ⟨mb,0,none⟩)] MtT);have au:=nO.new w #[nz (some ⟨sb,0,none⟩)] Qq;have av:=nO.new (w.alloc (nG #[nz (some ⟨sb,0,none⟩)] Qq)) #[nz (some ⟨mb,0,none⟩)] MtT;rw[show(w.alloc (nG #[nz (some ⟨sb,0,none⟩)] Qq)).heap.size=g+1 by simp[hg]]at av;rw[hg]at au;exact⟨au.alloc _,av,hg▸a2,by simp[hg]⟩
 have bq:=jH (jU aV (jU aW (jU aX (jU dh (jU aG (jU dx bg))))));have bu:=jH aY;have bX:=jH (jU hc df);have Q:=jH (jU aZ hsz);have dA:jW (G<=g):=jH nK;have aa:=jH hlen;obtain⟨dQ,dR⟩:=nT (yU G sb r mb c (L.map λx=>x.r) m bo bc buf nd fa la tt se w);have eu:=jH dR;have eB:=jH dw;rw[dR];clear aV aW aX dh aG hlen aY hc df aZ hsz dR dx bg dw;go_in;go_upto_region 1 with fail;obtain⟨dB,dC,dD,dE⟩:=dz.out _ rfl;generalize (w.alloc _).alloc _=w1 at*;have aT:=jH (jU dB (jU dC (jU dD dE)));clear dz dB dC dD dE;have hdr:nO w1.drew g #[nz (some ⟨sb,0,none⟩)] Qq/\nO w1.drew (g+1) #[nz (some ⟨mb,0,none⟩)] MtT/\jS g w w1.drew/\w1.drew.heap.size=g+2:=⟨aT.1,aT.2.1,aT.2.2.1.trans ((oz w1).mono (by have:=aT.2.2.2;omega)),aT.2.2.2⟩;rw[<-eB.out]at*;refine a4b (ks:=g) (sb:=sb) (r:=r) (bo:=bo) (bn:=buf.length) (bc:=bc) (nd:=nd) (fa:=fa) (la:=la) (tt:=tt) (se:=se) (Bs:=λW=>nO W g #[nz (some ⟨sb,0,none⟩)] Qq/\nO W (g+1) #[nz (some ⟨mb,0,none⟩)] MtT/\jS g w W/\W.heap.size=g+2) (ht2:=by rfl) (hsz:=by rfl) (hI0:=λ_=>⟨hdr,hdr.1,Below.blk hdr.2.2.1 bq.1 bq.2.2.2.2.2.1.1⟩) ?_;intro vs bY hF;have C:=jH hF.bs;clear hF hdr aT;simp only[jK,jQ,jR];by_cases E:(buf.length:Int)<nd
 .have t0:decide ((buf.length:Int)<nd)=true:=by simp[E]
  have dS:=jH E;rw[t0];clear E t0;go_wp2_with fail;try go_returns
  rw[<-eu.out];unfold yU;rw[if_pos dS.out];exact⟨rfl,hg.symm▸C.2.2.1⟩
 .have t0:decide ((buf.length:Int)<nd)=false:=by simp[E]
  have dS:=jH E;rw[t0];clear E;have aH:∀W,jS g w W->nO W sb (E5 r (nk bo buf.length bc) nd fa la tt se) K4/\oD W G wN (nk bo buf.length bc) buf/\pJ W (some (mb,m)):=λW hb=>by
   obtain⟨e1,e2,e3,e4,e5,dU,eD⟩:=bq.out;exact⟨Below.blk hb e1 dU.1,oD.kp e2 (sD.of (F:=λ_=>False) (hg.symm▸hb)) (λ_ _ h=>h),⟨Below.blk hb e3.1 dU.2,e3.2⟩⟩
  have ax:=jH aH;clear aH;have c1:bY.cell? ⟨sb,0,none⟩=some (nz (some ⟨r,0,none⟩)):=(ax _ C.2.2.1).1.cell 0;have c2:bY.cell? ⟨g,0,none⟩=some (nz (some ⟨sb,0,none⟩)):=C.1.cell 0;have eF:=jH (Hf r bn bi c L bY (bu bY (C.2.2.1.mono dA)).1);go_wp2_with fail;refine eF.mono ?_;rintro e w2 ⟨rfl,ay⟩;obtain⟨kc,dF⟩:=nT w2.heap.size;have eG:jW (∀W,w2.alloc (nG #[ng nH c.fmt,ng nJ c.mag,ng nH c.pO,ng nH c.qj,ng nH c.dep,ng nH c.oZ] tV)=W->nO W g #[nz (some ⟨sb,0,none⟩)] Qq/\nO W (g+1) #[nz (some ⟨mb,0,none⟩)] MtT/\jS g w W/\g+2<=kc/\W.heap.size=kc+1/\nO W kc #[ng nH c.fmt,ng nJ c.mag,ng nH c.pO,ng nH c.qj,ng nH c.dep,ng nH c.oZ] tV):=jH λW aA=>by
   subst aA;have a:=(jT w2.heap.size w2).alloc (jL _) (nG #[ng nH c.fmt,ng nJ c.mag,ng nH c.pO,ng nH c.qj,ng nH c.dep,ng nH c.oZ] tV);obtain⟨aB,ae,bz,fQ⟩:=C.out;have gP:=ay.size;have au:=Below.blk ay aB aB.lt;have av:=Below.blk ay ae ae.lt;exact⟨Below.blk a au au.lt,Below.blk a av av.lt,bz.trans ((ay.mono nK).trans (a.mono nK)),nK,by simp[dF],dF▸nO.new w2 _ _⟩
  clear ay eF c1 c2 t0;go_upto_region 4 with fail;have eH:=eG.out _ rfl;generalize w2.alloc _=w3 at*;have ai:=jH eH;clear eH eG C;have fT:w3.cell? ⟨g,0,none⟩=some (nz (some ⟨sb,0,none⟩)):=ai.1.cell 0;have fU:w3.cell? ⟨sb,1,none⟩=some (nk bo buf.length bc):=(ax _ ai.2.2.1).1.cell 1;have eO:(convert VJ OO (nk bo buf.length bc)).run jI w3=.ok (ny s) w3:=Q.1▸oD.string Ch (ax _ ai.2.2.1).2.1;have bA:jW (∀W,(w3.alloc (nG #[ny s] OO)).alloc (nG #[ng nH 0] InT)=W->∀kx,kc+2<kx->E9 w G g kc (kc+1) (kc+2) kx sb r mb c s 0 m bo bc buf nd fa la tt se (nk none 0 0) [] W/\W.heap.size=kc+3):=jH λW aA kx bB=>by
   subst aA;obtain⟨aB,ae,bz,fQ,ag,bC⟩:=ai.out;obtain⟨e1,e2,e3,e4,e5,dU,eD⟩:=bq.out;have dP:=(jT w3.heap.size w3).alloc (jL _) (nG #[ny s] OO);have a2:=dP.alloc nR (nG #[ng nH 0] InT);have au:=nO.new w3 #[ny s] OO;have av:=nO.new (w3.alloc (nG #[ny s] OO)) #[ng nH 0] InT;rw[show(w3.alloc (nG #[ny s] OO)).heap.size=kc+2 by simp[ag]]at av;rw[ag]at au;have bD:jS g w ((w3.alloc (nG #[ny s] OO)).alloc (nG #[ng nH 0] InT)):=bz.trans (a2.mono nK);obtain⟨bZ,dV,fV⟩:=ax.out _ bD;have gK:=dA.out;refine⟨⟨⟨Below.blk a2 bC bC.lt,Below.blk a2 ae ae.lt,au.alloc _,av,Below.blk a2 aB aB.lt,⟨bZ.cell 0,bZ.lt⟩,fV,nK⟩,bZ,dV,qJ.nil _ _,sD.of (hg.symm▸bD),?_,λb hb=> ?_⟩,by simp[ag]⟩;.simp[ag];omega
   .have:=eD b hb;have:=e4 b hb;omega
  have gL:=ai.2.2.2.2.1;go_upto_region 8 with fail;have dG:=λkx hk=>(bA _ rfl kx hk).1
  have dH:=(bA _ rfl (kc+3) nK).2;generalize (w3.alloc _).alloc _=w4 at*;rw[show kc+1+1=kc+2 from rfl];have bE:=jH (λkx hk=>(dG kx hk:E9 w G g kc (kc+1) (kc+2) kx sb r mb c s 0 m bo bc buf nd fa la tt se (nk none 0 0) [] w4));have bF:=jH dH;clear dG dH bA ai fU fT eO ax;have bG:∀(kx p:Nat)(m:MS)(lv:jP)(Lm:List He)(W:jJ),E9 w G g kc (kc+1) (kc+2) kx sb r mb c s p m bo bc buf nd fa la tt se lv Lm W->p<=s.size->jV jI 62 #[nz (some ⟨kc,0,none⟩),nz (some ⟨g+1,0,none⟩),nz (some ⟨kc+1,0,none⟩),nz (some ⟨kc+2,0,none⟩),nz (some ⟨g,0,none⟩)] W (Hd (kc+2) mb p (uy c (L.map λx=>x.r) (s.extract p s.size) (some (mb,m))) W):=λkx p m lv Lm W h hp=>
   Yh kc (g+1) (kc+1) (kc+2) g sb r mb bn bi c L s p m W h.nx bX.1 bX.2 ⟨hp,by rw[Q.2];exact aa.out⟩ λfZ gm=>bu.out fZ (Yo h.low gm (by have:=h.lt;omega) (by have:=h.lt;omega) (by have:=h.lt;omega))
  have dI:=jH bG;have bH:=jH (bG (kc+3) 0 m _ _ w4 (bE _ nK) (kI _));clear bG;obtain⟨⟨J,eP⟩,aI⟩:∃R,uy c (L.map λx=>x.r) (s.extract 0 s.size) (some (mb,m))=R:=⟨_,rfl⟩;rw[aI]at bH;have eQ:=jH aI;have aJ:=D7 c (L.map λx=>x.r) (s.extract 0 s.size) (some (mb,m));rw[aI]at aJ;obtain⟨cz,rfl⟩:∃cz,eP=some (mb,cz):=by
   cases eP with
   |none=>cases aJ
   |some q=>obtain⟨bZ,dV⟩:=q;cases aJ;exact⟨dV,rfl⟩
  clear aI aJ;go_wp2_with fail;refine bH.mono ?_;unfold Hd;dsimp only;rintro e w5 ⟨ov,cv,bI,rfl,N,dJ,aj,bJ⟩;have dK:=jH (λkx hk=>(bE kx hk).next bJ dJ aj);obtain⟨kx,bB⟩:=nT w5.heap.size;have aC:kc+2<kx:=by have:=bJ.size;have:=bF.out;omega
  have dL:jW (∀W,w5.alloc (nG #[ny (mN (rQ J)),ny (mT (rQ J)),nA (mL (rQ J)),nk ov (mS (rQ J)).length cv] zq)=W->E9 w G g kc (kc+1) (kc+2) kx sb r mb c s (goR 0 J) cz bo bc buf nd fa la tt se (nk none 0 0) [] W/\nO W kx #[ny (mN (rQ J)),ny (mT (rQ J)),nA (mL (rQ J)),nk ov (mS (rQ J)).length cv] zq/\nV W (λd=>kc+2<d/\d≠kx/\(kM none 0 0).ownBlock≠some d) (nk ov (mS (rQ J)).length cv) (mS (rQ J))):=jH λW aA=>by
   subst aA;have a:=(jT w5.heap.size w5).alloc (jL _) (nG #[ny (mN (rQ J)),ny (mT (rQ J)),nA (mL (rQ J)),nk ov (mS (rQ J)).length cv] zq);refine⟨(dK kx aC).below a,bB▸nO.new w5 _ _,Shape.nX.keep N a.size (λd hd V=>⟨by have:w4.heap.size<=d:=V;have:=bF.out;omega,nK,by simp[kJ]⟩) λd hd _=>a.block d hd⟩
  clear bI N dJ aj bJ bH bE dK;go_upto_region 9 with fail;have dM:=dL.out _ rfl;generalize w5.alloc _=gQ at*;have eT:=jH dM;clear dM dL;obtain⟨dN,bK⟩:=nT (xw c (L.map λx=>x.r) s (buf.length+1) 0 (some (mb,m)));have bL:=jH bK;clear bK;have eU:jW (∀q (U:Option (Nat×MS)) er,(uy c (L.map λx=>x.r) (s.extract q s.size) U).1=.error er->er≠0):=jH λq U er h=>U0 h
  have eX:jW (∀q (U:Option (Nat×MS)) y,q<=s.size->(uy c (L.map λx=>x.r) (s.extract q s.size) U).1=.ok y->0<y.2/\q+y.2<=s.size):=jH λq U y V h=>by
   have hsz:=Q.2;have hl:=aa.out;have:=Yn bX.1 (s:=s.extract q s.size) (by simp only[kz];omega) h;simp only[kz]at this;omega
  have aD:jW (kc+2<kx):=jH aC;clear bF bB aC;obtain⟨gp,bM⟩:=nT (mE (rQ J));rw[bM];have eY:=jH bM;clear bM
  go_loopw [9,11] (λlv ev dW=>∃(n:Nat) (oa:Option l5) (cap:Nat) (er:Nat),lv=nk oa n cap/\ev=ng nH er/\n<=100000/\jW (∃(q fuel:Nat) (U m2:MS) (R:Except Nat (IU×Nat)) (Lm:List He) (ov:Option l5) (cv:Nat),Lm.length=n/\mE (rQ R)=er/\q<=s.size/\s.size<=q+fuel/\n<=q/\uy c (L.map λx=>x.r) (s.extract q s.size) (some (mb,U))=(R,some (mb,m2))/\
   E9 w G g kc (kc+1) (kc+2) kx sb r mb c s (goR q R) m2 bo bc buf nd fa la tt se (nk oa n cap) Lm dW/\nO dW kx #[ny (mN (rQ R)),ny (mT (rQ R)),nA (mL (rQ R)),nk ov (mS (rQ R)).length cv] zq/\nV dW (λd=>kc+2<d/\d≠kx/\(kM oa n cap).ownBlock≠some d) (nk ov (mS (rQ R)).length cv) (mS (rQ R))/\
   dN=⟨Lm.map (λy=>y.m)++(xw c (L.map λx=>x.r) s (fuel+1) q (some (mb,U))).told,(xw c (L.map λx=>x.r) s (fuel+1) q (some (mb,U))).at_,(xw c (L.map λx=>x.r) s (fuel+1) q (some (mb,U))).err,(xw c (L.map λx=>x.r) s (fuel+1) q (some (mb,U))).mt⟩)) (λlv _ _=>100001 -(lenOf lv))
  case atStart=>
   obtain⟨aB,ae,bz⟩:=eT.out;exact⟨0,none,0,gp,rfl,rfl,nK,jH ⟨0,buf.length,m,cz,J,[],ov,cv,rfl,eY.out,kI _,by rw[Q.2];omega,jL _,eQ.out,aB,ae,bz,by rw[bL.out];rfl⟩⟩
  case round=>
   obtain⟨n,oa,cap,er,rfl,rfl,hn,eZ⟩:=hrel;obtain⟨q,fuel,U,m2,R,Lm,ov,cv,hl,af,V,aK,Y,hst,A,ak,N,I⟩:=eZ.out;clear eZ;by_cases h0:er=0
   .obtain⟨y,rfl⟩:∃y,R=.ok y:=by
     cases R with
     |error e1=>exact absurd (af.trans h0) (eU q _ e1 (by rw[hst]))
     |ok y=>exact⟨y,rfl⟩
    subst h0;obtain⟨hy0,hy1⟩:=eX.out q _ y V (by rw[hst]);have ak:nO wr kx #[ny y.1.name,ny (txt y.1.val.lab),nA y.1.val.lab.list,nk ov y.1.val.sub.length cv] zq:=ak;have N:nV wr (λd=>kc+2<d/\d≠kx/\(kM oa n cap).ownBlock≠some d) (nk ov y.1.val.sub.length cv) y.1.val.sub:=N;have A:E9 w G g kc (kc+1) (kc+2) kx sb r mb c s (q+y.2) m2 bo bc buf nd fa la tt se (nk oa n cap) Lm wr:=A;obtain⟨⟨b0,b1,gq,b3⟩,_⟩:=oF ak;have fq:n+1<=100000:=by have:=Q.2;have:=aa.out;omega
    have C:=jH (jU hl (jU V (jU aK (jU Y (jU hst (jU A (jU ak (jU N (jU I (jU hy0 hy1))))))))));clear hl af V aK Y hst A ak N I hy0 hy1;go_upto_region 11 with(at_builtin;go_loud (refine tL a4a Sw rfl _ _ rfl (B:=0) (v:=nk oa n cap) (L:=Lm) (y:=(⟨y.1,ov,cv⟩:He)) rfl (C.2.2.2.2.2.1.lm.1.below ((jT _ wr).alloc (jL _) _)) rfl (nO.new wr #[ny y.1.name,ny (txt y.1.val.lab),nA y.1.val.lab.list,nk ov y.1.val.sub.length cv] zq) rfl (by simp[mcl,He.u,Value.oneCell']) (by have:=C.1;omega) (kI _) ?_);intro cK fu w2 bN O aj dX)
    have aL:wr.grownBy w2 (kM oa n cap).ownBlock:=⟨O.os,O.tape,O.output,by have:=O.size;simp at this;omega,λd hd aG=>(O.block d nQ aG).trans (((jT wr.heap.size wr).alloc (jL _) _).block d hd)⟩;have aU:E9 w G g kc (kc+1) (kc+2) kx sb r mb c s (q+y.2) m2 bo bc buf nd fa la tt se (nk (some ⟨cK,0,none⟩) (Lm.length+1) fu) (Lm++[⟨y.1,ov,cv⟩]) w2/\nO w2 kx #[ny y.1.name,ny (txt y.1.val.lab),nA y.1.val.lab.list,nk ov y.1.val.sub.length cv] zq:=by
     have A:=C.2.2.2.2.2.1;have aM:=A.lm;have fw:=C.2.2.2.2.2.2.1.lt;have cZ:=qJ.push (x:=(⟨y.1,ov,cv⟩:He)) aM bN aL (aj.imp id λe=>by rw[e];simp) C.2.2.2.2.2.2.2.1 (λd hd=>hd.2.2);refine⟨A.kpf (sD.grown aL (F:=λd=>(kM oa n cap).ownBlock=some d) λb hb=>hb) (λd hd=>(aM.2.1 d hd).1) (qJ.keep cZ (jL _) (λ_ _ _=>rfl) λd _ hd=> ?_),o8 C.2.2.2.2.2.2.1 aL λx gu=>(aM.2.1 x gu).2⟩;rcases hd with hd|hd|hd
     .exact hd
     .exact⟨hd.1,hd.2.1⟩
     .subst hd
      rcases aj with ag|ag
      .exact aM.2.1 _ ag
      .have hk:kx<wr.heap.size:=fw
       have bC:d=wr.heap.size+1:=by rw[ag];simp
       have:=A.lt;show kc+2<d/\d≠kx;constructor<;>omega
    clear bN O aj dX aL b0 b1 gq b3;have hy1:=C.2.2.2.2.2.2.2.2.2.2;have dY:=jH (dI kx (q+y.2) m2 _ _ w2 aU.1 hy1);obtain⟨⟨ah,fA⟩,aN⟩:∃R,uy c (L.map λx=>x.r) (s.extract (q+y.2) s.size) (some (mb,m2))=R:=⟨_,rfl⟩;rw[aN]at dY;have aO:=D7 c (L.map λx=>x.r) (s.extract (q+y.2) s.size) (some (mb,m2));rw[aN]at aO;obtain⟨dZ,rfl⟩:∃dZ,fA=some (mb,dZ):=by
     cases fA with
     |none=>cases aO
     |some z=>obtain⟨gT,gy⟩:=z;cases aO;exact⟨gy,rfl⟩
    have fB:=jH aN;have az:=jH aU;clear aN aO aU;go_wp2_with fail;refine dY.mono ?_;unfold Hd;dsimp only;rintro e aP ⟨bO,bP,bI,rfl,aQ,bQ,bR,aF⟩;have bS:nO aP kx #[ny y.1.name,ny (txt y.1.val.lab),nA y.1.val.lab.list,nk ov y.1.val.sub.length cv] zq:=aF.blk az.2 (by have:=aD.out;omega) (by have:=bq.2.2.2.2.2.1;have:=az.1.lt;omega);have fC:=jH (jU (az.1.next aF bQ bR) (jU bS aQ));obtain⟨⟨gU,au,av,gV⟩,gW,f1,f2,f3⟩:=oF bS;obtain⟨e3,bT⟩:=nT (mE (rQ ah));rw[bT];have fD:=jH bT;clear bI aQ bQ bR aF bS bT dY;go_wp2_with fail;rw[tJ];have bU:Lm.length=n:=C.1;go_roundw;case rel=>
     obtain⟨fE,gz,gB⟩:=fC.out;obtain⟨_,V,aK,Y,hst,_,_,_,I,hy0,_⟩:=C.out;obtain⟨f1,rfl⟩:∃f1,fuel=f1+1:=⟨fuel - 1,nK⟩;obtain⟨ed,ek,gD,gF,gG⟩:=yR aP kx (ny (mN (rQ ah))) (ny (mT (rQ ah))) (nA (mL (rQ ah))) (nk bO (mS (rQ ah)).length bP);have fF:sD (λd=>d=kx) aP (yQ aP kx (ny (mN (rQ ah))) (ny (mT (rQ ah))) (nA (mL (rQ ah))) (nk bO (mS (rQ ah)).length bP)):=⟨gD,gF,gG,mV ek.symm,λk _ hk=>ed k hk⟩;have fG:=fE.kpf fF (λd hd=>by subst hd;exact aD) (qJ.keep fE.lm (mV ek.symm) (λd _ hd=>ed d hd.2) λ_ _ h=>h);have gM:=az.2.lt;have fH:=az.1.lm;refine⟨n+1,some ⟨cK,0,none⟩,fu,e3,by rw[bU],rfl,fq,jH ⟨q+y.2,f1,m2,dZ,ah,Lm++[⟨y.1,ov,cv⟩],bO,bP,by simp[bU],fD.out,hy1,nK,nK,fB.out,by rw[<-bU];exact fG,rD gz,?_,?_⟩⟩
     .refine Shape.nX.keep gB (mV ek.symm) (λd hd V=> ?_) (λd _ V=>ed d (by have:w2.heap.size<=d:=V;omega))
      have hd2:w2.heap.size<=d:=V;refine⟨by have:=aD.out;omega,nK,λe=> ?_⟩;have:=(fH.1.block cK rfl).2.1;have gH:some cK=some d:=e;cases gH;omega
     .rw[I,JC c _ s (f1+1) q (some (mb,U)) hst]
      simp
    case measure=>simp[lenOf];omega
   .obtain⟨e1,rfl⟩:∃e1,R=.error e1:=by
     cases R with
     |error e1=>exact⟨e1,rfl⟩
     |ok y=>exact absurd af.symm h0
    have af:e1=er:=af;subst af;have gN:((e1:Int)==0)=false:=nQ;rw[NR c _ s fuel q (some (mb,U)) hst]at I;have A:E9 w G g kc (kc+1) (kc+2) kx sb r mb c s q m2 bo bc buf nd fa la tt se (nk oa n cap) Lm wr:=A;have I:dN=⟨Lm.map (λy=>y.m),q,e1,some (mb,m2)⟩:=by rw[I];simp
    have C:=jH (jU hl (jU V (jU I A)));clear hl af V aK Y hst A ak N I dI;have dO:jW (∀bV bW v6 W,bV=(if e1=2 then(Hg c ((⟨buf.toArray⟩:ByteArray).extract q (⟨buf.toArray⟩:ByteArray).size):Int)else nd)->bW=(if e1=2 then fa else(e1:Int))->BU g (kc+2) sb r G q buf bo bc bV bW la tt se (xY w sb mb (kc+2) m2 (nk bo buf.length bc) (nk oa n cap) Lm) true true v6 W->dQ (nE (nk oa n cap)) W):=jH λbV bW v6 W e2 e3 h=>by
     subst e2 e3;rw[<-eu.out];refine a1A (Int.not_lt.mpr dS) ?_ h;have ag:=bL.out;have bC:=Q.1;subst bC;rw[ag];exact C.2.2.1
    have aR:q<=s.size/\s.size<=100000:=⟨C.2.1,by have:=Q.2;have:=aa.out;omega⟩;have aS:q<=buf.length/\buf.length<=100000:=⟨by have:=Q.2;have:=C.2.1;omega,aa.out⟩;by_cases ae:e1=2
    .subst ae
     go_upto_region 13 with fail;obtain⟨nq,Y⟩:=nT (Hg c (s.extract q s.size));have fI:=jH (λW=>Qr c bX.1 (s.extract q s.size) W (by simp only[kz];omega));rw[Y]at fI;have fJ:=jH Y;clear Y;refine a1y (ks:=g) (kc:=kc) (kt:=kc+1) (ka:=kc+2) (sb:=sb) (r:=r) (c:=c) (s:=s) (p:=q) (bv:=nk bo buf.length bc) (nd:=nd) (fa:=fa) (la:=la) (tt:=tt) (se:=se) (n2:=nq) (Bs:=IX w G sb mb (kc+2) m2 bo bc buf (nk oa n cap) Lm) (ht2:=by rfl) (ht5:=by rfl) (Aq:=by rfl) (EK:=by rfl) (hsz:=by rfl) (hp:=aR) (Hl:=fI.out) (qO:=λ_ _ h hb=>h.below hb) (LW:=λ_ i v h=>h.put i v) (hI0:=λ_=>(C.2.2.2.below (oz _)).a6k) ?_;intro vs fK Z;have fM:jW (∀v6,BU g (kc+2) sb r G q buf bo bc nq fa la tt se (xY w sb mb (kc+2) m2 (nk bo buf.length bc) (nk oa n cap) Lm) false false v6 fK.drew):=jH λv6=>by
      have hd:=(oz fK);exact Sz (Below.blk hd Z.sv Z.sv.lt) (Below.blk hd Z.at_ Z.at_.lt) (Below.blk hd Z.ss Z.ss.lt) (Z.bs.below hd) C.2.2.2.lt.1
     clear Z aR;simp only[jK,jQ,jR];go_upto_region 15 with fail;refine Sy (ks:=g) (ka:=kc+2) (sb:=sb) (r:=r) (G:=G) (p:=q) (buf:=buf) (bo:=bo) (bc:=bc) (nd:=nq) (fa:=fa) (la:=la) (tt:=tt) (se:=se) (Bs:=xY w sb mb (kc+2) m2 (nk bo buf.length bc) (nk oa n cap) Lm) (ht2:=by rfl) (EK:=by rfl) (hsz:=by rfl) (hp:=aS) (hBg:=λ_ _ h hg=>h.grow hg) (LW:=λ_ i v h=>h.put i v) (hBo:=λ_ v h ho b hb=>h.ss.elim λcs k=>Hm ho hb k) (hI0:=λ_=>fM.out _) ?_;intro fO gI hF5;have HP5:=jH (dO _ _ _ _ (by rw[Q.1,fJ.out,if_pos rfl]) (by rw[if_pos rfl]) hF5);exact SA
    .have gX:((e1:Int)==2)=false:=nQ
     have A:=C.2.2.2;have c1:=A.nx.sv.cell 0;have f1:=A.ss.free 3;have c2:=A.ss.cell 3;have fP:jW (∀v6,BU g (kc+2) sb r G q buf bo bc nd e1 la tt se (xY w sb mb (kc+2) m2 (nk bo buf.length bc) (nk oa n cap) Lm) false false v6 (wr.setCell ⟨sb,3,none⟩ (ng nH e1)).drew):=jH λv6=>by
      have h:=(A.Sz (v6:=v6) (e1:Int));have hd:=oz (wr.setCell ⟨sb,3,none⟩ (ng nH e1));exact⟨Below.blk hd h.sv h.sv.lt,Below.blk hd h.at_ h.at_.lt,Below.blk hd h.ss h.ss.lt,λ_=>(h.ob rfl).kp (sD.of (F:=λ_=>False) hd) (λ_ _ h=>h),(λh=>by cases h),h.bs.below hd,(λh=>by cases h),h.ne⟩
     simp only[E5,jO,jN,jM]at c1 c2;have aU:=jH ae;clear A ae;go_upto_region 15 with fail;refine Sy (ks:=g) (ka:=kc+2) (sb:=sb) (r:=r) (G:=G) (p:=q) (buf:=buf) (bo:=bo) (bc:=bc) (nd:=nd) (fa:=e1) (la:=la) (tt:=tt) (se:=se) (Bs:=xY w sb mb (kc+2) m2 (nk bo buf.length bc) (nk oa n cap) Lm) (ht2:=by rfl) (EK:=by rfl) (hsz:=by rfl) (hp:=aS) (hBg:=λ_ _ h hg=>h.grow hg) (LW:=λ_ i v h=>h.put i v) (hBo:=λ_ v h ho b hb=>h.ss.elim λcs k=>Hm ho hb k) (hI0:=λ_=>fP.out _) ?_;intro fO gI hF5;have HP5:=jH (dO _ _ _ _ (by rw[if_neg aU.out]) (by rw[if_neg aU.out]) hF5);exact SA
end
section
open Go.RowKit Go.Maps
mutual
theorem Shape.rA.wZ{S:Shape α}{w w':jJ}{Q:Nat->Prop}(hs:w.heap.size<=w'.heap.size)(hk:∀b o,b<w.heap.size->w'.cell? ⟨b,o,none⟩=w.cell? ⟨b,o,none⟩):
  ∀(x:nL α)(b off:Nat),b<w.heap.size->S.rA w Q x b off->S.rA w' Q x b off
 | .node a s,b,off,hb,h=>by
  simp only[Shape.rA]at h⊢;obtain⟨ho,v,hc,A⟩:=h;refine⟨ho,v,λj E=> ?_,A.mono hs (λ_ _ h=>h) λb' I N C J=>Shape.qy.wZ hs hk s b' I C J⟩;rw[hk b (off+j) hb];exact hc j E
theorem Shape.qy.wZ{S:Shape α}{w w':jJ}{Q:Nat->Prop}(hs:w.heap.size<=w'.heap.size)(hk:∀b o,b<w.heap.size->w'.cell? ⟨b,o,none⟩=w.cell? ⟨b,o,none⟩):
  ∀(s:List (nL α))(b off:Nat),b<w.heap.size->S.qy w Q s b off->S.qy w' Q s b off
 |[],_,_,_,_=>by simp only[Shape.qy]
 |x::xs,b,off,hb,h=>by
  simp only[Shape.qy]at h⊢;exact⟨Shape.rA.wZ hs hk x b off hb h.1,Shape.qy.wZ hs hk xs b _ hb h.2⟩
end
theorem Shape.nX.wZ{S:Shape α}{w w':jJ}{Q:Nat->Prop}{v:jP}{s:List (nL α)}(h:S.nX w Q v s)(hs:w.heap.size<=w'.heap.size)(hk:∀b o,b<w.heap.size->w'.cell? ⟨b,o,none⟩=w.cell? ⟨b,o,none⟩):S.nX w' Q v s:=
 SliceOf.mono h hs (λ_ _ h=>h) λb o q hb A=>Shape.qy.wZ hs hk s b o hb A
abbrev U1:ko:=67
abbrev Eg:ko:=63
structure RaB(g r bn bi:Nat)(c:oK)(L:List oV)(id:Nat)(nm tx:ByteArray)(w0 W:jJ):Prop where
 rg:qp r bn bi c L W
 en:nO W g #[ng nI id,ny nm,ny tx] U1
 qa:jS g w0 W
 lt:w0.heap.size=g/\r<g/\bn<g/\bi<g
theorem RaB.below{g r bn bi:Nat}{c:oK}{L:List oV}{id:Nat}{nm tx:ByteArray}{w0 W A:jJ}(h:RaB g r bn bi c L id nm tx w0 W)(hb:jS W.heap.size W A):RaB g r bn bi c L id nm tx w0 A:=
 ⟨h.rg.below hb,Below.blk hb h.en h.en.lt,h.qa.trans (hb.mono (by have:=h.en.lt;omega)),h.lt⟩
structure VO(g r bn bi:Nat)(c:oK)(L:List oV)(id:Nat)(nm tx:ByteArray)(w0:jJ)(k:Nat)(da:Bool)(W:jJ):Prop where
 b:RaB g r bn bi c L id nm tx w0 W
 sz:W.heap.size=if da=true then k+1 else k
 bk:da=true->∃x:RC,nO W k x.cs Fg
 lt:g<k
theorem VO.made{g r bn bi:Nat}{c:oK}{L:List oV}{id:Nat}{nm tx:ByteArray}{w0:jJ}{k:Nat}{W:jJ}(h:VO g r bn bi c L id nm tx w0 k false W):VO g r bn bi c L id nm tx w0 k true (W.alloc (nG CW.cs Fg)):=by
 have A:W.heap.size=k:=by simpa using h.sz
 exact⟨h.b.below ((jT W.heap.size W).alloc (jL _) _),by simp[A],λ_=>⟨CW,A▸nO.new W CW.cs Fg⟩,h.lt⟩
theorem VO.put{g r bn bi:Nat}{c:oK}{L:List oV}{id:Nat}{nm tx:ByteArray}{w0:jJ}{k:Nat}{W:jJ}(h:VO g r bn bi c L id nm tx w0 k true W)(x:RC)(h0:qp r bn bi c L w0):VO g r bn bi c L id nm tx w0 k true (C8 W k x):=by
 obtain⟨y,A⟩:=h.bk rfl;have l:=h.b.lt;have C:=h.lt;have hb:=ve (x:=x) h.b.qa (show g<=k by omega);exact⟨⟨h0.below (l.1▸hb),wX h.b.en nK,hb,l⟩,by rw[Jz];exact h.sz,λ_=>⟨x,yo A⟩,h.lt⟩
theorem wE{P:mK}{k:ko}{κ X:Type}{E:DX P k κ}{F:Gd X}{w:jJ}{b n:Nat}{l:List (κ×X)}(h:qA E F w b n l)(o:Nat):w.cell? ⟨b,o,none⟩=none:=by
 obtain⟨_,⟨I,A,C,_⟩,_⟩:=h;simp[mW,C]
structure IY(g r bn bi kt:Nat)(c:oK)(L:List oV)(x:oV)(w0:jJ)(dn di:Bool)(W:jJ):Prop where
 rg:nO W r #[ng nH c.fmt,ng nJ c.mag,ng nH c.pO,ng nH c.qj,ng nH c.dep,ng nH c.oZ,.map (some bn),.map (some bi),GM c,Jy c] RgT
 nm:qA NmK sJ W bn (if dn=true then x::L else L).length ((if dn=true then x::L else L).map λx=>(x.r.name,x.rc.cs))
 id:qA IdK sJ W bi (if di=true then x::L else L).length ((if di=true then x::L else L).map λx=>((x.r.id:Int),x.rc.cs))
 sub:∀y,y∈x::L->oL W (nk y.ou y.r.ty.sub.length y.cu) y.r.ty.sub
 en:nO W g #[ng nI x.r.id,ny x.r.name,ny x.r.text] U1
 ty:nO W kt #[ng nH x.r.ty.lab.kind,ng nH x.r.ty.lab.size,nk x.ou x.r.ty.sub.length x.cu,ng nH x.r.ty.lab.tail] Eg
 kp:sD (λd=>d=bn\/d=bi) w0 W
 fr:(∀y,y∈L->y.r.name≠x.r.name)/\(∀y,y∈L->y.r.id≠x.r.id)/\x.r.name.size<=j5/\x.r.id<18446744073709551616/\L.length<1000
 lt:bn≠bi/\r≠bn/\r≠bi/\g≠bn/\g≠bi/\kt≠bn/\kt≠bi
section
variable {g r bn bi kt:Nat}{c:oK}{L:List oV}{x:oV}{w0:jJ}{dn di:Bool}{W W':jJ}
theorem IY.below(h:IY g r bn bi kt c L x w0 dn di W)(hb:jS W.heap.size W W'):IY g r bn bi kt c L x w0 dn di W':=
 ⟨Below.blk hb h.rg h.rg.lt,h.nm.below hb,h.id.below hb,λy A=>Shape.nX.below (h.sub y A) hb,Below.blk hb h.en h.en.lt,Below.blk hb h.ty h.ty.lt,h.kp.trans (F':=λ_=>False) (sD.of hb) (λ_ _ h=>h.elim),h.fr,h.lt⟩
theorem IY.upd(h:IY g r bn bi kt c L x w0 dn di W){b:Nat}(A:pE b W W')(hb:b=bn\/b=bi)(hc:∀o,W.cell? ⟨b,o,none⟩=none)(J:∀o,W'.cell? ⟨b,o,none⟩=none){C E:Bool}(hn:qA NmK sJ W' bn (if C=true then x::L else L).length ((if C=true then x::L else L).map λx=>(x.r.name,x.rc.cs)))(hi:qA IdK sJ W' bi (if E=true then x::L else L).length ((if E=true then x::L else L).map λx=>((x.r.id:Int),x.rc.cs))):IY g r bn bi kt c L x w0 C E W':=by
 have hk:∀d,d<W.heap.size->d≠b->W'.heap[d]? =W.heap[d]? :=λd hd hn=>A.block d hd λe=>hn (ma e)
 have q:∀{d:Nat}{cs:Array jP}{t:ko},nO W d cs t->d≠b->nO W' d cs t:=λhB hd=>by unfold nO;rw[hk _ hB.lt hd];exact hB
 have l:=h.lt;refine⟨q h.rg nK,hn,hi,λy N=>Shape.nX.wZ (h.sub y N) A.size λd o hd=> ?_,q h.en nK,q h.ty nK,h.kp.trans (F':=λd=>d=b) ⟨A.os,A.tape,A.output,A.size,λd hd I=>hk d hd I⟩ (λd _ I=>by have I:d=b:=I;rcases hb with e|e<;>subst e<;>simp[I]),h.fr,h.lt⟩;by_cases e:d=b;.rw[e,hc,J]
 .exact World.cell?_of_block (w:=W) (a:=⟨d,o,none⟩) (hk d hd e)
theorem Ho{κ:Type}[DecidableEq κ](f:oV->κ)(k:κ)(L:List oV)(h:∀y,y∈L->f y≠k):(L.map λx=>(f x,x.rc.cs)).filter (λp=>p.1 !=k)=L.map λx=>(f x,x.rc.cs):=by
 rw[List.filter_eq_self];intro p hp;obtain⟨y,A,rfl⟩:=List.mem_map.1 hp;simpa using h y A
theorem IY.a0C(h:IY g r bn bi kt c L x w0 false di W):∃W',(Instr.mapUpdate 130 (.map (some bn)) (ny x.r.name) (nC x.rc.cs)).run jI W=.ok () W'/\IY g r bn bi kt c L x w0 true di W':=by
 obtain⟨W',A,C,E⟩:=qA.store (x:=x.r.name) h.nm Tryz.underlying130 h.fr.2.2.1 x.rc.cs (by have:=h.fr.2.2.2.2;unfold j5;simp;omega);rw[if_neg nR,Ho (λy=>y.r.name) x.r.name L h.fr.1]at C;refine⟨W',A,h.upd E (.inl rfl) (wE h.nm) (wE C) (by rw[if_pos rfl];exact C) (h.id.block (E.block bi h.id.lt λe=>h.lt.1 (ma e).symm))⟩
theorem IY.a8S(h:IY g r bn bi kt c L x w0 dn false W):∃W',(Instr.mapUpdate 131 (.map (some bi)) (ng nI x.r.id) (nC x.rc.cs)).run jI W=.ok () W'/\IY g r bn bi kt c L x w0 dn true W':=by
 obtain⟨W',A,C,E⟩:=qA.store (x:=(x.r.id:Int)) h.id Tryz.underlying131 (R9 h.fr.2.2.2.1) x.rc.cs (by have:=h.fr.2.2.2.2;unfold j5;simp;omega);rw[if_neg nR,Ho (λy=>(y.r.id:Int)) (x.r.id:Int) L λy I e=>h.fr.2.1 y I nK]at C;refine⟨W',A,h.upd E (.inr rfl) (wE h.id) (wE C) (h.nm.block (E.block bn h.nm.lt λe=>h.lt.1 (ma e))) (by rw[if_pos rfl];exact C)⟩
end
noncomputable def Fz:List lX:=cO (cL (cL (cR (cB Tryz.f87))))
section
variable (g r bn bi:Nat)(c:oK)(L:List oV)(Iy:Nat)(nm tx:ByteArray)(w0:jJ)(k:Nat)(b:Bool)(x:RC)
def Aw:Nat->jP
 |0=> nz (some ⟨r,0,none⟩)
 |1=> nz (some ⟨r,0,none⟩)
 |2=> nz (some ⟨r,6,none⟩)
 |3=> .map (some bn)
 |4=> nz (some ⟨g,1,none⟩)
 |5=> ny nm
 |6=> nD #[nC #[ng nI x.i,ny x.nm,ny x.tx,ng nH x.k,ng nH x.z,nk x.ou x.nu x.cu,ng nH x.tl],nA b]
 |7=> nD #[nC #[ng nI x.i,ny x.nm,ny x.tx,ng nH x.k,ng nH x.z,nk x.ou x.nu x.cu,ng nH x.tl],nA b]
 |8=> nC #[ng nI x.i,ny x.nm,ny x.tx,ng nH x.k,ng nH x.z,nk x.ou x.nu x.cu,ng nH x.tl]
 |9=> nA b
 |10=> nz (some ⟨k,0,none⟩)
 |12=> nA b
 |_=>kH
structure a6l(D:Nat->Bool)(vs:Nat->jP)(w:jJ):Prop where
 oJ:VO g r bn bi c L Iy nm tx w0 k (D 10) w
 val:∀j,(true)=true->D j=true->vs j=Aw g r bn nm k b x j
variable {g r bn bi c L Iy nm tx w0 k b x}
theorem Yp{p:Prop}(h:p:=by
 have d10:=hw 10 nN nM;have hW:=hI.oJ;rw[d10]at hW;obtain⟨y,hB⟩:=hW.bk rfl;obtain⟨⟨z0,z1,z2,z3,z4,z5,z6⟩,f0,f1,f2,f3,f4,f5,f6⟩:=qf hB;go_simp;rw[Ao];refine hK kH _ _ rfl ⟨?_,uR hI.val⟩;rw[nS D (show 10≠11 by decide),d10];exact hW.put x h0):p:=h
theorem Yq{p:Prop}(h:p:=by
 have hW:=hI.oJ;rw[hd]at hW;have hz:w.heap.size=k:=by simpa using hW.sz
 go_simp;refine hK (nz (some ⟨k,0,none⟩)) _ _ rfl ⟨?_,uR hI.val⟩;rw[ow];exact hW.made):p:=h
theorem a1C{id:Nat}{Q:Exit->Act->jJ->Prop}{E:jJ}(ht0:a0.tmps.getD 0 kH=nz (some ⟨r,0,none⟩))(ht3:a0.tmps.getD 3 kH=nz (some ⟨g,0,none⟩))(hl:∀W,qp r bn bi c L W->(lV 130 (.map (some bn)) (ny nm) true).run jI W=.ok (nD #[nC #[ng nI x.i,ny x.nm,ny x.tx,ng nH x.k,ng nH x.z,nk x.ou x.nu x.cu,ng nH x.tl],nA b]) W)(h0:qp r bn bi c L w0)(hsz:a0.tmps.size=76)(hI0:∀vs:Nat->jP,(λw=>VO g r bn bi c L Iy nm tx w0 k false w) E.drew)(I:∀(vs:Nat->jP) (w:jJ),VO g r bn bi c L Iy nm tx w0 k true w->Q .normal {a0 with tmps:=((((((((((((a0.tmps.setIfInBounds 12 (nz (some ⟨r,0,none⟩))).setIfInBounds 13 (nz (some ⟨r,0,none⟩))).setIfInBounds 14 (nz (some ⟨r,6,none⟩))).setIfInBounds 15 (.map (some bn))).setIfInBounds 16 (nz (some ⟨g,1,none⟩))).setIfInBounds 17 (ny nm)).setIfInBounds 18 (nD #[nC #[ng nI x.i,ny x.nm,ny x.tx,ng nH x.k,ng nH x.z,nk x.ou x.nu x.cu,ng nH x.tl],nA b])).setIfInBounds 11 (nD #[nC #[ng nI x.i,ny x.nm,ny x.tx,ng nH x.k,ng nH x.z,nk x.ou x.nu x.cu,ng nH x.tl],nA b])).setIfInBounds 19 (nC #[ng nI x.i,ny x.nm,ny x.tx,ng nH x.k,ng nH x.z,nk x.ou x.nu x.cu,ng nH x.tl])).setIfInBounds 20 (nA b)).setIfInBounds 5 (nz (some ⟨k,0,none⟩))).setIfInBounds 6 (nA b))} w):
  (lg id Fz.toArray true).wp jI Q a0 E:=by
 refine og 13 76 (a6l g r bn bi c L Iy nm tx w0 k b x) nM hsz nM (.inl rfl) nM ?_ ?_ ?_;.exact qF
 .refine rV λA aa=> ?_
  clear hI0 I hsz;replace ht0:=jH ht0;replace ht3:=jH ht3;replace hl:=jH hl;replace h0:=jH h0;dsimp+instances only[Fz,cO,cL,cR,cB,Tryz.f87];simp only[ky,kQ,rz];refine⟨?_,?_,?_,?_,?_,?_,?_,?_,?_,?_,?_,?_,?_,trivial⟩<;>(intro D vs a w K hI hd hw hw2 C hK;subst aa;dsimp+instances only[Fz,cO,cL,cR,cB,Tryz.f87]);have ai:=(C 0 nN).trans ht0.out;rotate_left;have ae:=fe C hI.val hw 12 0;rotate_left;have af:=fe C hI.val hw 13 1;rotate_left;have J:=fe C hI.val hw 14 2;simp only[Aw]at J;have c0:=hI.oJ.b.rg.rg.c6;rotate_left;have e3:=(C 3 nN).trans ht3.out;rotate_left;have N:=fe C hI.val hw 16 4;simp only[Aw]at N;have c0:=hI.oJ.b.en.c1;rotate_left;have hl:=hl.out;have O:=fe C hI.val hw 15 3;have U:=fe C hI.val hw 17 5;simp only[Aw]at O U;have q:=hl w hI.oJ.b.rg;rotate_left;have ag:=fe C hI.val hw 18 6;rotate_left;have V:=fe C hI.val hw 11 7;rotate_left;have V:=fe C hI.val hw 11 7;rotate_left;.exact Yq
  .have h0:=h0.out
   have e5:=fe C hI.val hw 5 10;have Y:=fe C hI.val hw 19 8;simp only[Aw]at e5 Y;exact Yp
  have ah:=fe C hI.val hw 20 9;rotate_left
  all_goals
   try simp only[Aw]at*
   go_simp;exact hK _ _ _ rfl ⟨hI.oJ,uR hI.val⟩
 .intro D vs w Z hI
  have hw:=hI.oJ;rw[Z 10 nN]at hw;have q:=I vs w hw;rw[oW hI.val Z];dsimp+instances only[Fz,cO,cL,cR,cB,Tryz.f87];exact qD
end
noncomputable def FB:List lX:=cO (cL (cL (cR (cR (cB Tryz.f87)))))
section
variable (g r bn bi:Nat)(c:oK)(L:List oV)(Iy:Nat)(nm tx:ByteArray)(w0:jJ)(k:Nat)(b:Bool)(x:RC)
def Ay:Nat->jP
 |0=> nz (some ⟨r,0,none⟩)
 |1=> nz (some ⟨r,0,none⟩)
 |2=> nz (some ⟨r,7,none⟩)
 |3=> .map (some bi)
 |4=> nz (some ⟨g,0,none⟩)
 |5=> ng nI Iy
 |6=> nD #[nC #[ng nI x.i,ny x.nm,ny x.tx,ng nH x.k,ng nH x.z,nk x.ou x.nu x.cu,ng nH x.tl],nA b]
 |7=> nD #[nC #[ng nI x.i,ny x.nm,ny x.tx,ng nH x.k,ng nH x.z,nk x.ou x.nu x.cu,ng nH x.tl],nA b]
 |8=> nC #[ng nI x.i,ny x.nm,ny x.tx,ng nH x.k,ng nH x.z,nk x.ou x.nu x.cu,ng nH x.tl]
 |9=> nA b
 |10=> nz (some ⟨k,0,none⟩)
 |12=> nA b
 |_=>kH
structure a6m(D:Nat->Bool)(vs:Nat->jP)(w:jJ):Prop where
 oJ:VO g r bn bi c L Iy nm tx w0 k (D 10) w
 val:∀j,(true)=true->D j=true->vs j=Ay g r bi Iy k b x j
variable {g r bn bi c L Iy nm tx w0 k b x}
theorem a1D{id:Nat}{Q:Exit->Act->jJ->Prop}{E:jJ}(ht0:a0.tmps.getD 0 kH=nz (some ⟨r,0,none⟩))(ht3:a0.tmps.getD 3 kH=nz (some ⟨g,0,none⟩))(hl:∀W,qp r bn bi c L W->(lV 131 (.map (some bi)) (ng nI Iy) true).run jI W=.ok (nD #[nC #[ng nI x.i,ny x.nm,ny x.tx,ng nH x.k,ng nH x.z,nk x.ou x.nu x.cu,ng nH x.tl],nA b]) W)(h0:qp r bn bi c L w0)(hsz:a0.tmps.size=76)(hI0:∀vs:Nat->jP,(λw=>VO g r bn bi c L Iy nm tx w0 k false w) E.drew)(I:∀(vs:Nat->jP) (w:jJ),VO g r bn bi c L Iy nm tx w0 k true w->Q .normal {a0 with tmps:=((((((((((((a0.tmps.setIfInBounds 29 (nz (some ⟨r,0,none⟩))).setIfInBounds 30 (nz (some ⟨r,0,none⟩))).setIfInBounds 31 (nz (some ⟨r,7,none⟩))).setIfInBounds 32 (.map (some bi))).setIfInBounds 33 (nz (some ⟨g,0,none⟩))).setIfInBounds 34 (ng nI Iy)).setIfInBounds 35 (nD #[nC #[ng nI x.i,ny x.nm,ny x.tx,ng nH x.k,ng nH x.z,nk x.ou x.nu x.cu,ng nH x.tl],nA b])).setIfInBounds 28 (nD #[nC #[ng nI x.i,ny x.nm,ny x.tx,ng nH x.k,ng nH x.z,nk x.ou x.nu x.cu,ng nH x.tl],nA b])).setIfInBounds 36 (nC #[ng nI x.i,ny x.nm,ny x.tx,ng nH x.k,ng nH x.z,nk x.ou x.nu x.cu,ng nH x.tl])).setIfInBounds 37 (nA b)).setIfInBounds 7 (nz (some ⟨k,0,none⟩))).setIfInBounds 8 (nA b))} w):
  (lg id FB.toArray true).wp jI Q a0 E:=by
 refine og 13 76 (a6m g r bn bi c L Iy nm tx w0 k b x) nM hsz nM (.inl rfl) nM ?_ ?_ ?_;.exact qF
 .refine rV λA aa=> ?_
  clear hI0 I hsz;replace ht0:=jH ht0;replace ht3:=jH ht3;replace hl:=jH hl;replace h0:=jH h0;dsimp+instances only[FB,cO,cL,cR,cB,Tryz.f87];simp only[ky,kQ,rz];refine⟨?_,?_,?_,?_,?_,?_,?_,?_,?_,?_,?_,?_,?_,trivial⟩<;>(intro D vs a w K hI hd hw hw2 C hK;subst aa;dsimp+instances only[FB,cO,cL,cR,cB,Tryz.f87]);have aj:=(C 0 nN).trans ht0.out;rotate_left;have af:=fe C hI.val hw 29 0;rotate_left;have ag:=fe C hI.val hw 30 1;rotate_left;have J:=fe C hI.val hw 31 2;simp only[Ay]at J;have c0:=hI.oJ.b.rg.rg.c7;rotate_left;have e3:=(C 3 nN).trans ht3.out;rotate_left;have N:=fe C hI.val hw 33 4;simp only[Ay]at N;have c0:=hI.oJ.b.en.c0;rotate_left;have hl:=hl.out;have O:=fe C hI.val hw 32 3;have U:=fe C hI.val hw 34 5;simp only[Ay]at O U;have q:=hl w hI.oJ.b.rg;rotate_left;have ah:=fe C hI.val hw 35 6;rotate_left;have V:=fe C hI.val hw 28 7;rotate_left;have V:=fe C hI.val hw 28 7;rotate_left;.exact Yq
  .have h0:=h0.out
   have ae:=fe C hI.val hw 7 10;have Y:=fe C hI.val hw 36 8;simp only[Ay]at ae Y;exact Yp
  have ai:=fe C hI.val hw 37 9;rotate_left
  all_goals
   try simp only[Ay]at*
   go_simp;exact hK _ _ _ rfl ⟨hI.oJ,uR hI.val⟩
 .intro D vs w Z hI
  have hw:=hI.oJ;rw[Z 10 nN]at hw;have q:=I vs w hw;rw[oW hI.val Z];dsimp+instances only[FB,cO,cL,cR,cB,Tryz.f87];exact qD
end
noncomputable def Di:List lX:=cO (cL (cR (cR (cR (cR (cR (cR (cB Tryz.f87))))))))
section
variable (g r bn bi kt:Nat)(c:oK)(L:List oV)(x:oV)(w0:jJ)
def yx:Nat->jP
 |0=> nz (some ⟨r,0,none⟩)
 |1=> nz (some ⟨r,0,none⟩)
 |2=> nz (some ⟨r,6,none⟩)
 |3=> .map (some bn)
 |4=> nz (some ⟨g,1,none⟩)
 |5=> ny x.r.name
 |6=> nC #[ng nI x.r.id,ny x.r.name,ny x.r.text]
 |7=> nC #[ng nH x.r.ty.lab.kind,ng nH x.r.ty.lab.size,nk x.ou x.r.ty.sub.length x.cu,ng nH x.r.ty.lab.tail]
 |8=> nC #[ng nI x.r.id,ny x.r.name,ny x.r.text,ng nH x.r.ty.lab.kind,ng nH x.r.ty.lab.size,nk x.ou x.r.ty.sub.length x.cu,ng nH x.r.ty.lab.tail]
 |_=>kH
structure a4f(D:Nat->Bool)(vs:Nat->jP)(w:jJ):Prop where
 oJ:IY g r bn bi kt c L x w0 (D 9) false w
 val:∀j,(true)=true->D j=true->vs j=yx g r bn x j
variable {g r bn bi kt c L x w0}
theorem SB{p:Prop}(h:p:=by
 unfold oV.rc RC.cs at q;dsimp only at q;go_simp;refine hK kH _ _ rfl ⟨?_,uR hI.val⟩;rw[ow];exact hN):p:=h
theorem NS{id:Nat}{Q:Exit->Act->jJ->Prop}{N:jJ}(ht0:a0.tmps.getD 0 kH=nz (some ⟨r,0,none⟩))(ht3:a0.tmps.getD 3 kH=nz (some ⟨g,0,none⟩))(JB:a0.tmps.getD 9 kH=nz (some ⟨kt,0,none⟩))(hsz:a0.tmps.size=76)(hI0:∀vs:Nat->jP,(λw=>IY g r bn bi kt c L x w0 false false w) N.drew)(O:∀(vs:Nat->jP) (w:jJ),IY g r bn bi kt c L x w0 true false w->Q .normal {a0 with tmps:=(((((((((a0.tmps.setIfInBounds 58 (nz (some ⟨r,0,none⟩))).setIfInBounds 59 (nz (some ⟨r,0,none⟩))).setIfInBounds 60 (nz (some ⟨r,6,none⟩))).setIfInBounds 61 (.map (some bn))).setIfInBounds 62 (nz (some ⟨g,1,none⟩))).setIfInBounds 63 (ny x.r.name)).setIfInBounds 64 (nC #[ng nI x.r.id,ny x.r.name,ny x.r.text])).setIfInBounds 65 (nC #[ng nH x.r.ty.lab.kind,ng nH x.r.ty.lab.size,nk x.ou x.r.ty.sub.length x.cu,ng nH x.r.ty.lab.tail])).setIfInBounds 66 (nC #[ng nI x.r.id,ny x.r.name,ny x.r.text,ng nH x.r.ty.lab.kind,ng nH x.r.ty.lab.size,nk x.ou x.r.ty.sub.length x.cu,ng nH x.r.ty.lab.tail]))} w):
  (lg id Di.toArray true).wp jI Q a0 N:=by
 refine og 10 76 (a4f g r bn bi kt c L x w0) nM hsz nM (.inl rfl) nM ?_ ?_ ?_;.exact qF
 .refine rV λA ai=> ?_
  clear hI0 O hsz;replace ht0:=jH ht0;replace ht3:=jH ht3;replace JB:=jH JB;dsimp+instances only[Di,cO,cL,cR,cB,Tryz.f87];simp only[ky,kQ,rz];refine⟨?_,?_,?_,?_,?_,?_,?_,?_,?_,?_,trivial⟩<;>(intro D vs a w K hI hd E hw2 C hK;subst ai;dsimp+instances only[Di,cO,cL,cR,cB,Tryz.f87]);have au:=(C 0 nN).trans ht0.out;rotate_left;have aj:=fe C hI.val E 58 0;rotate_left;have ak:=fe C hI.val E 59 1;rotate_left;have U:=fe C hI.val E 60 2;simp only[yx]at U;have c0:=hI.oJ.rg.c6;rotate_left;have e3:=(C 3 nN).trans ht3.out;rotate_left;have V:=fe C hI.val E 62 4;simp only[yx]at V;have c0:=hI.oJ.en.c1;rotate_left;have e3:=(C 3 nN).trans ht3.out;have hB:=hI.oJ.en;obtain⟨c0,c1,c2⟩:=hB.a3;clear hB;rotate_left;have av:=(C 9 nN).trans JB.out;have hB:=hI.oJ.ty;obtain⟨c0,c1,c2,c3⟩:=hB.a4;clear hB;rotate_left;have I:=fe C hI.val E 64 6;have J:=fe C hI.val E 65 7;simp only[yx]at I J;have Y:=I;have Z:=J;rw[lK]at Y;rw[lK]at Z;rotate_left
  .have aa:=fe C hI.val E 61 3
   have ae:=fe C hI.val E 63 5;have af:=fe C hI.val E 66 8;simp only[yx]at aa ae af;have ag:=hI.oJ;rw[hd]at ag;obtain⟨ax,q,hN⟩:=ag.a0C;exact SB
  all_goals
   try simp only[yx]at*
   go_simp;exact hK _ _ _ rfl ⟨hI.oJ,uR hI.val⟩
 .intro D vs w ah hI
  have E:=hI.oJ;rw[ah 9 nN]at E;have q:=O vs w E;rw[oW hI.val ah];dsimp+instances only[Di,cO,cL,cR,cB,Tryz.f87];exact qD
end
noncomputable def Dj:List lX:=cO (cL (cR (cR (cR (cR (cR (cR (cR (cB Tryz.f87)))))))))
section
variable (g r bn bi kt:Nat)(c:oK)(L:List oV)(x:oV)(w0:jJ)
def yA:Nat->jP
 |0=> nz (some ⟨r,0,none⟩)
 |1=> nz (some ⟨r,0,none⟩)
 |2=> nz (some ⟨r,7,none⟩)
 |3=> .map (some bi)
 |4=> nz (some ⟨g,0,none⟩)
 |5=> ng nI x.r.id
 |6=> nC #[ng nI x.r.id,ny x.r.name,ny x.r.text]
 |7=> nC #[ng nH x.r.ty.lab.kind,ng nH x.r.ty.lab.size,nk x.ou x.r.ty.sub.length x.cu,ng nH x.r.ty.lab.tail]
 |8=> nC #[ng nI x.r.id,ny x.r.name,ny x.r.text,ng nH x.r.ty.lab.kind,ng nH x.r.ty.lab.size,nk x.ou x.r.ty.sub.length x.cu,ng nH x.r.ty.lab.tail]
 |_=>kH
structure a4g(D:Nat->Bool)(vs:Nat->jP)(w:jJ):Prop where
 oJ:IY g r bn bi kt c L x w0 true (D 9) w
 val:∀j,(true)=true->D j=true->vs j=yA g r bi x j
variable {g r bn bi kt c L x w0}
theorem Yr{id:Nat}{Q:Exit->Act->jJ->Prop}{N:jJ}(ht0:a0.tmps.getD 0 kH=nz (some ⟨r,0,none⟩))(ht3:a0.tmps.getD 3 kH=nz (some ⟨g,0,none⟩))(JB:a0.tmps.getD 9 kH=nz (some ⟨kt,0,none⟩))(hsz:a0.tmps.size=76)(hI0:∀vs:Nat->jP,(λw=>IY g r bn bi kt c L x w0 true false w) N.drew)(O:∀(vs:Nat->jP) (w:jJ),IY g r bn bi kt c L x w0 true true w->Q .normal {a0 with tmps:=(((((((((a0.tmps.setIfInBounds 67 (nz (some ⟨r,0,none⟩))).setIfInBounds 68 (nz (some ⟨r,0,none⟩))).setIfInBounds 69 (nz (some ⟨r,7,none⟩))).setIfInBounds 70 (.map (some bi))).setIfInBounds 71 (nz (some ⟨g,0,none⟩))).setIfInBounds 72 (ng nI x.r.id)).setIfInBounds 73 (nC #[ng nI x.r.id,ny x.r.name,ny x.r.text])).setIfInBounds 74 (nC #[ng nH x.r.ty.lab.kind,ng nH x.r.ty.lab.size,nk x.ou x.r.ty.sub.length x.cu,ng nH x.r.ty.lab.tail])).setIfInBounds 75 (nC #[ng nI x.r.id,ny x.r.name,ny x.r.text,ng nH x.r.ty.lab.kind,ng nH x.r.ty.lab.size,nk x.ou x.r.ty.sub.length x.cu,ng nH x.r.ty.lab.tail]))} w):
  (lg id Dj.toArray true).wp jI Q a0 N:=by
 refine og 10 76 (a4g g r bn bi kt c L x w0) nM hsz nM (.inl rfl) nM ?_ ?_ ?_;.exact qF
 .refine rV λA ai=> ?_
  clear hI0 O hsz;replace ht0:=jH ht0;replace ht3:=jH ht3;replace JB:=jH JB;dsimp+instances only[Dj,cO,cL,cR,cB,Tryz.f87];simp only[ky,kQ,rz];refine⟨?_,?_,?_,?_,?_,?_,?_,?_,?_,?_,trivial⟩<;>(intro D vs a w K hI hd E hw2 C hK;subst ai;dsimp+instances only[Dj,cO,cL,cR,cB,Tryz.f87]);have au:=(C 0 nN).trans ht0.out;rotate_left;have aj:=fe C hI.val E 67 0;rotate_left;have ak:=fe C hI.val E 68 1;rotate_left;have U:=fe C hI.val E 69 2;simp only[yA]at U;have c0:=hI.oJ.rg.c7;rotate_left;have e3:=(C 3 nN).trans ht3.out;rotate_left;have V:=fe C hI.val E 71 4;simp only[yA]at V;have c0:=hI.oJ.en.c0;rotate_left;have e3:=(C 3 nN).trans ht3.out;have hB:=hI.oJ.en;obtain⟨c0,c1,c2⟩:=hB.a3;clear hB;rotate_left;have av:=(C 9 nN).trans JB.out;have hB:=hI.oJ.ty;obtain⟨c0,c1,c2,c3⟩:=hB.a4;clear hB;rotate_left;have I:=fe C hI.val E 73 6;have J:=fe C hI.val E 74 7;simp only[yA]at I J;have Y:=I;have Z:=J;rw[lK]at Y;rw[lK]at Z;rotate_left
  .have aa:=fe C hI.val E 70 3
   have ae:=fe C hI.val E 72 5;have af:=fe C hI.val E 75 8;simp only[yA]at aa ae af;have ag:=hI.oJ;rw[hd]at ag;obtain⟨ax,q,hN⟩:=ag.a8S;exact SB
  all_goals
   try simp only[yA]at*
   go_simp;exact hK _ _ _ rfl ⟨hI.oJ,uR hI.val⟩
 .intro D vs w ah hI
  have E:=hI.oJ;rw[ah 9 nN]at E;have q:=O vs w E;rw[oW hI.val ah];dsimp+instances only[Dj,cO,cL,cR,cB,Tryz.f87];exact qD
end
end
section
open Go.RowKit
end
section
def Yt(n:Nat):List UInt8:=if h:n<10 then [jZ (48+n)]else Yt (n/10)++[jZ (48+n % 10)]
mutual
def put:nL TL->List UInt8
 | .node a s=>
  if a.kind=1 then 117::Yt (8*a.size).toNat
  else if a.kind=2 then 98::Yt a.size.toNat
  else if a.kind=3 then 115::Yt a.size.toNat
  else if a.kind=4 then 91::(a4h true 0 s++58::(Yt a.size.toNat++[93]))
  else 123::(a4h true a.tail.toNat s++[125])
def a4h:Bool->Nat->List (nL TL)->List UInt8
 |_,_,[]=>[]
 |first,t,x::xs=>(if first then []else [44])++((if xs.length+1<=t then [63]else [])++(put x++a4h false t xs))
end
theorem JD(ds:List UInt8)(b:UInt8):yN (ds++[b])=10*yN ds+(b.toNat - 48):=by simp[yN]
theorem U2(l:List UInt8):pY l++past l=l:=by
 induction l with
 |nil=>rfl
 |cons b r A=>simp only[pY,past];split<;>simp_all
theorem Yu(l:List UInt8):∀b,b∈pY l->uT b=true:=by
 induction l with
 |nil=>intro b h;cases h
 |cons c r A=>
  intro b h;simp only[pY]at h;split at h
  .rcases mD.1 h with h|h
   .subst h;assumption
   .exact A b h
  .cases h
end
section
open Go.RowKit
def sW(w:jJ)(b:Nat)(s:ByteArray)(p l:Nat):Prop:=nO w b #[ny s,ng nH (p:Int),ng nH (l:Int)] 208
theorem sW.c0{w:jJ}{b:Nat}{s:ByteArray}{p l:Nat}(h:sW w b s p l):w.cell? ⟨b,0,none⟩=some (ny s):=h.cell 0
theorem sW.c1{w:jJ}{b:Nat}{s:ByteArray}{p l:Nat}(h:sW w b s p l):w.cell? ⟨b,1,none⟩=some (ng nH p):=h.cell 1
theorem sW.c2{w:jJ}{b:Nat}{s:ByteArray}{p l:Nat}(h:sW w b s p l):w.cell? ⟨b,2,none⟩=some (ng nH l):=h.cell 2
theorem sW.drewN{w:jJ}{b:Nat}{s:ByteArray}{p l:Nat}(h:sW w b s p l)(n:Nat):sW (w.drewN n) b s p l:=nO.drewN h n
theorem sW.move{w:jJ}{b:Nat}{s:ByteArray}{p l:Nat}(h:sW w b s p l)(q:Nat):sW (w.setCell ⟨b,1,none⟩ (ng nH (q:Int))) b s q l:=nO.set h 1 _
theorem sW.left{w:jJ}{b:Nat}{s:ByteArray}{p l:Nat}(h:sW w b s p l)(q:Nat):sW (w.setCell ⟨b,2,none⟩ (ng nH (q:Int))) b s p q:=nO.set h 2 _
def nP(s:ByteArray)(p:Nat):List UInt8:=s.data.toList.drop p
theorem qU{s:ByteArray}{p:Nat}(h:p<s.size):nP s p=s[p]::nP s (p+1):=by
 unfold nP;rw[List.drop_eq_getElem_cons (by simpa using h)];rfl
theorem si{s:ByteArray}{p:Nat}(h:s.size<=p):nP s p=[]:=by
 unfold nP;exact List.drop_eq_nil_of_le (by simpa using h)
theorem JE{s:ByteArray}{p:Nat}(hp:p<=s.size)(h:nP s p=[]):p=s.size:=by
 rcases lh p s.size with A|A
 .rw[qU A]at h;cases h
 .omega
def oO(c:UInt8)(l:List UInt8):Bool:=decide (l.head? =some c)
theorem SC{p:Prop}(h:p:=by
 go_in;go_wp2_with fail;go_quiet (fail);go_wp2_with fail;go_returns;exact⟨rfl,(pE.refl b w).drewN _,HB.drewN _⟩):p:=h
theorem uB(b:Nat)(s:ByteArray)(p l:Nat)(c:UInt8)(w:jJ)(hs:s.size<=j5)(hp:p<=s.size)(hb:sW w b s p l):
  jV jI 215 #[nz (some ⟨b,0,none⟩),ng .u8 (c.toNat:Int)] w λe w'=>e=nE (nA (oO c (nP s p)))/\pE b w w'/\
   sW w' b s (if oO c (nP s p)then p+1 else p) l:=by
 unfold j5 at hs;obtain⟨c0,c1⟩:=hb.a2;have f1:=nO.free hb 1;have HB:=jH hb;clear hb;rcases lh p s.size with h|h
 .have hn:oO c (nP s p)=decide (s[p]=c):=by rw[qU h];simp[oO]
  have C:((p:Int)==s.size)=false:=nQ;rw[hn];by_cases hc:s[p]=c
  .have A:((s[p].toNat:Int) !=(c.toNat:Int))=false:=by rw[hc];simp
   rw[decide_eq_true hc];clear hn hc;go_in;go_wp2_with fail;go_quiet (fail);go_wp2_with fail;go_returns;exact⟨rfl,((pE.refl b w).drewN _).set 1 _,by simpa using(HB.drewN _).move (p+1)⟩
  .have A:((s[p].toNat:Int) !=(c.toNat:Int))=true:=by
    rw[bne_iff_ne];intro E;exact hc (lU.1 nK)
   rw[decide_eq_false hc];clear hn hc;exact SC
 .obtain rfl:p=s.size:=nK
  have hn:oO c (nP s s.size)=false:=by rw[si (jL _)];rfl
  rw[hn];clear hn;exact SC
theorem NT:∀(l:List UInt8)(k:Nat),k<(pY l).length->∃b,l[k]? =some b/\uT b=true/\(pY l).take (k+1)=(pY l).take k++[b]
 |[],k,h=>by simp[pY]at h
 |c::r,k,h=>by
  by_cases hc:uT c=true
  .have e:pY (c::r)=c::pY r:=by simp[pY,hc]
   rw[e]at h⊢;cases k with
   |zero=>exact⟨c,rfl,hc,rfl⟩
   |succ k=>
    obtain⟨b,A,C,E⟩:=NT r k (by simpa using h);exact⟨b,by simpa using A,C,by rw[ky,E];rfl⟩
  .have e:pY (c::r)=[]:=by simp[pY,hc]
   rw[e]at h;simp at h
theorem yB:∀ l:List UInt8,past l=l.drop (pY l).length
 |[]=>rfl
 |c::r=>by
  by_cases hc:uT c=true;.simp[pY,past,hc,yB r]
  .simp[pY,past,hc]
theorem Eh:∀(l:List UInt8)(b:UInt8),(past l).head? =some b->uT b=false
 |[],b,h=>by simp[past]at h
 |c::r,b,h=>by
  by_cases hc:uT c=true;.simp only[past,hc,if_true]at h;exact Eh r b h
  .simp only[past,hc,if_false]at h
   simp at h;subst h;simpa using hc
theorem K7(ds:List UInt8)(k:Nat):yN (ds.take k)<=yN ds:=by
 unfold yN;conv=>rhs;rw[<-mQ k ds,List.foldl_append]
 exact M8 _ _
theorem U3{s:ByteArray}{p k:Nat}{b:UInt8}(h:(nP s p)[k]? =some b):∃h:p+k<s.size,s[p+k]=b:=by
 unfold nP at h;rw[List.getElem?_drop]at h;obtain⟨A,C⟩:=ll.1 h;exact⟨by simpa using A,C⟩
theorem yV(s:ByteArray)(p k:Nat):(nP s p).drop k=nP s (p+k):=by unfold nP;rw[List.drop_drop]
theorem NU(ds:List UInt8):zO ds=(decide (ds.length=1)||(decide (1<ds.length)&&decide (ds.head?≠some 48))):=by
 cases ds with
 |nil=>rfl
 |cons b r=>cases r with
  |nil=>rfl
  |cons c r=>
   simp only[zO,kD,List.head?_cons];have:(b.toNat≠48)<->(some b≠some (48:UInt8)):=by
    constructor;.intro h A;cases A;exact h rfl
    .intro h A;exact h (congrArg some (lU.1 A))
   simp[this]
theorem Yv{most:Nat}{l:List UInt8}(h:most<yN (pY l)):num most l=none:=by
 unfold num;rw[if_neg];simp;intro _;omega
theorem Yw{most:Nat}{l:List UInt8}(h:zO (pY l)=false):num most l=none:=by
 unfold num;rw[if_neg];simp[h]
theorem Yx{most:Nat}{l:List UInt8}(h:zO (pY l)=true)(A:yN (pY l)<=most):num most l=some (yN (pY l),past l):=by
 unfold num;rw[if_pos];simp[h,A]
theorem a1E{D p k q:Nat}(h:p+k=q)(c:k<D):D -(q+1 - p)<D -(q - p):=nK
def K8(b:Nat)(s:ByteArray)(p l most:Nat)(w:jJ)(e:Ending)(w':jJ):Prop:=
 ∃(n:Nat) (ok:Bool) (A:Nat),e=nE (nD #[ng nH (n:Int),nA ok])/\pE b w w'/\sW w' b s A l/\A<=s.size/\n<=most/\
  (ok=true->num most (nP s p)=some (n,nP s A))/\(ok=false->num most (nP s p)=none)
theorem SE{p:Prop}(h:p:=by
 simp only[uT,Bool.and_eq_false_iff,decide_eq_false_iff_not]at h2;rcases h2 with h2|h2
 .exact .inl ⟨h,nK⟩
 .exact .inr ⟨h,nK⟩):p:=h
theorem SF{p:Prop}(h:p:=by
 obtain⟨b,h1,h2,h3⟩:=NT (nP s p) k nK;obtain⟨h4,h5⟩:=U3 h1;exact⟨h4,by rw[h5];exact h2,by rw[h5];exact h3⟩):p:=h
theorem Yy{p:Prop}(h:p:=by
 clear he1 he2 hk1 fin HWD;rcases hend with rfl|⟨hlt,hb'⟩|⟨hlt,hb'⟩
 .have d0:decide ((s.size:Int)<s.size)=false:=nR
  go_wp2_with fail;go_quiet (fail);go_wp2_with fail;go_quiet (fail);go_wp2_with fail;exact HP _ _ ⟨n,false,_,rfl,(HU.drewN _).drewN _,(HR.drewN _).drewN _,hqs,hn,by have h:=IZ.out;simpa using h⟩
 .have d0:decide ((q:Int)<s.size)=true:=nQ
  have d1:decide ((48:Int)<=(s[q].toNat:Int))=false:=nQ;clear hb';go_wp2_with fail;go_quiet (fail);go_wp2_with fail;go_quiet (fail);go_wp2_with fail;exact HP _ _ ⟨n,false,_,rfl,(HU.drewN _).drewN _,(HR.drewN _).drewN _,hqs,hn,by have h:=IZ.out;simpa using h⟩
 .have d0:decide ((q:Int)<s.size)=true:=nQ
  have d1:decide ((48:Int)<=(s[q].toNat:Int))=true:=nQ;have d2:decide ((s[q].toNat:Int)<=57)=false:=nQ;clear hb';go_wp2_with fail;go_quiet (fail);go_wp2_with fail;go_quiet (fail);go_wp2_with fail;exact HP _ _ ⟨n,false,_,rfl,(HU.drewN _).drewN _,(HR.drewN _).drewN _,hqs,hn,by have h:=IZ.out;simpa using h⟩):p:=h
theorem Yz{p:Prop}(h:p:=by
 rcases hend with rfl|⟨hlt,hb'⟩|⟨hlt,hb'⟩
 .have d0:decide ((s.size:Int)<s.size)=false:=nR
  go_wp2_with fail;go_quiet (fail);go_wp2_with fail;go_quiet (fail);go_wp2_with fail;exact HP _ _ ⟨n,true,_,rfl,(HU.drewN _).drewN _,(HR.drewN _).drewN _,hqs,hn,by have h:=IZ.out;simpa using h⟩
 .have d0:decide ((q:Int)<s.size)=true:=nQ
  have d1:decide ((48:Int)<=(s[q].toNat:Int))=false:=nQ;clear hb';go_wp2_with fail;go_quiet (fail);go_wp2_with fail;go_quiet (fail);go_wp2_with fail;exact HP _ _ ⟨n,true,_,rfl,(HU.drewN _).drewN _,(HR.drewN _).drewN _,hqs,hn,by have h:=IZ.out;simpa using h⟩
 .have d0:decide ((q:Int)<s.size)=true:=nQ
  have d1:decide ((48:Int)<=(s[q].toNat:Int))=true:=nQ;have d2:decide ((s[q].toNat:Int)<=57)=false:=nQ;clear hb';go_wp2_with fail;go_quiet (fail);go_wp2_with fail;go_quiet (fail);go_wp2_with fail;exact HP _ _ ⟨n,true,_,rfl,(HU.drewN _).drewN _,(HR.drewN _).drewN _,hqs,hn,by have h:=IZ.out;simpa using h⟩):p:=h
theorem YA{p:Prop}(h:p:=by
 obtain⟨h1,h2,h3⟩:=HG.out 0 h;refine⟨nK,?_⟩;have h4:=congrArg List.head? h3;simp only[Nat.zero_add,kQ,List.nil_append,List.head?_cons,Nat.add_zero]at h4;rw[<-h4];cases pY (nP s p)<;>rfl):p:=h
theorem YB{p:Prop}(h:p:=by
 rcases lh 1 k with h|h
 .obtain⟨h1,_⟩:=H0.out nK
  by_cases h2:s[p].toNat=48;.exact .inr (.inr (.inl ⟨h,h1,h2⟩))
  .exact .inr (.inr (.inr ⟨h,h1,h2⟩))
 .omega):p:=h
theorem YC{p:Prop}(h:p:=by
 have h1:=congrArg List.length (U2 (nP s p));rw[jY,hD]at h1;have h0:(nP s p).length=s.size - p:=by unfold nP;rw[kS];rfl
 omega):p:=h
theorem U4(b:Nat)(s:ByteArray)(p l most:Nat)(w:jJ)(hs:s.size<=j5)(hp:p<=s.size)(aH:most<=65536)(hb:sW w b s p l):
  jV jI 214 #[nz (some ⟨b,0,none⟩),ng nH (most:Int)] w (K8 b s p l most w):=by
 unfold j5 at hs;have c1:=hb.c1;have au:=jH hb;obtain⟨D,hD⟩:=nT ((pY (nP s p)).length);have af:=jH hD;have aD:p+D<=s.size:=by
  exact YC
 have HG:jW (∀k,k<D->∃h:p+k<s.size,uT s[p+k]=true/\(pY (nP s p)).take (k+1)=(pY (nP s p)).take k++[s[p+k]]):=jH λk hk=>by
  exact SF
 have av:jW (∀h:p+D<s.size,uT s[p+D]=false):=jH λh=>by
  refine Eh (nP s p) _ ?_;rw[yB,hD,yV,qU h];rfl
 have ax:jW (past (nP s p)=nP s (p+D)):=jH (by rw[yB,hD,yV]);have H0:jW (0<D->∃h:p<s.size,(pY (nP s p)).head? =some s[p]):=jH λh=>by
  exact YA
 generalize ag:K8 b s p l most w=Z;have HP:jW (∀e w',K8 b s p l most w e w'->Z e w'):=jH λe w' h=>by rw[<-ag];exact h
 clear hb hD ag;go_in;go_wp2_with fail;clear c1;go_loopw [7] (λay J=>∃(k n:Nat),ay=ng nH n/\k<=D/\n<=most/\jW (n=yN ((pY (nP s p)).take k))/\jW (sW J b s (p+k) l)/\jW (pE b w J)) (λ_ J=>D -(match J.cell? ⟨b,1,none⟩with|some v=>(kW v).toNat - p|none=>0));case atStart=>exact⟨0,0,rfl,nK,nK,by simp[jW,yN],jH au.out,jH (pE.refl _ _)⟩
 case round=>
  obtain⟨k,n,rfl,hk,hn,aa,HR,HU⟩:=hrel;obtain⟨q,N⟩:=nT (p+k);have E:=jH N;rw[N]at HR;have hqs:q<=s.size:=nK;obtain⟨c0,c1⟩:=HR.a2;have f1:=nO.free HR 1;have I:=jH (HG k);rw[N]at I;clear N;by_cases c:k<D
  .obtain⟨hlt,C,htake⟩:=I.out c
   simp only[uT,j3,decide_eq_true_eq]at C;have Q:=jH (jU C htake);have d0:decide ((q:Int)<s.size)=true:=nQ;have d1:decide ((48:Int)<=(s[q].toNat:Int))=true:=nQ;have d2:decide ((s[q].toNat:Int)<=57)=true:=nQ;have az:48<=(s[q].toNat:Int):=nK;have aA:(s[q].toNat:Int)<=57:=nK;clear htake C;by_cases O:most<10*n+(s[q].toNat - 48)
   .have aB:decide ((most:Int)<10*(n:Int)+((s[q].toNat:Int) - 48))=true:=nQ
    have ae:=jH O;clear O;go_wp2_with fail;go_quiet (fail);go_wp2_with fail;go_quiet (fail);go_wp2_with fail;refine HP _ _ ⟨0,false,q+1,rfl,(HU.drewN _).set 1 _,by simpa using(HR.drewN _).move (q+1),hlt,nK,(λh=>by cases h),λ_=>Yv ?_⟩;have h1:=ae.out;have h2:=K7 (pY (nP s p)) (k+1);rw[Q.2,JD,<-aa.out]at h2;omega
   .have aB:decide ((most:Int)<10*(n:Int)+((s[q].toNat:Int) - 48))=false:=nQ
    have ae:=jH O;clear O;go_wp2_with fail;go_quiet (fail);go_wp2_with fail;go_quiet (fail);go_wp2_with fail;have U:∀m,sW ((wr.drewN m).setCell ⟨b,1,none⟩ (ng nH ((q:Int)+1))) b s (q+1) l:=λm=>by simpa using(HR.drewN m).move (q+1)
    refine⟨⟨k+1,10*n+(s[q].toNat - 48),by congr 1;omega,nK,by have:=ae.out;omega,jH ?_,jH (by rw[show p+(k+1)=q+1 by have:=E.out;omega];exact U _),jH ((HU.drewN _).set 1 _)⟩,?_⟩;.rw[Q.2,JD,<-aa.out]
    .have e1:=λm=>(U m).c1
     have h3:=E.out;simp only[e1,c1,kW,Int.toNat_natCast];exact a1E h3 c
  .obtain rfl:k=D:=nK
   have V:jW (n=yN (pY (nP s p))):=jH (by rw[aa.out,List.take_of_length_le (by have:=af.out;omega)]);have ah:jW (past (nP s p)=nP s q):=jH (by rw[ax.out,E.out]);have hend:q=s.size\/(∃h:q<s.size,s[q].toNat<48)\/(∃h:q<s.size,57<s[q].toNat):=by
    rcases lh q s.size with h|h
    .right
     have h1:=av.out;rw[E.out]at h1;have h2:=h1 h;exact SE
    .exact .inl nK
   have hlen:k=0\/k=1\/(1<k/\∃h:p<s.size,jW (s[p].toNat=48))\/(1<k/\∃h:p<s.size,jW (s[p].toNat≠48)):=by
    exact YB
   have HWD:jW (zO (pY (nP s p))=(decide (k=1)||(decide (1<k)&&decide ((pY (nP s p)).head?≠some 48)))):=jH (by rw[NU,af.out]);have fin:jW (∀ok:Bool,zO (pY (nP s p))=ok->(ok=true->num most (nP s p)=some (n,nP s q))/\(ok=false->num most (nP s p)=none)):=jH λok hok=>
    ⟨λh=>by rw[Yx (by rw[hok,h]) (by rw[<-V.out];omega),<-V.out,ah.out],λh=>Yw (by rw[hok,h])⟩
   have Y:(q:Int)=p+k:=by have:=E.out;omega
   have aF:=jH Y;have ai:(∃e1:Bool,((q:Int) - p==1)=e1/\e1=decide (k=1))/\∃e2:Bool,decide (1<(q:Int) - p)=e2/\e2=decide (1<k):=by
    refine⟨⟨_,rfl,?_⟩,_,rfl,?_⟩;.rw[Bool.eq_iff_iff];simp;omega
    .rw[decide_eq_decide];omega
   obtain⟨⟨e1,aG,he1⟩,e2,aj,he2⟩:=ai;clear Y I;rcases hlen with hk1|hk1|⟨hk1,ak,A⟩|⟨hk1,ak,A⟩
   .obtain rfl:e1=false:=by rw[he1];simp;omega
    obtain rfl:e2=false:=by rw[he2];simp;omega
    have IZ:=jH (fin false (by rw[HWD.out];simp;omega));exact Yy
   .obtain rfl:e1=true:=by rw[he1];simp;omega
    have IZ:=jH (fin true (by rw[HWD.out];simp;omega));clear he1 he2 aj hk1 fin HWD;exact Yz
   .obtain rfl:e1=false:=by rw[he1];simp;omega
    obtain rfl:e2=true:=by rw[he2];simp;omega
    have d5:((s[p].toNat:Int) !=48)=false:=by have:=A.out;simp;omega
    have IZ:=jH (fin false (by
     obtain⟨_,h5⟩:=H0.out nK;rw[HWD.out,h5,show s[p]=48 from lU.1 A.out];simp;omega))
    exact Yy
   .obtain rfl:e1=false:=by rw[he1];simp;omega
    obtain rfl:e2=true:=by rw[he2];simp;omega
    have d5:((s[p].toNat:Int) !=48)=true:=by have:=A.out;simp;omega
    have IZ:=jH (fin true (by
     obtain⟨_,h5⟩:=H0.out nK;have aC:s[p]≠48:=λh=>A.out (by rw[h];rfl)
     rw[HWD.out,h5];simp[aC];omega))
    clear he1 he2 hk1 fin HWD;exact Yz
end
end Go.Proofs.YtamfcjmhnndbdaaGreatDoor


