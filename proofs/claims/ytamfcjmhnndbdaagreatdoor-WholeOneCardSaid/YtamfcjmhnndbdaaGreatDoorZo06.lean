/- Part 6 of the proof. -/
import Derived.Test.YtamfcjmhnndbdaaGreatDoorZoA
import Derived.Test.YtamfcjmhnndbdaaGreatDoorZo00
import Derived.Test.YtamfcjmhnndbdaaGreatDoorZo02
import Derived.Test.YtamfcjmhnndbdaaGreatDoorZo03
import Derived.Test.YtamfcjmhnndbdaaGreatDoorZo04
import Derived.Test.YtamfcjmhnndbdaaGreatDoorZo05
import Derived.OwnWalk
import Derived.Deep.AppendLies
import Derived.Deep.RegionHeld
import Derived.WalkKit
import Derived.StillTail
import Derived.Deep.RegionHeld3
open Go.Value renaming agg→nI,bool→nH,int→Y,pointer→nG,slice→u,string→G,tuple→nJ,ownBlock→kz,slice→kI
open Go.Obj renaming cells→nL
open Go.IntKind renaming i64→X,u64→nN
open Go.Ending renaming returned→nK
open Go.Lib renaming hid→H
open Go.Proofs.Tryz renaming prog→jy
open Go renaming World→M,Value→jC,Calls→jG,maxLen→jN,bodyPost_ret→jO,TypeId→jX,undef→ku,results→kF,Addr→kW,Oper→lJ,Program→lQ,wpAnyH_ready→l8
open Nat renaming le_refl→jB,le_trans→jM,lt_of_lt_of_le→jZ,zero_le→ko,add_assoc→kK,lt_or_ge→kQ,le_succ→kR,add_mul→lT,mul_le_mul_right→lY,min_eq_left→mr,add_zero→nk
open Go.RowKit renaming Below→jD,Hid→jI
open Go.RowKit.Below renaming refl→jE,heap_setCell→jW
open And renaming intro→jF
open List renaming setIfInBounds_toArray→jH,length_append→jK,getElem?_eq_getElem→jL,set_cons_zero→jQ,set_cons_succ→jR,getElem?_cons_zero→jS,getElem?_cons_succ→jT,getElem?_toArray→jV,take_succ_cons→jY,length_cons→j4,length_take→kD,mem_of_getElem?→kE,length_drop→kG,take_zero→kJ,getD_eq_getElem?_getD→kL,take_of_length_le→kS,range→ll,getElem?_eq_some_iff→lu,all_eq_true→lN,getElem?_append_left→l6,map_cons→mf,length_eq_zero_iff→mh,mem_range→mJ,getElem?_append_right→mZ,map_nil→ng
open ByteArray renaming size_extract→jP
open Go.World renaming setCell→j5,cell?→mV
open Array renaming getElem?_eq_some_iff→j6,getElem?_modify→kU,replicate→lh
open Go.Code renaming region→kT
open Go.AllReadyH renaming cons→lg,nil→lH
open Go.Region renaming ready→lI,Mode→lW,wanted→ma,binds→mH
open Go.Instr renaming lookup→lV
open UInt8 renaming toNat_inj→lX
open Option.some renaming inj→mg,injEq→mI
open Go.Act renaming put→mR
open Ne renaming symm→nz
open Option renaming none→V,some→U
open Bool renaming true→R,false→O
open Go.Addr renaming mk→Z
open Decidable renaming decide→At
namespace Go.Proofs.YtamfcjmhnndbdaaGreatDoor
set_option linter.unusedVariables false
set_option linter.defProp false
set_option linter.unusedSimpArgs false
set_option maxRecDepth 100000
set_option maxHeartbeats 8000000
variable {t t':jX}
section
open Go.RowKit Go.Maps
def Su(c:oO)(L:List oV)(f:vS):Option oV:=
 if c.fmt=1 then if f.id=0 then L.find? λx=>At (x.r.name=f.name)else V else if f.name.size=0 then L.find? λx=>At ((x.r.id:Int)=(f.id:Int))else V
def rcO:Option oV->RC
 |some x=>x.rc
 |none=>Ei
def a3u(c:oO)(L:List oV)(f:vS):ofF c (L.map λx=>x.r) f=(Su c L f).map λx=>x.r:=by
 unfold ofF Su;split
 .split
  .rw[List.find?_map];rfl
  .rfl
 .split
  .rw[List.find?_map]
   have:((λr:Row=>At (r.id=f.id))∘λx:oV=>x.r)=λx:oV=>At ((x.r.id:Int)=(f.id:Int)):=funext λx=>decide_eq_decide.2 (by show x.r.id=f.id<->(x.r.id:Int)=(f.id:Int);omega)
   rw[this]
  .rfl
def a3v(L:List oV)(p:oV->Bool):fnd L p=rcO (L.find? p):=by
 unfold fnd;cases L.find? p<;>rfl
def Ej(w:M)(k:Nat)(x:RC):M:=((((((w.setCell (Z k 0 V) (Y nN x.i)).setCell (Z k 1 V) (G x.nm)).setCell (Z k 2 V) (G x.tx)).setCell (Z k 3 V) (Y X x.k)).setCell (Z k 4 V) (Y X x.z)).setCell (Z k 5 V) (u x.ou x.nu x.cu)).setCell (Z k 6 V) (Y X x.tl)
def BP(w:M)(k:Nat)(x:RC):((((((w.setCell (Z k 0 V) (Y nN x.i)).setCell (Z k 1 V) (G x.nm)).setCell (Z k 2 V) (G x.tx)).setCell (Z k 3 V) (Y X x.k)).setCell (Z k 4 V) (Y X x.z)).setCell (Z k 5 V) (u x.ou x.nu x.cu)).setCell (Z k 6 V) (Y X x.tl)=Ej w k x:=rfl
def zl{w:M}{k:Nat}{x y:RC}(h:nU w k y.cs t):nU (Ej w k x) k x.cs t:=by
 have q:=((((((h.set 0 (Y nN x.i)).set 1 (G x.nm)).set 2 (G x.tx)).set 3 (Y X x.k)).set 4 (Y X x.z)).set 5 (u x.ou x.nu x.cu)).set 6 (Y X x.tl);simp only[RC.cs,jH,jQ,jR]at q;exact q
def WV{w:M}{k c:Nat}{x:RC}(h:c≠k):(Ej w k x).heap[c]? =w.heap[c]? :=by
 unfold Ej;simp[j5,kU,nz h]
def LB(w:M)(k:Nat)(x:RC):(Ej w k x).heap.size=w.heap.size:=by simp[Ej,j5]
def vT{B k:Nat}{w0 w:M}{x:RC}(h:jD B w0 w)(hk:B<=k):jD B w0 (Ej w k x):=
 ((((((h.setCell (p:=(Z k 0 V)) hk _).setCell (p:=(Z k 1 V)) hk _).setCell (p:=(Z k 2 V)) hk _).setCell (p:=(Z k 3 V)) hk _).setCell (p:=(Z k 4 V)) hk _).setCell (p:=(Z k 5 V)) hk _).setCell (p:=(Z k 6 V)) hk _
def xX{w:M}{k c:Nat}{x:RC}{cs:Array jC}(h:nU w c cs t)(A:c≠k):nU (Ej w k x) c cs t:=by
 unfold nU at*;rw[WV A];exact h
def qI{W:M}{k:Nat}{x:RC}(h:nU W k x.cs t):(W.cell? (Z k 0 V)=U (Y nN x.i)/\W.cell? (Z k 1 V)=U (G x.nm)/\W.cell? (Z k 2 V)=U (G x.tx)/\W.cell? (Z k 3 V)=U (Y X x.k)/\W.cell? (Z k 4 V)=U (Y X x.z)/\W.cell? (Z k 5 V)=U (u x.ou x.nu x.cu)/\W.cell? (Z k 6 V)=U (Y X x.tl))/\
  W.frozen? (Z k 0 V)=O/\W.frozen? (Z k 1 V)=O/\W.frozen? (Z k 2 V)=O/\W.frozen? (Z k 3 V)=O/\W.frozen? (Z k 4 V)=O/\W.frozen? (Z k 5 V)=O/\W.frozen? (Z k 6 V)=O:=
 ⟨⟨h.cell 0,h.cell 1,h.cell 2,h.cell 3,h.cell 4,h.cell 5,h.cell 6⟩,h.free 0,h.free 1,h.free 2,h.free 3,h.free 4,h.free 5,h.free 6⟩
structure WW(g r bn bi:Nat)(c:oO)(L:List oV)(f:vS)(w0:M)(x:RC)(W:M):Prop where
 rg:qG r bn bi c L W
 fr:nU W g #[Y nN f.id,G f.name,G f.body] rq
 rs:nU W (g+1) Ei.cs Hr
 fo:nU W (g+2) x.cs Hr
 ql:jD g w0 W
 lt:r<g/\bn<g/\bi<g/\w0.heap.size=g
def oM(w:M):jD w.heap.size w w.drew:=⟨rfl,rfl,rfl,jB _,λ_ _=>rfl⟩
def WW.drew{g r bn bi:Nat}{c:oO}{L:List oV}{f:vS}{w0:M}{x:RC}{W:M}(h:WW g r bn bi c L f w0 x W):WW g r bn bi c L f w0 x W.drew:=
 ⟨h.rg.below (oM _),h.fr,h.rs,h.fo,h.ql.trans ((oM _).mono (by have:=h.fr.lt;omega)),h.lt⟩
def WW.put{g r bn bi:Nat}{c:oO}{L:List oV}{f:vS}{w0:M}{x y:RC}{W:M}(h:WW g r bn bi c L f w0 x W)(h0:qG r bn bi c L w0):WW g r bn bi c L f w0 y (Ej W (g+2) y):=by
 have hb:=vT (x:=y) h.ql (show g<=g+2 by omega);exact⟨h0.below (h.lt.2.2.2▸hb),xX h.fr K,xX h.rs K,zl h.fo,hb,h.lt⟩
noncomputable def Ht:List lJ:=cO (cL (cR (cL (cL (cR (cR (cR (cB Tryz.f91))))))))
section
variable (g r bn bi:Nat)(c:oO)(L:List oV)(f:vS)(w0:M)(b:Bool)(x:RC)
def BQ:Nat->jC
 |0=> nG (U (Z r 0 V))
 |1=> nG (U (Z r 0 V))
 |2=> nG (U (Z r 6 V))
 |3=> .map (U bn)
 |4=> nG (U (Z g 1 V))
 |5=> G f.name
 |6=> nJ #[nI #[Y nN x.i,G x.nm,G x.tx,Y X x.k,Y X x.z,u x.ou x.nu x.cu,Y X x.tl],nH b]
 |7=> nJ #[nI #[Y nN x.i,G x.nm,G x.tx,Y X x.k,Y X x.z,u x.ou x.nu x.cu,Y X x.tl],nH b]
 |8=> nI #[Y nN x.i,G x.nm,G x.tx,Y X x.k,Y X x.z,u x.ou x.nu x.cu,Y X x.tl]
 |9=> nH b
 |11=> nH b
 |_=>ku
structure a8P(D:Nat->Bool)(vs:Nat->jC)(w:M):Prop where
 oU:WW g r bn bi c L f w0 (if(D 10)=R then x else Ei) w
 val:∀j,(R)=R->D j=R->vs j=BQ g r bn f b x j
variable {g r bn bi c L f w0 b x}
def ZG{p:Prop}(h:p:=by
 have hW:=hI.oU;rw[hd]at hW;obtain⟨⟨z0,z1,z2,z3,z4,z5,z6⟩,f0,f1,f2,f3,f4,f5,f6⟩:=qI hW.fo;go_simp;rw[BP];refine hK ku _ _ rfl ⟨?_,vM hI.val⟩;rw[oH];exact hW.put h0):p:=h
def a3w{id:Nat}{Q:Exit->Act->M->Prop}{a0:Act}{I:M}(ht0:a0.tmps.getD 0 ku=nG (U (Z r 0 V)))(ht3:a0.tmps.getD 3 ku=nG (U (Z g 0 V)))(hl:∀W,qG r bn bi c L W->(lV 130 (.map (U bn)) (G f.name) R).run jy W=.ok (nJ #[nI #[Y nN x.i,G x.nm,G x.tx,Y X x.k,Y X x.z,u x.ou x.nu x.cu,Y X x.tl],nH b]) W)(BR:a0.tmps.getD 6 ku=nG (U (Z (g+2) 0 V)))(h0:qG r bn bi c L w0)(hsz:a0.tmps.size=54)(hI0:∀vs:Nat->jC,(λw=>WW g r bn bi c L f w0 (if O=R then x else Ei) w) I.drew)(J:∀(vs:Nat->jC) (w:M),WW g r bn bi c L f w0 (if R=R then x else Ei) w->Q .normal {a0 with tmps:=(((((((((((a0.tmps.setIfInBounds 21 (nG (U (Z r 0 V)))).setIfInBounds 22 (nG (U (Z r 0 V)))).setIfInBounds 23 (nG (U (Z r 6 V)))).setIfInBounds 24 (.map (U bn))).setIfInBounds 25 (nG (U (Z g 1 V)))).setIfInBounds 26 (G f.name)).setIfInBounds 27 (nJ #[nI #[Y nN x.i,G x.nm,G x.tx,Y X x.k,Y X x.z,u x.ou x.nu x.cu,Y X x.tl],nH b])).setIfInBounds 20 (nJ #[nI #[Y nN x.i,G x.nm,G x.tx,Y X x.k,Y X x.z,u x.ou x.nu x.cu,Y X x.tl],nH b])).setIfInBounds 28 (nI #[Y nN x.i,G x.nm,G x.tx,Y X x.k,Y X x.z,u x.ou x.nu x.cu,Y X x.tl])).setIfInBounds 29 (nH b)).setIfInBounds 7 (nH b))} w):
  (kT id Ht.toArray R).wp jy Q a0 I:=by
 refine oF 12 54 (a8P g r bn bi c L f w0 b x) nV hsz nV (.inl rfl) nV ?_ ?_ ?_;.exact q9
 .refine sM λA aj=> ?_
  clear hI0 J hsz;replace ht0:=H ht0;replace ht3:=H ht3;replace hl:=H hl;replace BR:=H BR;replace h0:=H h0;dsimp+instances only[Ht,cO,cL,cR,cB,Tryz.f91];simp only[jY,kJ,rZ];refine⟨?_,?_,?_,?_,?_,?_,?_,?_,?_,?_,?_,?_,trivial⟩<;>(intro D vs a w am hI hd E ak C hK;subst aj;dsimp+instances only[Ht,cO,cL,cR,cB,Tryz.f91]);have az:=(C 0 nT).trans ht0.out;rotate_left;have au:=fe C hI.val E 21 0;rotate_left;have av:=fe C hI.val E 22 1;rotate_left;have N:=fe C hI.val E 23 2;simp only[BQ]at N;have c0:=hI.oU.rg.rg.c6;rotate_left;have e3:=(C 3 nT).trans ht3.out;rotate_left;have aa:=fe C hI.val E 25 4;simp only[BQ]at aa;have c0:=hI.oU.fr.c1;rotate_left;have hl:=hl.out;have ae:=fe C hI.val E 24 3;have af:=fe C hI.val E 26 5;simp only[BQ]at ae af;have q:=hl w hI.oU.rg;rotate_left;have ax:=fe C hI.val E 27 6;rotate_left;have ag:=fe C hI.val E 20 7;rotate_left;have ag:=fe C hI.val E 20 7;rotate_left
  .have h0:=h0.out
   have aA:=(C 6 nT).trans BR.out;have ah:=fe C hI.val E 28 8;simp only[BQ]at ah;exact ZG
  have ay:=fe C hI.val E 29 9;rotate_left
  all_goals
   try simp only[BQ]at*
   go_simp;exact hK _ _ _ rfl ⟨hI.oU,vM hI.val⟩
 .intro D vs w ai hI
  have E:=hI.oU;rw[ai 10 nT]at E;have q:=J vs w E;rw[pE hI.val ai];dsimp+instances only[Ht,cO,cL,cR,cB,Tryz.f91];exact q8
end
noncomputable def Hu:List lJ:=cO (cL (cR (cR (cR (cL (cL (cR (cR (cR (cB Tryz.f91))))))))))
section
variable (g r bn bi:Nat)(c:oO)(L:List oV)(f:vS)(w0:M)(b:Bool)(x:RC)
def BS:Nat->jC
 |0=> nG (U (Z r 0 V))
 |1=> nG (U (Z r 0 V))
 |2=> nG (U (Z r 7 V))
 |3=> .map (U bi)
 |4=> nG (U (Z g 0 V))
 |5=> Y nN f.id
 |6=> nJ #[nI #[Y nN x.i,G x.nm,G x.tx,Y X x.k,Y X x.z,u x.ou x.nu x.cu,Y X x.tl],nH b]
 |7=> nJ #[nI #[Y nN x.i,G x.nm,G x.tx,Y X x.k,Y X x.z,u x.ou x.nu x.cu,Y X x.tl],nH b]
 |8=> nI #[Y nN x.i,G x.nm,G x.tx,Y X x.k,Y X x.z,u x.ou x.nu x.cu,Y X x.tl]
 |9=> nH b
 |11=> nH b
 |_=>ku
structure a8Q(D:Nat->Bool)(vs:Nat->jC)(w:M):Prop where
 oU:WW g r bn bi c L f w0 (if(D 10)=R then x else Ei) w
 val:∀j,(R)=R->D j=R->vs j=BS g r bi f b x j
variable {g r bn bi c L f w0 b x}
def a3x{id:Nat}{Q:Exit->Act->M->Prop}{a0:Act}{I:M}(ht0:a0.tmps.getD 0 ku=nG (U (Z r 0 V)))(ht3:a0.tmps.getD 3 ku=nG (U (Z g 0 V)))(hl:∀W,qG r bn bi c L W->(lV 131 (.map (U bi)) (Y nN f.id) R).run jy W=.ok (nJ #[nI #[Y nN x.i,G x.nm,G x.tx,Y X x.k,Y X x.z,u x.ou x.nu x.cu,Y X x.tl],nH b]) W)(BR:a0.tmps.getD 6 ku=nG (U (Z (g+2) 0 V)))(h0:qG r bn bi c L w0)(hsz:a0.tmps.size=54)(hI0:∀vs:Nat->jC,(λw=>WW g r bn bi c L f w0 (if O=R then x else Ei) w) I.drew)(J:∀(vs:Nat->jC) (w:M),WW g r bn bi c L f w0 (if R=R then x else Ei) w->Q .normal {a0 with tmps:=(((((((((((a0.tmps.setIfInBounds 43 (nG (U (Z r 0 V)))).setIfInBounds 44 (nG (U (Z r 0 V)))).setIfInBounds 45 (nG (U (Z r 7 V)))).setIfInBounds 46 (.map (U bi))).setIfInBounds 47 (nG (U (Z g 0 V)))).setIfInBounds 48 (Y nN f.id)).setIfInBounds 49 (nJ #[nI #[Y nN x.i,G x.nm,G x.tx,Y X x.k,Y X x.z,u x.ou x.nu x.cu,Y X x.tl],nH b])).setIfInBounds 42 (nJ #[nI #[Y nN x.i,G x.nm,G x.tx,Y X x.k,Y X x.z,u x.ou x.nu x.cu,Y X x.tl],nH b])).setIfInBounds 50 (nI #[Y nN x.i,G x.nm,G x.tx,Y X x.k,Y X x.z,u x.ou x.nu x.cu,Y X x.tl])).setIfInBounds 51 (nH b)).setIfInBounds 7 (nH b))} w):
  (kT id Hu.toArray R).wp jy Q a0 I:=by
 refine oF 12 54 (a8Q g r bn bi c L f w0 b x) nV hsz nV (.inl rfl) nV ?_ ?_ ?_;.exact q9
 .refine sM λA aj=> ?_
  clear hI0 J hsz;replace ht0:=H ht0;replace ht3:=H ht3;replace hl:=H hl;replace BR:=H BR;replace h0:=H h0;dsimp+instances only[Hu,cO,cL,cR,cB,Tryz.f91];simp only[jY,kJ,rZ];refine⟨?_,?_,?_,?_,?_,?_,?_,?_,?_,?_,?_,?_,trivial⟩<;>(intro D vs a w am hI hd E ak C hK;subst aj;dsimp+instances only[Hu,cO,cL,cR,cB,Tryz.f91]);have az:=(C 0 nT).trans ht0.out;rotate_left;have au:=fe C hI.val E 43 0;rotate_left;have av:=fe C hI.val E 44 1;rotate_left;have N:=fe C hI.val E 45 2;simp only[BS]at N;have c0:=hI.oU.rg.rg.c7;rotate_left;have e3:=(C 3 nT).trans ht3.out;rotate_left;have aa:=fe C hI.val E 47 4;simp only[BS]at aa;have c0:=hI.oU.fr.c0;rotate_left;have hl:=hl.out;have ae:=fe C hI.val E 46 3;have af:=fe C hI.val E 48 5;simp only[BS]at ae af;have q:=hl w hI.oU.rg;rotate_left;have ax:=fe C hI.val E 49 6;rotate_left;have ag:=fe C hI.val E 42 7;rotate_left;have ag:=fe C hI.val E 42 7;rotate_left
  .have h0:=h0.out
   have aA:=(C 6 nT).trans BR.out;have ah:=fe C hI.val E 50 8;simp only[BS]at ah;exact ZG
  have ay:=fe C hI.val E 51 9;rotate_left
  all_goals
   try simp only[BS]at*
   go_simp;exact hK _ _ _ rfl ⟨hI.oU,vM hI.val⟩
 .intro D vs w ai hI
  have E:=hI.oU;rw[ai 10 nT]at E;have q:=J vs w E;rw[pE hI.val ai];dsimp+instances only[Hu,cO,cL,cR,cB,Tryz.f91];exact q8
end
def zm(L:List oV)(p:oV->Bool):∃x:RC,fnd L p=x/\x=rcO (L.find? p):=⟨_,rfl,a3v L p⟩
def ZH{p:Prop}(h:p:=by
 have hF:=HI.out;clear h2 HR HL6 HX6 HI;have HF:=H hF;clear hF;obtain⟨⟨z0,z1,z2,z3,z4,z5,z6⟩,_⟩:=qI HF.fo;obtain⟨⟨y0,y1,y2,y3,y4,y5,y6⟩,q0,q1,q2,q3,q4,q5,q6⟩:=qI HF.rs;unfold Ei at y0 y1 y2 y3 y4 y5 y6;dsimp only at y0 y1 y2 y3 y4 y5 y6;go_wp2_with fail;rw[BP _ _ Ei];obtain⟨⟨d0,d1,d2,d3,d4,d5,d6⟩,_⟩:=qI (zl (x:=Ei) HF.rs);have hbel:=vT (x:=Ei) HF.ql (kR g);generalize Ej _ _ Ei=W9 at*;refine jO (v:=nJ #[nI Ei.cs,nH O]) (by simp[kF,Tryz.results91,go_sem,d0,d1,d2,d3,d4,d5,d6,RC.cs]) rfl ⟨?_,hbel⟩;rw[HE.out];rfl):p:=h
def a6D(r bn bi:Nat)(c:oO)(L:List oV)(f:vS)(w:M)(h:qG r bn bi c L w)(hn:f.name.size<=jN)(hid:f.id<18446744073709551616)(hlt:r<w.heap.size/\bn<w.heap.size/\bi<w.heap.size):
  jG jy 91 #[nG (U (Z r 0 V)),nI #[Y nN f.id,G f.name,G f.body]] w λe w'=>e=nK (nJ #[nI (rcO (Su c L f)).cs,nH (Su c L f).isSome])/\jD w.heap.size w w':=by
 obtain⟨g,hg⟩:=og w.heap.size;have ag:jI (∀W,((w.alloc (nL #[Y nN f.id,G f.name,G f.body] rq)).alloc (nL #[Y nN 0,G ⟨#[]⟩,G ⟨#[]⟩,Y X 0,Y X 0,u V 0 0,Y X 0] Hr)).alloc (nL #[Y nN 0,G ⟨#[]⟩,G ⟨#[]⟩,Y X 0,Y X 0,u V 0 0,Y X 0] Hr)=W->WW g r bn bi c L f w Ei W):=H λW E=>by
  subst E;have aH:=(jE w.heap.size w).alloc (jB _) (nL #[Y nN f.id,G f.name,G f.body] rq);have a2:=aH.alloc nX (nL #[Y nN 0,G ⟨#[]⟩,G ⟨#[]⟩,Y X 0,Y X 0,u V 0 0,Y X 0] Hr);have a3:=a2.alloc nY (nL #[Y nN 0,G ⟨#[]⟩,G ⟨#[]⟩,Y X 0,Y X 0,u V 0 0,Y X 0] Hr);have ax:=nU.new w #[Y nN f.id,G f.name,G f.body] rq;have ay:=nU.new (w.alloc (nL #[Y nN f.id,G f.name,G f.body] rq)) #[Y nN 0,G ⟨#[]⟩,G ⟨#[]⟩,Y X 0,Y X 0,u V 0 0,Y X 0] Hr;have az:=nU.new ((w.alloc (nL #[Y nN f.id,G f.name,G f.body] rq)).alloc (nL #[Y nN 0,G ⟨#[]⟩,G ⟨#[]⟩,Y X 0,Y X 0,u V 0 0,Y X 0] Hr)) #[Y nN 0,G ⟨#[]⟩,G ⟨#[]⟩,Y X 0,Y X 0,u V 0 0,Y X 0] Hr;rw[show(w.alloc (nL #[Y nN f.id,G f.name,G f.body] rq)).heap.size=g+1 by simp[hg]]at ay;rw[show((w.alloc (nL #[Y nN f.id,G f.name,G f.body] rq)).alloc (nL #[Y nN 0,G ⟨#[]⟩,G ⟨#[]⟩,Y X 0,Y X 0,u V 0 0,Y X 0] Hr)).heap.size=g+2 by simp[hg]]at az;rw[hg]at ax;exact⟨h.below a3,(ax.alloc _).alloc _,ay.alloc _,az,hg▸a3,⟨K,K,K,hg⟩⟩
 have C:jI (∀W,qG r bn bi c L W->_):=H λW E=>E.look f.name hn
 have HL6:jI (∀W,qG r bn bi c L W->_):=H λW E=>E.a5s f.id hid
 have aA:=H h;have aB:∀b1 au,At (c.fmt=1)=b1->At (f.id=0)=au->At (f.name.size=0)=At (f.name.size=0)->Su c L f=if b1 then if au then L.find? λx=>At (x.r.name=f.name)else V else if At (f.name.size=0)then L.find? λx=>At ((x.r.id:Int)=(f.id:Int))else V:=by
  intro b1 au A h2 _;subst A h2;unfold Su;simp only[decide_eq_true_eq]
 have HR:=H aB;obtain⟨I,ah,J⟩:=zm L λx=>At (x.r.name=f.name)
 obtain⟨N,ai,aa⟩:=zm L λx=>At ((x.r.id:Int)=(f.id:Int))
 rw[ah]at C;rw[ai]at HL6;unfold RC.cs at C HL6;have aj:=H J;have HX6:=H aa;generalize aC:(L.find? λx=>At (x.r.name=f.name))=o4 at*;generalize aD:(L.find? λx=>At ((x.r.id:Int)=(f.id:Int)))=aF at*;obtain⟨af,ak⟩:=og (Su c L f);rw[ak]at HR|-;rw[hg];clear h hn hlt ah ai J aa aC aD aB ak hid;go_in;go_upto_region 2 with fail;have hI:=ag.out _ rfl;generalize ((w.alloc _).alloc _).alloc _=w1 at*;have HI:=H hI;have c0:=hI.rg.rg.c0;obtain⟨aJ,f1⟩:=hI.fr.a2;clear hI ag;by_cases A:c.fmt=1
 .have aI:(c.fmt==1)=R:=by simp[A]
  have aG:(c.fmt !=1)=O:=by simp[A]
  have ae:=H A;clear A;by_cases h2:f.id=0
  .have av:((f.id:Int)==0)=R:=by simp[h2]
   have HE:jI (af=o4):=H (by rw[HR.out R R (by simp[ae.out]) (by simp[h2]) rfl];rfl);clear h2 HR HL6 HX6;go_upto_region 4 with fail;refine a3w (ht0:=by rfl) (ht3:=by rfl) (BR:=by rfl) (hl:=C.out) (h0:=aA.out) (hsz:=by rfl) (hI0:=λ_=>HI.drew) ?_;intro vs W hF;clear HI;simp only[jH,jQ,jR];have HF:=H hF;clear hF;obtain⟨⟨z0,z1,z2,z3,z4,z5,z6⟩,_⟩:=qI HF.fo;obtain⟨⟨y0,y1,y2,y3,y4,y5,y6⟩,q0,q1,q2,q3,q4,q5,q6⟩:=qI HF.rs;unfold Ei at y0 y1 y2 y3 y4 y5 y6;dsimp only at y0 y1 y2 y3 y4 y5 y6;go_wp2_with fail;rw[BP _ _ I];obtain⟨⟨d0,d1,d2,d3,d4,d5,d6⟩,_⟩:=qI (zl (x:=I) HF.rs);have hbel:=vT (x:=I) HF.ql (kR g);generalize Ej _ _ I=W9 at*;refine jO (v:=nJ #[nI I.cs,nH o4.isSome]) (by simp[kF,Tryz.results91,go_sem,d0,d1,d2,d3,d4,d5,d6,RC.cs]) rfl ⟨?_,hbel⟩;rw[HE.out,aj.out]
  .have av:((f.id:Int)==0)=O:=nY
   have HE:jI (af=V):=H (by rw[HR.out R O (by simp[ae.out]) (by simp[h2]) rfl];rfl);exact ZH
 .have aI:(c.fmt==1)=O:=by simp[A]
  have aG:(c.fmt !=1)=R:=by simp[A]
  have ae:=H A;clear A;by_cases h2:f.name.size=0
  .have av:(f.name.toList==([]:List Ax))=R:=by rw[Hm];simp[h2]
   have HE:jI (af=aF):=H (by rw[HR.out O _ (by simp[ae.out]) rfl rfl,decide_eq_true h2];rfl);clear h2 HR C aj;go_upto_region 6 with fail;refine a3x (ht0:=by rfl) (ht3:=by rfl) (BR:=by rfl) (hl:=HL6.out) (h0:=aA.out) (hsz:=by rfl) (hI0:=λ_=>HI.drew) ?_;intro vs W hF;clear HI;simp only[jH,jQ,jR];have HF:=H hF;clear hF;obtain⟨⟨z0,z1,z2,z3,z4,z5,z6⟩,_⟩:=qI HF.fo;obtain⟨⟨y0,y1,y2,y3,y4,y5,y6⟩,q0,q1,q2,q3,q4,q5,q6⟩:=qI HF.rs;unfold Ei at y0 y1 y2 y3 y4 y5 y6;dsimp only at y0 y1 y2 y3 y4 y5 y6;go_wp2_with fail;rw[BP _ _ N];obtain⟨⟨d0,d1,d2,d3,d4,d5,d6⟩,_⟩:=qI (zl (x:=N) HF.rs);have hbel:=vT (x:=N) HF.ql (kR g);generalize Ej _ _ N=W9 at*;refine jO (v:=nJ #[nI N.cs,nH aF.isSome]) (by simp[kF,Tryz.results91,go_sem,d0,d1,d2,d3,d4,d5,d6,RC.cs]) rfl ⟨?_,hbel⟩;rw[HE.out,HX6.out]
  .have av:(f.name.toList==([]:List Ax))=O:=by rw[Hm];simp[h2]
   have HE:jI (af=V):=H (by rw[HR.out O _ (by simp[ae.out]) rfl rfl,decide_eq_false h2];rfl);exact ZH
end
section
open Go.RowKit
def zU{g:Nat}{w W:M}{a b c:jC}(hB:∃a0 b0 c0,nU W g #[a0,b0,c0] IT)(hb:jD g w W):nU (qa W g a b c) g #[a,b,c] IT/\jD g w (qa W g a b c):=by
 obtain⟨a0,b0,c0,h⟩:=hB;exact⟨((h.set 0 a).set 1 b).set 2 c,((hb.setCell (p:=(Z g 0 V)) nX _).setCell (p:=(Z g 1 V)) nX _).setCell (p:=(Z g 2 V)) nX _⟩
def FB(s:An)(w:M):
  jG jy 227 #[G s] w λe w'=>e=nK (nI #[G s,nH O,u V 0 0])/\jD w.heap.size w w':=by
 obtain⟨g,hg⟩:=og w.heap.size;have E:=nU.new w #[G ⟨#[]⟩,nH O,u V 0 0] IT;have I:=(jE w.heap.size w).alloc (jB _) (nL #[G ⟨#[]⟩,nH O,u V 0 0] IT);rw[hg]at E I|-;have J:=H E;have N:=H I;clear E I;go_in;go_upto_region 1 with fail;have A:=J.out;have C:=N.out;generalize w.alloc _=w1 at*;obtain⟨ai,aj,y2,z0,ak,au⟩:=A.b3;have aa:=H C;have ae:=H A;clear C A;go_wp2_with fail;rw[qy];obtain⟨hB,hb⟩:=zU (a:=G s) (b:=nH O) (c:=u V 0 0) ⟨_,_,_,ae.out⟩ aa.out;obtain⟨af,ag,ah⟩:=hB.a3;refine jO (v:=nI #[G s,nH O,u V 0 0]) (by simp[kF,Tryz.results227,go_sem,af,ag,ah]) rfl ⟨rfl,hb⟩
def Nc(n:Nat)(w:M)(s:An)(hL:∀W,jG jy 202 #[Y nN n] W λe w'=>e=nK (G s)/\jD W.heap.size W w'):
  jG jy 248 #[Y nN n] w λe w'=>e=nK (nI #[G s,nH O,u V 0 0])/\jD w.heap.size w w':=by
 obtain⟨g,hg⟩:=og w.heap.size;have af:=nU.new w #[G ⟨#[]⟩,nH O,u V 0 0] IT;have ag:=(jE w.heap.size w).alloc (jB _) (nL #[G ⟨#[]⟩,nH O,u V 0 0] IT);rw[hg]at af ag|-;have aj:=H af;have ak:=H ag;have au:=H hL;have av:=H (FB s);clear af ag hL;go_in;go_upto_region 1 with fail;have J:=aj.out;have N:=ak.out;generalize w.alloc _=w1 at*;have ah:=H N;have I:=H J;clear N J;go_wp2_with fail;refine(au _).mono ?_;rintro e w2 ⟨rfl,C⟩;have A:=H (Below.blk C I I.lt);have aa:=H (ah.trans (C.mono (by have:=I.lt;omega)));clear C I ah;go_wp2_with fail;refine(av _).mono ?_;rintro e w3 ⟨rfl,E⟩;have ae:=H (Below.blk E A A.lt);have ai:=H (aa.trans (E.mono (by have:=A.lt;omega)));obtain⟨aA,aB,y2,z0,aC,aD⟩:=ae.b3;clear E A aa;go_wp2_with fail;rw[qy];obtain⟨hB,hb⟩:=zU (a:=G s) (b:=nH O) (c:=u V 0 0) ⟨_,_,_,ae.out⟩ ai.out;obtain⟨ax,ay,az⟩:=hB.a3;refine jO (v:=nI #[G s,nH O,u V 0 0]) (by simp[kF,Tryz.results248,go_sem,ax,ay,az]) rfl ⟨rfl,hb⟩
abbrev G9:jX:=258
def Cx(cb:Nat):jC:=.func (.func 145) #[nG (U (Z cb 0 V))] #[]
def El(cb:Nat):jC:=.func (.func 191) #[nG (U (Z cb 0 V))] #[]
def EU(cb:Nat):jC:=.func (.func 146) #[nG (U (Z cb 0 V))] #[]
def DJ(cb:Nat):jC:=.func (.func 189) #[nG (U (Z cb 0 V))] #[]
def Cy(fb:Nat):jC:=.func (.func 209) #[] #[nG (U (Z fb 0 V))]
def Gz(cb lb fb:Nat):Array jC:=#[Cx cb,El cb,EU cb,DJ cb,Cy fb,nG (U (Z lb 0 V))]
structure Cz(cb lb fb:Nat)(r:RS)(l:Nat)(w:M):Prop where
 rd:xg w cb r
 ok:(r.Ok/\r.t.size<=100000)/\l<=1024
 lf:nU w lb #[Y X (l:Nat)] 3
 fr:nU w fb #[nG (U (Z cb 0 V))] 193
 tab:xW w
 ne:cb≠lb/\fb≠cb/\fb≠lb/\0≠cb/\0≠lb
section
variable {cb lb fb l:Nat}{r:RS}{w w':M}
def xY{b q:Nat}(h:xW w)(ao:oW b q w w')(A:0≠b)(C:0≠q):xW w':=by
 have hb:=ao.block 0 h.lt A C;exact UO
def yG{b q:Nat}(h:pX b w w'):oW b q w w':=⟨h.os,h.tape,h.output,h.size,λk hk hb _=>h.block k hk (by simpa using hb)⟩
def Cz.below(h:Cz cb lb fb r l w)(hb:jD w.heap.size w w'):Cz cb lb fb r l w':=
 ⟨Below.blk hb h.rd (nU.lt h.rd),h.ok,Below.blk hb h.lf h.lf.lt,Below.blk hb h.fr h.fr.lt,xY h.tab (oW.of (b:=cb) (q:=lb) hb) h.ne.2.2.2.1 h.ne.2.2.2.2,h.ne⟩
def Cz.turn{r':RS}(h:Cz cb lb fb r l w)(A:pX cb w w')(C:xg w' cb r')(ho:r'.Ok/\r'.t.size<=100000):Cz cb lb fb r' l w':=
 have ao:=yG (q:=lb) A
 ⟨C,⟨ho,h.ok.2⟩,A.blk h.lf (nz h.ne.1),A.blk h.fr h.ne.2.1,xY h.tab ao h.ne.2.2.2.1 h.ne.2.2.2.2,h.ne⟩
def Cz.C8(h:Cz cb lb fb r l w)(m:Nat)(A:m<=1024):Cz cb lb fb r m (w.setCell (Z lb 0 V) (Y X (m:Nat))):=
 ⟨nU.setOther (a:=(Z lb 0 V)) h.rd h.ne.1 _,⟨h.ok.1,A⟩,h.lf.set 0 _,nU.setOther (a:=(Z lb 0 V)) h.fr h.ne.2.2.1 _,xY h.tab ((oW.refl cb lb w).Q6 0 _) h.ne.2.2.2.1 h.ne.2.2.2.2,h.ne⟩
end
def ZI{p:Prop}(h:p:=by
 unfold RS.comp at hf|-;split at hf
 .rename_i h0
  rw[AC h0];dsimp only at hf|-;split at hf;.rename_i h1;exact absurd rfl hf
  .rename_i h1;rw[As h1];exact ko _
 .rename_i h0
  rw[As h0];exact ko _):p:=h
def Ju(cb lb fb l:Nat)(r:RS)(most:Nat)(w:M)(h:Cz cb lb fb r l w)(N:most<=65536):
  jG jy 209 #[Y X most,nG (U (Z fb 0 V))] w λe w'=>e=nK (Y X (r.comp most).2)/\Cz cb lb fb (r.comp most).1 l w'/\pX cb w w':=by
 have c0:=h.fr.c0;have E:=H (WR cb r most w h.ok.1.1 h.rd K h.tab h.ne.2.2.2.1);have J:(r.comp most).2<=65536:=by
  by_cases hf:(r.comp most).1.f=0;.have:=BN hf;omega
  .exact ZI
 have I:=H (λw' (A:pX cb w w') C=>h.turn A C ⟨h.ok.1.1.comp most,by rw[Sk];exact h.ok.1.2⟩);clear h;generalize r.comp most=y at*;obtain⟨r2,n⟩:=y;dsimp only at*;go_in;go_wp2_with fail;refine E.mono ?_;rintro e w2 ⟨rfl,A,C⟩;go_wp2;go_returns;exact⟨rfl,I w2 A C,A⟩
abbrev sN:jX:=63
def UX{w:M}{Q:Nat->Prop}{oa:Option kW}{n cap:Nat}{s:List (nS TL)}(h:oD.om w Q (u oa n cap) s){i:Nat}{x:nS TL}(A:s[i]? =U x):
  ∃b off ou cu,oa=U (Z b off V)/\b<w.heap.size/\Q b/\w.cell? (Z b (off+i*4) V)=U (Y X x.lab.kind)/\w.cell? (Z b (off+i*4+1) V)=U (Y X x.lab.size)/\
   w.cell? (Z b (off+i*4+2) V)=U (u ou x.sub.length cu)/\w.cell? (Z b (off+i*4+3) V)=U (Y X x.lab.tail)/\oD.om w Q (u ou x.sub.length cu) x.sub:=by
 obtain⟨N,C,E,aa,ae,I⟩:=Shape.om.get h;cases E;obtain⟨b,off,ao,e,hb,J,ho,hc,hs⟩:=I i x A;obtain⟨ou,cu,rfl,_⟩:=hs;exact⟨b,off,ou,cu,e,hb,J,by simpa [oD,kK]using hc 0 nT,by simpa [oD,kK]using hc 1 nT,by simpa [oD,kK]using hc 2 nT,by simpa [oD,kK]using hc 3 nT,⟨ou,cu,rfl,‹_›⟩⟩
def FC(Q:Nat->Prop)(y:nS TL)(b:Bool)(w:M)(e:Ending)(w':M):Prop:=
 ∃ou cu,e=nK (nJ #[nI #[Y X y.lab.kind,Y X y.lab.size,u ou y.sub.length cu,Y X y.lab.tail],nH b])/\oD.om w' Q (u ou y.sub.length cu) y.sub/\jD w.heap.size w w'
def zV(w:M)(k:Nat)(a b c d:jC):M:=(((w.setCell (Z k 0 V) a).setCell (Z k 1 V) b).setCell (Z k 2 V) c).setCell (Z k 3 V) d
def uB(w:M)(k:Nat)(a b c d:jC):(((w.setCell (Z k 0 V) a).setCell (Z k 1 V) b).setCell (Z k 2 V) c).setCell (Z k 3 V) d=zV w k a b c d:=rfl
def uJ{B k:Nat}{w0 w:M}{a b c d:jC}(h:jD B w0 w)(hk:B<=k):jD B w0 (zV w k a b c d):=
 (((h.setCell (p:=(Z k 0 V)) hk _).setCell (p:=(Z k 1 V)) hk _).setCell (p:=(Z k 2 V)) hk _).setCell (p:=(Z k 3 V)) hk _
def sj{w:M}{k:Nat}{a b c d a0 b0 c0 A:jC}(h:nU w k #[a0,b0,c0,A] t):nU (zV w k a b c d) k #[a,b,c,d] t:=(((h.set 0 a).set 1 b).set 2 c).set 3 d
def oN{W:M}{k:Nat}{a b c d:jC}(h:nU W k #[a,b,c,d] t):(W.cell? (Z k 0 V)=U a/\W.cell? (Z k 1 V)=U b/\W.cell? (Z k 2 V)=U c/\W.cell? (Z k 3 V)=U d)/\
  W.frozen? (Z k 0 V)=O/\W.frozen? (Z k 1 V)=O/\W.frozen? (Z k 2 V)=O/\W.frozen? (Z k 3 V)=O:=⟨⟨h.cell 0,h.cell 1,h.cell 2,h.cell 3⟩,h.free 0,h.free 1,h.free 2,h.free 3⟩
def ZJ{w:M}{g:Nat}(hg:w.heap.size=g):∀W,w.alloc (nL #[Y X 0,Y X 0,u V 0 0,Y X 0] sN)=W->jD g w W/\nU W g #[Y X 0,Y X 0,u V 0 0,Y X 0] sN:=by
 rintro W rfl;subst hg;exact⟨(jE _ _).alloc (jB _) _,nU.new w _ _⟩
def a3y(tb i:Nat)(a:TL)(y:nS TL)(ot:Option kW)(n ct:Nat)(s:List (nS TL))(Q:Nat->Prop)(w:M)(ht:nU w tb #[Y X a.kind,Y X a.size,u ot n ct,Y X a.tail] sN)(hs:oD.om w Q (u ot n ct) s)(hy:s[0]? =U y):
  jG jy 250 #[Y X i,nG (U (Z tb 0 V))] w (FC Q y R w):=by
 obtain⟨aA,ah,ai,aB,aC,_⟩:=Shape.om.get hs;have hlen:0<s.length:=(lu.1 hy).1;cases ai;obtain⟨b,off,ou,cu,rfl,hb,aj,c0,c1,c2,c3,C⟩:=UX hs hy;rw[Nat.zero_mul,nk]at c0 c1 c2 c3;obtain⟨g,hg⟩:=og w.heap.size;have ae:=H (ZJ hg);have A:b<g:=hg▸hb;have af:tb<g:=hg▸ht.lt;have aa:=H (λW (h:jD g w W)=>(Shape.om.below C (hg.symm▸h):oD.om W Q (u ou y.sub.length cu) y.sub));have ag:jI (∀W,jD g w W->(W.cell? (Z tb 2 V)=U (u (U (Z b off V)) s.length ct))/\W.cell? (Z b off V)=U (Y X y.lab.kind)/\W.cell? (Z b (off+1) V)=U (Y X y.lab.size)/\W.cell? (Z b (off+2) V)=U (u ou y.sub.length cu)/\W.cell? (Z b (off+3) V)=U (Y X y.lab.tail)):=H λW h=>
  ⟨(h.cell (p:=(Z tb 2 V)) af).trans (ht.cell 2),(h.cell (p:=(Z b off V)) A).trans c0,(h.cell (p:=(Z b (off+1) V)) A).trans c1,(h.cell (p:=(Z b (off+2) V)) A).trans c2,(h.cell (p:=(Z b (off+3) V)) A).trans c3⟩
 unfold FC;rw[hg];clear ht hs C c0 c1 c2 c3 hb aj;generalize s.length=N at*;generalize y.sub.length=aq at*;go_in;go_upto_region 1 with fail;obtain⟨E,I⟩:=ae.out _ rfl;generalize w.alloc _=w1 at*;obtain⟨aD,e1,e2,e3,e4⟩:=ag.out _ E;obtain⟨⟨aF,aG,y2,aH⟩,aI,aJ,aK,aL⟩:=oN I;have ak:=H E;have au:=H I;clear ae E I ag;go_wp2_with fail;rw[uB];obtain⟨⟨av,ax,ay,az⟩,_⟩:=oN (sj (a:=Y X y.lab.kind) (b:=Y X y.lab.size) (c:=u ou aq cu) (d:=Y X y.lab.tail) au);have J:=uJ (a:=Y X y.lab.kind) (b:=Y X y.lab.size) (c:=u ou aq cu) (d:=Y X y.lab.tail) ak (jB g);refine jO (v:=nJ #[nI #[Y X y.lab.kind,Y X y.lab.size,u ou aq cu,Y X y.lab.tail],nH R]) (by simp[kF,Tryz.results250,go_sem,av,ax,ay,az]) rfl ⟨ou,cu,rfl,aa _ J,J⟩
structure Ol(g tb rb cb lb fb:Nat)(r:RS)(a:TL)(ot:Option kW)(n ct:Nat)(w0:M)(k z:Int)(ou:Option kW)(nu cu:Nat)(tl:Int)(W:M):Prop where
 tb:nU W tb #[Y X a.kind,Y X a.size,u ot n ct,Y X a.tail] sN
 rb:nU W rb (Gz cb lb fb) G9
 rd:xg W cb r
 rs:nU W g #[Y X k,Y X z,u ou nu cu,Y X tl] sN
 ql:jD g w0 W
def Ol.drewN{g tb rb cb lb fb:Nat}{r:RS}{a:TL}{ot:Option kW}{n ct:Nat}{w0:M}{k z:Int}{ou:Option kW}{nu cu:Nat}{tl:Int}{W:M}(h:Ol g tb rb cb lb fb r a ot n ct w0 k z ou nu cu tl W)(m:Nat):Ol g tb rb cb lb fb r a ot n ct w0 k z ou nu cu tl (W.drewN m):=
 ⟨h.tb,h.rb,h.rd,h.rs,⟨h.ql.os,h.ql.tape,h.ql.output,h.ql.size,h.ql.block⟩⟩
def Ol.drew{g tb rb cb lb fb:Nat}{r:RS}{a:TL}{ot:Option kW}{n ct:Nat}{w0:M}{k z:Int}{ou:Option kW}{nu cu:Nat}{tl:Int}{W:M}(h:Ol g tb rb cb lb fb r a ot n ct w0 k z ou nu cu tl W):Ol g tb rb cb lb fb r a ot n ct w0 k z ou nu cu tl W.drew:=
 ⟨h.tb,h.rb,h.rd,h.rs,⟨h.ql.os,h.ql.tape,h.ql.output,h.ql.size,h.ql.block⟩⟩
def Ol.put{g tb rb cb lb fb:Nat}{r:RS}{a:TL}{ot:Option kW}{n ct:Nat}{w0:M}{k z J N:Int}{ou A:Option kW}{nu cu C E:Nat}{tl I:Int}{W:M}(h:Ol g tb rb cb lb fb r a ot n ct w0 k z ou nu cu tl W)(aa:tb<g)(ae:rb<g)(af:cb<g):
  Ol g tb rb cb lb fb r a ot n ct w0 J N A C E I (zV W g (Y X J) (Y X N) (u A C E) (Y X I)):=
 have o:∀{c:Nat}{cs:Array jC}{t:jX},nU W c cs t->c≠g->nU (zV W g (Y X J) (Y X N) (u A C E) (Y X I)) c cs t:=λh hn=>
  (((h.setOther (a:=(Z g 0 V)) hn _).setOther (a:=(Z g 1 V)) hn _).setOther (a:=(Z g 2 V)) hn _).setOther (a:=(Z g 3 V)) hn _
 ⟨o h.tb K,o h.rb K,o h.rd K,sj h.rs,uJ h.ql (jB g)⟩
noncomputable def Hw:List lJ:=cO (cL (cR (cB Tryz.f251)))
section
variable (g tb rb cb lb fb:Nat)(r:RS)(ta:TL)(bo off n ct:Nat)(w0:M)(ix:Nat)(k z:Int)(ou:Option kW)(nu cu:Nat)(tl:Int)
def uC:Nat->jC
 |0=> nG (U (Z tb 2 V))
 |1=> u (U (Z bo off V)) n ct
 |2=> Y X ix
 |3=> nG (U (Z bo (off+ix*4) V))
 |4=> nI #[Y X k,Y X z,u ou nu cu,Y X tl]
 |5=> Y X ix
 |6=> nG (U (Z tb 2 V))
 |7=> u (U (Z bo off V)) n ct
 |8=> Y X n
 |9=> nG (U (Z tb 3 V))
 |10=> Y X ta.tail
 |11=> Y X ((n:Int) - ta.tail)
 |12=> nH R
 |13=> nH R
 |18=> nH R
 |20=> nH R
 |_=>ku
structure a8S(D:Nat->Bool)(vs:Nat->jC)(w:M):Prop where
 oU:Ol g tb rb cb lb fb r ta (U (Z bo off V)) n ct w0 (if(D 19)=R then k else 0) (if(D 19)=R then z else 0) (if(D 19)=R then ou else V) (if(D 19)=R then nu else 0) (if(D 19)=R then cu else 0) (if(D 19)=R then tl else 0) w
 val:∀j,(R)=R->D j=R->vs j=uC tb ta bo off n ct ix k z ou nu cu tl j
variable {g tb rb cb lb fb r ta bo off n ct w0 ix k z ou nu cu tl}
def ZK{p:Prop}(h:p:=by
 have hW:=hI.oU;rw[hd]at hW;obtain⟨⟨y0,y1,y2,y3⟩,q0,q1,q2,q3⟩:=oN hW.rs;go_simp;rw[uB];refine hK ku _ _ rfl ⟨?_,vM hI.val⟩;rw[oH];exact hW.put hlt.1 hlt.2.1 hlt.2.2):p:=h
def a3z{id:Nat}{Q:Exit->Act->M->Prop}{a0:Act}{N:M}(ht1:a0.tmps.getD 1 ku=nG (U (Z tb 0 V)))(ht0:a0.tmps.getD 0 ku=Y X ix)(hin:ix<n)(hn:n<=100000)(hel:∀W,jD g w0 W->W.cell? (Z bo (off+ix*4) V)=U (Y X k)/\W.cell? (Z bo (off+ix*4+1) V)=U (Y X z)/\W.cell? (Z bo (off+ix*4+2) V)=U (u ou nu cu)/\W.cell? (Z bo (off+ix*4+3) V)=U (Y X tl))(htl:0<=ta.tail/\ta.tail<=100000)(hb:At ((ix:Int)<(n:Int) - ta.tail)=R)(ht2:a0.tmps.getD 2 ku=nG (U (Z rb 0 V)))(GZ:a0.tmps.getD 4 ku=nG (U (Z g 0 V)))(hlt:tb<g/\rb<g/\cb<g)(hsz:a0.tmps.size=25)(hI0:∀vs:Nat->jC,(λw=>Ol g tb rb cb lb fb r ta (U (Z bo off V)) n ct w0 (if O=R then k else 0) (if O=R then z else 0) (if O=R then ou else V) (if O=R then nu else 0) (if O=R then cu else 0) (if O=R then tl else 0) w) N.drew)(aa:∀(vs:Nat->jC) (w:M),Ol g tb rb cb lb fb r ta (U (Z bo off V)) n ct w0 (if R=R then k else 0) (if R=R then z else 0) (if R=R then ou else V) (if R=R then nu else 0) (if R=R then cu else 0) (if R=R then tl else 0) w->Q .normal {a0 with tmps:=((((((((((((((((((((a0.tmps.setIfInBounds 6 (nG (U (Z tb 2 V)))).setIfInBounds 7 (u (U (Z bo off V)) n ct)).setIfInBounds 8 (Y X ix)).setIfInBounds 9 (nG (U (Z bo (off+ix*4) V)))).setIfInBounds 10 (nI #[Y X k,Y X z,u ou nu cu,Y X tl])).setIfInBounds 11 (Y X ix)).setIfInBounds 12 (nG (U (Z tb 2 V)))).setIfInBounds 13 (u (U (Z bo off V)) n ct)).setIfInBounds 14 (Y X n)).setIfInBounds 15 (nG (U (Z tb 3 V)))).setIfInBounds 16 (Y X ta.tail)).setIfInBounds 17 (Y X ((n:Int) - ta.tail))).setIfInBounds 18 (nH R)).setIfInBounds 19 (nH R)).setIfInBounds 20 (ku)).setIfInBounds 21 (ku)).setIfInBounds 22 (ku)).setIfInBounds 23 (ku)).setIfInBounds 24 (nH R)).setIfInBounds 5 (nH R))} w):
  (kT id Hw.toArray R).wp jy Q a0 N:=by
 refine oF 21 25 (a8S g tb rb cb lb fb r ta bo off n ct w0 ix k z ou nu cu tl) nV hsz nV (.inl rfl) nV ?_ ?_ ?_;.exact q9
 .refine sM λA ak=> ?_
  clear hI0 aa hsz;replace ht1:=H ht1;replace ht0:=H ht0;replace hin:=H hin;replace hn:=H hn;replace hel:=H hel;replace htl:=H htl;replace hb:=H hb;replace ht2:=H ht2;replace GZ:=H GZ;replace hlt:=H hlt;dsimp+instances only[Hw,cO,cL,cR,cB,Tryz.f251];simp only[jY,kJ,rZ];refine⟨?_,?_,?_,?_,?_,?_,?_,?_,?_,?_,?_,?_,?_,?_,?_,?_,?_,?_,?_,?_,?_,trivial⟩<;>(intro D vs a w am hI hd E ay C hK;subst ak;dsimp+instances only[Hw,cO,cL,cR,cB,Tryz.f251]);have e1:=(C 1 nT).trans ht1.out;rotate_left;have au:=fe C hI.val E 6 0;simp only[uC]at au;have c0:=hI.oU.tb.c2;rotate_left;have av:=(C 0 nT).trans ht0.out;rotate_left;have hin:=hin.out;have hn:=hn.out;have aH:=fe C hI.val E 7 1;have aI:=fe C hI.val E 8 2;rotate_left;have hel:=hel.out;have ax:=fe C hI.val E 9 3;simp only[uC]at ax;obtain⟨c0,c1,c2,c3⟩:=hel w hI.oU.ql;rotate_left;have av:=(C 0 nT).trans ht0.out;rotate_left;have e1:=(C 1 nT).trans ht1.out;rotate_left;have ae:=fe C hI.val E 12 6;simp only[uC]at ae;have c0:=hI.oU.tb.c2;rotate_left;have az:=fe C hI.val E 13 7;rotate_left;have e1:=(C 1 nT).trans ht1.out;rotate_left;have af:=fe C hI.val E 15 9;simp only[uC]at af;have c0:=hI.oU.tb.c3;rotate_left;have htl:=htl.out;have hn:=hn.out;have ag:=fe C hI.val E 14 8;have ah:=fe C hI.val E 16 10;simp only[uC]at ag ah;have aA:IntKind.i64.wrap ((n:Int) - ta.tail)=(n:Int) - ta.tail:=IntWalk.i64_in _ K;rotate_left;have hb:=hb.out;have aB:=fe C hI.val E 11 5;have aC:=fe C hI.val E 17 11;rotate_left;have aD:=fe C hI.val E 18 12;rotate_left;have I:=fe C hI.val E 19 13;simp only[uC]at I;have J:=uX I;rotate_left;have I:=fe C hI.val E 19 13;simp only[uC]at I;have J:=uX I;rotate_left;have I:=fe C hI.val E 19 13;simp only[uC]at I;have J:=uX I;rotate_left;have I:=fe C hI.val E 19 13;simp only[uC]at I;have J:=uX I;rotate_left;have I:=fe C hI.val E 19 13;have aF:=fe C hI.val E 23 17;rotate_left
  .have hlt:=hlt.out
   have e4:=(C 4 nT).trans GZ.out;have ai:=fe C hI.val E 10 4;simp only[uC]at ai;exact ZK
  have aG:=fe C hI.val E 24 18;rotate_left
  all_goals
   try simp only[uC]at*
   go_simp;exact hK _ _ _ rfl ⟨hI.oU,vM hI.val⟩
 .intro D vs w aj hI
  have E:=hI.oU;rw[aj 19 nT]at E;have q:=aa vs w E;rw[pE hI.val aj];dsimp+instances only[Hw,cO,cL,cR,cB,Tryz.f251];exact q8
end
noncomputable def Hy:List lJ:=cO (cL (cR (cB Tryz.f251)))
section
variable (g tb rb cb lb fb:Nat)(r:RS)(ta:TL)(bo off n ct:Nat)(w0:M)(ix:Nat)(k z:Int)(ou:Option kW)(nu cu:Nat)(tl:Int)
def tF:Nat->jC
 |0=> nG (U (Z tb 2 V))
 |1=> u (U (Z bo off V)) n ct
 |2=> Y X ix
 |3=> nG (U (Z bo (off+ix*4) V))
 |4=> nI #[Y X k,Y X z,u ou nu cu,Y X tl]
 |5=> Y X ix
 |6=> nG (U (Z tb 2 V))
 |7=> u (U (Z bo off V)) n ct
 |8=> Y X n
 |9=> nG (U (Z tb 3 V))
 |10=> Y X ta.tail
 |11=> Y X ((n:Int) - ta.tail)
 |12=> nH O
 |13=> nH O
 |14=> nG (U (Z rb 3 V))
 |15=>DJ cb
 |16=> Y X ((r.t.size:Int) - r.p)
 |17=> nH (At (r.p<r.t.size))
 |18=> nH (At (r.p<r.t.size))
 |20=> nH (At (r.p<r.t.size))
 |_=>ku
structure ZL(D:Nat->Bool)(vs:Nat->jC)(w:M):Prop where
 oU:Ol g tb rb cb lb fb r ta (U (Z bo off V)) n ct w0 (if(D 19)=R then k else 0) (if(D 19)=R then z else 0) (if(D 19)=R then ou else V) (if(D 19)=R then nu else 0) (if(D 19)=R then cu else 0) (if(D 19)=R then tl else 0) w
 val:∀j,(R)=R->D j=R->vs j=tF tb rb cb r ta bo off n ct ix k z ou nu cu tl j
variable {g tb rb cb lb fb r ta bo off n ct w0 ix k z ou nu cu tl}
def ZM{D:Nat->Bool}{vs:Nat->jC}{w w':M}(h:ZL g tb rb cb lb fb r ta bo off n ct w0 ix k z ou nu cu tl D vs w){i:Nat}(hi:i≠19)(A:Ol g tb rb cb lb fb r ta (U (Z bo off V)) n ct w0 (if(D 19)=R then k else 0) (if(D 19)=R then z else 0) (if(D 19)=R then ou else V) (if(D 19)=R then nu else 0) (if(D 19)=R then cu else 0) (if(D 19)=R then tl else 0) w->Ol g tb rb cb lb fb r ta (U (Z bo off V)) n ct w0 (if(D 19)=R then k else 0) (if(D 19)=R then z else 0) (if(D 19)=R then ou else V) (if(D 19)=R then nu else 0) (if(D 19)=R then cu else 0) (if(D 19)=R then tl else 0) w'):ZL g tb rb cb lb fb r ta bo off n ct w0 ix k z ou nu cu tl (Aw D i) (Ay vs i (tF tb rb cb r ta bo off n ct ix k z ou nu cu tl i)) w':=by
 refine⟨?_,vM h.val⟩;rw[nZ D (show 19≠i by omega)];exact A h.oU
def a3A{id:Nat}{Q:Exit->Act->M->Prop}{a0:Act}{aa:M}(ht1:a0.tmps.getD 1 ku=nG (U (Z tb 0 V)))(ht0:a0.tmps.getD 0 ku=Y X ix)(hin:ix<n)(hn:n<=100000)(hel:∀W,jD g w0 W->W.cell? (Z bo (off+ix*4) V)=U (Y X k)/\W.cell? (Z bo (off+ix*4+1) V)=U (Y X z)/\W.cell? (Z bo (off+ix*4+2) V)=U (u ou nu cu)/\W.cell? (Z bo (off+ix*4+3) V)=U (Y X tl))(htl:0<=ta.tail/\ta.tail<=100000)(hb:At ((ix:Int)<(n:Int) - ta.tail)=O)(ht2:a0.tmps.getD 2 ku=nG (U (Z rb 0 V)))(hok:r.Ok)(GZ:a0.tmps.getD 4 ku=nG (U (Z g 0 V)))(hlt:tb<g/\rb<g/\cb<g)(hsz:a0.tmps.size=25)(hI0:∀vs:Nat->jC,(λw=>Ol g tb rb cb lb fb r ta (U (Z bo off V)) n ct w0 (if O=R then k else 0) (if O=R then z else 0) (if O=R then ou else V) (if O=R then nu else 0) (if O=R then cu else 0) (if O=R then tl else 0) w) aa.drew)(ae:∀(vs:Nat->jC) (w:M),Ol g tb rb cb lb fb r ta (U (Z bo off V)) n ct w0 (if R=R then k else 0) (if R=R then z else 0) (if R=R then ou else V) (if R=R then nu else 0) (if R=R then cu else 0) (if R=R then tl else 0) w->Q .normal {a0 with tmps:=((((((((((((((((((((a0.tmps.setIfInBounds 6 (nG (U (Z tb 2 V)))).setIfInBounds 7 (u (U (Z bo off V)) n ct)).setIfInBounds 8 (Y X ix)).setIfInBounds 9 (nG (U (Z bo (off+ix*4) V)))).setIfInBounds 10 (nI #[Y X k,Y X z,u ou nu cu,Y X tl])).setIfInBounds 11 (Y X ix)).setIfInBounds 12 (nG (U (Z tb 2 V)))).setIfInBounds 13 (u (U (Z bo off V)) n ct)).setIfInBounds 14 (Y X n)).setIfInBounds 15 (nG (U (Z tb 3 V)))).setIfInBounds 16 (Y X ta.tail)).setIfInBounds 17 (Y X ((n:Int) - ta.tail))).setIfInBounds 18 (nH O)).setIfInBounds 19 (nH O)).setIfInBounds 20 (nG (U (Z rb 3 V)))).setIfInBounds 21 (DJ cb)).setIfInBounds 22 (Y X ((r.t.size:Int) - r.p))).setIfInBounds 23 (nH (At (r.p<r.t.size)))).setIfInBounds 24 (nH (At (r.p<r.t.size)))).setIfInBounds 5 (nH (At (r.p<r.t.size))))} w):
  (kT id Hy.toArray R).wp jy Q a0 aa:=by
 refine oF 21 25 (ZL g tb rb cb lb fb r ta bo off n ct w0 ix k z ou nu cu tl) nV hsz nV (.inl rfl) nV ?_ ?_ ?_;.exact q9
 .refine sM λA ax=> ?_
  clear hI0 ae hsz;replace ht1:=H ht1;replace ht0:=H ht0;replace hin:=H hin;replace hn:=H hn;replace hel:=H hel;replace htl:=H htl;replace hb:=H hb;replace ht2:=H ht2;replace hok:=H hok;replace GZ:=H GZ;replace hlt:=H hlt;dsimp+instances only[Hy,cO,cL,cR,cB,Tryz.f251];simp only[jY,kJ,rZ];refine⟨?_,?_,?_,?_,?_,?_,?_,?_,?_,?_,?_,?_,?_,?_,?_,?_,?_,?_,?_,?_,?_,trivial⟩<;>(intro D vs a w am hI hd E aC C hK;subst ax;dsimp+instances only[Hy,cO,cL,cR,cB,Tryz.f251]);have e1:=(C 1 nT).trans ht1.out;rotate_left;have ay:=fe C hI.val E 6 0;simp only[tF]at ay;have c0:=hI.oU.tb.c2;rotate_left;have az:=(C 0 nT).trans ht0.out;rotate_left;have hin:=hin.out;have hn:=hn.out;have aL:=fe C hI.val E 7 1;have aM:=fe C hI.val E 8 2;rotate_left;have hel:=hel.out;have aA:=fe C hI.val E 9 3;simp only[tF]at aA;obtain⟨c0,c1,c2,c3⟩:=hel w hI.oU.ql;rotate_left;have az:=(C 0 nT).trans ht0.out;rotate_left;have e1:=(C 1 nT).trans ht1.out;rotate_left;have af:=fe C hI.val E 12 6;simp only[tF]at af;have c0:=hI.oU.tb.c2;rotate_left;have aD:=fe C hI.val E 13 7;rotate_left;have e1:=(C 1 nT).trans ht1.out;rotate_left;have ag:=fe C hI.val E 15 9;simp only[tF]at ag;have c0:=hI.oU.tb.c3;rotate_left;have htl:=htl.out;have hn:=hn.out;have ah:=fe C hI.val E 14 8;have ai:=fe C hI.val E 16 10;simp only[tF]at ah ai;have aF:IntKind.i64.wrap ((n:Int) - ta.tail)=(n:Int) - ta.tail:=IntWalk.i64_in _ K;rotate_left;have hb:=hb.out;have aG:=fe C hI.val E 11 5;have aH:=fe C hI.val E 17 11;rotate_left;have aI:=fe C hI.val E 18 12;rotate_left;have e2:=(C 2 nT).trans ht2.out;have I:=fe C hI.val E 19 13;simp only[tF]at I;have J:=uX I;rotate_left;have aj:=fe C hI.val E 20 14;have I:=fe C hI.val E 19 13;simp only[tF]at aj I;have J:=uX I;have c0:=hI.oU.rb.cell 3;simp only[Gz,jV,jS,jT]at c0;rotate_left
  .have hok:=hok.out
   have N:=fe C hI.val E 21 15;have I:=fe C hI.val E 19 13;simp only[tF]at N I;have J:=uX I;have aB:=Gg cb r w hok hI.oU.rd;unfold DJ at N;go_simp;refine aB.mono ?_;rintro e aN ⟨rfl,m,rfl⟩;exact hK (tF tb rb cb r ta bo off n ct ix k z ou nu cu tl 16) _ _ rfl (ZM hI (i:=16) nT λh=>h.drewN m)
  have ak:=fe C hI.val E 22 16;have I:=fe C hI.val E 19 13;simp only[tF]at ak I;have J:=uX I;rotate_left;have I:=fe C hI.val E 19 13;have aJ:=fe C hI.val E 23 17;rotate_left
  .have hlt:=hlt.out
   have e4:=(C 4 nT).trans GZ.out;have au:=fe C hI.val E 10 4;simp only[tF]at au;exact ZK
  have aK:=fe C hI.val E 24 18;rotate_left
  all_goals
   try simp only[tF]at*
   go_simp;exact hK _ _ _ rfl ⟨hI.oU,vM hI.val⟩
 .intro D vs w av hI
  have E:=hI.oU;rw[av 19 nT]at E;have q:=ae vs w E;rw[pE hI.val av];dsimp+instances only[Hy,cO,cL,cR,cB,Tryz.f251];exact q8
end
def a3B(tb rb cb lb fb ix:Nat)(r:RS)(ta:TL)(y:nS TL)(ot:Option kW)(n ct:Nat)(s:List (nS TL))(Q:Nat->Prop)(w:M)(ht:nU w tb #[Y X ta.kind,Y X ta.size,u ot n ct,Y X ta.tail] sN)(aa:nU w rb (Gz cb lb fb) G9)(C:xg w cb r)(hok:r.Ok)(hs:oD.om w Q (u ot n ct) s)(hy:s[ix]? =U y)(hn:s.length<=100000)(htl:0<=ta.tail/\ta.tail<=100000):
  jG jy 251 #[Y X ix,nG (U (Z tb 0 V)),nG (U (Z rb 0 V))] w (FC Q y (At ((ix:Int)<s.length - ta.tail)||At (r.p<r.t.size)) w):=by
 obtain⟨aC,az,aA,aD,aF,_⟩:=Shape.om.get hs;have hlen:ix<s.length:=(lu.1 hy).1;cases aA;obtain⟨b,off,ou,cu,rfl,hb,aB,c0,c1,c2,c3,I⟩:=UX hs hy;obtain⟨g,hg⟩:=og w.heap.size;have ax:=H (ZJ hg);have A:b<g:=hg▸hb;have hlt:tb<g/\rb<g/\cb<g:=⟨hg▸ht.lt,hg▸aa.lt,hg▸nU.lt C⟩;have J:=H (λW (h:jD g w W)=>(Shape.om.below I (hg.symm▸h):oD.om W Q (u ou y.sub.length cu) y.sub));have ae:jI (∀W,jD g w W->W.cell? (Z b (off+ix*4) V)=U (Y X y.lab.kind)/\W.cell? (Z b (off+ix*4+1) V)=U (Y X y.lab.size)/\W.cell? (Z b (off+ix*4+2) V)=U (u ou y.sub.length cu)/\W.cell? (Z b (off+ix*4+3) V)=U (Y X y.lab.tail)):=H λW h=>
  ⟨(h.cell (p:=(Z b (off+ix*4) V)) A).trans c0,(h.cell (p:=(Z b (off+ix*4+1) V)) A).trans c1,(h.cell (p:=(Z b (off+ix*4+2) V)) A).trans c2,(h.cell (p:=(Z b (off+ix*4+3) V)) A).trans c3⟩
 have ay:jI (∀W,jD g w W->nU W g #[Y X 0,Y X 0,u V 0 0,Y X 0] sN->Ol g tb rb cb lb fb r ta (U (Z b off V)) s.length ct w 0 0 V 0 0 0 W):=H λW h hk=>
  have ai:jD w.heap.size w W:=hg.symm▸h
  ⟨Below.blk ai ht ht.lt,Below.blk ai aa aa.lt,Below.blk ai C (nU.lt C),hk,h⟩
 unfold FC;rw[hg];clear ht aa C hs I c0 c1 c2 c3 hb aB A;generalize y.sub.length=aq at*;generalize s.length=N at*;obtain⟨b0,hb0⟩:=og (At ((ix:Int)<(N:Int) - ta.tail));rw[hb0];have af:=H hb0;clear hb0;go_in;go_upto_region 1 with fail;obtain⟨ag,ah⟩:=ax.out _ rfl;generalize w.alloc _=w1 at*;have E:=H (ay _ ag ah);clear ax ag ah ay;cases b0 with
 |true=>
  refine a3z (g:=g) (tb:=tb) (rb:=rb) (cb:=cb) (lb:=lb) (fb:=fb) (r:=r) (ta:=ta) (bo:=b) (off:=off) (n:=N) (ct:=ct) (w0:=w) (ix:=ix) (k:=y.lab.kind) (z:=y.lab.size) (ou:=ou) (nu:=aq) (cu:=cu) (tl:=y.lab.tail) (ht0:=by rfl) (ht1:=by rfl) (ht2:=by rfl) (GZ:=by rfl) (hsz:=by rfl) (hI0:=λ_=>E.drew) (hin:=hlen) (hn:=hn) (hel:=ae.out) (htl:=htl) (hb:=af.out) (hlt:=hlt) ?_;intro vs W hI;simp only[if_true]at hI;clear E;simp only[jH,jQ,jR];obtain⟨⟨aj,ak,au,av⟩,_⟩:=oN hI.rs;go_wp2_with fail;refine jO (v:=nJ #[nI #[Y X y.lab.kind,Y X y.lab.size,u ou aq cu,Y X y.lab.tail],nH R]) (by simp[kF,Tryz.results251,go_sem,aj,ak,au,av]) rfl ?_;exact⟨ou,cu,rfl,J _ hI.ql,hI.ql⟩
 |false=>
  refine a3A (g:=g) (tb:=tb) (rb:=rb) (cb:=cb) (lb:=lb) (fb:=fb) (r:=r) (ta:=ta) (bo:=b) (off:=off) (n:=N) (ct:=ct) (w0:=w) (ix:=ix) (k:=y.lab.kind) (z:=y.lab.size) (ou:=ou) (nu:=aq) (cu:=cu) (tl:=y.lab.tail) (ht0:=by rfl) (ht1:=by rfl) (ht2:=by rfl) (GZ:=by rfl) (hsz:=by rfl) (hI0:=λ_=>E.drew) (hin:=hlen) (hn:=hn) (hel:=ae.out) (htl:=htl) (hb:=af.out) (hlt:=hlt) (hok:=hok) ?_;intro vs W hI;simp only[if_true]at hI;clear E;simp only[jH,jQ,jR];obtain⟨⟨aj,ak,au,av⟩,_⟩:=oN hI.rs;go_wp2_with fail;refine jO (v:=nJ #[nI #[Y X y.lab.kind,Y X y.lab.size,u ou aq cu,Y X y.lab.tail],nH (At (r.p<r.t.size))]) (by simp[kF,Tryz.results251,go_sem,aj,ak,au,av]) rfl ?_;exact⟨ou,cu,rfl,J _ hI.ql,hI.ql⟩
section
variable {β:Type}{f:β->List jC}{k:Nat}
def qd(f:β->List jC)(k:Nat)(w:M)(B:Nat)(t:jX)(v:jC)(L:List β):Prop:=w.ownsRow B t k v L.length (L.flatMap f)
def PR(hk:∀y,(f y).length=k)(L:List β):(L.flatMap f).length=L.length*k:=by
 induction L with
 |nil=>simp
 |cons y L A=>rw[List.flatMap_cons,jK,A,hk,j4,lT];omega
def a3C(hk:∀y,(f y).length=k){L:List β}{i:Nat}{y:β}(hy:L[i]? =U y){j:Nat}(C:j<k):(L.flatMap f)[i*k+j]? =(f y)[j]? :=by
 induction L generalizing i with
 |nil=>simp at hy
 |cons z L A=>
  rw[List.flatMap_cons];cases i with
  |zero=>
   simp at hy;subst hy;rw[l6 (by rw[hk];omega)];simp
  |succ i=>
   simp at hy;rw[mZ (by rw[hk,lT];omega),hk,show(i+1)*k+j - k=i*k+j by rw[lT];omega];exact A hy
def ZN(hk:∀y,(f y).length=k){L:List β}{i:Nat}{y z:β}(hy:L[i]? =U y){j:Nat}{x:jC}(E:j<k)(A:f z=(f y).set j x):(L.set i z).flatMap f=(L.flatMap f).set (i*k+j) x:=by
 induction L generalizing i with
 |nil=>simp at hy
 |cons a L C=>
  cases i with
  |zero=>
   simp at hy;subst hy;rw[jQ,List.flatMap_cons,List.flatMap_cons,A,List.set_append_left _ _ (by rw[hk];omega)];simp
  |succ i=>
   simp at hy;rw[jR,List.flatMap_cons,List.flatMap_cons,C hy,List.set_append_right _ _ (by rw[hk,lT];omega),hk,show(i+1)*k+j - k=i*k+j by rw[lT];omega]
def WX(hk:∀y,(f y).length=k)(L:List β)(n:Nat):(L.take n).flatMap f=(L.flatMap f).take (n*k):=by
 induction L generalizing n with
 |nil=>simp
 |cons y L A=>
  cases n with
  |zero=>simp
  |succ n=>
   rw[jY,List.flatMap_cons,List.flatMap_cons,A,List.take_append,hk,kS (l:=f y) (by rw[hk,lT];omega),show(n+1)*k - k=n*k by rw[lT];omega]
def qd.nil(w:M)(B:Nat)(t:jX):qd f k w B t (u V 0 0) []:=World.ownsRow_nil w B t k
def qd.form{w:M}{B:Nat}{v:jC}{L:List β}(h:qd f k w B t v L):(v=u V 0 0/\L=[])\/∃g cap A,v=u (U (Z g 0 V)) L.length cap/\B<=g/\nU w g A t/\L.length<=cap/\cap<=jN/\A.size=cap*k/\A.toList.take (L.length*k)=L.flatMap f:=by
 rcases h.2 with⟨rfl,h0⟩|⟨g,cap,A,rfl,hb,hg,C,E,hsz,htake⟩
 .exact .inl ⟨rfl,mh.1 h0⟩
 .exact .inr ⟨g,cap,A,rfl,hb,hg,C,E,hsz,htake⟩
def qd.of{w:M}{B:Nat}{L:List β}{g cap:Nat}{A:Array jC}(hb:B<=g)(hg:nU w g A t)(C:L.length<=cap)(E:cap<=jN)(hsz:A.size=cap*k)(hk:∀y,(f y).length=k)(htake:A.toList.take (L.length*k)=L.flatMap f):qd f k w B t (u (U (Z g 0 V)) L.length cap) L:=
 ⟨PR hk L,.inr ⟨g,cap,A,rfl,hb,hg,C,E,hsz,htake⟩⟩
def qd.block{w:M}{B:Nat}{v:jC}{L:List β}(h:qd f k w B t v L):∀b,v.ownBlock=U b->B<=b/\b<w.heap.size/\∃cs,nU w b cs t:=by
 rcases h.form with⟨rfl,_⟩|⟨g,cap,A,rfl,hb,hg,_⟩
 .intro b h;cases h
 .intro b h;cases h;exact⟨hb,hg.lt,A,hg⟩
def qd.slice{w:M}{B:Nat}{v:jC}{L:List β}(h:qd f k w B t v L):∃oa cap,v=u oa L.length cap:=by
 rcases h.form with⟨rfl,rfl⟩|⟨g,cap,A,rfl,_⟩
 .exact⟨V,0,rfl⟩
 .exact⟨_,cap,rfl⟩
def qd.keep{w w':M}{B:Nat}{v:jC}{L:List β}(h:qd f k w B t v L)(hk:∀b,v.ownBlock=U b->w'.heap[b]? =w.heap[b]?):qd f k w' B t v L:=by
 refine⟨h.1,?_⟩;rcases h.2 with E|⟨g,cap,A,C,hg,I,r⟩
 .exact .inl E
 .refine .inr ⟨g,cap,A,C,hg,?_,r⟩
  rw[hk g (by rw[C];rfl)];exact I
def qd.below{w w':M}{B:Nat}{v:jC}{L:List β}(h:qd f k w B t v L)(hb:jD w.heap.size w w'):qd f k w' B t v L:=
 h.keep λb A=>hb.block b (h.block b A).2.1
def qd.at_{w:M}{B:Nat}{oa:Option kW}{n cap:Nat}{L:List β}(h:qd f k w B t (u oa n cap) L)(hk:∀y,(f y).length=k){i:Nat}{y:β}(hy:L[i]? =U y):
  ∃g,oa=U (Z g 0 V)/\B<=g/\g<w.heap.size/\n=L.length/\n<=cap/\(∀j,j<k->w.cell? (Z g (i*k+j) V)=(f y)[j]?)/\∀j,w.frozen? (Z g j V)=O:=by
 obtain⟨hi,_⟩:=lu.1 hy;rcases h.form with⟨N,rfl⟩|⟨g,C,J,E,hb,hg,A,aa,hsz,htake⟩
 .simp at hi
 .cases E
  refine⟨g,rfl,hb,hg.lt,rfl,A,λj I=> ?_,λj=>hg.free j⟩;rw[hg.cell,<-a3C hk hy I,<-htake,List.getElem?_take_of_lt];.simp
  .have:(i+1)*k<=L.length*k:=lY _ K
   rw[lT]at this;omega
def qd.set{w:M}{B:Nat}{g n cap:Nat}{L:List β}(h:qd f k w B t (u (U (Z g 0 V)) n cap) L)(hk:∀y,(f y).length=k){i:Nat}{y z:β}(hy:L[i]? =U y){j:Nat}{x:jC}(C:j<k)(E:f z=(f y).set j x):
  qd f k (w.setCell (Z g (i*k+j) V) x) B t (u (U (Z g 0 V)) n cap) (L.set i z):=by
 rcases h.form with⟨I,_⟩|⟨af,J,ae,N,hb,hg,A,aa,hsz,htake⟩
 .cases I
 .cases N
  have:=qd.of (f:=f) (k:=k) (L:=L.set i z) hb (hg.set (i*k+j) x) (by simpa using A) aa (by simpa using hsz) hk (by
   rw[ZN hk hy C E,<-htake,Array.toList_setIfInBounds,List.take_set,List.length_set])
  rw[List.length_set]at this;exact this
def qd.cut{w:M}{B:Nat}{g n cap:Nat}{L:List β}(h:qd f k w B t (u (U (Z g 0 V)) n cap) L)(hk:∀y,(f y).length=k){m:Nat}(C:m<=L.length):
  qd f k w B t (u (U (Z g 0 V)) m cap) (L.take m):=by
 rcases h.form with⟨E,_⟩|⟨ae,I,aa,J,hb,hg,N,A,hsz,htake⟩
 .cases E
 .cases J
  have hl:(L.take m).length=m:=by rw[kD];omega
  have:=qd.of (f:=f) (k:=k) (L:=L.take m) hb hg K A hsz hk (by
   rw[WX hk,<-htake,List.take_take,hl,mr (lY _ C)])
  rw[hl]at this;exact this
def ZO{w:M}{b:Nat}{cs:Array jC}(h:nU w b cs t){l:List jC}(hl:cs.toList=l):∀j ao,l[j]? =U ao->w.cell? (((Z b 0 V):kW).add j)=U ao:=by
 subst hl;exact World.news_of_block h
end
structure xZ(P:lQ)(st t:jX)(k:Nat):Prop where
 ht:P.underlying st=U (.slice t)
 hi:∃z bytes i,P.info? t=U i/\i.zero=U z/\i.size=k/\i.bytes=bytes/\bytes<=1000/\z.cells.size=k
 pos:0<k
def Em{C:Type}{f:C->List jC}{k:Nat}{P:lQ}{st ty:jX}(T:xZ P st t k)(hk:∀y,(f y).length=k){w:M}{B b c:Nat}{v:jC}{L:List C}{x:C}{cs:Array jC}(E:qd f k w B t v L)(hb:nU w b cs t')(I:cs.toList=f x)(ae:∀ao∈f x,ao.oneCell'=R)(hlen:L.length<=1000000)(hB:B<=w.heap.size):
  ∃g cap w',(Builtin.append_ #[st,st] ty #[v,u (U (Z b 0 V)) 1 c]).run P w=.ok (u (U (Z g 0 V)) (L.length+1) cap) w'/\
   qd f k w' B t (u (U (Z g 0 V)) (L.length+1) cap) (L++[x])/\w.grownBy w' v.ownBlock/\(v.ownBlock=U g\/g=w.heap.size)/\g<w'.heap.size/\B<=g:=by
 obtain⟨z,bytes,i,hi,af,hsz,J,N,aa⟩:=T.hi
 obtain⟨g,cap,w',ag,ah,ai,aj,ak⟩:=run_append_lies w st ty B t i z k bytes T.ht hi af hsz J aa T.pos v L.length (L.flatMap f) E (Z b 0 V) 1 c (f x) (by rw[hk];omega) (ZO hb I) ae nT xe
  (jM (Nat.mul_le_mul_left _ N) K) hB _ rfl
 have A:qd f k w' B t (u (U (Z g 0 V)) (L.length+1) cap) (L++[x]):=by
  unfold qd;rw[jK,List.flatMap_append];simpa using ah
 exact⟨g,cap,w',ag,A,ai,aj,ak,(A.block g rfl).1⟩
structure qA(α:Type) where
 lab:α
 ao:jC
 sub:List (nS α)
def qA.tree{α:Type}(y:qA α):nS α:=.node y.lab y.sub
section
variable {α:Type}
def Shape.row(S:Shape α)(L:List (qA α)):List jC:=L.flatMap λy=>S.cells y.lab y.ao
def Shape.Sv(S:Shape α)(L aq:List (qA α)):S.row (L++aq)=S.row L++S.row aq:=by simp[Shape.row]
def Shape.Jv(S:Shape α)(L:List (qA α)):(S.row L).length=L.length*S.k:=by
 induction L with
 |nil=>simp[Shape.row]
 |cons y L A=>
  show(S.cells y.lab y.ao++S.row L).length=_;rw[jK,A,S.hk,j4,lT];omega
def Shape.a6E(S:Shape α){L:List (qA α)}{i:Nat}{y:qA α}(hy:L[i]? =U y){j:Nat}(C:j<S.k):(S.row L)[i*S.k+j]? =(S.cells y.lab y.ao)[j]? :=by
 induction L generalizing i with
 |nil=>simp at hy
 |cons z L A=>
  show(S.cells z.lab z.ao++S.row L)[i*S.k+j]? =_;cases i with
  |zero=>
   simp at hy;subst hy;rw[l6 (by rw[S.hk];omega)];simp
  |succ i=>
   simp at hy;rw[mZ (by rw[S.hk,lT];omega),S.hk,show(i+1)*S.k+j - S.k=i*S.k+j by rw[lT];omega];exact A hy
def wQ(S:Shape α)(t:jX)(w:M)(B:Nat)(v:jC)(L:List (qA α)):Prop:=
 w.ownsRow B t S.k v L.length (S.row L)/\∀y,y∈L->S.ok y.lab/\S.om w (λc=>B<=c/\v.ownBlock≠U c) y.ao y.sub
def wQ.nil(S:Shape α)(t:jX)(w:M)(B:Nat):wQ S t w B (u V 0 0) []:=⟨World.ownsRow_nil w B t S.k,λy h=>by cases h⟩
def wQ.block{S:Shape α}{w:M}{B:Nat}{v:jC}{L:List (qA α)}(h:wQ S t w B v L):∀b,v.ownBlock=U b->B<=b/\b<w.heap.size:=by
 rcases h.1.2 with⟨rfl,h0⟩|⟨g,cap,A,rfl,hb,hg,_⟩
 .intro b h;cases h
 .intro b h;cases h;exact⟨hb,(j6.1 hg).1⟩
def wQ.slice{S:Shape α}{w:M}{B:Nat}{v:jC}{L:List (qA α)}(h:wQ S t w B v L):∃oa cap,v=u oa L.length cap:=by
 rcases h.1.2 with⟨rfl,h0⟩|⟨g,cap,A,rfl,_⟩
 .exact⟨V,0,by rw[h0]⟩
 .exact⟨_,cap,rfl⟩
def wQ.keep{S:Shape α}{w w':M}{B:Nat}{v:jC}{L:List (qA α)}(h:wQ S t w B v L)(hs:w.heap.size<=w'.heap.size)(hk:∀c,B<=c->c<w.heap.size->w'.heap[c]? =w.heap[c]?):wQ S t w' B v L:=by
 refine⟨⟨h.1.1,?_⟩,λy hy=>⟨(h.2 y hy).1,(h.2 y hy).2.keep hs (λ_ _ h=>h) λc hc E=>hk c E.1 hc⟩⟩;rcases h.1.2 with I|⟨g,cap,A,J,hg,C,r⟩
 .exact .inl I
 .refine .inr ⟨g,cap,A,J,hg,?_,r⟩
  rw[hk g hg (j6.1 C).1];exact C
def wQ.below{S:Shape α}{w w':M}{B:Nat}{v:jC}{L:List (qA α)}(h:wQ S t w B v L)(hb:jD w.heap.size w w'):wQ S t w' B v L:=
 h.keep hb.size λc _ hc=>hb.block c hc
def wQ.upd{S:Shape α}{w w':M}{B b:Nat}{v:jC}{L:List (qA α)}(h:wQ S t w B v L)(A:pX b w w')(hb:b<B):wQ S t w' B v L:=
 h.keep A.size λc hB hc=>A.block c hc (by simpa using by omega)
def wQ.subs{S:Shape α}{w:M}{B:Nat}{v:jC}{L:List (qA α)}(h:wQ S t w B v L):S.om w (λc=>B<=c) v (L.map qA.tree):=by
 obtain⟨I,J⟩:=h;rcases I.2 with⟨rfl,h0⟩|⟨g,cap,ag,rfl,hb,hg,C,aa,hsz,htake⟩
 .have:L=[]:=mh.1 h0
  subst this;exact⟨V,0,rfl,jB _,ko _,λh=>absurd h nX⟩
 .refine⟨U (Z g 0 V),cap,by rw[List.length_map],by rw[List.length_map];exact C,aa,λ_=>⟨g,0,rfl,(j6.1 hg).1,hb,?_⟩⟩
  have cell:∀i y,L[i]? =U y->∀j,j<S.k->w.cell? (Z g (i*S.k+j) V)=(S.cells y.lab y.ao)[j]? :=by
   intro i y hy j E;obtain⟨hi,_⟩:=lu.1 hy;have hlt:i*S.k+j<(S.row L).length:=by
    rw[S.Jv];have:(i+1)*S.k<=L.length*S.k:=lY _ K;rw[lT]at this;omega
   have:=World.ownsRow.cells I (g:=g) rfl (i*S.k+j) _ (jL hlt);have e1:((Z g 0 V):kW).add (i*S.k+j)=(Z g (i*S.k+j) V):=GQ;rw[e1]at this;rw[this,<-jL hlt,S.a6E hy E]
  have row:∀(aq:List (qA α))(i:Nat),(∀k y,aq[k]? =U y->L[i+k]? =U y)->S.rz w (λc=>B<=c) (aq.map qA.tree) g (i*S.k):=by
   intro aq;induction aq with
   |nil=>intro i _;simp only[ng,Shape.rz]
   |cons y aq ae=>
    intro i N;simp only[mf,Shape.rz];have hy:=N 0 y rfl;refine⟨?_,?_⟩
    .simp only[qA.tree,Shape.tO]
     have A:=kE hy;exact⟨(J y A).1,y.ao,λj E=>cell i y hy j E,(J y A).2.keep (jB _) (λc _ h=>h.1) λ_ _ _=>rfl⟩
    .have:=ae (i+1) λk z af=>by
      have:=N (k+1) z af;rwa [show i+1+k=i+(k+1)by omega]
     rwa [show(i+1)*S.k=i*S.k+S.k by rw[lT,Nat.one_mul]]at this
  have:=row L 0 λk y h=>by simpa using h
  simpa using this
def yH{S:Shape α}{P:lQ}{st:jX}{J:TypeInfo}{z:jC}{bytes:Nat}(ht:P.underlying st=U (.slice t))(hi:P.info? t=U J)(A:J.zero=U z)(aa:J.size=S.k)(av:J.bytes=bytes)(ax:z.cells.size=S.k)(ah:0<S.k)(ai:∀a o n c,∀ao∈S.cells a (.slice o n c),ao.oneCell'=R){ops:Array lJ}{rest:List lJ}{o:lJ}{a:Act}{Q:Exit->Act->M->Prop}(ay:o.guard=V)(x y:Operand)(ho:o.op=.call {callee:=.builtin .append,args:=#[x,y],argTypes:=#[st,st]})(B:Nat)(v:jC)(L:List (qA α))(e:qA α)(w:M)(cs:Array jC)(az:cs.toList=S.cells e.lab e.ao)(aD:a.eval x=v)(C:wQ S t w B v L)(hy:a.eval y=.slice (U (Z w.heap.size 0 V)) 1 1)(hlen:L.length<=100000)(N:bytes<=1000)(hB:B<=w.heap.size)(hok:S.ok e.lab)(aj:S.om w (λc=>B<=c/\v.ownBlock≠U c) e.ao e.sub)(h:∀g cap w',wQ S t w' B (.slice (U (Z g 0 V)) (L.length+1) cap) (L++[e])->jD B w w'->w.heap.size<w'.heap.size->w.grownBy w' v.ownBlock->wpList P ops Q rest (a.put o.dst (.slice (U (Z g 0 V)) (L.length+1) cap)) w'):
  wpList P ops Q (o::rest) a (w.alloc (nL cs t)):=by
 have aA:=(jE w.heap.size w).alloc (jB _) (nL cs t);obtain⟨aF,aG,ag,_⟩:=aj
 refine wpList_append_lies _ ay x y st ho B t J z S.k bytes ht hi A aa av ax ah v L.length (S.row L) aD (World.ownsRow.alloc C.1 _)
  (Z w.heap.size 0 V) 1 1 (S.row [e]) hy (by rw[S.Jv];rfl) ?_ ?_ nT xe ?_ nY _ rfl ?_
 .intro j ao ak
  have e1:((Z w.heap.size 0 V):kW).add j=(Z w.heap.size j V):=GQ;rw[e1,World.cell?_alloc_mark w cs t (0,0) j,<-ak];have:S.row [e]=cs.toList:=by simp[Shape.row,az]
  rw[this];simp
 .intro ao aB
  have:S.row [e]=S.cells e.lab e.ao:=by simp[Shape.row]
  rw[this,ag]at aB;exact ai _ _ _ _ ao aB
 .calc (L.length+1)*bytes<=100001*1000:=Nat.mul_le_mul K N
   _<=_:=nT
 .intro g cap w' aH E ae aI
  have hsz:(w.alloc (nL cs t)).heap.size=w.heap.size+1:=nX;have hb:jD B w w':=by
   refine((jE B w).alloc hB _).grown E K λj ak=> ?_
   exact(C.block j ak).1
  have I:w.grownBy w' v.ownBlock:=
   ⟨E.os,E.tape,E.output,by have:=E.size;omega,λc hc aC=>(E.block c K aC).trans (aA.block c hc)⟩
  refine h g cap w' ⟨by rw[jK,S.Sv];exact aH,λz A=> ?_⟩ hb (by have:=E.size;omega) I;have key:∀z:qA α,S.ok z.lab->S.om w (λc=>B<=c/\v.ownBlock≠U c) z.ao z.sub->S.ok z.lab/\S.om w' (λc=>B<=c/\(kI (U (Z g 0 V)) (L.length+1) cap).ownBlock≠U c) z.ao z.sub:=by
   intro z ho hs;refine⟨ho,hs.keep (by have:=E.size;omega) (λc hc af=>⟨af.1,?_⟩) λc hc af=> ?_⟩
   .rcases ae with ae|ae
    .rw[<-show v.ownBlock=(kI (U (Z g 0 V)) (L.length+1) cap).ownBlock from ae];exact af.2
    .intro au;simp[kz]at au;omega
   .exact I.block c hc (λau=>af.2 au.symm)
  rcases List.mem_append.1 A with A|A
  .exact key z (C.2 z A).1 (C.2 z A).2
  .simp at A
   subst A;exact key z hok ⟨aF,aG,ag,‹_›⟩
end
def QZ(y:qA IL):List jC:=[G (txt y.lab),nH y.lab.list,y.ao]
def BU(y:qA IL):(QZ y).length=3:=rfl
def uK(w:M)(Q:Nat->Prop)(v:jC)(L:List (qA IL)):Prop:=
 qd QZ 3 w 0 IT v L/\(∀b,v.ownBlock=U b->Q b)/\∀y,y∈L->y.lab.text.length<=jN/\oo w (λc=>Q c/\v.ownBlock≠U c) y.ao y.sub
def uK.nil(w:M)(Q:Nat->Prop):uK w Q (u V 0 0) []:=⟨qd.nil w 0 IT,λb h=>by simp[kz]at h,λy h=>by cases h⟩
def uK.slice{w:M}{Q:Nat->Prop}{v:jC}{L:List (qA IL)}(h:uK w Q v L):∃oa cap,v=u oa L.length cap:=h.1.slice
def uK.keep{w w':M}{Q Q':Nat->Prop}{v:jC}{L:List (qA IL)}(h:uK w Q v L)(hs:w.heap.size<=w'.heap.size)(hk:∀c,c<w.heap.size->Q c->w'.heap[c]? =w.heap[c]?)(C:∀c,c<w.heap.size->Q c->Q' c):uK w' Q' v L:=by
 refine⟨h.1.keep λb hb=>hk b (h.1.block b hb).2.1 (h.2.1 b hb),λb hb=>C b (h.1.block b hb).2.1 (h.2.1 b hb),λy hy=>⟨(h.2.2 y hy).1,?_⟩⟩;exact Shape.om.keep (h.2.2 y hy).2 hs (λc hc A=>⟨C c hc A.1,A.2⟩) λc hc A=>hk c hc A.1
def uK.subs{w:M}{Q:Nat->Prop}{v:jC}{L:List (qA IL)}(h:uK w Q v L):oo w Q v (L.map qA.tree):=by
 obtain⟨I,ae,J⟩:=h;rcases I.form with⟨rfl,rfl⟩|⟨g,cap,ai,rfl,hb,hg,C,af,hsz,htake⟩
 .exact⟨V,0,rfl,jB _,ko _,λh=>absurd h nX⟩
 .refine⟨U (Z g 0 V),cap,by rw[List.length_map],by rw[List.length_map];exact C,af,λ_=>⟨g,0,rfl,hg.lt,ae g rfl,?_⟩⟩
  have cell:∀i y,L[i]? =U y->∀j,j<3->w.cell? (Z g (i*3+j) V)=(QZ y)[j]? :=by
   intro i y hy j E;obtain⟨aj,N,_,_,_,_,hc,_⟩:=I.at_ BU hy;cases N;exact hc j E
  have row:∀(aq:List (qA IL))(i:Nat),(∀k y,aq[k]? =U y->L[i+k]? =U y)->wO.rz w Q (aq.map qA.tree) g (i*3):=by
   intro aq;induction aq with
   |nil=>intro i _;simp only[ng,Shape.rz]
   |cons y aq ag=>
    intro i aa;simp only[mf,Shape.rz];have hy:=aa 0 y rfl;refine⟨?_,?_⟩
    .simp only[qA.tree,Shape.tO]
     have A:=kE hy;exact⟨(J y A).1,y.ao,λj E=>cell i y hy j E,Shape.om.keep (J y A).2 (jB _) (λc _ h=>h.1) λ_ _ _=>rfl⟩
    .have:=ag (i+1) λk z ah=>by
      have:=aa (k+1) z ah;rwa [show i+1+k=i+(k+1)by omega]
     rwa [show(i+1)*3=i*3+wO.k by rw[lT,Nat.one_mul];rfl]at this
  have:=row L 0 λk y h=>by simpa using h
  simpa using this
def ZP:qA IL:=⟨⟨[],O⟩,u V 0 0,[]⟩
def xw(w:M)(g o:Nat)(a b c:jC):M:=((w.setCell (Z g o V) a).setCell (Z g (o+1) V) b).setCell (Z g (o+2) V) c
def uf(w:M)(g o:Nat)(a b c:jC):((w.setCell (Z g o V) a).setCell (Z g (o+1) V) b).setCell (Z g (o+2) V) c=xw w g o a b c:=rfl
def vU{w:M}{g o:Nat}{a b c:jC}:(xw w g o a b c).heap.size=w.heap.size:=by simp[xw,j5]
def ug{w:M}{g o:Nat}{a b c:jC}(k:Nat)(h:k≠g):(xw w g o a b c).heap[k]? =w.heap[k]? :=by
 unfold xw;rw[jW _ _ _ _ h,jW _ _ _ _ h,jW _ _ _ _ h]
def PS(w:M)(g o:Nat)(a b c:jC):pX g w (xw w g o a b c):=(((pX.refl g w).set o a).set (o+1) b).set (o+2) c
def qd.xw{w:M}{B g cap:Nat}{L:List (qA IL)}{z x:qA IL}(h:qd QZ 3 w B IT (u (U (Z g 0 V)) (L.length+1) cap) (L++[z])):
  qd QZ 3 (xw w g (L.length*3) (G (txt x.lab)) (nH x.lab.list) x.ao) B IT (u (U (Z g 0 V)) (L.length+1) cap) (L++[x]):=by
 have e:∀y:qA IL,(L++[y])[L.length]? =U y:=λy=>by simp
 have A:∀y ao:qA IL,(L++[y]).set L.length ao=L++[ao]:=λy ao=>by simp
 have C:=h.set BU (e z) (j:=0) (x:=G (txt x.lab)) (z:=⟨⟨x.lab.text,z.lab.list⟩,z.ao,z.sub⟩) nT rfl;rw[A]at C;have E:=C.set BU (e _) (j:=1) (x:=nH x.lab.list) (z:=⟨⟨x.lab.text,x.lab.list⟩,z.ao,z.sub⟩) nT rfl;rw[A]at E;have I:=E.set BU (e _) (j:=2) (x:=x.ao) (z:=x) nT rfl;rw[A]at I;exact I
def Nf{p:Prop}(h:p:=by
 intro e;simp[kz]at e;exact hgn c hc (hxv c hq) e.symm):p:=h
def uK.push{w w1:M}{Q I:Nat->Prop}{v:jC}{L:List (qA IL)}{x:qA IL}{g cap:Nat}(h:uK w Q v L)(hrow:qd QZ 3 w1 0 IT (u (U (Z g 0 V)) (L.length+1) cap) (L++[ZP]))(hg:w.grownBy w1 v.ownBlock)(A:v.ownBlock=U g\/w.heap.size<=g)(N:oo w I x.ao x.sub)(hxv:∀c,I c->v.ownBlock≠U c)(J:x.lab.text.length<=jN):
  uK (xw w1 g (L.length*3) (G (txt x.lab)) (nH x.lab.list) x.ao) (λc=>Q c\/I c\/c=g) (u (U (Z g 0 V)) (L.length+1) cap) (L++[x]):=by
 have hgn:∀c,c<w.heap.size->v.ownBlock≠U c->c≠g:=λc hc C e=>by
  rcases A with A|A
  .exact C (by rw[A,e])
  .omega
 have hsz:w.heap.size<=(xw w1 g (L.length*3) (G (txt x.lab)) (nH x.lab.list) x.ao).heap.size:=by rw[vU];exact hg.size
 have E:∀c,c<w.heap.size->v.ownBlock≠U c->(xw w1 g (L.length*3) (G (txt x.lab)) (nH x.lab.list) x.ao).heap[c]? =w.heap[c]? :=λc hc C=>by
  rw[ug c (hgn c hc C)];exact hg.block c hc (λe=>C e.symm)
 refine⟨hrow.xw,λb hb=> ?_,λy hy=> ?_⟩
 .simp[kz]at hb
  exact .inr (.inr hb.symm)
 .rcases List.mem_append.1 hy with hy|hy
  .refine⟨(h.2.2 y hy).1,Shape.om.keep (h.2.2 y hy).2 hsz (λc hc hq=>⟨.inl hq.1,?_⟩) λc hc hq=>E c hc hq.2⟩
   intro e;simp[kz]at e;exact hgn c hc hq.2 e.symm
  .simp at hy
   subst hy;refine⟨J,Shape.om.keep N hsz (λc hc hq=>⟨.inr (.inl hq),?_⟩) λc hc hq=>E c hc (hxv c hq)⟩;exact Nf
structure Fr where
 v:jC
 L:List (qA IL)
 e:Nat
def FD(w:M):(Nat->Prop)->List Fr->Prop
 |_,[]=>True
 |A,x::xs=>∃Q:Nat->Prop,(∀c,Q c->¬A c)/\uK w Q x.v x.L/\FD w (λc=>A c\/Q c) xs
def FD.keep{w w':M}(hs:w.heap.size<=w'.heap.size):∀{st:List Fr}{C A:Nat->Prop},FD w C st->(∀c,c<w.heap.size->¬C c->w'.heap[c]? =w.heap[c]?)->(∀c,c<w.heap.size->A c->C c)->FD w' A st
 |[],_,_,_,_,_=>trivial
 |x::xs,C,A,⟨Q,I,N,aa⟩,hk,J=>by
  refine⟨λc=>Q c/\c<w.heap.size,λc hc h=>I c hc.1 (J c hc.2 h),N.keep hs (λc hc E=>hk c hc (I c E)) (λc hc E=>⟨E,hc⟩),?_⟩;exact FD.keep hs aa (λc hc hn=>hk c hc λh=>hn (.inl h)) λc hc h=>h.elim (λh=> .inl (J c hc h)) λh=> .inr h.1
def FD.below{w w':M}{st:List Fr}{A:Nat->Prop}(h:FD w A st)(hb:jD w.heap.size w w'):FD w' A st:=h.keep hb.size (λc hc _=>hb.block c hc) λ_ _ h=>h
section
variable {P:lQ}{ops:Array lJ}{md:lW}{S:M->Prop}{Q:Exit->Act->M->Prop}{n:Nat}
def a3D(md:lW)(ops:Array lJ)(n:Nat):Bool:=(ll ops.size).all λt=>At (t<n)||(ll n).all λi=>Region.waitsFor md ops t i
def WY(hb:a3D md ops n=R){A:Array Bool}{i j:Nat}(hi:i∈lI md ops A)(hin:i<n)(ah:j∈lI md ops A):j<n:=by
 obtain⟨au,ai,I,J⟩:=mem_ready.1 ah;have aa:j<ops.size:=(j6.1 I).1;have C:=lN.1 hb j (mJ.2 aa);simp only[Bool.or_eq_true,decide_eq_true_eq]at C;rcases C with C|C
 .exact C
 .have aj:=lN.1 C i (mJ.2 hin)
  obtain⟨ak,ae,e,he,af,ag⟩:=Region.waitsFor_spec aj;have:ak=ai:=mg (ae.symm.trans I);subst this;have E:=J e he af;have h0:=(mem_ready.1 hi).1;rw[ag]at E;rcases kQ i A.size with N|N
  .simp[N]at h0 E;rw[h0]at E;cases E
  .simp[Array.getElem?_eq_none N]at E
def wR(P:lQ)(md:lW)(ops:Array lJ)(Q:Exit->Act->M->Prop)(S:M->Prop)(n:Nat):Nat->Array Bool->Act->M->Prop
 |0,A,a,w=>lI md ops A=[]/\Q .normal a w
 |fuel+1,A,a,w=>
  (lI md ops A=[]->Q .normal a w)/\
  ∀i∈lI md ops A,wpOp P ops Q i (λC w'=>(i<n->S w')/\wR P md ops Q S n fuel (A.setIfInBounds i R) C w') a w
def En:∀(fuel:Nat)(A:Array Bool)(a:Act)(w:M),wR P md ops Q S n fuel A a w->wpAny P md ops Q fuel A a w
 |0,_,_,_,h=>h
 |fuel+1,_,_,_,h=>⟨h.1,λi hi=>wpOp_mono (λC w' E=>En fuel _ C w' E.2) (h.2 i hi)⟩
def Ng{i:Nat}{oi:lJ}{v:jC}(hin:i<n)(hb:a3D md ops n=R)(hi:ops[i]? =U oi)(aa:∀(j:Nat) (o:lJ) cs b,ops[j]? =U o->o.op≠.select cs b)(aD:∀c a w,Q (.panic c) (a.put oi.dst v) w->Q (.panic c) a w):
  ∀(fuel:Nat)(A:Array Bool)(a:Act)(w:M),
   (∀j I,ops[j]? =U I->j≠i->A.getD j R=O->(∀e∈I.after,mH md e=R->e.on≠i)->oi.apart ops I=R)->
   i∈lI md ops A->YieldsIf P ops S oi v a->S w->
   wR P md ops Q S n fuel (A.setIfInBounds i R) (a.put oi.dst v) w->wR P md ops Q S n (fuel+1) A a w:=by
 intro fuel;induction fuel with
 |zero=>
  intro A a w _ E hy ae ad;refine⟨λh=>(by rw[h]at E;cases E),λj af=> ?_⟩;by_cases C:j=i;.subst C;exact hy.wpOp hi ae ⟨λ_=>ae,ad⟩
  .have:=ready_mono af C
   rw[ad.1]at this;cases this
 |succ fuel aF=>
  intro A a w N E hy ae ad;refine⟨λh=>(by rw[h]at E;cases E),λj af=> ?_⟩;by_cases C:j=i;.subst C;exact hy.wpOp hi ae ⟨λ_=>ae,ad⟩
  .have az:=WY hb E hin af
   have J:=ad.2 j (ready_mono af C);obtain⟨ag,I,ah,av⟩:=mem_ready.1 af;have ax:∀e∈I.after,mH md e=R->e.on≠i:=λe he hb aA=>by
    have J:=av e he hb;have h0:=(mem_ready.1 E).1;rw[aA]at J;rcases kQ i A.size with ay|ay
    .simp[ay]at h0 J;rw[h0]at J;cases J
    .simp[Array.getElem?_eq_none ay]at J
   have aG:=wpOp_putIf ah (N j I ah C ag ax) (λcs b=>aa i oi cs b hi) (λcs b=>aa j I cs b ah) aD hy J
   have ai:∀k ok,ops[k]? =U ok->k≠i->(A.setIfInBounds j R).getD k R=O->
     (∀e∈ok.after,mH md e=R->e.on≠i)->oi.apart ops ok=R:=λk ok hk aB ak aC=>by
    refine N k ok hk aB ?_ aC;by_cases au:j=k;.subst au;exact ag
    .rw[getD_set_ne R au]at ak;exact ak
   refine wpOp_mono (λaH w' aj=>⟨aj.2.1,aF (A.setIfInBounds j R) aH w' ai (ready_mono E (nz C)) aj.1 (aj.2.1 az) ?_⟩) aG;rw[Array.setIfInBounds_comm _ _ C];exact aj.2.2
def PT{i:Nat}{oi:lJ}{v:jC}{fuel:Nat}{A:Array Bool}{a:Act}{w:M}(hi:ops[i]? =U oi)(hin:At (i<n)=R)(hb:a3D md ops n=R)(hs:Region.noSelect ops=R)(C:Region.free md ops A i=R)(E:(lI md ops A).contains i=R)(I:∀c a w,Q (.panic c) (a.put oi.dst v) w->Q (.panic c) a w)(hy:YieldsIf P ops S oi v a)(J:S w)(h:wR P md ops Q S n fuel (A.setIfInBounds i R) (a.put oi.dst v) w):wR P md ops Q S n (fuel+1) A a w:=
 Ng (by simpa using hin) hb hi (Region.noSelect_spec hs) I fuel A a w (Region.free_spec hi C) (by simpa using E) hy J h
def zW{i:Nat}{o:lJ}{fuel:Nat}{A:Array Bool}{a:Act}{w:M}(E:lI md ops A=[i])(ho:ops[i]? =U o)(h:∀C:Act->M->Prop,Shut (∀a w,S w->(S w->wR P md ops Q S n fuel (A.setIfInBounds i R) a w)->C a w)->if ma o (yielded ops a.tmps)=R then Oper.wp P o a w C Q else C (a.put o.dst ku) w):
  wR P md ops Q S n (fuel+1) A a w:=by
 refine⟨λh0=>(by rw[E]at h0;cases h0),λj I=> ?_⟩;rw[E]at I;obtain rfl:=List.mem_singleton.1 I;exact wpOp_step ho λC N=>h C λa w J aa=>N a w ⟨λ_=>J,aa J⟩
def wJ:∀(fuel:Nat)(A:Array Bool)(a:Act)(w:M),((ll n).all λj=>A.getD j R)=R->wpAny P md ops Q fuel A a w->wR P md ops Q S n fuel A a w
 |0,_,_,_,_,h=>h
 |fuel+1,A,a,w,J,h=>⟨h.1,λi hi=>by
  have hin:¬i<n:=λhin=>by
   have C:=lN.1 J i (mJ.2 hin);have h0:=(mem_ready.1 hi).1;rcases kQ i A.size with E|E
   .simp[E]at h0 C;rw[h0]at C;cases C
   .simp[Array.getElem?_eq_none E]at h0
  refine wpOp_mono (λaa w' E=>⟨λh=>absurd h hin,wJ fuel _ aa w' ?_ E⟩) (h.2 i hi);refine lN.2 λj N=> ?_
  have C:=lN.1 J j N;by_cases I:i=j;.exact absurd (I▸mJ.1 N) hin
  .rw[getD_set_ne R I];exact C⟩
def wB{id:Nat}{a:Act}{w:M}(n:Nat)(A:P.follows .mixedOrders=R)(C:S w.drew)(h:S w.drew->wR P .any ops Q S n ops.size (lh ops.size O) a w.drew):(kT id ops R).wp P Q a w:=
 wp_region_any A (En _ _ _ _ (h C))
end
section
variable {P:lQ}{ops:Array lJ}{md:lW}{S:M->Prop}{Q:Exit->Act->M->Prop}{n:Nat}
def takeB(i:Nat){oi:lJ}{v:jC}{fuel:Nat}{A C:Array Bool}{a E:Act}{w:M}(J:S w)(h:wR P md ops Q S n fuel C E w)(hi:ops[i]? =U oi:=by simp only[jV,jT,jS]<;>rfl)(N:∀c a w,Q (.panic c) (a.put oi.dst v) w->Q (.panic c) a w:=by exact λ_ _ _ h=>h)(aa:ma oi (yielded ops a.tmps)=R:=by rfl)(hy:∀w,S w->(execOp a.eval oi).run P w=.ok (.value v) w:=by(intro w I;(try dsimp only at I);go_simp;try rfl))(hin:At (i<n)=R:=by kernel_rfl)(hb:a3D md ops n=R:=by kernel_rfl)(ae:a.put oi.dst v=E:=by(try simp only[mR,jH,jQ,jR]);rfl)(hl:A.setIfInBounds i R=C:=by(try simp only[mR,jH,jQ,jR]);rfl)(hs:Region.noSelect ops=R:=by kernel_rfl)(af:Region.free md ops A i=R:=by kernel_rfl)(ag:(lI md ops A).contains i=R:=by kernel_rfl):
  wR P md ops Q S n (fuel+1) A a w:=PT hi hin hb hs af ag N (.inl ⟨aa,hy⟩) J (by rw[hl,ae];exact h)
end
def rf2(x:Fr):List jC:=[x.v,Y X (x.e:Nat)]
def BV(x:Fr):(rf2 x).length=2:=rfl
abbrev RT:jX:=278
abbrev OT:jX:=275
def Q0(B bo bw:Nat)(vr:jC):Nat->Prop:=λc=>c<B\/c=bo\/c=bw\/vr.ownBlock=U c
structure sw(w:M)(B bo bw:Nat)(vr:jC)(st:List Fr):Prop where
 ho:nU w bo #[vr] OT
 row:qd rf2 2 w B RT vr st.reverse
 nbo:vr.ownBlock≠U bo
 nbw:vr.ownBlock≠U bw
 LC:FD w (Q0 B bo bw vr) st
 LD:B<=bo
 hbw:B<=bw
 ne:bo≠bw
 lt:bw<w.heap.size
def ZQ:xZ jy 45 IT 3:=⟨Tryz.underlying45,⟨.agg #[.string ⟨#[]⟩,.bool O,.slice V 0 0],48,by
 obtain⟨i,A,C,E,I⟩:=info_parts (show(Tryz.prog.info? IT).map (λi=>(i.zero,i.size,i.bytes))=U (U (nI #[G ⟨#[]⟩,nH O,u V 0 0]),3,48)by kernel_rfl);exact⟨i,A,C,E,I,nT,rfl⟩⟩,nT⟩
def zn{P:lQ}{st:jX}(T:xZ P st IT 3){ops:Array lJ}{o:lJ}{a:Act}{am:Act->M->Prop}{Q:Exit->Act->M->Prop}{E:Prop}(C:o.guard=V)(s x:Operand)(ho:o.op=.call {callee:=.builtin .append,args:=#[s,x],argTypes:=#[st,st]}){w:M}{B b c:Nat}{v:jC}{L:List (qA IL)}{y:qA IL}{cs:Array jC}(hs:a.eval s=v)(A:qd QZ 3 w B IT v L)(J:a.eval x=u (U (Z b 0 V)) 1 c)(hb:nU w b cs t')(I:cs.toList=QZ y)(N:∀ao∈QZ y,ao.oneCell'=R)(hlen:L.length<=1000000)(hB:B<=w.heap.size)(h:∀g cap w',qd QZ 3 w' B IT (u (U (Z g 0 V)) (L.length+1) cap) (L++[y])->w.grownBy w' v.ownBlock->(v.ownBlock=U g\/g=w.heap.size)->g<w'.heap.size->am (a.put o.dst (u (U (Z g 0 V)) (L.length+1) cap)) w'):
  if ma o (yielded ops a.tmps)=R then Oper.wp P o a w am Q else E:=by
 have aa:ma o (yielded ops a.tmps)=R:=by simp[ma,C]
 rw[AC aa];obtain⟨g,cap,w',ae,af,ag,ah,ai,_⟩:=Em (ty:=o.type) T BU A hb I N hlen hB;unfold Oper.wp execOp;simp only[ho,resolve,invoke,builtin,Sem.run_bind,Sem.run_pure,Result.andThen_ok,List.map_toArray,mf,ng,hs,J];rw[ae];exact h g cap w' af ag ah ai
def wC{w w':M}{b:Nat}(i:Nat)(v:jC)(h:w.heap[b]? =w'.heap[b]?):(w.setCell (Z b i V) v).heap[b]? =(w'.setCell (Z b i V) v).heap[b]? :=by
 simp only[j5];rw[kU,kU,AC rfl,AC rfl,h]
def Sw{w w':M}{b:Nat}(o:Nat)(x y z:jC)(h:w.heap[b]? =w'.heap[b]?):(xw w b o x y z).heap[b]? =(xw w' b o x y z).heap[b]? :=
 wC _ _ (wC _ _ (wC _ _ h))
def a3G{w W w2 W3:M}{B bo bw go C aF cap N:Nat}{vr:jC}{x:Fr}{xs:List Fr}{y:qA IL}{av:Nat->Prop}{aO:Array jC}(h:sw w B bo bw vr (x::xs))(hbw:nU w bw aO IT)(aP:vr=u (U (Z go 0 V)) (N+1) aF)(aQ:xs.length=N)(aX:oo w av y.ao y.sub)(aR:∀c,av c->¬Q0 B bo bw vr c)(hL:FD w (λc=>Q0 B bo bw vr c\/av c) (x::xs))(aS:y.lab.text.length<=jN)(af:jD w.heap.size w W)(az:qd QZ 3 w2 0 IT (u (U (Z C 0 V)) (x.L.length+1) cap) (x.L++[ZP]))(I:W.grownBy w2 x.v.ownBlock)(ag:x.v.ownBlock=U C\/C=W.heap.size)(aT:∀c,c≠C->c≠go->W3.heap[c]? =w2.heap[c]?)(aY:W3.heap[C]? =(xw w2 C (x.L.length*3) (G (txt y.lab)) (nH y.lab.list) y.ao).heap[C]?)(aZ:W3.heap[go]? =(w2.setCell (Z go (N*2) V) (u (U (Z C 0 V)) (x.L.length+1) cap)).heap[go]?)(aG:W3.heap.size=w2.heap.size)(aH:W3.os=w2.os/\W3.tape=w2.tape/\W3.output=w2.output):
  ∃v',sw W3 B bo bw vr (⟨v',x.L++[y],x.e⟩::xs)/\nU W3 bw aO IT/\jD B w W3:=by
 subst aP;obtain⟨Q,ah,ax,aU⟩:=hL;have ai:go<w.heap.size/\B<=go:=⟨(h.row.block go rfl).2.1,(h.row.block go rfl).1⟩;have aj:∀c,Q c->c≠go:=λc hc e=>ah c hc (.inl (by subst e;exact .inr (.inr (.inr rfl))))
 have aI:∀c,av c->c≠go:=λc hc e=>aR c hc (by subst e;exact .inr (.inr (.inr rfl)))
 have E:∀b,x.v.ownBlock=U b->b<w.heap.size/\Q b:=λb hb=>⟨(ax.1.block b hb).2.1,ax.2.1 b hb⟩
 have aJ:C≠go:=by
  rintro rfl;rcases ag with ag|ag
  .exact aj _ (E _ ag).2 rfl
  .have:=af.size;omega
 have hsz:w.heap.size<=w2.heap.size:=jM af.size I.size;have J:w.grownBy w2 x.v.ownBlock:=⟨I.os.trans af.os,I.tape.trans af.tape,I.output.trans af.output,hsz,λc hc aV=>(I.block c (jZ hc af.size) aV).trans (af.block c hc)⟩;have aa:x.v.ownBlock=U C\/w.heap.size<=C:=ag.imp id λe=>by have:=af.size;omega
 have aA:qd rf2 2 w2 B RT (u (U (Z go 0 V)) (N+1) aF) (x::xs).reverse:=h.row.keep λb hb=>by
  simp[kz]at hb;subst hb;exact J.block _ ai.1 λe=>aj _ (E _ e.symm).2 rfl
 have aK:∀z:Fr,(z::xs).reverse[N]? =U z:=λz=>by simp[<-aQ]
 have aL:∀z ao:Fr,(z::xs).reverse.set N ao=(ao::xs).reverse:=λz ao=>by simp[<-aQ]
 have au:=aA.set BV (aK x) (j:=0) (x:=u (U (Z C 0 V)) (x.L.length+1) cap) (z:=⟨u (U (Z C 0 V)) (x.L.length+1) cap,x.L++[y],x.e⟩) nT rfl;rw[aL,nk]at au;have aB:=uK.push ax az J aa aX (λc hc e=>ah c (E c e).2 (.inr hc)) aS;have ak:w.heap.size<=W3.heap.size:=by rw[aG];exact hsz
 have ae:∀c,c<w.heap.size->¬Q c->c≠go->W3.heap[c]? =w.heap[c]? :=λc hc A hn=>by
  have:c≠C:=by
   rintro rfl;rcases aa with e|e
   .exact A (E _ e).2
   .omega
  rw[aT c this hn];exact J.block c hc λe=>A (E _ e.symm).2
 have ay:∀c,Q0 B bo bw (u (U (Z go 0 V)) (N+1) aF) c->¬Q c:=λc hc A=>ah c A (.inl hc)
 have aM:=ay bo (.inr (.inl rfl));have aN:=ay bw (.inr (.inr (.inl rfl)));have aC:bo≠go:=λe=>h.nbo (by subst e;rfl)
 have aD:bw≠go:=λe=>h.nbw (by subst e;rfl)
 refine⟨u (U (Z C 0 V)) (x.L.length+1) cap,⟨?_,?_,h.nbo,h.nbw,⟨λc=>Q c\/av c\/(c=C/\C<W3.heap.size),λc hc hn=> ?_,?_,?_⟩,h.LD,h.hbw,h.ne,jZ h.lt ak⟩,?_,?_⟩
 .unfold nU
  rw[ae bo h.ho.lt aM aC];exact h.ho
 .refine au.keep λb hb=> ?_
  simp[kz]at hb;subst hb;exact aZ
 .rcases hc with hc|hc|⟨rfl,_⟩
  .exact ah c hc (.inl hn)
  .exact aR c hc hn
  .rcases aa with e|e
   .exact ah _ (E _ e).2 (.inl hn)
   .rcases hn with hn|rfl|rfl|hn
    .have:=ai.2;omega
    .have:=h.ho.lt;omega
    .have:=h.lt;omega
    .simp[kz]at hn;exact aJ hn.symm
 .refine aB.keep (by rw[vU,aG];exact jB _) (λc hc A=> ?_) λc hc A=> ?_
  .by_cases e:c=C
   .subst e;exact aY
   .rw[ug c e]
    refine aT c e ?_;rcases A with A|A|A
    .exact aj c A
    .exact aI c A
    .exact absurd A e
  .rw[vU,<-aG]at hc
   rcases A with A|A|A
   .exact .inl A
   .exact .inr (.inl A)
   .exact .inr (.inr ⟨A,A▸hc⟩)
 .refine aU.keep ak (λc hc hn=>ae c hc (λA=>hn (.inr A)) λe=>hn (.inl (.inl (by subst e;exact .inr (.inr (.inr rfl)))))) λc hc hn=> ?_
  rcases hn with hn|hn|hn|⟨rfl,_⟩
  .exact .inl (.inl hn)
  .exact .inr hn
  .exact .inl (.inr hn)
  .rcases aa with e|e
   .exact .inr (E _ e).2
   .omega
 .unfold nU
  rw[ae bw h.lt aN aD];exact hbw
 .refine⟨aH.1.trans J.os,aH.2.1.trans J.tape,aH.2.2.trans J.output,ak,λc hc=> ?_⟩
  have aW:c<w.heap.size:=by have:=ai.1;have:=ai.2;omega
  exact ae c aW (ay c (.inl hc)) (by have:=ai.2;omega)
def Eo(x:Fr)(xs:List Fr)(w:M)(B bo bw:Nat)(vr:jC)(y:qA IL)(aW:Nat->Prop)(bB:Array jC)(h:sw w B bo bw vr (x::xs))(hn:xs.length<=100)(hl:x.L.length<=100000)(hbw:nU w bw bB IT)(az:oo w aW y.ao y.sub)(bC:∀c,aW c->¬Q0 B bo bw vr c)(hL:FD w (λc=>Q0 B bo bw vr c\/aW c) (x::xs))(bD:y.lab.text.length<=jN):
  jG jy 241 #[nI #[G (txt y.lab),nH y.lab.list,y.ao],nG (U (Z bo 0 V)),nG (U (Z bw 0 V))] w
   λe w'=>e=nK (nJ #[])/\∃v',sw w' B bo bw vr (⟨v',x.L++[y],x.e⟩::xs)/\nU w' bw bB IT/\jD B w w':=by
 obtain⟨ao,aK⟩:=og y.ao;obtain⟨o,n,c,rfl,_⟩:∃o n c,ao=u o n c/\True:=by obtain⟨o,c,J,_⟩:=oo.slice az;exact⟨o,_,c,by rw[<-aK,J],trivial⟩
 rw[aK]at az|-;obtain⟨g,hg⟩:=og w.heap.size;obtain⟨oa,bO,aN⟩:=h.row.slice;have aO:(x::xs).reverse.length=xs.length+1:=nX;rw[aO]at aN;subst aN;obtain⟨go,rfl,bZ,ag,_,aX,aa,bE⟩:=qd.at_ h.row BV (i:=xs.length) (y:=x) nX;have r0:w.cell? (Z go (xs.length*2) V)=U x.v:=aa 0 nT;have r1:w.cell? (Z go (xs.length*2+1) V)=U (Y X (x.e:Nat)):=aa 1 nT;have o0:w.cell? (Z bo 0 V)=U (u (U (Z go 0 V)) (xs.length+1) bO):=h.ho.cell 0;have aY:=h.ho.lt;have aZ:jI (w.cell? (Z go (xs.length*2) V)=U x.v):=H r0;have bg:=H (vF (T:=txt y.lab) (l:=y.lab.list) (t:=IT) az);rw[hg]at bg;have ad:=H h;have bP:=H hL;have bF:=H hbw;have bQ:=H az;have bR:=H bC;clear h hL hbw az aO bC;obtain⟨N,bq⟩:=og xs.length;have aA:=H bq;rw[bq]at r0 r1 o0 hn aa aX;obtain⟨aq,aL⟩:=og x.L.length;have aB:=H aL;obtain⟨ov,cv,ay⟩:∃ov cv,x.v=u ov aq cv:=by
  obtain⟨Q,_,J,_⟩:=ad.LC;obtain⟨ov,cv,ah⟩:=J.slice;exact⟨ov,cv,by rw[ah,aL]⟩
 rw[aL]at hl;rw[ay]at r0;rw[aA.out,ay]at aZ;clear aa bq aL;go_in;go_upto_region 1 with fail;generalize w.alloc (nL #[G (txt y.lab),nH y.lab.list,u o n c] IT)=w1 at*;obtain⟨au,aP,bu,b0,b1,bz,aQ⟩:=bg.out _ rfl;have bG:=(au.cell (p:=(Z go (xs.length*2) V)) (hg▸ag)).trans (aA.out▸r0);rw[aA.out]at bG;have p0:=(au.cell (p:=(Z bo 0 V)) (hg▸aY)).trans o0;have bH:=H (jF au (jF aP aQ));clear bg au aP aQ r0 r1 o0;have bI:w1.heap.size=g+1:=by rw[bu]
 have bS:go<w1.heap.size:=K;have cz:(0:Int)<=(aq:Int):=Int.natCast_nonneg _;have cK:(aq:Int)<(aq:Int)+1:=K;have aR:∀b,(kI ov aq cv).ownBlock=U b->b<g/\b≠go:=by
  obtain⟨Q,bJ,aS,_⟩:=ad.LC;intro b hb;rw[<-ay]at hb;refine⟨hg▸(aS.1.block b hb).2.1,λe=> ?_⟩;subst e;exact bJ _ (aS.2.1 _ hb) (.inr (.inr (.inr rfl)))
 have av:=H aR;have aC:jI (∀W,w1.drew.alloc (nL #[G ⟨#[]⟩,nH O,u V 0 0] IT)=W->qd QZ 3 W 0 IT (u ov aq cv) x.L/\nU W (g+1) #[G ⟨#[]⟩,nH O,u V 0 0] IT/\jD g w W/\W.heap.size=g+2):=H λW e=>by
  subst e;have aj:jD g w (w1.drew.alloc (nL #[G ⟨#[]⟩,nH O,u V 0 0] IT)):=bH.1.drew.alloc (by rw[show w1.drew.heap.size=w1.heap.size from rfl];omega) _;have aT:(w1.drew.alloc (nL #[G ⟨#[]⟩,nH O,u V 0 0] IT)).heap.size=g+2:=by simp only[World.alloc,World.drew,Array.size_push];omega
  obtain⟨Q,_,J,_⟩:=ad.LC;refine⟨?_,?_,aj,aT⟩
  .rw[<-ay]
   exact J.1.keep λb hb=>aj.block b (hg▸(J.1.block b hb).2.1)
  .have:=nU.new w1.drew #[G ⟨#[]⟩,nH O,u V 0 0] IT
   rwa [show w1.drew.heap.size=g+1 from bI]at this
 have bT:jI (∀A cap (W w2:M),w1.drew.alloc (nL #[G ⟨#[]⟩,nH O,u V 0 0] IT)=W->qd QZ 3 w2 0 IT (u (U (Z A 0 V)) (aq+1) cap) (x.L++[ZP])->W.grownBy w2 (kI ov aq cv).ownBlock->((kI ov aq cv).ownBlock=U A\/A=W.heap.size)->
   (w2.cell? (Z go (N*2) V)=U (u ov aq cv)/\w2.cell? (Z g 0 V)=U (G (txt y.lab))/\w2.cell? (Z g 1 V)=U (nH y.lab.list)/\w2.cell? (Z g 2 V)=U (u o n c))/\
   w2.frozen? (Z go (N*2) V)=O/\A≠go/\A≠g/\(w2.cell? (Z A (aq*3) V)=U (G ⟨#[]⟩)/\w2.cell? (Z A (aq*3+1) V)=U (nH O)/\w2.cell? (Z A (aq*3+2) V)=U (u V 0 0))/\
   (w2.frozen? (Z A (aq*3) V)=O/\w2.frozen? (Z A (aq*3+1) V)=O/\w2.frozen? (Z A (aq*3+2) V)=O)/\aq+1<=cap):=H λA cap W w2 e J ah ak=>by
  obtain⟨_,_,aj,aT⟩:=aC.out W e;have aD:go<g:=hg▸ag;have f1:∀i,w2.cell? (Z go i V)=w.cell? (Z go i V):=λi=>(ah.cell_far (Z go i V) (show go<W.heap.size by omega) (λe=>(av _ e.symm).2 rfl)).trans (aj.cell (p:=(Z go i V)) aD)
  have f2:∀i,w2.frozen? (Z go i V)=w.frozen? (Z go i V):=λi=>(ah.frozen_far (Z go i V) (show go<W.heap.size by omega) (λe=>(av _ e.symm).2 rfl)).trans (aj.frozen (p:=(Z go i V)) aD)
  have aU:U g≠(kI ov aq cv).ownBlock:=λe=>by have:=(av _ e.symm).1;omega
  have f3:∀i,w2.cell? (Z g i V)=w1.cell? (Z g i V):=λi=>by
   subst e;exact(ah.cell_far (Z g i V) (show g<_ by omega) aU).trans ((jE w1.heap.size w1).drew.alloc (jB _) _|>.cell (p:=(Z g i V)) (show g<w1.heap.size by omega))
  obtain⟨cZ,bU,_,_,_,aM,hc,bA⟩:=qd.at_ J BU (i:=aq) (y:=ZP) (by rw[<-aB.out];simp);cases bU;refine⟨⟨?_,(f3 0).trans b0,(f3 1).trans b1,(f3 2).trans bz⟩,?_,?_,?_,⟨hc 0 nT,hc 1 nT,hc 2 nT⟩,⟨bA _,bA _,bA _⟩,aM⟩;.rw[f1];exact aZ
  .rw[f2];exact bE _
  .rintro rfl
   rcases ak with ak|ak
   .exact(av _ ak).2 rfl
   .omega
  .rintro rfl
   rcases ak with ak|ak
   .exact aU ak.symm
   .omega
 clear aR;go_upto_region 4 with fail;refine wB (S:=λw'=>w'.cell? (Z go (N*2) V)=U (u ov aq cv)/\w'.cell? (Z g 0 V)=U (G (txt y.lab))/\w'.cell? (Z g 1 V)=U (nH y.lab.list)/\w'.cell? (Z g 2 V)=U (u o n c)) 7 nV ⟨bG,b0,b1,bz⟩ (λE=> ?_);refine takeB 0 E ?_;refine takeB 1 E ?_;refine takeB 2 E ?_;refine takeB 3 E ?_;refine takeB 4 E ?_;refine takeB 5 E ?_;refine zW (i:=6) nV y8 (λam C=> ?_);go_simp;obtain⟨bK,bL,aV,bM⟩:=aC.out _ rfl;have ax:∀i,(w1.drew.alloc (nL #[G ⟨#[]⟩,nH O,u V 0 0] IT)).cell? (Z g i V)=w1.cell? (Z g i V):=λi=>((jE w1.heap.size w1).drew.alloc (jB _) _).cell (p:=(Z g i V)) (show g<w1.heap.size by omega)
 refine C _ _ ⟨(aV.cell (p:=(Z go (N*2) V)) (hg▸ag)).trans aZ.out,(ax 0).trans b0,(ax 1).trans b1,(ax 2).trans bz⟩ (λaF=> ?_);clear C am ax bK bL aV bM aF;try simp only[mR,jH,jQ,jR]
 refine wJ _ _ _ _ nV (wpAny_of_held (S:=λ_=>True) _ _ _ _ ?_);refine l8 (rs:=[7]) nV nX ?_;refine lg y8 (λam C=> ?_) lH;refine zn ZQ (by rfl) _ _ (by rfl) (B:=0) (L:=x.L) (y:=ZP) (by rfl) (aC _ (by rfl)).1 (by rfl) (aC _ (by rfl)).2.1 rfl nT (by rw[aB.out];omega) K ?_;intro A cap w2 ae ai aG hlt;have aH:=H (λW3=>a3G (W3:=W3) (W:=(w1.alloc (nL #[G ⟨#[]⟩,nH O,u V 0 0] IT)).drew) (N:=N) ad bF (by rw[aA.out]) aA (by rw[aK];exact bQ) bR bP bD (hg.symm▸(aC _ (by rfl)).2.2.1) ae (by rw[ay];exact ai) (by rw[ay];exact aG));rw[aB.out,aK]at aH;rw[aB.out]at ae;rw[aB.out];obtain⟨bN,z0,I,df,⟨bV,bW,bX⟩,⟨dB,dD,z3⟩,dh⟩:=bT.out A cap _ w2 (by rfl) ae ai aG;obtain⟨bY,_⟩:=bN;clear ae ai aG hlt;refine C _ _ trivial (λaf=> ?_);clear C am;try simp only[mR,jH,jQ,jR]
 refine sK 8 af ?_;refine sK 10 af ?_;refine sK 11 af ?_;refine l8 (rs:=[9,12]) nV nX ?_;refine lg y8 (λam C=> ?_) ?more;case more=>
  refine lg y8 (λam C=> ?_) lH;go_simp;refine C _ _ trivial (λaI=> ?_);clear C am;try simp only[mR,jH,jQ,jR]
  have dw:=(World.cell?_setCell_far w2 (Z go (N*2) V) (Z A (aq*3) V) (u (U (Z A 0 V)) (aq+1) cap) (nz I)).trans bV;have dx:=(World.cell?_setCell_far w2 (Z go (N*2) V) (Z A (aq*3+1) V) (u (U (Z A 0 V)) (aq+1) cap) (nz I)).trans bW;have dz:=(World.cell?_setCell_far w2 (Z go (N*2) V) (Z A (aq*3+2) V) (u (U (Z A 0 V)) (aq+1) cap) (nz I)).trans bX;refine l8 (rs:=[9]) nV nX ?_;refine lg y8 (λam C=> ?_) lH;go_simp;refine C _ _ trivial (λaJ=> ?_);clear C am;try simp only[mR,jH,jQ,jR]
  refine wpAnyH_done nV ?_ _;go_end0;refine⟨rfl,aH _ (λc J ah=> ?_) ?_ ?_ (by simp[j5]) ⟨rfl,rfl,rfl⟩⟩;.rw[uf,ug c J,jW _ _ _ _ ah]
  .rw[uf]
   exact Sw _ _ _ _ (jW _ _ _ _ I)
  .rw[uf,ug go (nz I)]
 go_simp;refine C _ _ trivial (λaI=> ?_);clear C am;try simp only[mR,jH,jQ,jR]
 have dA:(((w2.setCell (Z A (aq*3) V) (G (txt y.lab))).setCell (Z A (aq*3+1) V) (nH y.lab.list)).setCell (Z A (aq*3+2) V) (u o n c)).cell? (Z go (N*2) V)=U (u ov aq cv):=by
  rw[World.cell?_setCell_far _ _ _ _ I,World.cell?_setCell_far _ _ _ _ I,World.cell?_setCell_far _ _ _ _ I];exact bY
 refine l8 (rs:=[12]) nV nX ?_;refine lg y8 (λam C=> ?_) lH;go_simp;refine C _ _ trivial (λaJ=> ?_);clear C am;try simp only[mR,jH,jQ,jR]
 refine wpAnyH_done nV ?_ _;go_end0;refine⟨rfl,aH _ (λc J ah=> ?_) ?_ ?_ (by simp[j5]) ⟨rfl,rfl,rfl⟩⟩;.rw[uf,jW _ _ _ _ ah,ug c J]
 .rw[uf,jW _ _ _ _ I]
 .rw[uf]
  exact wC _ _ (ug go (nz I))
def WZ{w w1:M}{B bo bw:Nat}{vr:jC}{I:Nat->Prop}{E:Array jC}{T:An}{l:Bool}{v:jC}{s:List (nS IL)}(h:sw w B bo bw vr [])(hbw:nU w bw E IT)(N:oo w I v s)(aa:∀c,I c->¬Q0 B bo bw vr c)(hc:E.size=3)(C:jD w.heap.size w w1):
  sw (xw w1 bw 0 (G T) (nH l) v) B bo bw vr []/\nU (xw w1 bw 0 (G T) (nH l) v) bw #[G T,nH l,v] IT/\oo (xw w1 bw 0 (G T) (nH l) v) I v s/\jD B w (xw w1 bw 0 (G T) (nH l) v):=by
 have J:=Below.blk C hbw h.lt;have hB:jD B w (xw w1 bw 0 (G T) (nH l) v):=by
  have ae:=(C.mono (show B<=w.heap.size by have:=h.hbw;have:=h.lt;omega));exact pX.below (PS w1 bw 0 (G T) (nH l) v) ae h.hbw (by have:=C.size;have:=h.hbw;have:=h.lt;omega)
 have A:∀c,c<w.heap.size->c≠bw->(xw w1 bw 0 (G T) (nH l) v).heap[c]? =w.heap[c]? :=λc hc hn=>(ug c hn).trans (C.block c hc)
 refine⟨⟨?_,h.row.keep λb hb=>A b (h.row.block b hb).2.1 (λe=>h.nbw (e▸hb)),h.nbo,h.nbw,trivial,h.LD,h.hbw,h.ne,by rw[vU];exact jZ h.lt C.size⟩,?_,?_,hB⟩
 .unfold nU
  rw[A bo h.ho.lt h.ne];exact h.ho
 .have:=(((J.set 0 (G T)).set 1 (nH l)).set 2 v)
  have e:((E.setIfInBounds 0 (G T)).setIfInBounds 1 (nH l)).setIfInBounds 2 v=#[G T,nH l,v]:=by
   obtain⟨L⟩:=E
   match L,hc with
   |[a,b,c],_=>rfl
  rw[e]at this;exact this
 .exact Shape.om.keep N (by rw[vU];exact C.size) (λ_ _ h=>h) λc hc af=>A c hc λe=>aa c af (.inr (.inr (.inl e)))
def Bl(w:M)(B bo bw:Nat)(vr:jC)(y:qA IL)(ae:Nat->Prop)(a0 az a2:jC)(h:sw w B bo bw vr [])(hbw:nU w bw #[a0,az,a2] IT)(E:oo w ae y.ao y.sub)(ai:∀c,ae c->¬Q0 B bo bw vr c):
  jG jy 241 #[nI #[G (txt y.lab),nH y.lab.list,y.ao],nG (U (Z bo 0 V)),nG (U (Z bw 0 V))] w
   λe w'=>e=nK (nJ #[])/\sw w' B bo bw vr []/\nU w' bw #[G (txt y.lab),nH y.lab.list,y.ao] IT/\oo w' ae y.ao y.sub/\jD B w w':=by
 obtain⟨ao,aj⟩:=og y.ao;obtain⟨o,n,c,rfl,_⟩:∃o n c,ao=u o n c/\True:=by obtain⟨o,c,af,_⟩:=oo.slice E;exact⟨o,_,c,by rw[<-aj,af],trivial⟩
 rw[aj]at E|-;obtain⟨g,hg⟩:=og w.heap.size;obtain⟨oa,ak,aa⟩:=h.row.slice;have I:vr=u oa 0 ak:=aa;have o0:w.cell? (Z bo 0 V)=U (u oa 0 ak):=by rw[<-I];exact h.ho.cell 0
 have J:=h.ho.lt;have ag:=H (vF (T:=txt y.lab) (l:=y.lab.list) (t:=IT) E);have N:=H (λw1 af=>WZ (w1:=w1) (T:=txt y.lab) (l:=y.lab.list) h hbw E ai rfl af);have A:=h.lt;have c0:=hbw.cell 0;have c1:=hbw.cell 1;have c2:=hbw.cell 2;obtain⟨z0,au,av⟩:=hbw.f3;rw[hg]at ag N A J;clear h hbw E ai aa I;go_in;go_upto_region 1 with fail;generalize w.alloc (nL #[G (txt y.lab),nH y.lab.list,u o n c] IT)=w1 at*;obtain⟨C,ax,aA,b0,b1,aB,ay⟩:=ag.out _ rfl;have p0:=(C.cell (p:=(Z bo 0 V)) J).trans o0;have aC:=(C.cell (p:=(Z bw 0 V)) A).trans c0;have aD:=(C.cell (p:=(Z bw 1 V)) A).trans c1;have aF:=(C.cell (p:=(Z bw 2 V)) A).trans c2;have aG:=(C.frozen (p:=(Z bw 0 V)) A).trans z0;have aH:=(C.frozen (p:=(Z bw 1 V)) A).trans au;have y2:=(C.frozen (p:=(Z bw 2 V)) A).trans av;have ah:=H (N _ C);clear ag C ax ay N c0 c1 c2 z0 au av;go_wp2;go_returns;exact⟨rfl,ah.out⟩
end
section
def Hz{k:Nat}{l:List Ax}{m:Nat}{y:nS IL×Nat×Nat}(h:xS k l m=.ok y):0<y.2.1/\y.2.1<=l.length:=⟨(D7 k l m y h).1,(D7 k l m y h).2.1⟩
def ZR{k:Nat}:∀(f A:Nat)(l:List Ax)(m:Nat)(sub:List (nS IL)),l.length<f->l.length<A->Pk (xS k) f l m sub=Pk (xS k) A l m sub:=by
 intro f;induction f with
 |zero=>intro A l m sub h;omega
 |succ f C=>
  intro A l m sub h E;cases A with
  |zero=>omega
  |succ A=>
   simp only[Pk];split;.rfl
   .split
    .rfl
    .rename_i y hy
     obtain⟨I,J⟩:=Hz hy;exact C A _ _ _ nY nY
def AJ(s:List Ax)(at_ A:Nat):List Ax:=(s.drop at_).take (A - at_)
def ZT(k:Nat)(l:List Ax)(m:Nat)(sub:List (nS IL)):Except Nat (List (nS IL)×Nat):=Pk (xS k) (l.length+1) l m sub
def fin(s:List Ax):List (List (nS IL)×Nat)->Nat->nS IL->Nat->Nat->Except Nat (nS IL×Nat×Nat)
 |[],_,x,p,m=> .ok (x,p,m)
 |(sub,e)::st,k,x,p,m=>match ZT k (AJ s p e) m (sub++[x])with
  | .error er=> .error er
  | .ok y=>fin s st (k+1) (.node ⟨[],R⟩ y.1) e y.2
def cont(s:List Ax)(sub:List (nS IL))(e:Nat)(st:List (List (nS IL)×Nat))(k p m:Nat):Except Nat (nS IL×Nat×Nat):=match ZT k (AJ s p e) m sub with
  | .error er=> .error er
  | .ok y=>fin s st (k+1) (.node ⟨[],R⟩ y.1) e y.2
def ZU(s:List Ax)(sub:List (nS IL))(e:Nat)(st:List (List (nS IL)×Nat))(k:Nat)(x:nS IL)(p m:Nat):fin s ((sub,e)::st) k x p m=cont s (sub++[x]) e st k p m:=rfl
def ZV(s:List Ax)(e:Nat):AJ s e e=[]:=by simp[AJ]
def a3H(k m:Nat)(sub:List (nS IL)):ZT k [] m sub=.ok (sub,m):=by simp[ZT,Pk]
def Jw{s:List Ax}{sub:List (nS IL)}{e:Nat}{st:List (List (nS IL)×Nat)}{k m:Nat}:cont s sub e st k e m=fin s st (k+1) (.node ⟨[],R⟩ sub) e m:=by
 unfold cont;rw[ZV,a3H]
def Jy{k:Nat}{l:List Ax}{m:Nat}{sub:List (nS IL)}(h:l≠[]):ZT k l m sub=match xS k l m with
  | .error e=> .error (if e=2 then 3 else e)
  | .ok y=>ZT k (l.drop y.2.1) y.2.2 (sub++[y.1]):=by
 unfold ZT;conv=>lhs;rw[Pk]
 rw[As h];cases hy:xS k l m with
 |error e=>rfl
 |ok y=>
  obtain⟨A,C⟩:=Hz hy;exact ZR _ _ _ _ _ nY nX
def seg_length(s:List Ax){p e:Nat}(A:p<=e)(C:e<=s.length):(AJ s p e).length=e - p:=by simp[AJ];omega
def Jz(s:List Ax){p e:Nat}(C:p<e)(A:e<=s.length):AJ s p e≠[]:=λh=>by
 have:=congrArg List.length h;rw[seg_length s K A]at this;simp at this;omega
def Ep(s:List Ax){p e n:Nat}(h:p+n<=e):(AJ s p e).drop n=AJ s (p+n) e:=by
 unfold AJ;rw[List.drop_take,List.drop_drop,show e - p - n=e -(p+n)by omega]
def PU(s:List Ax){p e n:Nat}(h:p+n<=e):(AJ s p e).take n=AJ s p (p+n):=by
 unfold AJ;rw[List.take_take,mr K,show p+n - p=n by omega]
def ZW{s:List Ax}{sub:List (nS IL)}{e:Nat}{st:List (List (nS IL)×Nat)}{k p m er:Nat}(hp:p<e)(he:e<=s.length)(h:xS k (AJ s p e) m=.error er):
  cont s sub e st k p m=.error (if er=2 then 3 else er):=by
 unfold cont;rw[Jy (Jz s hp he),h]
def a3I{k:Nat}:∀(f:Nat)(l:List Ax)(m:Nat)(sub:List (nS IL))(er:Nat),Pk (xS k) f l m sub=.error er->er≠2:=by
 intro f;induction f with
 |zero=>intro l m sub er h;simp only[Pk]at h;cases h;decide
 |succ f A=>
  intro l m sub er h;simp only[Pk]at h;split at h;.cases h
  .split at h
   .cases h;split<;>omega
   .exact A _ _ _ _ h
def ZX{l:List Ax}{m:Nat}(h:l≠[]):xS 0 l m=.error 6:=by simp[xS,h]
def a3J{k m:Nat}:xS k [] m=.error 2:=by cases k<;>simp[xS]
def ZY{k:Nat}{l:List Ax}(h:l≠[]):xS (k+1) l 0=.error 4:=by simp[xS,h]
def ZZ{k:Nat}{l:List Ax}{m er:Nat}(h:l≠[])(A:hd l=.error er):xS (k+1) l (m+1)=.error er:=by simp[xS,h,A]
def PV{k:Nat}{l:List Ax}{m z n:Nat}(h:l≠[])(A:hd l=.ok (O,z,n)):xS (k+1) l (m+1)=.ok (.node ⟨(l.drop z).take n,O⟩ [],z+n,m):=by simp[xS,h,A]
def PW{k:Nat}{l:List Ax}{m z n:Nat}(h:l≠[])(A:hd l=.ok (R,z,n))(C:z+n<=l.length):xS (k+1) l (m+1)=match ZT k ((l.drop z).take n) m []with
  | .error e=> .error e
  | .ok y=> .ok (.node ⟨[],R⟩ y.1,z+n,y.2):=by
 simp only[xS,h,if_false,A,Nat.add_sub_cancel,if_true];rw[As K];have:((l.drop z).take n).length=n:=nY;unfold ZT;rw[this];cases Pk (xS k) (n+1) ((l.drop z).take n) m []<;>rfl
def Xa{s:List Ax}{sub:List (nS IL)}{e:Nat}{st:List (List (nS IL)×Nat)}{k p m z n:Nat}(hp:p<e)(he:e<=s.length)(h:hd (AJ s p e)=.ok (O,z,n))(A:z+n<=e - p):
  cont s sub e st (k+1) p (m+1)=cont s (sub++[.node ⟨AJ s (p+z) (p+z+n),O⟩ []]) e st (k+1) (p+z+n) m:=by
 unfold cont;rw[Jy (Jz s hp he),PV (Jz s hp he) h];simp only;rw[Ep s K,Ep s K,PU s K,<-kK]
def Xb{s:List Ax}{sub:List (nS IL)}{e:Nat}{st:List (List (nS IL)×Nat)}{k p m z n:Nat}(hp:p<e)(he:e<=s.length)(h:hd (AJ s p e)=.ok (R,z,n))(C:z+n<=e - p):
  cont s sub e st (k+1) p (m+1)=cont s [] (p+z+n) ((sub,e)::st) k (p+z) m:=by
 unfold cont;rw[Jy (Jz s hp he),PW (Jz s hp he) h (by rw[seg_length s K he];omega)];rw[Ep s K,PU s K];cases A:ZT k (AJ s (p+z) (p+z+n)) m []with
 |error er=>
  simp only;rw[As (a3I _ _ _ _ _ A)]
 |ok y=>
  simp only[fin];rw[Ep s K,<-kK]
def Dy{s:List Ax}{k m z n:Nat}(h:hd s=.ok (R,z,n))(hs:s≠[])(A:z+n<=s.length):xS (k+1) s (m+1)=cont s [] (z+n) [] k z m:=by
 rw[PW hs h A];unfold cont;have:(s.drop z).take n=AJ s z (z+n):=by unfold AJ;rw[show z+n - z=n by omega]
 rw[this];cases ZT k (AJ s z (z+n)) m []<;>rfl
end
section
open Go.RowKit
def CB:Except Nat (Bool×Nat×Nat)->jC
 | .error e=> nJ #[nH O,Y X 0,Y X 0,Y X (e:Nat)]
 | .ok q=> nJ #[nH q.1,Y X (q.2.1:Nat),Y X (q.2.2:Nat),Y X 0]
def Dp(l:List Ax)(deep A:Bool):Except Nat (Bool×Nat×Nat):=if l=[]then .error 2 else if deep then .error 6 else if A then .error 4 else hd l
def UY{l:List Ax}{k m e:Nat}(h:Dp l (At (k=0)) (At (m=0))=.error e):xS k l m=.error e:=by
 unfold Dp at h;split at h;.rename_i h0;subst h0;cases h;exact a3J
 rename_i h0;split at h;.rename_i A;simp at A;subst A;cases h;exact ZX h0
 rename_i A;obtain⟨k,rfl⟩:∃E,k=E+1:=⟨k - 1,by simp at A;omega⟩;split at h;.rename_i C;simp at C;subst C;cases h;exact ZY h0
 rename_i C;obtain⟨m,rfl⟩:∃I,m=I+1:=⟨m - 1,by simp at C;omega⟩;exact ZZ h0 h
def Z4{l:List Ax}{k m:Nat}{q:Bool×Nat×Nat}(h:Dp l (At (k=0)) (At (m=0))=.ok q):l≠[]/\0<k/\0<m/\hd l=.ok q:=by
 unfold Dp at h;split at h;.cases h
 rename_i h0;split at h;.cases h
 rename_i A;split at h;.cases h
 rename_i C;exact⟨h0,by simp at A;omega,by simp at C;omega,h⟩
def a6F{s:An}(h0:0<s.size){by' t:Nat}{L:Bool}(hL:At (192<=s[0].toNat)=L)(hb:by'=if L then 192 else 128)(ht:s[0].toNat=by'+t):
  (t<=55->hd s.data.toList=hd2 s.data.toList L 1 t)/\
  (∀k,t=55+k->0<k->(s.size<1+k->hd s.data.toList=.error 2)/\(1+k<=s.size->
   (s.extract 1 (1+k)).data.toList=(s.data.toList.drop 1).take k/\
   (((s.data.toList.drop 1).head? =U 0\/tX ((s.data.toList.drop 1).take k)<56)->hd s.data.toList=.error 3)/\
   (¬((s.data.toList.drop 1).head? =U 0\/tX ((s.data.toList.drop 1).take k)<56)->hd s.data.toList=hd2 s.data.toList L (1+k) (tX ((s.data.toList.drop 1).take k))))):=by
 have hl:=tZ s h0;have hlen:s.data.toList.length=s.size:=nX;have E:by'=if 192<=s[0].toNat then 192 else 128:=by rw[hb,<-hL];simp
 have A:¬s[0].toNat<128:=by
  rw[hb]at ht;split at ht<;>omega
 generalize I:s.data.toList.drop 1=r at*;have key:hd s.data.toList=if t<=55 then hd2 s.data.toList L 1 t else if s.data.toList.length<1+(t - 55)then .error 2 else if(r.head? =U 0\/tX (r.take (t - 55))<56)then .error 3 else hd2 s.data.toList L (1+(t - 55)) (tX (r.take (t - 55))):=by
  conv=>lhs;rw[hl]
  simp only[hd];rw[As A,<-E,ht,hL.symm,ht,Nat.add_sub_cancel_left,<-hl]
 refine⟨λh=>by rw[key,AC h],?_⟩;rintro k rfl hk;rw[show 55+k - 55=k by omega,As K,hlen]at key;refine⟨λh=>by rw[key,AC h],λh=>⟨?_,λC=>by rw[key,As K,AC C],λC=>by rw[key,As K,As C]⟩⟩;rw[<-I];simp only[ByteArray.data_extract,Array.toList_extract,List.extract];rw[show 1+k - 1=k by omega]
def Sy{l:List Ax}{k:Nat}(hk:0<k)(I:k<=8)(hl:k<=l.length):
  ((l.head? =U 0\/tX (l.take k)<56)/\(pM (l.take k)=(0,3)\/∃v,v<=55/\pM (l.take k)=(v,0)))\/
   (¬(l.head? =U 0\/tX (l.take k)<56)/\pM (l.take k)=(tX (l.take k),0)/\56<=tX (l.take k)/\tX (l.take k)<18446744073709551616):=by
 cases l with
 |nil=>simp at hl;omega
 |cons b r=>
  obtain⟨j,rfl⟩:∃j,k=j+1:=⟨k - 1,K⟩;rw[jY];have C:(r.take j).length=j:=by simp at hl|-;omega
  have J:=Hg (b::r.take j);rw[j4,C]at J;have hp:=IB (j+1) I;simp only[List.head?_cons,mI];by_cases hb:b=0
  .left
   refine⟨.inl hb,.inl ?_⟩;rw[pM,As K,AC (by rw[hb];rfl)]
  .have E:¬b.toNat=0:=λh=>hb (lX.1 h)
   have e:pM (b::r.take j)=(tX (b::r.take j),0):=by rw[pM,As K,As E]
   by_cases A:tX (b::r.take j)<56;.exact .inl ⟨.inr A,.inr ⟨_,K,e⟩⟩
   .exact .inr ⟨λh=>h.elim hb A,e,K,K⟩
def Xc{l:List Ax}{L:Bool}{z n:Nat}(h:l.length - z<n):hd2 l L z n=.error 2:=by unfold hd2;rw[AC h]
def UZ{p:Prop}(h:p:=by
 have hq:=H (HT.1 c);go_wp2_with fail;go_meet;exact⟨1,t,by first|rfl|(simp;omega),rfl,by congr 1;have:=HE.out;omega,K,K,K,hq,rfl⟩):p:=h
def FE{p:Prop}(h:p:=by
 go_wp2;go_returns;exact⟨by rw[hq.out,hE.out];rfl,rfl⟩):p:=h
def a5u{p:Prop}(h:p:=by
 go_upto_region 16 with fail;simp only[show(1+(k:Int))=((1+k:Nat):Int)by omega];by_cases c2:s.size<1+k
 .have hR:=H (HK.1 c2)
  have d3:At (s.size<1+k)=R:=nY;go_wp2;go_returns;exact⟨by rw[hR.out];rfl,rfl⟩
 .have d3:At (s.size<1+k)=O:=nY
  have hk1:1+k<=s.size:=K;have CG:=H (zP (s.extract 1 (1+k)) w (by simp[jP];unfold jN;omega));obtain⟨hx1,hx2,hx3⟩:=HK.2 hk1;rw[hx1]at CG;have Yj:=H hx2;have HX3:=H hx3;have hg:=HG.out k hk0 hk8 (by rw[kG,HL.out];omega);clear hx1 hx2 hx3 HK HG HT c2 c hk;generalize pM ((s.data.toList.drop 1).take k)=an at*;generalize (s.data.toList.drop 1).take k=tk at*;rcases hg with⟨hbad,hg⟩|⟨hgood,rfl,hv1,hv2⟩
  .have hR:=H (Yj hbad)
   clear Yj HX3 hbad;rcases hg with rfl|⟨v,hv,rfl⟩
   .go_wp2_with fail
    refine CG.mono ?_;rintro e w1 ⟨rfl,rfl⟩;simp only[n2];go_wp2;go_returns;exact⟨by rw[hR.out];rfl,rfl⟩
   .have d4:At (v<=55)=R:=nY
    go_wp2_with fail;refine CG.mono ?_;rintro e w1 ⟨rfl,rfl⟩;simp only[n2];go_wp2;go_returns;exact⟨by rw[hR.out];rfl,rfl⟩
  .have hR:=H (HX3 hgood)
   clear Yj HX3 hgood;generalize tX tk=v at*;have d4:At (v<=55)=O:=nY;by_cases c5:s.size<v
   .have d5:At (s.size<v)=R:=nY
    have hE:=H (HS (1+k) v (by rw[HL.out];omega));go_wp2_with fail;refine CG.mono ?_;rintro e w1 ⟨rfl,rfl⟩;simp only[n2];go_wp2;go_returns;exact⟨by rw[hR.out,hE.out];rfl,rfl⟩
   .have d5:At (s.size<v)=O:=nY
    have hvs:v<=100000:=K;go_wp2_with fail;refine CG.mono ?_;rintro e w1 ⟨rfl,rfl⟩;simp only[n2];go_wp2_with fail;go_meet;exact⟨1+k,v,by first|rfl|(simp;omega),rfl,rfl,K,hk1,hvs,hR,rfl⟩):p:=h
def Nh(s:An)(w:M)(hs:s.size<=100000)(h0:0<s.size)(hb:128<=s[0].toNat):
  jG jy 242 #[G s,nH O,nH O] w λe w'=>e=nK (CB (hd s.data.toList))/\w'=w:=by
 have aA:=Bh s h0;have I:s[0].toNat<=255:=by have:=s[0].toNat_lt;omega
 have hlen:s.data.toList.length=s.size:=nX;obtain⟨L,hL⟩:=og (At (192<=s[0].toNat));obtain⟨ar,hR⟩:=og (hd s.data.toList);have ae:=H (λt by'=>a6F h0 (by':=by') (t:=t) hL);have HG:=H (λk=>Sy (l:=s.data.toList.drop 1) (k:=k));have HS:=H (λz n (h:s.data.toList.length - z<n)=>Xc (l:=s.data.toList) (L:=L) (z:=z) (n:=n) h);have HL:=H hlen;rw[hR]at ae|-;clear hR hlen;have au:At (s[0].toNat<128)=O:=nY;obtain⟨b,hb0⟩:=og (s[0].toNat);rw[hb0]at au;obtain⟨t,by',E,ht⟩:∃t by',(by'=if L then 192 else 128)/\b=by'+t:=by
  cases L with
  |true=>exact⟨b - 192,192,rfl,by simp at hL;omega⟩
  |false=>exact⟨b - 128,128,rfl,K⟩
 have HT:=H (ae t by' E (hb0.trans ht));have HE:=H ht;have J:=H E;have av:At (192<=b)=L:=by rw[<-hL,hb0]
 clear ae hL ht E;go_in;cases L with
 |true=>
  obtain rfl:by'=192:=J.out;have ag:192<=b:=by have:=HE.out;omega
  have ah:b<=255:=K;clear I;go_upto_if 38 with(fail)
  go_cut [6,7,8] (λa b c af=>∃A N:Nat,a=nH R/\b=Y X (A:Int)/\c=Y X (N:Int)/\1<=A/\A<=s.size/\N<=100000/\jI (ar=hd2 s.data.toList R A N)/\af=w);case first=>
   by_cases c:t<=55
   .have C:b<=247:=by have:=HE.out;omega
    exact UZ
   .obtain⟨k,hk⟩:∃k,t=55+k:=⟨t - 55,K⟩
    have hk0:0<k:=K;have hk8:k<=8:=by have:=HE.out;omega
    have HK:=H (HT.2 k hk hk0);have C:247<b:=by have:=HE.out;omega
    have ax:(1+((b:Int) - 192 - 55))=((1+k:Nat):Int):=by have:=HE.out;omega
    exact a5u
  case rest=>
   obtain⟨A,N,rfl,rfl,rfl,ai,ay,az,hq,rfl⟩:=hcut;by_cases c1:s.size - A<N
   .have hE:=H (HS A N (by rw[HL.out];omega))
    have C:At ((s.size:Int) -(A:Int)<(N:Int))=R:=nY;clear c1;exact FE
   .have C:At ((s.size:Int) -(A:Int)<(N:Int))=O:=nY
    have aj:N<=s.size - A:=K;clear c1;have hE:jI (hd2 s.data.toList R A N=.ok (R,A,N)):=H (by unfold hd2;rw[As (by rw[HL.out];omega),As nX]);exact FE
 |false=>
  obtain rfl:by'=128:=J.out;have ag:128<=b:=by have:=HE.out;omega
  have aB:b<192:=by simpa using av
  have ah:b<=255:=K;clear I;go_upto_if 38 with(fail)
  go_cut [6,7,8] (λa b c af=>∃A N:Nat,a=nH O/\b=Y X (A:Int)/\c=Y X (N:Int)/\1<=A/\A<=s.size/\N<=100000/\jI (ar=hd2 s.data.toList O A N)/\af=w);case first=>
   by_cases c:t<=55
   .have C:b<=183:=by have:=HE.out;omega
    exact UZ
   .obtain⟨k,hk⟩:∃k,t=55+k:=⟨t - 55,K⟩
    have hk0:0<k:=K;have hk8:k<=8:=by have:=HE.out;omega
    have HK:=H (HT.2 k hk hk0);have C:183<b:=by have:=HE.out;omega
    have ax:(1+((b:Int) - 128 - 55))=((1+k:Nat):Int):=by have:=HE.out;omega
    exact a5u
  case rest=>
   obtain⟨A,N,rfl,rfl,rfl,ai,ay,az,hq,rfl⟩:=hcut;by_cases c1:s.size - A<N
   .have hE:=H (HS A N (by rw[HL.out];omega))
    have C:At ((s.size:Int) -(A:Int)<(N:Int))=R:=nY;clear c1;exact FE
   .have C:At ((s.size:Int) -(A:Int)<(N:Int))=O:=nY
    have aj:N<=s.size - A:=K;clear c1;by_cases c2:N=1
    .subst c2
     have ak:A<s.size:=K;have aa:jI (s.data.toList.getD A 0=s[A]):=H (by rw[kL,jL (by rw[HL.out];exact ak)];rfl);by_cases c3:s[A].toNat<128
     .have hE:jI (hd2 s.data.toList O A 1=.error 3):=H (by unfold hd2;rw[As (by rw[HL.out];omega),AC ⟨rfl,rfl,by rw[aa.out];exact c3⟩])
      have d3:At (s[A].toNat<128)=R:=nY;exact FE
     .have hE:jI (hd2 s.data.toList O A 1=.ok (O,A,1)):=H (by unfold hd2;rw[As (by rw[HL.out];omega),As (by rw[aa.out];intro h;exact c3 h.2.2)])
      have d3:At (s[A].toNat<128)=O:=nY;exact FE
    .have hE:jI (hd2 s.data.toList O A N=.ok (O,A,N)):=H (by unfold hd2;rw[As (by rw[HL.out];omega),As (λh=>c2 h.2.1)])
     have d3:((N:Int)==1)=O:=vo;clear c2;exact FE
def Ni{p:Prop}(h:p:=by
 go_in;go_wp2;go_returns;exact⟨by rw[hR.out];rfl,rfl⟩):p:=h
def PX(s:An)(deep A:Bool)(w:M)(hs:s.size<=100000):
  jG jy 242 #[G s,nH deep,nH A] w λe w'=>e=nK (CB (Dp s.data.toList deep A))/\w'=w:=by
 by_cases h0:s.size=0
 .have e:s=⟨#[]⟩:=R5 (mh.1 (by simpa using h0))
  subst e;have hR:jI (Dp (⟨#[]⟩:An).data.toList deep A=.error 2):=H rfl;exact Ni
 have hp:0<s.size:=K;have C:s.data.toList≠[]:=λh=>h0 (by have:=congrArg List.length h;simpa using this)
 have I:=Bh s hp;cases deep with
 |true=>
  have hR:jI (Dp s.data.toList R A=.error 6):=H (by simp[Dp,C]);clear C;exact Ni
 |false=>
  cases A with
  |true=>
   have hR:jI (Dp s.data.toList O R=.error 4):=H (by simp[Dp,C]);clear C;exact Ni
  |false=>
   have hR:jI (Dp s.data.toList O O=hd s.data.toList):=H (by simp[Dp,C]);rw[hR.out];by_cases hb:s[0].toNat<128
   .have E:jI (hd s.data.toList=.ok (O,0,1)):=H (by rw[tZ s hp];simp only[hd];rw[AC hb])
    clear C hR;go_in;go_wp2;go_returns;exact⟨by rw[E.out];rfl,rfl⟩
   .exact Nh s w hs hp K
def lvl(x:Fr):List (nS IL)×Nat:=(x.L.map qA.tree,x.e)
def Ends:Nat->List Fr->Nat->Prop
 |p,[],S=>p<=S
 |p,x::xs,S=>p<=x.e/\Ends x.e xs S
def Ends.le:∀{st:List Fr}{p S:Nat},Ends p st S->p<=S
 |[],_,_,h=>h
 |x::xs,_,_,h=>jM h.1 (Ends.le h.2)
def rR:Array jC:=#[G ⟨#[]⟩,nH O,u V 0 0]
abbrev RdR:Type:=Except Nat (nS IL×Nat×Nat)
def b0o(s:List Ax)(am aq:Nat)(ar:RdR)(B bo bw:Nat)(vr:jC)(w:M)(p c:Nat):List Fr->Prop
 |[]=>∃(x:nS IL) (v:jC) (A:Nat->Prop),ar=.ok (x,p,aq - c)/\nU w bw #[G (txt x.lab),nH x.lab.list,v] IT/\oo w A v x.sub/\(∀c,A c->¬Q0 B bo bw vr c)
 |x::xs=>nU w bw rR IT/\ar=cont s (x.L.map qA.tree) x.e (xs.map lvl) (am -(xs.length+1)) p (aq - c)
structure wT(s:List Ax)(am aq:Nat)(ar:RdR)(B bo bw:Nat)(w0 w:M)(p c:Nat)(vr:jC)(st:List Fr):Prop where
 CE:sw w B bo bw vr st
 below:jD B w0 w
 hc:c<=aq
 len:st.length<=am
 Ls:(st.map λx=>x.L.length).sum+st.length<=c
 ends:Ends p st s.length
 res:b0o s am aq ar B bo bw vr w p c st
def Z5:xZ jy 275 RT 2:=⟨Tryz.underlying275,⟨.agg #[.slice V 0 0,.int .i64 0],32,by
 obtain⟨i,A,C,E,I⟩:=info_parts (show(Tryz.prog.info? RT).map (λi=>(i.zero,i.size,i.bytes))=U (U (nI #[u V 0 0,Y X 0]),2,32)by kernel_rfl);exact⟨i,A,C,E,I,nT,rfl⟩⟩,nT⟩
def PY{w w1 w2:M}{B bo bw g cap:Nat}{vr:jC}{st:List Fr}{f:Fr}(h:sw w B bo bw vr st)(E:jD w.heap.size w w1)(ae:f.v=u V 0 0/\f.L=[])(hrow:qd rf2 2 w2 B RT (u (U (Z g 0 V)) (st.length+1) cap) (st.reverse++[f]))(hg:w1.grownBy w2 vr.ownBlock)(I:vr.ownBlock=U g\/g=w1.heap.size):
  sw (w2.setCell (Z bo 0 V) (u (U (Z g 0 V)) (st.length+1) cap)) B bo bw (u (U (Z g 0 V)) (st.length+1) cap) (f::st)/\
   jD B w (w2.setCell (Z bo 0 V) (u (U (Z g 0 V)) (st.length+1) cap))/\
   ∀c,c<w.heap.size->c≠bo->vr.ownBlock≠U c->(w2.setCell (Z bo 0 V) (u (U (Z g 0 V)) (st.length+1) cap)).heap[c]? =w.heap[c]? :=by
 have ag:=E.size;have ah:=hg.size;have A:∀c,c<w.heap.size->c≠bo->vr.ownBlock≠U c->(w2.setCell (Z bo 0 V) (u (U (Z g 0 V)) (st.length+1) cap)).heap[c]? =w.heap[c]? :=λc hc hn ai=>
  (jW _ _ _ _ hn).trans ((hg.block c K (λe=>ai e.symm)).trans (E.block c hc))
 have C:nU w1 bo #[vr] OT:=Below.blk E h.ho h.ho.lt;have N:nU w2 bo #[vr] OT:=by
  unfold nU;rw[hg.block bo C.lt (λe=>h.nbo e.symm)];exact C
 have J:g≠bo:=by
  rintro rfl;rcases I with e|e
  .exact h.nbo e
  .have:=C.lt;omega
 have aa:g≠bw:=by
  rintro rfl;rcases I with e|e
  .exact h.nbw e
  .have:=h.lt;omega
 have hsz:(w2.setCell (Z bo 0 V) (u (U (Z g 0 V)) (st.length+1) cap)).heap.size=w2.heap.size:=by simp[j5]
 refine⟨⟨N.set 0 _,?_,?_,?_,⟨λ_=>False,λc hc=>hc.elim,?_,?_⟩,h.LD,h.hbw,h.ne,by rw[hsz];exact jZ h.lt K⟩,?_,A⟩
 .rw[List.reverse_cons]
  exact hrow.keep λb hb=>by
   simp[kz]at hb;exact jW _ _ _ _ (by show b≠bo;exact hb▸J)
 .intro e;simp[kz]at e;exact J e
 .intro e;simp[kz]at e;exact aa e
 .rw[ae.1,ae.2];exact uK.nil _ _
 .refine h.LC.keep (by rw[hsz];omega) (λc hc hn=>A c hc (λe=>hn (.inr (.inl e))) λe=>hn (.inr (.inr (.inr e)))) λc hc hn=> ?_
  rcases hn with(hn|hn|hn|hn)|hn
  .exact .inl hn
  .exact .inr (.inl hn)
  .exact .inr (.inr (.inl hn))
  .simp[kz]at hn
   subst hn;rcases I with e|e
   .exact .inr (.inr (.inr e))
   .omega
  .exact hn.elim
 .refine⟨?_,?_,?_,by rw[hsz];omega,λc hc=> ?_⟩
  .exact hg.os.trans E.os
  .exact hg.tape.trans E.tape
  .exact hg.output.trans E.output
  .have af:c<w.heap.size:=by have:=h.LD;have:=h.ho.lt;omega
   refine A c af (by have:=h.LD;omega) λe=> ?_
   have:=(h.row.block c e).1;omega
def U0{p:Prop}(h:p:=by
 have e:(x::xs).reverse.take N=xs.reverse:=by
  rw[List.reverse_cons,List.take_append_of_le_length (by simp[hN]),kS (by simp[hN])]
 rwa [e]at this):p:=h
def U1{w:M}{B bo bw go A N:Nat}{x:Fr}{xs:List Fr}(h:sw w B bo bw (u (U (Z go 0 V)) (N+1) A) (x::xs))(hN:xs.length=N):
  ∃Q:Nat->Prop,sw (w.setCell (Z bo 0 V) (u (U (Z go 0 V)) N A)) B bo bw (u (U (Z go 0 V)) N A) xs/\uK (w.setCell (Z bo 0 V) (u (U (Z go 0 V)) N A)) Q x.v x.L/\
   (∀c,Q c->¬Q0 B bo bw (u (U (Z go 0 V)) N A) c)/\FD (w.setCell (Z bo 0 V) (u (U (Z go 0 V)) N A)) (λc=>Q0 B bo bw (u (U (Z go 0 V)) N A) c\/Q c) xs/\
   jD B w (w.setCell (Z bo 0 V) (u (U (Z go 0 V)) N A))/\(∀c,c≠bo->(w.setCell (Z bo 0 V) (u (U (Z go 0 V)) N A)).heap[c]? =w.heap[c]?):=by
 obtain⟨Q,I,aa,ae⟩:=h.LC;have hsz:(w.setCell (Z bo 0 V) (u (U (Z go 0 V)) N A)).heap.size=w.heap.size:=by simp[j5]
 have C:∀c,c≠bo->(w.setCell (Z bo 0 V) (u (U (Z go 0 V)) N A)).heap[c]? =w.heap[c]? :=λc hn=>jW _ _ _ _ hn
 have ag:∀c,Q0 B bo bw (u (U (Z go 0 V)) N A) c<->Q0 B bo bw (u (U (Z go 0 V)) (N+1) A) c:=λc=>Iff.rfl
 have J:∀c,Q c->c≠bo:=λc hc e=>I c hc (.inr (.inl e))
 have E:FD (w.setCell (Z bo 0 V) (u (U (Z go 0 V)) N A)) (λc=>Q0 B bo bw (u (U (Z go 0 V)) N A) c\/Q c) xs:=
  ae.keep (by rw[hsz];exact jB _) (λc _ hn=>C c λe=>hn (.inl (.inr (.inl e)))) λc _ hn=>hn
 have af:go≠bo:=λe=>h.nbo (by subst e;rfl)
 refine⟨Q,⟨h.ho.set 0 _,?_,h.nbo,h.nbw,E.keep (jB _) (λ_ _ _=>rfl) λc _ hn=> .inl hn,h.LD,h.hbw,h.ne,by rw[hsz];exact h.lt⟩,?_,λc hc=>I c hc,E,?_,C⟩
 .have:=(qd.cut h.row BV (m:=N) (by simp[hN])).keep (w':=w.setCell (Z bo 0 V) (u (U (Z go 0 V)) N A)) λb hb=>by
   simp[kz]at hb;exact C b (by rw[<-hb];exact af)
  exact U0
 .exact aa.keep (by rw[hsz];exact jB _) (λc _ hc=>C c (J c hc)) λc _ hc=>hc
 .exact⟨rfl,rfl,rfl,by rw[hsz];exact jB _,λc hc=>C c (by have:=h.LD;omega)⟩
def PZ{w:M}{Q:Nat->Prop}{o:Option kW}{n c:Nat}{s:List (nS IL)}(h:oo w Q (u o n c) s):oo w Q (u o n n) s:=by
 obtain⟨oa,cap,e,A,C,E⟩:=h;cases e;exact⟨_,_,rfl,jB _,jM A C,E⟩
section
variable {s:List Ax}{am aq:Nat}{ar:RdR}{B bo bw:Nat}{w0 w w':M}{p c:Nat}{vr:jC}
def wT.err{x:Fr}{xs:List Fr}(h:wT s am aq ar B bo bw w0 w p c vr (x::xs))(hp:p<x.e){er:Nat}(A:Dp (AJ s p x.e) (At (am<=(x::xs).length)) (At (aq<=c))=.error er):ar=.error (if er=2 then 3 else er):=by
 rw[h.res.2];refine ZW hp (Ends.le h.ends.2) (UY ?_);rw[<-A];congr 1;.rw[decide_eq_decide];have:=h.len;simp at this|-;omega
 .rw[decide_eq_decide];have:=h.hc;omega
def wT.head{x:Fr}{xs:List Fr}(h:wT s am aq ar B bo bw w0 w p c vr (x::xs))(hp:p<x.e){q:Bool×Nat×Nat}(A:Dp (AJ s p x.e) (At (am<=(x::xs).length)) (At (aq<=c))=.ok q):
  (x::xs).length<am/\c<aq/\hd (AJ s p x.e)=.ok q/\q.2.1+q.2.2<=x.e - p/\0<q.2.1+q.2.2/\x.e<=s.length:=by
 have he:=Ends.le h.ends.2;have e1:At (am<=(x::xs).length)=At (am -(x::xs).length=0):=by rw[decide_eq_decide];omega
 have e2:At (aq<=c)=At (aq - c=0):=by rw[decide_eq_decide];omega
 rw[e1,e2]at A;obtain⟨J,N,aa,C⟩:=Z4 A;obtain⟨E,I,_⟩:=M0 C;rw[seg_length s K he]at E;exact⟨K,K,C,E,I,he⟩
def wT.text{x:Fr}{xs:List Fr}(h:wT s am aq ar B bo bw w0 w p c vr (x::xs))(hp:p<x.e){z n:Nat}(A:Dp (AJ s p x.e) (At (am<=(x::xs).length)) (At (aq<=c))=.ok (O,z,n)){v':jC}{y:qA IL}(hy:y.tree=.node ⟨AJ s (p+z) (p+z+n),O⟩ [])(hs:sw w' B bo bw vr (⟨v',x.L++[y],x.e⟩::xs))(hb:nU w' bw rR IT)(E:jD B w w'):
  wT s am aq ar B bo bw w0 w' (p+z+n) (c+1) vr (⟨v',x.L++[y],x.e⟩::xs):=by
 obtain⟨I,af,J,C,N,aa⟩:=h.head hp A;simp only at C N;refine⟨hs,h.below.trans E,K,h.len,by have:=h.Ls;simp at this|-;omega,⟨by show p+z+n<=x.e;omega,h.ends.2⟩,hb,?_⟩
 .rw[h.res.2]
  simp only[j4]at I;obtain⟨k,hk⟩:∃k,am -(xs.length+1)=k+1:=⟨am -(xs.length+1) - 1,K⟩;obtain⟨m,ae⟩:∃m,aq - c=m+1:=⟨aq - c - 1,K⟩;rw[hk,ae,Xa hp aa J C,show aq -(c+1)=m by omega];simp[hy]
def wT.list{x:Fr}{xs:List Fr}(h:wT s am aq ar B bo bw w0 w p c vr (x::xs))(hp:p<x.e){z n:Nat}(C:Dp (AJ s p x.e) (At (am<=(x::xs).length)) (At (aq<=c))=.ok (R,z,n)){v' A:jC}(hs:sw w' B bo bw A (⟨v',[],p+z+n⟩::x::xs))(hb:nU w' bw rR IT)(J:jD B w w'):
  wT s am aq ar B bo bw w0 w' (p+z) (c+1) A (⟨v',[],p+z+n⟩::x::xs):=by
 obtain⟨E,ag,N,I,aa,ae⟩:=h.head hp C;simp only at I aa;refine⟨hs,h.below.trans J,K,by simp only[j4]at E|-;omega,by have:=h.Ls;simp at this|-;omega,⟨by show p+z<=p+z+n;omega,by show p+z+n<=x.e;omega,h.ends.2⟩,hb,?_⟩
 .rw[h.res.2]
  simp only[j4]at E;obtain⟨k,hk⟩:∃k,am -(xs.length+1)=k+1:=⟨am -(xs.length+1) - 1,K⟩;obtain⟨m,af⟩:∃m,aq - c=m+1:=⟨aq - c - 1,K⟩;rw[hk,af,Xb hp ae N I,show aq -(c+1)=m by omega,show am -((x::xs).length+1)=k by simp;omega];rfl
def wT.close{x A:Fr}{xs:List Fr}(h:wT s am aq ar B bo bw w0 w p c vr (x::A::xs))(hp:x.e=p){v' C:jC}{y:qA IL}(hy:y.tree=.node ⟨[],R⟩ (x.L.map qA.tree))(hs:sw w' B bo bw C (⟨v',A.L++[y],A.e⟩::xs))(hb:nU w' bw rR IT)(E:jD B w w'):wT s am aq ar B bo bw w0 w' p c C (⟨v',A.L++[y],A.e⟩::xs):=by
 subst hp;refine⟨hs,h.below.trans E,h.hc,by have:=h.len;simp at this|-;omega,by have:=h.Ls;simp at this|-;omega,⟨h.ends.2.1,h.ends.2.2⟩,hb,?_⟩
 .rw[h.res.2,Jw]
  show fin s ((A.L.map qA.tree,A.e)::xs.map lvl) _ _ _ _=_;rw[ZU];have:=h.len;simp only[j4]at this|-;rw[show am -(xs.length+1+1)+1=am -(xs.length+1)by omega];simp[hy]
def wT.whole{x:Fr}(h:wT s am aq ar B bo bw w0 w p c vr [x])(hp:x.e=p){A v:jC}{C:Nat->Prop}(hs:sw w' B bo bw A [])(hb:nU w' bw #[G ⟨#[]⟩,nH R,v] IT)(E:oo w' C v (x.L.map qA.tree))(I:∀c,C c->¬Q0 B bo bw A c)(J:jD B w w'):wT s am aq ar B bo bw w0 w' p c A []:=by
 subst hp;refine⟨hs,h.below.trans J,h.hc,nX,nX,Ends.le h.ends.2,?_⟩;refine⟨nS.node ⟨[],R⟩ (x.L.map qA.tree),v,C,?_,hb,E,I⟩;rw[h.res.2,Jw];rfl
end
end
end Go.Proofs.YtamfcjmhnndbdaaGreatDoor


