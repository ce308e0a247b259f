/- Part 13 of the proof. -/
import Derived.Test.YtamfcjmhnndbdaaGreatDoorZm00
import Derived.Test.YtamfcjmhnndbdaaGreatDoorZm09
import Derived.Test.YtamfcjmhnndbdaaGreatDoorZm10
import Derived.Test.YtamfcjmhnndbdaaGreatDoorZm05
import Derived.Test.YtamfcjmhnndbdaaGreatDoorZm11
import Derived.Test.YtamfcjmhnndbdaaGreatDoorZm12
import Derived.Laws.CopyOwn
import Derived.Lib.SliceRun
open Go.Value renaming agg→nD,bool→nC,int→nk,pointer→nA,slice→ny,string→nz,tuple→nE,ownBlock→kJ,slice→kM
open Go.Obj renaming cells→nH
open Go.IntKind renaming i64→nI,u32→nK,u64→nJ
open Go.Ending renaming returned→nG,returned→lJ
open Go.Lib renaming hid→jH,trimRightB→lC
open Go.Proofs.Tryz renaming prog→jI,underlying86→l6
open Go renaming World→jJ,Value→jP,Calls→jV,bodyPost_ret→jZ,maxLen→j3,TypeId→ko,undef→kI,results→kQ,Addr→lH,Oper→lY
open Nat renaming le_refl→jK,le_trans→jY,lt_of_lt_of_le→kG,zero_le→kH,le_succ→kV,le_of_eq→mR,le_of_lt→mX
open List renaming setIfInBounds_toArray→jL,getElem?_cons_succ→jM,getElem?_cons_zero→jN,getElem?_toArray→jO,set_cons_zero→jQ,set_cons_succ→jR,getElem?_eq_getElem→jW,take_succ_cons→ky,take_zero→kL,length_drop→kX,getElem?_eq_some_iff→lF,size_toArray→mP,length_eq_zero_iff→mU
open Go.RowKit renaming Below→jS,Hid→jX
open Go.RowKit.Below renaming refl→jT,heap_setCell→j6
open And renaming intro→jU
open Array renaming getElem?_eq_some_iff→ku,length_toList→kY
open Go.World renaming setCell→kz,cell?→mI
open ByteArray renaming size_extract→kC
open Go.Act renaming put→kE
open Go.Code renaming region→ll
open Bool renaming false_eq_true→lV
open Go.Sem renaming run→l7
open Option renaming none→V,some→U
open Go.Addr renaming mk→Z
namespace Go.Proofs.YtamfcjmhnndbdaaGreatDoor
set_option linter.unusedVariables false
set_option linter.unusedSimpArgs false
set_option maxRecDepth 100000
set_option maxHeartbeats 8000000
variable {a0:Act}{e:ko}
section
open Go.RowKit
def zm4:Array jP:=#[nz ⟨#[]⟩,nz ⟨#[]⟩,nC false,ny V 0 0]
def VK(g rb:Nat)(f:vP)(x:RC)(w0 W:jJ):Prop:=jS g w0 W/\nP W g #[nk nJ f.id,nz f.name,nz f.body] rq/\nP W (g+1) zm4 zq/\nP W rb x.cs Fg
theorem VK.up{g rb:Nat}{f:vP}{x:RC}{w0 W A:jJ}(hl:g+1<rb)(h:VK g rb f x w0 W)(_:rb<W.heap.size)(hb:jS (rb+1) W A):VK g rb f x w0 A:=
 ⟨h.1.trans (hb.mono nL),Below.blk hb h.2.1 nL,Below.blk hb h.2.2.1 nL,Below.blk hb h.2.2.2 nL⟩
noncomputable def Fw:List lY:=cO (cL (cR (cR (cR (cR (cB Tryz.f64))))))
section
variable (g r rb:Nat)(c:oF)(f:vP)(x:RC)(w0:jJ)(fn:FuncId)(T:ByteArray)(li:Bool)(S:List (nM IL))(er:Nat)(Ps:Option lH->Nat->Prop)
def yQ:Nat->jP
 |0=> nA (U (Z r 0 V))
 |1=> nA (U (Z r 0 V))
 |2=> nA (U (Z r 8 V))
 |3=> nA (U (Z r 9 V))
 |4=> .func (.func fn) #[nD #[nk nI c.dep,nk nI c.oV]] #[]
 |5=> nA (U (Z rb 3 V))
 |6=> nD #[nk nI x.k,nk nI x.z,ny x.ou x.nu x.cu,nk nI x.tl]
 |7=> nA (U (Z g 2 V))
 |8=> nz f.body
 |12=> nk nI (er)
 |15=> nk nI (er)
 |_=>kI
structure a6s(D:Nat->Bool)(vs:Nat->jP)(w:jJ):Prop where
 oH:A7 (VK g rb f x w0) (rb) (λov cv=>#[nz T,nC li,ny ov S.length cv]) (er) (AZ) IT (Ps) (S) (D 9) (D 10) (D 11) (D 13) (D 14) (vs 9) (vs 10) (vs 11) (vs 13) w
 val:∀j,(j !=9&&j !=10&&j !=11&&j !=13)=true->D j=true->vs j=yQ g r rb c f x fn er j
variable {g r rb c f x w0 fn T li S er Ps}
theorem a1B{id:Nat}{Q:Exit->Act->jJ->Prop}{ah:jJ}(ht0:a0.tmps.getD 0 kI=nA (U (Z r 0 V)))(Qi:∀W,VK g rb f x w0 W->W.cell? (Z r 9 V)=U (.func (.func fn) #[nD #[nk nI c.dep,nk nI c.oV]] #[]))(Ay:a0.tmps.getD 6 kI=nA (U (Z rb 0 V)))(ht3:a0.tmps.getD 3 kI=nA (U (Z g 0 V)))(hget:∀W,VK g rb f x w0 W->jV jI fn #[nD #[nk nI c.dep,nk nI c.oV],nD #[nk nI x.k,nk nI x.z,ny x.ou x.nu x.cu,nk nI x.tl],nz f.body] W λe aa=>∃ov cv,Ps ov cv/\e=nG (nE #[nD #[nz T,nC li,ny ov S.length cv],nk nI er])/\nW aa (λc=>W.heap.size<=c) (ny ov S.length cv) S/\jS W.heap.size W aa)(hcf:∀a b d W,l7 jI (callFunc fn #[a,b,d]) W=.ok (.enter fn #[a,b,d]) W)(qN:∀W aa,(VK g rb f x w0) W->rb<W.heap.size->jS (rb+1) W aa->(VK g rb f x w0) aa)(hsz:a0.tmps.size=48)(hI0:∀vs:Nat->jP,(λw=>A7 (VK g rb f x w0) (rb) (λov cv=>#[nz T,nC li,ny ov S.length cv]) (er) (AZ) IT (Ps) (S) false false false false false (vs 9) (vs 10) (vs 11) (vs 13) w) ah.drew)(ai:∀(vs:Nat->jP) (w:jJ),A7 (VK g rb f x w0) (rb) (λov cv=>#[nz T,nC li,ny ov S.length cv]) (er) (AZ) IT (Ps) (S) true true true true true (vs 9) (vs 10) (vs 11) (vs 13) w->Q .normal {a0 with tmps:=(((((((((((((((a0.tmps.setIfInBounds 23 (nA (U (Z r 0 V)))).setIfInBounds 24 (nA (U (Z r 0 V)))).setIfInBounds 25 (nA (U (Z r 8 V)))).setIfInBounds 26 (nA (U (Z r 9 V)))).setIfInBounds 27 (.func (.func fn) #[nD #[nk nI c.dep,nk nI c.oV]] #[])).setIfInBounds 28 (nA (U (Z rb 3 V)))).setIfInBounds 29 (nD #[nk nI x.k,nk nI x.z,ny x.ou x.nu x.cu,nk nI x.tl])).setIfInBounds 30 (nA (U (Z g 2 V)))).setIfInBounds 31 (nz f.body)).setIfInBounds 32 (vs 9)).setIfInBounds 22 (vs 10)).setIfInBounds 33 (vs 11)).setIfInBounds 34 (nk nI (er))).setIfInBounds 8 (vs 13)).setIfInBounds 9 (nk nI (er)))} w):
  (ll id Fw.toArray true).wp jI Q a0 ah:=by
 refine og 16 48 (a6s g r rb c f x w0 fn T li S er Ps) nN hsz nN (.inl rfl) nN ?_ ?_ ?_;.exact qB
 .refine rM λA aB=> ?_
  clear hI0 ai hsz;replace ht0:=jH ht0;replace Qi:=jH Qi;replace Ay:=jH Ay;replace ht3:=jH ht3;replace hget:=jH hget;replace hcf:=jH hcf;replace qN:=jH qN;dsimp+instances only[Fw,cO,cL,cR,cB,Tryz.f64];simp only[ky,kL,qW];refine⟨?_,?_,?_,?_,?_,?_,?_,?_,?_,?_,?_,?_,?_,?_,?_,?_,trivial⟩<;>(intro D vs a w K hI hd E hw2 C O;subst aB;dsimp+instances only[Fw,cO,cL,cR,cB,Tryz.f64]);have aR:=(C 0 nO).trans ht0.out;rotate_left;have aM:=fe C hI.val E 23 0;rotate_left;have aN:=fe C hI.val E 24 1;rotate_left;have aO:=fe C hI.val E 25 2;rotate_left;have Qi:=Qi.out;have aj:=fe C hI.val E 26 3;simp only[yQ]at aj;have c0:=Qi w hI.oH.bs;rotate_left;have aS:=(C 6 nO).trans Ay.out;rotate_left;have ak:=fe C hI.val E 28 5;simp only[yQ]at ak;obtain⟨⟨c0,c1,c2,c3,c4,c5,c6⟩,_⟩:=qh hI.oH.bs.2.2.2;rotate_left;have e3:=(C 3 nO).trans ht3.out;rotate_left;have au:=fe C hI.val E 30 7;simp only[yQ]at au;have hB:=hI.oH.bs.2.1;have c0:=hB.c2;clear hB;rotate_left
  .have hget:=hget.out
   have hcf:=hcf.out;have qN:=qN.out;have av:=fe C hI.val E 27 4;have ax:=fe C hI.val E 29 6;have ay:=fe C hI.val E 31 8;simp only[yQ]at av ax ay;have af:D 11=false:=by cases h:D 11 with|false=>rfl|true=>exact absurd (hI.oH.dm h) (by rw[hw2 10 nO nN];decide)
   have I:=hI.oH;rw[hd,hw2 10 nO nN,af,hw2 14 nO nN]at I;have aC:=hget w I.bs;clear hget;rw[if_pos (by rfl)];go_simp;refine aC.mono ?_;rintro e aT ⟨ov,cv,hp,rfl,hs,hb⟩;refine O _ _ _ rfl ⟨?_,KG rfl hI.val⟩;rw[oo,nR D (show 10≠9 by decide),nR D (show 11≠9 by decide),nR D (show 13≠9 by decide),nR D (show 14≠9 by decide),pG,om vs _ (show 10≠9 by decide),om vs _ (show 11≠9 by decide),om vs _ (show 13≠9 by decide)];rw[hw2 10 nO nN,af,hw2 14 nO nN];exact I.call qN hb hp hs
  .have d9:=E 9 nO nN
   have aP:a.tmps.getD 32 kI=vs 9:=C 32 nO;have I:=hI.oH;rw[hd,d9,hw2 11 nO nN,hw2 14 nO nN]at I;go_simp;refine O _ _ _ rfl ⟨?_,KG rfl hI.val⟩;rw[oo,nR D (show 9≠10 by decide),nR D (show 11≠10 by decide),nR D (show 13≠10 by decide),nR D (show 14≠10 by decide),pG,om vs _ (show 9≠10 by decide),om vs _ (show 11≠10 by decide),om vs _ (show 13≠10 by decide)];rw[d9,hw2 11 nO nN,hw2 14 nO nN];exact I.mv
  .have d10:=E 10 nO nN
   have N:a.tmps.getD 22 kI=vs 10:=C 22 nO;have I:=hI.oH;have J:D 9=true:=hI.oH.done (by rw[d10]);rw[hd,J,d10,hw2 14 nO nN]at I;obtain⟨ov,cv,ev,ae⟩:=I.ext;try dsimp only at ev ae
   have N:=N.trans ev;go_simp;refine O _ _ _ rfl ⟨?_,KG rfl hI.val⟩;rw[oo,nR D (show 9≠11 by decide),nR D (show 10≠11 by decide),nR D (show 13≠11 by decide),nR D (show 14≠11 by decide),pG,om vs _ (show 9≠11 by decide),om vs _ (show 10≠11 by decide),om vs _ (show 13≠11 by decide)];rw[J,d10,hw2 14 nO nN];exact ae
  .have d10:=E 10 nO nN
   have N:a.tmps.getD 22 kI=vs 10:=C 22 nO;have J:D 9=true:=hI.oH.done (by rw[d10]);have I:=hI.oH;rw[J,d10]at I;obtain⟨ov,cv,ev⟩:=I.tup;try dsimp only at ev
   have N:=N.trans ev;go_simp;exact O (yQ g r rb c f x fn er 12) _ _ rfl ⟨hI.oH,uK hI.val⟩
  .have qN:=qN.out
   have I:=hI.oH;rw[hd,hw2 14 nO nN]at I;go_simp;refine O (nA (U (Z w.heap.size 0 V))) _ _ rfl ⟨?_,KG rfl hI.val⟩;rw[oo,nR D (show 9≠13 by decide),nR D (show 10≠13 by decide),nR D (show 11≠13 by decide),nR D (show 14≠13 by decide),pG,om vs _ (show 9≠13 by decide),om vs _ (show 10≠13 by decide),om vs _ (show 11≠13 by decide)];rw[hw2 14 nO nN];exact I.made qN
  .have qN:=qN.out
   have d13:=E 13 nO nN;have az:a.tmps.getD 8 kI=vs 13:=C 8 nO;have d11:=E 11 nO nN;have ag:a.tmps.getD 33 kI=vs 11:=C 33 nO;have J:D 9=true:=hI.oH.done (E 10 nO nN);have I:=hI.oH;rw[hd,J,E 10 nO nN,d11,d13]at I;obtain⟨ov,cv,b,aA,aD,hB,ae⟩:=I.st qN;try dsimp only at aA ae
   have ag:=ag.trans aA;have az:=az.trans aD;have z0:=hB.cell 0;have aF:=hB.cell 1;have aG:=hB.cell 2;obtain⟨aU,f1,f2⟩:=hB.f3;simp only[AZ,jO,jN,jM]at z0 aF aG;go_simp;rw[qb];refine O kI _ _ rfl ⟨?_,uK hI.val⟩;rw[oo,nR D (show 9≠14 by decide),nR D (show 10≠14 by decide),nR D (show 11≠14 by decide),nR D (show 13≠14 by decide),om vs _ (show 9≠14 by decide),om vs _ (show 10≠14 by decide),om vs _ (show 11≠14 by decide),om vs _ (show 13≠14 by decide)];rw[J,E 10 nO nN,d11,d13];obtain⟨aH,aI,aJ,aK,aL⟩:=NG _ _ _ _ _;exact ae _ aH aI aJ aK aL (UQ hB)
  have aQ:=fe C hI.val E 34 12;rotate_left
  all_goals
   try simp only[yQ]at*
   go_simp;exact O _ _ _ rfl ⟨hI.oH,uK hI.val⟩
 .intro D vs w Y hI
  have E:=hI.oH;rw[Y 9 nO]at E;rw[Y 10 nO]at E;rw[Y 11 nO]at E;rw[Y 13 nO]at E;rw[Y 14 nO]at E;have q:=ai vs w E;rw[oW hI.val Y];dsimp+instances only[Fw,cO,cL,cR,cB,Tryz.f64];exact qH
end
def mN(R:Except Nat Ii):ByteArray:=match R with| .error _=>⟨#[]⟩| .ok m=>m.name
def mT(R:Except Nat Ii):ByteArray:=match R with| .error _=>⟨#[]⟩| .ok m=>txt m.val.lab
def mL(R:Except Nat Ii):Bool:=match R with| .error _=>false| .ok m=>m.val.lab.list
def mS(R:Except Nat Ii):List (nM IL):=match R with| .error _=>[]| .ok m=>m.val.sub
def mE(R:Except Nat Ii):Nat:=match R with| .error er=>er| .ok _=>0
def a1C(R:Except Nat Ii)(w:jJ)(e:Ending)(w':jJ):Prop:=
 ∃ov cv,((∃er,R=.error er)->ov=V/\cv=0)/\e=nG (nE #[nD #[nz (mN R),nz (mT R),nC (mL R),ny ov (mS R).length cv],nk nI (mE R:Nat)])/\nW w' (λc=>w.heap.size<=c) (ny ov (mS R).length cv) (mS R)/\jS w.heap.size w w'
theorem GY{c:oF}{t:nM TL}{s:ByteArray}{er:Nat}(h:GD c t s=.error er):er≠0:=by
 unfold GD at h;split at h
 .unfold Uw at h
  split at h
  .rename_i e1 h1
   unfold KF at h1;split at h1
   .have A:=zZ 8 t (RS.of s) (min c.oV 1024).toNat (Int.le_refl _)
    cases h1;cases h;omega
   .cases h1
  .split at h
   .cases h;decide
   .cases h
 .unfold Bi at h
  split at h
  .split at h
   .rename_i e1 h1
    unfold EY at h1;split at h1
    .rename_i h2
     have:=GR _ _ _ _ h2;cases h1;cases h;omega
    .split at h1
     .cases h1;cases h;decide
     .cases h1
   .split at h
    .cases h
    .rename_i C
     have:=CU t (by assumption);cases h;omega
  .cases h;decide
theorem Qj(r bn bi:Nat)(c:oF)(L:List oO)(f:vP)(w:jJ)(h:qi r bn bi c L w)(hc:oJ c=true)(aR:c.wf)(bG:pW w)(aM:uV w)(hn:f.name.size<=j3)(hid:f.id<18446744073709551616)(aS:f.body.size<=100000)(hlt:r<w.heap.size/\bn<w.heap.size/\bi<w.heap.size):
  jV jI 64 #[nA (U (Z r 0 V)),nD #[nk nJ f.id,nz f.name,nz f.body]] w (a1C (IE c (L.map λx=>x.r) f) w):=by
 obtain⟨fn,aT,hcf,aU⟩:=Yf c hc aR;obtain⟨g,hg⟩:=nV w.heap.size;have av:jX (∀W,jS g w W->jV jI 91 #[nA (U (Z r 0 V)),nD #[nk nJ f.id,nz f.name,nz f.body]] W λe w'=>e=nG (nE #[nD (rcO (P7 c L f)).cs,nC (P7 c L f).isSome])/\jS W.heap.size W w'):=jH λW hb=>by
  have:=hb.size;exact a3Y r bn bi c L f W (h.below (hg.symm▸hb)) hn hid ⟨nL,nL,nL⟩
 have aV:jX (∀W,(w.alloc (nH #[nk nJ f.id,nz f.name,nz f.body] rq)).alloc (nH #[nz ⟨#[]⟩,nz ⟨#[]⟩,nC false,ny V 0 0] zq)=W->nP W g #[nk nJ f.id,nz f.name,nz f.body] rq/\nP W (g+1) zm4 zq/\jS g w W/\W.heap.size=g+2):=jH λW O=>by
  subst O;have a1:=(jT w.heap.size w).alloc (jK _) (nH #[nk nJ f.id,nz f.name,nz f.body] rq);have a2:=a1.alloc nS (nH #[nz ⟨#[]⟩,nz ⟨#[]⟩,nC false,ny V 0 0] zq);have bM:=nP.new w #[nk nJ f.id,nz f.name,nz f.body] rq;have bN:=nP.new (w.alloc (nH #[nk nJ f.id,nz f.name,nz f.body] rq)) #[nz ⟨#[]⟩,nz ⟨#[]⟩,nC false,ny V 0 0] zq;rw[show(w.alloc (nH #[nk nJ f.id,nz f.name,nz f.body] rq)).heap.size=g+1 by simp[hg]]at bN;rw[hg]at bM;exact⟨bM.alloc _,bN,hg▸a2,by simp[hg]⟩
 have aW:jX (∀W,jS g w W->W.cell? (Z r 9 V)=U (.func (.func fn) #[nD #[nk nI c.dep,nk nI c.oV]] #[])):=jH λW hb=>by
  have:=(h.below (hg.symm▸hb)).rg.cell 9;rw[<-aT];exact this
 obtain⟨R,bH⟩:=nV (IE c (L.map λx=>x.r) f);have Q:jX ((P7 c L f=V->R=.error 11)/\∀x,P7 c L f=U x->R=match GD c x.r.ty f.body with| .error er=> .error (if er=2 then 3 else er)| .ok y=> .ok ⟨x.r.name,y⟩):=jH (by
  rw[<-bH];unfold IE;rw[a05];refine⟨λh=>by rw[h];rfl,λx h=>by rw[h];rfl⟩)
 have ax:jX (∀x,P7 c L f=U x->x∈L):=jH λx E=>by
  unfold P7 at E;split at E
  .split at E
   .exact List.mem_of_find?_eq_some E
   .cases E
  .split at E
   .exact List.mem_of_find?_eq_some E
   .cases E
 have ah:jX (∀x,P7 c L f=U x->∀W,jS g w W->jV jI fn #[nD #[nk nI c.dep,nk nI c.oV],nD #[nk nI x.r.ty.lab.kind,nk nI x.r.ty.lab.size,ny x.ou x.r.ty.sub.length x.cu,nk nI x.r.ty.lab.tail],nz f.body] W (Qh (GD c x.r.ty f.body) W)):=jH λx E W hb=>by
  have bO:=ax.out x E;have ay:jS w.heap.size w W:=hg.symm▸hb;obtain⟨bV,m2,_⟩:=h.may x bO;exact(aU x.r.ty f.body W x.ou x.cu ((h.below ay).sub x bO) (bG.below ay bG.lt) (vJ aM (oN.of (b:=w.heap.size) (q:=w.heap.size) ay) (by have:=aM.lt;omega) (by have:=aM.lt;omega)) bV m2 aS).mono λe w' h=>KS h
 have aX:=jH hcf;rw[bH];obtain⟨bW,bI⟩:=nV (a1C R w);have aN:=jH bI;rw[bI];obtain⟨o,ho⟩:=nV (P7 c L f);rw[ho]at av Q ah;have dC:=jH hlt;clear h hc aR bG aM hn hid aS hlt aT hcf aU bH ho bI ax;go_in;go_upto_region 1 with fail;obtain⟨az,aY,aA,aZ⟩:=aV.out _ rfl;generalize (w.alloc _).alloc _=w1 at*;obtain⟨c0,c1,c2⟩:=az.a3;have Y:=jH (jU az (jU aY (jU aA aZ)));have aB:=jH (av _ aA);clear aV az aY aA aZ av;go_wp2_with fail;refine aB.mono ?_;rintro e w2 ⟨rfl,aa⟩;have ai:jX (nP w2 g #[nk nJ f.id,nz f.name,nz f.body] rq/\nP w2 (g+1) zm4 zq/\jS g w w2/\g+2<=w2.heap.size):=jH ⟨Below.blk aa Y.1 Y.1.lt,Below.blk aa Y.2.1 Y.2.1.lt,Y.2.2.1.trans (aa.mono (by have:=Y.2.2.2;omega)),by have:=aa.size;have:=Y.2.2.2;omega⟩;clear aa Y aB c0 c1 c2;cases o with
 |none=>
  have ak:jX (R=.error 11):=jH (Q.1 rfl);have ae:jX (∀W,w2.alloc (nH C8.cs Fg)=W->nP W (g+1) zm4 zq/\jS g w W):=jH λW O=>by
   subst O;have al:=(jT w2.heap.size w2).alloc (jK _) (nH C8.cs Fg);obtain⟨_,h2,bJ,bX⟩:=ai.out;exact⟨Below.blk al h2 h2.lt,bJ.trans (al.mono nL)⟩
  unfold rcO C8 RC.cs at ae⊢;dsimp only[Option.isSome]at ae⊢;clear Q ah;go_upto_region 4 with fail;obtain⟨hB,A⟩:=ae.out _ rfl;generalize w2.alloc _=w3 at*;obtain⟨⟨bY,bZ,y2,cz⟩,cK,cZ,df,dh⟩:=oG hB;have af:=jH (jU hB A);clear hB A ae;go_wp2_with fail;rw[tF];obtain⟨⟨I,J,d2,N⟩,_⟩:=oG (rD (a:=nz ⟨#[]⟩) (b:=nz ⟨#[]⟩) (c:=nC false) (d:=ny V 0 0) af.1);have A:=tT (a:=nz ⟨#[]⟩) (b:=nz ⟨#[]⟩) (c:=nC false) (d:=ny V 0 0) af.2 (kV g);refine jZ (v:=nE #[nD #[nz ⟨#[]⟩,nz ⟨#[]⟩,nC false,ny V 0 0],nk nI 11]) (by simp[kQ,Tryz.results64,go_sem,I,J,d2,N]) rfl ?_;rw[<-aN.out,ak.out];exact⟨V,0,λ_=>⟨rfl,rfl⟩,rfl,vK _ _,hg.symm▸A⟩
 |some x=>
  have aj:jX (R=match GD c x.r.ty f.body with| .error er=> .error (if er=2 then 3 else er)| .ok y=> .ok ⟨x.r.name,y⟩):=jH (Q.2 x rfl);have aC:=jH (ah x rfl);have aD:jX (∀er,GD c x.r.ty f.body=.error er->er≠0):=jH λer h=>GY h
  obtain⟨aF,bP⟩:=nV (GD c x.r.ty f.body);rw[bP]at aj aC aD;obtain⟨rb,aG⟩:=nV w2.heap.size;have ae:jX (∀W,w2.alloc (nH x.rc.cs Fg)=W->VK g rb f x.rc w W/\rb<W.heap.size):=jH λW O=>by
   subst O;have al:=(jT w2.heap.size w2).alloc (jK _) (nH x.rc.cs Fg);obtain⟨h1,h2,bJ,bX⟩:=ai.out;exact⟨⟨bJ.trans (al.mono nL),Below.blk al h1 h1.lt,Below.blk al h2 h2.lt,aG▸nP.new w2 _ _⟩,by simp[aG]⟩
  have bQ:g+1<rb:=by have:=ai.2.2.2;omega
  unfold rcO;dsimp only[Option.isSome];unfold RC.cs at ae⊢;have bR:jX (x.rc.nm=x.r.name):=jH rfl;have bg:jX (∀W,jS g w W->jV jI fn #[nD #[nk nI c.dep,nk nI c.oV],nD #[nk nI x.rc.k,nk nI x.rc.z,ny x.rc.ou x.rc.nu x.rc.cu,nk nI x.rc.tl],nz f.body] W (Qh aF W)):=jH aC.out;clear aC Q ah bP ai;generalize x.rc=X at*;generalize x.r.name=dw at*;go_upto_region 4 with fail;obtain⟨hB,bq⟩:=ae.out _ rfl;generalize w2.alloc _=w3 at*;clear ae;have af:=jH (jU hB bq);clear hB bq aG;go_upto_region 6 with fail;obtain⟨T,aH⟩:=nV (qT aF);obtain⟨li,aI⟩:=nV (qL aF);obtain⟨S,bK⟩:=nV (qS aF);obtain⟨er,aJ⟩:=nV (qE aF);have bu:jX (∀W,VK g rb f X w W->jV jI fn #[nD #[nk nI c.dep,nk nI c.oV],nD #[nk nI X.k,nk nI X.z,ny X.ou X.nu X.cu,nk nI X.tl],nz f.body] W λe bL=>∃ov cv,((∃er,aF=.error er)->ov=V/\cv=0)/\e=nG (nE #[nD #[nz T,nC li,ny ov S.length cv],nk nI er])/\nW bL (λc=>W.heap.size<=c) (ny ov S.length cv) S/\jS W.heap.size W bL):=jH λW O=>by
   have:=bg.out W O.1;unfold Qh qV at this;rw[aH,aI,bK,aJ]at this;exact this
  refine a1B (g:=g) (r:=r) (rb:=rb) (c:=c) (f:=f) (x:=X) (w0:=w) (fn:=fn) (T:=T) (li:=li) (S:=S) (er:=er) (Ps:=λov cv=>(∃er,aF=.error er)->ov=V/\cv=0) (ht0:=by rfl) (Ay:=by rfl) (ht3:=by rfl) (hsz:=by rfl) (Qi:=λW O=>aW.out W O.1) (hget:=bu.out) (hcf:=aX.out) (qN:=λW bL h=>h.up bQ) (hI0:=λ_=>A7.ini ⟨af.1.1.trans ((oC w3).mono (by have:=af.2;omega)),af.1.2⟩ af.2) ?_;intro vs W hF;obtain⟨ov,cv,b,bz,bS,bA,bB,bC,bD,bE,ag⟩:=A7.fin hF;rw[bS,bA,bB,bC];obtain⟨hw1,hw2,hw3,hw4⟩:=hF.bs;have au:=jH (jU bz (jU bD (jU ag (jU hw1 hw3))));have aO:=jH (jU aH (jU aI (jU bK aJ)));simp only[jL,jQ,jR];obtain⟨⟨r0,r1,r2,r3,r4,dE,dF⟩,_⟩:=qh hw4;obtain⟨b0,b1,dx⟩:=bE.a3;obtain⟨⟨bY,bZ,y2,cz⟩,cK,cZ,df,dh⟩:=oG hw3;have bF:jX (∀aP,(∀c,c≠g+1->aP.heap[c]? =W.heap[c]?)->aP.heap.size=W.heap.size->nW aP (λc=>w.heap.size<=c) (ny ov S.length cv) S):=jH λaP h1 h2=>Shape.nX.keep ag (mR h2.symm) (λc _ hc=>by have:=hc.1;show w.heap.size<=c;omega) λc _ hc=>h1 c (by have:=hc.1;omega)
  clear hF bz bD ag hw1 hw2 hw3 hw4 bE aH aI bK aJ bg bu af aW aX bS bA bB bC;obtain⟨sn,aK⟩:=nV S.length;rw[aK]at dx bF⊢;have bT:=jH aK;clear aK;by_cases h0:er=0
  .subst h0
   have ak:jX (∃y,aF=.ok y):=jH (by
    cases aF with
    |error e1=>exact absurd aO.2.2.2 (aD e1 rfl)
    |ok y=>exact⟨y,rfl⟩)
   go_wp2_with fail;rw[tF];obtain⟨dz,dA,_⟩:=yP W (g+1) (nz X.nm) (nz T) (nC li) (ny ov sn cv);obtain⟨⟨I,J,d2,N⟩,_⟩:=oG (rD (a:=nz X.nm) (b:=nz T) (c:=nC li) (d:=ny ov sn cv) au.2.2.2.2);have A:=tT (a:=nz X.nm) (b:=nz T) (c:=nC li) (d:=ny ov sn cv) au.2.2.2.1 (kV g);refine jZ (v:=nE #[nD #[nz X.nm,nz T,nC li,ny ov sn cv],nk nI 0]) (by simp[kQ,Tryz.results64,go_sem,I,J,d2,N]) rfl ?_;obtain⟨y,dB⟩:=ak.out;have hs:=bF.out _ dz dA;obtain⟨aQ,g2,g3,_⟩:=aO.out;have C:=aj.out;rw[dB]at C aQ g2 g3;dsimp only at C;rw[<-aN.out,C];have aQ:txt y.lab=T:=aQ;have g2:y.lab.list=li:=g2;have g3:y.sub=S:=g3;have aL:=bT.out;rw[<-g3]at aL hs;refine⟨ov,cv,(λ⟨_,h⟩=>by cases h),?_,?_,hg.symm▸A⟩
   .show _=lJ (nE #[nD #[nz dw,nz (txt y.lab),nC y.lab.list,ny ov y.sub.length cv],nk nI ((0:Nat):Int)])
    rw[aQ,g2,aL,bR.out];rfl
   .show nW _ _ (ny ov y.sub.length cv) y.sub
    rw[aL];exact hs
  .have ak:jX (aF=.error er):=jH (by
    cases aF with
    |error e1=>rw[<-aO.2.2.2];rfl
    |ok y=>exact absurd aO.2.2.2.symm h0)
   have t0:((er:Int)==0)=false:=nT;have bU:((er:Int) !=0)=true:=nT;obtain⟨⟨I,J,d2,N⟩,_⟩:=oG (rD (a:=nz ⟨#[]⟩) (b:=nz ⟨#[]⟩) (c:=nC false) (d:=ny V 0 0) au.2.2.2.2);have A:=jH (tT (a:=nz ⟨#[]⟩) (b:=nz ⟨#[]⟩) (c:=nC false) (d:=ny V 0 0) au.2.2.2.1 (kV g));by_cases h2:er=2
   .have C:jX (R=.error 3):=jH (by have:=aj.out;rw[ak.out]at this;rw[this,h2];rfl)
    subst h2;clear I J d2 N t0 bU h0;go_wp2_with fail;rw[tF];obtain⟨⟨I,J,d2,N⟩,_⟩:=oG (rD (a:=nz ⟨#[]⟩) (b:=nz ⟨#[]⟩) (c:=nC false) (d:=ny V 0 0) au.2.2.2.2);refine jZ (v:=nE #[nD #[nz ⟨#[]⟩,nz ⟨#[]⟩,nC false,ny V 0 0],nk nI 3]) (by simp[kQ,Tryz.results64,go_sem,I,J,d2,N]) rfl ?_;rw[<-aN.out,C.out];exact⟨V,0,λ_=>⟨rfl,rfl⟩,rfl,vK _ _,hg.symm▸A.out⟩
   .have C:jX (R=.error er):=jH (by have:=aj.out;rw[ak.out]at this;rw[this];show Except.error (if er=2 then 3 else er)=_;rw[if_neg h2])
    have dG:((er:Int)==2)=false:=nT;have dD:jX (er≠2/\er≠0):=jH ⟨h2,h0⟩;clear I J d2 N h2 h0;go_wp2_with fail;rw[tF];obtain⟨⟨I,J,d2,N⟩,_⟩:=oG (rD (a:=nz ⟨#[]⟩) (b:=nz ⟨#[]⟩) (c:=nC false) (d:=ny V 0 0) au.2.2.2.2);refine jZ (v:=nE #[nD #[nz ⟨#[]⟩,nz ⟨#[]⟩,nC false,ny V 0 0],nk nI (er:Nat)]) (by simp[kQ,Tryz.results64,go_sem,I,J,d2,N]) rfl ?_;rw[<-aN.out,C.out];exact⟨V,0,λ_=>⟨rfl,rfl⟩,rfl,vK _ _,hg.symm▸A.out⟩
abbrev MtT:ko:=89
abbrev Qk:ko:=28
structure KU(g kc km kt ka ks sb r mb:Nat)(c:oF)(s:ByteArray)(p:Nat)(w0:jJ)(m:MS)(W:jJ):Prop where
 cf:nP W kc #[nk nI c.fmt,nk nK c.mag,nk nI c.pF,nk nI c.qc,nk nI c.dep,nk nI c.oV] tC
 mv:nP W km #[nA (U (Z mb 0 V))] MtT
 tx:nP W kt #[nz s] MI
 at_:nP W ka #[nk nI p] InT
 sv:nP W ks #[nA (U (Z sb 0 V))] Qk
 se:W.cell? (Z sb 0 V)=U (nA (U (Z r 0 V)))/\sb<g
 mm:pO W (U (mb,m))
 rs:nP W g zm4 zq
 up:oN ka mb w0 W
 ne:kc≠mb/\km≠mb/\kt≠mb/\ka≠mb/\ks≠mb/\sb≠mb/\kc≠ka/\km≠ka/\kt≠ka/\ks≠ka/\sb≠ka
 lt:kc<g/\km<g/\kt<g/\ka<g/\ks<g/\mb<g/\w0.heap.size=g
section
variable {g kc km kt ka ks sb r mb:Nat}{c:oF}{s:ByteArray}{p:Nat}{w0:jJ}{m m2:MS}{W W':jJ}
theorem KU.up1(h:KU g kc km kt ka ks sb r mb c s p w0 m W){lim:Nat}(hg:g<=lim)(hl:lim<W.heap.size)(hb:jS (lim+1) W W'):KU g kc km kt ka ks sb r mb c s p w0 m W':=by
 have l:=h.lt;have e:=h.se;have q:∀{n:Nat}{cs:Array jP}{t:ko},nP W n cs t->n<=lim->nP W' n cs t:=λhB hn=>Below.blk hb hB nL
 exact⟨q h.cf nL,q h.mv nL,q h.tx nL,q h.at_ nL,q h.sv nL,⟨(hb.cell (p:=(Z sb 0 V)) (show sb<lim+1 by omega)).trans e.1,e.2⟩,⟨q h.mm.1 nL,h.mm.2⟩,q h.rs nL,
  ⟨hb.os.trans h.up.os,hb.tape.trans h.up.tape,hb.output.trans h.up.output,jY h.up.size hb.size,λk hk h1 h2=>(hb.block k nL).trans (h.up.block k hk h1 h2)⟩,h.ne,h.lt⟩
theorem KU.below(h:KU g kc km kt ka ks sb r mb c s p w0 m W)(hb:jS W.heap.size W W'):KU g kc km kt ka ks sb r mb c s p w0 m W':=
 h.up1 (jK g) h.rs.lt (hb.mono (by have:=h.rs.lt;omega))
theorem KU.drew(h:KU g kc km kt ka ks sb r mb c s p w0 m W):KU g kc km kt ka ks sb r mb c s p w0 m W.drew:=h.below (oC W)
theorem KU.turn(h:KU g kc km kt ka ks sb r mb c s p w0 m W)(hg:W.grownBy W' (U mb))(A:pO W' (U (mb,m2))):KU g kc km kt ka ks sb r mb c s p w0 m2 W':=by
 have l:=h.lt;have n:=h.ne;have e:=h.se;have q:∀{n:Nat}{cs:Array jP}{t:ko},nP W n cs t->n≠mb->nP W' n cs t:=λhB hn=>pg hB hg λx C e=>hn (by cases C;exact e.symm)
 have hsz:=h.rs.lt;refine⟨q h.cf nL,q h.mv nL,q h.tx nL,q h.at_ nL,q h.sv nL,⟨?_,e.2⟩,A,q h.rs nL,?_,h.ne,h.lt⟩
 .have hb:=hg.block sb nL (by intro e;cases e;omega)
  simp only[mI,hb];exact e.1
 .exact⟨hg.os.trans h.up.os,hg.tape.trans h.up.tape,hg.output.trans h.up.output,jY h.up.size hg.size,λk hk h1 h2=>(hg.block k (kG hk h.up.size) (by intro e;cases e;omega)).trans (h.up.block k hk h1 h2)⟩
end
structure VL(g kc km kt ka ks sb r mb:Nat)(c:oF)(s:ByteArray)(p:Nat)(w0:jJ)(m m2:MS)(y:RZ)(d5 d10 d11:Bool)(v10:jP)(W:jJ):Prop where
 bs:KU g kc km kt ka ks sb r mb c s p w0 (if d5=true then m2 else m) W
 bk:d10=true->∃b,v10=nA (U (Z b 0 V))/\g<b/\nP W b (if d11=true then#[nk nJ y.id,nz y.name,nz y.body]else#[nk nJ 0,nz ⟨#[]⟩,nz ⟨#[]⟩]) rq
section
variable {g kc km kt ka ks sb r mb:Nat}{c:oF}{s:ByteArray}{p:Nat}{w0:jJ}{m m2:MS}{y:RZ}{d5 d10 d11:Bool}{v10:jP}{W W':jJ}
theorem VL.call(h:VL g kc km kt ka ks sb r mb c s p w0 m m2 y false d10 false v10 W)(hg:W.grownBy W' (U mb))(A:pO W' (U (mb,m2))):VL g kc km kt ka ks sb r mb c s p w0 m m2 y true d10 false v10 W':=by
 refine⟨h.bs.turn hg A,λhd=> ?_⟩;obtain⟨b,e1,e2,e3⟩:=h.bk hd;have l:=h.bs.lt;exact⟨b,e1,e2,pg e3 hg λx C=>by cases C;omega⟩
theorem VL.made(h:VL g kc km kt ka ks sb r mb c s p w0 m m2 y d5 false false v10 W):VL g kc km kt ka ks sb r mb c s p w0 m m2 y d5 true false (nA (U (Z W.heap.size 0 V))) (W.alloc (nH #[nk nJ 0,nz ⟨#[]⟩,nz ⟨#[]⟩] rq)):=
 ⟨h.bs.below ((jT W.heap.size W).alloc (jK _) _),λ_=>⟨_,rfl,h.bs.rs.lt,nP.new W _ _⟩⟩
theorem VL.put{b:Nat}(h:VL g kc km kt ka ks sb r mb c s p w0 m m2 y true true false (nA (U (Z b 0 V))) W)(A:g<b)(hB:nP W b #[nk nJ 0,nz ⟨#[]⟩,nz ⟨#[]⟩] rq):VL g kc km kt ka ks sb r mb c s p w0 m m2 y true true true (nA (U (Z b 0 V))) (xZ W b (nk nJ y.id) (nz y.name) (nz y.body)):=by
 have hb:jS (g+1) W (xZ W b (nk nJ y.id) (nz y.name) (nz y.body)):=
  (((jT (g+1) W).setCell (p:=(Z b 0 V)) (by show g+1<=b;omega) _).setCell (p:=(Z b 1 V)) (by show g+1<=b;omega) _).setCell (p:=(Z b 2 V)) (by show g+1<=b;omega) _
 exact⟨h.bs.up1 (jK g) h.bs.rs.lt hb,λ_=>⟨b,rfl,A,qD hB⟩⟩
end
noncomputable def KV:List lY:=cO (cL (cR (cB Tryz.f62)))
section
variable (g kc km kt ka ks sb r mb:Nat)(c:oF)(s:ByteArray)(p:Nat)(w0:jJ)(m m2:MS)(y:RZ)
def Ed:Nat->jP
 |0=> nD #[nk nI c.fmt,nk nK c.mag,nk nI c.pF,nk nI c.qc,nk nI c.dep,nk nI c.oV]
 |1=> nA (U (Z mb 0 V))
 |2=> nz s
 |3=> nk nI p
 |4=> nz (s.extract p s.size)
 |5=> nE #[nD #[nk nJ y.id,nz y.name,nz y.body],nk nI y.n,nk nI y.e]
 |6=> nE #[nD #[nk nJ y.id,nz y.name,nz y.body],nk nI y.n,nk nI y.e]
 |7=> nD #[nk nJ y.id,nz y.name,nz y.body]
 |8=> nk nI y.n
 |9=> nk nI y.e
 |12=> nk nI y.n
 |13=> nk nI y.e
 |_=>kI
structure a9c(D:Nat->Bool)(vs:Nat->jP)(w:jJ):Prop where
 oH:VL g kc km kt ka ks sb r mb c s p w0 m m2 y (D 5) (D 10) (D 11) (vs 10) w
 val:∀j,(j !=10)=true->D j=true->vs j=Ed mb c s p y j
variable {g kc km kt ka ks sb r mb c s p w0 m m2 y}
theorem a4m{id:Nat}{Q:Exit->Act->jJ->Prop}{aa:jJ}(ht0:a0.tmps.getD 0 kI=nA (U (Z kc 0 V)))(ht1:a0.tmps.getD 1 kI=nA (U (Z km 0 V)))(ht2:a0.tmps.getD 2 kI=nA (U (Z kt 0 V)))(ht3:a0.tmps.getD 3 kI=nA (U (Z ka 0 V)))(hp:p<=s.size/\s.size<=100000)(hnext:∀W,pO W (U (mb,m))->jV jI 63 #[nD #[nk nI c.fmt,nk nK c.mag,nk nI c.pF,nk nI c.qc,nk nI c.dep,nk nI c.oV],nA (U (Z mb 0 V)),nz (s.extract p s.size)] W λe ae=>W.grownBy ae (U mb)/\pO ae (U (mb,m2))/\e=nG y.v)(hsz:a0.tmps.size=41)(hI0:∀vs:Nat->jP,(λw=>VL g kc km kt ka ks sb r mb c s p w0 m m2 y false false false (vs 10) w) aa.drew)(af:∀(vs:Nat->jP) (w:jJ),VL g kc km kt ka ks sb r mb c s p w0 m m2 y true true true (vs 10) w->Q .normal {a0 with tmps:=(((((((((((((a0.tmps.setIfInBounds 12 (nD #[nk nI c.fmt,nk nK c.mag,nk nI c.pF,nk nI c.qc,nk nI c.dep,nk nI c.oV])).setIfInBounds 13 (nA (U (Z mb 0 V)))).setIfInBounds 14 (nz s)).setIfInBounds 15 (nk nI p)).setIfInBounds 16 (nz (s.extract p s.size))).setIfInBounds 17 (nE #[nD #[nk nJ y.id,nz y.name,nz y.body],nk nI y.n,nk nI y.e])).setIfInBounds 11 (nE #[nD #[nk nJ y.id,nz y.name,nz y.body],nk nI y.n,nk nI y.e])).setIfInBounds 18 (nD #[nk nJ y.id,nz y.name,nz y.body])).setIfInBounds 19 (nk nI y.n)).setIfInBounds 20 (nk nI y.e)).setIfInBounds 7 (vs 10)).setIfInBounds 8 (nk nI y.n)).setIfInBounds 9 (nk nI y.e))} w):
  (ll id KV.toArray true).wp jI Q a0 aa:=by
 refine og 14 41 (a9c g kc km kt ka ks sb r mb c s p w0 m m2 y) nN hsz nN (.inl rfl) nN ?_ ?_ ?_;.exact qB
 .refine rM λA ay=> ?_
  clear hI0 af hsz;replace ht0:=jH ht0;replace ht1:=jH ht1;replace ht2:=jH ht2;replace ht3:=jH ht3;replace hp:=jH hp;replace hnext:=jH hnext;dsimp+instances only[KV,cO,cL,cR,cB,Tryz.f62];simp only[ky,kL,qW];refine⟨?_,?_,?_,?_,?_,?_,?_,?_,?_,?_,?_,?_,?_,?_,trivial⟩<;>(intro D vs a w K hI hd E hw2 C J;subst ay;dsimp+instances only[KV,cO,cL,cR,cB,Tryz.f62]);have aH:=(C 0 nO).trans ht0.out;have hB:=hI.oH.bs.cf;obtain⟨c0,c1,c2,c3,c4,c5⟩:=hB.a6;clear hB;rotate_left;have e1:=(C 1 nO).trans ht1.out;have hB:=hI.oH.bs.mv;have c0:=hB.c0;clear hB;rotate_left;have e2:=(C 2 nO).trans ht2.out;have hB:=hI.oH.bs.tx;have c0:=hB.c0;clear hB;rotate_left;have e3:=(C 3 nO).trans ht3.out;have hB:=hI.oH.bs.at_;have c0:=hB.c0;clear hB;rotate_left;have hp:=hp.out;have ag:=fe C hI.val E 14 2;have ah:=fe C hI.val E 15 3;simp only[Ed]at ag ah;obtain⟨aB,aC⟩:=hp;rotate_left
  .have hnext:=hnext.out
   have ai:=fe C hI.val E 12 0;have aj:=fe C hI.val E 13 1;have ak:=fe C hI.val E 16 4;simp only[Ed]at ai aj ak;have I:=hI.oH;rw[hd,hw2 11 nO nN]at I;have az:=hnext w I.bs.mm;clear hnext;rw[if_pos (by rfl)];go_simp;refine az.mono ?_;rintro e aI ⟨hg,aA,rfl⟩;refine J (Ed mb c s p y 5) _ _ rfl ⟨?_,uK hI.val⟩;rw[oo,nR D (show 10≠5 by decide),nR D (show 11≠5 by decide),om vs _ (show 10≠5 by decide),hw2 11 nO nN];exact I.call hg aA
  have aD:=fe C hI.val E 17 5;rotate_left;have O:=fe C hI.val E 11 6;rotate_left;have O:=fe C hI.val E 11 6;rotate_left;have O:=fe C hI.val E 11 6;rotate_left
  .have I:=hI.oH
   rw[hd,hw2 11 nO nN]at I;go_simp;refine J (nA (U (Z w.heap.size 0 V))) _ _ rfl ⟨?_,KG rfl hI.val⟩;rw[oo,nR D (show 5≠10 by decide),nR D (show 11≠10 by decide),pG,hw2 11 nO nN];exact I.made
  .have d10:=E 10 nO nN
   have au:a.tmps.getD 7 kI=vs 10:=C 7 nO;have av:=fe C hI.val E 18 7;simp only[Ed]at av;have I:=hI.oH;rw[hd,E 5 nO nN,d10]at I;obtain⟨b,Y,ax,hB⟩:=I.bk rfl;rw[if_neg nO]at hB;rw[Y]at I;have au:=au.trans Y;obtain⟨z0,aJ,aK,aL,f1,f2⟩:=Jd hB;go_simp;rw[qR];refine J kI _ _ rfl ⟨?_,uK hI.val⟩;rw[oo,nR D (show 5≠11 by decide),nR D (show 10≠11 by decide),om vs _ (show 10≠11 by decide),E 5 nO nN,d10,Y];exact I.put ax hB
  have aF:=fe C hI.val E 19 8;rotate_left;have aG:=fe C hI.val E 20 9;rotate_left
  all_goals
   try simp only[Ed]at*
   go_simp;exact J _ _ _ rfl ⟨hI.oH,uK hI.val⟩
 .intro D vs w N hI
  have E:=hI.oH;rw[N 5 nO]at E;rw[N 10 nO]at E;rw[N 11 nO]at E;have q:=af vs w E;rw[oW hI.val N];dsimp+instances only[KV,cO,cL,cR,cB,Tryz.f62];exact qH
end
def N4B(g kc km kt ka ks sb r mb:Nat)(c:oF)(s:ByteArray)(p:Nat)(w0:jJ)(m:MS)(fb:Nat)(f:vP)(W:jJ):Prop:=KU g kc km kt ka ks sb r mb c s p w0 m W/\nP W fb #[nk nJ f.id,nz f.name,nz f.body] rq
theorem N4B.up1{g kc km kt ka ks sb r mb:Nat}{c:oF}{s:ByteArray}{p:Nat}{w0:jJ}{m:MS}{fb:Nat}{f:vP}{W A:jJ}(hg:g<fb)(h:N4B g kc km kt ka ks sb r mb c s p w0 m fb f W)(hl:fb<W.heap.size)(hb:jS (fb+1) W A):N4B g kc km kt ka ks sb r mb c s p w0 m fb f A:=
 ⟨h.1.up1 (mX hg) hl hb,Below.blk hb h.2 nL⟩
noncomputable def KW:List lY:=cO (cL (cR (cR (cR (cB Tryz.f62)))))
section
variable (g kc km kt ka ks sb r mb:Nat)(c:oF)(s:ByteArray)(p:Nat)(w0:jJ)(m:MS)(fb:Nat)(f:vP)(nm T:ByteArray)(li:Bool)(S:List (nM IL))(er:Nat)(Ps:Option lH->Nat->Prop)
def GZ:Nat->jP
 |0=> nA (U (Z sb 0 V))
 |1=> nA (U (Z sb 0 V))
 |2=> nA (U (Z sb 0 V))
 |3=> nA (U (Z r 0 V))
 |4=> nD #[nk nJ f.id,nz f.name,nz f.body]
 |8=> nk nI (er)
 |11=> nk nI (er)
 |_=>kI
structure a9d(D:Nat->Bool)(vs:Nat->jP)(w:jJ):Prop where
 oH:A7 (N4B g kc km kt ka ks sb r mb c s p w0 m fb f) (fb) (λov cv=>#[nz nm,nz T,nC li,ny ov S.length cv]) (er) (zm4) zq (Ps) (S) (D 5) (D 6) (D 7) (D 9) (D 10) (vs 5) (vs 6) (vs 7) (vs 9) w
 val:∀j,(j !=5&&j !=6&&j !=7&&j !=9)=true->D j=true->vs j=GZ sb r f er j
variable {g kc km kt ka ks sb r mb c s p w0 m fb f nm T li S er Ps}
theorem a4n{id:Nat}{Q:Exit->Act->jJ->Prop}{ai:jJ}(EU:a0.tmps.getD 4 kI=nA (U (Z ks 0 V)))(EK:a0.tmps.getD 7 kI=nA (U (Z fb 0 V)))(hdec:∀W,N4B g kc km kt ka ks sb r mb c s p w0 m fb f W->jV jI 64 #[nA (U (Z r 0 V)),nD #[nk nJ f.id,nz f.name,nz f.body]] W λe aa=>∃ov cv,Ps ov cv/\e=nG (nE #[nD #[nz nm,nz T,nC li,ny ov S.length cv],nk nI er])/\nW aa (λc=>W.heap.size<=c) (ny ov S.length cv) S/\jS W.heap.size W aa)(qN:∀W aa,(N4B g kc km kt ka ks sb r mb c s p w0 m fb f) W->fb<W.heap.size->jS (fb+1) W aa->(N4B g kc km kt ka ks sb r mb c s p w0 m fb f) aa)(hsz:a0.tmps.size=41)(hI0:∀vs:Nat->jP,(λw=>A7 (N4B g kc km kt ka ks sb r mb c s p w0 m fb f) (fb) (λov cv=>#[nz nm,nz T,nC li,ny ov S.length cv]) (er) (zm4) zq (Ps) (S) false false false false false (vs 5) (vs 6) (vs 7) (vs 9) w) ai.drew)(aj:∀(vs:Nat->jP) (w:jJ),A7 (N4B g kc km kt ka ks sb r mb c s p w0 m fb f) (fb) (λov cv=>#[nz nm,nz T,nC li,ny ov S.length cv]) (er) (zm4) zq (Ps) (S) true true true true true (vs 5) (vs 6) (vs 7) (vs 9) w->Q .normal {a0 with tmps:=(((((((((((a0.tmps.setIfInBounds 26 (nA (U (Z sb 0 V)))).setIfInBounds 27 (nA (U (Z sb 0 V)))).setIfInBounds 28 (nA (U (Z sb 0 V)))).setIfInBounds 29 (nA (U (Z r 0 V)))).setIfInBounds 30 (nD #[nk nJ f.id,nz f.name,nz f.body])).setIfInBounds 31 (vs 5)).setIfInBounds 25 (vs 6)).setIfInBounds 32 (vs 7)).setIfInBounds 33 (nk nI (er))).setIfInBounds 10 (vs 9)).setIfInBounds 9 (nk nI (er)))} w):
  (ll id KW.toArray true).wp jI Q a0 ai:=by
 refine og 12 41 (a9d g kc km kt ka ks sb r mb c s p w0 m fb f nm T li S er Ps) nN hsz nN (.inl rfl) nN ?_ ?_ ?_;.exact qB
 .refine rM λA az=> ?_
  clear hI0 aj hsz;replace EU:=jH EU;replace EK:=jH EK;replace hdec:=jH hdec;replace qN:=jH qN;dsimp+instances only[KW,cO,cL,cR,cB,Tryz.f62];simp only[ky,kL,qW];refine⟨?_,?_,?_,?_,?_,?_,?_,?_,?_,?_,?_,?_,trivial⟩<;>(intro D vs a w K hI hd C hw2 E O;subst az;dsimp+instances only[KW,cO,cL,cR,cB,Tryz.f62]);have e4:=(E 4 nO).trans EU.out;have hB:=hI.oH.bs.1.sv;have c0:=hB.c0;clear hB;rotate_left;have aI:=fe E hI.val C 26 0;rotate_left;have aJ:=fe E hI.val C 27 1;rotate_left;have ak:=fe E hI.val C 28 2;simp only[GZ]at ak;have c0:=hI.oH.bs.1.se.1;rotate_left;have aM:=(E 7 nO).trans EK.out;have hB:=hI.oH.bs.2;obtain⟨c0,c1,c2⟩:=hB.a3;clear hB;rotate_left
  .have hdec:=hdec.out
   have qN:=qN.out;have au:=fe E hI.val C 29 3;have av:=fe E hI.val C 30 4;simp only[GZ]at au av;have af:D 7=false:=by cases h:D 7 with|false=>rfl|true=>exact absurd (hI.oH.dm h) (by rw[hw2 6 nO nN];decide)
   have I:=hI.oH;rw[hd,hw2 6 nO nN,af,hw2 10 nO nN]at I;have aA:=hdec w I.bs;clear hdec;rw[if_pos (by rfl)];go_simp;refine aA.mono ?_;rintro e aN ⟨ov,cv,hp,rfl,hs,hb⟩;refine O _ _ _ rfl ⟨?_,KG rfl hI.val⟩;rw[oo,nR D (show 6≠5 by decide),nR D (show 7≠5 by decide),nR D (show 9≠5 by decide),nR D (show 10≠5 by decide),pG,om vs _ (show 6≠5 by decide),om vs _ (show 7≠5 by decide),om vs _ (show 9≠5 by decide)];rw[hw2 6 nO nN,af,hw2 10 nO nN];exact I.call qN hb hp hs
  .have d5:=C 5 nO nN
   have aK:a.tmps.getD 31 kI=vs 5:=E 31 nO;have I:=hI.oH;rw[hd,d5,hw2 7 nO nN,hw2 10 nO nN]at I;go_simp;refine O _ _ _ rfl ⟨?_,KG rfl hI.val⟩;rw[oo,nR D (show 5≠6 by decide),nR D (show 7≠6 by decide),nR D (show 9≠6 by decide),nR D (show 10≠6 by decide),pG,om vs _ (show 5≠6 by decide),om vs _ (show 7≠6 by decide),om vs _ (show 9≠6 by decide)];rw[d5,hw2 7 nO nN,hw2 10 nO nN];exact I.mv
  .have d6:=C 6 nO nN
   have N:a.tmps.getD 25 kI=vs 6:=E 25 nO;have I:=hI.oH;have J:D 5=true:=hI.oH.done (by rw[d6]);rw[hd,J,d6,hw2 10 nO nN]at I;obtain⟨ov,cv,ev,ae⟩:=I.ext;try dsimp only at ev ae
   have N:=N.trans ev;go_simp;refine O _ _ _ rfl ⟨?_,KG rfl hI.val⟩;rw[oo,nR D (show 5≠7 by decide),nR D (show 6≠7 by decide),nR D (show 9≠7 by decide),nR D (show 10≠7 by decide),pG,om vs _ (show 5≠7 by decide),om vs _ (show 6≠7 by decide),om vs _ (show 9≠7 by decide)];rw[J,d6,hw2 10 nO nN];exact ae
  .have d6:=C 6 nO nN
   have N:a.tmps.getD 25 kI=vs 6:=E 25 nO;have J:D 5=true:=hI.oH.done (by rw[d6]);have I:=hI.oH;rw[J,d6]at I;obtain⟨ov,cv,ev⟩:=I.tup;try dsimp only at ev
   have N:=N.trans ev;go_simp;exact O (GZ sb r f er 8) _ _ rfl ⟨hI.oH,uK hI.val⟩
  .have qN:=qN.out
   have I:=hI.oH;rw[hd,hw2 10 nO nN]at I;go_simp;refine O (nA (U (Z w.heap.size 0 V))) _ _ rfl ⟨?_,KG rfl hI.val⟩;rw[oo,nR D (show 5≠9 by decide),nR D (show 6≠9 by decide),nR D (show 7≠9 by decide),nR D (show 10≠9 by decide),pG,om vs _ (show 5≠9 by decide),om vs _ (show 6≠9 by decide),om vs _ (show 7≠9 by decide)];rw[hw2 10 nO nN];exact I.made qN
  .have qN:=qN.out
   have d9:=C 9 nO nN;have ag:a.tmps.getD 10 kI=vs 9:=E 10 nO;have ax:=C 7 nO nN;have ah:a.tmps.getD 32 kI=vs 7:=E 32 nO;have J:D 5=true:=hI.oH.done (C 6 nO nN);have I:=hI.oH;rw[hd,J,C 6 nO nN,ax,d9]at I;obtain⟨ov,cv,b,ay,aB,hB,ae⟩:=I.st qN;try dsimp only at ay ae
   have ah:=ah.trans ay;have ag:=ag.trans aB;obtain⟨⟨z0,aO,aP,z3⟩,aQ,f1,f2,f3⟩:=oG hB;go_simp;rw[tF];refine O kI _ _ rfl ⟨?_,uK hI.val⟩;rw[oo,nR D (show 5≠10 by decide),nR D (show 6≠10 by decide),nR D (show 7≠10 by decide),nR D (show 9≠10 by decide),om vs _ (show 5≠10 by decide),om vs _ (show 6≠10 by decide),om vs _ (show 7≠10 by decide),om vs _ (show 9≠10 by decide)];rw[J,C 6 nO nN,ax,d9];obtain⟨aC,aD,aF,aG,aH⟩:=yP _ _ _ _ _ _;exact ae _ aC aD aF aG aH (rD hB)
  have aL:=fe E hI.val C 33 8;rotate_left
  all_goals
   try simp only[GZ]at*
   go_simp;exact O _ _ _ rfl ⟨hI.oH,uK hI.val⟩
 .intro D vs w Y hI
  have C:=hI.oH;rw[Y 5 nO]at C;rw[Y 6 nO]at C;rw[Y 7 nO]at C;rw[Y 9 nO]at C;rw[Y 10 nO]at C;have q:=aj vs w C;rw[oW hI.val Y];dsimp+instances only[KW,cO,cL,cR,cB,Tryz.f62];exact qH
end
theorem UR{s t:ByteArray}(h:Cr s=U t):t.size<=s.size:=by
 unfold Cr at h;split at h
 .cases h
  have h1:=Ex s.data.toList;have h2:s.data.toList.length=s.size:=nS;have A:(⟨(lC s.data.toList 0).toArray⟩:ByteArray).size=(lC s.data.toList 0).length:=mP;omega
 .cases h
def a6u(A:Except Nat Ii)(n:Nat)(M:Option (Nat×MS)):Except Nat (Ii×Nat)×Option (Nat×MS):=match A with
 | .error er=>(.error er,M)
 | .ok m=>(.ok (m,n),M)
def a2L(c:oF)(rows:List Row)(A:Except Nat (vP×Nat)×Option (Nat×MS)):Except Nat (Ii×Nat)×Option (Nat×MS):=match A with
 |(.error er,m2)=>(.error er,m2)
 |(.ok y,m2)=>a6u (IE c rows y.1) y.2 m2
theorem a1E(c:oF)(rows:List Row)(s:ByteArray)(mt:Option (Nat×MS)):rJ c rows s mt=a2L c rows (qw c s mt):=rfl
theorem Yg{c:oF}{s:ByteArray}{mt:Option (Nat×MS)}{y:vP×Nat}(h:(qw c s mt).1=.ok y):y.1.name.size<=j3/\y.1.id<18446744073709551616:=by
 have hp:∀{most:Int},(pq most s).e=0->(pq most s).id<18446744073709551616:=by
  intro most h;unfold pq at*;split
  .rename_i h0
   rw[if_pos h0]at h;split;.show(0:Nat)<_;decide
   .rename_i h1
    rw[if_neg h1]at h;dsimp only at*;split
    .rename_i h2
     dsimp only;generalize A:oD _ 0 0=q at*;obtain⟨a,b,e⟩:=q;dsimp only at h2⊢;subst h2;exact(tN A).2.1
    .show(0:Nat)<_;decide
  .show(0:Nat)<_;decide
 unfold qw at h;split at h
 .dsimp only at h
  unfold uP at h;split at h
  .cases h
   refine⟨?_,by show(0:Nat)<_;decide⟩;show(xu s).size<=j3;unfold xu;cases hg:Cr (s.extract 4 16)with
   |none=>decide
   |some t=>
    have:=UR hg;simp only[kC]at this;show t.size<=j3;unfold j3;omega
  .cases h
 .split at h
  .dsimp only at h
   unfold wN at h;split at h;.cases h
   .rename_i h0
    cases h;exact⟨kH _,hp (by simpa using h0)⟩
  .unfold sW at h
   split at h;.cases h
   .rename_i h0
    split at h;.cases h
    .cases h
     exact⟨kH _,hp (by simpa using h0)⟩
theorem qi.lt3{r bn bi:Nat}{c:oF}{L:List oO}{w:jJ}(h:qi r bn bi c L w):r<w.heap.size/\bn<w.heap.size/\bi<w.heap.size:=⟨h.rg.lt,h.nm.lt,h.id.lt⟩
theorem KX{g kc km kt ka ks sb r mb:Nat}{c:oF}{s:ByteArray}{p:Nat}{w0:jJ}{m:MS}{W:jJ}{a b e d:jP}(h:KU g kc km kt ka ks sb r mb c s p w0 m W):
  pO (yO W g a b e d) (U (mb,m))/\nP (yO W g a b e d) ka #[nk nI p] InT/\oN ka mb w0 (yO W g a b e d)/\∀(v:jP)(S:List (nM IL)),(nW W (λc=>g<c) v S)->nW (yO W g a b e d) (λc=>w0.heap.size<=c) v S:=by
 obtain⟨A,C,E,I,J⟩:=yP W g a b e d;have l:=h.lt;have q:∀{n:Nat}{cs:Array jP}{t:ko},nP W n cs t->n≠g->nP (yO W g a b e d) n cs t:=λhB hn=>by unfold nP at*;rw[A _ hn];exact hB
 refine⟨⟨q h.mm.1 nL,h.mm.2⟩,q h.at_ nL,⟨E.trans h.up.os,I.trans h.up.tape,J.trans h.up.output,by rw[C];exact h.up.size,λk hk h1 h2=>(A k nL).trans (h.up.block k hk h1 h2)⟩,λv S hs=> ?_⟩;exact Shape.nX.keep hs (mR C.symm) (λc _ hc=>by show w0.heap.size<=c;have:g<c:=hc;omega) λc _ hc=>A c (by have:g<c:=hc;omega)
structure NxE(kc km kt ka ks sb r mb:Nat)(c:oF)(s:ByteArray)(p:Nat)(m:MS)(W:jJ):Prop where
 cf:nP W kc #[nk nI c.fmt,nk nK c.mag,nk nI c.pF,nk nI c.qc,nk nI c.dep,nk nI c.oV] tC
 mv:nP W km #[nA (U (Z mb 0 V))] MtT
 tx:nP W kt #[nz s] MI
 at_:nP W ka #[nk nI p] InT
 sv:nP W ks #[nA (U (Z sb 0 V))] Qk
 se:W.cell? (Z sb 0 V)=U (nA (U (Z r 0 V)))/\sb<W.heap.size
 mm:pO W (U (mb,m))
 ne:kc≠mb/\km≠mb/\kt≠mb/\ka≠mb/\ks≠mb/\sb≠mb/\kc≠ka/\km≠ka/\kt≠ka/\ks≠ka/\sb≠ka
def rR(R:Except Nat (Ii×Nat)):Except Nat Ii:=match R with| .error er=> .error er| .ok y=> .ok y.1
def goR(p:Nat)(R:Except Nat (Ii×Nat)):Nat:=match R with| .error _=>p| .ok y=>p+y.2
def G6(ka mb p:Nat)(R:Except Nat (Ii×Nat)×Option (Nat×MS))(w:jJ)(e:Ending)(w':jJ):Prop:=
 ∃ov cv,((∃er,rR R.1=.error er)->ov=V/\cv=0)/\e=nG (nE #[nD #[nz (mN (rR R.1)),nz (mT (rR R.1)),nC (mL (rR R.1)),ny ov (mS (rR R.1)).length cv],nk nI (mE (rR R.1):Nat)])/\
  nW w' (λc=>w.heap.size<=c) (ny ov (mS (rR R.1)).length cv) (mS (rR R.1))/\pO w' R.2/\nP w' ka #[nk nI (goR p R.1)] InT/\oN ka mb w w'
theorem KU.atp{g kc km kt ka ks sb r mb:Nat}{c:oF}{s:ByteArray}{p:Nat}{w0:jJ}{m:MS}{W:jJ}(h:KU g kc km kt ka ks sb r mb c s p w0 m W)(q:Nat):KU g kc km kt ka ks sb r mb c s q w0 m (W.setCell (Z ka 0 V) (nk nI q)):=by
 have l:=h.lt;have n:=h.ne;have e:=h.se;have o:∀{b:Nat}{cs:Array jP}{t:ko},nP W b cs t->b≠ka->nP (W.setCell (Z ka 0 V) (nk nI q)) b cs t:=λhB hn=>hB.setOther (a:=(Z ka 0 V)) hn _
 refine⟨o h.cf nL,o h.mv nL,o h.tx nL,h.at_.set 0 _,o h.sv nL,⟨?_,e.2⟩,⟨o h.mm.1 nL,h.mm.2⟩,o h.rs nL,h.up.Bv 0 _,h.ne,h.lt⟩;have hb:=j6 W (Z ka 0 V) (nk nI q) sb (by show sb≠ka;omega);simp only[mI,hb];exact e.1
theorem Yh(kc km kt ka ks sb r mb bn bi:Nat)(c:oF)(L:List oO)(s:ByteArray)(p:Nat)(m:MS)(w:jJ)(h:NxE kc km kt ka ks sb r mb c s p m w)(hc:oJ c=true)(ai:c.wf)(hp:p<=s.size/\s.size<=100000)(aj:∀W,oN ka mb w W->qi r bn bi c L W/\pW W/\uV W):
  jV jI 62 #[nA (U (Z kc 0 V)),nA (U (Z km 0 V)),nA (U (Z kt 0 V)),nA (U (Z ka 0 V)),nA (U (Z ks 0 V))] w (G6 ka mb p (rJ c (L.map λx=>x.r) (s.extract p s.size) (U (mb,m))) w):=by
 obtain⟨g,hg⟩:=nV w.heap.size;have ak:(s.extract p s.size).size<=100000:=by simp only[kC];omega
 have bq:(s.extract p s.size).size<=j3:=jY ak nO;have hrow:=zJ c (s.extract p s.size) (U (mb,m));obtain⟨af,N⟩:=nV (qw c (s.extract p s.size) (U (mb,m)));have hok:∀y,af.1=.ok y->0<y.2/\y.2<=(s.extract p s.size).size/\y.1.body.size<=100000/\y.1.name.size<=j3/\y.1.id<18446744073709551616:=λy Y=>by
  rw[<-N]at Y;have h1:=Nf hc ak Y;have h2:=Yg Y;exact⟨h1.1,h1.2.1,h1.2.2,h2.1,h2.2⟩
 have bu:∀er,af.1=.error er->1<=er:=λer he=>DX c (s.extract p s.size) (U (mb,m)) er (N▸he)
 have bz:∀W,pO W (U (mb,m))->jV jI 63 #[nD #[nk nI c.fmt,nk nK c.mag,nk nI c.pF,nk nI c.qc,nk nI c.dep,nk nI c.oV],nA (U (Z mb 0 V)),nz (s.extract p s.size)] W λe w'=>W.grownBy w' (U mb)/\pO w' af.2/\e=nG (Ux af.1).v:=λW dD=>by
  have:=Uy c (s.extract p s.size) (U (mb,m)) W bq hc ai dD;rw[N]at this;exact this
 have au:rJ c (L.map λx=>x.r) (s.extract p s.size) (U (mb,m))=a2L c (L.map λx=>x.r) af:=by rw[a1E,N]
 rw[N]at hrow;obtain⟨bY,bZ⟩:=af;obtain⟨m2,rfl⟩:∃m2,bZ=U (mb,m2):=by
  cases bZ with
  |none=>cases hrow
  |some q=>obtain⟨aX,av⟩:=q;cases hrow;exact⟨av,rfl⟩
 dsimp only at*;have bA:jX (∀W,w.alloc (nH #[nz ⟨#[]⟩,nz ⟨#[]⟩,nC false,ny V 0 0] zq)=W->KU g kc km kt ka ks sb r mb c s p w m W):=jH λW bK=>by
  subst bK;have a:=(jT w.heap.size w).alloc (jK _) (nH zm4 zq);have q:∀{n:Nat}{cs:Array jP}{t:ko},nP w n cs t->nP (w.alloc (nH zm4 zq)) n cs t:=λhB=>Below.blk a hB hB.lt
  have lt:∀{n:Nat}{cs:Array jP}{t:ko},nP w n cs t->n<g:=λhB=>hg▸hB.lt
  exact⟨q h.cf,q h.mv,q h.tx,q h.at_,q h.sv,⟨(a.cell (p:=(Z sb 0 V)) h.se.2).trans h.se.1,hg▸h.se.2⟩,⟨q h.mm.1,h.mm.2⟩,hg▸nP.new w _ _,oN.of a,h.ne,⟨lt h.cf,lt h.mv,lt h.tx,lt h.at_,lt h.sv,lt h.mm.1,hg⟩⟩
 have ax:=jH aj;have bL:=jH (jU hc ai);have bM:=jH bz;have ay:=jH hok;have az:=jH bu;obtain⟨bN,bB⟩:=nV (rJ c (L.map λx=>x.r) (s.extract p s.size) (U (mb,m)));rw[bB]at au⊢;have aa:=jH au;obtain⟨dE,bO⟩:=nV (G6 ka mb p bN w);have bP:=jH bO;rw[bO];clear h hc ai aj ak bq hrow N hok bu bz au bB bO;obtain⟨y,Y⟩:=nV (Ux bY);rw[Y]at bM;have aY:=jH Y;clear Y;go_in;go_upto_region 1 with fail;have bC:=bA.out _ rfl;generalize w.alloc _=w1 at*;have bD:=jH bC;clear bA bC;refine a4m (g:=g) (kc:=kc) (km:=km) (kt:=kt) (ka:=ka) (ks:=ks) (sb:=sb) (r:=r) (mb:=mb) (c:=c) (s:=s) (p:=p) (w0:=w) (m:=m) (m2:=m2) (y:=y) (ht0:=by rfl) (ht1:=by rfl) (ht2:=by rfl) (ht3:=by rfl) (hsz:=by rfl) (hp:=hp) (hnext:=bM.out) (hI0:=λ_=>⟨bD.drew,(λh=>by cases h)⟩) ?_;intro vs W hF;obtain⟨fb,bE,cz,hB⟩:=hF.bk rfl;have aA:=hF.bs;simp only[if_true]at hB aA;rw[bE];have aB:=jH aA;have aZ:=jH hB;simp only[jL,jQ,jR];clear hF hB aA bE bD bM;cases bY with
 |error er=>
  obtain rfl:y=⟨0,⟨#[]⟩,⟨#[]⟩,0,er⟩:=aY.symm;have cK:=az.out er rfl;have t0:((er:Int) !=0)=true:=nT;have bg:jX (bN=(.error er,U (mb,m2))):=aa;obtain⟨⟨bQ,bR,y2,bS⟩,bT,aX,av,bU⟩:=oG aB.rs;dsimp only;clear aa ay az aY cK;go_wp2_with fail;rw[tF];obtain⟨⟨aC,aD,d2,aF⟩,_⟩:=oG (rD (a:=nz ⟨#[]⟩) (b:=nz ⟨#[]⟩) (c:=nC false) (d:=ny V 0 0) aB.rs);have A:=KX (a:=nz ⟨#[]⟩) (b:=nz ⟨#[]⟩) (e:=nC false) (d:=ny V 0 0) aB.out;refine jZ (v:=nE #[nD #[nz ⟨#[]⟩,nz ⟨#[]⟩,nC false,ny V 0 0],nk nI (er:Nat)]) (by simp[kQ,Tryz.results62,go_sem,aC,aD,d2,aF]) rfl ?_;rw[<-bP.out,bg.out];exact⟨V,0,λ_=>⟨rfl,rfl⟩,rfl,vK _ _,A.1,A.2.1,A.2.2.1⟩
 |ok z=>
  obtain⟨⟨ag,fn,O⟩,n⟩:=z;obtain rfl:y=⟨ag,fn,O,n,0⟩:=aY.symm;obtain⟨aG,aH,aI,I,hid⟩:=ay.out _ rfl;dsimp only at aG aH aI I hid⊢;have bF:p+n<=s.size:=by simp only[kC]at aH;omega
  obtain⟨C,ae⟩:∃C,IE c (L.map λx=>x.r) ⟨ag,fn,O⟩=C:=⟨_,rfl⟩;have bg:jX (bN=a6u C n (U (mb,m2))):=jH (by rw[<-ae];exact aa);have aJ:∀er,C=.error er->er≠0:=λer he=>by
   rw[<-ae]at he;unfold IE at he;split at he;.cases he;decide
   .split at he
    .rename_i e1 h1
     have:=GY h1;cases he;split<;>omega
    .cases he
  have bV:=jH aJ;have hdec:∀W,N4B g kc km kt ka ks sb r mb c s p w m2 fb ⟨ag,fn,O⟩ W->jV jI 64 #[nA (U (Z r 0 V)),nD #[nk nJ ag,nz fn,nz O]] W (a1C C W):=λW bK=>by
   obtain⟨h1,h2,dF⟩:=ax.out W bK.1.up;have hb:=h1.lt3;rw[<-ae];exact Qj r bn bi c L ⟨ag,fn,O⟩ W h1 bL.1 bL.2 h2 dF I hid aI hb
  have Q:=jH hdec;clear hdec aJ ae aa ay az aY aI I hid aH bL ax;obtain⟨nm,I⟩:=nV (mN C);obtain⟨T,aK⟩:=nV (mT C);obtain⟨li,aL⟩:=nV (mL C);obtain⟨S,bW⟩:=nV (mS C);obtain⟨er,aM⟩:=nV (mE C);unfold a1C at Q;rw[I,aK,aL,bW,aM]at Q;have aN:=jH (jU I (jU aK (jU aL (jU bW aM))));clear I aK aL bW aM;go_upto_region 4 with fail;refine a4n (g:=g) (kc:=kc) (km:=km) (kt:=kt) (ka:=ka) (ks:=ks) (sb:=sb) (r:=r) (mb:=mb) (c:=c) (s:=s) (p:=p) (w0:=w) (m:=m2) (fb:=fb) (f:=⟨ag,fn,O⟩) (nm:=nm) (T:=T) (li:=li) (S:=S) (er:=er) (Ps:=λov cv=>(∃er,C=.error er)->ov=V/\cv=0) (EU:=by rfl) (EK:=by rfl) (hsz:=by rfl) (hdec:=Q.out) (qN:=λW dH h=>h.up1 cz) (hI0:=λ_=>A7.ini ⟨aB.drew,Below.blk (oC _) aZ aZ.lt⟩ aZ.lt) ?_;intro vs ah aO;obtain⟨ov,cv,b,bG,e5,cZ,df,dh,bH,aP,aQ⟩:=A7.fin aO;rw[e5,cZ,df,dh];have E:=jH aO.bs.1;have J:=jH (jU bG (jU bH aQ));obtain⟨⟨b0,b1,dw,b3⟩,_⟩:=oG aP;have dx:=jH aP;simp only[jL,jQ,jR];clear aO bG bH aP aQ e5 cZ df dh aB aZ Q;obtain⟨sn,aR⟩:=nV S.length;rw[aR]at b3 dx J⊢;have bI:=jH aR;clear aR;obtain⟨c3,f3⟩:=E.at_.b1;obtain⟨⟨bQ,bR,y2,bS⟩,bT,aX,av,bU⟩:=oG E.rs;by_cases h0:er=0
  .subst h0
   obtain⟨mm,rfl⟩:∃mm,C=.ok mm:=by
    cases C with
    |error e1=>exact absurd aN.2.2.2.2 (bV e1 rfl)
    |ok mm=>exact⟨mm,rfl⟩
   have dz:IntKind.i64.wrap ((p:Int)+(n:Int))=((p+n:Nat):Int):=by rw[IntWalk.i64_in _ nL];simp
   obtain⟨aS,aT⟩:=nV (p+n);rw[aT]at dz;have dA:=jH aT;clear aT aG bF;go_upto_region 7 with fail;have bJ:=E.atp aS;have aU:∀i,(ah.setCell (Z ka 0 V) (nk nI (aS:Nat))).cell? (Z b i V)=ah.cell? (Z b i V):=λi=>by
    have hb:=j6 ah (Z ka 0 V) (nk nI (aS:Nat)) b (by have:=J.2.1;have:=E.lt;show b≠ka;omega);simp only[mI,hb]
   have dI:=(aU 0).trans b0;have dJ:=(aU 1).trans b1;have dK:=(aU 2).trans dw;have dL:=(aU 3).trans b3;have dB:jX (nW (ah.setCell (Z ka 0 V) (nk nI (aS:Nat))) (λc=>g<c) (ny ov sn cv) S):=jH (Shape.nX.keep J.2.2 (by simp[kz]) (λc _ hc=>by have:=hc.1;omega) λc _ hc=>j6 ah (Z ka 0 V) (nk nI (aS:Nat)) c (by have:=hc.1;have:=E.lt;show c≠ka;omega));generalize ah.setCell _ _=dM at*;have aV:=jH bJ;clear bJ aU b0 b1 dw b3 bQ bR y2 bS bT aX av bU c3 f3 E;obtain⟨⟨bQ,bR,y2,bS⟩,bT,aX,av,bU⟩:=oG aV.rs;go_wp2_with fail;rw[tF];obtain⟨⟨aC,aD,d2,aF⟩,_⟩:=oG (rD (a:=nz nm) (b:=nz T) (c:=nC li) (d:=ny ov sn cv) aV.rs);have A:=KX (a:=nz nm) (b:=nz T) (e:=nC li) (d:=ny ov sn cv) aV.out;refine jZ (v:=nE #[nD #[nz nm,nz T,nC li,ny ov sn cv],nk nI 0]) (by simp[kQ,Tryz.results62,go_sem,aC,aD,d2,aF]) rfl ?_;obtain⟨bX,g2,g3,g4,_⟩:=aN.out;have hs:=A.2.2.2 _ _ dB.out;rw[<-bP.out,bg.out];have aW:=bI.out;subst bX g2 g3 g4 aW;exact⟨ov,cv,(λ⟨_,h⟩=>by cases h),rfl,hs,A.1,by show nP _ ka #[nk nI ((p+n:Nat):Int)] InT;rw[dA.out];exact A.2.1,A.2.2.1⟩
  .have t0:((er:Int)==0)=false:=nT
   have dC:C=.error er:=by
    cases C with
    |error e1=>rw[<-aN.2.2.2.2];rfl
    |ok mm=>exact absurd aN.2.2.2.2.symm h0
   subst dC;have dG:=jH h0;clear h0 aG bF c3 f3;go_wp2_with fail;rw[tF];obtain⟨⟨aC,aD,d2,aF⟩,_⟩:=oG (rD (a:=nz nm) (b:=nz T) (c:=nC li) (d:=ny ov sn cv) E.rs);have A:=KX (a:=nz nm) (b:=nz T) (e:=nC li) (d:=ny ov sn cv) E.out;refine jZ (v:=nE #[nD #[nz nm,nz T,nC li,ny ov sn cv],nk nI (er:Nat)]) (by simp[kQ,Tryz.results62,go_sem,aC,aD,d2,aF]) rfl ?_;obtain⟨bX,g2,g3,g4,_⟩:=aN.out;have hs:=A.2.2.2 _ _ (Shape.nX.keep J.2.2 (jK _) (λc _ hc=>by have:=hc.1;omega) λ_ _ _=>rfl);rw[<-bP.out,bg.out];have aW:=bI.out;subst bX g2 g3 g4 aW;exact⟨ov,cv,λ_=>J.1 ⟨er,rfl⟩,rfl,hs,A.1,A.2.1,A.2.2.1⟩
theorem ow.blk{w:jJ}{B:Nat}{v:jP}{l:List UInt8}(h:ow w B e v l):∀b,v.ownBlock=U b->B<=b/\b<w.heap.size:=by
 rcases h.2 with⟨rfl,_⟩|⟨g,cap,A,rfl,hb,hg,_⟩
 .intro b h;cases h
 .intro b h;cases h;exact⟨hb,(ku.1 hg).1⟩
theorem ow.form{w:jJ}{B:Nat}{v:jP}{l:List UInt8}(h:ow w B e v l):∃oa cap,v=ny oa l.length cap:=by
 rcases h.2 with⟨rfl,h0⟩|⟨g,cap,A,rfl,_⟩
 .exact⟨V,0,by rw[h0]⟩
 .exact⟨_,cap,rfl⟩
theorem ow.low{w:jJ}{B A:Nat}{v:jP}{l:List UInt8}(h:ow w A e v l)(hB:B<=A):ow w B e v l:=
 ⟨h.1,h.2.imp id λ⟨g,cap,C,e1,e2,r⟩=>⟨g,cap,C,e1,jY hB e2,r⟩⟩
def FrV(w:jJ)(v v':jP):Prop:=∀b,v'.ownBlock=U b->v.ownBlock=U b\/w.heap.size<=b
theorem a4o:(Tryz.prog.info? wB).map (λi=>(i.zero,i.size,i.bytes))=U (U (nk .u8 0),1,1):=nN
theorem NH(B:Nat)(v:jP)(l:List UInt8)(w:jJ)(h:ow w B wB v l)(hl:l.length<=100000):
  jV jI 94 #[v] w λe w'=>∃v',e=nG v'/\ow w' w.heap.size wB v' l/\jS w.heap.size w w'/\(∃oa cap,v'=ny oa l.length cap):=by
 have ax:∀(w:jJ)(a:Option lH)(n c N O:Nat),(binOp .eql TC (.slice a n c) (.slice V N O)).run jI w=.ok (.bool a.isNone) w:=λw a n c N O=>Lib.run_eql_slice_nil w _ _ a n c N O l6
 obtain⟨ai,hi,ae,af,ag⟩:=info_parts a4o;rcases h.2 with⟨rfl,h0⟩|⟨g,cap,ay,rfl,hb,hg,Q,aj,hsz,htake⟩
 .have:l=[]:=mU.1 h0
  subst this;clear h h0;go_in;go_wp2_with fail;go_returns;exact⟨_,rfl,ow.nil _ _ _,jT _ _,V,0,rfl⟩
 .have A:=λj (E:j<l.length)=>World.ownsRow.cells h (g:=g) rfl j (nk .u8 (l[j].toNat:Int)) (by simp[nU,jW E])
  have ak:=jH A;have ah:=jH hl;clear h hb hg Q aj hsz htake A hl;go_in;go_wp2_with (at_builtin;refine wpList_append_own _ rfl _ _ TC rfl w.heap.size wB ai (.int .u8 0) 1 1 l6 hi ae af ag rfl nO _ _ _ rfl (World.ownsRow_made w #[] 0 (jK _) (kH _) rfl) (Z g 0 V) l.length cap (nU l) rfl ?qc1 ?qc2 ?qc3 ?qc4 ?qc5 ?qc6 ?_);case qc1=>simp
  case qc2=>
   intro j u E;have J:j<l.length:=by
    have:=(lF.1 E).1;simpa using this
   rw[Addr.add_lit];refine Lib.cell?_alloc_some _ ?_;have:=ak.out j J;rw[Addr.add_lit]at this;rw[this];have e:(nU l)[j]? =U (nk .u8 (l[j].toNat:Int)):=by simp[nU,jW J]
   rw[e]at E;exact E
  case qc3=>exact rO l
  case qc4=>have:=ah.out;unfold j3;omega
  case qc5=>have:=ah.out;omega
  case qc6=>simp
  intro v' w1 Y I au;go_wp2_with fail;go_returns;have C:ow w1 w.heap.size wB v' l:=Y;refine⟨v',rfl,C,((jT _ w).alloc (jK _) _).grown I nS (by intro k hk;simp[kJ]at hk;omega),?_⟩
  .rcases C.2 with⟨rfl,h0⟩|⟨az,aa,av,e1,_⟩
   .exact⟨V,0,by rw[h0]⟩
   .exact⟨_,aa,e1⟩
theorem NI{w:jJ}{B g cap:Nat}{A:Array jP}{l:List UInt8}{n:Nat}(hb:B<=g)(hg:w.heap[g]? =U (nH A wB (0,0)))(E:l.length<=cap)(I:cap<=j3)(hsz:A.size=cap)(hn:n<=l.length):
  ow (w.setRow g (A.toList.take 0++(nU (l.drop n)++A.toList.drop (0+(nU (l.drop n)).length))).toArray) B wB (ny (U (Z g 0 V)) (l.length - n) cap) (l.drop n)/\w.grownBy (w.setRow g (A.toList.take 0++(nU (l.drop n)++A.toList.drop (0+(nU (l.drop n)).length))).toArray) (U g):=by
 have hlen:(l.drop n).length=l.length - n:=kX;refine⟨⟨nS,.inr ⟨g,cap,_,by rw[hlen],hb,setRow_heap w g A _ wB _ hg,nL,I,?_,?_⟩⟩,⟨rfl,rfl,rfl,by simp[World.setRow],λi _ C=>setRow_other w g i _ (λe=>C (by rw[e]))⟩⟩;.simp[hsz];omega
 .simp
theorem Yi{p:Prop}(h:p:=by
 go_in;go_wp2_with (with_reducible refine wpList_copy_nothing rfl (.tmp 7) (.tmp 10) TC TC rfl wB l6 nN _ _ _ _ _ _ rfl rfl (by simp[Nat.min_def]) ?_)
 .refine(CC.out _ _ HOWN.out).mono ?_
  rintro e w2 ⟨v',rfl,ho,hb2,hf⟩;go_wp2_with fail;go_returns;exact⟨v',rfl,ho.low HB.out.1,o6 hb2,λb hb=> .inr (ow.blk ho b hb).1,hf⟩
 .go_returns
  exact⟨_,rfl,HOWN.out,o6 (jT _ _),λ_ h=> .inl h,_,_,rfl⟩):p:=h
theorem Yj(B:Nat)(v:jP)(l:List UInt8)(n:Nat)(w:jJ)(h:ow w B wB v l)(hn:n<=l.length)(hl:l.length<=100000)(hB:B<=w.heap.size):
  jV jI 66 #[v,nk nI n] w λe w'=>∃v',e=nG v'/\ow w' B wB v' (l.drop n)/\w.grownBy w' v.ownBlock/\FrV w v v'/\(∃oa cap,v'=ny oa (l.drop n).length cap):=by
 rcases h.2 with⟨rfl,h0⟩|⟨g,cap,J,rfl,hb,hg,E,ag,hsz,htake⟩
 .have:l=[]:=mU.1 h0
  subst this;obtain rfl:n=0:=by simpa using hn
  clear h h0 hn;go_in;go_wp2_with (with_reducible refine wpList_copy_nothing rfl (.tmp 7) (.tmp 10) TC TC rfl wB l6 nN V V 0 0 0 0 rfl rfl rfl ?_);go_returns;exact⟨_,rfl,ow.nil _ _ _,⟨rfl,rfl,rfl,jK _,λ_ _ _=>rfl⟩,λ_ h=> .inl h,V,0,rfl⟩
 .have hlen:(l.drop n).length=l.length - n:=kX
  have A:=jH (NI (n:=n) hb hg E ag (by simpa using hsz) hn);have CC:=jH (λ(W:jJ) (v':jP) (h:ow W B wB v' (l.drop n))=>NH B v' (l.drop n) W h nL);have av:=jH hlen;have HB:=jH (jU hB (jU hb (ku.1 hg).1));obtain⟨N,aa⟩:=nV l.length;have az:cap<=9223372036854775807:=by unfold j3 at ag;omega
  have C:=λj (ae:j<l.length)=>World.ownsRow.cells h (g:=g) rfl j (nk .u8 (l[j].toNat:Int)) (by simp[nU,jW ae])
  by_cases ai:n=l.length
  .
   subst ai;have hd:l.drop l.length=[]:=List.drop_length;have HOWN:jX (ow w B wB (ny (U (Z g 0 V)) 0 cap) []):=jH ⟨rfl,.inr ⟨g,cap,J,rfl,hb,hg,kH _,ag,hsz,by simp[nU]⟩⟩;rw[hd]at CC⊢;clear A C h hg htake hsz hb;rw[aa]at E hl⊢;have fin:∀{w':jJ},True:=λ{_}=>trivial
   by_cases hc:N=cap
   .subst hc
    exact Yi
   .have aA:N<cap:=nL
    have aB:((N:Int)==(cap:Int))=false:=nT;exact Yi
  .have aj:n<l.length:=nL
   have ak:=kX (i:=n) (l:=l);have O:∀j v,(nU (l.drop n))[j]? =U v->w.cell? (((Z g n V):lH).add j)=U v:=λj v ae=>by
    have aC:j<(l.drop n).length:=by
     have:=(lF.1 ae).1;simpa using this
    have h1:=C (n+j) nL;rw[Addr.add_lit]at h1⊢;rw[Nat.zero_add]at h1;rw[h1,<-ae];simp[nU,jW (show n+j<l.length by omega)]
   obtain⟨M,ah⟩:=nV (l.length - n);have I:(nU (l.drop n)).length=M:=by rw[qZ,hlen,ah]
   have Q:(nU (l.drop n)).length=Nat.min (N - n) N:=by rw[I,<-ah,aa];simp[Nat.min_def]
   have Y:0+(nU (l.drop n)).length<=J.size:=by rw[I];omega
   have af:=jH (jU hg (jU O (jU Q Y)));rw[<-hlen]at A;simp only[kL,List.nil_append,Nat.zero_add,qZ]at A;have ax:(l.drop n).length<=cap:=nL;have ay:(l.drop n).length<=100000:=nL;have aD:jX (M<=N/\0<M):=jH nL;have aF:M<=cap:=nL;have aG:M<=100000:=nL;have aH:n<cap:=nL;have aI:n<=N:=nL;clear C O Q Y I ak hlen av aj h hg htake hsz hb ah;rw[aa]at E hl⊢;clear aa hn ai;generalize aJ:l.drop n=au at*;go_in;go_wp2_with (with_reducible refine wpList_copy_own rfl (.tmp 7) (.tmp 10) TC TC rfl wB l6 nN g 0 N cap (Z g n V) (N - n) (cap - n) rfl rfl J wB af.out.1 (nU au) af.out.2.2.1 af.out.2.1 af.out.2.2.2 (rO au) ?_)
   .obtain⟨h1,h2⟩:=A.out
    refine(CC.out _ _ h1).mono ?_;rintro e w2 ⟨v',rfl,ho,hb2,hf⟩;go_wp2_with fail;go_returns;exact⟨v',rfl,ho.low (jY HB.out.1 h2.size),pY h2 (o6 hb2),λb hb=> .inr (jY h2.size (ow.blk ho b hb).1),hf⟩
   .obtain⟨h1,h2⟩:=A.out
    go_returns;exact⟨_,rfl,h1,h2,λ_ h=> .inl h,_,_,rfl⟩
abbrev MlT:ko:=35
structure xV where
 m:Ii
 ov:Option lH
 cv:Nat
def xV.u(y:xV):jP:=ny y.ov y.m.val.sub.length y.cv
def mcl(y:xV):List jP:=[nz y.m.name,nz (txt y.m.val.lab),nC y.m.val.lab.list,y.u]
theorem KY(y:xV):(mcl y).length=4:=rfl
theorem a4p:wT jI MlT zq 4:=⟨Tryz.underlying35,⟨.agg #[.string ⟨#[]⟩,.string ⟨#[]⟩,.bool false,.slice V 0 0],64,by
 obtain⟨i,h1,h2,A,C⟩:=info_parts (show(Tryz.prog.info? zq).map (λi=>(i.zero,i.size,i.bytes))=U (U (nD #[nz ⟨#[]⟩,nz ⟨#[]⟩,nC false,ny V 0 0]),4,64)by kernel_rfl);exact⟨i,h1,h2,A,C,nO,rfl⟩⟩,nO⟩
def ql(w:jJ)(Q:Nat->Prop)(v:jP)(L:List xV):Prop:=
 pQ mcl 4 w 0 zq v L/\(∀b,v.ownBlock=U b->Q b)/\∀y,y∈L->nW w (λc=>Q c/\v.ownBlock≠U c) y.u y.m.val.sub
theorem ql.nil(w:jJ)(Q:Nat->Prop):ql w Q (ny V 0 0) []:=⟨pQ.nil w 0 zq,λb h=>by simp[kJ]at h,λy h=>by cases h⟩
theorem ql.slice{w:jJ}{Q:Nat->Prop}{v:jP}{L:List xV}(h:ql w Q v L):∃oa cap,v=ny oa L.length cap:=h.1.slice
theorem ql.keep{w w':jJ}{Q Q':Nat->Prop}{v:jP}{L:List xV}(h:ql w Q v L)(hs:w.heap.size<=w'.heap.size)(hk:∀c,c<w.heap.size->Q c->w'.heap[c]? =w.heap[c]?)(C:∀c,c<w.heap.size->Q c->Q' c):ql w' Q' v L:=by
 refine⟨h.1.keep λb hb=>hk b (h.1.block b hb).2.1 (h.2.1 b hb),λb hb=>C b (h.1.block b hb).2.1 (h.2.1 b hb),λy E=> ?_⟩;exact Shape.nX.keep (h.2.2 y E) hs (λc hc A=>⟨C c hc A.1,A.2⟩) λc hc A=>hk c hc A.1
theorem ql.push{w w1:jJ}{Q I:Nat->Prop}{v:jP}{L:List xV}{x:xV}{g cap:Nat}(h:ql w Q v L)(hrow:pQ mcl 4 w1 0 zq (ny (U (Z g 0 V)) (L.length+1) cap) (L++[x]))(hg:w.grownBy w1 v.ownBlock)(A:v.ownBlock=U g\/w.heap.size<=g)(N:nW w I x.u x.m.val.sub)(hxv:∀c,I c->v.ownBlock≠U c):
  ql w1 (λc=>Q c\/I c\/c=g) (ny (U (Z g 0 V)) (L.length+1) cap) (L++[x]):=by
 have hgn:∀c,c<w.heap.size->v.ownBlock≠U c->c≠g:=λc hc J e=>by
  rcases A with A|A
  .exact J (by rw[A,e])
  .omega
 have E:∀c,c<w.heap.size->v.ownBlock≠U c->w1.heap[c]? =w.heap[c]? :=λc hc J=>hg.block c hc (λe=>J e.symm)
 refine⟨hrow,λb hb=> ?_,λy C=> ?_⟩
 .simp[kJ]at hb
  exact .inr (.inr hb.symm)
 .rcases List.mem_append.1 C with C|C
  .refine Shape.nX.keep (h.2.2 y C) hg.size (λc hc hq=>⟨.inl hq.1,?_⟩) λc hc hq=>E c hc hq.2
   intro e;simp[kJ]at e;exact hgn c hc hq.2 e.symm
  .simp at C
   subst C;refine Shape.nX.keep N hg.size (λc hc hq=>⟨.inr (.inl hq),?_⟩) λc hc hq=>E c hc (hxv c hq)
   exact KI
structure qJ(F:Nat->Prop)(w w':jJ):Prop where
 os:w'.os=w.os
 tape:w'.tape=w.tape
 output:w'.output=w.output
 size:w.heap.size<=w'.heap.size
 block:∀k,k<w.heap.size->¬F k->w'.heap[k]? =w.heap[k]?
section
variable {F F':Nat->Prop}{u w w':jJ}
theorem qJ.refl(F:Nat->Prop)(w:jJ):qJ F w w:=⟨rfl,rfl,rfl,jK _,λ_ _ _=>rfl⟩
theorem qJ.trans(h:qJ F u w)(k:qJ F' w w')(hF:∀c,c<u.heap.size->F' c->F c):qJ F u w':=
 ⟨k.os.trans h.os,k.tape.trans h.tape,k.output.trans h.output,jY h.size k.size,λi hi hn=>(k.block i (kG hi h.size) λA=>hn (hF i hi A)).trans (h.block i hi hn)⟩
theorem qJ.of(h:jS w.heap.size w w'):qJ F w w':=⟨h.os,h.tape,h.output,h.size,λk hk _=>h.block k hk⟩
theorem qJ.of2{b q:Nat}(h:oN b q w w')(hb:b<w.heap.size->F b)(A:q<w.heap.size->F q):qJ F w w':=
 ⟨h.os,h.tape,h.output,h.size,λk hk hn=>h.block k hk (λe=>hn (e▸hb (e▸hk))) (λe=>hn (e▸A (e▸hk)))⟩
theorem qJ.grown{row:Option Nat}(h:w.grownBy w' row)(hb:∀b,row=U b->F b):qJ F w w':=
 ⟨h.os,h.tape,h.output,h.size,λk hk hn=>h.block k hk λe=>hn (hb k e.symm)⟩
theorem qJ.set(h:qJ F u w){p:lH}(hp:p.block<u.heap.size->F p.block)(v:jP):qJ F u (w.setCell p v):=
 ⟨h.os,h.tape,h.output,by simpa [kz]using h.size,λk hk hn=>(j6 w p v k (λe=>hn (e▸hp (e▸hk)))).trans (h.block k hk hn)⟩
theorem qJ.blk(h:qJ F w w'){c:Nat}{cs:Array jP}{t:ko}(hc:nP w c cs t)(hn:¬F c):nP w' c cs t:=by
 unfold nP;rw[h.block c hc.lt hn];exact hc
theorem qJ.below(h:qJ F w w'){B:Nat}(hB:∀c,c<B->¬F c)(A:B<=w.heap.size):jS B w w':=⟨h.os,h.tape,h.output,h.size,λk hk=>h.block k nL (hB k hk)⟩
theorem qJ.mono(h:qJ F w w')(hF:∀c,c<w.heap.size->F c->F' c):qJ F' w w':=⟨h.os,h.tape,h.output,h.size,λk hk hn=>h.block k hk λA=>hn (hF k hk A)⟩
end
theorem ow.kp{w w':jJ}{F:Nat->Prop}{B:Nat}{v:jP}{l:List UInt8}(h:ow w B e v l)(k:qJ F w w')(hn:∀b,v.ownBlock=U b->¬F b):ow w' B e v l:=by
 refine⟨h.1,?_⟩;rcases h.2 with h2|⟨g,cap,A,C,hg,hh,r⟩
 .exact .inl h2
 .refine .inr ⟨g,cap,A,C,hg,?_,r⟩
  rw[k.block g (ku.1 hh).1 (hn g (by rw[C];rfl))];exact hh
theorem G7(r bn bi:Nat)(c:oF)(L:List oO)(w:jJ)(h:qi r bn bi c L w):
  jV jI 38 #[nA (U (Z r 0 V))] w λe w'=>e=nG (nD #[nk nI c.fmt,nk nK c.mag,nk nI c.pF,nk nI c.qc,nk nI c.dep,nk nI c.oV])/\jS w.heap.size w w':=by
 obtain⟨g,hg⟩:=nV w.heap.size;have A:jX (∀W,w.alloc (nH #[nk nI 0,nk nK 0,nk nI 0,nk nI 0,nk nI 0,nk nI 0] tC)=W->nP W g #[nk nI 0,nk nK 0,nk nI 0,nk nI 0,nk nI 0,nk nI 0] tC/\jS g w W/\qi r bn bi c L W):=jH λW I=>by
  subst I;have a:=(jT w.heap.size w).alloc (jK _) (nH #[nk nI 0,nk nK 0,nk nI 0,nk nI 0,nk nI 0,nk nI 0] tC);exact⟨hg▸nP.new w _ _,hg▸a,h.below a⟩
 rw[hg];clear h;go_in;go_upto_region 1 with fail;obtain⟨hB,hb,C⟩:=A.out _ rfl;generalize w.alloc _=w1 at*;obtain⟨c0,c1,c2,c3,c4,c5⟩:=C.rg.a6;obtain⟨Y,aa,y2,ae,af,ag,ah,f1,f2,f3,f4,ai⟩:=hB.b6;have E:=jH (jU hB hb);clear A hB hb C;go_wp2_with fail
 have J:nP ((((((w1.setCell (Z g 0 V) (nk nI c.fmt)).setCell (Z g 1 V) (nk nK c.mag)).setCell (Z g 2 V) (nk nI c.pF)).setCell (Z g 3 V) (nk nI c.qc)).setCell (Z g 4 V) (nk nI c.dep)).setCell (Z g 5 V) (nk nI c.oV)) g #[nk nI c.fmt,nk nK c.mag,nk nI c.pF,nk nI c.qc,nk nI c.dep,nk nI c.oV] tC:=
  (((((E.1.set 0 _).set 1 _).set 2 _).set 3 _).set 4 _).set 5 _
 obtain⟨N,O,d2,Q,d4,d5⟩:=J.a6;refine jZ (v:=nD #[nk nI c.fmt,nk nK c.mag,nk nI c.pF,nk nI c.qc,nk nI c.dep,nk nI c.oV]) (by simp[kQ,Tryz.results38,go_sem,N,O,d2,Q,d4,d5]) rfl ⟨rfl,?_⟩;exact(((((E.2.setCell (p:=(Z g 0 V)) (jK g) _).setCell (p:=(Z g 1 V)) (jK g) _).setCell (p:=(Z g 2 V)) (jK g) _).setCell (p:=(Z g 3 V)) (jK g) _).setCell (p:=(Z g 4 V)) (jK g) _).setCell (p:=(Z g 5 V)) (jK g) _
def G8(c:oF)(s:ByteArray):Nat:=
 if c.fmt=1 then if s.size<24 then 0 else 24+qm (s.extract 16 20).data.toList
 else if(pI c.pF s.data.toList).2.2≠0 then 0 else(pI c.pF s.data.toList).2.1+(pI c.pF s.data.toList).1
theorem Ql(c:oF)(hc:oJ c=true)(s:ByteArray)(w:jJ)(hs:s.size<=100000):
  jV jI 65 #[nD #[nk nI c.fmt,nk nK c.mag,nk nI c.pF,nk nI c.qc,nk nI c.dep,nk nI c.oV],nz s] w λe w'=>e=nG (nk nI (G8 c s:Nat))/\jS w.heap.size w w':=by
 obtain⟨_,⟨ak,au⟩,_⟩:=qU hc;have N:=jH (vz (w:=w) c (t:=tC));obtain⟨g,hg⟩:=nV w.heap.size;have J:s.size<=j3:=jY hs nO;have Q:=jH (λW=>wI c.pF s W nL J);have A:(pI c.pF s.data.toList).2.2=0->((pI c.pF s.data.toList).1:Int)<=65536/\(pI c.pF s.data.toList).2.1<=10:=λh=>by
  generalize af:pI c.pF s.data.toList=q at*;obtain⟨a,b,e⟩:=q;dsimp only at h⊢;subst h;have:=zA af;omega
 obtain⟨E,I⟩:=nV (G8 c s);have C:jX (E=if c.fmt=1 then if s.size<24 then 0 else 24+qm (s.extract 16 20).data.toList else if(pI c.pF s.data.toList).2.2≠0 then 0 else(pI c.pF s.data.toList).2.1+(pI c.pF s.data.toList).1):=jH I.symm;rw[I];rw[hg]at N⊢;clear I J hc;generalize pI c.pF s.data.toList=q at*;obtain⟨a,b,er⟩:=q;dsimp only at*;go_in;go_upto_region 1 with fail;obtain⟨hb,c0,c1,c2,c3,c4,c5⟩:=N.out _ rfl;generalize w.alloc _=w1 at*;have HB:=jH hb;clear N hb;by_cases h1:c.fmt=1
 .have ag:(c.fmt !=1)=false:=by simp[h1]
  by_cases h2:s.size<24
  .have HE:jX (E=0):=jH (by rw[C.out,if_pos h1,if_pos h2])
   have Y:decide ((s.size:Int)<24)=true:=nT;clear h1 h2 C A;exact DW
  .have aa:(s.extract 16 20).size=4:=by simp only[kC];omega
   have HE:jX (E=24+qm (s.extract 16 20).data.toList):=jH (by rw[C.out,if_pos h1,if_neg h2]);have ah:=jH (sV (s.extract 16 20) w1 nL nL);have aA:qm (s.extract 16 20).data.toList<4294967296:=by
    have ae:=uz (s.extract 16 20).data.toList;have ai:(s.extract 16 20).data.toList.length=4:=by
     have:(s.extract 16 20).data.toList.length=(s.extract 16 20).size:=kY;omega
    rw[ai]at ae;exact ae
   have av:24<=s.size:=nL;have Y:decide ((s.size:Int)<24)=false:=nT;clear h1 h2 C A aa;generalize aj:s.extract 16 20=X at*;generalize qm X.data.toList=aB at*;go_wp2_with fail;all_goals try rw[aj]
   refine ah.mono ?_;rintro e w2 ⟨rfl,rfl⟩;go_wp2_with fail;go_returns;exact⟨by rw[HE.out];simp,HB.out⟩
 .have ag:(c.fmt !=1)=true:=by simp[h1]
  have ax:=jH h1;by_cases h2:er=0
  .subst h2
   obtain⟨ay,az⟩:=A rfl;have HE:jX (E=b+a):=jH (by rw[C.out,if_neg h1,if_neg nS]);clear h1 C A;go_wp2_with fail;refine(Q _).mono ?_;rintro e w2 ⟨rfl,O⟩;subst O;go_wp2_with fail;go_returns;exact⟨by rw[HE.out];simp,HB.out⟩
  .have Y:((er:Int) !=0)=true:=nT
   have HE:jX (E=0):=jH (by rw[C.out,if_neg h1,if_pos h2]);clear h1 C A h2;go_wp2_with fail;refine(Q _).mono ?_;rintro e w2 ⟨rfl,O⟩;subst O;exact DW
abbrev Jt:ko:=88
def Ee(r:Nat)(bv:jP)(nd fa la tt se:Int):Array jP:=#[nA (U (Z r 0 V)),bv,nk nI nd,nk nI fa,nk nI la,nk nI tt,nk nI se]
structure N1C(ks sb r:Nat)(bv:jP)(nd fa la tt se:Int)(Bs:jJ->Prop)(W:jJ):Prop where
 bs:Bs W
 sv:nP W ks #[nA (U (Z sb 0 V))] Qk
 ss:nP W sb (Ee r bv nd fa la tt se) Jt
structure E5(ks kc kt ka sb r:Nat)(c:oF)(s:ByteArray)(p:Nat)(bv:jP)(nd fa la tt se:Int)(Bs:jJ->Prop)(W:jJ):Prop where
 sv:nP W ks #[nA (U (Z sb 0 V))] Qk
 ss:nP W sb (Ee r bv nd fa la tt se) Jt
 cf:nP W kc #[nk nI c.fmt,nk nK c.mag,nk nI c.pF,nk nI c.qc,nk nI c.dep,nk nI c.oV] tC
 tx:nP W kt #[nz s] MI
 at_:nP W ka #[nk nI p] InT
 bs:Bs W
 ne:ks≠sb/\kc≠sb/\kt≠sb/\ka≠sb
theorem E5.below{ks kc kt ka sb r:Nat}{c:oF}{s:ByteArray}{p:Nat}{bv:jP}{nd fa la tt se:Int}{Bs:jJ->Prop}{W A:jJ}(qN:∀W A,Bs W->jS W.heap.size W A->Bs A)(h:E5 ks kc kt ka sb r c s p bv nd fa la tt se Bs W)(hb:jS W.heap.size W A):E5 ks kc kt ka sb r c s p bv nd fa la tt se Bs A:=
 ⟨Below.blk hb h.sv h.sv.lt,Below.blk hb h.ss h.ss.lt,Below.blk hb h.cf h.cf.lt,Below.blk hb h.tx h.tx.lt,Below.blk hb h.at_ h.at_.lt,qN _ _ h.bs hb,h.ne⟩
theorem E5.put{ks kc kt ka sb r:Nat}{c:oF}{s:ByteArray}{p:Nat}{bv:jP}{nd fa la tt se:Int}{Bs:jJ->Prop}{W:jJ}(LM:∀W i v,Bs W->Bs (W.setCell (Z sb i V) v))(h:E5 ks kc kt ka sb r c s p bv nd fa la tt se Bs W)(n2:Int):E5 ks kc kt ka sb r c s p bv n2 fa la tt se Bs (W.setCell (Z sb 2 V) (nk nI n2)):=
 have n:=h.ne;have o:∀{b:Nat}{cs:Array jP}{t:ko},nP W b cs t->b≠sb->nP (W.setCell (Z sb 2 V) (nk nI n2)) b cs t:=λhB hn=>hB.setOther (a:=(Z sb 2 V)) hn _
 ⟨o h.sv n.1,h.ss.set 2 _,o h.cf n.2.1,o h.tx n.2.2.1,o h.at_ n.2.2.2,LM _ _ _ h.bs,h.ne⟩
structure Cb(ks ka sb r G p:Nat)(buf:List UInt8)(bo:Option lH)(bc:Nat)(nd fa la tt se:Int)(Bs:jJ->Prop)(d6 d9:Bool)(v6:jP)(W:jJ):Prop where
 sv:nP W ks #[nA (U (Z sb 0 V))] Qk
 at_:nP W ka #[nk nI p] InT
 ss:nP W sb (Ee r (if d9=true then v6 else ny bo buf.length bc) nd fa la tt se) Jt
 ob:d6=false->ow W G wB (ny bo buf.length bc) buf
 od:d6=true->(∃oa cap,v6=ny oa (buf.drop p).length cap)/\ow W G wB v6 (buf.drop p)/\∀b,v6.ownBlock=U b->(kM bo buf.length bc).ownBlock=U b\/ks<=b
 bs:Bs W
 dn:d9=true->d6=true
 ne:ks≠sb/\ka≠sb/\G<=sb/\G<=W.heap.size/\∀b,(kM bo buf.length bc).ownBlock=U b->b≠ks/\b≠ka/\b≠sb
section
variable {ks ka sb r G p:Nat}{buf:List UInt8}{bo:Option lH}{bc:Nat}{nd fa la tt se:Int}{Bs:jJ->Prop}{d6 d9:Bool}{v6 v6':jP}{W W':jJ}
theorem Cb.call(hBg:∀W W',Bs W->W.grownBy W' (kM bo buf.length bc).ownBlock->Bs W')(h:Cb ks ka sb r G p buf bo bc nd fa la tt se Bs false false v6 W)(hg:W.grownBy W' (kM bo buf.length bc).ownBlock)(ho:ow W' G wB v6' (buf.drop p))(A:FrV W (ny bo buf.length bc) v6')(C:∃oa cap,v6'=ny oa (buf.drop p).length cap):
  Cb ks ka sb r G p buf bo bc nd fa la tt se Bs true false v6' W':=by
 have n:=h.ne;have q:∀{c:Nat}{cs:Array jP}{t:ko},nP W c cs t->(∀b,(kM bo buf.length bc).ownBlock=U b->b≠c)->nP W' c cs t:=λhB hn=>pg hB hg hn
 exact⟨q h.sv λb hb=>(n.2.2.2.2 b hb).1,q h.at_ λb hb=>(n.2.2.2.2 b hb).2.1,q h.ss λb hb=>(n.2.2.2.2 b hb).2.2,(λh=>by cases h),λ_=>⟨C,ho,λb hb=>(A b hb).imp id λk=>by have:=h.sv.lt;omega⟩,hBg _ _ h.bs hg,λ_=>rfl,⟨n.1,n.2.1,n.2.2.1,jY n.2.2.2.1 hg.size,n.2.2.2.2⟩⟩
theorem Cb.put(LM:∀W i v,Bs W->Bs (W.setCell (Z sb i V) v))(A:∀b,v6.ownBlock=U b->b≠sb)(h:Cb ks ka sb r G p buf bo bc nd fa la tt se Bs true false v6 W):Cb ks ka sb r G p buf bo bc nd fa la tt se Bs true true v6 (W.setCell (Z sb 1 V) v6):=by
 have n:=h.ne;have o:∀{b:Nat}{cs:Array jP}{t:ko},nP W b cs t->b≠sb->nP (W.setCell (Z sb 1 V) v6) b cs t:=λhB hn=>hB.setOther (a:=(Z sb 1 V)) hn _
 refine⟨o h.sv n.1,o h.at_ n.2.1,h.ss.set 1 _,(λh=>by cases h),λ_=>⟨(h.od rfl).1,?_,(h.od rfl).2.2⟩,LM _ _ _ h.bs,λ_=>rfl,⟨n.1,n.2.1,n.2.2.1,by simpa [kz]using n.2.2.2.1,n.2.2.2.2⟩⟩;exact ow.kp (h.od rfl).2.1 (F:=λk=>k=sb) (qJ.set (F:=λk=>k=sb) (p:=(Z sb 1 V)) (qJ.refl _ W) (λ_=>rfl) v6) λb hb e=>A b hb e
end
noncomputable def KZ:List lY:=cO (cL (cL (cR (cB Tryz.f34))))
section
variable (ks sb r:Nat)(bo:Option lH)(bn bc:Nat)(nd fa la tt se:Int)(Bs:jJ->Prop)
def K3:Nat->jP
 |0=> nA (U (Z sb 0 V))
 |1=> nA (U (Z sb 0 V))
 |2=> nA (U (Z sb 1 V))
 |3=> ny bo bn bc
 |4=> nk nI bn
 |5=> nA (U (Z sb 0 V))
 |6=> nA (U (Z sb 0 V))
 |7=> nA (U (Z sb 2 V))
 |8=> nk nI nd
 |9=> nC (decide ((bn:Int)<nd))
 |_=>kI
structure a9g(D:Nat->Bool)(vs:Nat->jP)(w:jJ):Prop where
 oH:N1C ks sb r (ny bo bn bc) nd fa la tt se Bs w
 val:∀j,(true)=true->D j=true->vs j=K3 sb bo bn bc nd j
variable {ks sb r bo bn bc nd fa la tt se Bs}
theorem a4q{id:Nat}{Q:Exit->Act->jJ->Prop}{I:jJ}(ht2:a0.tmps.getD 2 kI=nA (U (Z ks 0 V)))(hsz:a0.tmps.size=73)(hI0:∀vs:Nat->jP,(λw=>N1C ks sb r (ny bo bn bc) nd fa la tt se Bs w) I.drew)(J:∀(vs:Nat->jP) (w:jJ),N1C ks sb r (ny bo bn bc) nd fa la tt se Bs w->Q .normal {a0 with tmps:=((((((((((a0.tmps.setIfInBounds 12 (nA (U (Z sb 0 V)))).setIfInBounds 13 (nA (U (Z sb 0 V)))).setIfInBounds 14 (nA (U (Z sb 1 V)))).setIfInBounds 15 (ny bo bn bc)).setIfInBounds 16 (nk nI bn)).setIfInBounds 17 (nA (U (Z sb 0 V)))).setIfInBounds 18 (nA (U (Z sb 0 V)))).setIfInBounds 19 (nA (U (Z sb 2 V)))).setIfInBounds 20 (nk nI nd)).setIfInBounds 21 (nC (decide ((bn:Int)<nd))))} w):
  (ll id KZ.toArray true).wp jI Q a0 I:=by
 refine og 10 73 (a9g ks sb r bo bn bc nd fa la tt se Bs) nN hsz nN (.inl rfl) nN ?_ ?_ ?_;.exact qB
 .refine rM λA Y=> ?_
  clear hI0 J hsz;replace ht2:=jH ht2;dsimp+instances only[KZ,cO,cL,cR,cB,Tryz.f34];simp only[ky,kL,qW];refine⟨?_,?_,?_,?_,?_,?_,?_,?_,?_,?_,trivial⟩<;>(intro D vs a w K hI hd E hw2 C aa;subst Y;dsimp+instances only[KZ,cO,cL,cR,cB,Tryz.f34]);have e2:=(C 2 nO).trans ht2.out;have hB:=hI.oH.sv;have c0:=hB.c0;clear hB;rotate_left;have af:=fe C hI.val E 12 0;rotate_left;have ag:=fe C hI.val E 13 1;rotate_left;have N:=fe C hI.val E 14 2;simp only[K3]at N;have hB:=hI.oH.ss;have c0:=hB.cell 1;simp only[Ee,jO,jN,jM]at c0;clear hB;rotate_left;have ah:=fe C hI.val E 15 3;rotate_left;have e2:=(C 2 nO).trans ht2.out;have hB:=hI.oH.sv;have c0:=hB.c0;clear hB;rotate_left;have ai:=fe C hI.val E 17 5;rotate_left;have aj:=fe C hI.val E 18 6;rotate_left;have O:=fe C hI.val E 19 7;simp only[K3]at O;have hB:=hI.oH.ss;have c0:=hB.cell 2;simp only[Ee,jO,jN,jM]at c0;clear hB;rotate_left;have ak:=fe C hI.val E 16 4;have au:=fe C hI.val E 20 8;rotate_left
  all_goals
   try simp only[K3]at*
   go_simp;exact aa _ _ _ rfl ⟨hI.oH,uK hI.val⟩
 .intro D vs w ae hI
  have E:=hI.oH;have q:=J vs w E;rw[oW hI.val ae];dsimp+instances only[KZ,cO,cL,cR,cB,Tryz.f34];exact qH
end
noncomputable def Fx:List lY:=cO (cL (cR (cL (cR (cR (cR (cR (cR (cR (cR (cR (cR (cB Tryz.f34)))))))))))))
section
variable (ks kc kt ka sb r:Nat)(c:oF)(s:ByteArray)(p:Nat)(bv:jP)(nd fa la tt se:Int)(n2:Nat)(Bs:jJ->Prop)
def yR:Nat->jP
 |0=> nA (U (Z sb 0 V))
 |1=> nD #[nk nI c.fmt,nk nK c.mag,nk nI c.pF,nk nI c.qc,nk nI c.dep,nk nI c.oV]
 |2=> nz s
 |3=> nk nI p
 |4=> nz (s.extract p s.size)
 |5=> nk nI n2
 |6=> nA (U (Z sb 0 V))
 |7=> nA (U (Z sb 2 V))
 |_=>kI
structure Yk(D:Nat->Bool)(vs:Nat->jP)(w:jJ):Prop where
 oH:E5 ks kc kt ka sb r c s p bv (if(D 8)=true then n2 else nd) fa la tt se Bs w
 val:∀j,(true)=true->D j=true->vs j=yR sb c s p n2 j
variable {ks kc kt ka sb r c s p bv nd fa la tt se n2 Bs}
theorem Yl{D:Nat->Bool}{vs:Nat->jP}{w w':jJ}(h:Yk ks kc kt ka sb r c s p bv nd fa la tt se n2 Bs D vs w){i:Nat}(hi:i≠8)(A:E5 ks kc kt ka sb r c s p bv (if(D 8)=true then n2 else nd) fa la tt se Bs w->E5 ks kc kt ka sb r c s p bv (if(D 8)=true then n2 else nd) fa la tt se Bs w'):Yk ks kc kt ka sb r c s p bv nd fa la tt se n2 Bs (zm D i) (zn vs i (yR sb c s p n2 i)) w':=by
 refine⟨?_,uK h.val⟩;rw[nR D (show 8≠i by omega)];exact A h.oH
theorem a1F{id:Nat}{Q:Exit->Act->jJ->Prop}{O:jJ}(ht2:a0.tmps.getD 2 kI=nA (U (Z ks 0 V)))(ht5:a0.tmps.getD 5 kI=nA (U (Z kc 0 V)))(Ay:a0.tmps.getD 6 kI=nA (U (Z kt 0 V)))(EK:a0.tmps.getD 7 kI=nA (U (Z ka 0 V)))(hp:p<=s.size/\s.size<=100000)(G9:∀W,jV jI 65 #[nD #[nk nI c.fmt,nk nK c.mag,nk nI c.pF,nk nI c.qc,nk nI c.dep,nk nI c.oV],nz (s.extract p s.size)] W λe I=>e=nG (nk nI n2)/\jS W.heap.size W I)(qN:∀W I,Bs W->jS W.heap.size W I->Bs I)(LM:∀W i v,Bs W->Bs (W.setCell (Z sb i V) v))(hsz:a0.tmps.size=73)(hI0:∀vs:Nat->jP,(λw=>E5 ks kc kt ka sb r c s p bv (if false=true then n2 else nd) fa la tt se Bs w) O.drew)(Y:∀(vs:Nat->jP) (w:jJ),E5 ks kc kt ka sb r c s p bv (if true=true then n2 else nd) fa la tt se Bs w->Q .normal {a0 with tmps:=((((((((a0.tmps.setIfInBounds 51 (nA (U (Z sb 0 V)))).setIfInBounds 52 (nD #[nk nI c.fmt,nk nK c.mag,nk nI c.pF,nk nI c.qc,nk nI c.dep,nk nI c.oV])).setIfInBounds 53 (nz s)).setIfInBounds 54 (nk nI p)).setIfInBounds 55 (nz (s.extract p s.size))).setIfInBounds 56 (nk nI n2)).setIfInBounds 57 (nA (U (Z sb 0 V)))).setIfInBounds 58 (nA (U (Z sb 2 V))))} w):
  (ll id Fx.toArray true).wp jI Q a0 O:=by
 refine og 9 73 (Yk ks kc kt ka sb r c s p bv nd fa la tt se n2 Bs) nN hsz nN (.inl rfl) nN ?_ ?_ ?_;.exact qB
 .refine rM λA ak=> ?_
  clear hI0 Y hsz;replace ht2:=jH ht2;replace ht5:=jH ht5;replace Ay:=jH Ay;replace EK:=jH EK;replace hp:=jH hp;replace G9:=jH G9;replace qN:=jH qN;replace LM:=jH LM;dsimp+instances only[Fx,cO,cL,cR,cB,Tryz.f34];simp only[ky,kL,qW];refine⟨?_,?_,?_,?_,?_,?_,?_,?_,?_,trivial⟩<;>(intro D vs a w K hI hd E hw2 C J;subst ak;dsimp+instances only[Fx,cO,cL,cR,cB,Tryz.f34]);have e2:=(C 2 nO).trans ht2.out;have hB:=hI.oH.sv;have c0:=hB.c0;clear hB;rotate_left;have e5:=(C 5 nO).trans ht5.out;have hB:=hI.oH.cf;obtain⟨c0,c1,c2,c3,c4,c5⟩:=hB.a6;clear hB;rotate_left;have aA:=(C 6 nO).trans Ay.out;have hB:=hI.oH.tx;have c0:=hB.c0;clear hB;rotate_left;have aB:=(C 7 nO).trans EK.out;have hB:=hI.oH.at_;have c0:=hB.c0;clear hB;rotate_left;have hp:=hp.out;have aa:=fe C hI.val E 53 2;have ae:=fe C hI.val E 54 3;simp only[yR]at aa ae;obtain⟨av,ax⟩:=hp;rotate_left
  .have G9:=G9.out
   have qN:=qN.out;have af:=fe C hI.val E 52 1;have ag:=fe C hI.val E 55 4;simp only[yR]at af ag;have au:=G9 w;clear G9;rw[if_pos (by rfl)];go_simp;refine au.mono ?_;rintro e aC ⟨rfl,hb⟩;exact J (yR sb c s p n2 5) _ _ rfl (Yl hI (i:=5) nO λh=>h.below qN hb)
  have ay:=fe C hI.val E 51 0;rotate_left;have az:=fe C hI.val E 57 6;rotate_left
  .have LM:=LM.out
   have ah:=fe C hI.val E 56 5;have ai:=fe C hI.val E 58 7;simp only[yR]at ah ai;have N:=hI.oH;rw[hd]at N;have hB:=N.ss;have c0:=hB.cell 2;have aD:=hB.free 2;simp only[Ee,lV,if_false,jO,jN,jM]at c0;clear hB;go_simp;refine J kI _ _ rfl ⟨?_,uK hI.val⟩;rw[oo];exact N.put LM _
  all_goals
   try simp only[yR]at*
   go_simp;exact J _ _ _ rfl ⟨hI.oH,uK hI.val⟩
 .intro D vs w aj hI
  have E:=hI.oH;rw[aj 8 nO]at E;have q:=Y vs w E;rw[oW hI.val aj];dsimp+instances only[Fx,cO,cL,cR,cB,Tryz.f34];exact qH
end
noncomputable def Fy:List lY:=cO (cL (cR (cR (cR (cR (cR (cR (cR (cR (cR (cR (cB Tryz.f34))))))))))))
section
variable (ks ka sb r G p:Nat)(buf:List UInt8)(bo:Option lH)(bc:Nat)(nd fa la tt se:Int)(Bs:jJ->Prop)
def Di:Nat->jP
 |0=> nA (U (Z sb 0 V))
 |1=> nA (U (Z sb 0 V))
 |2=> nA (U (Z sb 0 V))
 |3=> nA (U (Z sb 1 V))
 |4=> ny bo buf.length bc
 |5=> nk nI p
 |7=> nA (U (Z sb 0 V))
 |8=> nA (U (Z sb 1 V))
 |_=>kI
structure a6v(D:Nat->Bool)(vs:Nat->jP)(w:jJ):Prop where
 oH:Cb ks ka sb r G p buf bo bc nd fa la tt se Bs (D 6) (D 9) (vs 6) w
 val:∀j,(j !=6)=true->D j=true->vs j=Di sb p buf bo bc j
variable {ks ka sb r G p buf bo bc nd fa la tt se Bs}
theorem Sj{id:Nat}{Q:Exit->Act->jJ->Prop}{Y:jJ}(ht2:a0.tmps.getD 2 kI=nA (U (Z ks 0 V)))(EK:a0.tmps.getD 7 kI=nA (U (Z ka 0 V)))(hp:p<=buf.length/\buf.length<=100000)(hBg:∀W aa,Bs W->W.grownBy aa (kM bo buf.length bc).ownBlock->Bs aa)(LM:∀W i v,Bs W->Bs (W.setCell (Z sb i V) v))(hBo:∀W v,Bs W->ow W G wB v (buf.drop p)->∀b,v.ownBlock=U b->b≠sb)(hsz:a0.tmps.size=73)(hI0:∀vs:Nat->jP,(λw=>Cb ks ka sb r G p buf bo bc nd fa la tt se Bs false false (vs 6) w) Y.drew)(ae:∀(vs:Nat->jP) (w:jJ),Cb ks ka sb r G p buf bo bc nd fa la tt se Bs true true (vs 6) w->Q .normal {a0 with tmps:=(((((((((a0.tmps.setIfInBounds 63 (nA (U (Z sb 0 V)))).setIfInBounds 64 (nA (U (Z sb 0 V)))).setIfInBounds 65 (nA (U (Z sb 0 V)))).setIfInBounds 66 (nA (U (Z sb 1 V)))).setIfInBounds 67 (ny bo buf.length bc)).setIfInBounds 68 (nk nI p)).setIfInBounds 69 (vs 6)).setIfInBounds 70 (nA (U (Z sb 0 V)))).setIfInBounds 71 (nA (U (Z sb 1 V))))} w):
  (ll id Fy.toArray true).wp jI Q a0 Y:=by
 refine og 10 73 (a6v ks ka sb r G p buf bo bc nd fa la tt se Bs) nN hsz nN (.inl rfl) nN ?_ ?_ ?_;.exact qB
 .refine rM λA av=> ?_
  clear hI0 ae hsz;replace ht2:=jH ht2;replace EK:=jH EK;replace hp:=jH hp;replace hBg:=jH hBg;replace LM:=jH LM;replace hBo:=jH hBo;dsimp+instances only[Fy,cO,cL,cR,cB,Tryz.f34];simp only[ky,kL,qW];refine⟨?_,?_,?_,?_,?_,?_,?_,?_,?_,?_,trivial⟩<;>(intro D vs a w K hI hd E hw2 C N;subst av;dsimp+instances only[Fy,cO,cL,cR,cB,Tryz.f34]);have e2:=(C 2 nO).trans ht2.out;have hB:=hI.oH.sv;have c0:=hB.c0;clear hB;rotate_left;have e2:=(C 2 nO).trans ht2.out;have hB:=hI.oH.sv;have c0:=hB.c0;clear hB;rotate_left;have aB:=fe C hI.val E 64 1;rotate_left;have aC:=fe C hI.val E 65 2;rotate_left;have af:=fe C hI.val E 66 3;simp only[Di]at af;have hB:=hI.oH.ss;rw[hw2 9 nO nN,if_neg nO]at hB;have c0:=hB.cell 1;simp only[Ee,jO,jN,jM]at c0;clear hB;rotate_left;have aG:=(C 7 nO).trans EK.out;have hB:=hI.oH.at_;have c0:=hB.c0;clear hB;rotate_left
  .have hp:=hp.out
   have hBg:=hBg.out;have ag:=fe C hI.val E 67 4;have ah:=fe C hI.val E 68 5;simp only[Di]at ag ah;have I:=hI.oH;have ai:D 9=false:=by cases h:D 9 with|false=>rfl|true=>exact absurd (hI.oH.dn h) (by rw[hd];decide)
   rw[hd,ai]at I;have ax:=Yj G _ buf p w (I.ob rfl) hp.1 hp.2 I.ne.2.2.2.1;rw[if_pos (by rfl)];go_simp;refine ax.mono ?_;rintro e aH ⟨v6,rfl,ho,hg,ay,az⟩;refine N v6 _ _ rfl ⟨?_,KG rfl hI.val⟩;rw[oo,nR D (show 9≠6 by decide),pG,ai];exact I.call hBg hg ho ay az
  have aD:=fe C hI.val E 63 0;rotate_left;have aF:=fe C hI.val E 70 7;rotate_left
  .have LM:=LM.out
   have hBo:=hBo.out;have d6:=E 6 nO nN;have J:a.tmps.getD 69 kI=vs 6:=C 69 nO;have aj:=fe C hI.val E 71 8;simp only[Di]at aj;have I:=hI.oH;rw[hd,d6]at I;obtain⟨oa,cap,ak⟩:=(I.od rfl).1;have au:=hBo w _ I.bs (I.od rfl).2.1;have aA:=I.put LM au;have J:=J.trans ak;have hB:=I.ss;have c0:=hB.cell 1;have aI:=hB.free 1;simp only[Ee,lV,if_false,jO,jN,jM]at c0;clear hB;go_simp;refine N kI _ _ rfl ⟨?_,uK hI.val⟩;rw[oo,nR D (show 6≠9 by decide),om vs _ (show 6≠9 by decide),d6];rw[<-kX,<-ak];exact aA
  all_goals
   try simp only[Di]at*
   go_simp;exact N _ _ _ rfl ⟨hI.oH,uK hI.val⟩
 .intro D vs w O hI
  have E:=hI.oH;rw[O 6 nO]at E;rw[O 9 nO]at E;have q:=ae vs w E;rw[oW hI.val O];dsimp+instances only[Fy,cO,cL,cR,cB,Tryz.f34];exact qH
end
end
end Go.Proofs.YtamfcjmhnndbdaaGreatDoor


