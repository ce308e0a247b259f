/- Part 12 of the proof. -/
import Derived.Test.YtamfcjmhnndbdaaGreatDoorZm00
import Derived.Test.YtamfcjmhnndbdaaGreatDoorZm08
import Derived.Test.YtamfcjmhnndbdaaGreatDoorZm09
import Derived.Test.YtamfcjmhnndbdaaGreatDoorZm11
open Go.Value renaming agg→nD,bool→nC,int→nk,pointer→nA,slice→ny,string→nz,tuple→nE,ownBlock→kJ
open Go.Obj renaming cells→nH
open Go.IntKind renaming i64→nI
open Go.Ending renaming returned→nG,returned→lJ
open Go.Lib renaming hid→jH
open Go.Proofs.Tryz renaming prog→jI
open Go renaming World→jJ,Value→jP,Calls→jV,bodyPost_ret→jZ,maxLen→j3,TypeId→ko,undef→kI,results→kQ,Addr→lH,Oper→lY,wpQuiet_nil→mK
open Nat renaming le_refl→jK,le_trans→jY,lt_of_lt_of_le→kG,zero_le→kH,le_succ→kV,lt_succ_self→lK,le_of_eq→mR
open List renaming setIfInBounds_toArray→jL,getElem?_cons_succ→jM,getElem?_cons_zero→jN,getElem?_toArray→jO,set_cons_zero→jQ,set_cons_succ→jR,take_succ_cons→ky,take_zero→kL,length_drop→kX,length_take→mi
open Go.RowKit renaming Below→jS,Hid→jX,intOf→kT
open Go.RowKit.Below renaming refl→jT
open And renaming intro→jU
open Bool renaming and_eq_true→j4,false_eq_true→lV
open Go.World renaming setCell→kz
open ByteArray renaming size_extract→kC
open Go.Act renaming put→kE
open Go.Code renaming region→ll
open Array renaming getElem?_modify→lu
open Go.Lit renaming int→lI
open Go.Sem renaming run→l7
open Go.Instr renaming makeFunc→mJ
open Int renaming toNat_of_nonneg→mV
open Option renaming none→V,some→U
open Go.Addr renaming mk→Z
namespace Go.Proofs.YtamfcjmhnndbdaaGreatDoor
set_option linter.unusedVariables false
set_option linter.unusedSimpArgs false
set_option maxRecDepth 100000
set_option maxHeartbeats 8000000
variable {e:Ending}
section
open Go.RowKit
structure X3(g cb fb xb:Nat)(r:RS)(T:ByteArray)(li:Bool)(ov:Option lH)(n cv:Nat)(s:List (nM IL))(w0:jJ)(rc:Array jP)(W:jJ):Prop where
 rd:vW W cb r
 fr:nP W fb #[nA (U (Z cb 0 V))] 193
 xk:nP W xb #[nz T,nC li,ny ov n cv] IT
 rs:nP W (g+1) rc IT
 sub:nW W (λc=>g+2<=c) (ny ov n cv) s
 pR:jS g w0 W
 lt:g+1<cb/\g+1<fb/\g+1<xb
section
variable {g cb fb xb:Nat}{r:RS}{T:ByteArray}{li:Bool}{ov:Option lH}{n cv:Nat}{s:List (nM IL)}{w0 W W':jJ}{rc:Array jP}
theorem X3.drew(h:X3 g cb fb xb r T li ov n cv s w0 rc W):X3 g cb fb xb r T li ov n cv s w0 rc W.drew:=
 ⟨h.rd,h.fr,h.xk,h.rs,Shape.nX.below h.sub (oC W),h.pR.trans ((oC W).mono (by have:=h.rs.lt;omega)),h.lt⟩
theorem X3.put(h:X3 g cb fb xb r T li ov n cv s w0 AZ W)(a b c:jP):X3 g cb fb xb r T li ov n cv s w0 #[a,b,c] (pM W (g+1) a b c):=by
 have h1:=h.lt;have hh:∀d,d≠g+1->(pM W (g+1) a b c).heap[d]? =W.heap[d]? :=λd hd=>by simp[pM,kz,lu,Ne.symm hd]
 have hs:(pM W (g+1) a b c).heap.size=W.heap.size:=by simp[pM,kz]
 have o:∀{d:Nat}{cs:Array jP}{t:ko},nP W d cs t->d≠g+1->nP (pM W (g+1) a b c) d cs t:=λh hn=>by unfold nP at*;rw[hh _ hn];exact h
 exact⟨o h.rd nL,o h.fr nL,o h.xk nL,((h.rs.set 0 a).set 1 b).set 2 c,Shape.nX.keep h.sub (mR hs.symm) (λ_ _ h=>h) (λd _ hd=>hh d (by have:g+2<=d:=hd;omega)),
  ((h.pR.setCell (p:=(Z (g+1) 0 V)) (kV g) _).setCell (p:=(Z (g+1) 1 V)) (kV g) _).setCell (p:=(Z (g+1) 2 V)) (kV g) _,h.lt⟩
end
noncomputable def Dh:List lY:=cO (cL (cR (cR (cR (cR (cR (cR (cR (cB Tryz.f170)))))))))
section
variable (g cb fb xb:Nat)(r:RS)(T:ByteArray)(li:Bool)(ov:Option lH)(n cv:Nat)(s:List (nM IL))(w0:jJ)
def zY:Nat->jP
 |0=> nD #[nz T,nC li,ny ov n cv]
 |1=> nA (U (Z cb 0 V))
 |2=> nk nI r.p
 |4=> nk nI r.p
 |5=> nk nI 0
 |_=>kI
structure a4i(D:Nat->Bool)(vs:Nat->jP)(w:jJ):Prop where
 oH:X3 g cb fb xb r T li ov n cv s w0 (if(D 3)=true then#[nz T,nC li,ny ov n cv]else AZ) w
 val:∀j,(true)=true->D j=true->vs j=zY cb r T li ov n cv j
variable {g cb fb xb r T li ov n cv s w0}
theorem X4{id:Nat}{Q:Exit->Act->jJ->Prop}{a0:Act}{N:jJ}(a1v:a0.tmps.getD 12 kI=nA (U (Z xb 0 V)))(Js:a0.tmps.getD 9 kI=nA (U (Z fb 0 V)))(Ay:a0.tmps.getD 6 kI=nA (U (Z (g+1) 0 V)))(hsz:a0.tmps.size=44)(hI0:∀vs:Nat->jP,(λw=>X3 g cb fb xb r T li ov n cv s w0 (if false=true then#[nz T,nC li,ny ov n cv]else AZ) w) N.drew)(O:∀(vs:Nat->jP) (w:jJ),X3 g cb fb xb r T li ov n cv s w0 (if true=true then#[nz T,nC li,ny ov n cv]else AZ) w->Q .normal {a0 with tmps:=(((((a0.tmps.setIfInBounds 41 (nD #[nz T,nC li,ny ov n cv])).setIfInBounds 42 (nA (U (Z cb 0 V)))).setIfInBounds 43 (nk nI r.p)).setIfInBounds 7 (nk nI r.p)).setIfInBounds 8 (nk nI 0))} w):
  (ll id Dh.toArray true).wp jI Q a0 N:=by
 refine og 6 44 (a4i g cb fb xb r T li ov n cv s w0) nN hsz nN (.inl rfl) nN ?_ ?_ ?_;.exact qB
 .refine rM λA af=> ?_
  clear hI0 O hsz;replace a1v:=jH a1v;replace Js:=jH Js;replace Ay:=jH Ay;dsimp+instances only[Dh,cO,cL,cR,cB,Tryz.f170];simp only[ky,kL,qW];refine⟨?_,?_,?_,?_,?_,?_,trivial⟩<;>(intro D vs a w K hI hd E hw2 C I;subst af;dsimp+instances only[Dh,cO,cL,cR,cB,Tryz.f170]);have aj:=(C 12 nO).trans a1v.out;have hB:=hI.oH.xk;obtain⟨c0,c1,c2⟩:=hB.a3;clear hB;rotate_left;have au:=(C 9 nO).trans Js.out;have hB:=hI.oH.fr;have c0:=hB.c0;clear hB;rotate_left
  .have Y:=fe C hI.val E 42 1
   simp only[zY]at Y;have ag:=Tv cb r w hI.oH.rd;rw[if_pos (by rfl)];go_simp;refine ag.mono ?_;rintro e av ⟨rfl,rfl⟩;exact I (zY cb r T li ov n cv 2) _ _ rfl ⟨hI.oH,uK hI.val⟩
  .have ax:=(C 6 nO).trans Ay.out
   have aa:=fe C hI.val E 41 0;simp only[zY]at aa;have J:=hI.oH;rw[hd]at J;have hB:=J.rs;have z0:=hB.cell 0;have ah:=hB.cell 1;have ai:=hB.cell 2;obtain⟨ay,f1,f2⟩:=hB.f3;simp only[AZ,lV,if_false,jO,jN,jM]at z0 ah ai;clear hB;go_simp;rw[qb];refine I kI _ _ rfl ⟨?_,uK hI.val⟩;rw[oo];exact X3.put J _ _ _
  have ak:=fe C hI.val E 43 2;rotate_left;rotate_left
  all_goals
   try simp only[zY]at*
   go_simp;exact I _ _ _ rfl ⟨hI.oH,uK hI.val⟩
 .intro D vs w ae hI
  have E:=hI.oH;rw[ae 3 nO]at E;have q:=O vs w E;rw[oW hI.val ae];dsimp+instances only[Dh,cO,cL,cR,cB,Tryz.f170];exact qH
end
theorem Qg{B b q:Nat}{w0 w w':jJ}(h:jS B w0 w)(u:oN b q w w')(hb:B<=b)(A:B<=q)(hB:B<=w.heap.size):jS B w0 w':=
 ⟨u.os.trans h.os,u.tape.trans h.tape,u.output.trans h.output,jY h.size u.size,λk hk=>(u.block k nL nL nL).trans (h.block k hk)⟩
def KR(R:Except Nat (nM IL×Nat))(w:jJ)(e:Ending)(w':jJ):Prop:=jS w.heap.size w w'/\match R with
 | .error er=>e=nG (nE #[nD #[nz ⟨#[]⟩,nC false,ny V 0 0],nk nI 0,nk nI (er:Nat)])
 | .ok y=>∃ov cv,e=nG (nE #[nD #[nz (txt y.1.lab),nC y.1.lab.list,ny ov y.1.sub.length cv],nk nI (y.2:Nat),nk nI 0])/\nW w' (λc=>w.heap.size+2<=c) (ny ov y.1.sub.length cv) y.1.sub
theorem a2K{r r':RS}(h:0<=r.f):∀n x m,0<=(r.take n).1.f/\(0<=x->0<=(r.fail x).f)/\0<=(r.comp m).1.f:=by
 intro n x m;refine⟨RS.vw r n h,λA=>RS.yF r A h,?_⟩;unfold RS.comp;split
 .generalize ru (r.t.data.toList.drop r.p)=q
  dsimp only;split;.exact Int.le_refl _
  .exact Int.natCast_nonneg _
 .exact h
theorem GX{f:nM TL->RS->Nat->RdV}(A:∀t r l,0<=r.f->0<=(f t r l).2.1.f):∀(ts:List (nM TL×Bool))(r:RS)(l:Nat),0<=r.f->0<=(qI f ts r l).2.1.f
 |[],r,l,h=>h
 |t::ts,r,l,h=>by
  unfold qI;split;.exact GX A ts _ _ (A _ _ _ h)
  .exact h
theorem zZ:∀(d:Nat)(t:nM TL)(r:RS)(l:Nat),0<=r.f->0<=(qf d t r l).2.1.f
 |0,_,r,l,h=>RS.yF r nO h
 |d+1,.node a s,r,l,h=>by
  unfold qf;split;.exact RS.yF r nO h
  .split
   .exact RS.vw _ _ h
   .split
    .exact RS.vw _ _ h
    .split
     .exact RS.vw _ _ (a2K (r':=r) h 0 0 _).2.2
     .split
      .cases s with
       |nil=>exact RS.yF r nO h
       |cons t ts=>exact GX (zZ d) _ _ _ (a2K (r':=r) h 0 0 _).2.2
      .exact GX (zZ d) _ _ _ h
theorem X5{p:Prop}(h:p:=by
 subst hW;have a1:=(jT w.heap.size w).alloc (jK _) (nH #[nk nI t.lab.kind,nk nI t.lab.size,ny ou t.sub.length cu,nk nI t.lab.tail] rU);have a2:=a1.alloc nS (nH #[nz ⟨#[]⟩,nC false,ny V 0 0] IT);have k1:=nP.new w #[nk nI t.lab.kind,nk nI t.lab.size,ny ou t.sub.length cu,nk nI t.lab.tail] rU;have k2:=nP.new (w.alloc (nH #[nk nI t.lab.kind,nk nI t.lab.size,ny ou t.sub.length cu,nk nI t.lab.tail] rU)) #[nz ⟨#[]⟩,nC false,ny V 0 0] IT;rw[show(w.alloc (nH #[nk nI t.lab.kind,nk nI t.lab.size,ny ou t.sub.length cu,nk nI t.lab.tail] rU)).heap.size=g+1 by simp[hg]]at k2;rw[hg]at k1;exact⟨k1.alloc _,k2,hg▸a2,by simp[hg]⟩):p:=h
theorem X6(t:nM TL)(s:ByteArray)(items:Int)(w:jJ)(ou:Option lH)(cu:Nat)(ak:oQ w (ny ou t.sub.length cu) t.sub)(bg:pW w)(au:uV w)(ah:(nM.o7 p0 t.sub&&p9 t)=true)(hs:s.size<=100000)(hi:0<=items/\items<=1024):
  jV jI 170 #[nD #[nk nI t.lab.kind,nk nI t.lab.size,ny ou t.sub.length cu,nk nI t.lab.tail],nz s,nk nI items] w (KR (KF t s items) w):=by
 have bZ:∀(fn:Fn)(first cap:Array jP)(w:jJ),(mJ fn first cap).run jI w=.ok (.func fn first cap) w:=λ_ _ _ _=>rfl
 have av:p9 t=true:=by simp only[j4]at ah;exact ah.2
 have A:=av;unfold p9 at A;simp only[j4,decide_eq_true_eq]at A;obtain⟨g,hg⟩:=nV w.heap.size;have aM:=bg.lt;have bq:jX (∀W,jS g w W->_):=jH λW h=>D6 t W (ny ou t.sub.length cu) (Shape.nX.below ak (hg.symm▸h)) (bg.below (hg.symm▸h) aM)
 rw[ah]at bq;obtain⟨left,ai⟩:∃left:Nat,items=left:=⟨items.toNat,nL⟩;have ax:(min items 1024).toNat=left:=nL;obtain⟨bu,aL⟩:=nV (qf 8 t (RS.of s) left);have ay:jX (KF t s items=if bu.2.1.f≠0 then .error bu.2.1.f.toNat else .ok (bu.1,bu.2.1.p)):=jH (by unfold KF;rw[ax,aL]);have bF:jX (0<=bu.2.1.f):=jH (aL▸zZ 8 t (RS.of s) left (Int.le_refl _));have aN:jX (∀W cb lb fb,jS g w W->Bo cb lb fb (RS.of s) left W->(cb<W.heap.size/\lb<W.heap.size/\fb<W.heap.size)->g<=cb->g<=lb->jV jI 211 #[nD #[Bl cb,Da cb,Dz cb,Ci cb,Bn fb,nA (U (Z lb 0 V))],nD #[nk nI t.lab.kind,nk nI t.lab.size,ny ou t.sub.length cu,nk nI t.lab.tail]] W (NC cb lb fb bu W)):=jH λW cb lb fb hb hl hc h1 h2=>by
  rw[<-aL];exact UO 8 t cb lb fb (RS.of s) left W ou cu A.1.2 A.2 hl hc (Shape.nX.keep ak (hg▸hb.size:w.heap.size<=W.heap.size) (λc bG _=>⟨nL,nL⟩) λc bG _=>hb.block c nL)
 have aO:jX (∀W,jS g w W->uV W):=jH λW hb=>vJ au (oN.of (b:=g) (q:=g) (hg.symm▸hb)) (by have:=au.lt;omega) (by have:=au.lt;omega)
 have bH:jX (0<g):=jH (hg▸au.lt);have aP:jX (∀W,(w.alloc (nH #[nk nI t.lab.kind,nk nI t.lab.size,ny ou t.sub.length cu,nk nI t.lab.tail] rU)).alloc (nH #[nz ⟨#[]⟩,nC false,ny V 0 0] IT)=W->nP W g #[nk nI t.lab.kind,nk nI t.lab.size,ny ou t.sub.length cu,nk nI t.lab.tail] rU/\nP W (g+1) AZ IT/\jS g w W/\W.heap.size=g+2):=jH λW hW=>by
  exact X5
 have aQ:jX (∀W,jV jI 144 #[nz s] W λe w'=>e=nG (nA (U (Z W.heap.size 0 V)))/\jS W.heap.size W w'/\W.heap.size<w'.heap.size/\vW w' W.heap.size (RS.of s)):=jH (zy s);have aR:jX (((RS.of s).Ok/\(RS.of s).t.size<=100000)/\left<=1024):=jH ⟨⟨RS.Ok.of nL,hs⟩,nL⟩;have cz:(if items<=1024 then items else 1024)=(left:Int):=by rw[if_pos hi.2,ai]
 have bQ:min items 1024=(left:Int):=nL;obtain⟨bz,aS⟩:=nV (KF t s items);rw[aS]at ay⊢;obtain⟨bR,bA⟩:=nV (KR bz w);have bI:=jH bA;rw[bA];clear bA;subst ai;clear ak bg au ah hs hi av A aM ax aL aS;generalize t.lab.kind=k at*;generalize t.lab.size=z at*;generalize t.lab.tail=tl at*;generalize t.sub.length=n at*;go_in;go_upto_region 1 with fail;obtain⟨az,aT,aU,aV⟩:=aP.out _ rfl;generalize (w.alloc _).alloc _=w1 at*;obtain⟨⟨t0,bJ,bK,t3⟩,_⟩:=oG az;have J:=jH (jU az (jU aT (jU aU aV)));clear aP az aT aU aV;go_wp2_with fail;refine(bq _ J.2.2.1).mono ?_;rintro e w2 ⟨rfl,O⟩;have C:jX (nP w2 g #[nk nI k,nk nI z,ny ou n cu,nk nI tl] rU/\nP w2 (g+1) AZ IT/\jS g w w2/\g+2<=w2.heap.size):=jH ⟨Below.blk O J.1 J.1.lt,Below.blk O J.2.1 J.2.1.lt,J.2.2.1.trans (O.mono (by have:=J.2.2.2;omega)),by have:=O.size;have:=J.2.2.2;omega⟩;clear O J t0 bJ bK t3 bq;go_wp2_with fail;refine(aQ _).mono ?_;rintro e w3 ⟨rfl,Q,af,aA⟩;obtain⟨cb,Y⟩:=nV w2.heap.size;rw[Y]at Q af aA⊢;have aB:jX (nP w3 g #[nk nI k,nk nI z,ny ou n cu,nk nI tl] rU/\nP w3 (g+1) AZ IT/\jS g w w3/\g+2<=cb/\cb<w3.heap.size/\vW w3 cb (RS.of s)):=jH ⟨Below.blk (Y.symm▸Q) C.1 C.1.lt,Below.blk (Y.symm▸Q) C.2.1 C.2.1.lt,C.2.2.1.trans (Q.mono (by have:=C.2.2.2;omega)),Y▸C.2.2.2,af,aA⟩;clear Q af aA C Y;obtain⟨q,aa⟩:=nV w3.heap.size;have aC:jX (∀W,((w3.alloc (nH #[nA (U (Z cb 0 V))] 193)).alloc (nH #[nk nI (left:Nat)] 3)).alloc (nH #[.func (.func 145) #[nA (U (Z cb 0 V))] #[],.func (.func 191) #[nA (U (Z cb 0 V))] #[],.func (.func 146) #[nA (U (Z cb 0 V))] #[],.func (.func 189) #[nA (U (Z cb 0 V))] #[],.func (.func 209) #[] #[nA (U (Z w3.heap.size 0 V))],nA (U (Z (w3.heap.size+1) 0 V))] EZ)=W->Bo cb (q+1) q (RS.of s) left W/\nP W (q+2) (EJ cb (q+1) q) EZ/\nP W g #[nk nI k,nk nI z,ny ou n cu,nk nI tl] rU/\nP W (g+1) AZ IT/\jS g w W/\W.heap.size=q+3):=jH λW hW=>by
  subst hW;rw[aa];obtain⟨h1,h2,bB,bS,cZ,bL⟩:=aB.out;have a1:=(jT w3.heap.size w3).alloc (jK _) (nH #[nA (U (Z cb 0 V))] 193);have a2:=a1.alloc nS (nH #[nk nI (left:Nat)] 3);have a3:=a2.alloc nT (nH (EJ cb (q+1) q) EZ);have k1:=nP.new w3 #[nA (U (Z cb 0 V))] 193;have k2:=nP.new (w3.alloc (nH #[nA (U (Z cb 0 V))] 193)) #[nk nI (left:Nat)] 3;have bM:=nP.new ((w3.alloc (nH #[nA (U (Z cb 0 V))] 193)).alloc (nH #[nk nI (left:Nat)] 3)) (EJ cb (q+1) q) EZ;rw[show(w3.alloc (nH #[nA (U (Z cb 0 V))] 193)).heap.size=q+1 by simp[aa]]at k2;rw[show((w3.alloc (nH #[nA (U (Z cb 0 V))] 193)).alloc (nH #[nk nI (left:Nat)] 3)).heap.size=q+2 by simp[aa]]at bM;rw[aa]at k1;have cK:=bH.out;have aD:jS g w (((w3.alloc (nH #[nA (U (Z cb 0 V))] 193)).alloc (nH #[nk nI (left:Nat)] 3)).alloc (nH (EJ cb (q+1) q) EZ)):=bB.trans (a3.mono nL);exact⟨⟨Below.blk a3 bL (nP.lt bL),aR.out,(k2.alloc _),(k1.alloc _).alloc _,aO _ aD,nL⟩,bM,Below.blk a3 h1 h1.lt,Below.blk a3 h2 h2.lt,aD,by simp[aa]⟩
 rw[aa]at aC;go_upto_region 6 with fail;obtain⟨aF,E,aW,aG,aH,aX⟩:=aC.out _ rfl;generalize ((w3.alloc _).alloc _).alloc _=w4 at*;have aY:=aB.out;rw[aa]at aY;obtain⟨_,_,_,aI,aJ,_⟩:=aY;obtain⟨⟨t0,bJ,bK,t3⟩,_⟩:=oG aW;have bT:w4.cell? (Z (q+2) 0 V)=U (Bl cb):=E.cell 0;have e1:w4.cell? (Z (q+2) 1 V)=U (Da cb):=E.cell 1;have e2:w4.cell? (Z (q+2) 2 V)=U (Dz cb):=E.cell 2;have e3:w4.cell? (Z (q+2) 3 V)=U (Ci cb):=E.cell 3;have e4:w4.cell? (Z (q+2) 4 V)=U (Bn q):=E.cell 4;have e5:w4.cell? (Z (q+2) 5 V)=U (nA (U (Z (q+1) 0 V))):=E.cell 5;have N:=aN.out w4 cb (q+1) q aH aF nL nL nL;unfold Bl at bT N;unfold Da at e1 N;unfold Dz at e2 N;unfold Ci at e3 N;unfold Bn at e4 N;have N:=jH N;have bN:=jH (jU aF (jU aG (jU aH aX)));have bO:jX (g+2<=cb/\cb<q):=jH ⟨aI,aJ⟩;clear aC aN aO aR aB aQ aF E aW aG aH aX aa aI aJ;obtain⟨x,r2,l2⟩:=bu;dsimp only at*;go_wp2_with fail;refine N.mono ?_;rintro e w5 ⟨ov,cv,rfl,I,aK,ae⟩;dsimp only at I aK;have aZ:jX (∀W,w5.alloc (nH #[nz (txt x.lab),nC x.lab.list,ny ov x.sub.length cv] IT)=W->X3 g cb q w5.heap.size r2 (txt x.lab) x.lab.list ov x.sub.length cv x.sub w AZ W):=jH λW hW=>by
  subst hW;obtain⟨h1,h2,bB,bS⟩:=bN.out;obtain⟨df,dh⟩:=bO.out;have a:=(jT w5.heap.size w5).alloc (jK _) (nH #[nz (txt x.lab),nC x.lab.list,ny ov x.sub.length cv] IT);have dw:=ae.size;refine⟨Below.blk a I.rd (nP.lt I.rd),Below.blk a I.fr I.fr.lt,nP.new w5 _ _,Below.blk a (ae.blk h2 nL nL) (ae.blk h2 nL nL).lt,Shape.nX.keep (Shape.nX.below aK a) (jK _) (λc _ hc=>by have:w4.heap.size<=c:=hc;show g+2<=c;omega) λ_ _ _=>rfl,(Qg bB ae nL nL nL).trans (a.mono nL),nL⟩
 clear I aK ae bN bO N;go_upto_region 7 with fail;have hL:=aZ.out _ rfl;generalize w5.alloc _=bU at*;generalize w5.heap.size=xb at*;have ag:=jH hL;have dx:=hL.fr.c0;have bP:=jH (qd cb r2 bU hL.rd);clear hL aZ;go_wp2_with fail;refine bP.mono ?_;rintro e dz ⟨rfl,rfl⟩;clear bP;by_cases aj:r2.f=0
 .have bV:(r2.f !=0)=false:=by simp[aj]
  have bC:jX (bz=.ok (x,r2.p)):=jH (by rw[ay.out,if_neg (by simpa using aj)]);clear aj ay;go_upto_region 10 with fail;refine X4 (g:=g) (cb:=cb) (fb:=q) (xb:=xb) (r:=r2) (T:=txt x.lab) (li:=x.lab.list) (ov:=ov) (n:=x.sub.length) (cv:=cv) (s:=x.sub) (w0:=w) (a1v:=by rfl) (Js:=by rfl) (Ay:=by rfl) (hsz:=by rfl) (hI0:=λ_=>ag.drew) ?_;intro vs W hF;simp only[if_true]at hF;simp only[jL,jQ,jR];have bW:=jH hF;clear hF ag;go_wp2_with fail;have hF:=bW.out;obtain⟨bD,bE,d2⟩:=hF.rs.a3;refine jZ (v:=nE #[nD #[nz (txt x.lab),nC x.lab.list,ny ov x.sub.length cv],nk nI (r2.p:Nat),nk nI 0]) (by simp[kQ,Tryz.results170,go_sem,bD,bE,d2]) rfl ?_;rw[<-bI.out,bC.out];exact⟨hg.symm▸hF.pR,ov,cv,rfl,hg.symm▸hF.sub⟩
 .have bV:(r2.f !=0)=true:=by simp[aj]
  have bC:jX (bz=.error r2.f.toNat):=jH (by rw[ay.out,if_pos aj]);clear aj ay;have bX:=ag.rs.cell 0;have bY:=ag.rs.cell 1;have y2:=ag.rs.cell 2;obtain⟨z0,dA,dB⟩:=ag.rs.f3;simp only[AZ,jO,jN,jM]at bX bY y2;go_wp2_with fail;rw[qb];have hF:=ag.put (nz ⟨#[]⟩) (nC false) (ny V 0 0);obtain⟨bD,bE,d2⟩:=hF.rs.a3;refine jZ (v:=nE #[nD #[nz ⟨#[]⟩,nC false,ny V 0 0],nk nI 0,nk nI r2.f]) (by simp[kQ,Tryz.results170,go_sem,bD,bE,d2]) rfl ?_;rw[<-bI.out,bC.out];have:((r2.f.toNat:Nat):Int)=r2.f:=mV bF.out;exact⟨hg.symm▸hF.pR,by show _=lJ (nE #[nD #[nz ⟨#[]⟩,nC false,ny V 0 0],nk nI 0,nk nI ((r2.f.toNat:Nat):Int)]);rw[this]⟩
def a6r(R:Except Nat (nM IL×Nat))(n:Nat):Except Nat (nM IL):=match R with
 | .error er=> .error er
 | .ok y=>if y.2<n then .error 3 else .ok y.1
theorem a1w(t:nM TL)(s:ByteArray)(items:Int)(w:jJ)(ou:Option lH)(cu:Nat)(az:oQ w (ny ou t.sub.length cu) t.sub)(aI:pW w)(au:uV w)(aA:(nM.o7 p0 t.sub&&p9 t)=true)(hs:s.size<=100000)(hi:0<=items/\items<=1024):
  jV jI 119 #[nD #[nk nI t.lab.kind,nk nI t.lab.size,ny ou t.sub.length cu,nk nI t.lab.tail],nz s,nk nI items] w (AY (Uw t s items) w):=by
 obtain⟨g,hg⟩:=nV w.heap.size;have aB:=aI.lt;have aJ:jX (∀W,jS g w W->jV _ _ _ W (KR (KF t s items) W)):=jH λW h=>X6 t s items W ou cu (Shape.nX.below az (hg.symm▸h)) (aI.below (hg.symm▸h) aB) (vJ au (oN.of (b:=g) (q:=g) (hg.symm▸h)) (by have:=au.lt;omega) (by have:=au.lt;omega)) aA hs hi
 have aC:jX (∀W,(w.alloc (nH #[nk nI t.lab.kind,nk nI t.lab.size,ny ou t.sub.length cu,nk nI t.lab.tail] rU)).alloc (nH #[nz ⟨#[]⟩,nC false,ny V 0 0] IT)=W->nP W g #[nk nI t.lab.kind,nk nI t.lab.size,ny ou t.sub.length cu,nk nI t.lab.tail] rU/\nP W (g+1) AZ IT/\jS g w W/\W.heap.size=g+2):=jH λW hW=>by
  exact X5
 obtain⟨R,av⟩:=nV (KF t s items);have Y:jX (Uw t s items=a6r R s.size):=jH (by rw[<-av];rfl);have aa:jX (∀er,R=.error er->1<=er):=jH λer h=>by
  have aX:=zZ 8 t (RS.of s) (min items 1024).toNat (Int.le_refl _);rw[<-av]at h;unfold KF at h;split at h;.cases h;omega
  .cases h
 rw[av]at aJ;obtain⟨ae,aD⟩:=nV (Uw t s items);rw[aD]at Y⊢;obtain⟨aR,aK⟩:=nV (AY ae w);have aL:=jH aK;rw[aK];clear az aI au aA hi aB av aD aK;generalize t.lab.kind=k at*;generalize t.lab.size=z at*;generalize t.lab.tail=tl at*;generalize t.sub.length=n at*;go_in;go_upto_region 1 with fail;obtain⟨aF,aG,af,aH⟩:=aC.out _ rfl;generalize (w.alloc _).alloc _=w1 at*;obtain⟨⟨t0,aY,aZ,t3⟩,_⟩:=oG aF;have N:=jH (jU aG (jU af aH));have ag:=jH (aJ _ af);clear aC aF aG af aH aJ;go_wp2_with fail;refine ag.mono ?_;intro e w2 A;unfold KR at A;have I:jX (∀(bg:Ending)(T:ByteArray)(li:Bool)(sv:jP),jS g w w2/\nP w2 (g+1) AZ IT):=jH λ_ _ _ _=>⟨N.2.1.trans (A.1.mono (by have:=N.2.2;omega)),Below.blk A.1 N.1 N.1.lt⟩
 have aS:g+2<=w2.heap.size:=by have:=A.1.size;have:=N.2.2;omega
 cases R with
 |error er=>
  obtain⟨hb,rfl⟩:=A;have aP:=aa.out er rfl;have aT:((er:Int) !=0)=true:=nT;have O:jX (ae=.error er):=Y;have ah:jX (∀W,w2.alloc (nH #[nz ⟨#[]⟩,nC false,ny V 0 0] IT)=W->nP W (g+1) AZ IT/\jS g w W):=jH λW hW=>by
   subst hW;have al:=(jT w2.heap.size w2).alloc (jK _) (nH #[nz ⟨#[]⟩,nC false,ny V 0 0] IT);obtain⟨h1,h2⟩:=I.out (nG (nk nI 0)) ⟨#[]⟩ false (nk nI 0);exact⟨Below.blk al h2 h2.lt,h1.trans (al.mono nL)⟩
  clear hb N ag I aP aa Y;go_upto_region 2 with fail;obtain⟨hB,E⟩:=ah.out _ rfl;generalize w2.alloc _=w3 at*;have aM:=hB.cell 0;have aN:=hB.cell 1;have y2:=hB.cell 2;obtain⟨z0,aU,aV⟩:=hB.f3;simp only[AZ,jO,jN,jM]at aM aN y2;have ax:=jH hB;have J:=jH E;clear hB E ah;go_wp2_with fail;rw[qb];obtain⟨hB,hb⟩:=yN (a:=nz ⟨#[]⟩) (b:=nC false) (c:=ny V 0 0) ⟨_,_,_,ax.out⟩ (g:=g+1) (w:=w3) (W:=w3) (jT _ _);obtain⟨ai,aj,d2⟩:=hB.a3;refine jZ (v:=nE #[nD #[nz ⟨#[]⟩,nC false,ny V 0 0],nk nI (er:Nat)]) (by simp[kQ,Tryz.results119,go_sem,ai,aj,d2]) rfl ?_;rw[<-aL.out,O.out];exact⟨rfl,hg.symm▸J.trans (hb.mono (kV g))⟩
 |ok y=>
  obtain⟨x,m⟩:=y;obtain⟨hb,ov,cv,rfl,C⟩:=A;dsimp only at C;have O:jX (ae=if m<s.size then .error 3 else .ok x):=Y;have ah:jX (∀W,w2.alloc (nH #[nz (txt x.lab),nC x.lab.list,ny ov x.sub.length cv] IT)=W->nP W (g+1) AZ IT/\jS g w W/\nP W w2.heap.size #[nz (txt x.lab),nC x.lab.list,ny ov x.sub.length cv] IT/\nW W (λc=>g+2<=c) (ny ov x.sub.length cv) x.sub):=jH λW hW=>by
   subst hW;have al:=(jT w2.heap.size w2).alloc (jK _) (nH #[nz (txt x.lab),nC x.lab.list,ny ov x.sub.length cv] IT);obtain⟨h1,h2⟩:=I.out (nG (nk nI 0)) ⟨#[]⟩ false (nk nI 0);exact⟨Below.blk al h2 h2.lt,h1.trans (al.mono nL),nP.new w2 _ _,Shape.nX.keep (Shape.nX.below C al) (jK _) (λc _ hc=>by have:w1.heap.size+2<=c:=hc;have:=N.2.2;show g+2<=c;omega) λ_ _ _=>rfl⟩
  clear hb C ag I aa Y;go_upto_region 2 with fail;obtain⟨hB,E,ay,C⟩:=ah.out _ rfl;generalize w2.alloc _=w3 at*;generalize w2.heap.size=xb at*;have aM:=hB.cell 0;have aN:=hB.cell 1;have y2:=hB.cell 2;obtain⟨z0,aU,aV⟩:=hB.f3;have aW:=ay.cell 0;have x1:=ay.cell 1;have x2:=ay.cell 2;simp only[AZ,jO,jN,jM]at aM aN y2 aW x1 x2;have ax:=jH hB;have J:=jH E;have aO:=jH C;clear hB E ah ay C N;by_cases Q:m<s.size
  .have t0:decide (m<s.size)=true:=by simp[Q]
   have ak:jX (ae=.error 3):=jH (by rw[O.out,if_pos Q]);have aQ:=hs;clear O Q;go_wp2_with fail;rw[qb];obtain⟨hB,hb⟩:=yN (a:=nz ⟨#[]⟩) (b:=nC false) (c:=ny V 0 0) ⟨_,_,_,ax.out⟩ (g:=g+1) (w:=w3) (W:=w3) (jT _ _);obtain⟨ai,aj,d2⟩:=hB.a3;refine jZ (v:=nE #[nD #[nz ⟨#[]⟩,nC false,ny V 0 0],nk nI 3]) (by simp[kQ,Tryz.results119,go_sem,ai,aj,d2]) rfl ?_;rw[<-aL.out,ak.out];exact⟨rfl,hg.symm▸J.trans (hb.mono (kV g))⟩
  .have t0:decide (m<s.size)=false:=by simp[Q]
   have ak:jX (ae=.ok x):=jH (by rw[O.out,if_neg Q]);have aQ:=hs;clear O Q;go_wp2_with fail;rw[qb];obtain⟨hB,hb⟩:=yN (a:=nz (txt x.lab)) (b:=nC x.lab.list) (c:=ny ov x.sub.length cv) ⟨_,_,_,ax.out⟩ (g:=g+1) (w:=w3) (W:=w3) (jT _ _);obtain⟨ai,aj,d2⟩:=hB.a3;refine jZ (v:=nE #[nD #[nz (txt x.lab),nC x.lab.list,ny ov x.sub.length cv],nk nI 0]) (by simp[kQ,Tryz.results119,go_sem,ai,aj,d2]) rfl ?_;rw[<-aL.out,ak.out];refine⟨_,rfl,Shape.nX.keep aO (by simp[pM,kz]) (λc _ hc=>by have:g+2<=c:=hc;show w.heap.size<=c;omega) λc _ hc=> ?_,hg.symm▸J.trans (hb.mono (kV g))⟩;have:g+2<=c:=hc;simp[pM,kz,lu,show g+1≠c by omega,show¬g+1=c by omega]
theorem Sg{p:Prop}(h:p:=by
 have e1:((x.e:Int)==(p2:Int))=true:=Tp;obtain⟨ML,hML⟩:=nV x.L.length;obtain⟨ov,cv,hv,b4T,a9b⟩:=a1k Fv hML;have b4U:ML<=1024:=by have:=Fv.hc;omega
 rw[hv]at r0;have HSL:=jH (KO Fv.Bq);have HE:=jH he;have HV:=jH hv;have HNN:=jH hN;have HML:=jH hML;clear he hv hN hML a9b;cases xs with
 |nil=>
  obtain rfl:N=0:=HNN.symm;have CA:=jH (IG Fv HE HV HML);go_upto_region 26 with fail;generalize wr.setCell (Z (g+1) 0 V) (ny (U (Z go 0 V)) 0 cr)=w4 at*;clear Fv r0 r1 o0 zo;go_wp2_with fail;refine CA.mono ?_;rintro e w5 ⟨rfl,X7⟩;have HN5:=jH X7;clear X7 CA;go_wp2_with fail;go_roundw;case rel=>exact⟨_,_,HN5⟩
  case measure=>(rw[KO HN5.Bq,HSL.out];simp)
 |cons x2 xs=>
  obtain⟨N2,rfl⟩:∃N2,N=N2+1:=⟨xs.length,HNN.symm⟩;have CA:=jH (Nz Fv HE HV HML HNN nL X8);go_upto_region 26 with fail;generalize wr.setCell (Z (g+1) 0 V) (ny (U (Z go 0 V)) (N2+1) cr)=w4 at*;clear Fv r0 r1 o0 zo;go_wp2_with fail;refine CA.mono ?_;rintro e w5 ⟨rfl,v5,X7⟩;have HN5:=jH X7;clear X7 CA;go_wp2_with fail;go_roundw;case rel=>exact⟨_,_,HN5⟩
  case measure=>(rw[KO HN5.Bq,HSL.out];simp)):p:=h
theorem X9{p:Prop}(h:p:=by
 have e1:((x.e:Int)==(p2:Int))=false:=wG;have HE:jX (Opn p2 (x::xs)):=jH (Sa Fv he);clear he;go_wp2_with fail;go_roundw;case rel=>exact .inr ⟨p2,c+1,_,x::xs,rfl,by go_num,rfl,jH ⟨Fv.out,HE.out⟩⟩
 case measure=>(have:=HMS.out;simp[kT,XU];omega)):p:=h
theorem Ya{p:Prop}(h:p:=by
 have p0:=Fv.Bq.ho.c0;obtain⟨oa,cr,hv3⟩:∃oa cr,vr3=ny oa 0 cr:=Fv.Bq.row.slice;rw[hv3]at p0;go_wp2_with fail;go_roundw;case rel=>exact .inr ⟨p2,c+1,vr3,[],rfl,by go_num,rfl,jH ⟨Fv.out,trivial⟩⟩
 case measure=>(have:=HMS.out;simp[kT,XU];omega)):p:=h
theorem Yb{p:Prop}(h:p:=by
 have e1:((x.e:Int)==(p2:Int))=false:=wG;have HE:jX (Opn p2 (x::xs)):=jH (Sa Fv he);clear he;go_wp2_with fail;go_roundw;case rel=>exact .inr ⟨p2,1,_,x::xs,rfl,rfl,rfl,jH ⟨Fv.out,HE.out⟩⟩
 case measure=>(have:=HMS.out;simp[kT,XU];omega)):p:=h
theorem Yc{p:Prop}(h:p:=by
 have p0:=Fv.Bq.ho.c0;obtain⟨oa,cr,hv3⟩:∃oa cr,vr3=ny oa 0 cr:=Fv.Bq.row.slice;rw[hv3]at p0;go_wp2_with fail;go_roundw;case rel=>exact .inr ⟨p2,1,vr3,[],rfl,rfl,rfl,jH ⟨Fv.out,trivial⟩⟩
 case measure=>(have:=HMS.out;simp[kT,XU];omega)):p:=h
theorem Yd(s:ByteArray)(ay items:Int)(w:jJ)(hs:s.size<=100000)(dh:(lI nI ay).wf=true)(hi1:(lI nI items).wf=true):
  jV jI 204 #[nz s,nk nI ay,nk nI items] w (Nu (wO (min ay 16).toNat s.data.toList (min items 1024).toNat) w):=by
 obtain⟨D,bU⟩:=nV (min ay 16);obtain⟨bg,hI⟩:=nV (min items 1024);have bq:∀n:Nat,decide (D<=(n:Int))=decide (D.toNat<=n):=λn=>by rw[decide_eq_decide];omega
 have bu:∀n:Nat,decide (bg<=(n:Int))=decide (bg.toNat<=n):=λn=>by rw[decide_eq_decide];omega
 have bD:D.toNat<=16:=nL;have X8:bg.toNat<=1024:=nL;rw[bU,hI];have aM:=jH bq;have aF:=jH bu;obtain⟨K,bK⟩:=nV D.toNat;obtain⟨M,bL⟩:=nV bg.toNat;rw[bK]at aM bD⊢;rw[bL]at aF X8⊢;obtain⟨l,hl⟩:=nV s.data.toList;have bz:l.length=s.size:=by rw[<-hl];simp
 obtain⟨g,hg⟩:=nV w.heap.size;obtain⟨R,aj⟩:=nV (wO K l M);have bE:=jH aj;rw[hl,aj];obtain⟨dB,aQ⟩:=nV (Nu R w);have aN:=jH aQ;rw[aQ];obtain⟨wa,aR⟩:∃wa,w.alloc (nH #[nz ⟨#[]⟩,nC false,ny V 0 0] IT)=wa:=⟨_,rfl⟩;obtain⟨bF,aS⟩:=nV (wa.alloc (nH #[ny V 0 0] OT));have aT:jX (∀W,bF.alloc (nH #[nz ⟨#[]⟩,nC false,ny V 0 0] IT)=W->a6o l g w wa W):=jH λW h=>a6p hg aR aS h
 have aX:=jH hl;have bA:=jH bz;have bM:wa.heap.size=g+1:=by rw[<-aR];simp;omega
 have bN:bF.heap.size=g+2:=by rw[<-aS];simp;omega
 clear aj bK bL bq bu aQ hl bz;go_in;go_upto_region 3 with fail;generalize bF.alloc (nH #[nz ⟨#[]⟩,nC false,ny V 0 0] IT)=w1 at*;have A:=jH (aT _ rfl);clear aT aR aS bM bN;go_upto_region 7 with fail
 go_loopw [12,13,14] (λav cv aY wr=>(av=nk nI 0/\cv=nk nI 0/\aY=nC true/\wr=w1)\/(∃(p c:Nat) (vr:jP) (st:List Fr),av=nk nI (p:Nat)/\cv=nk nI (c:Nat)/\aY=nC false/\jX (vR l K M R (g+1) (g+1) (g+2) wa wr p c vr st/\Opn p st)))
  (λav _ aY _=>s.size -(kT av).toNat+XU aY)
 case atStart=>exact .inl ⟨rfl,rfl,rfl,rfl⟩
 case round=>
  rcases hrel with⟨rfl,rfl,rfl,rfl⟩|⟨p,c,vr,st,rfl,rfl,rfl,ax⟩
  .have p0:=A.o0
   obtain⟨H,aH⟩:=nV (BP l (decide (K<=0)) (decide (M<=0)));have Y:jX (∀x:rP wr,jV jI 242 #[nz s,nC (decide (D<=0)),nC (decide (bg<=0))] x.at_ λe w'=>e=nG (Bp H)/\jS x.at_.heap.size x.at_ w'):=jH λx=>by
    have h0:=Nr s (decide (D<=((0:Nat):Int))) (decide (bg<=((0:Nat):Int))) x.at_ hs;rw[aM.out,aF.out,aX.out,aH]at h0;have e1:=aM.out 0;have e2:=aF.out 0;simp only[Int.natCast_zero]at e1 e2;rw[e1,e2];exact h0.mono λe w' hh=>⟨hh.1,hh.2▸jT _ _⟩
   have aA:=jH aH;have af:jX (∀x:rP wr,rE x.at_ (g+1) (g+1) (g+2) (ny V 0 0) []/\nP x.at_ (g+2) qX IT/\jS (g+1) wa x.at_):=jH λx=>⟨A.Bq.fut x.is,Below.blk x.is A.whole A.Bq.lt,A.bw.trans (x.is.mono (by have:=A.Bq.lt;omega))⟩
   have J:∀x:rP wr,x.at_.cell? (Z (g+1) 0 V)=U (ny V 0 0):=λx=>(af x).1.ho.cell 0
   clear aH;go_upto_region 12 with fail;cases H with
   |error er=>
    have aj:jX (R=.error er):=jH (by rw[<-bE.out];exact UJ aA);have he:=Nv aA.out;have bV:((er:Int) !=0)=true:=nT;simp only[Bp]at Y;obtain⟨bO,e1⟩:=nV (((er:Int)==2));refine oz nN nN ?_;repeat(go_big_quiet_step (exact Calls.after (Y _)))
    refine mK ?_;intro x;obtain⟨ak,aB,ah⟩:=af.out x;have aZ:=J x;obtain⟨⟨c0,c1,c2⟩,⟨z0,bG,bH⟩,C⟩:=R9 A.res ah;have aC:=jH (Jr (a:=nz ⟨#[]⟩) (b:=nC false) (c:=ny V 0 0) A.ba A.res.lt ah C);clear ak aB ah C he J;cases bO
    all_goals
     go_wp2_with fail;rw[sM];obtain⟨aI,aJ,d2⟩:=aC.1.a3;refine jZ (v:=nE #[nD qX,nk nI 0,nk nI (er:Nat)]) (by simp[kQ,Tryz.results204,go_sem,aI,aJ,d2,qX]) rfl ?_;rw[<-aN.out,aj.out];exact⟨rfl,hg.symm▸aC.2⟩
   |ok q=>
    obtain⟨li,z,n⟩:=q;obtain⟨_,_,_,_,aU,aK⟩:=Ca aA.out;simp only[bA.out]at aU aK;cases li with
    |true=>
     simp only[Bp]at Y;refine oz nN nN ?_;repeat(go_big_quiet_step (exact Calls.after (Y _)))
     refine mK ?_;intro x;obtain⟨ak,aB,ah⟩:=af.out x;have aZ:=J x;have au:=jH ak;have bP:=jH aB;have bQ:=jH ah;have bR:g+1<=x.at_.heap.size:=by have:=ak.lt;omega
     clear ak aB ah Y af J p0;go_upto_if 75 with fail
     go_cut [12] (λav aL=>∃(p2:Nat) (E:jP) (I:List Fr),av=nk nI (p2:Nat)/\p2<=s.size/\jX (vR l K M R (g+1) (g+1) (g+2) wa aL p2 1 E I));case first=>
      go_wp2_with (at_builtin;refine tJ XR AB rfl _ _ rfl (B:=g+1) (v:=ny V 0 0) (L:=[]) (y:=⟨ny V 0 0,[],z+n⟩) rfl (pQ.nil _ _ _) rfl (nP.new x.at_ #[ny V 0 0,nk nI ((z:Int)+(n:Int))] RT) (by simp[rf2]) (by simp[rf2,Value.oneCell']) nS nT ?_;intro bW cap w2 ai O aG hlt;obtain⟨bX,bY⟩:=Ny au ((jT _ x.at_).alloc (jK _) _) O;have aV:=jH (jU ai (jU O aG));clear ai O aG hlt);go_meet;obtain⟨bZ,cz,cK⟩:=Ns (f:=⟨ny V 0 0,[],z+n⟩) au ((jT _ x.at_).alloc (jK _) _) ⟨rfl,rfl⟩ aV.1 aV.2.1 aV.2.2;have aW:=vR.BZ aA bQ bZ (by unfold nP;rw[cK _ au.lt nL (by simp[kJ])];exact bP) cz;rw[bE.out]at aW;exact⟨z,_,_,rfl,nL,jH aW⟩
     case rest=>
      obtain⟨p2,E,I,rfl,aa,ae⟩:=hcut;have HMS:=jH aa;go_wp2_with fail;go_loopw [20] (λ_ ag=>∃(vr:jP) (st:List Fr),jX (vR l K M R (g+1) (g+1) (g+2) wa ag p2 (1) vr st)) (λ_ ag=>Eb ag (g+1));case atStart=>exact⟨E,I,ae⟩
      case round=>
       obtain⟨vr3,aD,Fv⟩:=hrel;clear ae;cases aD with
       |nil=>
        exact Yc
       |cons x xs=>
        obtain⟨N,hN⟩:=nV xs.length;obtain⟨go,cr,hv3,r0,r1,o0,zo,aO,Q⟩:=yj Fv hN;subst hv3;have az:N+1<=16:=nL;clear Q;by_cases he:x.e=p2;.exact Sg
        .exact Yb
    |false=>
     simp only[Bp]at Y;refine oz nN nN ?_;repeat(go_big_quiet_step (exact Calls.after (Y _)))
     refine mK ?_;intro x;obtain⟨ak,aB,ah⟩:=af.out x;have aZ:=J x;have CA:=jH (KP aX bE aA ak aB ah);clear ak aB ah Y af J p0;go_upto_if 75 with fail
     go_cut [12] (λav aL=>∃(p2:Nat) (E:jP) (I:List Fr),av=nk nI (p2:Nat)/\p2<=s.size/\jX (vR l K M R (g+1) (g+1) (g+2) wa aL p2 1 E I));case first=>
      go_wp2_with fail;refine CA.mono ?_;rintro e w5 ⟨rfl,X7⟩;have HN5:=jH X7;clear X7 CA;go_wp2_with fail;go_meet;exact⟨z+n,_,_,by go_num,nL,HN5⟩
     case rest=>
      obtain⟨p2,E,I,rfl,aa,ae⟩:=hcut;have HMS:=jH aa;go_wp2_with fail;go_loopw [20] (λ_ ag=>∃(vr:jP) (st:List Fr),jX (vR l K M R (g+1) (g+1) (g+2) wa ag p2 (1) vr st)) (λ_ ag=>Eb ag (g+1));case atStart=>exact⟨E,I,ae⟩
      case round=>
       obtain⟨vr3,aD,Fv⟩:=hrel;clear ae;cases aD with
       |nil=>
        exact Yc
       |cons x xs=>
        obtain⟨N,hN⟩:=nV xs.length;obtain⟨go,cr,hv3,r0,r1,o0,zo,aO,Q⟩:=yj Fv hN;subst hv3;have az:N+1<=16:=nL;clear Q;by_cases he:x.e=p2;.exact Sg
        .exact Yb
  .cases st with
   |nil=>
    have p0:=ax.1.Bq.ho.c0;obtain⟨oa,cr,hv3⟩:∃oa cr,vr=ny oa 0 cr:=ax.1.Bq.row.slice;rw[hv3]at p0;obtain⟨y,v,dC,aj,hb,hv,bI⟩:=ax.1.res;obtain⟨ov,cv,rfl,_⟩:=nW.slice hv;obtain⟨⟨c0,c1,c2⟩,⟨z0,bG,bH⟩,C⟩:=R9 A.res ax.1.below;have aC:=jH (Jr (a:=nz (txt y.lab)) (b:=nC y.lab.list) (c:=ny ov y.sub.length cv) A.ba A.res.lt ax.1.below C);have cZ:jX (nW (wo wr g 0 (nz (txt y.lab)) (nC y.lab.list) (ny ov y.sub.length cv)) (λc=>w.heap.size<=c) (ny ov y.sub.length cv) y.sub):=jH (Shape.nX.keep hv (by rw[uX];exact jK _) (λc _ hc=>by
      have h1:=bI c hc;show w.heap.size<=c;have:¬c<g+1:=λh=>h1 (.inl h)
      omega) λc _ hc=>sN c λe=>bI c hc (.inl nL))
    obtain⟨dD,dE,y2⟩:=hb.a3;have bS:=jH aj;clear hb hv bI aj C;go_wp2_with fail;rw[sM];obtain⟨aI,aJ,d2⟩:=aC.1.a3;refine jZ (v:=nE #[nD #[nz (txt y.lab),nC y.lab.list,ny ov y.sub.length cv],nk nI (p:Nat),nk nI 0]) (by simp[kQ,Tryz.results204,go_sem,aI,aJ,d2]) rfl ?_;rw[<-aN.out,bS.out];exact⟨_,rfl,cZ.out,hg.symm▸aC.2⟩
   |cons x xs=>
    obtain⟨N,hN⟩:=nV xs.length;obtain⟨go,cr,hv3,r0,r1,o0,zo,aO,Q⟩:=yj ax.1 hN;subst hv3;have az:N+1<=16:=nL;have aP:p<x.e:=ax.2;have dw:x.e<=s.size:=by have:=Ends.le ax.1.ends.2;rw[bA.out]at this;exact this
    have dx:c<=1024:=by have:=ax.1.hc;omega
    obtain⟨H,aH⟩:=nV (BP (zw l p x.e) (decide (K<=(x::xs).length)) (decide (M<=c)));have Y:jX (∀x1:rP wr,jV jI 242 #[nz (s.extract p x.e),nC (decide (D<=(N:Int)+1)),nC (decide (bg<=(c:Int)))] x1.at_ λe w'=>e=nG (Bp H)/\jS x1.at_.heap.size x1.at_ w'):=jH λx1=>by
     have h0:=Nr (s.extract p x.e) (decide (D<=((N+1:Nat):Int))) (decide (bg<=(c:Int))) x1.at_ (by simp[kC];omega);have e1:=aM.out (N+1);rw[e1,aF.out,KN aX.out,show N+1=(x::xs).length by simp[hN],aH]at h0;rw[show((N:Int)+1)=((N+1:Nat):Int)by omega,e1,aF.out,show N+1=(x::xs).length by simp[hN]];exact h0.mono λe w' hh=>⟨hh.1,hh.2▸jT _ _⟩
    have aA:=jH aH;have af:jX (∀x1:rP wr,vR l K M R (g+1) (g+1) (g+2) wa x1.at_ p c (ny (U (Z go 0 V)) (N+1) cr) (x::xs)):=jH λx1=>ax.1.fut x1.is
    have J:∀x1:rP wr,x1.at_.cell? (Z (g+1) 0 V)=U (ny (U (Z go 0 V)) (N+1) cr):=λx1=>(af x1).Bq.ho.cell 0
    have HNN:=jH hN;have df:=jH aP;clear aH hN r0 zo Q;go_upto_region 12 with fail;cases H with
    |error er=>
     have aj:=jH (ax.1.err aP aA);have he:=Nv aA.out;simp only[Bp]at Y;by_cases e2:er=2
     .have e1:((er:Int)==2)=true:=by simp[e2]
      rw[if_pos e2]at aj;clear e2;refine oz nN nN ?_;repeat(go_big_quiet_step (exact Calls.after (Y _)))
      refine mK ?_;intro x1;obtain⟨⟨c0,c1,c2⟩,⟨z0,bG,bH⟩,C⟩:=R9 A.res (af x1).below;have aC:=jH (Jr (a:=nz ⟨#[]⟩) (b:=nC false) (c:=ny V 0 0) A.ba A.res.lt (af x1).below C);clear C he J;go_wp2_with fail;rw[sM];obtain⟨aI,aJ,d2⟩:=aC.1.a3;refine jZ (v:=nE #[nD qX,nk nI 0,nk nI 3]) (by simp[kQ,Tryz.results204,go_sem,aI,aJ,d2,qX]) rfl ?_;rw[<-aN.out,aj.out];exact⟨rfl,hg.symm▸aC.2⟩
     .have e1:((er:Int)==2)=false:=wG
      have bV:((er:Int) !=0)=true:=nT;rw[if_neg e2]at aj;clear e2;refine oz nN nN ?_;repeat(go_big_quiet_step (exact Calls.after (Y _)))
      refine mK ?_;intro x1;obtain⟨⟨c0,c1,c2⟩,⟨z0,bG,bH⟩,C⟩:=R9 A.res (af x1).below;have aC:=jH (Jr (a:=nz ⟨#[]⟩) (b:=nC false) (c:=ny V 0 0) A.ba A.res.lt (af x1).below C);clear C he J;go_wp2_with fail;rw[sM];obtain⟨aI,aJ,d2⟩:=aC.1.a3;refine jZ (v:=nE #[nD qX,nk nI 0,nk nI (er:Nat)]) (by simp[kQ,Tryz.results204,go_sem,aI,aJ,d2,qX]) rfl ?_;rw[<-aN.out,aj.out];exact⟨rfl,hg.symm▸aC.2⟩
    |ok q=>
     obtain⟨li,z,n⟩:=q;obtain⟨_,_,bB,aU,aK,_⟩:=ax.1.head aP aA.out;have bT:=jH bB;clear bB;simp only at aU aK;cases li with
     |true=>
      have dz:=Nw bT.out;simp only[Bp]at Y;refine oz nN nN ?_;repeat(go_big_quiet_step (exact Calls.after (Y _)))
      refine mK ?_;intro x1;have aZ:=J x1;have au:=jH (af x1);have bR:g+2<=x1.at_.heap.size:=by have:=au.Bq.lt;omega
      clear Y af J o0 r1;go_upto_if 75 with fail
      go_cut [12] (λav aL=>∃(p2:Nat) (E:jP) (I:List Fr),av=nk nI (p2:Nat)/\(p<p2/\p2<=s.size)/\jX (vR l K M R (g+1) (g+1) (g+2) wa aL p2 (c+1) E I));case first=>
       have bC:jX ((x::xs).reverse.length=N+1):=jH (by simp[HNN.out]);go_wp2_with (at_builtin;go_loud (refine tJ XR AB rfl _ _ rfl (B:=g+1) (v:=ny (U (Z go 0 V)) (N+1) cr) (L:=(x::xs).reverse) (y:=⟨ny V 0 0,[],p+z+n⟩) rfl (au.Bq.row.below ((jT _ x1.at_).alloc (jK _) _)) rfl (nP.new x1.at_ #[ny V 0 0,nk nI ((p:Int)+(z:Int)+(n:Int))] RT) (by simp[rf2]) (by simp[rf2,Value.oneCell']) (by rw[bC.out];omega) nT ?_);intro bW cap w2 ai O aG hlt;obtain⟨bX,bY⟩:=Ny au.Bq ((jT _ x1.at_).alloc (jK _) _) O;have aV:=jH (a4d au df HNN aA ((jT _ x1.at_).alloc (jK _) _) rfl ai O aG);rw[bC.out];clear ai O aG hlt);go_meet;exact⟨p+z,_,_,by go_num,⟨nL,nL⟩,aV⟩
      case rest=>
       obtain⟨p2,E,I,rfl,aa,ae⟩:=hcut;have HMS:=jH aa;have bJ:=aa.2;clear aa;go_wp2_with fail;go_loopw [20] (λ_ ag=>∃(vr:jP) (st:List Fr),jX (vR l K M R (g+1) (g+1) (g+2) wa ag p2 (c+1) vr st)) (λ_ ag=>Eb ag (g+1));case atStart=>exact⟨E,I,ae⟩
       case round=>
        obtain⟨vr3,aD,Fv⟩:=hrel;clear ae;cases aD with
        |nil=>
         exact Ya
        |cons x xs=>
         obtain⟨N,hN⟩:=nV xs.length;obtain⟨go,cr,hv3,r0,r1,o0,zo,aO,Q⟩:=yj Fv hN;subst hv3;have az:N+1<=16:=nL;clear Q;by_cases he:x.e=p2;.exact Sg
         .exact X9
     |false=>
      simp only[Bp]at Y;refine oz nN nN ?_;repeat(go_big_quiet_step (exact Calls.after (Y _)))
      refine mK ?_;intro x1;have aZ:=J x1;have CA:=jH (a4c aX hs (af x1) aP nL nL aA);clear Y af J o0 r1;go_upto_if 75 with fail
      go_cut [12] (λav aL=>∃(p2:Nat) (E:jP) (I:List Fr),av=nk nI (p2:Nat)/\(p<p2/\p2<=s.size)/\jX (vR l K M R (g+1) (g+1) (g+2) wa aL p2 (c+1) E I));case first=>
       go_wp2_with fail;refine CA.mono ?_;rintro e w5 ⟨rfl,dF,dA,X7⟩;have HN5:=jH X7;clear X7 CA;go_wp2_with fail;go_meet;exact⟨p+z+n,_,_,by go_num,⟨nL,nL⟩,HN5⟩
      case rest=>
       obtain⟨p2,E,I,rfl,aa,ae⟩:=hcut;have HMS:=jH aa;have bJ:=aa.2;clear aa;go_wp2_with fail;go_loopw [20] (λ_ ag=>∃(vr:jP) (st:List Fr),jX (vR l K M R (g+1) (g+1) (g+2) wa ag p2 (c+1) vr st)) (λ_ ag=>Eb ag (g+1));case atStart=>exact⟨E,I,ae⟩
       case round=>
        obtain⟨vr3,aD,Fv⟩:=hrel;clear ae;cases aD with
        |nil=>
         exact Ya
        |cons x xs=>
         obtain⟨N,hN⟩:=nV xs.length;obtain⟨go,cr,hv3,r0,r1,o0,zo,aO,Q⟩:=yj Fv hN;subst hv3;have az:N+1<=16:=nL;clear Q;by_cases he:x.e=p2;.exact Sg
         .exact X9
def ND(R:Except Nat (nM IL))(w:jJ)(e:Ending)(w':jJ):Prop:=match R with
 | .error er=>e=nG (nE #[nD qX,nk nI (er:Nat)])/\jS w.heap.size w w'
 | .ok x=>∃v,e=nG (nE #[nD #[nz (txt x.lab),nC x.lab.list,v],nk nI 0])/\nW w' (λc=>w.heap.size<=c) v x.sub/\jS w.heap.size w w'
theorem a1y{w wa:jJ}{g:Nat}(hg:w.heap.size=g)(h:w.alloc (nH #[nz ⟨#[]⟩,nC false,ny V 0 0] IT)=wa):nP wa g qX IT/\jS g w wa/\wa.heap.size=g+1:=by
 subst h;exact⟨hg▸nP.new w _ _,hg▸(jT _ w).alloc (jK _) _,nT⟩
theorem a1z(I items:Int)(K M:Nat)(aO:(min I 16).toNat=K)(aP:(min items 1024).toNat=M)(s:ByteArray)(w:jJ)(hs:s.size<=100000)(aG:(lI nI I).wf=true)(hi1:(lI nI items).wf=true):
  jV jI 165 #[nz s,nk nI I,nk nI items] w (ND (EY s.data.toList (wO K s.data.toList M)) w):=by
 obtain⟨R,ax⟩:=nV (wO K s.data.toList M);obtain⟨g,hg⟩:=nV w.heap.size;obtain⟨wa,aH⟩:∃wa,w.alloc (nH #[nz ⟨#[]⟩,nC false,ny V 0 0] IT)=wa:=⟨_,rfl⟩;obtain⟨az,ah,aW⟩:=a1y hg aH;have ay:=Yd s I items wa hs aG hi1;rw[aO,aP,ax]at ay;have aI:jX (∀y,R=.ok y->y.2.1<=s.size/\0<y.2.1):=jH λy aJ=>by
  rw[<-ax]at aJ;have h:=Fs aJ;have hl:s.data.toList.length=s.size:=nS;omega
 have ay:=jH ay;have af:=jH az;have aA:=jH ah;have aB:jX (s.data.toList.length=s.size):=jH nS;obtain⟨aQ,aD⟩:=nV (ND (EY s.data.toList R) w);have aF:=jH aD;rw[ax,aD];clear az ah aD;go_in;go_wp2_with fail;refine ay.mono ?_;intro e w2 ag;cases R with
 |error er=>
  have aX:=GR _ _ _ _ ax;have aa:jX (EY s.data.toList (.error er)=.error er):=jH rfl;obtain⟨rfl,J⟩:=ag;unfold qX;have aZ:((er:Int) !=0)=true:=nT;have e1:((er:Int)==0)=false:=wG;have ai:jX (∀W,w2.alloc (nH #[nz ⟨#[]⟩,nC false,ny V 0 0] IT)=W->jS wa.heap.size wa W/\nP W w2.heap.size #[nz ⟨#[]⟩,nC false,ny V 0 0] IT/\jS w2.heap.size w2 W):=jH λW h=>by
   subst h;exact⟨J.alloc J.size _,nP.new w2 _ _,(jT _ w2).alloc (jK _) _⟩
  clear J;go_upto_region 2 with fail;generalize w2.alloc (nH #[nz ⟨#[]⟩,nC false,ny V 0 0] IT)=w3 at*;obtain⟨N,O,Q⟩:=ai.out _ rfl;have A:=Below.blk (N.mono (show g+1<=wa.heap.size by omega)) af (lK g);have c0:w3.cell? (Z g 0 V)=U (nz ⟨#[]⟩):=A.cell 0;have c1:w3.cell? (Z g 1 V)=U (nC false):=A.cell 1;have c2:w3.cell? (Z g 2 V)=U (ny V 0 0):=A.cell 2;obtain⟨z0,aR,aS⟩:=A.f3;have Y:=jH (λa b c=>Jr (a:=a) (b:=b) (c:=c) aA af.lt (N.mono (show g+1<=wa.heap.size by omega)) A);obtain⟨aT,aU,y2⟩:=O.a3;clear N O Q A ai;go_wp2_with fail;rw[sM];obtain⟨C,E⟩:=Y.out (nz ⟨#[]⟩) (nC false) (ny V 0 0);obtain⟨aj,ak,d2⟩:=C.a3;have ae:=jH E;clear C E;refine jZ (v:=nE #[nD #[nz ⟨#[]⟩,nC false,ny V 0 0],nk nI (er:Nat)]) (by simp[kQ,Tryz.results165,go_sem,aj,ak,d2,qX]) rfl ?_;rw[<-aF.out,aa.out];exact⟨rfl,hg.symm▸ae.out⟩
 |ok y=>
  obtain⟨aK,aL⟩:=aI.out _ rfl;obtain⟨v,rfl,au,J⟩:=ag;obtain⟨x,n,m⟩:=y;simp only at au aK aL⊢;obtain⟨o,c,aM,_⟩:=nW.slice au;subst aM;obtain⟨sn,aC⟩:=nV x.sub.length;rw[aC]at au⊢;have ai:jX (∀W,w2.alloc (nH #[nz (txt x.lab),nC x.lab.list,ny o sn c] IT)=W->jS wa.heap.size wa W/\nP W w2.heap.size #[nz (txt x.lab),nC x.lab.list,ny o sn c] IT/\jS w2.heap.size w2 W):=jH λW h=>by
   subst h;exact⟨J.alloc J.size _,nP.new w2 _ _,(jT _ w2).alloc (jK _) _⟩
  have aN:=jH au;clear J au aC;go_upto_region 2 with fail;generalize w2.alloc (nH #[nz (txt x.lab),nC x.lab.list,ny o sn c] IT)=w3 at*;obtain⟨N,O,Q⟩:=ai.out _ rfl;have A:=Below.blk (N.mono (show g+1<=wa.heap.size by omega)) af (lK g);have c0:w3.cell? (Z g 0 V)=U (nz ⟨#[]⟩):=A.cell 0;have c1:w3.cell? (Z g 1 V)=U (nC false):=A.cell 1;have c2:w3.cell? (Z g 2 V)=U (ny V 0 0):=A.cell 2;obtain⟨z0,aR,aS⟩:=A.f3;have Y:=jH (λa b c=>Jr (a:=a) (b:=b) (c:=c) aA af.lt (N.mono (show g+1<=wa.heap.size by omega)) A);obtain⟨aT,aU,y2⟩:=O.a3;have aV:jX (nW w3 (λc=>wa.heap.size<=c) (ny o sn c) x.sub):=jH (Shape.nX.below aN Q);clear N O Q A ai;by_cases hlt:n<s.size
  .have aa:jX (EY s.data.toList (.ok (x,n,m))=.error 3):=jH (by simp only[EY];rw[if_pos (by rw[aB.out];exact hlt)])
   go_wp2_with fail;rw[sM];obtain⟨C,E⟩:=Y.out (nz ⟨#[]⟩) (nC false) (ny V 0 0);obtain⟨aj,ak,d2⟩:=C.a3;have ae:=jH E;clear C E;refine jZ (v:=nE #[nD #[nz ⟨#[]⟩,nC false,ny V 0 0],nk nI 3]) (by simp[kQ,Tryz.results165,go_sem,aj,ak,d2,qX]) rfl ?_;rw[<-aF.out,aa.out];exact⟨rfl,hg.symm▸ae.out⟩
  .have aa:jX (EY s.data.toList (.ok (x,n,m))=.ok x):=jH (by simp only[EY];rw[if_neg (by rw[aB.out];exact hlt)])
   have aY:s.size<=n:=nL;clear hlt;go_wp2_with fail;rw[sM];obtain⟨C,E⟩:=Y.out (nz (txt x.lab)) (nC x.lab.list) (ny o sn c);obtain⟨aj,ak,d2⟩:=C.a3;have ae:=jH E;clear C E;refine jZ (v:=nE #[nD #[nz (txt x.lab),nC x.lab.list,ny o sn c],nk nI 0]) (by simp[kQ,Tryz.results165,go_sem,aj,ak,d2,qX]) rfl ?_;rw[<-aF.out,aa.out];refine⟨ny o sn c,rfl,Shape.nX.keep aV (by rw[uX];exact jK _) (λav _ hc=> ?_) λav _ hc=>sN av ?_,hg.symm▸ae.out⟩;.show w.heap.size<=av;have:wa.heap.size<=av:=hc;omega
   .have:wa.heap.size<=av:=hc;omega
abbrev zq:ko:=49
def qT(R:Except Nat (nM IL)):ByteArray:=match R with| .error _=>⟨#[]⟩| .ok x=>txt x.lab
def qL(R:Except Nat (nM IL)):Bool:=match R with| .error _=>false| .ok x=>x.lab.list
def qS(R:Except Nat (nM IL)):List (nM IL):=match R with| .error _=>[]| .ok x=>x.sub
def qE(R:Except Nat (nM IL)):Nat:=match R with| .error er=>er| .ok _=>0
def qV(R:Except Nat (nM IL))(ov:Option lH)(cv:Nat):jP:=nE #[nD #[nz (qT R),nC (qL R),ny ov (qS R).length cv],nk nI (qE R:Nat)]
def Qh(R:Except Nat (nM IL))(w:jJ)(e:Ending)(w':jJ):Prop:=
 ∃ov cv,((∃er,R=.error er)->ov=V/\cv=0)/\e=nG (qV R ov cv)/\nW w' (λc=>w.heap.size<=c) (ny ov (qS R).length cv) (qS R)/\jS w.heap.size w w'
theorem KS{R:Except Nat (nM IL)}{w w':jJ}(h:AY R w e w'):Qh R w e w':=by
 cases R with
 |error er=>exact⟨V,0,λ_=>⟨rfl,rfl⟩,h.1,vK _ _,h.2⟩
 |ok x=>
  obtain⟨v,rfl,h1,h2⟩:=h;obtain⟨ov,cv,rfl,_⟩:=nW.slice h1;exact⟨ov,cv,(λ⟨_,h⟩=>by cases h),rfl,h1,h2⟩
theorem Si{R:Except Nat (nM IL)}{w w':jJ}(h:Qh R w e w'):AY R w e w':=by
 obtain⟨ov,cv,h0,rfl,h1,h2⟩:=h;cases R with
 |error er=>
  obtain⟨rfl,rfl⟩:=h0 ⟨er,rfl⟩;exact⟨rfl,h2⟩
 |ok x=>exact⟨_,rfl,h1,h2⟩
theorem Ye{p:Prop}(h:p:=by
 subst hW;have a1:=(jT w.heap.size w).alloc (jK _) (nH #[nk nI dep,nk nI oV] 159);have a2:=a1.alloc nS (nH #[nk nI t.lab.kind,nk nI t.lab.size,ny ou t.sub.length cu,nk nI t.lab.tail] rU);have a3:=a2.alloc nT (nH #[nz ⟨#[]⟩,nC false,ny V 0 0] IT);have k1:=nP.new w #[nk nI dep,nk nI oV] 159;have k2:=nP.new (w.alloc (nH #[nk nI dep,nk nI oV] 159)) #[nk nI t.lab.kind,nk nI t.lab.size,ny ou t.sub.length cu,nk nI t.lab.tail] rU;have k3:=nP.new ((w.alloc (nH #[nk nI dep,nk nI oV] 159)).alloc (nH #[nk nI t.lab.kind,nk nI t.lab.size,ny ou t.sub.length cu,nk nI t.lab.tail] rU)) #[nz ⟨#[]⟩,nC false,ny V 0 0] IT;rw[show(w.alloc (nH #[nk nI dep,nk nI oV] 159)).heap.size=g+1 by simp[hg]]at k2;rw[show((w.alloc (nH #[nk nI dep,nk nI oV] 159)).alloc (nH #[nk nI t.lab.kind,nk nI t.lab.size,ny ou t.sub.length cu,nk nI t.lab.tail] rU)).heap.size=g+2 by simp[hg]]at k3;rw[hg]at k1;exact⟨(k1.alloc _).alloc _,k2.alloc _,k3,hg▸a3,by simp[hg]⟩):p:=h
theorem NF(t:nM TL)(s:ByteArray)(dep oV:Int)(w:jJ)(ou:Option lH)(cu:Nat)(R:Except Nat (nM IL))(ai:oQ w (ny ou t.sub.length cu) t.sub)(aj:∀W,jS w.heap.size w W->jV jI 117 #[nD #[nk nI t.lab.kind,nk nI t.lab.size,ny ou t.sub.length cu,nk nI t.lab.tail],nz s,nk nI dep,nk nI oV] W (AY R W)):
  jV jI 84 #[nD #[nk nI dep,nk nI oV],nD #[nk nI t.lab.kind,nk nI t.lab.size,ny ou t.sub.length cu,nk nI t.lab.tail],nz s] w (AY R w):=by
 obtain⟨g,hg⟩:=nV w.heap.size;have Q:=jH (λW h=>(aj W h).mono λe w' h=>KS h);have Y:jX (∀W,((w.alloc (nH #[nk nI dep,nk nI oV] 159)).alloc (nH #[nk nI t.lab.kind,nk nI t.lab.size,ny ou t.sub.length cu,nk nI t.lab.tail] rU)).alloc (nH #[nz ⟨#[]⟩,nC false,ny V 0 0] IT)=W->nP W g #[nk nI dep,nk nI oV] 159/\nP W (g+1) #[nk nI t.lab.kind,nk nI t.lab.size,ny ou t.sub.length cu,nk nI t.lab.tail] rU/\nP W (g+2) AZ IT/\jS g w W/\W.heap.size=g+3):=jH λW hW=>by
  exact Ye
 obtain⟨av,ag⟩:=nV (AY R w);have ax:=jH ag;rw[ag];unfold Qh qV at Q;have aF:=jH (rfl:(qS R)=qS R);obtain⟨T,ah⟩:=nV (qT R);obtain⟨li,C⟩:=nV (qL R);obtain⟨sn,E⟩:=nV ((qS R).length);obtain⟨er,I⟩:=nV (qE R);rw[ah,C,E,I]at Q;have ay:=jH (jU ah (jU C (jU E I)));clear ai aj ag ah C E I;generalize t.lab.kind=k at*;generalize t.lab.size=z at*;generalize t.lab.tail=tl at*;generalize t.sub.length=n at*;go_in;go_upto_region 1 with fail;obtain⟨J,aa,hk2,N,ae⟩:=Y.out _ rfl;generalize ((w.alloc _).alloc _).alloc _=w1 at*;obtain⟨⟨t0,aG,aH,t3⟩,_⟩:=oG aa;have c0:w1.cell? (Z g 0 V)=U (nk nI dep):=J.cell 0;have c1:w1.cell? (Z g 1 V)=U (nk nI oV):=J.cell 1;have A:=jH (jU hk2 (jU N ae));have af:=jH (Q _ (hg.symm▸N));clear Y J aa hk2 N ae Q;go_wp2_with fail;refine af.mono ?_;rintro e w2 ⟨ov,cv,h0,rfl,hs,hb⟩;have O:=jH (Below.blk hb A.1 A.1.lt);have az:=jH (jU h0 (jU hs (A.2.1.trans (hb.mono (by have:=A.2.2;omega)))));have ak:jX (∀c,w1.heap.size<=c->g+3<=c):=jH λc hc=>by have:=A.2.2;omega
 clear h0 hs hb A af;have aA:=O.cell 0;have aB:=O.cell 1;have y2:=O.cell 2;obtain⟨z0,aI,aJ⟩:=O.f3;simp only[AZ,jO,jN,jM]at aA aB y2;go_wp2_with fail;rw[qb];obtain⟨hB,hb⟩:=yN (a:=nz T) (b:=nC li) (c:=ny ov sn cv) ⟨_,_,_,O.out⟩ (g:=g+2) (w:=w2) (W:=w2) (jT _ _);obtain⟨aC,aD,d2⟩:=hB.a3;refine jZ (v:=nE #[nD #[nz T,nC li,ny ov sn cv],nk nI er]) (by simp[kQ,Tryz.results84,go_sem,aC,aD,d2]) rfl ?_;rw[<-ax.out];obtain⟨rfl,rfl,rfl,rfl⟩:=ay.out;obtain⟨h0,hs,au⟩:=az.out;refine Si ⟨ov,cv,h0,rfl,Shape.nX.keep hs (by simp[pM,kz]) (λc _ hc=>by have:=ak.out c hc;show w.heap.size<=c;omega) λc _ hc=> ?_,hg.symm▸au.trans (hb.mono nL)⟩;have:=ak.out c hc;simp[pM,kz,lu,show g+2≠c by omega,show¬g+2=c by omega]
theorem II(t:nM TL)(s:ByteArray)(dep oV:Int)(w:jJ)(ou:Option lH)(cu:Nat)(R:Except Nat (nM IL))(ai:oQ w (ny ou t.sub.length cu) t.sub)(aj:∀W,jS w.heap.size w W->jV jI 119 #[nD #[nk nI t.lab.kind,nk nI t.lab.size,ny ou t.sub.length cu,nk nI t.lab.tail],nz s,nk nI oV] W (AY R W)):
  jV jI 86 #[nD #[nk nI dep,nk nI oV],nD #[nk nI t.lab.kind,nk nI t.lab.size,ny ou t.sub.length cu,nk nI t.lab.tail],nz s] w (AY R w):=by
 obtain⟨g,hg⟩:=nV w.heap.size;have Q:=jH (λW h=>(aj W h).mono λe w' h=>KS h);have Y:jX (∀W,((w.alloc (nH #[nk nI dep,nk nI oV] 159)).alloc (nH #[nk nI t.lab.kind,nk nI t.lab.size,ny ou t.sub.length cu,nk nI t.lab.tail] rU)).alloc (nH #[nz ⟨#[]⟩,nC false,ny V 0 0] IT)=W->nP W g #[nk nI dep,nk nI oV] 159/\nP W (g+1) #[nk nI t.lab.kind,nk nI t.lab.size,ny ou t.sub.length cu,nk nI t.lab.tail] rU/\nP W (g+2) AZ IT/\jS g w W/\W.heap.size=g+3):=jH λW hW=>by
  exact Ye
 obtain⟨av,ag⟩:=nV (AY R w);have ax:=jH ag;rw[ag];unfold Qh qV at Q;have aF:=jH (rfl:(qS R)=qS R);obtain⟨T,ah⟩:=nV (qT R);obtain⟨li,C⟩:=nV (qL R);obtain⟨sn,E⟩:=nV ((qS R).length);obtain⟨er,I⟩:=nV (qE R);rw[ah,C,E,I]at Q;have ay:=jH (jU ah (jU C (jU E I)));clear ai aj ag ah C E I;generalize t.lab.kind=k at*;generalize t.lab.size=z at*;generalize t.lab.tail=tl at*;generalize t.sub.length=n at*;go_in;go_upto_region 1 with fail;obtain⟨J,aa,hk2,N,ae⟩:=Y.out _ rfl;generalize ((w.alloc _).alloc _).alloc _=w1 at*;obtain⟨⟨t0,aG,aH,t3⟩,_⟩:=oG aa;have c0:w1.cell? (Z g 0 V)=U (nk nI dep):=J.cell 0;have c1:w1.cell? (Z g 1 V)=U (nk nI oV):=J.cell 1;have A:=jH (jU hk2 (jU N ae));have af:=jH (Q _ (hg.symm▸N));clear Y J aa hk2 N ae Q;go_wp2_with fail;refine af.mono ?_;rintro e w2 ⟨ov,cv,h0,rfl,hs,hb⟩;have O:=jH (Below.blk hb A.1 A.1.lt);have az:=jH (jU h0 (jU hs (A.2.1.trans (hb.mono (by have:=A.2.2;omega)))));have ak:jX (∀c,w1.heap.size<=c->g+3<=c):=jH λc hc=>by have:=A.2.2;omega
 clear h0 hs hb A af;have aA:=O.cell 0;have aB:=O.cell 1;have y2:=O.cell 2;obtain⟨z0,aI,aJ⟩:=O.f3;simp only[AZ,jO,jN,jM]at aA aB y2;go_wp2_with fail;rw[qb];obtain⟨hB,hb⟩:=yN (a:=nz T) (b:=nC li) (c:=ny ov sn cv) ⟨_,_,_,O.out⟩ (g:=g+2) (w:=w2) (W:=w2) (jT _ _);obtain⟨aC,aD,d2⟩:=hB.a3;refine jZ (v:=nE #[nD #[nz T,nC li,ny ov sn cv],nk nI er]) (by simp[kQ,Tryz.results86,go_sem,aC,aD,d2]) rfl ?_;rw[<-ax.out];obtain⟨rfl,rfl,rfl,rfl⟩:=ay.out;obtain⟨h0,hs,au⟩:=az.out;refine Si ⟨ov,cv,h0,rfl,Shape.nX.keep hs (by simp[pM,kz]) (λc _ hc=>by have:=ak.out c hc;show w.heap.size<=c;omega) λc _ hc=> ?_,hg.symm▸au.trans (hb.mono nL)⟩;have:=ak.out c hc;simp[pM,kz,lu,show g+2≠c by omega,show¬g+2=c by omega]
theorem a1A:∀(k:Nat)(l:List UInt8)(m:Nat)(y:nM IL×Nat×Nat),wO k l m=.ok y->y.1.lab.text.length<=l.length
 |0,l,m,y,h=>by
  simp only[wO]at h;split at h<;>cases h
 |k+1,l,m,y,h=>by
  simp only[wO]at h;split at h;.cases h
  .split at h
   .cases h
   .split at h
    .cases h
    .split at h
     .split at h
      .cases h
      .cases h;exact kH _
     .cases h
      simp only[nM.oZ,mi,kX];omega
theorem Yf(c:oF)(hc:oJ c=true)(J:c.wf):∃fn:FuncId,Jp c=.func (.func fn) #[nD #[nk nI c.dep,nk nI c.oV]] #[]/\(∀a b d W,l7 jI (callFunc fn #[a,b,d]) W=.ok (.enter fn #[a,b,d]) W)/\
  ∀(t:nM TL)(s:ByteArray)(w:jJ)(ou:Option lH)(cu:Nat),oQ w (ny ou t.sub.length cu) t.sub->pW w->uV w->p9 t=true->(c.fmt=1->(nM.o7 p0 t.sub&&p9 t)=true)->s.size<=100000->
   jV jI fn #[nD #[nk nI c.dep,nk nI c.oV],nD #[nk nI t.lab.kind,nk nI t.lab.size,ny ou t.sub.length cu,nk nI t.lab.tail],nz s] w (AY (GD c t s) w):=by
 obtain⟨_,_,_,⟨ae,hd2⟩,hi1,hi2⟩:=qU hc;obtain⟨_,_,_,_,N,O⟩:=J;by_cases h1:c.fmt=1
 .refine⟨86,if_pos h1,λ_ _ _ _=>rfl,λt s w ou cu A C E Q I hs=> ?_⟩
  have e:GD c t s=Uw t s c.oV:=if_pos h1;rw[e];refine II t s c.dep c.oV w ou cu _ A λW hb=> ?_
  exact a1w t s c.oV W ou cu (Shape.nX.below A hb) (C.below hb C.lt) (vJ E (oN.of (b:=w.heap.size) (q:=w.heap.size) hb) (by have:=E.lt;omega) (by have:=E.lt;omega)) (I h1) hs ⟨nL,hi2⟩
 .refine⟨84,if_neg h1,λ_ _ _ _=>rfl,λt s w ou cu A C E Q I hs=> ?_⟩
  have e:GD c t s=Bi t (EY s.data.toList (wO (min c.dep 16).toNat s.data.toList (min c.oV 1024).toNat)):=if_neg h1;rw[e];refine NF t s c.dep c.oV w ou cu _ A λW hb=> ?_
  refine Xh t _ ?_ W _ (Shape.nX.below A hb) ?_ (C.below hb C.lt) s c.dep c.oV λY=>a1z c.dep c.oV _ _ rfl rfl s Y hs N O
  .intro er h
   unfold EY at h;split at h
   .rename_i h2
    have:=GR _ _ _ _ h2;cases h;omega
   .split at h
    .cases h;decide
    .cases h
  .intro x h
   unfold EY at h;split at h;.cases h
   .rename_i y aa
    split at h;.cases h
    .cases h
     have af:=a1A _ _ _ _ aa;have ag:s.data.toList.length=s.size:=nS;have ah:(100000:Nat)<=j3:=nO;omega
def bOf(d:Bool)(v:jP):Option Nat:=if d=true then(match v with| nA (U a)=>U a.block|_=>V)else V
structure A7(Bs:jJ->Prop)(lim:Nat)(cs:Option lH->Nat->Array jP)(er:Int)(zc:Array jP)(T:ko)(Ps:Option lH->Nat->Prop)(S:List (nM IL))(d9 d10 d11 d13 d14:Bool)(v9 v10 v11 v13:jP)(W:jJ):Prop where
 bs:Bs W
 lm:lim<W.heap.size
 cl:d9=true->∃ov cv,Ps ov cv/\v9=nE #[nD (cs ov cv),nk nI er]/\(d10=true->v10=nE #[nD (cs ov cv),nk nI er])/\(d11=true->v11=nD (cs ov cv))/\nW W (λc=>lim<c/\bOf d13 v13≠U c) (ny ov S.length cv) S/\
  (d14=true->∃b,v13=nA (U (Z b 0 V))/\lim<b/\b<W.heap.size/\nP W b (cs ov cv) T)
 dn:d10=true->d9=true
 dm:d11=true->d10=true
 bk:d13=true->d14=false->∃b,v13=nA (U (Z b 0 V))/\lim<b/\nP W b zc T
section
variable {Bs:jJ->Prop}{lim:Nat}{cs:Option lH->Nat->Array jP}{er:Int}{zc:Array jP}{T:ko}{Ps:Option lH->Nat->Prop}{S:List (nM IL)}{d9 d10 d11 d13 d14:Bool}{v9 v10 v11 v13:jP}{W W':jJ}
theorem A7.ini(hb:Bs W)(hl:lim<W.heap.size):A7 Bs lim cs er zc T Ps S false false false false false v9 v10 v11 v13 W:=⟨hb,hl,(λh=>by cases h),(λh=>by cases h),(λh=>by cases h),(λh=>by cases h)⟩
theorem A7.call(qN:∀W W',Bs W->lim<W.heap.size->jS (lim+1) W W'->Bs W')(h:A7 Bs lim cs er zc T Ps S false false false d13 false v9 v10 v11 v13 W)(hb:jS W.heap.size W W'){ov:Option lH}{cv:Nat}(hp:Ps ov cv)(hs:nW W' (λc=>W.heap.size<=c) (ny ov S.length cv) S):
  A7 Bs lim cs er zc T Ps S true false false d13 false (nE #[nD (cs ov cv),nk nI er]) v10 v11 v13 W':=by
 have hl:=h.lm;refine⟨qN W W' h.bs hl (hb.mono hl),kG hl hb.size,λ_=>⟨ov,cv,hp,rfl,(λh=>by cases h),(λh=>by cases h),Shape.nX.keep hs (jK _) (λc _ hc=> ?_) (λ_ _ _=>rfl),(λh=>by cases h)⟩,λ_=>rfl,(λh=>by cases h),λh1 h2=> ?_⟩
 .have C:W.heap.size<=c:=hc
  refine⟨nL,λe=> ?_⟩;cases d13 with
  |false=>cases e
  |true=>
   obtain⟨b,rfl,_,hB⟩:=h.bk rfl rfl;have A:U b=U c:=e;cases A;have:=hB.lt;omega
 .obtain⟨b,e1,e2,e3⟩:=h.bk h1 rfl
  exact⟨b,e1,e2,Below.blk hb e3 e3.lt⟩
theorem A7.done(h:A7 Bs lim cs er zc T Ps S d9 d10 d11 d13 d14 v9 v10 v11 v13 W)(hd:d10=true):d9=true:=h.dn hd
theorem A7.mv(h:A7 Bs lim cs er zc T Ps S true false false d13 false v9 v10 v11 v13 W):A7 Bs lim cs er zc T Ps S true true false d13 false v9 v9 v11 v13 W:=by
 obtain⟨ov,cv,a1,a2,_,_,a5,_⟩:=h.cl rfl;exact⟨h.bs,h.lm,λ_=>⟨ov,cv,a1,a2,λ_=>a2,(λh=>by cases h),a5,(λh=>by cases h)⟩,λ_=>rfl,(λh=>by cases h),h.bk⟩
theorem A7.tup(h:A7 Bs lim cs er zc T Ps S true true d11 d13 d14 v9 v10 v11 v13 W):∃ov cv,v10=nE #[nD (cs ov cv),nk nI er]:=by
 obtain⟨ov,cv,_,_,a3,_⟩:=h.cl rfl;exact⟨ov,cv,a3 rfl⟩
theorem A7.ext(h:A7 Bs lim cs er zc T Ps S true true false d13 false v9 v10 v11 v13 W):∃ov cv,v10=nE #[nD (cs ov cv),nk nI er]/\A7 Bs lim cs er zc T Ps S true true true d13 false v9 v10 (nD (cs ov cv)) v13 W:=by
 obtain⟨ov,cv,a1,a2,a3,_,a5,_⟩:=h.cl rfl;exact⟨ov,cv,a3 rfl,h.bs,h.lm,λ_=>⟨ov,cv,a1,a2,a3,λ_=>rfl,a5,(λh=>by cases h)⟩,λ_=>rfl,λ_=>rfl,h.bk⟩
theorem A7.made(qN:∀W W',Bs W->lim<W.heap.size->jS (lim+1) W W'->Bs W')(h:A7 Bs lim cs er zc T Ps S d9 d10 d11 false false v9 v10 v11 v13 W):A7 Bs lim cs er zc T Ps S d9 d10 d11 true false v9 v10 v11 (nA (U (Z W.heap.size 0 V))) (W.alloc (nH zc T)):=by
 have hb:=(jT W.heap.size W).alloc (jK _) (nH zc T);have hl:=h.lm;refine⟨qN W _ h.bs hl (hb.mono hl),kG hl hb.size,λA=> ?_,h.dn,h.dm,λ_ _=>⟨_,rfl,hl,nP.new W _ _⟩⟩;obtain⟨ov,cv,a1,a2,a3,a4,a5,_⟩:=h.cl A;refine⟨ov,cv,a1,a2,a3,a4,Shape.nX.keep a5 hb.size (λc hc C=>⟨C.1,λe=> ?_⟩) (λc hc _=>hb.block c hc),(λh=>by cases h)⟩;have E:U W.heap.size=U c:=e;cases E;omega
theorem A7.st(qN:∀W W',Bs W->lim<W.heap.size->jS (lim+1) W W'->Bs W')(h:A7 Bs lim cs er zc T Ps S true true true true false v9 v10 v11 v13 W):∃ov cv b,v11=nD (cs ov cv)/\v13=nA (U (Z b 0 V))/\nP W b zc T/\
  ∀W',(∀c,c≠b->W'.heap[c]? =W.heap[c]?)->W'.heap.size=W.heap.size->W'.os=W.os->W'.tape=W.tape->W'.output=W.output->nP W' b (cs ov cv) T->A7 Bs lim cs er zc T Ps S true true true true true v9 v10 v11 v13 W':=by
 obtain⟨ov,cv,a1,a2,a3,a4,a5,_⟩:=h.cl rfl;obtain⟨b,rfl,C,hB⟩:=h.bk rfl rfl;refine⟨ov,cv,b,a4 rfl,rfl,hB,λW' E A I J N O=> ?_⟩;have hl:=h.lm;refine⟨qN W W' h.bs hl ⟨I,J,N,mR A.symm,λc hc=>E c nL⟩,A▸hl,λ_=>⟨ov,cv,a1,a2,a3,a4,Shape.nX.keep a5 (mR A.symm) (λ_ _ h=>h) (λc _ Q=>E c λe=>Q.2 (by rw[e];rfl)),λ_=>⟨b,rfl,C,A▸hB.lt,O⟩⟩,λ_=>rfl,λ_=>rfl,λ_ h=>by cases h⟩
theorem A7.fin(h:A7 Bs lim cs er zc T Ps S true true true true true v9 v10 v11 v13 W):∃ov cv b,Ps ov cv/\v9=nE #[nD (cs ov cv),nk nI er]/\v10=nE #[nD (cs ov cv),nk nI er]/\v11=nD (cs ov cv)/\v13=nA (U (Z b 0 V))/\lim<b/\nP W b (cs ov cv) T/\
  nW W (λc=>lim<c/\c≠b) (ny ov S.length cv) S:=by
 obtain⟨ov,cv,a1,a2,a3,a4,a5,a6⟩:=h.cl rfl;obtain⟨b,rfl,A,_,hB⟩:=a6 rfl;exact⟨ov,cv,b,a1,a2,a3 rfl,a4 rfl,rfl,A,hB,Shape.nX.keep a5 (jK _) (λc _ C=>⟨C.1,λe=>C.2 (by rw[e];rfl)⟩) λ_ _ _=>rfl⟩
end
theorem NG(W:jJ)(k:Nat)(a b c:jP):(∀d,d≠k->(pM W k a b c).heap[d]? =W.heap[d]?)/\(pM W k a b c).heap.size=W.heap.size/\(pM W k a b c).os=W.os/\(pM W k a b c).tape=W.tape/\(pM W k a b c).output=W.output:=
 ⟨λd hd=>by simp[pM,kz,lu,Ne.symm hd],by simp[pM,kz],rfl,rfl,rfl⟩
theorem UQ{W:jJ}{k:Nat}{a b c a0 b0 c0:jP}{t:ko}(h:nP W k #[a0,b0,c0] t):nP (pM W k a b c) k #[a,b,c] t:=((h.set 0 a).set 1 b).set 2 c
theorem yP(W:jJ)(k:Nat)(a b c e:jP):(∀d,d≠k->(yO W k a b c e).heap[d]? =W.heap[d]?)/\(yO W k a b c e).heap.size=W.heap.size/\(yO W k a b c e).os=W.os/\(yO W k a b c e).tape=W.tape/\(yO W k a b c e).output=W.output:=
 ⟨λd hd=>by simp[yO,kz,lu,Ne.symm hd],by simp[yO,kz],rfl,rfl,rfl⟩
end
end Go.Proofs.YtamfcjmhnndbdaaGreatDoor


