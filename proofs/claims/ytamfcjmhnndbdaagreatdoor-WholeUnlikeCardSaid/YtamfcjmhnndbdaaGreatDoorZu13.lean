/- Part 13 of the proof. -/
import Derived.Test.YtamfcjmhnndbdaaGreatDoorZu00
import Derived.Test.YtamfcjmhnndbdaaGreatDoorZu09
import Derived.Test.YtamfcjmhnndbdaaGreatDoorZu10
import Derived.Test.YtamfcjmhnndbdaaGreatDoorZu05
import Derived.Test.YtamfcjmhnndbdaaGreatDoorZu11
import Derived.Test.YtamfcjmhnndbdaaGreatDoorZu12
import Derived.Laws.CopyOwn
import Derived.Lib.SliceRun
open Go.Value renaming agg→nC,bool→nA,int→ng,pointer→nz,slice→nk,string→ny,tuple→nD,ownBlock→kJ
open Go.Obj renaming cells→nG
open Go.IntKind renaming i64→nH,u32→nJ,u64→nI
open Go.Ending renaming returned→nE,returned→lH
open Go.Lib renaming hid→jH,trimRightB→lG
open Go.Proofs.Tryz renaming prog→jI,underlying86→l8
open Go renaming World→jJ,Value→jP,Calls→jV,bodyPost_ret→j4,maxLen→j5,TypeId→ko,undef→kH,results→kK,Oper→lX,Addr→l5
open List renaming setIfInBounds_toArray→jK,getElem?_cons_succ→jM,getElem?_cons_zero→jN,getElem?_toArray→jO,set_cons_zero→jQ,set_cons_succ→jR,getElem?_eq_getElem→jX,take_succ_cons→ky,take_zero→kQ,length_drop→kS,getElem?_eq_some_iff→ll,length_eq_zero_iff→mf,size_toArray→mP
open Nat renaming le_refl→jL,le_trans→kg,lt_of_lt_of_le→kG,zero_le→kI,le_succ→kX,le_of_eq→mV
open Go.RowKit renaming Below→jS,Hid→jW
open Go.RowKit.Below renaming refl→jT,heap_setCell→j6
open And renaming intro→jU
open Array renaming getElem?_eq_some_iff→ku,length_toList→kV,getElem?_modify→lL
open ByteArray renaming size_extract→kz
open Go.World renaming setCell→kC,cell?→mW
open Go.Act renaming put→kE
open Go.Code renaming region→lg
open Go.Sem renaming run→mi
namespace Go.Proofs.YtamfcjmhnndbdaaGreatDoor
set_option linter.unusedVariables false
set_option linter.unusedSimpArgs false
set_option maxRecDepth 100000
set_option maxHeartbeats 8000000
variable {a0:Act}
section
open Go.RowKit
def bOf(d:Bool)(v:jP):Option Nat:=if d=true then(match v with| nz (some a)=>some a.block|_=>none)else none
structure AU(Bs:jJ->Prop)(lim:Nat)(cs:Option l5->Nat->Array jP)(er:Int)(zc:Array jP)(T:ko)(Ps:Option l5->Nat->Prop)(S:List (nL IL))(d9 d10 d11 d13 d14:Bool)(v9 v10 v11 v13:jP)(W:jJ):Prop where
 bs:Bs W
 lm:lim<W.heap.size
 cl:d9=true->∃ov cv,Ps ov cv/\v9=nD #[nC (cs ov cv),ng nH er]/\(d10=true->v10=nD #[nC (cs ov cv),ng nH er])/\(d11=true->v11=nC (cs ov cv))/\nV W (λc=>lim<c/\bOf d13 v13≠some c) (nk ov S.length cv) S/\
  (d14=true->∃b,v13=nz (some ⟨b,0,none⟩)/\lim<b/\b<W.heap.size/\nO W b (cs ov cv) T)
 dn:d10=true->d9=true
 dm:d11=true->d10=true
 bk:d13=true->d14=false->∃b,v13=nz (some ⟨b,0,none⟩)/\lim<b/\nO W b zc T
section
variable {Bs:jJ->Prop}{lim:Nat}{cs:Option l5->Nat->Array jP}{er:Int}{zc:Array jP}{T:ko}{Ps:Option l5->Nat->Prop}{S:List (nL IL)}{d9 d10 d11 d13 d14:Bool}{v9 v10 v11 v13:jP}{W W':jJ}
theorem AU.ini(hb:Bs W)(hl:lim<W.heap.size):AU Bs lim cs er zc T Ps S false false false false false v9 v10 v11 v13 W:=⟨hb,hl,(λh=>by cases h),(λh=>by cases h),(λh=>by cases h),(λh=>by cases h)⟩
theorem AU.call(qO:∀W W',Bs W->lim<W.heap.size->jS (lim+1) W W'->Bs W')(h:AU Bs lim cs er zc T Ps S false false false d13 false v9 v10 v11 v13 W)(hb:jS W.heap.size W W'){ov:Option l5}{cv:Nat}(hp:Ps ov cv)(hs:nV W' (λc=>W.heap.size<=c) (nk ov S.length cv) S):
  AU Bs lim cs er zc T Ps S true false false d13 false (nD #[nC (cs ov cv),ng nH er]) v10 v11 v13 W':=by
 have hl:=h.lm;refine⟨qO W W' h.bs hl (hb.mono hl),kG hl hb.size,λ_=>⟨ov,cv,hp,rfl,(λh=>by cases h),(λh=>by cases h),Shape.nX.keep hs (jL _) (λc _ hc=> ?_) (λ_ _ _=>rfl),(λh=>by cases h)⟩,λ_=>rfl,(λh=>by cases h),λA I=> ?_⟩
 .have E:W.heap.size<=c:=hc
  refine⟨nK,λe=> ?_⟩;cases d13 with
  |false=>cases e
  |true=>
   obtain⟨b,rfl,_,hB⟩:=h.bk rfl rfl;have C:some b=some c:=e;cases C;have:=hB.lt;omega
 .obtain⟨b,e1,e2,e3⟩:=h.bk A rfl
  exact⟨b,e1,e2,Below.blk hb e3 e3.lt⟩
theorem AU.done(h:AU Bs lim cs er zc T Ps S d9 d10 d11 d13 d14 v9 v10 v11 v13 W)(hd:d10=true):d9=true:=h.dn hd
theorem AU.mv(h:AU Bs lim cs er zc T Ps S true false false d13 false v9 v10 v11 v13 W):AU Bs lim cs er zc T Ps S true true false d13 false v9 v9 v11 v13 W:=by
 obtain⟨ov,cv,A,a2,_,_,a5,_⟩:=h.cl rfl;exact⟨h.bs,h.lm,λ_=>⟨ov,cv,A,a2,λ_=>a2,(λh=>by cases h),a5,(λh=>by cases h)⟩,λ_=>rfl,(λh=>by cases h),h.bk⟩
theorem AU.tup(h:AU Bs lim cs er zc T Ps S true true d11 d13 d14 v9 v10 v11 v13 W):∃ov cv,v10=nD #[nC (cs ov cv),ng nH er]:=by
 obtain⟨ov,cv,_,_,a3,_⟩:=h.cl rfl;exact⟨ov,cv,a3 rfl⟩
theorem AU.ext(h:AU Bs lim cs er zc T Ps S true true false d13 false v9 v10 v11 v13 W):∃ov cv,v10=nD #[nC (cs ov cv),ng nH er]/\AU Bs lim cs er zc T Ps S true true true d13 false v9 v10 (nC (cs ov cv)) v13 W:=by
 obtain⟨ov,cv,A,a2,a3,_,a5,_⟩:=h.cl rfl;exact⟨ov,cv,a3 rfl,h.bs,h.lm,λ_=>⟨ov,cv,A,a2,a3,λ_=>rfl,a5,(λh=>by cases h)⟩,λ_=>rfl,λ_=>rfl,h.bk⟩
theorem AU.made(qO:∀W W',Bs W->lim<W.heap.size->jS (lim+1) W W'->Bs W')(h:AU Bs lim cs er zc T Ps S d9 d10 d11 false false v9 v10 v11 v13 W):AU Bs lim cs er zc T Ps S d9 d10 d11 true false v9 v10 v11 (nz (some ⟨W.heap.size,0,none⟩)) (W.alloc (nG zc T)):=by
 have hb:=(jT W.heap.size W).alloc (jL _) (nG zc T);have hl:=h.lm;refine⟨qO W _ h.bs hl (hb.mono hl),kG hl hb.size,λA=> ?_,h.dn,h.dm,λ_ _=>⟨_,rfl,hl,nO.new W _ _⟩⟩;obtain⟨ov,cv,C,a2,a3,a4,a5,_⟩:=h.cl A;refine⟨ov,cv,C,a2,a3,a4,Shape.nX.keep a5 hb.size (λc hc E=>⟨E.1,λe=> ?_⟩) (λc hc _=>hb.block c hc),(λh=>by cases h)⟩;have I:some W.heap.size=some c:=e;cases I;omega
theorem AU.st(qO:∀W W',Bs W->lim<W.heap.size->jS (lim+1) W W'->Bs W')(h:AU Bs lim cs er zc T Ps S true true true true false v9 v10 v11 v13 W):∃ov cv b,v11=nC (cs ov cv)/\v13=nz (some ⟨b,0,none⟩)/\nO W b zc T/\
  ∀W',(∀c,c≠b->W'.heap[c]? =W.heap[c]?)->W'.heap.size=W.heap.size->W'.os=W.os->W'.tape=W.tape->W'.output=W.output->nO W' b (cs ov cv) T->AU Bs lim cs er zc T Ps S true true true true true v9 v10 v11 v13 W':=by
 obtain⟨ov,cv,I,a2,a3,a4,a5,_⟩:=h.cl rfl;obtain⟨b,rfl,C,hB⟩:=h.bk rfl rfl;refine⟨ov,cv,b,a4 rfl,rfl,hB,λW' E A J N O Q=> ?_⟩;have hl:=h.lm;refine⟨qO W W' h.bs hl ⟨J,N,O,mV A.symm,λc hc=>E c nK⟩,A▸hl,λ_=>⟨ov,cv,I,a2,a3,a4,Shape.nX.keep a5 (mV A.symm) (λ_ _ h=>h) (λc _ U=>E c λe=>U.2 (by rw[e];rfl)),λ_=>⟨b,rfl,C,A▸hB.lt,Q⟩⟩,λ_=>rfl,λ_=>rfl,λ_ h=>by cases h⟩
theorem AU.fin(h:AU Bs lim cs er zc T Ps S true true true true true v9 v10 v11 v13 W):∃ov cv b,Ps ov cv/\v9=nD #[nC (cs ov cv),ng nH er]/\v10=nD #[nC (cs ov cv),ng nH er]/\v11=nC (cs ov cv)/\v13=nz (some ⟨b,0,none⟩)/\lim<b/\nO W b (cs ov cv) T/\
  nV W (λc=>lim<c/\c≠b) (nk ov S.length cv) S:=by
 obtain⟨ov,cv,E,a2,a3,a4,a5,a6⟩:=h.cl rfl;obtain⟨b,rfl,A,_,hB⟩:=a6 rfl;exact⟨ov,cv,b,E,a2,a3 rfl,a4 rfl,rfl,A,hB,Shape.nX.keep a5 (jL _) (λc _ C=>⟨C.1,λe=>C.2 (by rw[e];rfl)⟩) λ_ _ _=>rfl⟩
end
theorem NN(W:jJ)(k:Nat)(a b c:jP):(∀d,d≠k->(pI W k a b c).heap[d]? =W.heap[d]?)/\(pI W k a b c).heap.size=W.heap.size/\(pI W k a b c).os=W.os/\(pI W k a b c).tape=W.tape/\(pI W k a b c).output=W.output:=
 ⟨λd hd=>by simp[pI,kC,lL,Ne.symm hd],by simp[pI,kC],rfl,rfl,rfl⟩
theorem UY{W:jJ}{k:Nat}{a b c a0 b0 c0:jP}{t:ko}(h:nO W k #[a0,b0,c0] t):nO (pI W k a b c) k #[a,b,c] t:=((h.set 0 a).set 1 b).set 2 c
theorem yR(W:jJ)(k:Nat)(a b c e:jP):(∀d,d≠k->(yQ W k a b c e).heap[d]? =W.heap[d]?)/\(yQ W k a b c e).heap.size=W.heap.size/\(yQ W k a b c e).os=W.os/\(yQ W k a b c e).tape=W.tape/\(yQ W k a b c e).output=W.output:=
 ⟨λd hd=>by simp[yQ,kC,lL,Ne.symm hd],by simp[yQ,kC],rfl,rfl,rfl⟩
def Z8:Array jP:=#[ny ⟨#[]⟩,ny ⟨#[]⟩,nA false,nk none 0 0]
def VM(g rb:Nat)(f:vS)(x:RC)(w0 W:jJ):Prop:=jS g w0 W/\nO W g #[ng nI f.id,ny f.name,ny f.body] rq/\nO W (g+1) Z8 zq/\nO W rb x.cs Fg
theorem VM.up{g rb:Nat}{f:vS}{x:RC}{w0 W A:jJ}(hl:g+1<rb)(h:VM g rb f x w0 W)(_:rb<W.heap.size)(hb:jS (rb+1) W A):VM g rb f x w0 A:=
 ⟨h.1.trans (hb.mono nK),Below.blk hb h.2.1 nK,Below.blk hb h.2.2.1 nK,Below.blk hb h.2.2.2 nK⟩
noncomputable def Fw:List lX:=cO (cL (cR (cR (cR (cR (cB Tryz.f64))))))
section
variable (g r rb:Nat)(c:oK)(f:vS)(x:RC)(w0:jJ)(fn:FuncId)(T:ByteArray)(li:Bool)(S:List (nL IL))(er:Nat)(Ps:Option l5->Nat->Prop)
def yS:Nat->jP
 |0=> nz (some ⟨r,0,none⟩)
 |1=> nz (some ⟨r,0,none⟩)
 |2=> nz (some ⟨r,8,none⟩)
 |3=> nz (some ⟨r,9,none⟩)
 |4=> .func (.func fn) #[nC #[ng nH c.dep,ng nH c.oZ]] #[]
 |5=> nz (some ⟨rb,3,none⟩)
 |6=> nC #[ng nH x.k,ng nH x.z,nk x.ou x.nu x.cu,ng nH x.tl]
 |7=> nz (some ⟨g,2,none⟩)
 |8=> ny f.body
 |12=> ng nH (er)
 |15=> ng nH (er)
 |_=>kH
structure a6e(D:Nat->Bool)(vs:Nat->jP)(w:jJ):Prop where
 oJ:AU (VM g rb f x w0) (rb) (λov cv=>#[ny T,nA li,nk ov S.length cv]) (er) (AR) IT (Ps) (S) (D 9) (D 10) (D 11) (D 13) (D 14) (vs 9) (vs 10) (vs 11) (vs 13) w
 val:∀j,(j !=9&&j !=10&&j !=11&&j !=13)=true->D j=true->vs j=yS g r rb c f x fn er j
variable {g r rb c f x w0 fn T li S er Ps}
theorem a1u{id:Nat}{Q:Exit->Act->jJ->Prop}{ae:jJ}(ht0:a0.tmps.getD 0 kH=nz (some ⟨r,0,none⟩))(Qo:∀W,VM g rb f x w0 W->W.cell? ⟨r,9,none⟩=some (.func (.func fn) #[nC #[ng nH c.dep,ng nH c.oZ]] #[]))(Aq:a0.tmps.getD 6 kH=nz (some ⟨rb,0,none⟩))(ht3:a0.tmps.getD 3 kH=nz (some ⟨g,0,none⟩))(hget:∀W,VM g rb f x w0 W->jV jI fn #[nC #[ng nH c.dep,ng nH c.oZ],nC #[ng nH x.k,ng nH x.z,nk x.ou x.nu x.cu,ng nH x.tl],ny f.body] W λe V=>∃ov cv,Ps ov cv/\e=nE (nD #[nC #[ny T,nA li,nk ov S.length cv],ng nH er])/\nV V (λc=>W.heap.size<=c) (nk ov S.length cv) S/\jS W.heap.size W V)(hcf:∀a b d W,mi jI (callFunc fn #[a,b,d]) W=.ok (.enter fn #[a,b,d]) W)(qO:∀W V,(VM g rb f x w0) W->rb<W.heap.size->jS (rb+1) W V->(VM g rb f x w0) V)(hsz:a0.tmps.size=48)(hI0:∀vs:Nat->jP,(λw=>AU (VM g rb f x w0) (rb) (λov cv=>#[ny T,nA li,nk ov S.length cv]) (er) (AR) IT (Ps) (S) false false false false false (vs 9) (vs 10) (vs 11) (vs 13) w) ae.drew)(af:∀(vs:Nat->jP) (w:jJ),AU (VM g rb f x w0) (rb) (λov cv=>#[ny T,nA li,nk ov S.length cv]) (er) (AR) IT (Ps) (S) true true true true true (vs 9) (vs 10) (vs 11) (vs 13) w->Q .normal {a0 with tmps:=(((((((((((((((a0.tmps.setIfInBounds 23 (nz (some ⟨r,0,none⟩))).setIfInBounds 24 (nz (some ⟨r,0,none⟩))).setIfInBounds 25 (nz (some ⟨r,8,none⟩))).setIfInBounds 26 (nz (some ⟨r,9,none⟩))).setIfInBounds 27 (.func (.func fn) #[nC #[ng nH c.dep,ng nH c.oZ]] #[])).setIfInBounds 28 (nz (some ⟨rb,3,none⟩))).setIfInBounds 29 (nC #[ng nH x.k,ng nH x.z,nk x.ou x.nu x.cu,ng nH x.tl])).setIfInBounds 30 (nz (some ⟨g,2,none⟩))).setIfInBounds 31 (ny f.body)).setIfInBounds 32 (vs 9)).setIfInBounds 22 (vs 10)).setIfInBounds 33 (vs 11)).setIfInBounds 34 (ng nH (er))).setIfInBounds 8 (vs 13)).setIfInBounds 9 (ng nH (er)))} w):
  (lg id Fw.toArray true).wp jI Q a0 ae:=by
 refine og 16 48 (a6e g r rb c f x w0 fn T li S er Ps) nM hsz nM (.inl rfl) nM ?_ ?_ ?_;.exact qF
 .refine rV λA ay=> ?_
  clear hI0 af hsz;replace ht0:=jH ht0;replace Qo:=jH Qo;replace Aq:=jH Aq;replace ht3:=jH ht3;replace hget:=jH hget;replace hcf:=jH hcf;replace qO:=jH qO;dsimp+instances only[Fw,cO,cL,cR,cB,Tryz.f64];simp only[ky,kQ,rz];refine⟨?_,?_,?_,?_,?_,?_,?_,?_,?_,?_,?_,?_,?_,?_,?_,?_,trivial⟩<;>(intro D vs a w K hI hd E hw2 C O;subst ay;dsimp+instances only[Fw,cO,cL,cR,cB,Tryz.f64]);have aO:=(C 0 nN).trans ht0.out;rotate_left;have aJ:=fe C hI.val E 23 0;rotate_left;have aK:=fe C hI.val E 24 1;rotate_left;have aL:=fe C hI.val E 25 2;rotate_left;have Qo:=Qo.out;have ag:=fe C hI.val E 26 3;simp only[yS]at ag;have c0:=Qo w hI.oJ.bs;rotate_left;have aP:=(C 6 nN).trans Aq.out;rotate_left;have ah:=fe C hI.val E 28 5;simp only[yS]at ah;obtain⟨⟨c0,c1,c2,c3,c4,c5,c6⟩,_⟩:=qf hI.oJ.bs.2.2.2;rotate_left;have e3:=(C 3 nN).trans ht3.out;rotate_left;have ai:=fe C hI.val E 30 7;simp only[yS]at ai;have hB:=hI.oJ.bs.2.1;have c0:=hB.c2;clear hB;rotate_left
  .have hget:=hget.out
   have hcf:=hcf.out;have qO:=qO.out;have aj:=fe C hI.val E 27 4;have ak:=fe C hI.val E 29 6;have au:=fe C hI.val E 31 8;simp only[yS]at aj ak au;have Z:D 11=false:=by cases h:D 11 with|false=>rfl|true=>exact absurd (hI.oJ.dm h) (by rw[hw2 10 nN nM];decide)
   have I:=hI.oJ;rw[hd,hw2 10 nN nM,Z,hw2 14 nN nM]at I;have az:=hget w I.bs;clear hget;rw[if_pos (by rfl)];go_simp;refine az.mono ?_;rintro e aQ ⟨ov,cv,hp,rfl,hs,hb⟩;refine O _ _ _ rfl ⟨?_,OP rfl hI.val⟩;rw[ow,nS D (show 10≠9 by decide),nS D (show 11≠9 by decide),nS D (show 13≠9 by decide),nS D (show 14≠9 by decide),p9,oo vs _ (show 10≠9 by decide),oo vs _ (show 11≠9 by decide),oo vs _ (show 13≠9 by decide)];rw[hw2 10 nN nM,Z,hw2 14 nN nM];exact I.call qO hb hp hs
  .have d9:=E 9 nN nM
   have aM:a.tmps.getD 32 kH=vs 9:=C 32 nN;have I:=hI.oJ;rw[hd,d9,hw2 11 nN nM,hw2 14 nN nM]at I;go_simp;refine O _ _ _ rfl ⟨?_,OP rfl hI.val⟩;rw[ow,nS D (show 9≠10 by decide),nS D (show 11≠10 by decide),nS D (show 13≠10 by decide),nS D (show 14≠10 by decide),p9,oo vs _ (show 9≠10 by decide),oo vs _ (show 11≠10 by decide),oo vs _ (show 13≠10 by decide)];rw[d9,hw2 11 nN nM,hw2 14 nN nM];exact I.mv
  .have d10:=E 10 nN nM
   have N:a.tmps.getD 22 kH=vs 10:=C 22 nN;have I:=hI.oJ;have J:D 9=true:=hI.oJ.done (by rw[d10]);rw[hd,J,d10,hw2 14 nN nM]at I;obtain⟨ov,cv,ev,Y⟩:=I.ext;try dsimp only at ev Y
   have N:=N.trans ev;go_simp;refine O _ _ _ rfl ⟨?_,OP rfl hI.val⟩;rw[ow,nS D (show 9≠11 by decide),nS D (show 10≠11 by decide),nS D (show 13≠11 by decide),nS D (show 14≠11 by decide),p9,oo vs _ (show 9≠11 by decide),oo vs _ (show 10≠11 by decide),oo vs _ (show 13≠11 by decide)];rw[J,d10,hw2 14 nN nM];exact Y
  .have d10:=E 10 nN nM
   have N:a.tmps.getD 22 kH=vs 10:=C 22 nN;have J:D 9=true:=hI.oJ.done (by rw[d10]);have I:=hI.oJ;rw[J,d10]at I;obtain⟨ov,cv,ev⟩:=I.tup;try dsimp only at ev
   have N:=N.trans ev;go_simp;exact O (yS g r rb c f x fn er 12) _ _ rfl ⟨hI.oJ,uR hI.val⟩
  .have qO:=qO.out
   have I:=hI.oJ;rw[hd,hw2 14 nN nM]at I;go_simp;refine O (nz (some ⟨w.heap.size,0,none⟩)) _ _ rfl ⟨?_,OP rfl hI.val⟩;rw[ow,nS D (show 9≠13 by decide),nS D (show 10≠13 by decide),nS D (show 11≠13 by decide),nS D (show 14≠13 by decide),p9,oo vs _ (show 9≠13 by decide),oo vs _ (show 10≠13 by decide),oo vs _ (show 11≠13 by decide)];rw[hw2 14 nN nM];exact I.made qO
  .have qO:=qO.out
   have d13:=E 13 nN nM;have av:a.tmps.getD 8 kH=vs 13:=C 8 nN;have d11:=E 11 nN nM;have aa:a.tmps.getD 33 kH=vs 11:=C 33 nN;have J:D 9=true:=hI.oJ.done (E 10 nN nM);have I:=hI.oJ;rw[hd,J,E 10 nN nM,d11,d13]at I;obtain⟨ov,cv,b,ax,aA,hB,Y⟩:=I.st qO;try dsimp only at ax Y
   have aa:=aa.trans ax;have av:=av.trans aA;have z0:=hB.cell 0;have aB:=hB.cell 1;have aC:=hB.cell 2;obtain⟨aR,f1,f2⟩:=hB.f3;simp only[AR,jO,jN,jM]at z0 aB aC;go_simp;rw[p8];refine O kH _ _ rfl ⟨?_,uR hI.val⟩;rw[ow,nS D (show 9≠14 by decide),nS D (show 10≠14 by decide),nS D (show 11≠14 by decide),nS D (show 13≠14 by decide),oo vs _ (show 9≠14 by decide),oo vs _ (show 10≠14 by decide),oo vs _ (show 11≠14 by decide),oo vs _ (show 13≠14 by decide)];rw[J,E 10 nN nM,d11,d13];obtain⟨aD,aF,aG,aH,aI⟩:=NN _ _ _ _ _;exact Y _ aD aF aG aH aI (UY hB)
  have aN:=fe C hI.val E 34 12;rotate_left
  all_goals
   try simp only[yS]at*
   go_simp;exact O _ _ _ rfl ⟨hI.oJ,uR hI.val⟩
 .intro D vs w U hI
  have E:=hI.oJ;rw[U 9 nN]at E;rw[U 10 nN]at E;rw[U 11 nN]at E;rw[U 13 nN]at E;rw[U 14 nN]at E;have q:=af vs w E;rw[oW hI.val U];dsimp+instances only[Fw,cO,cL,cR,cB,Tryz.f64];exact qD
end
def mN(R:Except Nat IU):ByteArray:=match R with| .error _=>⟨#[]⟩| .ok m=>m.name
def mT(R:Except Nat IU):ByteArray:=match R with| .error _=>⟨#[]⟩| .ok m=>txt m.val.lab
def mL(R:Except Nat IU):Bool:=match R with| .error _=>false| .ok m=>m.val.lab.list
def mS(R:Except Nat IU):List (nL IL):=match R with| .error _=>[]| .ok m=>m.val.sub
def mE(R:Except Nat IU):Nat:=match R with| .error er=>er| .ok _=>0
def a1v(R:Except Nat IU)(w:jJ)(e:Ending)(w':jJ):Prop:=
 ∃ov cv,((∃er,R=.error er)->ov=none/\cv=0)/\e=nE (nD #[nC #[ny (mN R),ny (mT R),nA (mL R),nk ov (mS R).length cv],ng nH (mE R:Nat)])/\nV w' (λc=>w.heap.size<=c) (nk ov (mS R).length cv) (mS R)/\jS w.heap.size w w'
theorem G9{c:oK}{t:nL TL}{s:ByteArray}{er:Nat}(h:GJ c t s=.error er):er≠0:=by
 unfold GJ at h;split at h
 .unfold UC at h
  split at h
  .rename_i e1 A
   unfold KI at A;split at A
   .have E:=zZ 8 t (RS.of s) (min c.oZ 1024).toNat (Int.le_refl _)
    cases A;cases h;omega
   .cases A
  .split at h
   .cases h;decide
   .cases h
 .unfold Bb at h
  split at h
  .split at h
   .rename_i e1 A
    unfold EY at A;split at A
    .rename_i C
     have:=GY _ _ _ _ C;cases A;cases h;omega
    .split at A
     .cases A;cases h;decide
     .cases A
   .split at h
    .cases h
    .rename_i I
     have:=CQ t (by assumption);cases h;omega
  .cases h;decide
theorem Qp(r bn bi:Nat)(c:oK)(L:List oV)(f:vS)(w:jJ)(h:qp r bn bi c L w)(hc:oM c=true)(aR:c.wf)(bG:qo w)(aL:xm w)(hn:f.name.size<=j5)(hid:f.id<18446744073709551616)(aS:f.body.size<=100000)(hlt:r<w.heap.size/\bn<w.heap.size/\bi<w.heap.size):
  jV jI 64 #[nz (some ⟨r,0,none⟩),nC #[ng nI f.id,ny f.name,ny f.body]] w (a1v (KJ c (L.map λx=>x.r) f) w):=by
 obtain⟨fn,aT,hcf,aU⟩:=Yf c hc aR;obtain⟨g,hg⟩:=nT w.heap.size;have au:jW (∀W,jS g w W->jV jI 91 #[nz (some ⟨r,0,none⟩),nC #[ng nI f.id,ny f.name,ny f.body]] W λe w'=>e=nE (nD #[nC (rcO (Qe c L f)).cs,nA (Qe c L f).isSome])/\jS W.heap.size W w'):=jH λW hb=>by
  have:=hb.size;exact a3J r bn bi c L f W (h.below (hg.symm▸hb)) hn hid ⟨nK,nK,nK⟩
 have aV:jW (∀W,(w.alloc (nG #[ng nI f.id,ny f.name,ny f.body] rq)).alloc (nG #[ny ⟨#[]⟩,ny ⟨#[]⟩,nA false,nk none 0 0] zq)=W->nO W g #[ng nI f.id,ny f.name,ny f.body] rq/\nO W (g+1) Z8 zq/\jS g w W/\W.heap.size=g+2):=jH λW U=>by
  subst U;have bV:=(jT w.heap.size w).alloc (jL _) (nG #[ng nI f.id,ny f.name,ny f.body] rq);have a2:=bV.alloc nR (nG #[ny ⟨#[]⟩,ny ⟨#[]⟩,nA false,nk none 0 0] zq);have bM:=nO.new w #[ng nI f.id,ny f.name,ny f.body] rq;have bN:=nO.new (w.alloc (nG #[ng nI f.id,ny f.name,ny f.body] rq)) #[ny ⟨#[]⟩,ny ⟨#[]⟩,nA false,nk none 0 0] zq;rw[show(w.alloc (nG #[ng nI f.id,ny f.name,ny f.body] rq)).heap.size=g+1 by simp[hg]]at bN;rw[hg]at bM;exact⟨bM.alloc _,bN,hg▸a2,by simp[hg]⟩
 have aW:jW (∀W,jS g w W->W.cell? ⟨r,9,none⟩=some (.func (.func fn) #[nC #[ng nH c.dep,ng nH c.oZ]] #[])):=jH λW hb=>by
  have:=(h.below (hg.symm▸hb)).rg.cell 9;rw[<-aT];exact this
 obtain⟨R,bH⟩:=nT (KJ c (L.map λx=>x.r) f);have V:jW ((Qe c L f=none->R=.error 11)/\∀x,Qe c L f=some x->R=match GJ c x.r.ty f.body with| .error er=> .error (if er=2 then 3 else er)| .ok y=> .ok ⟨x.r.name,y⟩):=jH (by
  rw[<-bH];unfold KJ;rw[a0Y];refine⟨λh=>by rw[h];rfl,λx h=>by rw[h];rfl⟩)
 have av:jW (∀x,Qe c L f=some x->x∈L):=jH λx I=>by
  unfold Qe at I;split at I
  .split at I
   .exact List.mem_of_find?_eq_some I
   .cases I
  .split at I
   .exact List.mem_of_find?_eq_some I
   .cases I
 have ag:jW (∀x,Qe c L f=some x->∀W,jS g w W->jV jI fn #[nC #[ng nH c.dep,ng nH c.oZ],nC #[ng nH x.r.ty.lab.kind,ng nH x.r.ty.lab.size,nk x.ou x.r.ty.sub.length x.cu,ng nH x.r.ty.lab.tail],ny f.body] W (Qn (GJ c x.r.ty f.body) W)):=jH λx I W hb=>by
  have bO:=av.out x I;have ax:jS w.heap.size w W:=hg.symm▸hb;obtain⟨bW,m2,_⟩:=h.may x bO;exact(aU x.r.ty f.body W x.ou x.cu ((h.below ax).sub x bO) (bG.below ax bG.lt) (vP aL (oN.of (b:=w.heap.size) (q:=w.heap.size) ax) (by have:=aL.lt;omega) (by have:=aL.lt;omega)) bW m2 aS).mono λe w' h=>KW h
 have aX:=jH hcf;rw[bH];obtain⟨bX,bI⟩:=nT (a1v R w);have aM:=jH bI;rw[bI];obtain⟨o,ho⟩:=nT (Qe c L f);rw[ho]at au V ag;have dD:=jH hlt;clear h hc aR bG aL hn hid aS hlt aT hcf aU bH ho bI av;go_in;go_upto_region 1 with fail;obtain⟨ay,aY,az,aZ⟩:=aV.out _ rfl;generalize (w.alloc _).alloc _=w1 at*;obtain⟨c0,c1,c2⟩:=ay.a3;have Y:=jH (jU ay (jU aY (jU az aZ)));have aA:=jH (au _ az);clear aV ay aY az aZ au;go_wp2_with fail;refine aA.mono ?_;rintro e w2 ⟨rfl,Z⟩;have ah:jW (nO w2 g #[ng nI f.id,ny f.name,ny f.body] rq/\nO w2 (g+1) Z8 zq/\jS g w w2/\g+2<=w2.heap.size):=jH ⟨Below.blk Z Y.1 Y.1.lt,Below.blk Z Y.2.1 Y.2.1.lt,Y.2.2.1.trans (Z.mono (by have:=Y.2.2.2;omega)),by have:=Z.size;have:=Y.2.2.2;omega⟩;clear Z Y aA c0 c1 c2;cases o with
 |none=>
  have aj:jW (R=.error 11):=jH (V.1 rfl);have aa:jW (∀W,w2.alloc (nG CW.cs Fg)=W->nO W (g+1) Z8 zq/\jS g w W):=jH λW U=>by
   subst U;have al:=(jT w2.heap.size w2).alloc (jL _) (nG CW.cs Fg);obtain⟨_,C,bJ,bY⟩:=ah.out;exact⟨Below.blk al C C.lt,bJ.trans (al.mono nK)⟩
  unfold rcO CW RC.cs at aa⊢;dsimp only[Option.isSome]at aa⊢;clear V ag;go_upto_region 4 with fail;obtain⟨hB,A⟩:=aa.out _ rfl;generalize w2.alloc _=w3 at*;obtain⟨⟨bZ,cz,y2,cK⟩,cZ,df,dh,dw⟩:=oF hB;have ae:=jH (jU hB A);clear hB A aa;go_wp2_with fail;rw[tJ];obtain⟨⟨J,N,O,Q⟩,_⟩:=oF (rD (a:=ny ⟨#[]⟩) (b:=ny ⟨#[]⟩) (c:=nA false) (d:=nk none 0 0) ae.1);have A:=tY (a:=ny ⟨#[]⟩) (b:=ny ⟨#[]⟩) (c:=nA false) (d:=nk none 0 0) ae.2 (kX g);refine j4 (v:=nD #[nC #[ny ⟨#[]⟩,ny ⟨#[]⟩,nA false,nk none 0 0],ng nH 11]) (by simp[kK,Tryz.results64,go_sem,J,N,O,Q]) rfl ?_;rw[<-aM.out,aj.out];exact⟨none,0,λ_=>⟨rfl,rfl⟩,rfl,vQ _ _,hg.symm▸A⟩
 |some x=>
  have ai:jW (R=match GJ c x.r.ty f.body with| .error er=> .error (if er=2 then 3 else er)| .ok y=> .ok ⟨x.r.name,y⟩):=jH (V.2 x rfl);have aB:=jH (ag x rfl);have aC:jW (∀er,GJ c x.r.ty f.body=.error er->er≠0):=jH λer h=>G9 h
  obtain⟨aD,bP⟩:=nT (GJ c x.r.ty f.body);rw[bP]at ai aB aC;obtain⟨rb,aF⟩:=nT w2.heap.size;have aa:jW (∀W,w2.alloc (nG x.rc.cs Fg)=W->VM g rb f x.rc w W/\rb<W.heap.size):=jH λW U=>by
   subst U;have al:=(jT w2.heap.size w2).alloc (jL _) (nG x.rc.cs Fg);obtain⟨aN,C,bJ,bY⟩:=ah.out;exact⟨⟨bJ.trans (al.mono nK),Below.blk al aN aN.lt,Below.blk al C C.lt,aF▸nO.new w2 _ _⟩,by simp[aF]⟩
  have bQ:g+1<rb:=by have:=ah.2.2.2;omega
  unfold rcO;dsimp only[Option.isSome];unfold RC.cs at aa⊢;have bR:jW (x.rc.nm=x.r.name):=jH rfl;have bg:jW (∀W,jS g w W->jV jI fn #[nC #[ng nH c.dep,ng nH c.oZ],nC #[ng nH x.rc.k,ng nH x.rc.z,nk x.rc.ou x.rc.nu x.rc.cu,ng nH x.rc.tl],ny f.body] W (Qn aD W)):=jH aB.out;clear aB V ag bP ah;generalize x.rc=X at*;generalize x.r.name=dx at*;go_upto_region 4 with fail;obtain⟨hB,bq⟩:=aa.out _ rfl;generalize w2.alloc _=w3 at*;clear aa;have ae:=jH (jU hB bq);clear hB bq aF;go_upto_region 6 with fail;obtain⟨T,aG⟩:=nT (qT aD);obtain⟨li,aH⟩:=nT (qL aD);obtain⟨S,bK⟩:=nT (qS aD);obtain⟨er,aI⟩:=nT (qE aD);have bu:jW (∀W,VM g rb f X w W->jV jI fn #[nC #[ng nH c.dep,ng nH c.oZ],nC #[ng nH X.k,ng nH X.z,nk X.ou X.nu X.cu,ng nH X.tl],ny f.body] W λe bL=>∃ov cv,((∃er,aD=.error er)->ov=none/\cv=0)/\e=nE (nD #[nC #[ny T,nA li,nk ov S.length cv],ng nH er])/\nV bL (λc=>W.heap.size<=c) (nk ov S.length cv) S/\jS W.heap.size W bL):=jH λW U=>by
   have:=bg.out W U.1;unfold Qn qV at this;rw[aG,aH,bK,aI]at this;exact this
  refine a1u (g:=g) (r:=r) (rb:=rb) (c:=c) (f:=f) (x:=X) (w0:=w) (fn:=fn) (T:=T) (li:=li) (S:=S) (er:=er) (Ps:=λov cv=>(∃er,aD=.error er)->ov=none/\cv=0) (ht0:=by rfl) (Aq:=by rfl) (ht3:=by rfl) (hsz:=by rfl) (Qo:=λW U=>aW.out W U.1) (hget:=bu.out) (hcf:=aX.out) (qO:=λW bL h=>h.up bQ) (hI0:=λ_=>AU.ini ⟨ae.1.1.trans ((oz w3).mono (by have:=ae.2;omega)),ae.1.2⟩ ae.2) ?_;intro vs W hF;obtain⟨ov,cv,b,bz,bS,bA,bB,bC,bD,bE,af⟩:=AU.fin hF;rw[bS,bA,bB,bC];obtain⟨hw1,hw2,hw3,hw4⟩:=hF.bs;have ak:=jH (jU bz (jU bD (jU af (jU hw1 hw3))));have aO:=jH (jU aG (jU aH (jU bK aI)));simp only[jK,jQ,jR];obtain⟨⟨r0,r1,r2,r3,r4,dF,dG⟩,_⟩:=qf hw4;obtain⟨b0,b1,dz⟩:=bE.a3;obtain⟨⟨bZ,cz,y2,cK⟩,cZ,df,dh,dw⟩:=oF hw3;have bF:jW (∀aP,(∀c,c≠g+1->aP.heap[c]? =W.heap[c]?)->aP.heap.size=W.heap.size->nV aP (λc=>w.heap.size<=c) (nk ov S.length cv) S):=jH λaP aN C=>Shape.nX.keep af (mV C.symm) (λc _ hc=>by have:=hc.1;show w.heap.size<=c;omega) λc _ hc=>aN c (by have:=hc.1;omega)
  clear hF bz bD af hw1 hw2 hw3 hw4 bE aG aH bK aI bg bu ae aW aX bS bA bB bC;obtain⟨sn,aJ⟩:=nT S.length;rw[aJ]at dz bF⊢;have bT:=jH aJ;clear aJ;by_cases h0:er=0
  .subst h0
   have aj:jW (∃y,aD=.ok y):=jH (by
    cases aD with
    |error e1=>exact absurd aO.2.2.2 (aC e1 rfl)
    |ok y=>exact⟨y,rfl⟩)
   go_wp2_with fail;rw[tJ];obtain⟨dA,dB,_⟩:=yR W (g+1) (ny X.nm) (ny T) (nA li) (nk ov sn cv);obtain⟨⟨J,N,O,Q⟩,_⟩:=oF (rD (a:=ny X.nm) (b:=ny T) (c:=nA li) (d:=nk ov sn cv) ak.2.2.2.2);have A:=tY (a:=ny X.nm) (b:=ny T) (c:=nA li) (d:=nk ov sn cv) ak.2.2.2.1 (kX g);refine j4 (v:=nD #[nC #[ny X.nm,ny T,nA li,nk ov sn cv],ng nH 0]) (by simp[kK,Tryz.results64,go_sem,J,N,O,Q]) rfl ?_;obtain⟨y,dC⟩:=aj.out;have hs:=bF.out _ dA dB;obtain⟨aQ,g2,g3,_⟩:=aO.out;have E:=ai.out;rw[dC]at E aQ g2 g3;dsimp only at E;rw[<-aM.out,E];have aQ:txt y.lab=T:=aQ;have g2:y.lab.list=li:=g2;have g3:y.sub=S:=g3;have aK:=bT.out;rw[<-g3]at aK hs;refine⟨ov,cv,(λ⟨_,h⟩=>by cases h),?_,?_,hg.symm▸A⟩
   .show _=lH (nD #[nC #[ny dx,ny (txt y.lab),nA y.lab.list,nk ov y.sub.length cv],ng nH ((0:Nat):Int)])
    rw[aQ,g2,aK,bR.out];rfl
   .show nV _ _ (nk ov y.sub.length cv) y.sub
    rw[aK];exact hs
  .have aj:jW (aD=.error er):=jH (by
    cases aD with
    |error e1=>rw[<-aO.2.2.2];rfl
    |ok y=>exact absurd aO.2.2.2.symm h0)
   have t0:((er:Int)==0)=false:=nQ;have bU:((er:Int) !=0)=true:=nQ;obtain⟨⟨J,N,O,Q⟩,_⟩:=oF (rD (a:=ny ⟨#[]⟩) (b:=ny ⟨#[]⟩) (c:=nA false) (d:=nk none 0 0) ak.2.2.2.2);have A:=jH (tY (a:=ny ⟨#[]⟩) (b:=ny ⟨#[]⟩) (c:=nA false) (d:=nk none 0 0) ak.2.2.2.1 (kX g));by_cases C:er=2
   .have E:jW (R=.error 3):=jH (by have:=ai.out;rw[aj.out]at this;rw[this,C];rfl)
    subst C;clear J N O Q t0 bU h0;go_wp2_with fail;rw[tJ];obtain⟨⟨J,N,O,Q⟩,_⟩:=oF (rD (a:=ny ⟨#[]⟩) (b:=ny ⟨#[]⟩) (c:=nA false) (d:=nk none 0 0) ak.2.2.2.2);refine j4 (v:=nD #[nC #[ny ⟨#[]⟩,ny ⟨#[]⟩,nA false,nk none 0 0],ng nH 3]) (by simp[kK,Tryz.results64,go_sem,J,N,O,Q]) rfl ?_;rw[<-aM.out,E.out];exact⟨none,0,λ_=>⟨rfl,rfl⟩,rfl,vQ _ _,hg.symm▸A.out⟩
   .have E:jW (R=.error er):=jH (by have:=ai.out;rw[aj.out]at this;rw[this];show Except.error (if er=2 then 3 else er)=_;rw[if_neg C])
    have dH:((er:Int)==2)=false:=nQ;have dE:jW (er≠2/\er≠0):=jH ⟨C,h0⟩;clear J N O Q C h0;go_wp2_with fail;rw[tJ];obtain⟨⟨J,N,O,Q⟩,_⟩:=oF (rD (a:=ny ⟨#[]⟩) (b:=ny ⟨#[]⟩) (c:=nA false) (d:=nk none 0 0) ak.2.2.2.2);refine j4 (v:=nD #[nC #[ny ⟨#[]⟩,ny ⟨#[]⟩,nA false,nk none 0 0],ng nH (er:Nat)]) (by simp[kK,Tryz.results64,go_sem,J,N,O,Q]) rfl ?_;rw[<-aM.out,E.out];exact⟨none,0,λ_=>⟨rfl,rfl⟩,rfl,vQ _ _,hg.symm▸A.out⟩
abbrev MtT:ko:=89
abbrev Qq:ko:=28
structure KX(g kc km kt ka ks sb r mb:Nat)(c:oK)(s:ByteArray)(p:Nat)(w0:jJ)(m:MS)(W:jJ):Prop where
 cf:nO W kc #[ng nH c.fmt,ng nJ c.mag,ng nH c.pO,ng nH c.qj,ng nH c.dep,ng nH c.oZ] tV
 mv:nO W km #[nz (some ⟨mb,0,none⟩)] MtT
 tx:nO W kt #[ny s] OO
 at_:nO W ka #[ng nH p] InT
 sv:nO W ks #[nz (some ⟨sb,0,none⟩)] Qq
 se:W.cell? ⟨sb,0,none⟩=some (nz (some ⟨r,0,none⟩))/\sb<g
 mm:pJ W (some (mb,m))
 rs:nO W g Z8 zq
 up:oN ka mb w0 W
 ne:kc≠mb/\km≠mb/\kt≠mb/\ka≠mb/\ks≠mb/\sb≠mb/\kc≠ka/\km≠ka/\kt≠ka/\ks≠ka/\sb≠ka
 lt:kc<g/\km<g/\kt<g/\ka<g/\ks<g/\mb<g/\w0.heap.size=g
section
variable {g kc km kt ka ks sb r mb:Nat}{c:oK}{s:ByteArray}{p:Nat}{w0:jJ}{m m2:MS}{W W':jJ}
theorem KX.up1(h:KX g kc km kt ka ks sb r mb c s p w0 m W){lim:Nat}(hg:g<=lim)(hl:lim<W.heap.size)(hb:jS (lim+1) W W'):KX g kc km kt ka ks sb r mb c s p w0 m W':=by
 have l:=h.lt;have e:=h.se;have q:∀{n:Nat}{cs:Array jP}{t:ko},nO W n cs t->n<=lim->nO W' n cs t:=λhB hn=>Below.blk hb hB nK
 exact⟨q h.cf nK,q h.mv nK,q h.tx nK,q h.at_ nK,q h.sv nK,⟨(hb.cell (p:=⟨sb,0,none⟩) (show sb<lim+1 by omega)).trans e.1,e.2⟩,⟨q h.mm.1 nK,h.mm.2⟩,q h.rs nK,
  ⟨hb.os.trans h.up.os,hb.tape.trans h.up.tape,hb.output.trans h.up.output,kg h.up.size hb.size,λk hk A C=>(hb.block k nK).trans (h.up.block k hk A C)⟩,h.ne,h.lt⟩
theorem KX.below(h:KX g kc km kt ka ks sb r mb c s p w0 m W)(hb:jS W.heap.size W W'):KX g kc km kt ka ks sb r mb c s p w0 m W':=
 h.up1 (jL g) h.rs.lt (hb.mono (by have:=h.rs.lt;omega))
theorem KX.drew(h:KX g kc km kt ka ks sb r mb c s p w0 m W):KX g kc km kt ka ks sb r mb c s p w0 m W.drew:=h.below (oz W)
theorem KX.turn(h:KX g kc km kt ka ks sb r mb c s p w0 m W)(hg:W.grownBy W' (some mb))(A:pJ W' (some (mb,m2))):KX g kc km kt ka ks sb r mb c s p w0 m2 W':=by
 have l:=h.lt;have n:=h.ne;have e:=h.se;have q:∀{n:Nat}{cs:Array jP}{t:ko},nO W n cs t->n≠mb->nO W' n cs t:=λhB hn=>o8 hB hg λx C e=>hn (by cases C;exact e.symm)
 have hsz:=h.rs.lt;refine⟨q h.cf nK,q h.mv nK,q h.tx nK,q h.at_ nK,q h.sv nK,⟨?_,e.2⟩,A,q h.rs nK,?_,h.ne,h.lt⟩
 .have hb:=hg.block sb nK (by intro e;cases e;omega)
  simp only[mW,hb];exact e.1
 .exact⟨hg.os.trans h.up.os,hg.tape.trans h.up.tape,hg.output.trans h.up.output,kg h.up.size hg.size,λk hk E I=>(hg.block k (kG hk h.up.size) (by intro e;cases e;omega)).trans (h.up.block k hk E I)⟩
end
structure VN(g kc km kt ka ks sb r mb:Nat)(c:oK)(s:ByteArray)(p:Nat)(w0:jJ)(m m2:MS)(y:R8)(d5 d10 d11:Bool)(v10:jP)(W:jJ):Prop where
 bs:KX g kc km kt ka ks sb r mb c s p w0 (if d5=true then m2 else m) W
 bk:d10=true->∃b,v10=nz (some ⟨b,0,none⟩)/\g<b/\nO W b (if d11=true then#[ng nI y.id,ny y.name,ny y.body]else#[ng nI 0,ny ⟨#[]⟩,ny ⟨#[]⟩]) rq
section
variable {g kc km kt ka ks sb r mb:Nat}{c:oK}{s:ByteArray}{p:Nat}{w0:jJ}{m m2:MS}{y:R8}{d5 d10 d11:Bool}{v10:jP}{W W':jJ}
theorem VN.call(h:VN g kc km kt ka ks sb r mb c s p w0 m m2 y false d10 false v10 W)(hg:W.grownBy W' (some mb))(A:pJ W' (some (mb,m2))):VN g kc km kt ka ks sb r mb c s p w0 m m2 y true d10 false v10 W':=by
 refine⟨h.bs.turn hg A,λhd=> ?_⟩;obtain⟨b,e1,e2,e3⟩:=h.bk hd;have l:=h.bs.lt;exact⟨b,e1,e2,o8 e3 hg λx C=>by cases C;omega⟩
theorem VN.made(h:VN g kc km kt ka ks sb r mb c s p w0 m m2 y d5 false false v10 W):VN g kc km kt ka ks sb r mb c s p w0 m m2 y d5 true false (nz (some ⟨W.heap.size,0,none⟩)) (W.alloc (nG #[ng nI 0,ny ⟨#[]⟩,ny ⟨#[]⟩] rq)):=
 ⟨h.bs.below ((jT W.heap.size W).alloc (jL _) _),λ_=>⟨_,rfl,h.bs.rs.lt,nO.new W _ _⟩⟩
theorem VN.put{b:Nat}(h:VN g kc km kt ka ks sb r mb c s p w0 m m2 y true true false (nz (some ⟨b,0,none⟩)) W)(A:g<b)(hB:nO W b #[ng nI 0,ny ⟨#[]⟩,ny ⟨#[]⟩] rq):VN g kc km kt ka ks sb r mb c s p w0 m m2 y true true true (nz (some ⟨b,0,none⟩)) (yj W b (ng nI y.id) (ny y.name) (ny y.body)):=by
 have hb:jS (g+1) W (yj W b (ng nI y.id) (ny y.name) (ny y.body)):=
  (((jT (g+1) W).setCell (p:=⟨b,0,none⟩) (by show g+1<=b;omega) _).setCell (p:=⟨b,1,none⟩) (by show g+1<=b;omega) _).setCell (p:=⟨b,2,none⟩) (by show g+1<=b;omega) _
 exact⟨h.bs.up1 (jL g) h.bs.rs.lt hb,λ_=>⟨b,rfl,A,qB hB⟩⟩
end
noncomputable def KY:List lX:=cO (cL (cR (cB Tryz.f62)))
section
variable (g kc km kt ka ks sb r mb:Nat)(c:oK)(s:ByteArray)(p:Nat)(w0:jJ)(m m2:MS)(y:R8)
def Ef:Nat->jP
 |0=> nC #[ng nH c.fmt,ng nJ c.mag,ng nH c.pO,ng nH c.qj,ng nH c.dep,ng nH c.oZ]
 |1=> nz (some ⟨mb,0,none⟩)
 |2=> ny s
 |3=> ng nH p
 |4=> ny (s.extract p s.size)
 |5=> nD #[nC #[ng nI y.id,ny y.name,ny y.body],ng nH y.n,ng nH y.e]
 |6=> nD #[nC #[ng nI y.id,ny y.name,ny y.body],ng nH y.n,ng nH y.e]
 |7=> nC #[ng nI y.id,ny y.name,ny y.body]
 |8=> ng nH y.n
 |9=> ng nH y.e
 |12=> ng nH y.n
 |13=> ng nH y.e
 |_=>kH
structure a8K(D:Nat->Bool)(vs:Nat->jP)(w:jJ):Prop where
 oJ:VN g kc km kt ka ks sb r mb c s p w0 m m2 y (D 5) (D 10) (D 11) (vs 10) w
 val:∀j,(j !=10)=true->D j=true->vs j=Ef mb c s p y j
variable {g kc km kt ka ks sb r mb c s p w0 m m2 y}
theorem a3X{id:Nat}{Q:Exit->Act->jJ->Prop}{V:jJ}(ht0:a0.tmps.getD 0 kH=nz (some ⟨kc,0,none⟩))(ht1:a0.tmps.getD 1 kH=nz (some ⟨km,0,none⟩))(ht2:a0.tmps.getD 2 kH=nz (some ⟨kt,0,none⟩))(ht3:a0.tmps.getD 3 kH=nz (some ⟨ka,0,none⟩))(hp:p<=s.size/\s.size<=100000)(hnext:∀W,pJ W (some (mb,m))->jV jI 63 #[nC #[ng nH c.fmt,ng nJ c.mag,ng nH c.pO,ng nH c.qj,ng nH c.dep,ng nH c.oZ],nz (some ⟨mb,0,none⟩),ny (s.extract p s.size)] W λe Y=>W.grownBy Y (some mb)/\pJ Y (some (mb,m2))/\e=nE y.v)(hsz:a0.tmps.size=41)(hI0:∀vs:Nat->jP,(λw=>VN g kc km kt ka ks sb r mb c s p w0 m m2 y false false false (vs 10) w) V.drew)(Z:∀(vs:Nat->jP) (w:jJ),VN g kc km kt ka ks sb r mb c s p w0 m m2 y true true true (vs 10) w->Q .normal {a0 with tmps:=(((((((((((((a0.tmps.setIfInBounds 12 (nC #[ng nH c.fmt,ng nJ c.mag,ng nH c.pO,ng nH c.qj,ng nH c.dep,ng nH c.oZ])).setIfInBounds 13 (nz (some ⟨mb,0,none⟩))).setIfInBounds 14 (ny s)).setIfInBounds 15 (ng nH p)).setIfInBounds 16 (ny (s.extract p s.size))).setIfInBounds 17 (nD #[nC #[ng nI y.id,ny y.name,ny y.body],ng nH y.n,ng nH y.e])).setIfInBounds 11 (nD #[nC #[ng nI y.id,ny y.name,ny y.body],ng nH y.n,ng nH y.e])).setIfInBounds 18 (nC #[ng nI y.id,ny y.name,ny y.body])).setIfInBounds 19 (ng nH y.n)).setIfInBounds 20 (ng nH y.e)).setIfInBounds 7 (vs 10)).setIfInBounds 8 (ng nH y.n)).setIfInBounds 9 (ng nH y.e))} w):
  (lg id KY.toArray true).wp jI Q a0 V:=by
 refine og 14 41 (a8K g kc km kt ka ks sb r mb c s p w0 m m2 y) nM hsz nM (.inl rfl) nM ?_ ?_ ?_;.exact qF
 .refine rV λA au=> ?_
  clear hI0 Z hsz;replace ht0:=jH ht0;replace ht1:=jH ht1;replace ht2:=jH ht2;replace ht3:=jH ht3;replace hp:=jH hp;replace hnext:=jH hnext;dsimp+instances only[KY,cO,cL,cR,cB,Tryz.f62];simp only[ky,kQ,rz];refine⟨?_,?_,?_,?_,?_,?_,?_,?_,?_,?_,?_,?_,?_,?_,trivial⟩<;>(intro D vs a w K hI hd E hw2 C J;subst au;dsimp+instances only[KY,cO,cL,cR,cB,Tryz.f62]);have aD:=(C 0 nN).trans ht0.out;have hB:=hI.oJ.bs.cf;obtain⟨c0,c1,c2,c3,c4,c5⟩:=hB.a6;clear hB;rotate_left;have e1:=(C 1 nN).trans ht1.out;have hB:=hI.oJ.bs.mv;have c0:=hB.c0;clear hB;rotate_left;have e2:=(C 2 nN).trans ht2.out;have hB:=hI.oJ.bs.tx;have c0:=hB.c0;clear hB;rotate_left;have e3:=(C 3 nN).trans ht3.out;have hB:=hI.oJ.bs.at_;have c0:=hB.c0;clear hB;rotate_left;have hp:=hp.out;have aa:=fe C hI.val E 14 2;have ae:=fe C hI.val E 15 3;simp only[Ef]at aa ae;obtain⟨ay,az⟩:=hp;rotate_left
  .have hnext:=hnext.out
   have af:=fe C hI.val E 12 0;have ag:=fe C hI.val E 13 1;have ah:=fe C hI.val E 16 4;simp only[Ef]at af ag ah;have I:=hI.oJ;rw[hd,hw2 11 nN nM]at I;have av:=hnext w I.bs.mm;clear hnext;rw[if_pos (by rfl)];go_simp;refine av.mono ?_;rintro e aF ⟨hg,ax,rfl⟩;refine J (Ef mb c s p y 5) _ _ rfl ⟨?_,uR hI.val⟩;rw[ow,nS D (show 10≠5 by decide),nS D (show 11≠5 by decide),oo vs _ (show 10≠5 by decide),hw2 11 nN nM];exact I.call hg ax
  have aA:=fe C hI.val E 17 5;rotate_left;have O:=fe C hI.val E 11 6;rotate_left;have O:=fe C hI.val E 11 6;rotate_left;have O:=fe C hI.val E 11 6;rotate_left
  .have I:=hI.oJ
   rw[hd,hw2 11 nN nM]at I;go_simp;refine J (nz (some ⟨w.heap.size,0,none⟩)) _ _ rfl ⟨?_,OP rfl hI.val⟩;rw[ow,nS D (show 5≠10 by decide),nS D (show 11≠10 by decide),p9,hw2 11 nN nM];exact I.made
  .have d10:=E 10 nN nM
   have ai:a.tmps.getD 7 kH=vs 10:=C 7 nN;have aj:=fe C hI.val E 18 7;simp only[Ef]at aj;have I:=hI.oJ;rw[hd,E 5 nN nM,d10]at I;obtain⟨b,U,ak,hB⟩:=I.bk rfl;rw[if_neg nN]at hB;rw[U]at I;have ai:=ai.trans U;obtain⟨z0,aG,aH,aI,f1,f2⟩:=Jl hB;go_simp;rw[qQ];refine J kH _ _ rfl ⟨?_,uR hI.val⟩;rw[ow,nS D (show 5≠11 by decide),nS D (show 10≠11 by decide),oo vs _ (show 10≠11 by decide),E 5 nN nM,d10,U];exact I.put ak hB
  have aB:=fe C hI.val E 19 8;rotate_left;have aC:=fe C hI.val E 20 9;rotate_left
  all_goals
   try simp only[Ef]at*
   go_simp;exact J _ _ _ rfl ⟨hI.oJ,uR hI.val⟩
 .intro D vs w N hI
  have E:=hI.oJ;rw[N 5 nN]at E;rw[N 10 nN]at E;rw[N 11 nN]at E;have q:=Z vs w E;rw[oW hI.val N];dsimp+instances only[KY,cO,cL,cR,cB,Tryz.f62];exact qD
end
def Z9(g kc km kt ka ks sb r mb:Nat)(c:oK)(s:ByteArray)(p:Nat)(w0:jJ)(m:MS)(fb:Nat)(f:vS)(W:jJ):Prop:=KX g kc km kt ka ks sb r mb c s p w0 m W/\nO W fb #[ng nI f.id,ny f.name,ny f.body] rq
theorem Z9.up1{g kc km kt ka ks sb r mb:Nat}{c:oK}{s:ByteArray}{p:Nat}{w0:jJ}{m:MS}{fb:Nat}{f:vS}{W A:jJ}(hg:g<fb)(h:Z9 g kc km kt ka ks sb r mb c s p w0 m fb f W)(hl:fb<W.heap.size)(hb:jS (fb+1) W A):Z9 g kc km kt ka ks sb r mb c s p w0 m fb f A:=
 ⟨h.1.up1 (Nat.le_of_lt hg) hl hb,Below.blk hb h.2 nK⟩
noncomputable def KZ:List lX:=cO (cL (cR (cR (cR (cB Tryz.f62)))))
section
variable (g kc km kt ka ks sb r mb:Nat)(c:oK)(s:ByteArray)(p:Nat)(w0:jJ)(m:MS)(fb:Nat)(f:vS)(nm T:ByteArray)(li:Bool)(S:List (nL IL))(er:Nat)(Ps:Option l5->Nat->Prop)
def Ha:Nat->jP
 |0=> nz (some ⟨sb,0,none⟩)
 |1=> nz (some ⟨sb,0,none⟩)
 |2=> nz (some ⟨sb,0,none⟩)
 |3=> nz (some ⟨r,0,none⟩)
 |4=> nC #[ng nI f.id,ny f.name,ny f.body]
 |8=> ng nH (er)
 |11=> ng nH (er)
 |_=>kH
structure a8L(D:Nat->Bool)(vs:Nat->jP)(w:jJ):Prop where
 oJ:AU (Z9 g kc km kt ka ks sb r mb c s p w0 m fb f) (fb) (λov cv=>#[ny nm,ny T,nA li,nk ov S.length cv]) (er) (Z8) zq (Ps) (S) (D 5) (D 6) (D 7) (D 9) (D 10) (vs 5) (vs 6) (vs 7) (vs 9) w
 val:∀j,(j !=5&&j !=6&&j !=7&&j !=9)=true->D j=true->vs j=Ha sb r f er j
variable {g kc km kt ka ks sb r mb c s p w0 m fb f nm T li S er Ps}
theorem a3Y{id:Nat}{Q:Exit->Act->jJ->Prop}{af:jJ}(EU:a0.tmps.getD 4 kH=nz (some ⟨ks,0,none⟩))(EK:a0.tmps.getD 7 kH=nz (some ⟨fb,0,none⟩))(hdec:∀W,Z9 g kc km kt ka ks sb r mb c s p w0 m fb f W->jV jI 64 #[nz (some ⟨r,0,none⟩),nC #[ng nI f.id,ny f.name,ny f.body]] W λe V=>∃ov cv,Ps ov cv/\e=nE (nD #[nC #[ny nm,ny T,nA li,nk ov S.length cv],ng nH er])/\nV V (λc=>W.heap.size<=c) (nk ov S.length cv) S/\jS W.heap.size W V)(qO:∀W V,(Z9 g kc km kt ka ks sb r mb c s p w0 m fb f) W->fb<W.heap.size->jS (fb+1) W V->(Z9 g kc km kt ka ks sb r mb c s p w0 m fb f) V)(hsz:a0.tmps.size=41)(hI0:∀vs:Nat->jP,(λw=>AU (Z9 g kc km kt ka ks sb r mb c s p w0 m fb f) (fb) (λov cv=>#[ny nm,ny T,nA li,nk ov S.length cv]) (er) (Z8) zq (Ps) (S) false false false false false (vs 5) (vs 6) (vs 7) (vs 9) w) af.drew)(ag:∀(vs:Nat->jP) (w:jJ),AU (Z9 g kc km kt ka ks sb r mb c s p w0 m fb f) (fb) (λov cv=>#[ny nm,ny T,nA li,nk ov S.length cv]) (er) (Z8) zq (Ps) (S) true true true true true (vs 5) (vs 6) (vs 7) (vs 9) w->Q .normal {a0 with tmps:=(((((((((((a0.tmps.setIfInBounds 26 (nz (some ⟨sb,0,none⟩))).setIfInBounds 27 (nz (some ⟨sb,0,none⟩))).setIfInBounds 28 (nz (some ⟨sb,0,none⟩))).setIfInBounds 29 (nz (some ⟨r,0,none⟩))).setIfInBounds 30 (nC #[ng nI f.id,ny f.name,ny f.body])).setIfInBounds 31 (vs 5)).setIfInBounds 25 (vs 6)).setIfInBounds 32 (vs 7)).setIfInBounds 33 (ng nH (er))).setIfInBounds 10 (vs 9)).setIfInBounds 9 (ng nH (er)))} w):
  (lg id KZ.toArray true).wp jI Q a0 af:=by
 refine og 12 41 (a8L g kc km kt ka ks sb r mb c s p w0 m fb f nm T li S er Ps) nM hsz nM (.inl rfl) nM ?_ ?_ ?_;.exact qF
 .refine rV λA av=> ?_
  clear hI0 ag hsz;replace EU:=jH EU;replace EK:=jH EK;replace hdec:=jH hdec;replace qO:=jH qO;dsimp+instances only[KZ,cO,cL,cR,cB,Tryz.f62];simp only[ky,kQ,rz];refine⟨?_,?_,?_,?_,?_,?_,?_,?_,?_,?_,?_,?_,trivial⟩<;>(intro D vs a w K hI hd C hw2 E O;subst av;dsimp+instances only[KZ,cO,cL,cR,cB,Tryz.f62]);have e4:=(E 4 nN).trans EU.out;have hB:=hI.oJ.bs.1.sv;have c0:=hB.c0;clear hB;rotate_left;have aF:=fe E hI.val C 26 0;rotate_left;have aG:=fe E hI.val C 27 1;rotate_left;have ah:=fe E hI.val C 28 2;simp only[Ha]at ah;have c0:=hI.oJ.bs.1.se.1;rotate_left;have aJ:=(E 7 nN).trans EK.out;have hB:=hI.oJ.bs.2;obtain⟨c0,c1,c2⟩:=hB.a3;clear hB;rotate_left
  .have hdec:=hdec.out
   have qO:=qO.out;have ai:=fe E hI.val C 29 3;have aj:=fe E hI.val C 30 4;simp only[Ha]at ai aj;have Z:D 7=false:=by cases h:D 7 with|false=>rfl|true=>exact absurd (hI.oJ.dm h) (by rw[hw2 6 nN nM];decide)
   have I:=hI.oJ;rw[hd,hw2 6 nN nM,Z,hw2 10 nN nM]at I;have ax:=hdec w I.bs;clear hdec;rw[if_pos (by rfl)];go_simp;refine ax.mono ?_;rintro e aK ⟨ov,cv,hp,rfl,hs,hb⟩;refine O _ _ _ rfl ⟨?_,OP rfl hI.val⟩;rw[ow,nS D (show 6≠5 by decide),nS D (show 7≠5 by decide),nS D (show 9≠5 by decide),nS D (show 10≠5 by decide),p9,oo vs _ (show 6≠5 by decide),oo vs _ (show 7≠5 by decide),oo vs _ (show 9≠5 by decide)];rw[hw2 6 nN nM,Z,hw2 10 nN nM];exact I.call qO hb hp hs
  .have d5:=C 5 nN nM
   have aH:a.tmps.getD 31 kH=vs 5:=E 31 nN;have I:=hI.oJ;rw[hd,d5,hw2 7 nN nM,hw2 10 nN nM]at I;go_simp;refine O _ _ _ rfl ⟨?_,OP rfl hI.val⟩;rw[ow,nS D (show 5≠6 by decide),nS D (show 7≠6 by decide),nS D (show 9≠6 by decide),nS D (show 10≠6 by decide),p9,oo vs _ (show 5≠6 by decide),oo vs _ (show 7≠6 by decide),oo vs _ (show 9≠6 by decide)];rw[d5,hw2 7 nN nM,hw2 10 nN nM];exact I.mv
  .have d6:=C 6 nN nM
   have N:a.tmps.getD 25 kH=vs 6:=E 25 nN;have I:=hI.oJ;have J:D 5=true:=hI.oJ.done (by rw[d6]);rw[hd,J,d6,hw2 10 nN nM]at I;obtain⟨ov,cv,ev,Y⟩:=I.ext;try dsimp only at ev Y
   have N:=N.trans ev;go_simp;refine O _ _ _ rfl ⟨?_,OP rfl hI.val⟩;rw[ow,nS D (show 5≠7 by decide),nS D (show 6≠7 by decide),nS D (show 9≠7 by decide),nS D (show 10≠7 by decide),p9,oo vs _ (show 5≠7 by decide),oo vs _ (show 6≠7 by decide),oo vs _ (show 9≠7 by decide)];rw[J,d6,hw2 10 nN nM];exact Y
  .have d6:=C 6 nN nM
   have N:a.tmps.getD 25 kH=vs 6:=E 25 nN;have J:D 5=true:=hI.oJ.done (by rw[d6]);have I:=hI.oJ;rw[J,d6]at I;obtain⟨ov,cv,ev⟩:=I.tup;try dsimp only at ev
   have N:=N.trans ev;go_simp;exact O (Ha sb r f er 8) _ _ rfl ⟨hI.oJ,uR hI.val⟩
  .have qO:=qO.out
   have I:=hI.oJ;rw[hd,hw2 10 nN nM]at I;go_simp;refine O (nz (some ⟨w.heap.size,0,none⟩)) _ _ rfl ⟨?_,OP rfl hI.val⟩;rw[ow,nS D (show 5≠9 by decide),nS D (show 6≠9 by decide),nS D (show 7≠9 by decide),nS D (show 10≠9 by decide),p9,oo vs _ (show 5≠9 by decide),oo vs _ (show 6≠9 by decide),oo vs _ (show 7≠9 by decide)];rw[hw2 10 nN nM];exact I.made qO
  .have qO:=qO.out
   have d9:=C 9 nN nM;have aa:a.tmps.getD 10 kH=vs 9:=E 10 nN;have ak:=C 7 nN nM;have ae:a.tmps.getD 32 kH=vs 7:=E 32 nN;have J:D 5=true:=hI.oJ.done (C 6 nN nM);have I:=hI.oJ;rw[hd,J,C 6 nN nM,ak,d9]at I;obtain⟨ov,cv,b,au,ay,hB,Y⟩:=I.st qO;try dsimp only at au Y
   have ae:=ae.trans au;have aa:=aa.trans ay;obtain⟨⟨z0,aL,aM,z3⟩,aN,f1,f2,f3⟩:=oF hB;go_simp;rw[tJ];refine O kH _ _ rfl ⟨?_,uR hI.val⟩;rw[ow,nS D (show 5≠10 by decide),nS D (show 6≠10 by decide),nS D (show 7≠10 by decide),nS D (show 9≠10 by decide),oo vs _ (show 5≠10 by decide),oo vs _ (show 6≠10 by decide),oo vs _ (show 7≠10 by decide),oo vs _ (show 9≠10 by decide)];rw[J,C 6 nN nM,ak,d9];obtain⟨az,aA,aB,aC,aD⟩:=yR _ _ _ _ _ _;exact Y _ az aA aB aC aD (rD hB)
  have aI:=fe E hI.val C 33 8;rotate_left
  all_goals
   try simp only[Ha]at*
   go_simp;exact O _ _ _ rfl ⟨hI.oJ,uR hI.val⟩
 .intro D vs w U hI
  have C:=hI.oJ;rw[U 5 nN]at C;rw[U 6 nN]at C;rw[U 7 nN]at C;rw[U 9 nN]at C;rw[U 10 nN]at C;have q:=ag vs w C;rw[oW hI.val U];dsimp+instances only[KZ,cO,cL,cR,cB,Tryz.f62];exact qD
end
theorem UZ{s t:ByteArray}(h:Co s=some t):t.size<=s.size:=by
 unfold Co at h;split at h
 .cases h
  have A:=Ex s.data.toList;have C:s.data.toList.length=s.size:=nR;have E:(⟨(lG s.data.toList 0).toArray⟩:ByteArray).size=(lG s.data.toList 0).length:=mP;omega
 .cases h
def a6g(A:Except Nat IU)(n:Nat)(M:Option (Nat×MS)):Except Nat (IU×Nat)×Option (Nat×MS):=match A with
 | .error er=>(.error er,M)
 | .ok m=>(.ok (m,n),M)
def a2z(c:oK)(rows:List Row)(A:Except Nat (vS×Nat)×Option (Nat×MS)):Except Nat (IU×Nat)×Option (Nat×MS):=match A with
 |(.error er,m2)=>(.error er,m2)
 |(.ok y,m2)=>a6g (KJ c rows y.1) y.2 m2
theorem a1x(c:oK)(rows:List Row)(s:ByteArray)(mt:Option (Nat×MS)):uy c rows s mt=a2z c rows (qN c s mt):=rfl
theorem Yg{c:oK}{s:ByteArray}{mt:Option (Nat×MS)}{y:vS×Nat}(h:(qN c s mt).1=.ok y):y.1.name.size<=j5/\y.1.id<18446744073709551616:=by
 have hp:∀{most:Int},(o9 most s).e=0->(o9 most s).id<18446744073709551616:=by
  intro most h;unfold o9 at*;split
  .rename_i h0
   rw[if_pos h0]at h;split;.show(0:Nat)<_;decide
   .rename_i C
    rw[if_neg C]at h;dsimp only at*;split
    .rename_i A
     dsimp only;generalize E:om _ 0 0=q at*;obtain⟨a,b,e⟩:=q;dsimp only at A⊢;subst A;exact(tQ E).2.1
    .show(0:Nat)<_;decide
  .show(0:Nat)<_;decide
 unfold qN at h;split at h
 .dsimp only at h
  unfold uS at h;split at h
  .cases h
   refine⟨?_,by show(0:Nat)<_;decide⟩;show(xz s).size<=j5;unfold xz;cases hg:Co (s.extract 4 16)with
   |none=>decide
   |some t=>
    have:=UZ hg;simp only[kz]at this;show t.size<=j5;unfold j5;omega
  .cases h
 .split at h
  .dsimp only at h
   unfold wU at h;split at h;.cases h
   .rename_i h0
    cases h;exact⟨kI _,hp (by simpa using h0)⟩
  .unfold vN at h
   split at h;.cases h
   .rename_i h0
    split at h;.cases h
    .cases h
     exact⟨kI _,hp (by simpa using h0)⟩
theorem qp.lt3{r bn bi:Nat}{c:oK}{L:List oV}{w:jJ}(h:qp r bn bi c L w):r<w.heap.size/\bn<w.heap.size/\bi<w.heap.size:=⟨h.rg.lt,h.nm.lt,h.id.lt⟩
theorem K3{g kc km kt ka ks sb r mb:Nat}{c:oK}{s:ByteArray}{p:Nat}{w0:jJ}{m:MS}{W:jJ}{a b e d:jP}(h:KX g kc km kt ka ks sb r mb c s p w0 m W):
  pJ (yQ W g a b e d) (some (mb,m))/\nO (yQ W g a b e d) ka #[ng nH p] InT/\oN ka mb w0 (yQ W g a b e d)/\∀(v:jP)(S:List (nL IL)),(nV W (λc=>g<c) v S)->nV (yQ W g a b e d) (λc=>w0.heap.size<=c) v S:=by
 obtain⟨A,C,E,I,J⟩:=yR W g a b e d;have l:=h.lt;have q:∀{n:Nat}{cs:Array jP}{t:ko},nO W n cs t->n≠g->nO (yQ W g a b e d) n cs t:=λhB hn=>by unfold nO at*;rw[A _ hn];exact hB
 refine⟨⟨q h.mm.1 nK,h.mm.2⟩,q h.at_ nK,⟨E.trans h.up.os,I.trans h.up.tape,J.trans h.up.output,by rw[C];exact h.up.size,λk hk N O=>(A k nK).trans (h.up.block k hk N O)⟩,λv S hs=> ?_⟩;exact Shape.nX.keep hs (mV C.symm) (λc _ hc=>by show w0.heap.size<=c;have:g<c:=hc;omega) λc _ hc=>A c (by have:g<c:=hc;omega)
structure NxE(kc km kt ka ks sb r mb:Nat)(c:oK)(s:ByteArray)(p:Nat)(m:MS)(W:jJ):Prop where
 cf:nO W kc #[ng nH c.fmt,ng nJ c.mag,ng nH c.pO,ng nH c.qj,ng nH c.dep,ng nH c.oZ] tV
 mv:nO W km #[nz (some ⟨mb,0,none⟩)] MtT
 tx:nO W kt #[ny s] OO
 at_:nO W ka #[ng nH p] InT
 sv:nO W ks #[nz (some ⟨sb,0,none⟩)] Qq
 se:W.cell? ⟨sb,0,none⟩=some (nz (some ⟨r,0,none⟩))/\sb<W.heap.size
 mm:pJ W (some (mb,m))
 ne:kc≠mb/\km≠mb/\kt≠mb/\ka≠mb/\ks≠mb/\sb≠mb/\kc≠ka/\km≠ka/\kt≠ka/\ks≠ka/\sb≠ka
def rQ(R:Except Nat (IU×Nat)):Except Nat IU:=match R with| .error er=> .error er| .ok y=> .ok y.1
def goR(p:Nat)(R:Except Nat (IU×Nat)):Nat:=match R with| .error _=>p| .ok y=>p+y.2
def Hd(ka mb p:Nat)(R:Except Nat (IU×Nat)×Option (Nat×MS))(w:jJ)(e:Ending)(w':jJ):Prop:=
 ∃ov cv,((∃er,rQ R.1=.error er)->ov=none/\cv=0)/\e=nE (nD #[nC #[ny (mN (rQ R.1)),ny (mT (rQ R.1)),nA (mL (rQ R.1)),nk ov (mS (rQ R.1)).length cv],ng nH (mE (rQ R.1):Nat)])/\
  nV w' (λc=>w.heap.size<=c) (nk ov (mS (rQ R.1)).length cv) (mS (rQ R.1))/\pJ w' R.2/\nO w' ka #[ng nH (goR p R.1)] InT/\oN ka mb w w'
theorem KX.atp{g kc km kt ka ks sb r mb:Nat}{c:oK}{s:ByteArray}{p:Nat}{w0:jJ}{m:MS}{W:jJ}(h:KX g kc km kt ka ks sb r mb c s p w0 m W)(q:Nat):KX g kc km kt ka ks sb r mb c s q w0 m (W.setCell ⟨ka,0,none⟩ (ng nH q)):=by
 have l:=h.lt;have n:=h.ne;have e:=h.se;have o:∀{b:Nat}{cs:Array jP}{t:ko},nO W b cs t->b≠ka->nO (W.setCell ⟨ka,0,none⟩ (ng nH q)) b cs t:=λhB hn=>hB.setOther (a:=⟨ka,0,none⟩) hn _
 refine⟨o h.cf nK,o h.mv nK,o h.tx nK,h.at_.set 0 _,o h.sv nK,⟨?_,e.2⟩,⟨o h.mm.1 nK,h.mm.2⟩,o h.rs nK,h.up.Bq 0 _,h.ne,h.lt⟩;have hb:=j6 W ⟨ka,0,none⟩ (ng nH q) sb (by show sb≠ka;omega);simp only[mW,hb];exact e.1
theorem Yh(kc km kt ka ks sb r mb bn bi:Nat)(c:oK)(L:List oV)(s:ByteArray)(p:Nat)(m:MS)(w:jJ)(h:NxE kc km kt ka ks sb r mb c s p m w)(hc:oM c=true)(ag:c.wf)(hp:p<=s.size/\s.size<=100000)(ah:∀W,oN ka mb w W->qp r bn bi c L W/\qo W/\xm W):
  jV jI 62 #[nz (some ⟨kc,0,none⟩),nz (some ⟨km,0,none⟩),nz (some ⟨kt,0,none⟩),nz (some ⟨ka,0,none⟩),nz (some ⟨ks,0,none⟩)] w (Hd ka mb p (uy c (L.map λx=>x.r) (s.extract p s.size) (some (mb,m))) w):=by
 obtain⟨g,hg⟩:=nT w.heap.size;have ai:(s.extract p s.size).size<=100000:=by simp only[kz];omega
 have bq:(s.extract p s.size).size<=j5:=kg ai nN;have hrow:=zJ c (s.extract p s.size) (some (mb,m));obtain⟨aa,N⟩:=nT (qN c (s.extract p s.size) (some (mb,m)));have hok:∀y,aa.1=.ok y->0<y.2/\y.2<=(s.extract p s.size).size/\y.1.body.size<=100000/\y.1.name.size<=j5/\y.1.id<18446744073709551616:=λy V=>by
  rw[<-N]at V;have U:=Nn hc ai V;have aW:=Yg V;exact⟨U.1,U.2.1,U.2.2,aW.1,aW.2⟩
 have bu:∀er,aa.1=.error er->1<=er:=λer he=>DZ c (s.extract p s.size) (some (mb,m)) er (N▸he)
 have bz:∀W,pJ W (some (mb,m))->jV jI 63 #[nC #[ng nH c.fmt,ng nJ c.mag,ng nH c.pO,ng nH c.qj,ng nH c.dep,ng nH c.oZ],nz (some ⟨mb,0,none⟩),ny (s.extract p s.size)] W λe w'=>W.grownBy w' (some mb)/\pJ w' aa.2/\e=nE (UD aa.1).v:=λW dD=>by
  have:=UE c (s.extract p s.size) (some (mb,m)) W bq hc ag dD;rw[N]at this;exact this
 have aj:uy c (L.map λx=>x.r) (s.extract p s.size) (some (mb,m))=a2z c (L.map λx=>x.r) aa:=by rw[a1x,N]
 rw[N]at hrow;obtain⟨bY,bZ⟩:=aa;obtain⟨m2,rfl⟩:∃m2,bZ=some (mb,m2):=by
  cases bZ with
  |none=>cases hrow
  |some q=>obtain⟨aX,ak⟩:=q;cases hrow;exact⟨ak,rfl⟩
 dsimp only at*;have bA:jW (∀W,w.alloc (nG #[ny ⟨#[]⟩,ny ⟨#[]⟩,nA false,nk none 0 0] zq)=W->KX g kc km kt ka ks sb r mb c s p w m W):=jH λW bK=>by
  subst bK;have a:=(jT w.heap.size w).alloc (jL _) (nG Z8 zq);have q:∀{n:Nat}{cs:Array jP}{t:ko},nO w n cs t->nO (w.alloc (nG Z8 zq)) n cs t:=λhB=>Below.blk a hB hB.lt
  have lt:∀{n:Nat}{cs:Array jP}{t:ko},nO w n cs t->n<g:=λhB=>hg▸hB.lt
  exact⟨q h.cf,q h.mv,q h.tx,q h.at_,q h.sv,⟨(a.cell (p:=⟨sb,0,none⟩) h.se.2).trans h.se.1,hg▸h.se.2⟩,⟨q h.mm.1,h.mm.2⟩,hg▸nO.new w _ _,oN.of a,h.ne,⟨lt h.cf,lt h.mv,lt h.tx,lt h.at_,lt h.sv,lt h.mm.1,hg⟩⟩
 have au:=jH ah;have bL:=jH (jU hc ag);have bM:=jH bz;have av:=jH hok;have ax:=jH bu;obtain⟨bN,bB⟩:=nT (uy c (L.map λx=>x.r) (s.extract p s.size) (some (mb,m)));rw[bB]at aj⊢;have Y:=jH aj;obtain⟨dE,bO⟩:=nT (Hd ka mb p bN w);have bP:=jH bO;rw[bO];clear h hc ag ah ai bq hrow N hok bu bz aj bB bO;obtain⟨y,V⟩:=nT (UD bY);rw[V]at bM;have aY:=jH V;clear V;go_in;go_upto_region 1 with fail;have bC:=bA.out _ rfl;generalize w.alloc _=w1 at*;have bD:=jH bC;clear bA bC;refine a3X (g:=g) (kc:=kc) (km:=km) (kt:=kt) (ka:=ka) (ks:=ks) (sb:=sb) (r:=r) (mb:=mb) (c:=c) (s:=s) (p:=p) (w0:=w) (m:=m) (m2:=m2) (y:=y) (ht0:=by rfl) (ht1:=by rfl) (ht2:=by rfl) (ht3:=by rfl) (hsz:=by rfl) (hp:=hp) (hnext:=bM.out) (hI0:=λ_=>⟨bD.drew,(λh=>by cases h)⟩) ?_;intro vs W hF;obtain⟨fb,bE,cz,hB⟩:=hF.bk rfl;have ay:=hF.bs;simp only[if_true]at hB ay;rw[bE];have az:=jH ay;have aZ:=jH hB;simp only[jK,jQ,jR];clear hF hB ay bE bD bM;cases bY with
 |error er=>
  obtain rfl:y=⟨0,⟨#[]⟩,⟨#[]⟩,0,er⟩:=aY.symm;have cK:=ax.out er rfl;have t0:((er:Int) !=0)=true:=nQ;have bg:jW (bN=(.error er,some (mb,m2))):=Y;obtain⟨⟨bQ,bR,y2,bS⟩,bT,aX,ak,bU⟩:=oF az.rs;dsimp only;clear Y av ax aY cK;go_wp2_with fail;rw[tJ];obtain⟨⟨aA,aB,aC,aD⟩,_⟩:=oF (rD (a:=ny ⟨#[]⟩) (b:=ny ⟨#[]⟩) (c:=nA false) (d:=nk none 0 0) az.rs);have A:=K3 (a:=ny ⟨#[]⟩) (b:=ny ⟨#[]⟩) (e:=nA false) (d:=nk none 0 0) az.out;refine j4 (v:=nD #[nC #[ny ⟨#[]⟩,ny ⟨#[]⟩,nA false,nk none 0 0],ng nH (er:Nat)]) (by simp[kK,Tryz.results62,go_sem,aA,aB,aC,aD]) rfl ?_;rw[<-bP.out,bg.out];exact⟨none,0,λ_=>⟨rfl,rfl⟩,rfl,vQ _ _,A.1,A.2.1,A.2.2.1⟩
 |ok z=>
  obtain⟨⟨ae,fn,O⟩,n⟩:=z;obtain rfl:y=⟨ae,fn,O,n,0⟩:=aY.symm;obtain⟨aF,aG,aH,I,hid⟩:=av.out _ rfl;dsimp only at aF aG aH I hid⊢;have bF:p+n<=s.size:=by simp only[kz]at aG;omega
  obtain⟨C,Z⟩:∃C,KJ c (L.map λx=>x.r) ⟨ae,fn,O⟩=C:=⟨_,rfl⟩;have bg:jW (bN=a6g C n (some (mb,m2))):=jH (by rw[<-Z];exact Y);have aI:∀er,C=.error er->er≠0:=λer he=>by
   rw[<-Z]at he;unfold KJ at he;split at he;.cases he;decide
   .split at he
    .rename_i e1 U
     have:=G9 U;cases he;split<;>omega
    .cases he
  have bV:=jH aI;have hdec:∀W,Z9 g kc km kt ka ks sb r mb c s p w m2 fb ⟨ae,fn,O⟩ W->jV jI 64 #[nz (some ⟨r,0,none⟩),nC #[ng nI ae,ny fn,ny O]] W (a1v C W):=λW bK=>by
   obtain⟨U,aW,dF⟩:=au.out W bK.1.up;have hb:=U.lt3;rw[<-Z];exact Qp r bn bi c L ⟨ae,fn,O⟩ W U bL.1 bL.2 aW dF I hid aH hb
  have Q:=jH hdec;clear hdec aI Z Y av ax aY aH I hid aG bL au;obtain⟨nm,I⟩:=nT (mN C);obtain⟨T,aJ⟩:=nT (mT C);obtain⟨li,aK⟩:=nT (mL C);obtain⟨S,bW⟩:=nT (mS C);obtain⟨er,aL⟩:=nT (mE C);unfold a1v at Q;rw[I,aJ,aK,bW,aL]at Q;have aM:=jH (jU I (jU aJ (jU aK (jU bW aL))));clear I aJ aK bW aL;go_upto_region 4 with fail;refine a3Y (g:=g) (kc:=kc) (km:=km) (kt:=kt) (ka:=ka) (ks:=ks) (sb:=sb) (r:=r) (mb:=mb) (c:=c) (s:=s) (p:=p) (w0:=w) (m:=m2) (fb:=fb) (f:=⟨ae,fn,O⟩) (nm:=nm) (T:=T) (li:=li) (S:=S) (er:=er) (Ps:=λov cv=>(∃er,C=.error er)->ov=none/\cv=0) (EU:=by rfl) (EK:=by rfl) (hsz:=by rfl) (hdec:=Q.out) (qO:=λW dH h=>h.up1 cz) (hI0:=λ_=>AU.ini ⟨az.drew,Below.blk (oz _) aZ aZ.lt⟩ aZ.lt) ?_;intro vs af aN;obtain⟨ov,cv,b,bG,e5,cZ,df,dh,bH,aO,aP⟩:=AU.fin aN;rw[e5,cZ,df,dh];have E:=jH aN.bs.1;have J:=jH (jU bG (jU bH aP));obtain⟨⟨b0,b1,dw,b3⟩,_⟩:=oF aO;have dx:=jH aO;simp only[jK,jQ,jR];clear aN bG bH aO aP e5 cZ df dh az aZ Q;obtain⟨sn,aQ⟩:=nT S.length;rw[aQ]at b3 dx J⊢;have bI:=jH aQ;clear aQ;obtain⟨c3,f3⟩:=E.at_.b1;obtain⟨⟨bQ,bR,y2,bS⟩,bT,aX,ak,bU⟩:=oF E.rs;by_cases h0:er=0
  .subst h0
   obtain⟨mm,rfl⟩:∃mm,C=.ok mm:=by
    cases C with
    |error e1=>exact absurd aM.2.2.2.2 (bV e1 rfl)
    |ok mm=>exact⟨mm,rfl⟩
   have dz:IntKind.i64.wrap ((p:Int)+(n:Int))=((p+n:Nat):Int):=by rw[IntWalk.i64_in _ nK];simp
   obtain⟨aR,aS⟩:=nT (p+n);rw[aS]at dz;have dA:=jH aS;clear aS aF bF;go_upto_region 7 with fail;have bJ:=E.atp aR;have aT:∀i,(af.setCell ⟨ka,0,none⟩ (ng nH (aR:Nat))).cell? ⟨b,i,none⟩=af.cell? ⟨b,i,none⟩:=λi=>by
    have hb:=j6 af ⟨ka,0,none⟩ (ng nH (aR:Nat)) b (by have:=J.2.1;have:=E.lt;show b≠ka;omega);simp only[mW,hb]
   have dI:=(aT 0).trans b0;have dJ:=(aT 1).trans b1;have dK:=(aT 2).trans dw;have dL:=(aT 3).trans b3;have dB:jW (nV (af.setCell ⟨ka,0,none⟩ (ng nH (aR:Nat))) (λc=>g<c) (nk ov sn cv) S):=jH (Shape.nX.keep J.2.2 (by simp[kC]) (λc _ hc=>by have:=hc.1;omega) λc _ hc=>j6 af ⟨ka,0,none⟩ (ng nH (aR:Nat)) c (by have:=hc.1;have:=E.lt;show c≠ka;omega));generalize af.setCell _ _=dM at*;have aU:=jH bJ;clear bJ aT b0 b1 dw b3 bQ bR y2 bS bT aX ak bU c3 f3 E;obtain⟨⟨bQ,bR,y2,bS⟩,bT,aX,ak,bU⟩:=oF aU.rs;go_wp2_with fail;rw[tJ];obtain⟨⟨aA,aB,aC,aD⟩,_⟩:=oF (rD (a:=ny nm) (b:=ny T) (c:=nA li) (d:=nk ov sn cv) aU.rs);have A:=K3 (a:=ny nm) (b:=ny T) (e:=nA li) (d:=nk ov sn cv) aU.out;refine j4 (v:=nD #[nC #[ny nm,ny T,nA li,nk ov sn cv],ng nH 0]) (by simp[kK,Tryz.results62,go_sem,aA,aB,aC,aD]) rfl ?_;obtain⟨bX,g2,g3,g4,_⟩:=aM.out;have hs:=A.2.2.2 _ _ dB.out;rw[<-bP.out,bg.out];have aV:=bI.out;subst bX g2 g3 g4 aV;exact⟨ov,cv,(λ⟨_,h⟩=>by cases h),rfl,hs,A.1,by show nO _ ka #[ng nH ((p+n:Nat):Int)] InT;rw[dA.out];exact A.2.1,A.2.2.1⟩
  .have t0:((er:Int)==0)=false:=nQ
   have dC:C=.error er:=by
    cases C with
    |error e1=>rw[<-aM.2.2.2.2];rfl
    |ok mm=>exact absurd aM.2.2.2.2.symm h0
   subst dC;have dG:=jH h0;clear h0 aF bF c3 f3;go_wp2_with fail;rw[tJ];obtain⟨⟨aA,aB,aC,aD⟩,_⟩:=oF (rD (a:=ny nm) (b:=ny T) (c:=nA li) (d:=nk ov sn cv) E.rs);have A:=K3 (a:=ny nm) (b:=ny T) (e:=nA li) (d:=nk ov sn cv) E.out;refine j4 (v:=nD #[nC #[ny nm,ny T,nA li,nk ov sn cv],ng nH (er:Nat)]) (by simp[kK,Tryz.results62,go_sem,aA,aB,aC,aD]) rfl ?_;obtain⟨bX,g2,g3,g4,_⟩:=aM.out;have hs:=A.2.2.2 _ _ (Shape.nX.keep J.2.2 (jL _) (λc _ hc=>by have:=hc.1;omega) λ_ _ _=>rfl);rw[<-bP.out,bg.out];have aV:=bI.out;subst bX g2 g3 g4 aV;exact⟨ov,cv,λ_=>J.1 ⟨er,rfl⟩,rfl,hs,A.1,A.2.1,A.2.2.1⟩
theorem a3Z:(Tryz.prog.info? wN).map (λi=>(i.zero,i.size,i.bytes))=some (some (ng .u8 0),1,1):=nM
theorem NP(B:Nat)(v:jP)(l:List UInt8)(w:jJ)(h:oD w B wN v l)(hl:l.length<=100000)(hB:B<=w.heap.size):
  jV jI 94 #[v] w λe w'=>∃v',e=nE v'/\oD w' B wN v' l/\jS w.heap.size w w'/\(∃oa cap,v'=nk oa l.length cap):=by
 have av:∀(w:jJ)(a:Option l5)(n c Q U:Nat),(binOp .eql VJ (.slice a n c) (.slice none Q U)).run jI w=.ok (.bool a.isNone) w:=λw a n c Q U=>Lib.run_eql_slice_nil w _ _ a n c Q U l8
 obtain⟨ai,hi,Z,aa,ae⟩:=info_parts a3Z;rcases h.2 with⟨rfl,h0⟩|⟨g,cap,ax,rfl,hb,hg,V,aj,hsz,htake⟩
 .have:l=[]:=mf.1 h0
  subst this;clear h h0;go_in;go_wp2_with fail;go_returns;exact⟨_,rfl,oD.nil _ _ _,jT _ _,none,0,rfl⟩
 .have C:=λj (I:j<l.length)=>World.ownsRow.cells h (g:=g) rfl j (ng .u8 (l[j].toNat:Int)) (by simp[nU,jX I])
  have ak:=jH C;have af:=jH hl;have ag:=jH hB;clear h hb hg V aj hsz htake C hl hB;go_in;go_wp2_with (at_builtin;refine wpList_append_own _ rfl _ _ VJ rfl w.heap.size wN ai (.int .u8 0) 1 1 l8 hi Z aa ae rfl nN _ _ _ rfl (World.ownsRow_made w #[] 0 (jL _) (kI _) rfl) ⟨g,0,none⟩ l.length cap (nU l) rfl ?qc1 ?qc2 ?qc3 ?qc4 ?qc5 ?qc6 ?_);case qc1=>simp
  case qc2=>
   intro j u I;have O:j<l.length:=by
    have:=(ll.1 I).1;simpa using this
   rw[Addr.add_lit];refine Lib.cell?_alloc_some _ ?_;have:=ak.out j O;rw[Addr.add_lit]at this;rw[this];have e:(nU l)[j]? =some (ng .u8 (l[j].toNat:Int)):=by simp[nU,jX O]
   rw[e]at I;exact I
  case qc3=>exact rM l
  case qc4=>have:=af.out;unfold j5;omega
  case qc5=>have:=af.out;omega
  case qc6=>simp
  intro v' w1 Y N au;go_wp2_with fail;go_returns;have A:oD w1 w.heap.size wN v' l:=Y;refine⟨v',rfl,?_,((jT _ w).alloc (jL _) _).grown N nR (by intro k hk;simp[kJ]at hk;omega),?_⟩
  .refine⟨A.1,?_⟩
   rcases A.2 with h|⟨ah,E,J,e1,e2,r⟩
   .exact .inl h
   .exact .inr ⟨ah,E,J,e1,kg ag e2,r⟩
  .rcases A.2 with⟨rfl,h0⟩|⟨ah,E,J,e1,_⟩
   .exact⟨none,0,by rw[h0]⟩
   .exact⟨_,E,e1⟩
theorem NQ{w:jJ}{B g cap:Nat}{A:Array jP}{l:List UInt8}{n:Nat}(hb:B<=g)(hg:w.heap[g]? =some (nG A wN (0,0)))(E:l.length<=cap)(I:cap<=j5)(hsz:A.size=cap)(hn:n<=l.length):
  oD (w.setRow g (A.toList.take 0++(nU (l.drop n)++A.toList.drop (0+(nU (l.drop n)).length))).toArray) B wN (nk (some ⟨g,0,none⟩) (l.length - n) cap) (l.drop n)/\w.grownBy (w.setRow g (A.toList.take 0++(nU (l.drop n)++A.toList.drop (0+(nU (l.drop n)).length))).toArray) (some g):=by
 have hlen:(l.drop n).length=l.length - n:=kS;refine⟨⟨nR,.inr ⟨g,cap,_,by rw[hlen],hb,setRow_heap w g A _ wN _ hg,nK,I,?_,?_⟩⟩,⟨rfl,rfl,rfl,by simp[World.setRow],λi _ C=>setRow_other w g i _ (λe=>C (by rw[e]))⟩⟩;.simp[hsz];omega
 .simp
theorem Yi{p:Prop}(h:p:=by
 go_in;go_wp2_with (with_reducible refine wpList_copy_nothing rfl (.tmp 7) (.tmp 10) VJ VJ rfl wN l8 nM _ _ _ _ _ _ rfl rfl (by simp[Nat.min_def]) ?_)
 .refine(CC.out _ _ HOWN.out HB.out.1).mono ?_
  rintro e w2 ⟨v',rfl,ho,hb2,hf⟩;go_wp2_with fail;go_returns;exact⟨v',rfl,ho,o5 hb2,hf⟩
 .go_returns
  exact⟨_,rfl,HOWN.out,o5 (jT _ _),_,_,rfl⟩):p:=h
theorem Yj(B:Nat)(v:jP)(l:List UInt8)(n:Nat)(w:jJ)(h:oD w B wN v l)(hn:n<=l.length)(hl:l.length<=100000)(hB:B<=w.heap.size):
  jV jI 66 #[v,ng nH n] w λe w'=>∃v',e=nE v'/\oD w' B wN v' (l.drop n)/\w.grownBy w' v.ownBlock/\(∃oa cap,v'=nk oa (l.drop n).length cap):=by
 rcases h.2 with⟨rfl,h0⟩|⟨g,cap,O,rfl,hb,hg,E,af,hsz,htake⟩
 .have:l=[]:=mf.1 h0
  subst this;obtain rfl:n=0:=by simpa using hn
  clear h h0 hn;go_in;go_wp2_with (with_reducible refine wpList_copy_nothing rfl (.tmp 7) (.tmp 10) VJ VJ rfl wN l8 nM none none 0 0 0 0 rfl rfl rfl ?_);go_returns;exact⟨_,rfl,oD.nil _ _ _,⟨rfl,rfl,rfl,jL _,λ_ _ _=>rfl⟩,none,0,rfl⟩
 .have hlen:(l.drop n).length=l.length - n:=kS
  have A:=jH (NQ (n:=n) hb hg E af (by simpa using hsz) hn);have CC:=jH (λ(W:jJ) (v':jP) (h:oD W B wN v' (l.drop n)) (hB:B<=W.heap.size)=>NP B v' (l.drop n) W h nK hB);have au:=jH hlen;have HB:=jH (jU hB (jU hb (ku.1 hg).1));obtain⟨N,Y⟩:=nT l.length;have ay:cap<=9223372036854775807:=by unfold j5 at af;omega
  have C:=λj (Z:j<l.length)=>World.ownsRow.cells h (g:=g) rfl j (ng .u8 (l[j].toNat:Int)) (by simp[nU,jX Z])
  by_cases ah:n=l.length
  .
   subst ah;have hd:l.drop l.length=[]:=List.drop_length;have HOWN:jW (oD w B wN (nk (some ⟨g,0,none⟩) 0 cap) []):=jH ⟨rfl,.inr ⟨g,cap,O,rfl,hb,hg,kI _,af,hsz,by simp[nU]⟩⟩;rw[hd]at CC⊢;clear A C h hg htake hsz hb;rw[Y]at E hl⊢;have fin:∀{w':jJ},True:=λ{_}=>trivial
   by_cases hc:N=cap
   .subst hc
    exact Yi
   .have az:N<cap:=nK
    have aA:((N:Int)==(cap:Int))=false:=nQ;exact Yi
  .have ai:n<l.length:=nK
   have aj:=kS (i:=n) (l:=l);have Q:∀j v,(nU (l.drop n))[j]? =some v->w.cell? ((⟨g,n,none⟩:l5).add j)=some v:=λj v Z=>by
    have aB:j<(l.drop n).length:=by
     have:=(ll.1 Z).1;simpa using this
    have I:=C (n+j) nK;rw[Addr.add_lit]at I⊢;rw[Nat.zero_add]at I;rw[I,<-Z];simp[nU,jX (show n+j<l.length by omega)]
   obtain⟨M,ag⟩:=nT (l.length - n);have J:(nU (l.drop n)).length=M:=by rw[qW,hlen,ag]
   have U:(nU (l.drop n)).length=Nat.min (N - n) N:=by rw[J,<-ag,Y];simp[Nat.min_def]
   have V:0+(nU (l.drop n)).length<=O.size:=by rw[J];omega
   have aa:=jH (jU hg (jU Q (jU U V)));rw[<-hlen]at A;simp only[kQ,List.nil_append,Nat.zero_add,qW]at A;have av:(l.drop n).length<=cap:=nK;have ax:(l.drop n).length<=100000:=nK;have aC:jW (M<=N/\0<M):=jH nK;have aD:M<=cap:=nK;have aF:M<=100000:=nK;have aG:n<cap:=nK;have aH:n<=N:=nK;clear C Q U V J aj hlen au ai h hg htake hsz hb ag;rw[Y]at E hl⊢;clear Y hn ah;generalize aI:l.drop n=ak at*;go_in;go_wp2_with (with_reducible refine wpList_copy_own rfl (.tmp 7) (.tmp 10) VJ VJ rfl wN l8 nM g 0 N cap ⟨g,n,none⟩ (N - n) (cap - n) rfl rfl O wN aa.out.1 (nU ak) aa.out.2.2.1 aa.out.2.1 aa.out.2.2.2 (rM ak) ?_)
   .obtain⟨I,ae⟩:=A.out
    refine(CC.out _ _ I (kg HB.out.1 ae.size)).mono ?_;rintro e w2 ⟨v',rfl,ho,hb2,hf⟩;go_wp2_with fail;go_returns;exact⟨v',rfl,ho,pV ae (o5 hb2),hf⟩
   .obtain⟨I,ae⟩:=A.out
    go_returns;exact⟨_,rfl,I,ae,_,_,rfl⟩
abbrev MlT:ko:=35
structure He where
 m:IU
 ov:Option l5
 cv:Nat
def He.u(y:He):jP:=nk y.ov y.m.val.sub.length y.cv
def mcl(y:He):List jP:=[ny y.m.name,ny (txt y.m.val.lab),nA y.m.val.lab.list,y.u]
theorem Sw(y:He):(mcl y).length=4:=rfl
theorem a4a:wY jI MlT zq 4:=⟨Tryz.underlying35,⟨.agg #[.string ⟨#[]⟩,.string ⟨#[]⟩,.bool false,.slice none 0 0],64,by
 obtain⟨i,A,C,E,I⟩:=info_parts (show(Tryz.prog.info? zq).map (λi=>(i.zero,i.size,i.bytes))=some (some (nC #[ny ⟨#[]⟩,ny ⟨#[]⟩,nA false,nk none 0 0]),4,64)by kernel_rfl);exact⟨i,A,C,E,I,nN,rfl⟩⟩,nN⟩
def qJ(w:jJ)(Q:Nat->Prop)(v:jP)(L:List He):Prop:=
 pK mcl 4 w 0 zq v L/\(∀b,v.ownBlock=some b->Q b)/\∀y,y∈L->nV w (λc=>Q c/\v.ownBlock≠some c) y.u y.m.val.sub
theorem qJ.nil(w:jJ)(Q:Nat->Prop):qJ w Q (nk none 0 0) []:=⟨pK.nil w 0 zq,λb h=>by simp[kJ]at h,λy h=>by cases h⟩
theorem qJ.slice{w:jJ}{Q:Nat->Prop}{v:jP}{L:List He}(h:qJ w Q v L):∃oa cap,v=nk oa L.length cap:=h.1.slice
theorem qJ.keep{w w':jJ}{Q Q':Nat->Prop}{v:jP}{L:List He}(h:qJ w Q v L)(hs:w.heap.size<=w'.heap.size)(hk:∀c,c<w.heap.size->Q c->w'.heap[c]? =w.heap[c]?)(C:∀c,c<w.heap.size->Q c->Q' c):qJ w' Q' v L:=by
 refine⟨h.1.keep λb hb=>hk b (h.1.block b hb).2.1 (h.2.1 b hb),λb hb=>C b (h.1.block b hb).2.1 (h.2.1 b hb),λy E=> ?_⟩;exact Shape.nX.keep (h.2.2 y E) hs (λc hc A=>⟨C c hc A.1,A.2⟩) λc hc A=>hk c hc A.1
theorem qJ.push{w w1:jJ}{Q I:Nat->Prop}{v:jP}{L:List He}{x:He}{g cap:Nat}(h:qJ w Q v L)(hrow:pK mcl 4 w1 0 zq (nk (some ⟨g,0,none⟩) (L.length+1) cap) (L++[x]))(hg:w.grownBy w1 v.ownBlock)(A:v.ownBlock=some g\/w.heap.size<=g)(N:nV w I x.u x.m.val.sub)(hxv:∀c,I c->v.ownBlock≠some c):
  qJ w1 (λc=>Q c\/I c\/c=g) (nk (some ⟨g,0,none⟩) (L.length+1) cap) (L++[x]):=by
 have hgn:∀c,c<w.heap.size->v.ownBlock≠some c->c≠g:=λc hc J e=>by
  rcases A with A|A
  .exact J (by rw[A,e])
  .omega
 have E:∀c,c<w.heap.size->v.ownBlock≠some c->w1.heap[c]? =w.heap[c]? :=λc hc J=>hg.block c hc (λe=>J e.symm)
 refine⟨hrow,λb hb=> ?_,λy C=> ?_⟩
 .simp[kJ]at hb
  exact .inr (.inr hb.symm)
 .rcases List.mem_append.1 C with C|C
  .refine Shape.nX.keep (h.2.2 y C) hg.size (λc hc hq=>⟨.inl hq.1,?_⟩) λc hc hq=>E c hc hq.2
   intro e;simp[kJ]at e;exact hgn c hc hq.2 e.symm
  .simp at C
   subst C;refine Shape.nX.keep N hg.size (λc hc hq=>⟨.inr (.inl hq),?_⟩) λc hc hq=>E c hc (hxv c hq)
   exact KM
structure sD(F:Nat->Prop)(w w':jJ):Prop where
 os:w'.os=w.os
 tape:w'.tape=w.tape
 output:w'.output=w.output
 size:w.heap.size<=w'.heap.size
 block:∀k,k<w.heap.size->¬F k->w'.heap[k]? =w.heap[k]?
section
variable {F F':Nat->Prop}{u w w':jJ}
theorem sD.refl(F:Nat->Prop)(w:jJ):sD F w w:=⟨rfl,rfl,rfl,jL _,λ_ _ _=>rfl⟩
theorem sD.trans(h:sD F u w)(k:sD F' w w')(hF:∀c,c<u.heap.size->F' c->F c):sD F u w':=
 ⟨k.os.trans h.os,k.tape.trans h.tape,k.output.trans h.output,kg h.size k.size,λi hi hn=>(k.block i (kG hi h.size) λA=>hn (hF i hi A)).trans (h.block i hi hn)⟩
theorem sD.of(h:jS w.heap.size w w'):sD F w w':=⟨h.os,h.tape,h.output,h.size,λk hk _=>h.block k hk⟩
theorem sD.of2{b q:Nat}(h:oN b q w w')(hb:b<w.heap.size->F b)(A:q<w.heap.size->F q):sD F w w':=
 ⟨h.os,h.tape,h.output,h.size,λk hk hn=>h.block k hk (λe=>hn (e▸hb (e▸hk))) (λe=>hn (e▸A (e▸hk)))⟩
theorem sD.grown{row:Option Nat}(h:w.grownBy w' row)(hb:∀b,row=some b->F b):sD F w w':=
 ⟨h.os,h.tape,h.output,h.size,λk hk hn=>h.block k hk λe=>hn (hb k e.symm)⟩
theorem sD.set(h:sD F u w){p:l5}(hp:p.block<u.heap.size->F p.block)(v:jP):sD F u (w.setCell p v):=
 ⟨h.os,h.tape,h.output,by simpa [kC]using h.size,λk hk hn=>(j6 w p v k (λe=>hn (e▸hp (e▸hk)))).trans (h.block k hk hn)⟩
theorem sD.blk(h:sD F w w'){c:Nat}{cs:Array jP}{t:ko}(hc:nO w c cs t)(hn:¬F c):nO w' c cs t:=by
 unfold nO;rw[h.block c hc.lt hn];exact hc
theorem sD.below(h:sD F w w'){B:Nat}(hB:∀c,c<B->¬F c)(A:B<=w.heap.size):jS B w w':=⟨h.os,h.tape,h.output,h.size,λk hk=>h.block k nK (hB k hk)⟩
theorem sD.mono(h:sD F w w')(hF:∀c,c<w.heap.size->F c->F' c):sD F' w w':=⟨h.os,h.tape,h.output,h.size,λk hk hn=>h.block k hk λA=>hn (hF k hk A)⟩
end
theorem oD.kp{w w':jJ}{F:Nat->Prop}{B:Nat}{e:ko}{v:jP}{l:List UInt8}(h:oD w B e v l)(k:sD F w w')(hn:∀b,v.ownBlock=some b->¬F b):oD w' B e v l:=by
 refine⟨h.1,?_⟩;rcases h.2 with I|⟨g,cap,A,C,hg,E,r⟩
 .exact .inl I
 .refine .inr ⟨g,cap,A,C,hg,?_,r⟩
  rw[k.block g (ku.1 E).1 (hn g (by rw[C];rfl))];exact E
theorem oD.blk{w:jJ}{B:Nat}{e:ko}{v:jP}{l:List UInt8}(h:oD w B e v l):∀b,v.ownBlock=some b->B<=b/\b<w.heap.size:=by
 rcases h.2 with⟨rfl,_⟩|⟨g,cap,A,rfl,hb,hg,_⟩
 .intro b h;cases h
 .intro b h;cases h;exact⟨hb,(ku.1 hg).1⟩
theorem oD.form{w:jJ}{B:Nat}{e:ko}{v:jP}{l:List UInt8}(h:oD w B e v l):∃oa cap,v=nk oa l.length cap:=by
 rcases h.2 with⟨rfl,h0⟩|⟨g,cap,A,rfl,_⟩
 .exact⟨none,0,by rw[h0]⟩
 .exact⟨_,cap,rfl⟩
theorem Hf(r bn bi:Nat)(c:oK)(L:List oV)(w:jJ)(h:qp r bn bi c L w):
  jV jI 38 #[nz (some ⟨r,0,none⟩)] w λe w'=>e=nE (nC #[ng nH c.fmt,ng nJ c.mag,ng nH c.pO,ng nH c.qj,ng nH c.dep,ng nH c.oZ])/\jS w.heap.size w w':=by
 obtain⟨g,hg⟩:=nT w.heap.size;have A:jW (∀W,w.alloc (nG #[ng nH 0,ng nJ 0,ng nH 0,ng nH 0,ng nH 0,ng nH 0] tV)=W->nO W g #[ng nH 0,ng nJ 0,ng nH 0,ng nH 0,ng nH 0,ng nH 0] tV/\jS g w W/\qp r bn bi c L W):=jH λW I=>by
  subst I;have a:=(jT w.heap.size w).alloc (jL _) (nG #[ng nH 0,ng nJ 0,ng nH 0,ng nH 0,ng nH 0,ng nH 0] tV);exact⟨hg▸nO.new w _ _,hg▸a,h.below a⟩
 rw[hg];clear h;go_in;go_upto_region 1 with fail;obtain⟨hB,hb,C⟩:=A.out _ rfl;generalize w.alloc _=w1 at*;obtain⟨c0,c1,c2,c3,c4,c5⟩:=C.rg.a6;obtain⟨V,Y,y2,Z,aa,ae,af,f1,f2,f3,f4,ag⟩:=hB.b6;have E:=jH (jU hB hb);clear A hB hb C;go_wp2_with fail
 have J:nO ((((((w1.setCell ⟨g,0,none⟩ (ng nH c.fmt)).setCell ⟨g,1,none⟩ (ng nJ c.mag)).setCell ⟨g,2,none⟩ (ng nH c.pO)).setCell ⟨g,3,none⟩ (ng nH c.qj)).setCell ⟨g,4,none⟩ (ng nH c.dep)).setCell ⟨g,5,none⟩ (ng nH c.oZ)) g #[ng nH c.fmt,ng nJ c.mag,ng nH c.pO,ng nH c.qj,ng nH c.dep,ng nH c.oZ] tV:=
  (((((E.1.set 0 _).set 1 _).set 2 _).set 3 _).set 4 _).set 5 _
 obtain⟨N,O,Q,U,d4,d5⟩:=J.a6;refine j4 (v:=nC #[ng nH c.fmt,ng nJ c.mag,ng nH c.pO,ng nH c.qj,ng nH c.dep,ng nH c.oZ]) (by simp[kK,Tryz.results38,go_sem,N,O,Q,U,d4,d5]) rfl ⟨rfl,?_⟩;exact(((((E.2.setCell (p:=⟨g,0,none⟩) (jL g) _).setCell (p:=⟨g,1,none⟩) (jL g) _).setCell (p:=⟨g,2,none⟩) (jL g) _).setCell (p:=⟨g,3,none⟩) (jL g) _).setCell (p:=⟨g,4,none⟩) (jL g) _).setCell (p:=⟨g,5,none⟩) (jL g) _
def Hg(c:oK)(s:ByteArray):Nat:=
 if c.fmt=1 then if s.size<24 then 0 else 24+pU (s.extract 16 20).data.toList
 else if(pq c.pO s.data.toList).2.2≠0 then 0 else(pq c.pO s.data.toList).2.1+(pq c.pO s.data.toList).1
theorem Qr(c:oK)(hc:oM c=true)(s:ByteArray)(w:jJ)(hs:s.size<=100000):
  jV jI 65 #[nC #[ng nH c.fmt,ng nJ c.mag,ng nH c.pO,ng nH c.qj,ng nH c.dep,ng nH c.oZ],ny s] w λe w'=>e=nE (ng nH (Hg c s:Nat))/\jS w.heap.size w w':=by
 obtain⟨_,⟨aj,ak⟩,_⟩:=qH hc;have Q:=jH (wy (w:=w) c (t:=tV));obtain⟨g,hg⟩:=nT w.heap.size;have O:s.size<=j5:=kg hs nN;have V:=jH (λW=>wP c.pO s W nK O);have C:(pq c.pO s.data.toList).2.2=0->((pq c.pO s.data.toList).1:Int)<=65536/\(pq c.pO s.data.toList).2.1<=10:=λh=>by
  generalize ae:pq c.pO s.data.toList=q at*;obtain⟨a,b,e⟩:=q;dsimp only at h⊢;subst h;have:=zA ae;omega
 obtain⟨J,N⟩:=nT (Hg c s);have E:jW (J=if c.fmt=1 then if s.size<24 then 0 else 24+pU (s.extract 16 20).data.toList else if(pq c.pO s.data.toList).2.2≠0 then 0 else(pq c.pO s.data.toList).2.1+(pq c.pO s.data.toList).1):=jH N.symm;rw[N];rw[hg]at Q⊢;clear N O hc;generalize pq c.pO s.data.toList=q at*;obtain⟨a,b,er⟩:=q;dsimp only at*;go_in;go_upto_region 1 with fail;obtain⟨hb,c0,c1,c2,c3,c4,c5⟩:=Q.out _ rfl;generalize w.alloc _=w1 at*;have HB:=jH hb;clear Q hb;by_cases A:c.fmt=1
 .have af:(c.fmt !=1)=false:=by simp[A]
  by_cases I:s.size<24
  .have HE:jW (J=0):=jH (by rw[E.out,if_pos A,if_pos I])
   have Y:decide ((s.size:Int)<24)=true:=nQ;clear A I E C;exact DY
  .have Z:(s.extract 16 20).size=4:=by simp only[kz];omega
   have HE:jW (J=24+pU (s.extract 16 20).data.toList):=jH (by rw[E.out,if_pos A,if_neg I]);have ag:=jH (tC (s.extract 16 20) w1 nK nK);have az:pU (s.extract 16 20).data.toList<4294967296:=by
    have aa:=uG (s.extract 16 20).data.toList;have ah:(s.extract 16 20).data.toList.length=4:=by
     have:(s.extract 16 20).data.toList.length=(s.extract 16 20).size:=kV;omega
    rw[ah]at aa;exact aa
   have au:24<=s.size:=nK;have Y:decide ((s.size:Int)<24)=false:=nQ;clear A I E C Z;generalize ai:s.extract 16 20=X at*;generalize pU X.data.toList=aA at*;go_wp2_with fail;all_goals try rw[ai]
   refine ag.mono ?_;rintro e w2 ⟨rfl,rfl⟩;go_wp2_with fail;go_returns;exact⟨by rw[HE.out];simp,HB.out⟩
 .have af:(c.fmt !=1)=true:=by simp[A]
  have av:=jH A;by_cases I:er=0
  .subst I
   obtain⟨ax,ay⟩:=C rfl;have HE:jW (J=b+a):=jH (by rw[E.out,if_neg A,if_neg nR]);clear A E C;go_wp2_with fail;refine(V _).mono ?_;rintro e w2 ⟨rfl,U⟩;subst U;go_wp2_with fail;go_returns;exact⟨by rw[HE.out];simp,HB.out⟩
  .have Y:((er:Int) !=0)=true:=nQ
   have HE:jW (J=0):=jH (by rw[E.out,if_neg A,if_pos I]);clear A E C I;go_wp2_with fail;refine(V _).mono ?_;rintro e w2 ⟨rfl,U⟩;subst U;exact DY
end
end Go.Proofs.YtamfcjmhnndbdaaGreatDoor


