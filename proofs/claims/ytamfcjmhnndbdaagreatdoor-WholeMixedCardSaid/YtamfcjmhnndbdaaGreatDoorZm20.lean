/- Part 20 of the proof. -/
import Derived.Test.YtamfcjmhnndbdaaGreatDoorZm00
import Derived.Test.YtamfcjmhnndbdaaGreatDoorZm09
import Derived.Test.YtamfcjmhnndbdaaGreatDoorZm05
import Derived.Test.YtamfcjmhnndbdaaGreatDoorZm06
import Derived.Test.YtamfcjmhnndbdaaGreatDoorZm07
import Derived.Test.YtamfcjmhnndbdaaGreatDoorZm08
import Derived.Test.YtamfcjmhnndbdaaGreatDoorZm14
import Derived.Test.YtamfcjmhnndbdaaGreatDoorZm16
import Derived.Test.YtamfcjmhnndbdaaGreatDoorZm17
import Derived.Test.YtamfcjmhnndbdaaGreatDoorZm18
import Derived.Test.YtamfcjmhnndbdaaGreatDoorZm19
import Derived.WalkKit
import Derived.Deep.Slices
import Derived.Deep.Fields
import Derived.ChangeSame
import Derived.SliceStrings
import Derived.ChangeArms
import Derived.Test.YtamfcjmhnndbdaaGreatDoorRows
import Derived.LaidMore
import Derived.Stop.Joined
import Derived.Lib.LaidTab
open Go.Value renaming agg→nD,bool→nC,int→nk,pointer→nA,slice→ny,string→nz,tuple→nE,int→lQ
open Go.Obj renaming cells→nH
open Go.IntKind renaming i64→nI,u32→nK,u64→nJ
open Go.Ending renaming returned→nG
open Go.Lib renaming hid→jH
open Go.Proofs.Tryz renaming prog→jI,underlying3→mg,underlying9→mH
open Go renaming World→jJ,Value→jP,Calls→jV,maxLen→j3,TypeId→ko,undef→kI,Addr→lH,Oper→lY,Program→ma
open Nat renaming le_refl→jK,le_trans→jY,lt_of_lt_of_le→kG,zero_le→kH,add_assoc→kR,lt_or_ge→kZ
open Go.RowKit renaming Below→jS,Hid→jX,intOf→kT
open Go.RowKit.Below renaming refl→jT
open And renaming intro→jU
open List renaming getElem?_eq_getElem→jW,length_append→j5,take_succ_cons→ky,length_cons→kF,mem_of_getElem?→kK,take_zero→kL,length_drop→kX,getElem?_eq_some_iff→lF,take_length→l9,length_take→mi,mem_cons→mM,map_cons→mQ,length_eq_zero_iff→mU,drop_succ_cons→mW,take_add_one→mY
open Bool renaming and_eq_true→j4
open Array renaming getElem?_eq_some_iff→ku,length_toList→kY,getElem?_eq_none→mZ
open Go.Act renaming put→kE
open Go.Code renaming region→ll
open Go.Lit renaming int→lI
open Go.DataW renaming trod→lT
open UInt8 renaming toNat_inj→lX
open Option.some renaming inj→l8,injEq→mF
open Go.World renaming cell?→mI
open Int renaming toNat_of_nonneg→mV
open Option renaming none→V,some→U
open Go.Addr renaming mk→Z
namespace Go.Proofs.YtamfcjmhnndbdaaGreatDoor
set_option linter.unusedVariables false
set_option linter.unusedSimpArgs false
set_option maxRecDepth 100000
set_option maxHeartbeats 8000000
variable {k:IntKind}{ch:ByteArray}
section
open Go.RowKit Go.Maps
def wZ(c:oF)(t:nM TL)(x:nM IL):ByteArray×Int:=if c.fmt=1 then Aj t x c.oV else(if zf t x c.dep c.oV=0 then Dw x else⟨#[]⟩,zf t x c.dep c.oV)
def Oq(c:oF)(L:List Row)(nm:ByteArray)(x:nM IL):vP×Nat:=match L.find? λr=>decide (r.name=nm)with
 |none=>Ac c V ⟨#[]⟩ 0
 |some r=>Ac c (U r) (wZ c r.ty x).1 (wZ c r.ty x).2.toNat
def xG(c:oF)(L:List Row)(nm:ByteArray)(x:nM IL):ByteArray×Int:=Ho (Oq c L nm x).2 (JG c (Oq c L nm x).1).1 (JG c (Oq c L nm x).1).2
theorem Ot(t:nM TL)(x:nM IL):0<=rC t x:=by unfold rC;split;split;all_goals decide
theorem ZG(x:nM IL)(a b:Int):0<=zN x a b:=by
 unfold zN;split
 .split
  .decide
  .split<;>decide
 .decide
theorem ZH(c:oF)(t:nM TL)(x:nM IL):0<=(wZ c t x).2:=by
 unfold wZ;split
 .unfold Aj
  split
  .split
   .split
    .exact(by decide:(0:Int)<=4)
    .exact Int.le_refl _
   .exact Ot t x
  .exact(by decide:(0:Int)<=1)
 .show 0<=zf t x c.dep c.oV
  unfold zf LB;split;.exact Ot t x
  .split
   .exact ZG x _ _
   .split<;>decide
theorem QT(t:nM TL)(x:nM IL)(n:Int):(Aj t x n).1.size<=80000000:=by
 unfold Aj;split
 .split
  .rename_i h
   split;.exact kH _
   .have A:=Oh h
    have h1:=LA x t (CR A.1) A.2.2;have h2:x.count<=1024:=by
     have:=A.2.1;unfold rZ at this;simp only[j4,decide_eq_true_eq]at this;exact this.2
    show(⟨(Du x t).toArray⟩:ByteArray).size<=_;rw[size_mk];omega
  .exact kH _
 .exact kH _
theorem Vq(x:nM IL)(h:rZ x=true->(enc x).length<=100000):(Dw x).size<=100000:=by
 unfold Dw;split;.rename_i A;rw[size_mk];exact h A
 .exact kH _
theorem QU(c:oF)(t:nM TL)(x:nM IL)(h:rZ x=true->(enc x).length<=100000):(wZ c t x).1.size<=80000000:=by
 unfold wZ;split;.exact QT t x _
 .show ByteArray.size (if _ then _ else _)<=_
  split;.have:=Vq x h;omega
  .exact kH _
theorem a2j(c:oF)(o:Option Row)(T:ByteArray)(er:Nat)(A:T.size<=1000000000)(ho:∀r,o=U r->r.id<18446744073709551616/\r.name.size<=j3):
  (Ac c o T er).1.id<18446744073709551616/\(Ac c o T er).1.name.size<=j3/\(Ac c o T er).1.body.size<=1000000000:=by
 cases o with
 |none=>exact⟨(by decide:0<18446744073709551616),kH _,kH _⟩
 |some r=>
  obtain⟨h1,h2⟩:=ho r rfl;unfold Ac;dsimp only;split;.exact⟨(by decide:0<18446744073709551616),kH _,kH _⟩
  .split
   .exact⟨(by decide:0<18446744073709551616),h2,A⟩
   .exact⟨h1,kH _,A⟩
theorem ZI(L:List oO)(nm:ByteArray):((L.map λx=>x.r).find? λr=>decide (r.name=nm))=(L.find? λx=>decide (x.r.name=nm)).map λx=>x.r:=by
 rw[List.find?_map];rfl
theorem a2k(c:oF)(t:nM TL)(x:nM IL)(ot oi:Option lH)(ct ci:Nat)(w:jJ)(I:oQ w (ny ot t.sub.length ct) t.sub)(J:pJ w (ny oi x.sub.length ci) x.sub)(C:x.lab.text.length<=j3)(ae:rZ x=true->(enc x).length<=100000)(N:pW w)(O:uV w):
  jV jI (Br c) #[nD #[nk nI c.dep,nk nI c.oV],nD #[nk nI t.lab.kind,nk nI t.lab.size,ny ot t.sub.length ct,nk nI t.lab.tail],nD #[nz (txt x.lab),nC x.lab.list,ny oi x.sub.length ci]] w (pV (wZ c t x).1 (wZ c t x).2 w):=by
 have Q:=N.lt;have Y:=O.lt;have key:∀W,jS w.heap.size w W->oQ W (ny ot t.sub.length ct) t.sub/\pJ W (ny oi x.sub.length ci) x.sub/\pW W/\uV W:=λW h=>⟨Shape.nX.below I h,Shape.nX.below J h,N.below h Q,O.below h Y⟩
 unfold Br wZ;by_cases h1:c.fmt=1
 .rw[if_pos h1,if_pos h1]
  exact IU _ _ _ _ _ _ _ _ _ _ _ _ _ _ _ w λW A=>a2d t x c.oV W ot oi ct ci (key W A).1 (key W A).2.1 C (key W A).2.2.1 (key W A).2.2.2
 .rw[if_neg h1,if_neg h1]
  refine NY _ _ _ _ _ _ _ _ _ _ _ _ _ _ _ w λW A=> ?_
  refine Zx t x W _ _ (key W A).1 (key W A).2.1 C (λaf aa=> ?_) (key W A).2.2.1 c.dep c.oV;have h:=a2i x af _ (Shape.nX.below (key W A).2.1 aa) C ae;unfold a4T at h;unfold Dw LB;split;.rename_i E;rw[if_pos E]at h;exact h
  .rename_i E;rw[if_neg E]at h;exact h
theorem JK(G:Nat->Prop)(sb r bn bi:Nat)(c:oF)(L:List oO)(buf:List UInt8)(nd fa:Int)(nm:ByteArray)(x:nM IL)(oi:Option lH)(ci:Nat)(w:jJ)(hc:oJ c=true)(Q:c.wf)(hs:yV w G r sb buf nd fa)(A:∀W,jS w.heap.size w W->qi r bn bi c L W/\pW W/\uV W)(hid:∀y,y∈L->y.r.id<18446744073709551616)(hn:nm.size<=j3)(Y:pJ w (ny oi x.sub.length ci) x.sub)(aa:x.lab.text.length<=j3)(ae:rZ x=true->(enc x).length<=100000):
  jV jI 15 #[nA (U (Z sb 0 V)),nD #[nz nm,nz (txt x.lab),nC x.lab.list,ny oi x.sub.length ci]] w λe w'=>e=nG (nE #[nz (xG c (L.map λy=>y.r) nm x).1,nk nI (xG c (L.map λy=>y.r) nm x).2])/\yV w' G r sb buf nd fa/\qJ G w w':=by
 have N:=(A w (jT _ w)).1.may;obtain⟨o,ho⟩:=nV ((L.find? λy=>decide (y.r.name=nm)));have I:∀y,o=U y->y∈L:=λy C=>by rw[C]at ho;exact List.mem_of_find?_eq_some ho
 obtain⟨T,er,af⟩:∃(T:ByteArray) (er:Nat),Oq c (L.map λy=>y.r) nm x=Ac c (o.map λy=>y.r) T er/\T.size<=1000000000/\∀y,o=U y->T=(wZ c y.r.ty x).1/\(er:Int)=(wZ c y.r.ty x).2:=by
  unfold Oq;rw[ZI,ho];cases o with
  |none=>exact⟨⟨#[]⟩,0,rfl,kH _,λy h=>by cases h⟩
  |some y=>exact⟨_,_,rfl,jY (QU c y.r.ty x ae) nO,λz h=>by cases h;exact⟨rfl,mV (ZH c y.r.ty x)⟩⟩
 obtain⟨av,ag,ax⟩:=af;have hF:=a2j c (o.map λy=>y.r) T er ag λr ay=>by
  obtain⟨y,C,rfl⟩:=Option.map_eq_some_iff.1 ay;have:=(N y (I y C)).2.2;exact⟨hid y (I y C),yD⟩
 have henc:∀W,jS w.heap.size w W->_:=λW J=>Qx r bn bi c L nm (txt x.lab) x.lab.list oi x.sub.length ci T er W (A W J).1 hn λy C ah ai=>by
  rw[ho]at C;obtain⟨h1,h2⟩:=ax y C;have hb:=J.trans (ai.mono J.size);have O:=A ah hb;have aj:=a2k c y.r.ty x y.ou oi y.cu ci ah (O.1.sub y (I y C)) (Shape.nX.below Y hb) aa ae O.2.1 O.2.2;rw[<-h1,<-h2]at aj;exact aj
 rw[ho]at henc;rw[<-av]at henc hF;unfold xG;obtain⟨E,ak⟩:=nV (Oq c (L.map λy=>y.r) nm x);rw[ak]at henc hF⊢;obtain⟨F,au⟩:=E;exact Va G sb r bn bi c L buf nd fa nm (txt x.lab) x.lab.list oi x.sub.length ci F au _ _ w hs (λW J=>(A W J).1) henc λ_ W _=>Zp c F W hc Q hF.1 hF.2.1 hF.2.2
theorem ZJ(G sb r bn bi:Nat)(c:oF)(L:List oO)(buf:List UInt8)(nd fa:Int)(nm:ByteArray)(x:nM IL)(oi:Option lH)(ci:Nat)(w:jJ)(hc:oJ c=true)(C:c.wf)(hs:xC w G r sb buf nd fa)(hlt:G<=sb/\G<=w.heap.size)(A:∀W,jS G w W->qi r bn bi c L W/\pW W/\uV W)(hid:∀y,y∈L->y.r.id<18446744073709551616)(hn:nm.size<=j3)(E:pJ w (ny oi x.sub.length ci) x.sub)(I:x.lab.text.length<=j3)(J:rZ x=true->(enc x).length<=100000):
  jV jI 15 #[nA (U (Z sb 0 V)),nD #[nz nm,nz (txt x.lab),nC x.lab.list,ny oi x.sub.length ci]] w λe w'=>e=nG (nE #[nz (xG c (L.map λy=>y.r) nm x).1,nk nI (xG c (L.map λy=>y.r) nm x).2])/\xC w' G r sb buf nd fa/\jS G w w':=by
 refine(JK _ sb r bn bi c L buf nd fa nm x oi ci w hc C (hs.f hlt.1) (λW h=>A W (h.mono hlt.2)) hid hn E I J).mono ?_;rintro e w' ⟨h1,h2,N⟩;exact⟨h1,h2.at_,YX N hlt.2⟩
end
section
open Go.RowKit
def Cf(ss:List ByteArray):Nat:=(ss.map λs=>s.size).sum
theorem JL{ss:List ByteArray}{i:Nat}{s:ByteArray}(h:ss[i]? =U s):Cf (ss.take (i+1))=Cf (ss.take i)+s.size:=by
 unfold Cf;rw[mY,h];simp
def Ak(c:oF)(rows:List Row)(w:jJ)(e:Ending)(w':jJ):Prop:=
 jS w.heap.size w w'/\∃G sb r bn bi L,e=nG (nA (U (Z sb 0 V)))/\(L.map λx:oO=>x.r)=rows/\xC w' G r sb [] 0 0/\(w.heap.size<=G/\G<=sb/\G<=w'.heap.size/\bn≠bi/\r≠bn/\r≠bi/\IQ w.heap.size G r bn bi c L w')/\∀W,jS G w' W->qi r bn bi c L W
structure SD where
 lo:Nat
 G:Nat
 r:Nat
 sb:Nat
 bn:Nat
 bi:Nat
 L:List oO
def D3(a b c:SD):Nat->SD
 |0=>a
 |1=>b
 |_=>c
abbrev Td:=List UInt8×Int×Int
structure A8(c:oF)(rows:List Row)(D:Nat->SD)(h:Nat)(w0:jJ)(F:Nat->Nat->Prop)(st:Nat->Td)(W:jJ):Prop where
 Sk:∀k,k<3->yV W (F k) (D k).r (D k).sb (st k).1 (st k).2.1 (st k).2.2
 reg:∀k,k<3->IQ (D k).lo (D k).G (D k).r (D k).bn (D k).bi c (D k).L W
 rws:∀k,k<3->((D k).L.map λx:oO=>x.r)=rows
 dis:∀j k b,j≠k->F j b->¬F k b
 fr:∀k b,F k b->h<=b/\b<W.heap.size/\∀j,j<3->¬((D j).lo<=b/\b<(D j).G)
 hi:∀k,k<3->(D k).G<=W.heap.size
 hh:h<=W.heap.size
 pR:jS h w0 W
def F2(F:Nat->Nat->Prop)(k:Nat)(W A:jJ)(j b:Nat):Prop:=F j b\/(j=k/\W.heap.size<=b/\b<A.heap.size)
def S2(st:Nat->Td)(k:Nat)(s:Td)(j:Nat):Td:=if j=k then s else st j
section
variable {c:oF}{rows:List Row}{D:Nat->SD}{h0:Nat}{w0:jJ}{F:Nat->Nat->Prop}{st:Nat->Td}{W W':jJ}
theorem A8.step(h:A8 c rows D h0 w0 F st W){k:Nat}{s:Td}(hk:k<3)(kp:qJ (F k) W W')(hs:yV W' (λb=>F k b\/W.heap.size<=b) (D k).r (D k).sb s.1 s.2.1 s.2.2):A8 c rows D h0 w0 (F2 F k W W') (S2 st k s) W':=by
 have I:=kp.size;refine⟨λj A=> ?_,λj A=>(h.reg j A).kp kp λd h1 h2 C=>(h.fr k d C).2.2 j A ⟨h1,h2⟩,h.rws,λi j b E hi A=> ?_,λi b hi=> ?_,λj A=>jY (h.hi j A) I,jY h.hh I,h.pR.trans (kp.below (λd hd C=>by have:=(h.fr k d C).1;omega) h.hh)⟩
 .by_cases e:j=k
  .subst e
   unfold S2;rw[if_pos rfl];exact hs.mono λb hb C=>C.elim .inl λq=> .inr ⟨rfl,q,hb⟩
  .unfold S2
   rw[if_neg e];exact((h.Sk j A).kp kp λb _ C=>h.dis j k b e C).mono λb _ C=> .inl C
 .rcases hi with hi|⟨e1,h1,_⟩<;>rcases A with A|⟨e2,h2,_⟩
  .exact h.dis i j b E hi A
  .have:=(h.fr i b hi).2.1;omega
  .have:=(h.fr j b A).2.1;omega
  .exact E (e1.trans e2.symm)
 .rcases hi with hi|⟨e1,h1,h2⟩
  .have q:=h.fr i b hi
   exact⟨q.1,nL,q.2.2⟩
  .have:=h.hh
   exact⟨nL,h2,λj A q=>by have:=h.hi j A;omega⟩
theorem A8.below(h:A8 c rows D h0 w0 F st W)(hb:jS W.heap.size W W'):A8 c rows D h0 w0 F st W':=by
 have kp:qJ (λ_=>False) W W':=qJ.of hb;have C:=kp.size;exact⟨λj A=>(h.Sk j A).kp kp λ_ _ _ q=>q,λj A=>(h.reg j A).kp kp λ_ _ _ q=>q,h.rws,h.dis,λi b hi=>by have q:=h.fr i b hi;exact⟨q.1,nL,q.2.2⟩,λj A=>jY (h.hi j A) C,jY h.hh C,h.pR.trans (hb.mono h.hh)⟩
theorem A8.a7m(h:A8 c rows D h0 w0 F st W){k:Nat}(hk:k<3)(E:∀A,jS h0 w0 A->pW A/\uV A)(A:jJ)(kp:qJ (F k) W A):qi (D k).r (D k).bn (D k).bi c (D k).L A/\pW A/\uV A:=
 ⟨((h.reg k hk).kp kp λd h1 h2 C=>(h.fr k d C).2.2 k hk ⟨h1,h2⟩).rg,E A (h.pR.trans (kp.below (λd hd C=>by have:=(h.fr k d C).1;omega) h.hh))⟩
def Vr(c:oF)(rows:List Row)(s:Td)(ch:ByteArray):List Ii×Td:=sS c rows 0 s.1 s.2.1 s.2.2 ch
def a2S(c:oF)(rows:List Row)(D:Nat->SD)(h0:Nat)(w0:jJ)(F:Nat->Nat->Prop)(st:Nat->Td)(k:Nat)(ch:ByteArray)(W:jJ)(lv:jP)(Lm:List xV)(w':jJ):Prop:=
 ql w' (λd=>W.heap.size<=d) lv Lm/\Lm.map (λy=>y.m)=(Vr c rows (st k) ch).1/\qJ (F k) W w'/\A8 c rows D h0 w0 (F2 F k W w') (S2 st k (Vr c rows (st k) ch).2) w'
theorem Ou(h:A8 c rows D h0 w0 F st W)(k:Nat)(hk:k<3)(E:∀I,jS h0 w0 I->pW I/\uV I)(hc:oJ c=true)(A:c.wf)(ch:ByteArray)(hlen:(st k).1.length+ch.size<=100000):
  jV jI 13 #[nA (U ⟨(D k).sb,0,V⟩),nz ch] W λe w'=>∃lv Lm,e=nG (nE #[lv,nk nI (Vr c rows (st k) ch).2.2.2])/\a2S c rows D h0 w0 F st k ch W lv Lm w':=by
 refine(JA (F k) (D k).sb (D k).r (D k).bn (D k).bi c (D k).L _ _ _ ch W hc A (h.Sk k hk) hlen (h.a7m hk E)).mono ?_;rintro e w' ⟨mb,lv,Lm,rfl,h1,h2,J,C⟩;rw[h.rws k hk,YP c rows mb 0]at*;exact⟨lv,Lm,rfl,h1,h2,C,h.step (s:=(Vr c rows (st k) ch).2) hk C J⟩
theorem ZK(h:A8 c rows D h0 w0 F st W)(k:Nat)(hk:k<3)(N:∀A,jS h0 w0 A->pW A/\uV A)(hc:oJ c=true)(C:c.wf)(nm:ByteArray)(x:nM IL)(oi:Option lH)(ci:Nat)(hid:∀q,q∈rows->q.id<18446744073709551616)(hn:nm.size<=j3)(E:pJ W (ny oi x.sub.length ci) x.sub)(I:x.lab.text.length<=j3)(O:rZ x=true->(enc x).length<=100000):
  jV jI 15 #[nA (U ⟨(D k).sb,0,V⟩),nD #[nz nm,nz (txt x.lab),nC x.lab.list,ny oi x.sub.length ci]] W λe w'=>e=nG (nE #[nz (xG c rows nm x).1,nk nI (xG c rows nm x).2])/\∃F',A8 c rows D h0 w0 F' st w':=by
 refine(JK (F k) (D k).sb (D k).r (D k).bn (D k).bi c (D k).L _ _ _ nm x oi ci W hc C (h.Sk k hk) (λA Q=>h.a7m hk N A (qJ.of Q)) (λy Y=>hid _ (h.rws k hk▸List.mem_map.2 ⟨y,Y,rfl⟩)) hn E I O).mono ?_;rintro e w' ⟨rfl,h1,h2⟩;rw[h.rws k hk];refine⟨rfl,F2 F k W w',?_⟩;have J:=h.step (s:=st k) hk h2 (h1.mono λb _ aa=> .inl aa);have ae:S2 st k (st k)=st:=by
  funext j;unfold S2;split;.rename_i e;rw[e]
  .rfl
 rw[ae]at J;exact J
theorem a2l(h:A8 c rows D h0 w0 F st W){w1 w2:jJ}{lv:jP}{Lm:List xV}{j k:Nat}(C:j≠k)(own:ql w1 (λd=>W.heap.size<=d) lv Lm)(kp:qJ (F2 F j W w1 k) w1 w2):MsV w2 lv Lm:=
 ql.v (Q:=λd=>W.heap.size<=d) (own.keep kp.size (λd hd E=>kp.block d hd λA=>by
  rcases A with A|⟨e,_⟩
  .have:=(h.fr k d A).2.1
   have E:W.heap.size<=d:=E;omega
  .exact C e.symm) λ_ _ q=>q)
end
theorem three{P:Nat->Prop}(h0:P 0)(h1:P 1)(h2:P 2):∀k,k<3->P k
 |0,_=>h0
 |1,_=>h1
 |2,_=>h2
 |n+3,h=>by omega
structure ZL(c:oF)(rows:List Row)(lo hi:Nat)(d:SD)(w:jJ):Prop where
 le:lo<=d.lo/\d.lo<=d.G/\d.G<=hi/\hi<=w.heap.size
 rws:(d.L.map λx:oO=>x.r)=rows
 Sk:yV w (λb=>d.G<=b/\b<hi) d.r d.sb [] 0 0
 reg:IQ d.lo d.G d.r d.bn d.bi c d.L w
theorem ZL.of{c:oF}{rows:List Row}{w w':jJ}{e:Ending}(h:Ak c rows w e w'):jS w.heap.size w w'/\∃d:SD,e=nG (nA (U (Z d.sb 0 V)))/\ZL c rows w.heap.size w'.heap.size d w':=by
 obtain⟨hb,G,sb,r,bn,bi,L,rfl,hL,hs,⟨h1,h2,A,_,_,_,C⟩,_⟩:=h;exact⟨hb,⟨w.heap.size,G,r,sb,bn,bi,L⟩,rfl,⟨jK _,h1,A,jK _⟩,hL,(hs.f h2).mono λb hb E=>⟨E,hb⟩,C⟩
theorem ZL.below{c:oF}{rows:List Row}{lo hi A:Nat}{d:SD}{w w':jJ}(h:ZL c rows lo hi d w)(hb:jS w.heap.size w w')(hh:hi<=A/\A<=w'.heap.size):ZL c rows lo A d w':=by
 have kp:qJ (λ_=>False) w w':=qJ.of hb;have l:=h.le;exact⟨⟨l.1,l.2.1,nL,hh.2⟩,h.rws,(h.Sk.kp kp λ_ _ _ q=>q).mono λb _ q=>⟨q.1,nL⟩,h.reg.kp kp λ_ _ _ q=>q⟩
structure O5(c:oF)(rows:List Row)(k h:Nat)(w0:jJ)(d2 d5 d8:Bool)(v2 v5 v8:jP)(W:jJ):Prop where
 cf:nP W k #[nk nI c.fmt,nk nK c.mag,nk nI c.pF,nk nI c.qc,nk nI c.dep,nk nI c.oV] tC
 bw:jS h w0 W
 hh:h<=W.heap.size/\k<h
 dn:(d5=true->d2=true)/\(d8=true->d5=true)
 op:∃h0 h1 h2 x1 x2 x3,h<=h0/\(d2=true->v2=nA (U (Z x1.sb 0 V))/\ZL c rows h0 h1 x1 W)/\(d5=true->v5=nA (U (Z x2.sb 0 V))/\ZL c rows h1 h2 x2 W)/\(d8=true->v8=nA (U (Z x3.sb 0 V))/\ZL c rows h2 W.heap.size x3 W)
section
variable {c:oF}{rows:List Row}{k h:Nat}{w0:jJ}{v2 v5 v8:jP}{W W':jJ}{e:Ending}
theorem O5.ini(cf:nP W k #[nk nI c.fmt,nk nK c.mag,nk nI c.pF,nk nI c.qc,nk nI c.dep,nk nI c.oV] tC)(bw:jS h w0 W)(hh:h<=W.heap.size/\k<h):O5 c rows k h w0 false false false v2 v5 v8 W:=
 have z:SD:=⟨0,0,0,0,0,0,[]⟩
 ⟨cf,bw,hh,⟨(λh=>by cases h),(λh=>by cases h)⟩,h,h,h,z,z,z,jK _,(λh=>by cases h),(λh=>by cases h),(λh=>by cases h)⟩
theorem O5.c2(H:O5 c rows k h w0 false false false v2 v5 v8 W)(hp:Ak c rows W e W'):∃d:SD,e=nG (nA (U (Z d.sb 0 V)))/\O5 c rows k h w0 true false false (nA (U (Z d.sb 0 V))) v5 v8 W':=by
 obtain⟨hb,d,rfl,hd⟩:=ZL.of hp;have A:=hb.size;obtain⟨_,_,_,x1,x2,x3,_⟩:=H.op;exact⟨d,rfl,Below.blk hb H.cf H.cf.lt,H.bw.trans (hb.mono H.hh.1),⟨jY H.hh.1 A,H.hh.2⟩,⟨λ_=>rfl,λh=>by cases h⟩,W.heap.size,W'.heap.size,W'.heap.size,d,x2,x3,H.hh.1,λ_=>⟨rfl,hd⟩,(λh=>by cases h),λh=>by cases h⟩
theorem O5.c5(H:O5 c rows k h w0 true false false v2 v5 v8 W)(hp:Ak c rows W e W'):∃d:SD,e=nG (nA (U (Z d.sb 0 V)))/\O5 c rows k h w0 true true false v2 (nA (U (Z d.sb 0 V))) v8 W':=by
 obtain⟨hb,d,rfl,hd⟩:=ZL.of hp;have C:=hb.size;obtain⟨h0,h1,h2,x1,x2,x3,E,A,_⟩:=H.op;exact⟨d,rfl,Below.blk hb H.cf H.cf.lt,H.bw.trans (hb.mono H.hh.1),⟨jY H.hh.1 C,H.hh.2⟩,⟨λ_=>rfl,λh=>by cases h⟩,h0,W.heap.size,W'.heap.size,x1,d,x3,E,λ_=>⟨(A rfl).1,(A rfl).2.below hb ⟨(A rfl).2.le.2.2.2,C⟩⟩,λ_=>⟨rfl,hd⟩,λh=>by cases h⟩
theorem O5.c8(H:O5 c rows k h w0 true true false v2 v5 v8 W)(hp:Ak c rows W e W'):∃d:SD,e=nG (nA (U (Z d.sb 0 V)))/\O5 c rows k h w0 true true true v2 v5 (nA (U (Z d.sb 0 V))) W':=by
 obtain⟨hb,d,rfl,hd⟩:=ZL.of hp;have E:=hb.size;obtain⟨h0,h1,h2,x1,x2,x3,I,A,C,_⟩:=H.op;have J:=(A rfl).2.le;exact⟨d,rfl,Below.blk hb H.cf H.cf.lt,H.bw.trans (hb.mono H.hh.1),⟨jY H.hh.1 E,H.hh.2⟩,⟨λ_=>rfl,λ_=>rfl⟩,h0,h1,W.heap.size,x1,x2,d,I,λ_=>⟨(A rfl).1,(A rfl).2.below hb ⟨jK _,nL⟩⟩,λ_=>⟨(C rfl).1,(C rfl).2.below hb ⟨(C rfl).2.le.2.2.2,E⟩⟩,λ_=>⟨rfl,hd⟩⟩
def F0(a b c:Nat×Nat):Nat->Nat->Prop
 |0,d=>a.1<=d/\d<a.2
 |1,d=>b.1<=d/\d<b.2
 |2,d=>c.1<=d/\d<c.2
 |_,_=>False
theorem O5.start(H:O5 c rows k h w0 true true true v2 v5 v8 W):∃x1 x2 x3:SD,v2=nA (U (Z x1.sb 0 V))/\v5=nA (U (Z x2.sb 0 V))/\v8=nA (U (Z x3.sb 0 V))/\∃F,A8 c rows (D3 x1 x2 x3) h w0 F (λ_=>([],0,0)) W:=by
 obtain⟨h0,h1,h2,E,d2,I,ae,Q,Y,aa⟩:=H.op;obtain⟨e1,J⟩:=Q rfl;obtain⟨e2,N⟩:=Y rfl;obtain⟨e3,O⟩:=aa rfl;have af:=J.le;have l2:=N.le;have ag:=O.le;refine⟨E,d2,I,e1,e2,e3,F0 (E.G,h1) (d2.G,h2) (I.G,W.heap.size),three J.Sk N.Sk O.Sk,three J.reg N.reg O.reg,three J.rws N.rws O.rws,?_,?_,three (show E.G<=_ by omega) (show d2.G<=_ by omega) (show I.G<=_ by omega),H.hh.1,H.bw⟩
 .intro j k b C A hk
  match j,k,C,A,hk with
  |0,0,C,_,_=>exact C rfl
  |1,1,C,_,_=>exact C rfl
  |2,2,C,_,_=>exact C rfl
  |0,1,_,A,hk=>exact absurd A.2 (by have:=hk.1;dsimp only at*;omega)
  |0,2,_,A,hk=>exact absurd A.2 (by have:=hk.1;dsimp only at*;omega)
  |1,2,_,A,hk=>exact absurd A.2 (by have:=hk.1;dsimp only at*;omega)
  |1,0,_,A,hk=>exact absurd hk.2 (by have:=A.1;dsimp only at*;omega)
  |2,0,_,A,hk=>exact absurd hk.2 (by have:=A.1;dsimp only at*;omega)
  |2,1,_,A,hk=>exact absurd hk.2 (by have:=A.1;dsimp only at*;omega)
  |n+3,_,_,A,_=>exact A
  |_,n+3,_,_,hk=>exact hk
 .intro k b hk
  have q:(E.G<=b/\b<h1)\/(d2.G<=b/\b<h2)\/(I.G<=b/\b<W.heap.size):=by
   match k,hk with
   |0,hk=>exact .inl hk
   |1,hk=>exact .inr (.inl hk)
   |2,hk=>exact .inr (.inr hk)
   |n+3,hk=>exact hk.elim
  exact⟨nL,nL,three (show¬(E.lo<=b/\b<E.G)by omega) (show¬(d2.lo<=b/\b<d2.G)by omega) (show¬(I.lo<=b/\b<I.G)by omega)⟩
end
def E9(c:oF)(rows:List Row)(D:Nat->SD)(h:Nat)(w0:jJ)(Q:Td)(W:jJ):Prop:=∃F st,A8 c rows D h w0 F st W/\st 0=Q/\st 1=Q
def a2m(c:oF)(rows:List Row)(D:Nat->SD)(h:Nat)(w0:jJ)(Q:Td)(ch:ByteArray)(lv:jP)(Lm:List xV)(w2:jJ):Prop:=∃W F st,A8 c rows D h w0 F st W/\st 0=Q/\st 1=Q/\a2S c rows D h w0 F st 0 ch W lv Lm w2
theorem JM(c:oF)(rows:List Row)(s:ByteArray):∀(n p:Nat)(mt:Option (Nat×MS)),(uJ c rows s n p mt).told.length<=n
 |0,p,mt=>jK 0
 |n+1,p,mt=>by
  rcases h:rJ c rows (s.extract p s.size) mt with⟨R,m⟩
  cases R with
  |error er=>rw[z8 c rows s n p mt h];exact kH _
  |ok y=>rw[ym c rows s n p mt h];exact Nat.succ_le_succ (JM c rows s n _ _)
theorem ZM(c:oF)(rows:List Row)(s:Td)(ch:ByteArray):(Vr c rows s ch).1.length<=s.1.length+ch.size+1:=by
 have h1:ch.data.toList.length=ch.size:=kY;unfold Vr sS;split;.exact kH _
 .split
  .exact kH _
  .refine jY (JM _ _ _ _ _ _) ?_
   rw[j5,h1];exact jK _
section
variable {c:oF}{rows:List Row}{D:Nat->SD}{h0:Nat}{w0:jJ}{Q:Td}{W W':jJ}
theorem E9.pR(h:E9 c rows D h0 w0 Q W):jS h0 w0 W:=by obtain⟨F,st,h1,_⟩:=h;exact h1.pR
theorem E9.below(h:E9 c rows D h0 w0 Q W)(hb:jS W.heap.size W W'):E9 c rows D h0 w0 Q W':=by obtain⟨F,st,h1,h2⟩:=h;exact⟨F,st,h1.below hb,h2⟩
theorem a2m.pR{lv:jP}{Lm:List xV}(h:a2m c rows D h0 w0 Q ch lv Lm W):jS h0 w0 W:=by obtain⟨_,F,st,_,_,_,h1⟩:=h;exact h1.2.2.2.pR
theorem Vs(h:E9 c rows D h0 w0 Q W)(E:∀I,jS h0 w0 I->pW I/\uV I)(hc:oJ c=true)(A:c.wf)(ch:ByteArray)(hlen:Q.1.length+ch.size<=100000):
  jV jI 13 #[nA (U ⟨(D 0).sb,0,V⟩),nz ch] W λe w'=>∃oa cap Lm,e=nG (nE #[ny oa Lm.length cap,nk nI (Vr c rows Q ch).2.2.2])/\a2m c rows D h0 w0 Q ch (ny oa Lm.length cap) Lm w':=by
 obtain⟨F,st,h1,h2,J⟩:=h;refine(Ou h1 0 nO E hc A ch (by rw[h2];exact hlen)).mono ?_;rintro e w' ⟨lv,Lm,rfl,C⟩;obtain⟨oa,cap,rfl⟩:=C.1.slice;exact⟨oa,cap,Lm,by rw[h2],W,F,st,h1,h2,J,C⟩
theorem Vt{lv:jP}{Lm:List xV}(h:a2m c rows D h0 w0 Q ch lv Lm W)(O:∀N,jS h0 w0 N->pW N/\uV N)(hc:oJ c=true)(E:c.wf)(hlen:Q.1.length+ch.size<=100000):
  jV jI 13 #[nA (U ⟨(D 1).sb,0,V⟩),nz ch] W λe w'=>∃oa cap A,e=nG (nE #[ny oa A.length cap,nk nI (Vr c rows Q ch).2.2.2])/\MsV w' lv Lm/\MsV w' (ny oa A.length cap) A/\Lm.map (λy:xV=>y.m)=A.map (λy:xV=>y.m)/\Lm.length<=Q.1.length+ch.size+1/\E9 c rows D h0 w0 (Vr c rows Q ch).2 w':=by
 obtain⟨N,F,st,h1,h2,Y,aa,C,ah,ae⟩:=h;have e2:S2 st 0 (Vr c rows (st 0) ch).2 1=Q:=by unfold S2;rw[if_neg nO];exact Y
 refine(Ou ae 1 nO O hc E ch (by rw[e2];exact hlen)).mono ?_;rintro e w' ⟨ag,A,rfl,I,m2,af,J⟩;obtain⟨oa,cap,rfl⟩:=I.slice;rw[e2]at m2 J⊢;rw[h2]at C;refine⟨oa,cap,A,rfl,a2l h1 nO aa af,I.v,C.trans m2.symm,?_,_,_,J,?_,?_⟩
 .have:=congrArg List.length C
  rw[List.length_map]at this;rw[this];exact ZM c rows Q ch
 .unfold S2
  rw[if_neg nO,if_pos rfl,h2]
 .unfold S2
  rw[if_pos rfl]
theorem Ov(h:E9 c rows D h0 w0 Q W)(k:Nat)(hk:k<2):jV jI 26 #[nA (U ⟨(D k).sb,0,V⟩)] W λe w'=>e=nG (nz ⟨Q.1.toArray⟩)/\jS W.heap.size W w':=by
 obtain⟨F,st,h1,h2,A⟩:=h;refine(YO (F k) _ _ _ _ _ W (h1.Sk k nL)).mono ?_;rintro e w' ⟨rfl,rfl⟩;have:st k=Q:=by
  rcases k with _|_|k
  .exact h2
  .exact A
  .omega
 rw[this];exact⟨rfl,jT _ _⟩
theorem JN(h:E9 c rows D h0 w0 Q W)(k:Nat)(hk:k<3)(I:∀J,jS h0 w0 J->pW J/\uV J)(hc:oJ c=true)(A:c.wf)(nm:ByteArray)(x:nM IL)(oi:Option lH)(ci:Nat)(hid:∀q,q∈rows->q.id<18446744073709551616)(hn:nm.size<=j3)(C:pJ W (ny oi x.sub.length ci) x.sub)(E:x.lab.text.length<=j3)(N:rZ x=true->(enc x).length<=100000):
  jV jI 15 #[nA (U ⟨(D k).sb,0,V⟩),nD #[nz nm,nz (txt x.lab),nC x.lab.list,ny oi x.sub.length ci]] W λe w'=>e=nG (nE #[nz (xG c rows nm x).1,nk nI (xG c rows nm x).2])/\E9 c rows D h0 w0 Q w':=by
 obtain⟨F,st,h1,h2,O⟩:=h;refine(ZK h1 k hk I hc A nm x oi ci hid hn C E N).mono ?_;rintro e w' ⟨rfl,F',Y⟩;exact⟨rfl,F',st,Y,h2,O⟩
end
noncomputable def xH:List lY:=cO (cL (cR (cR (cR (cB Tryz.f7)))))
section
variable (k h:Nat)(w0:jJ)(c:oF)(rows:List Row)(a1:Option lH)(vM vN:Nat)
def Dx:Nat->jP
 |0=> nD #[nk nI c.fmt,nk nK c.mag,nk nI c.pF,nk nI c.qc,nk nI c.dep,nk nI c.oV]
 |1=> ny a1 vM vN
 |3=> nD #[nk nI c.fmt,nk nK c.mag,nk nI c.pF,nk nI c.qc,nk nI c.dep,nk nI c.oV]
 |4=> ny a1 vM vN
 |6=> nD #[nk nI c.fmt,nk nK c.mag,nk nI c.pF,nk nI c.qc,nk nI c.dep,nk nI c.oV]
 |7=> ny a1 vM vN
 |_=>kI
structure a7n(D:Nat->Bool)(vs:Nat->jP)(w:jJ):Prop where
 oH:O5 c rows k h w0 (D 2) (D 5) (D 8) (vs 2) (vs 5) (vs 8) w
 val:∀j,(j !=2&&j !=5&&j !=8)=true->D j=true->vs j=Dx c a1 vM vN j
variable {k h w0 c rows a1 vM vN}
theorem a2n{id:Nat}{Q:Exit->Act->jJ->Prop}{a0:Act}{af:jJ}(ht3:a0.tmps.getD 3 kI=nA (U (Z k 0 V)))(ht1:a0.tmps.getD 1 kI=ny a1 vM vN)(hop:∀W,jS h w0 W->jV jI 10 #[nD #[nk nI c.fmt,nk nK c.mag,nk nI c.pF,nk nI c.qc,nk nI c.dep,nk nI c.oV],ny a1 vM vN] W (Ak c rows W))(hsz:a0.tmps.size=123)(hI0:∀vs:Nat->jP,(λw=>O5 c rows k h w0 false false false (vs 2) (vs 5) (vs 8) w) af.drew)(ag:∀(vs:Nat->jP) (w:jJ),O5 c rows k h w0 true true true (vs 2) (vs 5) (vs 8) w->wpList jI xH.toArray Q (xH.drop 9) {a0 with tmps:=(((((((((a0.tmps.setIfInBounds 29 (nD #[nk nI c.fmt,nk nK c.mag,nk nI c.pF,nk nI c.qc,nk nI c.dep,nk nI c.oV])).setIfInBounds 30 (ny a1 vM vN)).setIfInBounds 31 (vs 2)).setIfInBounds 32 (nD #[nk nI c.fmt,nk nK c.mag,nk nI c.pF,nk nI c.qc,nk nI c.dep,nk nI c.oV])).setIfInBounds 33 (ny a1 vM vN)).setIfInBounds 34 (vs 5)).setIfInBounds 35 (nD #[nk nI c.fmt,nk nK c.mag,nk nI c.pF,nk nI c.qc,nk nI c.dep,nk nI c.oV])).setIfInBounds 36 (ny a1 vM vN)).setIfInBounds 37 (vs 8))} w):
  (ll id xH.toArray true).wp jI Q a0 af:=by
 refine og 9 123 (a7n k h w0 c rows a1 vM vN) nN hsz nN (.inr nN) nN ?_ ?_ ?_;.exact qB
 .refine rM λA ay=> ?_
  clear hI0 ag hsz;replace ht3:=jH ht3;replace ht1:=jH ht1;replace hop:=jH hop;dsimp+instances only[xH,cO,cL,cR,cB,Tryz.f7];simp only[ky,kL,qW];refine⟨?_,?_,?_,?_,?_,?_,?_,?_,?_,trivial⟩<;>(intro D vs a w K hI hd E hw2 C aa;subst ay;dsimp+instances only[xH,cO,cL,cR,cB,Tryz.f7]);have e3:=(C 3 nO).trans ht3.out;have hB:=hI.oH.cf;obtain⟨c0,c1,c2,c3,c4,c5⟩:=hB.a6;clear hB;rotate_left;have e1:=(C 1 nO).trans ht1.out;rotate_left
  .have hop:=hop.out
   have ah:=fe C hI.val E 29 0;have ai:=fe C hI.val E 30 1;simp only[Dx]at ah ai;have J:=hw2 5 nO nN;have N:D 8=false:=by cases h:D 8 with|false=>rfl|true=>exact absurd (hI.oH.dn.2 h) (by rw[J];decide)
   have I:=hI.oH;rw[hd,J,N]at I;have O:=hop w I.bw;clear hop;rw[if_pos (by rfl)];go_simp;refine O.mono ?_;intro e aj hp;obtain⟨d,rfl,Y⟩:=I.c2 hp;refine aa (nA (U (Z d.sb 0 V))) _ _ rfl ⟨?_,KG rfl hI.val⟩;rw[oo,nR D (show 5≠2 by decide),nR D (show 8≠2 by decide),pG,om vs _ (show 5≠2 by decide),om vs _ (show 8≠2 by decide),J,N];exact Y
  have e3:=(C 3 nO).trans ht3.out;have hB:=hI.oH.cf;obtain⟨c0,c1,c2,c3,c4,c5⟩:=hB.a6;clear hB;rotate_left;have e1:=(C 1 nO).trans ht1.out;rotate_left
  .have hop:=hop.out
   have ak:=fe C hI.val E 32 3;have au:=fe C hI.val E 33 4;simp only[Dx]at ak au;have h2:=E 2 nO nN;have N:=hw2 8 nO nN;have I:=hI.oH;rw[hd,h2,N]at I;have O:=hop w I.bw;clear hop;rw[if_pos (by rfl)];go_simp;refine O.mono ?_;intro e aj hp;obtain⟨d,rfl,Y⟩:=I.c5 hp;refine aa (nA (U (Z d.sb 0 V))) _ _ rfl ⟨?_,KG rfl hI.val⟩;rw[oo,nR D (show 2≠5 by decide),nR D (show 8≠5 by decide),pG,om vs _ (show 2≠5 by decide),om vs _ (show 8≠5 by decide),h2,N];exact Y
  have e3:=(C 3 nO).trans ht3.out;have hB:=hI.oH.cf;obtain⟨c0,c1,c2,c3,c4,c5⟩:=hB.a6;clear hB;rotate_left;have e1:=(C 1 nO).trans ht1.out;rotate_left
  .have hop:=hop.out
   have av:=fe C hI.val E 35 6;have ax:=fe C hI.val E 36 7;simp only[Dx]at av ax;have J:=E 5 nO nN;have h2:=hI.oH.dn.1 J;have I:=hI.oH;rw[hd,h2,J]at I;have O:=hop w I.bw;clear hop;rw[if_pos (by rfl)];go_simp;refine O.mono ?_;intro e aj hp;obtain⟨d,rfl,Y⟩:=I.c8 hp;refine aa (nA (U (Z d.sb 0 V))) _ _ rfl ⟨?_,KG rfl hI.val⟩;rw[oo,nR D (show 2≠8 by decide),nR D (show 5≠8 by decide),pG,om vs _ (show 2≠8 by decide),om vs _ (show 5≠8 by decide),h2,J];exact Y
  all_goals
   go_simp;exact aa _ _ _ rfl ⟨hI.oH,uK hI.val⟩
 .intro D vs w ae hI
  have E:=hI.oH;rw[ae 2 nO]at E;rw[ae 5 nO]at E;rw[ae 8 nO]at E;have q:=ag vs w E;rw[oW hI.val ae];have e:xy (λj=>if(j !=2&&j !=5&&j !=8)=true then Dx c a1 vM vN j else vs j) (xH.take 9) 0 a0={a0 with tmps:=(((((((((a0.tmps.setIfInBounds 29 (nD #[nk nI c.fmt,nk nK c.mag,nk nI c.pF,nk nI c.qc,nk nI c.dep,nk nI c.oV])).setIfInBounds 30 (ny a1 vM vN)).setIfInBounds 31 (vs 2)).setIfInBounds 32 (nD #[nk nI c.fmt,nk nK c.mag,nk nI c.pF,nk nI c.qc,nk nI c.dep,nk nI c.oV])).setIfInBounds 33 (ny a1 vM vN)).setIfInBounds 34 (vs 5)).setIfInBounds 35 (nD #[nk nI c.fmt,nk nK c.mag,nk nI c.pF,nk nI c.qc,nk nI c.dep,nk nI c.oV])).setIfInBounds 36 (ny a1 vM vN)).setIfInBounds 37 (vs 8))}:=by
   dsimp+instances only[xH,cO,cL,cR,cB,Tryz.f7];simp only[ky,kL,xy,kE];rfl
  rw[e];exact q
end
end
section
open Go.RowKit Go.ChangeShapes Go.WideShapes Go.Deep
section
variable {H:Type}{enc:ko×jP->H}{P:ma}{w:jJ}{base:Nat}{spare:Nat->Bool}{held:Bool}
theorem LC{t e:ko}{A:Array Field}{a:Option lH}{len cap:Nat}{d:DataW H}{p:List MemPlace}(ht:P.underlying t=U (.slice e))(he:P.underlying e=U (.struct A))(af:oneCellFields P A=true)(aA:P.cellsOf e=A.size)(E:0<A.size)(h:DataW.Trod enc P w base spare held t (.slice a len cap) d p):
  len<=j3/\∀i,i<len->∃b off,a=U (Z b off V)/\b<w.heap.size/\
   ∀(j:Nat)(f:Field),A[j]? =U f->∃(v:jP) (y:DataW H×List MemPlace) (n:Nat),w.cell? (Z b (off+(i*A.size+j)) V)=U v/\lT enc P w base spare held n f.type [v]=U y:=by
 obtain⟨fuel,aB⟩:=h;rcases open_slice ht aB with⟨h0,_⟩|⟨ai,aC,aD,m,n,D,aM,Y,hb,hl,aF,aj,aN,hi⟩
 .simp[Value.cells]at h0
  exact⟨nL,λi hi=>by omega⟩
 .simp[Value.cells]at Y
  obtain⟨rfl,rfl,rfl⟩:=Y;have aI:len<=m:=by rw[aj];split<;>omega
  have key:∀i,i<len->∀(j:Nat)(f:Field),A[j]? =U f->∃(v:jP) (y:DataW H×List MemPlace) (n:Nat),w.cell? (ai.add (i*A.size+j))=U v/\lT enc P w base spare held n f.type [v]=U y:=by
   intro i aa j f I;obtain⟨C,hc,ak⟩:=hi i nL;rw[aA]at hc;obtain⟨ys,aG,aJ,aO,hlen,aK,au⟩:=DataW.trod_struct he ak;obtain⟨_,aL,av⟩:=World.cells?_some hc;obtain⟨ho,hk⟩:=hone_of af j f I;have ax:j<A.size:=(ku.1 I).1;have N:=av j ax;have aH:C[j]? =U (C[j]' nL):=jW nL;have h1:=au j f I;rw[ho,hk]at h1;have O:(C.drop j).take 1=[C[j]' nL]:=by
    rw[List.drop_eq_getElem_cons nL];rfl
   rw[O]at h1;have ay:ys[j]? =U (ys[j]' nL):=jW nL;refine⟨_,_,aG,?_,h1.trans ay⟩;rw[<-Go.Deep.add_add,N,aH]
  obtain⟨b,off,ag⟩:=ai;refine⟨jY hl aF,λi aa=> ?_⟩;have az:A[0]? =U (A[0]'E):=Array.getElem?_eq_getElem E;obtain⟨v,y,aP,ae,_⟩:=key 0 nL 0 _ az;have Q:ag=V:=by simpa [Addr.add]using World.cell?_spot ae
  subst Q;have J:∀k,((Z b off V):lH).add k=(Z b (off+k) V):=λk=>by unfold Addr.add;split<;>simp_all
  refine⟨b,off,rfl,?_,λj f I=> ?_⟩
  .rcases kZ b w.heap.size with ah|ah
   .exact ah
   .simp[mI,J,mZ ah]at ae
  .obtain⟨v,y,n1,h1,h2⟩:=key i aa j f I
   rw[J]at h1;exact⟨v,y,n1,h1,h2⟩
theorem vo{t:ko}{n:Nat}{v:jP}{y:DataW H×List MemPlace}(ht:P.underlying t=U (.int k))(h:lT enc P w base spare held n t [v]=U y):
  ∃x:Int,v=nk k x/\(lI k x).wf=true:=by
 obtain⟨a,A,rfl,wa⟩:=DataW.trod_int ht h;simp at A;exact⟨a,A,wa⟩
theorem uN{t:ko}{n:Nat}{v:jP}{y:DataW H×List MemPlace}(ht:P.underlying t=U .string)(h:lT enc P w base spare held n t [v]=U y):
  ∃s:ByteArray,v=nz s/\s.size<=j3:=by
 obtain⟨a,A,rfl,wa⟩:=DataW.trod_string ht h;simp at A;exact⟨a,A,wa⟩
end
end
section
open Go.RowKit Go.ChangeShapes Go.WideShapes
end
section
open Go.RowKit Go.ChangeShapes Go.WideShapes Go.Deep
theorem Te{p:Prop}(h:p:=by
 rw[hone']at h1;have hys:ys[j]? =U (ys[j]'(by simp at hyl;omega)):=jW _;exact⟨_,_,hv,h1.trans hys⟩):p:=h
theorem ZN{H:Type}{enc:ko×jP->H}{P:ma}{w:jJ}{base:Nat}{spare:Nat->Bool}{held:Bool}{t:ko}{C f1 f2 f3 f4 E:Field}{cs:Array jP}{d:DataW H}{p:List MemPlace}(ht:P.underlying t=U (.struct #[C,f1,f2,f3,f4,E]))(J:oneCellFields P #[C,f1,f2,f3,f4,E]=true)(O:P.cellsOf t=6)(Y:P.underlying C.type=U (.int .i64))(e1:P.underlying f1.type=U (.int .u32))(e2:P.underlying f2.type=U (.int .i64))(e3:P.underlying f3.type=U (.int .i64))(e4:P.underlying f4.type=U (.int .i64))(e5:P.underlying E.type=U (.int .i64))(h:DataW.Trod enc P w base spare held t (.agg cs) d p):∃q:oF,cs=q.cs/\q.wf:=by
 obtain⟨fuel,aa⟩:=h;obtain⟨ys,ae,ak,av,hlen,hyl,Q⟩:=DataW.trod_struct ht aa;have key:∀(j:Nat)(f:Field),#[C,f1,f2,f3,f4,E][j]? =U f->∃(v:jP) (y:DataW H×List MemPlace),cs.toList[j]? =U v/\lT enc P w base spare held ae f.type [v]=U y:=by
  intro j f N;obtain⟨ho,hk⟩:=hone_of J j f N;have au:j<6:=(ku.1 N).1;have A:(Value.agg cs).cells.toList.length=6:=hlen.trans O;have I:cs.toList.length=6:=by simpa [Value.cells]using A
  have h1:=Q j f N;rw[ho,hk]at h1;have hv:cs.toList[j]? =U (cs.toList[j]' nL):=jW nL;have hone':((Value.agg cs).cells.toList.drop j).take 1=[cs.toList[j]' nL]:=by
   show(cs.toList.drop j).take 1=_;rw[List.drop_eq_getElem_cons nL];rfl
  exact Te
 have A:(Value.agg cs).cells.toList.length=6:=hlen.trans O;have I:cs.toList.length=6:=by simpa [Value.cells]using A
 obtain⟨v0,ax,c0,t0⟩:=key 0 _ rfl;obtain⟨v1,ay,c1,af⟩:=key 1 _ rfl;obtain⟨v2,y2,c2,ag⟩:=key 2 _ rfl;obtain⟨v3,az,c3,t3⟩:=key 3 _ rfl;obtain⟨v4,aA,c4,t4⟩:=key 4 _ rfl;obtain⟨v5,aB,c5,t5⟩:=key 5 _ rfl;obtain⟨ah,rfl,w0⟩:=vo Y t0;obtain⟨x1,rfl,w1⟩:=vo e1 af;obtain⟨x2,rfl,w2⟩:=vo e2 ag;obtain⟨x3,rfl,w3⟩:=vo e3 t3;obtain⟨ai,rfl,w4⟩:=vo e4 t4;obtain⟨aj,rfl,w5⟩:=vo e5 t5;refine⟨⟨ah,x1,x2,x3,ai,aj⟩,?_,w0,w1,w2,w3,w4,w5⟩;have:cs=⟨cs.toList⟩:=nS;rw[this];generalize cs.toList=l at*
 match l,I with
 |[a,b,c,e,f,g],_=>
  simp at c0 c1 c2 c3 c4 c5;subst c0 c1 c2 c3 c4 c5;rfl
def QV(w:jJ)(a:Option lH)(len cap:Nat)(A:List wV):Prop:=
 Io w (ny a len cap) A/\∀e,e∈A->e.nm.size<=j3/\e.tx.size<=j3/\e.id<18446744073709551616
theorem JO{H:Type}{enc:ko×jP->H}{P:ma}{w:jJ}{base:Nat}{spare:Nat->Bool}{held:Bool}{t e:ko}{a:Option lH}{len cap:Nat}{d:DataW H}{p:List MemPlace}(ht:P.underlying t=U (.slice e))(h:DataW.Trod enc P w base spare held t (.slice a len cap) d p):len<=cap/\cap<=j3:=by
 obtain⟨fuel,C⟩:=h;rcases open_slice ht C with⟨h0,_⟩|⟨O,E,I,m,n,D,Q,A,hb,hl,J,N,Y,hi⟩
 .simp[Value.cells]at h0
  unfold j3;omega
 .simp[Value.cells]at A
  obtain⟨rfl,rfl,rfl⟩:=A;exact⟨hl,J⟩
theorem ZO{p:Prop}(h:p:=by
 obtain⟨x,hx⟩:=h n nL;refine⟨es++[x],by simp[h1],λi e he=> ?_⟩;by_cases hi:i<n
 .rw[List.getElem?_append_left nL]at he
  exact h2 i e he
 .rw[List.getElem?_append_right nL,h1]at he
  have:i - n=0:=by
   rcases Nat.eq_zero_or_pos (i - n)with h|h
   .exact h
   .rw[List.getElem?_eq_none nT]at he;cases he
  rw[this]at he;simp at he;subst he;rw[show i=n by omega];exact hx):p:=h
theorem Tf{p:Nat->wV->Prop}:∀n:Nat,(∀i,i<n->∃e,p i e)->∃es:List wV,es.length=n/\∀i e,es[i]? =U e->p i e
 |0,_=>⟨[],rfl,λi e h=>by simp at h⟩
 |n+1,h=>by
  obtain⟨es,h1,h2⟩:=Tf n λi hi=>h i nL
  exact ZO
theorem Vu{H:Type}{enc:ko×jP->H}{P:ma}{w:jJ}{base:Nat}{spare:Nat->Bool}{held:Bool}{t e:ko}{E f1 f2:Field}{a:Option lH}{len cap:Nat}{d:DataW H}{p:List MemPlace}(ht:P.underlying t=U (.slice e))(he:P.underlying e=U (.struct #[E,f1,f2]))(I:oneCellFields P #[E,f1,f2]=true)(Y:P.cellsOf e=3)(aa:P.underlying E.type=U (.int .u64))(e1:P.underlying f1.type=U .string)(e2:P.underlying f2.type=U .string)(h:DataW.Trod enc P w base spare held t (.slice a len cap) d p):∃J,QV w a len cap J:=by
 obtain⟨ai,O⟩:=JO ht h;obtain⟨hl,hi⟩:=LC ht he I Y (show 0<3 by decide) h;obtain⟨J,hlen,C⟩:=Tf (p:=λi e=>(∃b off,a=U (Z b off V)/\b<w.heap.size/\w.cell? (Z b (off+i*3) V)=U (nk nJ e.id)/\w.cell? (Z b (off+i*3+1) V)=U (nz e.nm)/\w.cell? (Z b (off+i*3+2) V)=U (nz e.tx))/\e.nm.size<=j3/\e.tx.size<=j3/\e.id<18446744073709551616) len λi Q=>by
  obtain⟨b,off,ae,hb,N⟩:=hi i Q;obtain⟨v0,aj,ak,c0,t0⟩:=N 0 _ rfl;obtain⟨v1,au,n1,c1,af⟩:=N 1 _ rfl;obtain⟨v2,y2,n2,c2,ag⟩:=N 2 _ rfl;obtain⟨A,rfl,w0⟩:=vo aa t0;obtain⟨x1,rfl,w1⟩:=uN e1 af;obtain⟨x2,rfl,w2⟩:=uN e2 ag;have av:0<=A/\A<18446744073709551616:=by
   simp only[Lit.wf,j4,decide_eq_true_eq]at w0;have h1:IntKind.u64.min=0:=rfl;have h2:IntKind.u64.max=18446744073709551615:=rfl;rw[h1,h2]at w0;omega
  exact⟨⟨A.toNat,x1,x2⟩,⟨b,off,ae,hb,by rw[show((A.toNat:Nat):Int)=A by omega];simpa using c0,by simpa [kR]using c1,by simpa [kR]using c2⟩,w1,w2,by show A.toNat<_;omega⟩
 refine⟨J,⟨a,cap,by rw[hlen],nL,O,λi e h=>(C i e h).1⟩,λe ah=> ?_⟩;obtain⟨i,h⟩:=List.getElem?_of_mem ah;exact(C i e h).2
theorem Ow{H:Type}{enc:ko×jP->H}{P:ma}{w:jJ}{base:Nat}{spare:Nat->Bool}{held:Bool}{t:ko}{A f1 f2:Field}{fuel:Nat}{cs:List jP}{x:DataW H×List MemPlace}(ht:P.underlying t=U (.struct #[A,f1,f2]))(C:oneCellFields P #[A,f1,f2]=true)(O:P.cellsOf t=3)(Q:P.underlying A.type=U .string)(e1:P.underlying f1.type=U .bool)(Y:lT enc P w base spare held fuel t cs=U x):
  ∃a v n y,n<fuel/\cs=sU.cells a v/\sU.ok a/\lT enc P w base spare held n f2.type [v]=U y:=by
 obtain⟨ys,I,af,ah,hlen,hyl,J⟩:=DataW.trod_struct ht Y;have N:cs.length=3:=hlen.trans O;have key:∀(j:Nat)(f:Field),#[A,f1,f2][j]? =U f->∃(v:jP) (y:DataW H×List MemPlace),cs[j]? =U v/\lT enc P w base spare held I f.type [v]=U y:=by
  intro j f E;obtain⟨ho,hk⟩:=hone_of C j f E;have ag:j<3:=(ku.1 E).1;have h1:=J j f E;rw[ho,hk]at h1;have hv:cs[j]? =U (cs[j]' nL):=jW nL;have hone':(cs.drop j).take 1=[cs[j]' nL]:=by
   rw[List.drop_eq_getElem_cons nL];rfl
  exact Te
 obtain⟨v0,ai,c0,t0⟩:=key 0 _ rfl;obtain⟨v1,aj,c1,aa⟩:=key 1 _ rfl;obtain⟨v2,y2,c2,ae⟩:=key 2 _ rfl;obtain⟨S,rfl,w0⟩:=uN Q t0;obtain⟨bo,Ik,_⟩:=DataW.trod_bool e1 aa;obtain rfl:v1=nC bo:=by simpa using Ik
 refine⟨⟨S.data.toList,bo⟩,v2,I,y2,nL,?_,?_,ae⟩
 .match cs,N with
  |[a,b,c],_=>
   simp at c0 c1 c2;subst c0 c1 c2;rfl
 .show S.data.toList.length<=j3
  simpa using w0
theorem H6{H:Type}{enc:ko×jP->H}:WH sU jI 47 45 H enc where
 hst:=Tryz.underlying45
 hk:=nN
 pos:=nO
 hop:=λw base spare held fuel cs x h=>Ow Tryz.underlying47 nN nN mH Tryz.underlying4 h
theorem ZP{H:Type}{enc:ko×jP->H}{w:jJ}{base:Nat}{spare:Nat->Bool}{held:Bool}{cs:Array jP}{d:DataW H}{p:List MemPlace}(h:DataW.Trod enc jI w base spare held 49 (nD cs) d p):
  ∃(x:ByteArray×nM IL) (v:jP),cs=#[nz x.1,nz (txt x.2.lab),nC x.2.lab.list,v]/\x.1.size<=j3/\(pJ w v x.2.sub/\x.2.lab.text.length<=j3/\x.1.size<=j3):=by
 obtain⟨fuel,Q⟩:=h;obtain⟨ys,I,ae,af,hlen,J,A⟩:=DataW.trod_struct Tryz.underlying49 Q;have N:(Value.agg cs).cells.toList.length=4:=hlen.trans nN;have O:cs.toList.length=4:=by simpa [Value.cells]using N
 have Y:ys.length=2:=J;have h0:=A 0 _ rfl;have h1:=A 1 _ rfl;rw[jW nL]at h0 h1;have aa:((Value.agg cs).cells.toList.drop 0).take (Tryz.prog.cellsOf 9)=cs.toList.take 1:=by
  rw[show Tryz.prog.cellsOf 9=1 by kernel_rfl];simp[Value.cells]
 have e1:((Value.agg cs).cells.toList.drop 1).take (Tryz.prog.cellsOf 47)=(cs.toList.drop 1).take 3:=by
  rw[show Tryz.prog.cellsOf 47=3 by kernel_rfl];simp[Value.cells]
 have h0:lT enc jI w base spare held I 9 (cs.toList.take 1)=_:=(congrArg _ aa).symm.trans h0;have h1:lT enc jI w base spare held I 47 ((cs.toList.drop 1).take 3)=_:=(congrArg _ e1).symm.trans h1;obtain⟨v0,v1,v2,v3,hc⟩:∃v0 v1 v2 v3,cs.toList=[v0,v1,v2,v3]:=by
  generalize cs.toList=l at*
  match l,O with
  |[a,b,c,e],_=>exact⟨a,b,c,e,rfl⟩
 rw[hc]at h0 h1;obtain⟨S,rfl,w0⟩:=uN mH h0;obtain⟨a,v,n,y,hn,C,hok,hy2⟩:=H6.hop _ _ _ _ _ _ _ h1;obtain⟨s,hs⟩:=H6.subs n v y hy2;refine⟨(S,.node a s),v,?_,w0,hs,hok,w0⟩;have E:[v1,v2,v3]=sU.cells a v:=C;have:cs=⟨cs.toList⟩:=nS;rw[this,hc,E];rfl
structure OpV where
 fd:Bool
 tx:ByteArray
 nm:ByteArray
 x:nM IL
def opC(o:OpV)(v:jP):List jP:=[nC o.fd,nz o.tx,nz o.nm,nz (txt o.x.lab),nC o.x.lab.list,v]
def Vv(w:jJ)(a:Option lH)(i:Nat)(o:OpV):Prop:=∃b off v,a=U (Z b off V)/\b<w.heap.size/\(∀j,j<6->w.cell? (Z b (off+(i*6+j)) V)=(opC o v)[j]?)/\pJ w v o.x.sub
def Tg(w:jJ)(a:Option lH)(len cap:Nat)(L:List OpV):Prop:=len=L.length/\len<=cap/\cap<=j3/\(∀i o,L[i]? =U o->Vv w a i o)/\∀o,o∈L->o.tx.size<=j3/\o.nm.size<=j3/\o.x.lab.text.length<=j3
theorem Vv.below{w w':jJ}{a:Option lH}{i:Nat}{o:OpV}(h:Vv w a i o)(hb:jS w.heap.size w w'):Vv w' a i o:=by
 obtain⟨b,off,v,rfl,hlt,hc,hs⟩:=h;exact⟨b,off,v,rfl,kG hlt hb.size,λj A=>(hb.cell (p:=(Z b (off+(i*6+j)) V)) hlt).trans (hc j A),Shape.nX.below hs hb⟩
theorem Ox{α:Type}{p:Nat->α->Prop}:∀n:Nat,(∀i,i<n->∃e,p i e)->∃es:List α,es.length=n/\∀i e,es[i]? =U e->p i e
 |0,_=>⟨[],rfl,λi e h=>by simp at h⟩
 |n+1,h=>by
  obtain⟨es,h1,h2⟩:=Ox n λi hi=>h i nL
  exact ZO
theorem QW{H:Type}{enc:ko×jP->H}{P:ma}{w:jJ}{base:Nat}{spare:Nat->Bool}{held:Bool}{t:ko}{n:Nat}{v:jP}{y:DataW H×List MemPlace}(ht:P.underlying t=U .bool)(h:lT enc P w base spare held n t [v]=U y):
  ∃b:Bool,v=nC b:=by
 obtain⟨a,A,_⟩:=DataW.trod_bool ht h;simp at A;exact⟨a,A⟩
theorem ZQ{H:Type}{enc:ko×jP->H}{w:jJ}{base:Nat}{spare:Nat->Bool}{held:Bool}{a:Option lH}{len cap:Nat}{d:DataW H}{p:List MemPlace}(h:DataW.Trod enc jI w base spare held 71 (ny a len cap) d p):∃L,Tg w a len cap L:=by
 obtain⟨ae,af⟩:=JO Tryz.underlying71 h;obtain⟨fuel,ay⟩:=h;have key:∀i,i<len->∃o:OpV,Vv w a i o/\o.tx.size<=j3/\o.nm.size<=j3/\o.x.lab.text.length<=j3:=by
  rcases open_slice Tryz.underlying71 ay with⟨h0,_⟩|⟨az,aA,aB,m,n,D,aK,A,hb,hl,aL,ag,aM,hi⟩
  .simp[Value.cells]at h0
   intro i hi;omega
  .simp[Value.cells]at A
   obtain⟨rfl,rfl,rfl⟩:=A;have aG:len<=m:=by rw[ag];split<;>omega
   intro i aH;obtain⟨N,hc,ah⟩:=hi i nL;rw[show Tryz.prog.cellsOf 74=6 by kernel_rfl]at hc;obtain⟨ys,I,aI,aN,hlen,ai,C⟩:=DataW.trod_struct Tryz.underlying74 ah;obtain⟨_,aj,O⟩:=World.cells?_some hc;have aC:ys.length=3:=ai;have h0:=C 0 _ rfl;have h1:=C 1 _ rfl;have h2:=C 2 _ rfl;rw[jW nL]at h0 h1 h2;obtain⟨v0,v1,v2,v3,v4,v5,rfl⟩:∃v0 v1 v2 v3 v4 v5,N=[v0,v1,v2,v3,v4,v5]:=by
    match N,aj with
    |[a,b,c,d,e,f],_=>exact⟨a,b,c,d,e,f,rfl⟩
   have aD:([v0,v1,v2,v3,v4,v5].drop 0).take (Tryz.prog.cellsOf 4)=[v0]:=by
    rw[show Tryz.prog.cellsOf 4=1 by kernel_rfl];rfl
   have e1:([v0,v1,v2,v3,v4,v5].drop 1).take (Tryz.prog.cellsOf 9)=[v1]:=by
    rw[show Tryz.prog.cellsOf 9=1 by kernel_rfl];rfl
   have e2:([v0,v1,v2,v3,v4,v5].drop 2).take (Tryz.prog.cellsOf 49)=[v2,v3,v4,v5]:=by
    rw[show Tryz.prog.cellsOf 49=4 by kernel_rfl];rfl
   have h0:lT enc jI w base spare held I 4 [v0]=_:=(congrArg _ aD).symm.trans h0;have h1:lT enc jI w base spare held I 9 [v1]=_:=(congrArg _ e1).symm.trans h1;have h2:lT enc jI w base spare held I 49 [v2,v3,v4,v5]=_:=(congrArg _ e2).symm.trans h2;obtain⟨B,rfl⟩:=QW Tryz.underlying4 h0;obtain⟨S,rfl,w1⟩:=uN mH h1;obtain⟨⟨nm,x⟩,v,A,_,hs,ak,au⟩:=ZP (cs:=#[v2,v3,v4,v5]) ⟨I,h2⟩;injection A with A
   injection A with e2 A
   injection A with e3 A
   injection A with e4 A
   injection A with e5 _
   subst e2 e3 e4 e5;obtain⟨b,off,Y⟩:=az;have av:=O 0 nL;have J:Y=V:=by
    obtain⟨c0,Q,_⟩:=hi 0 nL;rw[show Tryz.prog.cellsOf 74=6 by kernel_rfl]at Q;obtain⟨_,aJ,ax⟩:=World.cells?_some Q;have h:=ax 0 nL;rw[jW nL]at h;simpa [Addr.add]using World.cell?_spot h
   subst J;have E:∀k,((Z b off V):lH).add k=(Z b (off+k) V):=λk=>by unfold Addr.add;split<;>simp_all
   refine⟨⟨B,S,nm,x⟩,⟨b,off,_,rfl,?_,λj aO=> ?_,hs⟩,w1,au,ak⟩
   .rcases kZ b w.heap.size with aa|aa
    .exact aa
    .have aF:w.cell? (((Z b (off+i*6) V):lH).add 0)=U (nC B):=(congrArg (λq=>w.cell? (Addr.add q 0)) (E (i*6))).symm.trans av
     simp[mI,Addr.add,mZ aa]at aF
   .have:=O j nL
    rw[E,show((Z b (off+i*6) V):lH).add j=(Z b (off+i*6+j) V)by unfold Addr.add;split<;>simp_all]at this;rw[<-kR,this];rfl
 obtain⟨L,hL,hp⟩:=Ox len key;refine⟨L,hL.symm,ae,af,λi o h=>(hp i o h).1,λo ho=> ?_⟩;obtain⟨i,h⟩:=List.getElem?_of_mem ho;exact(hp i o h).2
end
section
open Go.RowKit
def okO(L:List OpV):Prop:=L.length<=200/\(∀o,o∈L->o.nm.size<=100/\vT o.x=false)/\Cf (L.map λo=>o.tx)<=1500
def GrO(L:List OpV)(w:jJ)(e:Ending)(w':jJ):Prop:=∃R:Bool,e=nG (nC R)/\(R=false->okO L)/\jS w.heap.size w w'
theorem a2o{L:List OpV}{w w':jJ}(h:jS w.heap.size w w'):GrO L w (nG (nC true)) w':=⟨true,rfl,(λh=>by cases h),h⟩
theorem QX(a:Option lH)(n cap:Nat)(L:List OpV)(w:jJ)(hs:Tg w a n cap L):
  jV jI 24 #[ny a n cap] w (GrO L w):=by
 obtain⟨h1,h2,aA,aB,aC⟩:=hs;have bz:n<=9223372036854775807:=by unfold j3 at aA;omega
 obtain⟨Y,aa⟩:=nV (GrO L w);have aR:=jH aa;have av:=jH h1;have aS:=jH aB;have aT:=jH aC;have ae:jX (∀W,jS w.heap.size w W->Y (nG (nC true)) W):=jH λW h=>aa▸a2o h
 rw[aa];clear aa h1 h2 aA aB aC;by_cases aU:200<n
 .have t0:decide ((n:Int)>200)=true:=nT
  go_in;go_wp2_with fail;try go_returns
  exact ae _ (jT _ _)
 have ax:jX (n<=200):=jH nL;go_in;go_wp2_with fail;go_loopw [3,4] (λaV iv aW=>∃i A:Nat,iv=nk nI i/\aV=nk nI A/\i<=n/\A<=10000/\jX (A=min (Cf ((L.take i).map λo=>o.tx)) 10000)/\jX (∀o,o∈L.take i->o.nm.size<=100/\vT o.x=false)/\jX (jS w.heap.size w aW)) (λ_ iv _=>n -(kT iv).toNat);case atStart=>exact⟨0,0,rfl,rfl,nL,nL,jH (by simp[Cf]),jH (λo h=>by simp at h),jH (jT _ _)⟩
 case round=>
  obtain⟨i,A,rfl,rfl,hi,bC,aD,aF,Q⟩:=hrel;by_cases c:i<n
  .obtain⟨o,ho⟩:∃o,L[i]? =U o:=⟨_,jW (by rw[<-av.out];exact c)⟩
   obtain⟨b,off,v,rfl,hlt,C,E⟩:=(aS i o ho).below Q.out;obtain⟨ag,ah,ai⟩:=aT.out o (kK ho);have I:=JL (ss:=L.map λo=>o.tx) (i:=i) (s:=o.tx) (by rw[List.getElem?_map,ho];rfl);rw[<-List.map_take,<-List.map_take]at I;have aj:jX (o.nm.size<=100->vT o.x=false->∀q,q∈L.take (i+1)->q.nm.size<=100/\vT q.x=false):=jH λh1 h2 q J=>by
    rw[mY,ho]at J;rcases List.mem_append.1 J with J|J
    .exact aF q J
    .simp at J
     subst J;exact⟨h1,h2⟩
   obtain⟨fd,s,nm,x⟩:=o;dsimp only at*;obtain⟨aG,aH,rfl,aI,aJ⟩:=nW.slice E;have bA:s.size<=9223372036854775807:=by unfold j3 at ag;omega
   have bB:nm.size<=9223372036854775807:=by unfold j3 at ah;omega
   obtain⟨N,aK⟩:∃m:Nat,m=min s.size 10000:=⟨_,rfl⟩;obtain⟨m2,hm2⟩:∃m:Nat,m=min (A+N) 10000:=⟨_,rfl⟩;have aL:jX (m2=min (Cf ((L.take (i+1)).map λo=>o.tx)) 10000):=jH (by have:=aD.out;rw[I];omega);have aX:N<=10000:=nL;have aY:m2<=10000:=nL;have e1:(if(10000:Int)<(s.size:Int)then(10000:Int)else(s.size:Int))=(N:Int):=by split<;>omega
   have e2:(if(10000:Int)<(A:Int)+(N:Int)then(10000:Int)else(A:Int)+(N:Int))=(m2:Int):=by split<;>omega
   have e3:min (s.size:Int) (10000:Int)=(N:Int):=nL;have e4:min ((A:Int)+(N:Int)) (10000:Int)=(m2:Int):=nL;have f1:wr.cell? (Z b (off+i*6+1) V)=U (nz s):=C 1 nO;have x2:wr.cell? (Z b (off+i*6+2) V)=U (nz nm):=C 2 nO;have x3:wr.cell? (Z b (off+i*6+2+1) V)=U (nz (txt x.lab)):=C 3 nO;have aZ:wr.cell? (Z b (off+i*6+2+1+1) V)=U (nC x.lab.list):=C 4 nO;have bg:wr.cell? (Z b (off+i*6+2+1+2) V)=U (ny aG x.sub.length aH):=C 5 nO;have aM:=jH (QR x wr (ny aG x.sub.length aH) E ai);have aN:jX (∀W,jS wr.heap.size wr W->jS w.heap.size w W):=jH λW h=>Q.trans (h.mono Q.size)
   obtain⟨bq,ak⟩:=nV (vT x);rw[ak]at aj aM;clear C E ag ah ai I aK hm2 hlt ho aI aJ ak;by_cases O:100<nm.size
   .have t0:decide ((nm.size:Int)>100)=true:=nT
    have ay:decide ((100:Int)<(nm.size:Int))=true:=nT;have af:=jH (ae _ Q);clear O;go_wp2_with fail;try go_returns
    exact af
   have t0:decide ((nm.size:Int)>100)=false:=nT;have ay:decide ((100:Int)<(nm.size:Int))=false:=nT;have az:=jH O;clear O;go_wp2_with fail;refine aM.mono ?_;rintro e w2 ⟨rfl,hb⟩;have af:=jH (aN _ hb);clear x2 x3 aZ bg f1 hb;cases bq with
   |true=>
    have aO:=jH (ae _ af);go_wp2_with fail;try go_returns
    exact aO
   |false=>
    have aP:=jH (aj (by have:=az.out;omega) rfl);go_wp2_with fail;go_roundw;case rel=>exact⟨i+1,m2,by go_num,by go_num,nL,nL,aL,aP,af⟩
    case measure=>simp[kT];omega
  .obtain rfl:i=n:=nL
   have aQ:jX (A=min (Cf (L.map λo=>o.tx)) 10000/\∀o,o∈L->o.nm.size<=100/\vT o.x=false):=jH (by
    have h1:=aD.out;have h2:=aF.out;rw[av.out,l9]at h1 h2;exact⟨h1,h2⟩)
   by_cases au:1500<A
   .have t0:decide ((A:Int)>1500)=true:=nT
    have ay:decide ((1500:Int)<(A:Int))=true:=nT;clear au;go_wp2_with fail;try go_returns
    exact ae _ Q.out
   .have t0:decide ((A:Int)>1500)=false:=nT
    have ay:decide ((1500:Int)<(A:Int))=false:=nT;have bu:jX (Y (nG (nC false)) wr):=jH (by
     rw[<-aR.out];exact⟨false,rfl,λ_=>⟨by have:=ax.out;have:=av.out;omega,aQ.2,by have:=aQ.1;omega⟩,Q.out⟩)
    clear au;go_wp2_with fail;try go_returns
    exact bu
def cA:oF:=⟨3,0,50,50,2,9⟩
def vV:ByteArray:=⟨#[112,105,110,103]⟩
def u8A:ByteArray:=⟨#[117,56]⟩
def eA:wV:=⟨5,vV,u8A⟩
def tyA:nM TL:=.node ⟨1,1,0⟩ []
def A9:Row:=⟨5,vV,u8A,tyA⟩
def xA:nM IL:=.node ⟨[7],false⟩ []
def xI:ByteArray:=⟨#[4,5,1,0,7]⟩
theorem b3s:uZ cA [eA]=.ok [A9]:=by rfl
theorem a7o:zf tyA xA 2 9=0:=by rfl
theorem b3t:Dw xA=⟨#[7]⟩:=by rfl
theorem a7p:J3 5 ⟨#[1,0,7]⟩=xI:=by
 unfold J3;rw[qP 5 nO];show(⟨(oI 4).toArray⟩:ByteArray)++_++_=_;rw[qP 4 nO];rfl
theorem a7q:(Ux (sW 50 50 xI V).1).e=0:=by rfl
theorem a7r(mb:Nat):∃nd,sS cA [A9] mb [] 0 0 xI=([⟨vV,xA⟩],[],nd,0):=⟨_,by rfl⟩
theorem QY(w:jJ):pJ w (ny V 0 0) []:=⟨V,0,rfl,jK _,kH _,λh=>absurd h nS⟩
theorem wfA:cA.wf:=⟨rfl,rfl,rfl,rfl,rfl,rfl⟩
theorem ZR:oJ cA=true:=by rfl
theorem a4U:([A9]:List Row).find? (λr=>decide (r.name=vV))=U A9:=by simp[A9]
theorem b3u:wZ cA tyA xA=(⟨#[7]⟩,0):=by
 unfold wZ;rw[if_neg nO,show zf tyA xA cA.dep cA.oV=0 from a7o,if_pos rfl,b3t]
theorem a4V:yA ⟨#[7]⟩=⟨#[1,0,7]⟩:=by
 have h:uM [7] 1 (yx [7])=⟨1,0,oI 1,[]⟩:=rfl;show(⟨((uM [7] 1 (yx [7])).out++zt (([7]:List UInt8).drop (uM [7] 1 (yx [7])).pend)).toArray⟩:ByteArray)=_;rw[h,qP 1 nO];rfl
theorem a7s:xG cA [A9] vV xA=(xI,0):=by
 have he:Oq cA [A9] vV xA=(⟨5,⟨#[]⟩,⟨#[7]⟩⟩,0):=by
  unfold Oq;rw[a4U];show Ac cA (U A9) (wZ cA tyA xA).1 (wZ cA tyA xA).2.toNat=_;rw[b3u];rfl
 have hp:zu cA ⟨5,⟨#[]⟩,⟨#[7]⟩⟩=(xI,0):=by
  unfold zu;rw[if_neg nO,if_neg nO,if_neg nO];show qM 5 (yA ⟨#[7]⟩)=_;rw[a4V];unfold qM;rw[if_pos (by rw[qP 5 nO];decide),a7p]
 have A:JG cA ⟨5,⟨#[]⟩,⟨#[7]⟩⟩=(xI,0):=by
  unfold JG;rw[hp];have hn:(Ux (qw cA xI V).1).e=0:=a7q;show EN _ xI 0 (Ux (qw cA xI V).1).e=_;rw[hn];rfl
 unfold xG;rw[he,A];rfl
theorem a4W(G sb r bn bi:Nat)(ou:Option lH)(cu:Nat)(w:jJ)(hs:xC w G r sb [] 0 0)(hlt:G<=sb/\G<=w.heap.size)(A:∀W,jS G w W->qi r bn bi cA [⟨A9,ou,cu⟩] W/\pW W/\uV W):
  jV jI 15 #[nA (U (Z sb 0 V)),nD #[nz vV,nz ⟨#[7]⟩,nC false,ny V 0 0]] w λe w'=>e=nG (nE #[nz xI,nk nI 0])/\xC w' G r sb [] 0 0/\jS G w w':=by
 have h:=ZJ G sb r bn bi cA [⟨A9,ou,cu⟩] [] 0 0 vV xA V 0 w ZR wfA hs hlt A (λy C=>by simp at C;subst C;show(5:Nat)<_;decide) nO (QY w) nO (λ_=>by decide);have h2:xG cA (([⟨A9,ou,cu⟩]:List oO).map λy=>y.r) vV xA=(xI,0):=a7s;rw[h2]at h;exact h
theorem Vw(w:jJ)(au:pW w)(av:uV w):jV jI 8 #[] w λe w'=>e=nG (nC true)/\jS w.heap.size w w':=by
 obtain⟨g,hg⟩:=nV w.heap.size;have ax:jX (∀W,w.alloc (nH #[nk nJ 5,nz vV,nz u8A] 67)=W->Io W (ny (U (Z g 0 V)) 1 1) [eA]/\jS g w W/\W.heap.size=g+1):=jH λW aG=>by
  subst aG;have hb:=nP.new w #[nk nJ 5,nz vV,nz u8A] 67;rw[hg]at hb;refine⟨⟨U (Z g 0 V),1,rfl,jK _,nO,λi e he=> ?_⟩,hg▸(jT w.heap.size w).alloc (jK _) _,by simp[hg]⟩;have hi:i=0:=by
   have:=(lF.1 he).1;simpa using this
  subst hi;simp at he;subst he;exact⟨g,0,rfl,by simp[hg],hb.cell 0,hb.cell 1,hb.cell 2⟩
 have Y:1<g:=hg▸au.lt;have aa:0<g:=hg▸av.lt;have E:jX (∀W,jS g w W->pW W/\uV W):=jH λW h=>⟨au.below h Y,av.below h aa⟩
 have az:jX (∀W,Io W (ny (U (Z g 0 V)) 1 1) [eA]->pW W->jV jI 27 #[nD #[nk nI 3,nk nK 0,nk nI 50,nk nI 50,nk nI 2,nk nI 9],ny (U (Z g 0 V)) 1 1] W (Ab cA [eA] W)):=jH λW h1 h2=>
  SC cA [eA] _ W h1 (λe he=>by simp at he;subst he;exact⟨nO,nO,nO⟩) h2
 have aL:jX (vV=⟨#[112,105,110,103]⟩/\u8A=⟨#[117,56]⟩):=jH ⟨rfl,rfl⟩
 have aA:jX (∀G sb r bn bi ou cu w,xC w G r sb [] 0 0->G<=sb/\G<=w.heap.size->(∀W,jS G w W->qi r bn bi cA [⟨A9,ou,cu⟩] W/\pW W/\uV W)->
   jV jI 15 #[nA (U (Z sb 0 V)),nD #[nz ⟨#[112,105,110,103]⟩,nz ⟨#[7]⟩,nC false,ny V 0 0]] w λe w'=>e=nG (nE #[nz xI,nk nI 0])/\xC w' G r sb [] 0 0/\jS G w w'):=jH λG sb r bn bi ou cu w h1 h2 ay=>a4W G sb r bn bi ou cu w h1 h2 ay
 have aM:g<=w.heap.size:=nL;clear au av Y aa;unfold vV u8A at ax;go_in;go_wp2_with fail;obtain⟨ae,I,aN⟩:=ax.out _ rfl;have af:=(E _ I).1;have ag:=jH (az _ ae af);generalize w.alloc _=w1 at*;refine ag.mono ?_;rintro e w2 ⟨ah,h2⟩;rw[b3s]at h2;obtain⟨G,sb,r,bn,bi,L,rfl,hL,aB,hl,J⟩:=h2;obtain⟨ou,cu,rfl⟩:∃ou cu,L=[⟨A9,ou,cu⟩]:=by
  cases L with
  |nil=>simp at hL
  |cons aH L=>
   cases L with
   |nil=>
    obtain⟨r0,ou,cu⟩:=aH;simp at hL;subst hL;exact⟨ou,cu,rfl⟩
   |cons _ _=>simp at hL
 have ai:jX (jS g w w2):=jH (I.trans (ah.mono nL));have N:jX (∀W,jS G w2 W->qi r bn bi cA [⟨A9,ou,cu⟩] W/\pW W/\uV W):=jH λW h=>by
  have ay:jS g w W:=ai.trans (h.mono nL);exact⟨J W h,E W ay⟩
 have O:jX (G<=sb/\G<=w2.heap.size/\g<=G):=jH nL;have aj:=jH (aA G sb r bn bi ou cu w2 aB ⟨O.1,O.2.1⟩ (λW h=>N.out W h));clear I ah hL aB hl J ae af az ag aA ax;go_wp2_with fail;refine aj.mono ?_;rintro e w3 ⟨rfl,ak,A⟩;have aC:jX (jS G w2 w3):=jH A;have aD:=jH (YM G sb r bn bi cA [⟨A9,ou,cu⟩] [] 0 0 xI w3 ZR wfA ak ⟨O.1,by have:=A.size;have:=O.out;omega⟩ nO (λW h=>N.out W (A.trans h)));clear ak A aj;go_wp2_with fail;refine aD.mono ?_;rintro e w4 ⟨mb,lv,Lm,rfl,hF⟩;have hF:NU cA [A9] G r sb mb [] 0 0 xI w3 lv Lm w4:=hF;obtain⟨nd,Jh⟩:=a7r mb;obtain⟨f1,f2,f3,f4⟩:=hF;simp only[mQ,List.map_nil];rw[Jh]at f2 f3⊢;dsimp only at f2 f3⊢;obtain⟨y,rfl,aF⟩:∃y,Lm=[y]/\y.m=⟨vV,xA⟩:=by
  cases Lm with
  |nil=>simp at f2
  |cons y Lm=>
   cases Lm with
   |nil=>simp at f2;exact⟨y,rfl,f2⟩
   |cons _ _=>simp at f2
 obtain⟨oa,cap,rfl⟩:=f1.slice;obtain⟨b,rfl,_,hlt,_,_,C,_⟩:=pQ.at_ f1.1 KY (i:=0) (y:=y) rfl;have Q:=C 0 nO;have aO:w4.cell? (Z b 0 V)=U (nz ⟨#[112,105,110,103]⟩):=by
  have:(mcl y)[0]? =U (nz vV):=by unfold mcl;rw[aF];rfl
  rw[this]at Q;have aI:w4.cell? (Z b 0 V)=U (nz vV):=by simpa using Q
  exact aI
 have aJ:=jH (Lf G r sb [] nd 0 w4 f3);have aK:jX (jS g w w4):=jH (ai.trans ((aC.trans f4).mono (by have:=O.out;omega)));clear f1 f2 f3 f4 Jh aF hlt C aD Q;simp only[kF,List.length_nil];go_wp2_with fail;refine aJ.mono ?_;rintro e w5 ⟨rfl,rfl⟩;go_wp2_with fail;try go_returns
 exact⟨rfl,by rw[hg];exact aK.out⟩
theorem Al{P:ma}{W:jJ}{name:String}{zs:List Int}{g:Nat}{t e:ko}{n:Nat}(hg:P.globalNamed name=U g)(A:(P.globals[g]?).map (·.type)=U t)(ht:P.underlying t=U (.array n e))(he:P.underlying e=U (.int k))(C:P.cellsOf e=1)(E:P.cellsOf t=n):
  ∀{l:List (String×DataW Unit)}{ps:List MemPlace},DataW.LaidVars P W l ps->(name,Lib.tabData k zs)∈l->Lib.TabIs P W name k zs
 |[],_,_,h=>by cases h
 |(m,d)::l,ps,hl,h=>by
  obtain⟨Q,Y,cs,fuel,p,q,J,N,I,hd,O,_⟩:=hl;rcases mM.1 h with h|h
  .obtain⟨rfl,rfl⟩:=Prod.mk.inj h
   obtain rfl:=l8 (hg.symm.trans J);obtain rfl:=l8 (A.symm.trans N);unfold Lib.TabIs;rw[I,<-Lib.cells_of_tab ht he C E hd]
  .exact Al hg A ht he C E O h
theorem a2T:Tryz.prog.globalNamed "hatchway/schema.uintSizes" =U 1:=nN
theorem Vx:(Tryz.prog.globals[1]?).map (·.type)=U 312:=nN
theorem QZ:Tryz.prog.cellsOf 312=4:=nN
theorem JP:Tryz.prog.cellsOf 3=1:=nN
theorem Ti:Tryz.prog.globalNamed "hatchway/compact.behind" =U 0:=nN
theorem Vy:(Tryz.prog.globals[0]?).map (·.type)=U 283:=nN
theorem Q0:Tryz.prog.cellsOf 283=3:=nN
theorem ZT{W:jJ}(h:laidMetH jI [("unicode/utf8.acceptRanges",Rows.laid_unicode_utf8_acceptRanges),("hatchway/compact.behind",Rows.laid_hatchway_compact_behind),("hatchway/schema.uintSizes",Rows.laid_hatchway_schema_uintSizes),("unicode/utf8.first",Rows.laid_unicode_utf8_first)] W):pW W/\uV W:=by
 rw[MakeChecks.laidMetH_plain _ _ _ nN]at h;obtain⟨ps,C,_⟩:=h;have e1:(Rows.laid_hatchway_schema_uintSizes:DataW Unit)=Lib.tabData .i64 [1,2,4,8]:=rfl;have e2:(Rows.laid_hatchway_compact_behind:DataW Unit)=Lib.tabData .i64 [2,4,8]:=rfl;have E:=Al (zs:=[1,2,4,8]) a2T Vx Tryz.underlying312 mg JP QZ C (by rw[<-e1];simp);have A:=Al (zs:=[2,4,8]) Ti Vy Tryz.underlying283 mg JP Q0 C (by rw[<-e2];simp);refine⟨?_,A.cell Ti 0 nO,A.cell Ti 1 nO,A.cell Ti 2 nO⟩;intro i hi;have hc:=E.cell a2T i (by simpa using hi);rw[hc];have:i=0\/i=1\/i=2\/i=3:=nL;rcases this with rfl|rfl|rfl|rfl<;>rfl
end
section
theorem JQ{x:nM IL}(h:vT x=false):x.count<=1199/\(enc x).length<=100000/\x.lab.text.length<=6000:=by
 unfold vT at h;simp only[Bool.or_eq_false_iff,decide_eq_false_iff_not]at h;obtain⟨h1,h2⟩:=h;have:=WJ x nL;refine⟨nL,nL,?_⟩;cases x with
 |node a s=>rw[Oo]at h2;simp only[nM.oZ];omega
end
section
open Go.RowKit
theorem Am{rows:List Row}{nm:ByteArray}:(rows.find? λy=>decide (y.name=nm)).isSome=true<->∃r,r∈rows/\r.name=nm:=by
 rw[List.find?_isSome];simp
theorem LD{rows:List Row}{id:Nat}:(rows.find? λy=>decide (y.id=id)).isSome=true<->∃r,r∈rows/\r.id=id:=by
 rw[List.find?_isSome];simp
theorem JR{c:oF}{rows:List Row}{id:Nat}{nm tx:ByteArray}{er:Nat}{row:Row}(h:uL c rows id nm tx=(er,U row)):
  row.id=id/\row.name=nm/\xh tx.data.toList=U row.ty/\(∀r,r∈rows->r.name≠nm)/\er=0:=by
 unfold uL at h;split at h;.cases h
 .rename_i h1
  split at h;.cases h
  .split at h
   .cases h
   .rename_i t ht
    split at h;.cases h
    .simp only[Prod.mk.injEq,mF]at h
     obtain⟨h0,rfl⟩:=h;refine⟨rfl,rfl,ht,λr A hn=>h1 (.inl (Am.2 ⟨r,A,hn⟩)),h0.symm⟩
theorem JS{c:oF}:∀(A:List wV)(rows out:List Row),rG c rows A=.ok out->∀nm,(∃r,r∈out/\r.name=nm)<->(∃r,r∈rows/\r.name=nm)\/∃e,e∈A/\e.nm=nm
 |[],rows,out,h,nm=>by
  unfold rG at h;cases h;simp
 |e::A,rows,out,h,nm=>by
  unfold rG at h;split at h;.cases h
  .rename_i er row I
   obtain⟨h1,h2,J,N,_⟩:=JR I;rw[JS A (row::rows) out h nm];simp only[mM];constructor
   .rintro(⟨r,rfl|C,hn⟩|⟨E,he,hn⟩)
    .exact .inr ⟨e,.inl rfl,by rw[<-h2];exact hn⟩
    .exact .inl ⟨r,C,hn⟩
    .exact .inr ⟨E,.inr he,hn⟩
   .rintro(⟨r,C,hn⟩|⟨E,rfl|he,hn⟩)
    .exact .inl ⟨r,.inr C,hn⟩
    .exact .inl ⟨row,.inl rfl,by rw[h2];exact hn⟩
    .exact .inr ⟨E,he,hn⟩
theorem LF{c:oF}:∀(A:List wV)(rows out:List Row),rG c rows A=.ok out->∀i:Nat,(∃r,r∈out/\r.id=i)<->(∃r,r∈rows/\r.id=i)\/∃e,e∈A/\e.id=i
 |[],rows,out,h,nm=>by
  unfold rG at h;cases h;simp
 |e::A,rows,out,h,nm=>by
  unfold rG at h;split at h;.cases h
  .rename_i er row I
   obtain⟨h1,h2,J,N,_⟩:=JR I;rw[LF A (row::rows) out h nm];simp only[mM];constructor
   .rintro(⟨r,rfl|C,hn⟩|⟨E,he,hn⟩)
    .exact .inr ⟨e,.inl rfl,by rw[<-h1];exact hn⟩
    .exact .inl ⟨r,C,hn⟩
    .exact .inr ⟨E,.inr he,hn⟩
   .rintro(⟨r,C,hn⟩|⟨E,rfl|he,hn⟩)
    .exact .inl ⟨r,.inr C,hn⟩
    .exact .inl ⟨row,.inl rfl,by rw[h1];exact hn⟩
    .exact .inr ⟨E,he,hn⟩
theorem Vz(c:oF)(rows:List Row)(e:wV)(A:List wV):rG c rows (e::A)=match uL c rows e.id e.nm e.tx with
  |(er,V)=> .error er
  |(_,U row)=>rG c (row::rows) A:=rfl
theorem Cg{c:oF}:∀(es:List wV)(i:Nat)(rows A:List Row),rG c rows (es.take i)=.ok A->rG c rows es=rG c A (es.drop i)
 |es,0,rows,A,h=>by
  simp[rG]at h;subst h;rfl
 |[],i+1,rows,A,h=>by
  simp[rG]at h;subst h;rfl
 |e::es,i+1,rows,A,h=>by
  simp only[ky,mW]at h⊢;rw[Vz]at h⊢;cases C:uL c rows e.id e.nm e.tx with
  |mk er o=>
   rw[C]at h;cases o with
   |none=>cases h
   |some row=>exact Cg es i (row::rows) A h
theorem JU{c:oF}{A:List wV}{i:Nat}{C:List Row}{e:wV}{er:Nat}{row:Row}(h:rG c [] (A.take i)=.ok C)(he:A[i]? =U e)(E:uL c C e.id e.nm e.tx=(er,U row)):
  rG c [] (A.take (i+1))=.ok (row::C):=by
 have hl:=(lF.1 he).1;have e1:A.take (i+1)=A.take i++[e]:=by rw[mY,he];rfl
 have e2:(A.take i).length=i:=by rw[mi];omega
 have h1:=Cg (c:=c) (A.take (i+1)) i [] C (by rw[List.take_take,Nat.min_eq_left nL];exact h);rw[h1,e1,List.drop_left' e2];unfold rG;rw[E];rfl
theorem Ao{c:oF}{A:List wV}{i:Nat}{C:List Row}{e:wV}{er:Nat}(h:rG c [] (A.take i)=.ok C)(he:A[i]? =U e)(E:uL c C e.id e.nm e.tx=(er,V)):rG c [] A=.error er:=by
 have hl:=(lF.1 he).1;rw[Cg A i [] C h,List.drop_eq_getElem_cons hl];have:A[i]=e:=by rw[jW hl]at he;exact l8 he
 rw[this];unfold rG;rw[E]
theorem ZU{p:Prop}(h:p:=by
 constructor
 .rintro(⟨r,hr,_⟩|⟨e,he,hn⟩)
  .cases hr
  .obtain⟨k,hk⟩:=List.getElem?_of_mem he
   by_cases hki:k<i
   .rw[List.getElem?_take_of_lt hki]at hk
    exact⟨k,e,hki,hk,hn⟩
   .rw[List.getElem?_take,if_neg hki]at hk;cases hk
 .rintro⟨k,e,hk,he,hn⟩
  exact .inr ⟨e,kK (i:=k) (by rw[List.getElem?_take_of_lt hk];exact he),hn⟩):p:=h
theorem JV{c:oF}{C:List wV}{i:Nat}{A:List Row}(h:rG c [] (C.take i)=.ok A)(nm:ByteArray):(A.find? λy=>decide (y.name=nm)).isSome=true<->∃(k:Nat) (e:wV),k<i/\C[k]? =U e/\e.nm=nm:=by
 rw[Am,JS _ _ _ h nm];exact ZU
theorem EP{c:oF}{C:List wV}{i:Nat}{A:List Row}(h:rG c [] (C.take i)=.ok A)(id:Nat):(A.find? λy=>decide (y.id=id)).isSome=true<->∃(k:Nat) (e:wV),k<i/\C[k]? =U e/\e.id=id:=by
 rw[LD,LF _ _ _ h id];exact ZU
theorem JW{c:oF}:∀(A:List wV)(rows:List Row),¬rG c rows A=.error 0
 |[],rows=>by unfold rG;intro h;cases h
 |e::A,rows=>by
  unfold rG;have h1:=NR c rows e.id e.nm e.tx;split
  .rename_i er C
   intro h;cases h;rw[C]at h1;rcases h1 with h1|h1
   .exact h1.2 rfl
   .obtain⟨_,row,E⟩:=h1;cases E
  .rename_i er row C
   exact JW A (row::rows)
def Fa(c:oF)(A:List wV):Int:=match uZ c A with
 | .error er=>er
 | .ok _=>0
theorem Ap{p:Prop}(h:p:=by
 generalize oJ ⟨f,m,fr,un,de,it⟩=R at*;clear HR;go_in;go_upto_region 1 with fail;generalize w.alloc _=w1 at*;obtain⟨hb1,c0,c1,c2,c3,c4,c5⟩:=HW.out _ rfl;have H1:=jH hb1;clear HW hb1;go_wp2_with fail;go_returns;exact⟨by rw[HE.out];rfl,H1.out⟩):p:=h
theorem Oy(c:oF)(w:jJ):jV jI 39 #[c.v] w λe w'=>e=nG (nC (oJ c))/\jS w.heap.size w w':=by
 have HW:=jH (vz (w:=w) c (t:=tC));obtain⟨g,hg⟩:=nV w.heap.size;have HR:jX (oJ c=(within c.fmt 3&&within c.pF 65536&&within c.qc 65536&&within c.dep 16&&within c.oV 1024)):=jH rfl;rw[hg]at HW⊢;obtain⟨f,m,fr,un,de,it⟩:=c;unfold oF.v oF.cs;dsimp only at HW HR⊢;by_cases h0:1<=f;case neg=>
  have HE:jX (oJ ⟨f,m,fr,un,de,it⟩=false):=jH (by rw[HR.out];unfold within;simp[h0]);exact Ap
 by_cases h1:f<=3;case neg=>
  have HE:jX (oJ ⟨f,m,fr,un,de,it⟩=false):=jH (by rw[HR.out];unfold within;simp[h1]);exact Ap
 by_cases h2:1<=fr;case neg=>
  have HE:jX (oJ ⟨f,m,fr,un,de,it⟩=false):=jH (by rw[HR.out];unfold within;simp[h2]);exact Ap
 by_cases A:fr<=65536;case neg=>
  have HE:jX (oJ ⟨f,m,fr,un,de,it⟩=false):=jH (by rw[HR.out];unfold within;simp[A]);exact Ap
 by_cases C:1<=un;case neg=>
  have HE:jX (oJ ⟨f,m,fr,un,de,it⟩=false):=jH (by rw[HR.out];unfold within;simp[C]);exact Ap
 by_cases E:un<=65536;case neg=>
  have HE:jX (oJ ⟨f,m,fr,un,de,it⟩=false):=jH (by rw[HR.out];unfold within;simp[E]);exact Ap
 by_cases I:1<=de;case neg=>
  have HE:jX (oJ ⟨f,m,fr,un,de,it⟩=false):=jH (by rw[HR.out];unfold within;simp[I]);exact Ap
 by_cases J:de<=16;case neg=>
  have HE:jX (oJ ⟨f,m,fr,un,de,it⟩=false):=jH (by rw[HR.out];unfold within;simp[J]);exact Ap
 by_cases N:1<=it;case neg=>
  have HE:jX (oJ ⟨f,m,fr,un,de,it⟩=false):=jH (by rw[HR.out];unfold within;simp[N]);exact Ap
 by_cases O:it<=1024;case neg=>
  have HE:jX (oJ ⟨f,m,fr,un,de,it⟩=false):=jH (by rw[HR.out];unfold within;simp[O]);exact Ap
 have HE:jX (oJ ⟨f,m,fr,un,de,it⟩=true):=jH (by rw[HR.out];unfold within;simp[h0,h1,h2,A,C,E,I,J,N,O]);exact Ap
theorem Em(ds:List UInt8)(b:UInt8):zP (ds++[b])=if zP ds<1000000 then 10*zP ds+(b.toNat - 48)else zP ds:=by unfold zP;rw[List.foldl_append];rfl
theorem a2p:∀(k:Nat)(ds:List UInt8),ds.length=k->(∀b,b∈ds->uQ b=true)->zP ds<10000000:=by
 intro k;induction k with
 |zero=>intro ds h _;rw[mU.1 h];simp[zP]
 |succ k C=>
  intro ds h hd;obtain⟨A,b,rfl⟩:∃A b,ds=A++[b]:=⟨ds.dropLast,ds.getLast (by intro e;simp[e]at h),(List.dropLast_concat_getLast _).symm⟩;have hb:=hd b nS;simp only[uQ,j4,decide_eq_true_eq]at hb;have:=C A (by simpa using h) λc hc=>hd c (by simp[hc])
  rw[Em];split<;>omega
theorem IX(l:List UInt8)(k:Nat):∀b,b∈(qa l).take k->uQ b=true:=λb hb=>Yt l b (List.mem_of_mem_take hb)
def Dy(s:ByteArray)(p:Nat)(w:jJ)(e:Ending)(w':jJ):Prop:=
 ∃(n:Nat) (z:Int),e=nG (nE #[nk nI (n:Int),nk nI z])/\w'=w/\n<10000000/\
  ((∃q:Nat,xO (nQ s p)=U (n,nQ s q)/\z=q/\q<=s.size/\p<=q)\/(xO (nQ s p)=V/\z= -1/\n=0))
theorem ZV{p:Prop}(h:p:=by
 rcases hend with rfl|⟨hlt,hb'⟩|⟨hlt,hb'⟩
 .have d0:decide ((s.size:Int)<s.size)=false:=nS
  go_wp2_with fail;exact HP _ _ ⟨0,_,rfl,rfl,nL,.inr ⟨IM.out,rfl,rfl⟩⟩
 .have d0:decide ((q:Int)<s.size)=true:=nT
  have d1:decide ((48:Int)<=(s[q].toNat:Int))=false:=nT;clear hb';go_wp2_with fail;exact HP _ _ ⟨0,_,rfl,rfl,nL,.inr ⟨IM.out,rfl,rfl⟩⟩
 .have d0:decide ((q:Int)<s.size)=true:=nT
  have d1:decide ((48:Int)<=(s[q].toNat:Int))=true:=nT;have d2:decide ((s[q].toNat:Int)<=57)=false:=nT;clear hb';go_wp2_with fail;exact HP _ _ ⟨0,_,rfl,rfl,nL,.inr ⟨IM.out,rfl,rfl⟩⟩):p:=h
theorem En{p:Prop}(h:p:=by
 go_wp2_with fail;exact HP _ _ ⟨n,_,rfl,rfl,hn,.inl ⟨_,IM.out,rfl,hq3,hq2⟩⟩):p:=h
theorem Ia(s:ByteArray)(p:Nat)(w:jJ)(hs:s.size<=1000)(hp:p<=s.size):
  jV jI 78 #[nz s,nk nI (p:Int)] w (Dy s p w):=by
 obtain⟨D,hD⟩:=nV ((qa (nQ s p)).length);have az:=jH hD;have ai:p+D<=s.size:=by
  exact YB
 have HG:jX (∀k,k<D->∃h:p+k<s.size,uQ s[p+k]=true/\(qa (nQ s p)).take (k+1)=(qa (nQ s p)).take k++[s[p+k]]):=jH λk hk=>by
  exact Su
 have aA:jX (∀h:p+D<s.size,uQ s[p+D]=false):=jH λh=>by
  refine Eg (nQ s p) _ ?_;rw[yt,hD,yT,qY h];rfl
 have aB:jX (past (nQ s p)=nQ s (p+D)):=jH (by rw[yt,hD,yT]);have H0:jX (0<D->∃h:p<s.size,(qa (nQ s p)).head? =U s[p]):=jH λh=>by
  exact Yz
 have aL:jX (∀k,zP ((qa (nQ s p)).take k)<10000000):=jH λk=>a2p _ _ rfl (IX _ _)
 generalize aC:Dy s p w=av;have HP:jX (∀e w',Dy s p w e w'->av e w'):=jH λe w' h=>by rw[<-aC];exact h
 clear hD aC;go_in;go_wp2_with fail;go_loopw [1,6] (λiv aM aN=>∃(k q n:Nat),iv=nk nI q/\aM=nk nI n/\jX (p+k=q)/\q<=p+D/\p<=q/\jX (n=zP ((qa (nQ s p)).take k))/\n<10000000/\aN=w) (λiv _ _=>p+D -(kT iv).toNat);case atStart=>exact⟨0,p,0,rfl,rfl,jH rfl,nL,nL,by simp[jX,zP],nL,rfl⟩
 case round=>
  obtain⟨k,q,n,rfl,rfl,aa,aD,hq2,ax,hn,rfl⟩:=hrel;have aS:k<=D:=by have:=aa.out;omega
  have Q:=jH (HG k);rw[aa.out]at Q;by_cases c:q<p+D
  .obtain⟨hlt,ae,htake⟩:=Q.out (by have:=aa.out;omega)
   simp only[uQ,j4,decide_eq_true_eq]at ae;have aj:=jH (jU ae htake);have d0:decide ((q:Int)<s.size)=true:=nT;have d1:decide ((48:Int)<=(s[q].toNat:Int))=true:=nT;have d2:decide ((s[q].toNat:Int)<=57)=true:=nT;have aO:48<=(s[q].toNat:Int):=nL;have aP:(s[q].toNat:Int)<=57:=nL;have aF:=jH (aL (k+1));clear htake ae Q;by_cases af:n<1000000
   .have aQ:decide ((n:Int)<1000000)=true:=nT
    have ay:=jH af;clear af;go_wp2_with fail;have ag:zP ((qa (nQ s p)).take (k+1))=10*n+(s[q].toNat - 48):=by rw[aj.2,Em,<-ax.out,if_pos ay.out]
    refine⟨⟨k+1,q+1,10*n+(s[q].toNat - 48),by go_num,congrArg (lQ IntKind.i64) nL,jH (by have:=aa.out;omega),nL,nL,jH ag.symm,by have:=aF.out;rw[ag]at this;exact this,by first|trivial|rfl⟩,by simp[kT];omega⟩
   .have aQ:decide ((n:Int)<1000000)=false:=nT
    have ay:=jH af;clear af;go_wp2_with fail;have ag:zP ((qa (nQ s p)).take (k+1))=n:=by rw[aj.2,Em,<-ax.out,if_neg ay.out]
    refine⟨⟨k+1,q+1,n,by go_num,rfl,jH (by have:=aa.out;omega),nL,nL,jH ag.symm,hn,by first|trivial|rfl⟩,by simp[kT];omega⟩
  .obtain rfl:q=p+D:=nL
   obtain rfl:k=D:=by have:=aa.out;omega
   obtain⟨q,ah⟩:=nV (p+k);rw[ah]at Q aD hq2 c aB ai⊢;have ak:=jH aA.out;rw[ah]at ak;have aG:=jH ah;clear aa aA Q ah c;have aH:jX (n=zP (qa (nQ s p))):=jH (by rw[ax.out,List.take_of_length_le (by have:=az.out;omega)]);have hend:q=s.size\/(∃h:q<s.size,s[q].toNat<48)\/(∃h:q<s.size,57<s[q].toNat):=by
    rcases kZ q s.size with h|h
    .right
     have h2:=ak.out h;exact Sr
    .exact .inl nL
   have hlen:k=0\/k=1\/(1<k/\∃h:p<s.size,jX (s[p].toNat=48))\/(1<k/\∃h:p<s.size,jX (s[p].toNat≠48)):=by
    exact YA
   have C:jX (zO (qa (nQ s p))=(decide (k=1)||(decide (1<k)&&decide ((qa (nQ s p)).head?≠U 48)))):=jH (by rw[NL,az.out]);have A:jX (zO (qa (nQ s p))=true->xO (nQ s p)=U (n,nQ s q)):=jH λh=>by unfold xO;rw[if_pos h,<-aH.out,aB.out]
   have O:jX (zO (qa (nQ s p))=false->xO (nQ s p)=V):=jH λh=>by unfold xO;rw[if_neg (by rw[h];simp)]
   have hq3:q<=s.size:=ai;have aI:(q:Int)=p+k:=by have:=aG.out;omega
   have aJ:(∃e1:Bool,((q:Int)==p)=e1/\e1=decide (k=0))/\∃e2:Bool,decide ((p:Int)+1<q)=e2/\e2=decide (1<k):=by
    refine⟨⟨_,rfl,?_⟩,_,rfl,?_⟩;.rw[Bool.eq_iff_iff];simp;omega
    .rw[decide_eq_decide];omega
   obtain⟨⟨e1,aT,E⟩,e2,aK,I⟩:=aJ;have J:k≠0->p<s.size:=nL;clear aI HG;rcases hlen with N|N|⟨N,au,Y⟩|⟨N,au,Y⟩
   .obtain rfl:e1=true:=by rw[E];simp;omega
    have IM:=jH (O (by rw[C.out];simp;omega));clear E I N C A O aK J;exact ZV
   .obtain rfl:e1=false:=by rw[E];simp;omega
    obtain rfl:e2=false:=by rw[I];simp;omega
    have au:p<s.size:=J nL;have IM:=jH (A (by rw[C.out];simp;omega));clear E I N C A O J;rcases Bool.eq_false_or_eq_true ((s[p].toNat:Int)==48)with d5|d5
    all_goals
     rcases hend with rfl|⟨hlt,hb'⟩|⟨hlt,hb'⟩
     .have d0:decide ((s.size:Int)<s.size)=false:=nS
      exact En
     .have d0:decide ((q:Int)<s.size)=true:=nT
      have d1:decide ((48:Int)<=(s[q].toNat:Int))=false:=nT;clear hb';exact En
     .have d0:decide ((q:Int)<s.size)=true:=nT
      have d1:decide ((48:Int)<=(s[q].toNat:Int))=true:=nT;have d2:decide ((s[q].toNat:Int)<=57)=false:=nT;clear hb';exact En
   .obtain rfl:e1=false:=by rw[E];simp;omega
    obtain rfl:e2=true:=by rw[I];simp;omega
    have d5:((s[p].toNat:Int)==48)=true:=by have:=Y.out;simp;omega
    have IM:=jH (O (by
     obtain⟨_,h5⟩:=H0.out nL;rw[C.out,h5,show s[p]=48 from lX.1 Y.out];simp;omega))
    clear E I N C A O J;exact ZV
   .obtain rfl:e1=false:=by rw[E];simp;omega
    obtain rfl:e2=true:=by rw[I];simp;omega
    have d5:((s[p].toNat:Int)==48)=false:=by have:=Y.out;simp;omega
    have IM:=jH (A (by
     obtain⟨_,h5⟩:=H0.out nL;have aR:s[p]≠48:=λh=>Y.out (by rw[h];rfl)
     rw[C.out,h5];simp[aR];omega))
    clear E I N C A O J;rcases hend with rfl|⟨hlt,hb'⟩|⟨hlt,hb'⟩
    .have d0:decide ((s.size:Int)<s.size)=false:=nS
     exact En
    .have d0:decide ((q:Int)<s.size)=true:=nT
     have d1:decide ((48:Int)<=(s[q].toNat:Int))=false:=nT;clear hb';exact En
    .have d0:decide ((q:Int)<s.size)=true:=nT
     have d1:decide ((48:Int)<=(s[q].toNat:Int))=true:=nT;have d2:decide ((s[q].toNat:Int)<=57)=false:=nT;clear hb';exact En
end
end Go.Proofs.YtamfcjmhnndbdaaGreatDoor


