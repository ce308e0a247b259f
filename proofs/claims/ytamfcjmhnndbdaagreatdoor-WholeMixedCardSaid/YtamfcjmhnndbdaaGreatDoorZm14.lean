/- Part 14 of the proof. -/
import Derived.Test.YtamfcjmhnndbdaaGreatDoorZm09
import Derived.Test.YtamfcjmhnndbdaaGreatDoorZm00
import Derived.Test.YtamfcjmhnndbdaaGreatDoorZm03
import Derived.Test.YtamfcjmhnndbdaaGreatDoorZm06
import Derived.Test.YtamfcjmhnndbdaaGreatDoorZm07
import Derived.Test.YtamfcjmhnndbdaaGreatDoorZm10
import Derived.Test.YtamfcjmhnndbdaaGreatDoorZm13
import Derived.RegionTactic
import Derived.BigRegion
import Derived.ChangeAlike
import Derived.Deep.QuietTactic
import Derived.BigQuiet
open Go.Value renaming agg→nD,bool→nC,int→nk,pointer→nA,slice→ny,string→nz,tuple→nE,ownBlock→kJ,slice→kM
open Go.Obj renaming cells→nH
open Go.IntKind renaming i64→nI,u32→nK,u64→nJ
open Go.Ending renaming returned→nG
open Go.Lib renaming hid→jH
open Go.Proofs.Tryz renaming prog→jI
open Go renaming World→jJ,Value→jP,Calls→jV,bodyPost_ret→jZ,maxLen→j3,TypeId→ko,undef→kI,results→kQ,Addr→lH,Oper→lY,Program→ma
open Nat renaming le_refl→jK,le_trans→jY,lt_of_lt_of_le→kG,zero_le→kH,lt_or_ge→kZ,le_of_eq→mR
open List renaming setIfInBounds_toArray→jL,getElem?_cons_succ→jM,getElem?_cons_zero→jN,getElem?_toArray→jO,set_cons_zero→jQ,set_cons_succ→jR,length_append→j5,take_succ_cons→ky,length_cons→kF,take_zero→kL,length_drop→kX,getElem?_eq_some_iff→lF,mem_cons→mM,size_toArray→mP,take_append_drop→ng
open Go.RowKit renaming Below→jS,Hid→jX,intOf→kT
open Go.RowKit.Below renaming refl→jT,heap_setCell→j6
open And renaming intro→jU
open Bool renaming and_eq_true→j4
open UInt8 renaming ofNat→kg,toNat_inj→lX
open Go.World renaming setCell→kz,cell?→mI
open ByteArray renaming size_extract→kC
open Go.Act renaming put→kE
open Go.Code renaming region→ll
open Array renaming getD_eq_getD_getElem?→lG,getElem?_eq_none→mZ
open Go.Instr renaming lookup→lW
open Option.some renaming inj→l8
open Option renaming none→V,some→U
open Go.Addr renaming mk→Z
namespace Go.Proofs.YtamfcjmhnndbdaaGreatDoor
set_option linter.unusedVariables false
set_option linter.unusedSimpArgs false
set_option maxRecDepth 100000
set_option maxHeartbeats 8000000
variable {p:Prop}{α:Type}{a0:Act}{t:ko}
section
open Go.RowKit
theorem Ym{c:oF}{rows:List Row}{f:vP}{er:Nat}(h:IE c rows f=.error er):er≠0:=by
 unfold IE at h;split at h;.cases h;decide
 .split at h
  .rename_i e1 h1
   have:=GY h1;cases h;split<;>omega
  .cases h
theorem UT{c:oF}{rows:List Row}{s:ByteArray}{mt:Option (Nat×MS)}{er:Nat}(h:(rJ c rows s mt).1=.error er):er≠0:=by
 unfold rJ at h;split at h
 .rename_i e1 m2 h1
  have:=DX c s mt e1 (by rw[h1]);cases h;omega
 .rename_i y m2 h1
  split at h
  .rename_i e1 h2
   have:=Ym h2;cases h;exact this
  .cases h
theorem Yn{c:oF}(hc:oJ c=true){rows:List Row}{s:ByteArray}(hs:s.size<=100000){mt:Option (Nat×MS)}{y:Ii×Nat}(h:(rJ c rows s mt).1=.ok y):0<y.2/\y.2<=s.size:=by
 unfold rJ at h;split at h;.cases h
 .rename_i z m2 h1
  have:=Nf hc hs (y:=z) (mt:=mt) (by rw[h1]);split at h;.cases h
  .cases h;exact⟨this.1,this.2.1⟩
theorem ym(c:oF)(rows:List Row)(s:ByteArray)(n p:Nat)(mt:Option (Nat×MS)){y:Ii×Nat}{m2:Option (Nat×MS)}(h:rJ c rows (s.extract p s.size) mt=(.ok y,m2)):uJ c rows s (n+1) p mt=⟨y.1::(uJ c rows s n (p+y.2) m2).told,(uJ c rows s n (p+y.2) m2).at_,(uJ c rows s n (p+y.2) m2).err,(uJ c rows s n (p+y.2) m2).mt⟩:=by
 rw[uJ,h]
theorem z8(c:oF)(rows:List Row)(s:ByteArray)(n p:Nat)(mt:Option (Nat×MS)){er:Nat}{m2:Option (Nat×MS)}(h:rJ c rows (s.extract p s.size) mt=(.error er,m2)):uJ c rows s (n+1) p mt=⟨[],p,er,m2⟩:=by
 rw[uJ,h]
structure E8(w0:jJ)(G g kc kt ka kx sb r mb:Nat)(c:oF)(s:ByteArray)(p:Nat)(m:MS)(bo:Option lH)(bc:Nat)(buf:List UInt8)(nd fa la tt se:Int)(lv:jP)(Lm:List xV)(W:jJ):Prop where
 nx:NxE kc (g+1) kt ka g sb r mb c s p m W
 ss:nP W sb (Ee r (ny bo buf.length bc) nd fa la tt se) Jt
 ob:ow W G wB (ny bo buf.length bc) buf
 lm:ql W (λd=>ka<d/\d≠kx) lv Lm
 kp:qJ (λk=>k=sb\/k=mb\/(kM bo buf.length bc).ownBlock=U k) w0 W
 lt:w0.heap.size=g/\sb<g/\mb<g/\sb≠mb/\G<=sb/\G<=mb/\G<=g/\g+2<=kc/\g+2<=kt/\g+2<=ka/\kc<W.heap.size/\kt<W.heap.size/\ka<W.heap.size/\kc<ka/\kt<ka/\ka<kx
 bl:∀b,(kM bo buf.length bc).ownBlock=U b->G<=b/\b<g/\b≠sb/\b≠mb
section
variable {w0:jJ}{G g kc kt ka kx sb r mb:Nat}{c:oF}{s:ByteArray}{p:Nat}{m m2:MS}{bo:Option lH}{bc:Nat}{buf:List UInt8}{nd fa la tt se:Int}{lv lv2:jP}{Lm Lm2:List xV}{W W':jJ}
theorem E8.kpf(h:E8 w0 G g kc kt ka kx sb r mb c s p m bo bc buf nd fa la tt se lv Lm W){F:Nat->Prop}(k:qJ F W W')(hF:∀d,F d->ka<d)(hl:ql W' (λd=>ka<d/\d≠kx) lv2 Lm2):E8 w0 G g kc kt ka kx sb r mb c s p m bo bc buf nd fa la tt se lv2 Lm2 W':=by
 have l:=h.lt;have n:=h.nx;have q:∀{d:Nat}{cs:Array jP}{t:ko},nP W d cs t->(d<g+2\/d=kc\/d=kt\/d=ka)->nP W' d cs t:=λhB hd=>k.blk hB λA=>by have:=hF _ A;omega
 refine⟨⟨q n.cf nL,q n.mv nL,q n.tx nL,q n.at_ nL,q n.sv nL,⟨?_,kG n.se.2 k.size⟩,⟨q n.mm.1 nL,n.mm.2⟩,n.ne⟩,q h.ss nL,h.ob.kp k λb hb A=>by have:=hF _ A;have:=h.bl b hb;omega,hl,?_,?_,h.bl⟩
 .have:=k.block sb n.se.2 λA=>by have:=hF _ A;omega
  simp only[mI,this];exact n.se.1
 .exact h.kp.trans k λd hd A=>by have:=hF _ A;omega
 .have:=k.size
  omega
theorem E8.below(h:E8 w0 G g kc kt ka kx sb r mb c s p m bo bc buf nd fa la tt se lv Lm W)(hb:jS W.heap.size W W'):E8 w0 G g kc kt ka kx sb r mb c s p m bo bc buf nd fa la tt se lv Lm W':=
 h.kpf (F:=λ_=>False) (qJ.of hb) (λ_ h=>h.elim) (ql.keep h.lm hb.size (λd hd _=>hb.block d hd) λ_ _ h=>h)
theorem E8.next{E:Nat}(h:E8 w0 G g kc kt ka kx sb r mb c s p m bo bc buf nd fa la tt se lv Lm W)(A:oN ka mb W W')(J:pO W' (U (mb,m2)))(N:nP W' ka #[nk nI E] InT):E8 w0 G g kc kt ka kx sb r mb c s E m2 bo bc buf nd fa la tt se lv Lm W':=by
 have l:=h.lt;have n:=h.nx;have q:∀{d:Nat}{cs:Array jP}{t:ko},nP W d cs t->d≠ka->d≠mb->nP W' d cs t:=λhB h1 h2=>A.blk hB h1 h2
 refine⟨⟨q n.cf nL nL,q n.mv nL nL,q n.tx nL nL,N,q n.sv nL nL,⟨?_,kG n.se.2 A.size⟩,J,n.ne⟩,q h.ss nL nL,?_,ql.keep h.lm A.size (λd hd I=>A.block d hd (by have:=I.1;omega) (by have:=I.1;omega)) λ_ _ h=>h,?_,?_,h.bl⟩
 .have:=A.block sb n.se.2 nL nL
  simp only[mI,this];exact n.se.1
 .exact h.ob.kp (F:=λd=>d=ka\/d=mb) (qJ.of2 A (λ_=> .inl rfl) (λ_=> .inr rfl)) λb hb C=>by have:=h.bl b hb;omega
 .exact h.kp.trans (F':=λd=>d=ka\/d=mb) (qJ.of2 A (λ_=> .inl rfl) (λ_=> .inr rfl)) λd hd C=>by
   rcases C with C|C
   .omega
   .exact .inr (.inl C)
 .have:=A.size
  omega
theorem E8.reg(h:E8 w0 G g kc kt ka kx sb r mb c s p m bo bc buf nd fa la tt se lv Lm W)(C:oN ka mb W W'):qJ (λk=>k=sb\/k=mb\/(kM bo buf.length bc).ownBlock=U k) w0 W':=
 h.kp.trans (F':=λd=>d=ka\/d=mb) (qJ.of2 C (λ_=> .inl rfl) (λ_=> .inr rfl)) λd hd A=>by
  rcases A with A|A
  .have:=h.lt;omega
  .exact .inr (.inl A)
end
def lenOf:jP->Nat
 | ny _ n _=>n
 |_=>0
structure a6w(G sb r mb:Nat)(c:oF)(R:a00)(bo:Option lH)(bc:Nat)(buf:List UInt8)(nd fa la tt se:Int)(w:jJ)(lv:jP)(w':jJ):Prop where
 msgs:∃Lm:List xV,(∃oa cap,lv=ny oa Lm.length cap)/\ql w' (λd=>w.heap.size<=d) lv Lm/\Lm.map (λy=>y.m)=R.told
 Sk:∃bo' bc',nP w' sb (Ee r (ny bo' (buf.drop R.at_).length bc') (if R.err=2 then(G8 c ((⟨buf.toArray⟩:ByteArray).extract R.at_ (⟨buf.toArray⟩:ByteArray).size):Int)else nd) (if R.err=2 then fa else(R.err:Int)) la tt se) Jt/\ow w' G wB (ny bo' (buf.drop R.at_).length bc') (buf.drop R.at_)/\(∀b,(kM bo' (buf.drop R.at_).length bc').ownBlock=U b->b≠sb)/\FrV w (ny bo buf.length bc) (ny bo' (buf.drop R.at_).length bc')
 mt:pO w' R.mt
 kp:qJ (λk=>k=sb\/k=mb\/(kM bo buf.length bc).ownBlock=U k) w w'
def yS(G sb r mb:Nat)(c:oF)(rows:List Row)(m:MS)(bo:Option lH)(bc:Nat)(buf:List UInt8)(nd fa la tt se:Int)(w:jJ)(e:Ending)(w':jJ):Prop:=
 if(buf.length:Int)<nd then e=nG (ny V 0 0)/\jS w.heap.size w w'
 else∃lv,e=nG lv/\a6w G sb r mb c (uJ c rows ⟨buf.toArray⟩ (buf.length+1) 0 (U (mb,m))) bo bc buf nd fa la tt se w lv w'
theorem a1G(l:List UInt8):(⟨l.toArray⟩:ByteArray).size=l.length:=mP
theorem Ha{w:jJ}{G:Nat}{v:jP}{l:List UInt8}(h:ow w G wB v l){b:Nat}(hb:v.ownBlock=U b){cs:Array jP}{sb:Nat}(hs:nP w sb cs Jt):b≠sb:=by
 rintro rfl;rcases h.2 with⟨rfl,_⟩|⟨g,cap,A,rfl,_,hg,_⟩
 .cases hb
 .cases hb
  have h2:w.heap[g]? =U (nH cs Jt (0,0)):=hs;rw[h2]at hg;have:Jt=wB:=by
   injection hg with e
   injection e
  exact absurd this nO
structure xR(w0:jJ)(sb mb ka:Nat)(m:MS)(bv lv:jP)(Lm:List xV)(W:jJ):Prop where
 lm:ql W (λd=>ka<d) lv Lm
 mt:pO W (U (mb,m))
 kp:qJ (λk=>k=sb\/k=mb\/bv.ownBlock=U k) w0 W
 ss:∃cs,nP W sb cs Jt
 lt:w0.heap.size<=ka/\sb<w0.heap.size/\mb<w0.heap.size/\sb≠mb/\∀b,bv.ownBlock=U b->b<w0.heap.size/\b≠sb/\b≠mb
section
variable {w0:jJ}{sb mb ka:Nat}{m:MS}{bv lv:jP}{Lm:List xV}{W W':jJ}
theorem xR.kpf(h:xR w0 sb mb ka m bv lv Lm W){F:Nat->Prop}(k:qJ F W W')(hF:∀d,F d->d=sb\/bv.ownBlock=U d)(hs:∃cs,nP W' sb cs Jt):xR w0 sb mb ka m bv lv Lm W':=by
 have l:=h.lt;have C:∀d,F d->d<w0.heap.size/\d≠mb:=λd hd=>by
  rcases hF d hd with e|e
  .omega
  .have:=l.2.2.2.2 d e;omega
 refine⟨ql.keep h.lm k.size (λd hd E=>k.block d hd λA=>by have:=C d A;omega) λ_ _ h=>h,⟨k.blk h.mt.1 λA=>(C _ A).2 rfl,h.mt.2⟩,h.kp.trans k λd _ A=> ?_,hs,l⟩;rcases hF d A with e|e
 .exact .inl e
 .exact .inr (.inr e)
theorem xR.below(h:xR w0 sb mb ka m bv lv Lm W)(hb:jS W.heap.size W W'):xR w0 sb mb ka m bv lv Lm W':=
 h.kpf (F:=λ_=>False) (qJ.of hb) (λ_ h=>h.elim) (h.ss.imp λ_ k=>Below.blk hb k k.lt)
theorem xR.put(h:xR w0 sb mb ka m bv lv Lm W)(i:Nat)(v:jP):xR w0 sb mb ka m bv lv Lm (W.setCell (Z sb i V) v):=
 h.kpf (F:=λd=>d=sb) (qJ.set (F:=λd=>d=sb) (p:=(Z sb i V)) (qJ.refl _ W) (λ_=>rfl) v) (λ_ h=> .inl h) (h.ss.elim λcs k=>⟨_,k.set i v⟩)
theorem xR.grow(h:xR w0 sb mb ka m bv lv Lm W)(hg:W.grownBy W' bv.ownBlock):xR w0 sb mb ka m bv lv Lm W':=
 h.kpf (F:=λd=>bv.ownBlock=U d) (qJ.grown hg λ_ e=>e) (λ_ h=> .inr h) (h.ss.imp λ_ k=>pg k hg λx A=>(h.lt.2.2.2.2 x A).2.1)
end
def IJ(w0:jJ)(G sb mb ka:Nat)(m:MS)(bo:Option lH)(bc:Nat)(buf:List UInt8)(lv:jP)(Lm:List xV)(W:jJ):Prop:=
 xR w0 sb mb ka m (ny bo buf.length bc) lv Lm W/\ow W G wB (ny bo buf.length bc) buf/\G<=W.heap.size/\G<=sb/\w0.heap.size<=W.heap.size/\ka≠sb
section
variable {w0:jJ}{G g kc kt ka kx sb r mb n2 q:Nat}{c:oF}{s:ByteArray}{m:MS}{bo:Option lH}{bc:Nat}{buf:List UInt8}{nd fa la tt se:Int}{lv v6:jP}{Lm:List xV}{W W':jJ}{TOT:a00}{e1:Nat}
theorem IJ.below(h:IJ w0 G sb mb ka m bo bc buf lv Lm W)(hb:jS W.heap.size W W'):IJ w0 G sb mb ka m bo bc buf lv Lm W':=
 ⟨h.1.below hb,h.2.1.kp (qJ.of (F:=λ_=>False) hb) λ_ _ h=>h,jY h.2.2.1 hb.size,h.2.2.2.1,jY h.2.2.2.2.1 hb.size,h.2.2.2.2.2⟩
theorem IJ.put(h:IJ w0 G sb mb ka m bo bc buf lv Lm W)(i:Nat)(v:jP):IJ w0 G sb mb ka m bo bc buf lv Lm (W.setCell (Z sb i V) v):=
 ⟨h.1.put i v,h.2.1.kp (qJ.set (F:=λd=>d=sb) (p:=(Z sb i V)) (qJ.refl _ W) (λ_=>rfl) v) λb hb e=>(h.1.lt.2.2.2.2 b hb).2.1 e,by simpa [kz]using h.2.2.1,h.2.2.2.1,by simpa [kz]using h.2.2.2.2.1,h.2.2.2.2.2⟩
theorem E8.fin(h:E8 w0 G g kc kt ka kx sb r mb c s q m bo bc buf nd fa la tt se lv Lm W):IJ w0 G sb mb ka m bo bc buf lv Lm W:=by
 have l:=h.lt;refine⟨⟨ql.keep h.lm (jK _) (λ_ _ _=>rfl) λ_ _ h=>h.1,h.nx.mm,h.kp,⟨_,h.ss⟩,nL,nL,nL,nL,λb hb=> ?_⟩,h.ob,nL,nL,nL,nL⟩;have:=h.bl b hb;omega
theorem E8.a6y(h:E8 w0 G g kc kt ka kx sb r mb c s q m bo bc buf nd fa la tt se lv Lm W):E5 g kc kt ka sb r c s q (ny bo buf.length bc) nd fa la tt se (IJ w0 G sb mb ka m bo bc buf lv Lm) W:=by
 have l:=h.lt;exact⟨h.nx.sv,h.ss,h.nx.cf,h.nx.tx,h.nx.at_,h.fin,nL,nL,nL,nL⟩
theorem Sl(A:nP W g #[nA (U (Z sb 0 V))] Qk)(C:nP W ka #[nk nI q] InT)(E:nP W sb (Ee r (ny bo buf.length bc) nd fa la tt se) Jt)(h:IJ w0 G sb mb ka m bo bc buf lv Lm W)(hg:w0.heap.size=g):Cb g ka sb r G q buf bo bc nd fa la tt se (xR w0 sb mb ka m (ny bo buf.length bc) lv Lm) false false v6 W:=by
 have l:=h.1.lt;refine⟨A,C,E,λ_=>h.2.1,(λh=>by cases h),h.1,(λh=>by cases h),nL,h.2.2.2.2.2,h.2.2.2.1,h.2.2.1,λb hb=> ?_⟩;have:=l.2.2.2.2 b hb;omega
theorem E8.Sl(h:E8 w0 G g kc kt ka kx sb r mb c s q m bo bc buf nd fa la tt se lv Lm W)(e:Int):Cb g ka sb r G q buf bo bc nd e la tt se (xR w0 sb mb ka m (ny bo buf.length bc) lv Lm) false false v6 (W.setCell (Z sb 3 V) (nk nI e)):=by
 have l:=h.lt;exact Go.Proofs.YtamfcjmhnndbdaaGreatDoor.Sl (h.nx.sv.setOther (a:=(Z sb 3 V)) (by show g≠sb;omega) _) (h.nx.at_.setOther (a:=(Z sb 3 V)) (by show ka≠sb;omega) _) (h.ss.set 3 _) (h.fin.put 3 _) l.1
theorem a1H{rows:List Row}{mm:MS}(A:¬(buf.length:Int)<nd)(J:uJ c rows ⟨buf.toArray⟩ (buf.length+1) 0 (U (mb,mm))=⟨Lm.map λy=>y.m,q,e1,U (mb,m)⟩)(C:w0.heap.size=g)(h:Cb g ka sb r G q buf bo bc (if e1=2 then(G8 c ((⟨buf.toArray⟩:ByteArray).extract q (⟨buf.toArray⟩:ByteArray).size):Int)else nd) (if e1=2 then fa else(e1:Int)) la tt se (xR w0 sb mb ka m (ny bo buf.length bc) lv Lm) true true v6 W):
  yS G sb r mb c rows mm bo bc buf nd fa la tt se w0 (nG lv) W:=by
 unfold yS;rw[if_neg A];obtain⟨⟨E,I,rfl⟩,ho,N⟩:=h.od rfl;refine⟨lv,rfl,?_⟩;rw[J];exact⟨⟨Lm,h.bs.lm.slice,ql.keep h.bs.lm (jK _) (λ_ _ _=>rfl) λd _ hd=>by have:=h.bs.lt.1;omega,rfl⟩,⟨E,I,h.ss,ho,λb hb=>h.bs.ss.elim λcs k=>Ha ho hb k,λb hb=>(N b hb).imp id λk=>by rw[C];exact k⟩,h.bs.mt,h.bs.kp⟩
end
theorem Sm(h:p:=by
 clear hF5;simp only[jL,jQ,jR];go_wp2_with fail;try go_returns
 exact HP5):p:=h
theorem a1I(G sb r mb bn bi:Nat)(c:oF)(L:List oO)(m:MS)(bo:Option lH)(bc:Nat)(buf:List UInt8)(nd fa la tt se:Int)(w:jJ)(hc:oJ c=true)(dh:c.wf)(aW:nP w sb (Ee r (ny bo buf.length bc) nd fa la tt se) Jt)(aX:ow w G wB (ny bo buf.length bc) buf)(aY:pO w (U (mb,m)))(dw:∀b,(kM bo buf.length bc).ownBlock=U b->b≠sb/\b≠mb)(aH:sb≠mb/\G<=sb/\G<=mb)(hlen:buf.length<=100000)(aZ:∀W,qJ (λk=>k=sb\/k=mb\/(kM bo buf.length bc).ownBlock=U k) w W->qi r bn bi c L W/\pW W/\uV W):
  jV jI 34 #[nA (U (Z sb 0 V)),nA (U (Z mb 0 V))] w (yS G sb r mb c (L.map λx=>x.r) m bo bc buf nd fa la tt se w):=by
 obtain⟨g,hg⟩:=nV w.heap.size;obtain⟨s,bg⟩:∃s,(⟨buf.toArray⟩:ByteArray)=s:=⟨_,rfl⟩;have hsz:s.size=buf.length:=bg▸a1G buf;obtain⟨gI,dx⟩:=nV buf.length;have dz:sb<g/\mb<g:=⟨hg▸aW.lt,hg▸nP.lt aY.1⟩;have bq:=λb hb=>ow.blk aX b hb
 have dA:jX (∀W,(w.alloc (nH #[nA (U (Z sb 0 V))] Qk)).alloc (nH #[nA (U (Z mb 0 V))] MtT)=W->nP W g #[nA (U (Z sb 0 V))] Qk/\nP W (g+1) #[nA (U (Z mb 0 V))] MtT/\jS g w W/\W.heap.size=g+2):=jH λW aC=>by
  subst aC;have a1:=(jT w.heap.size w).alloc (jK _) (nH #[nA (U (Z sb 0 V))] Qk);have a2:=a1.alloc nS (nH #[nA (U (Z mb 0 V))] MtT);have ax:=nP.new w #[nA (U (Z sb 0 V))] Qk;have ay:=nP.new (w.alloc (nH #[nA (U (Z sb 0 V))] Qk)) #[nA (U (Z mb 0 V))] MtT;rw[show(w.alloc (nH #[nA (U (Z sb 0 V))] Qk)).heap.size=g+1 by simp[hg]]at ay;rw[hg]at ax;exact⟨ax.alloc _,ay,hg▸a2,by simp[hg]⟩
 have bu:=jH (jU aW (jU aX (jU aY (jU dw (jU aH (jU dz bq))))));have bz:=jH aZ;have bY:=jH (jU hc dh);have Q:=jH (jU bg hsz);have ek:jX (G<=g):=jH nL;have ag:=jH hlen;obtain⟨dP,dQ⟩:=nV (yS G sb r mb c (L.map λx=>x.r) m bo bc buf nd fa la tt se w);have eu:=jH dQ;have eB:=jH dx;rw[dQ];clear aW aX aY dw aH hlen aZ hc dh bg hsz dQ dz bq dx;go_in;go_upto_region 1 with fail;obtain⟨dB,dC,dD,dE⟩:=dA.out _ rfl;generalize (w.alloc _).alloc _=w1 at*;have aU:=jH (jU dB (jU dC (jU dD dE)));clear dA dB dC dD dE;have hdr:nP w1.drew g #[nA (U (Z sb 0 V))] Qk/\nP w1.drew (g+1) #[nA (U (Z mb 0 V))] MtT/\jS g w w1.drew/\w1.drew.heap.size=g+2:=⟨aU.1,aU.2.1,aU.2.2.1.trans ((oC w1).mono (by have:=aU.2.2.2;omega)),aU.2.2.2⟩;rw[<-eB.out]at*;refine a4q (ks:=g) (sb:=sb) (r:=r) (bo:=bo) (bn:=buf.length) (bc:=bc) (nd:=nd) (fa:=fa) (la:=la) (tt:=tt) (se:=se) (Bs:=λW=>nP W g #[nA (U (Z sb 0 V))] Qk/\nP W (g+1) #[nA (U (Z mb 0 V))] MtT/\jS g w W/\W.heap.size=g+2) (ht2:=by rfl) (hsz:=by rfl) (hI0:=λ_=>⟨hdr,hdr.1,Below.blk hdr.2.2.1 bu.1 bu.2.2.2.2.2.1.1⟩) ?_;intro vs bZ hF;have C:=jH hF.bs;clear hF hdr aU;simp only[jL,jQ,jR];by_cases E:(buf.length:Int)<nd
 .have t0:decide ((buf.length:Int)<nd)=true:=by simp[E]
  have dR:=jH E;rw[t0];clear E t0;go_wp2_with fail;try go_returns
  rw[<-eu.out];unfold yS;rw[if_pos dR.out];exact⟨rfl,hg.symm▸C.2.2.1⟩
 .have t0:decide ((buf.length:Int)<nd)=false:=by simp[E]
  have dR:=jH E;rw[t0];clear E;have aI:∀W,jS g w W->nP W sb (Ee r (ny bo buf.length bc) nd fa la tt se) Jt/\ow W G wB (ny bo buf.length bc) buf/\pO W (U (mb,m)):=λW hb=>by
   obtain⟨e1,e2,e3,e4,e5,dS,eD⟩:=bu.out;exact⟨Below.blk hb e1 dS.1,ow.kp e2 (qJ.of (F:=λ_=>False) (hg.symm▸hb)) (λ_ _ h=>h),⟨Below.blk hb e3.1 dS.2,e3.2⟩⟩
  have az:=jH aI;clear aI;have c1:bZ.cell? (Z sb 0 V)=U (nA (U (Z r 0 V))):=(az _ C.2.2.1).1.cell 0;have c2:bZ.cell? (Z g 0 V)=U (nA (U (Z sb 0 V))):=C.1.cell 0;have eF:=jH (G7 r bn bi c L bZ (bz bZ (qJ.of (hg.symm▸C.2.2.1))).1);go_wp2_with fail;refine eF.mono ?_;rintro e w2 ⟨rfl,aA⟩;obtain⟨kc,dF⟩:=nV w2.heap.size;have eG:jX (∀W,w2.alloc (nH #[nk nI c.fmt,nk nK c.mag,nk nI c.pF,nk nI c.qc,nk nI c.dep,nk nI c.oV] tC)=W->nP W g #[nA (U (Z sb 0 V))] Qk/\nP W (g+1) #[nA (U (Z mb 0 V))] MtT/\jS g w W/\g+2<=kc/\W.heap.size=kc+1/\nP W kc #[nk nI c.fmt,nk nK c.mag,nk nI c.pF,nk nI c.qc,nk nI c.dep,nk nI c.oV] tC):=jH λW aC=>by
   subst aC;have a:=(jT w2.heap.size w2).alloc (jK _) (nH #[nk nI c.fmt,nk nK c.mag,nk nI c.pF,nk nI c.qc,nk nI c.dep,nk nI c.oV] tC);obtain⟨h1,h2,bA,fQ⟩:=C.out;have gN:=aA.size;have ax:=Below.blk aA h1 h1.lt;have ay:=Below.blk aA h2 h2.lt;exact⟨Below.blk a ax ax.lt,Below.blk a ay ay.lt,bA.trans ((aA.mono nL).trans (a.mono nL)),nL,by simp[dF],dF▸nP.new w2 _ _⟩
  clear aA eF c1 c2 t0;go_upto_region 4 with fail;have eH:=eG.out _ rfl;generalize w2.alloc _=w3 at*;have ak:=jH eH;clear eH eG C;have d2:w3.cell? (Z g 0 V)=U (nA (U (Z sb 0 V))):=ak.1.cell 0;have fT:w3.cell? (Z sb 1 V)=U (ny bo buf.length bc):=(az _ ak.2.2.1).1.cell 1;have eO:(convert TC MI (ny bo buf.length bc)).run jI w3=.ok (nz s) w3:=Q.1▸ow.string Ch (az _ ak.2.2.1).2.1;have bB:jX (∀W,(w3.alloc (nH #[nz s] MI)).alloc (nH #[nk nI 0] InT)=W->∀kx,kc+2<kx->E8 w G g kc (kc+1) (kc+2) kx sb r mb c s 0 m bo bc buf nd fa la tt se (ny V 0 0) [] W/\W.heap.size=kc+3):=jH λW aC kx bC=>by
   subst aC;obtain⟨h1,h2,bA,fQ,ai,bD⟩:=ak.out;obtain⟨e1,e2,e3,e4,e5,dS,eD⟩:=bu.out;have a1:=(jT w3.heap.size w3).alloc (jK _) (nH #[nz s] MI);have a2:=a1.alloc nS (nH #[nk nI 0] InT);have ax:=nP.new w3 #[nz s] MI;have ay:=nP.new (w3.alloc (nH #[nz s] MI)) #[nk nI 0] InT;rw[show(w3.alloc (nH #[nz s] MI)).heap.size=kc+2 by simp[ai]]at ay;rw[ai]at ax;have bE:jS g w ((w3.alloc (nH #[nz s] MI)).alloc (nH #[nk nI 0] InT)):=bA.trans (a2.mono nL);obtain⟨cz,dU,fU⟩:=az.out _ bE;have gJ:=ek.out;refine⟨⟨⟨Below.blk a2 bD bD.lt,Below.blk a2 h2 h2.lt,ax.alloc _,ay,Below.blk a2 h1 h1.lt,⟨cz.cell 0,cz.lt⟩,fU,nL⟩,cz,dU,ql.nil _ _,qJ.of (hg.symm▸bE),?_,λb hb=> ?_⟩,by simp[ai]⟩;.simp[ai];omega
   .have:=eD b hb;have:=e4 b hb;omega
  have gK:=ak.2.2.2.2.1;go_upto_region 8 with fail;have dG:=λkx hk=>(bB _ rfl kx hk).1
  have dH:=(bB _ rfl (kc+3) nL).2;generalize (w3.alloc _).alloc _=w4 at*;rw[show kc+1+1=kc+2 from rfl];have bF:=jH (λkx hk=>(dG kx hk:E8 w G g kc (kc+1) (kc+2) kx sb r mb c s 0 m bo bc buf nd fa la tt se (ny V 0 0) [] w4));have bG:=jH dH;clear dG dH bB ak fT d2 eO az;have bH:∀(kx p:Nat)(m:MS)(lv:jP)(Lm:List xV)(W:jJ),E8 w G g kc (kc+1) (kc+2) kx sb r mb c s p m bo bc buf nd fa la tt se lv Lm W->p<=s.size->jV jI 62 #[nA (U (Z kc 0 V)),nA (U (Z (g+1) 0 V)),nA (U (Z (kc+1) 0 V)),nA (U (Z (kc+2) 0 V)),nA (U (Z g 0 V))] W (G6 (kc+2) mb p (rJ c (L.map λx=>x.r) (s.extract p s.size) (U (mb,m))) W):=λkx p m lv Lm W h hp=>
   Yh kc (g+1) (kc+1) (kc+2) g sb r mb bn bi c L s p m W h.nx bY.1 bY.2 ⟨hp,by rw[Q.2];exact ag.out⟩ λfV fZ=>bz.out fV (h.reg fZ)
  have dI:=jH bH;have bI:=jH (bH (kc+3) 0 m _ _ w4 (bF _ nL) (kH _));clear bH;obtain⟨⟨J,eP⟩,aJ⟩:∃R,rJ c (L.map λx=>x.r) (s.extract 0 s.size) (U (mb,m))=R:=⟨_,rfl⟩;rw[aJ]at bI;have eQ:=jH aJ;have aK:=D5 c (L.map λx=>x.r) (s.extract 0 s.size) (U (mb,m));rw[aJ]at aK;obtain⟨cK,rfl⟩:∃cK,eP=U (mb,cK):=by
   cases eP with
   |none=>cases aK
   |some q=>obtain⟨cz,dU⟩:=q;cases aK;exact⟨dU,rfl⟩
  clear aJ aK;go_wp2_with fail;refine bI.mono ?_;unfold G6;dsimp only;rintro e w5 ⟨ov,cv,bJ,rfl,N,dJ,au,bK⟩;have dK:=jH (λkx hk=>(bF kx hk).next bK dJ au);obtain⟨kx,bC⟩:=nV w5.heap.size;have aD:kc+2<kx:=by have:=bK.size;have:=bG.out;omega
  have dL:jX (∀W,w5.alloc (nH #[nz (mN (rR J)),nz (mT (rR J)),nC (mL (rR J)),ny ov (mS (rR J)).length cv] zq)=W->E8 w G g kc (kc+1) (kc+2) kx sb r mb c s (goR 0 J) cK bo bc buf nd fa la tt se (ny V 0 0) [] W/\nP W kx #[nz (mN (rR J)),nz (mT (rR J)),nC (mL (rR J)),ny ov (mS (rR J)).length cv] zq/\nW W (λd=>kc+2<d/\d≠kx/\(kM V 0 0).ownBlock≠U d) (ny ov (mS (rR J)).length cv) (mS (rR J))):=jH λW aC=>by
   subst aC;have a:=(jT w5.heap.size w5).alloc (jK _) (nH #[nz (mN (rR J)),nz (mT (rR J)),nC (mL (rR J)),ny ov (mS (rR J)).length cv] zq);refine⟨(dK kx aD).below a,bC▸nP.new w5 _ _,Shape.nX.keep N a.size (λd hd aa=>⟨by have:w4.heap.size<=d:=aa;have:=bG.out;omega,nL,by simp[kJ]⟩) λd hd _=>a.block d hd⟩
  clear bJ N dJ au bK bI bF dK;go_upto_region 9 with fail;have dM:=dL.out _ rfl;generalize w5.alloc _=gP at*;have eT:=jH dM;clear dM dL;obtain⟨dN,bL⟩:=nV (uJ c (L.map λx=>x.r) s (buf.length+1) 0 (U (mb,m)));have bM:=jH bL;clear bL;have eU:jX (∀q (Y:Option (Nat×MS)) er,(rJ c (L.map λx=>x.r) (s.extract q s.size) Y).1=.error er->er≠0):=jH λq Y er h=>UT h
  have eX:jX (∀q (Y:Option (Nat×MS)) y,q<=s.size->(rJ c (L.map λx=>x.r) (s.extract q s.size) Y).1=.ok y->0<y.2/\q+y.2<=s.size):=jH λq Y y aa h=>by
   have hsz:=Q.2;have hl:=ag.out;have:=Yn bY.1 (s:=s.extract q s.size) (by simp only[kC];omega) h;simp only[kC]at this;omega
  have aF:jX (kc+2<kx):=jH aD;clear bG bC aD;obtain⟨gm,bN⟩:=nV (mE (rR J));rw[bN];have eY:=jH bN;clear bN
  go_loopw [9,11] (λlv ev dV=>∃(n:Nat) (oa:Option lH) (cap:Nat) (er:Nat),lv=ny oa n cap/\ev=nk nI er/\n<=100000/\jX (∃(q fuel:Nat) (Y m2:MS) (R:Except Nat (Ii×Nat)) (Lm:List xV) (ov:Option lH) (cv:Nat),Lm.length=n/\mE (rR R)=er/\q<=s.size/\s.size<=q+fuel/\n<=q/\rJ c (L.map λx=>x.r) (s.extract q s.size) (U (mb,Y))=(R,U (mb,m2))/\
   E8 w G g kc (kc+1) (kc+2) kx sb r mb c s (goR q R) m2 bo bc buf nd fa la tt se (ny oa n cap) Lm dV/\nP dV kx #[nz (mN (rR R)),nz (mT (rR R)),nC (mL (rR R)),ny ov (mS (rR R)).length cv] zq/\nW dV (λd=>kc+2<d/\d≠kx/\(kM oa n cap).ownBlock≠U d) (ny ov (mS (rR R)).length cv) (mS (rR R))/\
   dN=⟨Lm.map (λy=>y.m)++(uJ c (L.map λx=>x.r) s (fuel+1) q (U (mb,Y))).told,(uJ c (L.map λx=>x.r) s (fuel+1) q (U (mb,Y))).at_,(uJ c (L.map λx=>x.r) s (fuel+1) q (U (mb,Y))).err,(uJ c (L.map λx=>x.r) s (fuel+1) q (U (mb,Y))).mt⟩)) (λlv _ _=>100001 -(lenOf lv))
  case atStart=>
   obtain⟨h1,h2,bA⟩:=eT.out;exact⟨0,V,0,gm,rfl,rfl,nL,jH ⟨0,buf.length,m,cK,J,[],ov,cv,rfl,eY.out,kH _,by rw[Q.2];omega,jK _,eQ.out,h1,h2,bA,by rw[bM.out];rfl⟩⟩
  case round=>
   obtain⟨n,oa,cap,er,rfl,rfl,hn,eZ⟩:=hrel;obtain⟨q,fuel,Y,m2,R,Lm,ov,cv,hl,ah,aa,aL,ae,hst,A,av,N,I⟩:=eZ.out;clear eZ;by_cases h0:er=0
   .obtain⟨y,rfl⟩:∃y,R=.ok y:=by
     cases R with
     |error e1=>exact absurd (ah.trans h0) (eU q _ e1 (by rw[hst]))
     |ok y=>exact⟨y,rfl⟩
    subst h0;obtain⟨hy0,hy1⟩:=eX.out q _ y aa (by rw[hst]);have av:nP wr kx #[nz y.1.name,nz (txt y.1.val.lab),nC y.1.val.lab.list,ny ov y.1.val.sub.length cv] zq:=av;have N:nW wr (λd=>kc+2<d/\d≠kx/\(kM oa n cap).ownBlock≠U d) (ny ov y.1.val.sub.length cv) y.1.val.sub:=N;have A:E8 w G g kc (kc+1) (kc+2) kx sb r mb c s (q+y.2) m2 bo bc buf nd fa la tt se (ny oa n cap) Lm wr:=A;obtain⟨⟨b0,b1,gp,b3⟩,_⟩:=oG av;have fq:n+1<=100000:=by have:=Q.2;have:=ag.out;omega
    have C:=jH (jU hl (jU aa (jU aL (jU ae (jU hst (jU A (jU av (jU N (jU I (jU hy0 hy1))))))))));clear hl ah aa aL ae hst A av N I hy0 hy1;go_upto_region 11 with(at_builtin;go_loud (refine tJ a4p KY rfl _ _ rfl (B:=0) (v:=ny oa n cap) (L:=Lm) (y:=(⟨y.1,ov,cv⟩:xV)) rfl (C.2.2.2.2.2.1.lm.1.below ((jT _ wr).alloc (jK _) _)) rfl (nP.new wr #[nz y.1.name,nz (txt y.1.val.lab),nC y.1.val.lab.list,ny ov y.1.val.sub.length cv] zq) rfl (by simp[mcl,xV.u,Value.oneCell']) (by have:=C.1;omega) (kH _) ?_);intro cZ fu w2 bO O au dW)
    have aM:wr.grownBy w2 (kM oa n cap).ownBlock:=⟨O.os,O.tape,O.output,by have:=O.size;simp at this;omega,λd hd aH=>(O.block d nT aH).trans (((jT wr.heap.size wr).alloc (jK _) _).block d hd)⟩;have aV:E8 w G g kc (kc+1) (kc+2) kx sb r mb c s (q+y.2) m2 bo bc buf nd fa la tt se (ny (U (Z cZ 0 V)) (Lm.length+1) fu) (Lm++[⟨y.1,ov,cv⟩]) w2/\nP w2 kx #[nz y.1.name,nz (txt y.1.val.lab),nC y.1.val.lab.list,ny ov y.1.val.sub.length cv] zq:=by
     have A:=C.2.2.2.2.2.1;have aN:=A.lm;have fw:=C.2.2.2.2.2.2.1.lt;have df:=ql.push (x:=(⟨y.1,ov,cv⟩:xV)) aN bO aM (au.imp id λe=>by rw[e];simp) C.2.2.2.2.2.2.2.1 (λd hd=>hd.2.2);refine⟨A.kpf (qJ.grown aM (F:=λd=>(kM oa n cap).ownBlock=U d) λb hb=>hb) (λd hd=>(aN.2.1 d hd).1) (ql.keep df (jK _) (λ_ _ _=>rfl) λd _ hd=> ?_),pg C.2.2.2.2.2.2.1 aM λx gq=>(aN.2.1 x gq).2⟩;rcases hd with hd|hd|hd
     .exact hd
     .exact⟨hd.1,hd.2.1⟩
     .subst hd
      rcases au with ai|ai
      .exact aN.2.1 _ ai
      .have hk:kx<wr.heap.size:=fw
       have bD:d=wr.heap.size+1:=by rw[ai];simp
       have:=A.lt;show kc+2<d/\d≠kx;constructor<;>omega
    clear bO O au dW aM b0 b1 gp b3;have hy1:=C.2.2.2.2.2.2.2.2.2.2;have dX:=jH (dI kx (q+y.2) m2 _ _ w2 aV.1 hy1);obtain⟨⟨aj,fA⟩,aO⟩:∃R,rJ c (L.map λx=>x.r) (s.extract (q+y.2) s.size) (U (mb,m2))=R:=⟨_,rfl⟩;rw[aO]at dX;have aP:=D5 c (L.map λx=>x.r) (s.extract (q+y.2) s.size) (U (mb,m2));rw[aO]at aP;obtain⟨dY,rfl⟩:∃dY,fA=U (mb,dY):=by
     cases fA with
     |none=>cases aP
     |some z=>obtain⟨gQ,gu⟩:=z;cases aP;exact⟨gu,rfl⟩
    have fB:=jH aO;have aB:=jH aV;clear aO aP aV;go_wp2_with fail;refine dX.mono ?_;unfold G6;dsimp only;rintro e aQ ⟨bP,bQ,bJ,rfl,aR,bR,bS,aG⟩;have bT:nP aQ kx #[nz y.1.name,nz (txt y.1.val.lab),nC y.1.val.lab.list,ny ov y.1.val.sub.length cv] zq:=aG.blk aB.2 (by have:=aF.out;omega) (by have:=bu.2.2.2.2.2.1;have:=aB.1.lt;omega);have fC:=jH (jU (aB.1.next aG bR bS) (jU bT aR));obtain⟨⟨gT,ax,ay,gU⟩,gV,f1,f2,f3⟩:=oG bT;obtain⟨e3,bU⟩:=nV (mE (rR aj));rw[bU];have fD:=jH bU;clear bJ aR bR bS aG bT bU dX;go_wp2_with fail;rw[tF];have bV:Lm.length=n:=C.1;go_roundw;case rel=>
     obtain⟨fE,gy,gz⟩:=fC.out;obtain⟨_,aa,aL,ae,hst,_,_,_,I,hy0,_⟩:=C.out;obtain⟨f1,rfl⟩:∃f1,fuel=f1+1:=⟨fuel - 1,nL⟩;obtain⟨dZ,ed,gB,gD,gF⟩:=yP aQ kx (nz (mN (rR aj))) (nz (mT (rR aj))) (nC (mL (rR aj))) (ny bP (mS (rR aj)).length bQ);have fF:qJ (λd=>d=kx) aQ (yO aQ kx (nz (mN (rR aj))) (nz (mT (rR aj))) (nC (mL (rR aj))) (ny bP (mS (rR aj)).length bQ)):=⟨gB,gD,gF,mR ed.symm,λk _ hk=>dZ k hk⟩;have fG:=fE.kpf fF (λd hd=>by subst hd;exact aF) (ql.keep fE.lm (mR ed.symm) (λd _ hd=>dZ d hd.2) λ_ _ h=>h);have gL:=aB.2.lt;have fH:=aB.1.lm;refine⟨n+1,U (Z cZ 0 V),fu,e3,by rw[bV],rfl,fq,jH ⟨q+y.2,f1,m2,dY,aj,Lm++[⟨y.1,ov,cv⟩],bP,bQ,by simp[bV],fD.out,hy1,nL,nL,fB.out,by rw[<-bV];exact fG,rD gy,?_,?_⟩⟩
     .refine Shape.nX.keep gz (mR ed.symm) (λd hd aa=> ?_) (λd _ aa=>dZ d (by have:w2.heap.size<=d:=aa;omega))
      have hd2:w2.heap.size<=d:=aa;refine⟨by have:=aF.out;omega,nL,λe=> ?_⟩;have:=(fH.1.block cZ rfl).2.1;have gG:U cZ=U d:=e;cases gG;omega
     .rw[I,ym c _ s (f1+1) q (U (mb,Y)) hst]
      simp
    case measure=>simp[lenOf];omega
   .obtain⟨e1,rfl⟩:∃e1,R=.error e1:=by
     cases R with
     |error e1=>exact⟨e1,rfl⟩
     |ok y=>exact absurd ah.symm h0
    have ah:e1=er:=ah;subst ah;have gM:((e1:Int)==0)=false:=nT;rw[z8 c _ s fuel q (U (mb,Y)) hst]at I;have A:E8 w G g kc (kc+1) (kc+2) kx sb r mb c s q m2 bo bc buf nd fa la tt se (ny oa n cap) Lm wr:=A;have I:dN=⟨Lm.map (λy=>y.m),q,e1,U (mb,m2)⟩:=by rw[I];simp
    have C:=jH (jU hl (jU aa (jU I A)));clear hl ah aa aL ae hst A av N I dI;have dO:jX (∀bW bX v6 W,bW=(if e1=2 then(G8 c ((⟨buf.toArray⟩:ByteArray).extract q (⟨buf.toArray⟩:ByteArray).size):Int)else nd)->bX=(if e1=2 then fa else(e1:Int))->Cb g (kc+2) sb r G q buf bo bc bW bX la tt se (xR w sb mb (kc+2) m2 (ny bo buf.length bc) (ny oa n cap) Lm) true true v6 W->dP (nG (ny oa n cap)) W):=jH λbW bX v6 W e2 e3 h=>by
     subst e2 e3;rw[<-eu.out];refine a1H (Int.not_lt.mpr dR) ?_ hg h;have ai:=bM.out;have bD:=Q.1;subst bD;rw[ai];exact C.2.2.1
    have aS:q<=s.size/\s.size<=100000:=⟨C.2.1,by have:=Q.2;have:=ag.out;omega⟩;have aT:q<=buf.length/\buf.length<=100000:=⟨by have:=Q.2;have:=C.2.1;omega,ag.out⟩;by_cases h2:e1=2
    .subst h2
     go_upto_region 13 with fail;obtain⟨nq,ae⟩:=nV (G8 c (s.extract q s.size));have fI:=jH (λW=>Ql c bY.1 (s.extract q s.size) W (by simp only[kC];omega));rw[ae]at fI;have fJ:=jH ae;clear ae;refine a1F (ks:=g) (kc:=kc) (kt:=kc+1) (ka:=kc+2) (sb:=sb) (r:=r) (c:=c) (s:=s) (p:=q) (bv:=ny bo buf.length bc) (nd:=nd) (fa:=fa) (la:=la) (tt:=tt) (se:=se) (n2:=nq) (Bs:=IJ w G sb mb (kc+2) m2 bo bc buf (ny oa n cap) Lm) (ht2:=by rfl) (ht5:=by rfl) (Ay:=by rfl) (EK:=by rfl) (hsz:=by rfl) (hp:=aS) (G9:=fI.out) (qN:=λ_ _ h hb=>h.below hb) (LM:=λ_ i v h=>h.put i v) (hI0:=λ_=>(C.2.2.2.below (oC _)).a6y) ?_;intro vs fK af;have fM:jX (∀v6,Cb g (kc+2) sb r G q buf bo bc nq fa la tt se (xR w sb mb (kc+2) m2 (ny bo buf.length bc) (ny oa n cap) Lm) false false v6 fK.drew):=jH λv6=>by
      have hd:=(oC fK);exact Sl (Below.blk hd af.sv af.sv.lt) (Below.blk hd af.at_ af.at_.lt) (Below.blk hd af.ss af.ss.lt) (af.bs.below hd) C.2.2.2.lt.1
     clear af aS;simp only[jL,jQ,jR];go_upto_region 15 with fail;refine Sj (ks:=g) (ka:=kc+2) (sb:=sb) (r:=r) (G:=G) (p:=q) (buf:=buf) (bo:=bo) (bc:=bc) (nd:=nq) (fa:=fa) (la:=la) (tt:=tt) (se:=se) (Bs:=xR w sb mb (kc+2) m2 (ny bo buf.length bc) (ny oa n cap) Lm) (ht2:=by rfl) (EK:=by rfl) (hsz:=by rfl) (hp:=aT) (hBg:=λ_ _ h hg=>h.grow hg) (LM:=λ_ i v h=>h.put i v) (hBo:=λ_ v h ho b hb=>h.ss.elim λcs k=>Ha ho hb k) (hI0:=λ_=>fM.out _) ?_;intro fO gH hF5;have HP5:=jH (dO _ _ _ _ (by rw[Q.1,fJ.out,if_pos rfl]) (by rw[if_pos rfl]) hF5);exact Sm
    .have gW:((e1:Int)==2)=false:=nT
     have A:=C.2.2.2;have c1:=A.nx.sv.cell 0;have f1:=A.ss.free 3;have c2:=A.ss.cell 3;have fP:jX (∀v6,Cb g (kc+2) sb r G q buf bo bc nd e1 la tt se (xR w sb mb (kc+2) m2 (ny bo buf.length bc) (ny oa n cap) Lm) false false v6 (wr.setCell (Z sb 3 V) (nk nI e1)).drew):=jH λv6=>by
      have h:=(A.Sl (v6:=v6) (e1:Int));have hd:=oC (wr.setCell (Z sb 3 V) (nk nI e1));exact⟨Below.blk hd h.sv h.sv.lt,Below.blk hd h.at_ h.at_.lt,Below.blk hd h.ss h.ss.lt,λ_=>(h.ob rfl).kp (qJ.of (F:=λ_=>False) hd) (λ_ _ h=>h),(λh=>by cases h),h.bs.below hd,(λh=>by cases h),h.ne⟩
     simp only[Ee,jO,jN,jM]at c1 c2;have aV:=jH h2;clear A h2;go_upto_region 15 with fail;refine Sj (ks:=g) (ka:=kc+2) (sb:=sb) (r:=r) (G:=G) (p:=q) (buf:=buf) (bo:=bo) (bc:=bc) (nd:=nd) (fa:=e1) (la:=la) (tt:=tt) (se:=se) (Bs:=xR w sb mb (kc+2) m2 (ny bo buf.length bc) (ny oa n cap) Lm) (ht2:=by rfl) (EK:=by rfl) (hsz:=by rfl) (hp:=aT) (hBg:=λ_ _ h hg=>h.grow hg) (LM:=λ_ i v h=>h.put i v) (hBo:=λ_ v h ho b hb=>h.ss.elim λcs k=>Ha ho hb k) (hI0:=λ_=>fP.out _) ?_;intro fO gH hF5;have HP5:=jH (dO _ _ _ _ (by rw[if_neg aV.out]) (by rw[if_neg aV.out]) hF5);exact Sm
end
section
open Go.RowKit Go.Maps
mutual
theorem Shape.rz.wU{S:Shape α}{w w':jJ}{Q:Nat->Prop}(hs:w.heap.size<=w'.heap.size)(hk:∀b o,b<w.heap.size->w'.cell? (Z b o V)=w.cell? (Z b o V)):
  ∀(x:nM α)(b off:Nat),b<w.heap.size->S.rz w Q x b off->S.rz w' Q x b off
 | .node a s,b,off,hb,h=>by
  simp only[Shape.rz]at h⊢;obtain⟨ho,v,hc,A⟩:=h;refine⟨ho,v,λj E=> ?_,A.mono hs (λ_ _ h=>h) λb' I N C J=>Shape.qy.wU hs hk s b' I C J⟩;rw[hk b (off+j) hb];exact hc j E
theorem Shape.qy.wU{S:Shape α}{w w':jJ}{Q:Nat->Prop}(hs:w.heap.size<=w'.heap.size)(hk:∀b o,b<w.heap.size->w'.cell? (Z b o V)=w.cell? (Z b o V)):
  ∀(s:List (nM α))(b off:Nat),b<w.heap.size->S.qy w Q s b off->S.qy w' Q s b off
 |[],_,_,_,_=>by simp only[Shape.qy]
 |x::xs,b,off,hb,h=>by
  simp only[Shape.qy]at h⊢;exact⟨Shape.rz.wU hs hk x b off hb h.1,Shape.qy.wU hs hk xs b _ hb h.2⟩
end
theorem Shape.nX.wU{S:Shape α}{w w':jJ}{Q:Nat->Prop}{v:jP}{s:List (nM α)}(h:S.nX w Q v s)(hs:w.heap.size<=w'.heap.size)(hk:∀b o,b<w.heap.size->w'.cell? (Z b o V)=w.cell? (Z b o V)):S.nX w' Q v s:=
 SliceOf.mono h hs (λ_ _ h=>h) λb o q hb A=>Shape.qy.wU hs hk s b o hb A
abbrev UU:ko:=67
abbrev Ef:ko:=63
structure RaB(g r bn bi:Nat)(c:oF)(L:List oO)(id:Nat)(nm tx:ByteArray)(w0 W:jJ):Prop where
 rg:qi r bn bi c L W
 en:nP W g #[nk nJ id,nz nm,nz tx] UU
 pR:jS g w0 W
 lt:w0.heap.size=g/\r<g/\bn<g/\bi<g
theorem RaB.below{g r bn bi:Nat}{c:oF}{L:List oO}{id:Nat}{nm tx:ByteArray}{w0 W A:jJ}(h:RaB g r bn bi c L id nm tx w0 W)(hb:jS W.heap.size W A):RaB g r bn bi c L id nm tx w0 A:=
 ⟨h.rg.below hb,Below.blk hb h.en h.en.lt,h.pR.trans (hb.mono (by have:=h.en.lt;omega)),h.lt⟩
structure VM(g r bn bi:Nat)(c:oF)(L:List oO)(id:Nat)(nm tx:ByteArray)(w0:jJ)(k:Nat)(da:Bool)(W:jJ):Prop where
 b:RaB g r bn bi c L id nm tx w0 W
 sz:W.heap.size=if da=true then k+1 else k
 bk:da=true->∃x:RC,nP W k x.cs Fg
 lt:g<k
theorem VM.made{g r bn bi:Nat}{c:oF}{L:List oO}{id:Nat}{nm tx:ByteArray}{w0:jJ}{k:Nat}{W:jJ}(h:VM g r bn bi c L id nm tx w0 k false W):VM g r bn bi c L id nm tx w0 k true (W.alloc (nH C8.cs Fg)):=by
 have A:W.heap.size=k:=by simpa using h.sz
 exact⟨h.b.below ((jT W.heap.size W).alloc (jK _) _),by simp[A],λ_=>⟨C8,A▸nP.new W C8.cs Fg⟩,h.lt⟩
theorem VM.put{g r bn bi:Nat}{c:oF}{L:List oO}{id:Nat}{nm tx:ByteArray}{w0:jJ}{k:Nat}{W:jJ}(h:VM g r bn bi c L id nm tx w0 k true W)(x:RC)(h0:qi r bn bi c L w0):VM g r bn bi c L id nm tx w0 k true (C9 W k x):=by
 obtain⟨y,A⟩:=h.bk rfl;have l:=h.b.lt;have C:=h.lt;have hb:=uW (x:=x) h.b.pR (show g<=k by omega);exact⟨⟨h0.below (l.1▸hb),wR h.b.en nL,hb,l⟩,by rw[Jq];exact h.sz,λ_=>⟨x,yf A⟩,h.lt⟩
theorem wu{P:ma}{k:ko}{κ X:Type}{E:DV P k κ}{F:Gd X}{w:jJ}{b n:Nat}{l:List (κ×X)}(h:qC E F w b n l)(o:Nat):w.cell? (Z b o V)=V:=by
 obtain⟨_,⟨C,A,hh,_⟩,_⟩:=h;simp[mI,hh]
structure IK(g r bn bi kt:Nat)(c:oF)(L:List oO)(x:oO)(w0:jJ)(dn di:Bool)(W:jJ):Prop where
 rg:nP W r #[nk nI c.fmt,nk nK c.mag,nk nI c.pF,nk nI c.qc,nk nI c.dep,nk nI c.oV,.map (U bn),.map (U bi),GI c,Jp c] RgT
 nm:qC NmK sH W bn (if dn=true then x::L else L).length ((if dn=true then x::L else L).map λx=>(x.r.name,x.rc.cs))
 id:qC IdK sH W bi (if di=true then x::L else L).length ((if di=true then x::L else L).map λx=>((x.r.id:Int),x.rc.cs))
 sub:∀y,y∈x::L->oh.nX W (λk=>r<k) (ny y.ou y.r.ty.sub.length y.cu) y.r.ty.sub
 en:nP W g #[nk nJ x.r.id,nz x.r.name,nz x.r.text] UU
 ty:nP W kt #[nk nI x.r.ty.lab.kind,nk nI x.r.ty.lab.size,ny x.ou x.r.ty.sub.length x.cu,nk nI x.r.ty.lab.tail] Ef
 kp:qJ (λd=>d=bn\/d=bi) w0 W
 fr:(∀y,y∈L->y.r.name≠x.r.name)/\(∀y,y∈L->y.r.id≠x.r.id)/\x.r.name.size<=j3/\x.r.id<18446744073709551616/\L.length<1000
 lt:bn≠bi/\r≠bn/\r≠bi/\g≠bn/\g≠bi/\kt≠bn/\kt≠bi
section
variable {g r bn bi kt:Nat}{c:oF}{L:List oO}{x:oO}{w0:jJ}{dn di:Bool}{W W':jJ}
theorem IK.below(h:IK g r bn bi kt c L x w0 dn di W)(hb:jS W.heap.size W W'):IK g r bn bi kt c L x w0 dn di W':=
 ⟨Below.blk hb h.rg h.rg.lt,h.nm.below hb,h.id.below hb,λy A=>Shape.nX.below (h.sub y A) hb,Below.blk hb h.en h.en.lt,Below.blk hb h.ty h.ty.lt,h.kp.trans (F':=λ_=>False) (qJ.of hb) (λ_ _ h=>h.elim),h.fr,h.lt⟩
theorem IK.upd(h:IK g r bn bi kt c L x w0 dn di W){b:Nat}(A:pE b W W')(hb:b=bn\/b=bi)(hc:∀o,W.cell? (Z b o V)=V)(J:∀o,W'.cell? (Z b o V)=V){C E:Bool}(hn:qC NmK sH W' bn (if C=true then x::L else L).length ((if C=true then x::L else L).map λx=>(x.r.name,x.rc.cs)))(hi:qC IdK sH W' bi (if E=true then x::L else L).length ((if E=true then x::L else L).map λx=>((x.r.id:Int),x.rc.cs))):IK g r bn bi kt c L x w0 C E W':=by
 have hk:∀d,d<W.heap.size->d≠b->W'.heap[d]? =W.heap[d]? :=λd hd hn=>A.block d hd λe=>hn (l8 e)
 have q:∀{d:Nat}{cs:Array jP}{t:ko},nP W d cs t->d≠b->nP W' d cs t:=λhB hd=>by unfold nP;rw[hk _ hB.lt hd];exact hB
 have l:=h.lt;refine⟨q h.rg nL,hn,hi,λy N=>Shape.nX.wU (h.sub y N) A.size λd o hd=> ?_,q h.en nL,q h.ty nL,h.kp.trans (F':=λd=>d=b) ⟨A.os,A.tape,A.output,A.size,λd hd I=>hk d hd I⟩ (λd _ I=>by have I:d=b:=I;rcases hb with e|e<;>subst e<;>simp[I]),h.fr,h.lt⟩;by_cases e:d=b;.rw[e,hc,J]
 .exact World.cell?_of_block (w:=W) (a:=(Z d o V)) (hk d hd e)
theorem Hd{κ:Type}[DecidableEq κ](f:oO->κ)(k:κ)(L:List oO)(h:∀y,y∈L->f y≠k):(L.map λx=>(f x,x.rc.cs)).filter (λp=>p.1 !=k)=L.map λx=>(f x,x.rc.cs):=by
 rw[List.filter_eq_self];intro p hp;obtain⟨y,A,rfl⟩:=List.mem_map.1 hp;simpa using h y A
theorem IK.a0I(h:IK g r bn bi kt c L x w0 false di W):∃W',(Instr.mapUpdate 130 (.map (U bn)) (nz x.r.name) (nD x.rc.cs)).run jI W=.ok () W'/\IK g r bn bi kt c L x w0 true di W':=by
 obtain⟨W',A,C,E⟩:=qC.store (x:=x.r.name) h.nm Tryz.underlying130 h.fr.2.2.1 x.rc.cs (by have:=h.fr.2.2.2.2;unfold j3;simp;omega);rw[if_neg nS,Hd (λy=>y.r.name) x.r.name L h.fr.1]at C;refine⟨W',A,h.upd E (.inl rfl) (wu h.nm) (wu C) (by rw[if_pos rfl];exact C) (h.id.block (E.block bi h.id.lt λe=>h.lt.1 (l8 e).symm))⟩
theorem IK.a9i(h:IK g r bn bi kt c L x w0 dn false W):∃W',(Instr.mapUpdate 131 (.map (U bi)) (nk nJ x.r.id) (nD x.rc.cs)).run jI W=.ok () W'/\IK g r bn bi kt c L x w0 dn true W':=by
 obtain⟨W',A,C,E⟩:=qC.store (x:=(x.r.id:Int)) h.id Tryz.underlying131 (R3 h.fr.2.2.2.1) x.rc.cs (by have:=h.fr.2.2.2.2;unfold j3;simp;omega);rw[if_neg nS,Hd (λy=>(y.r.id:Int)) (x.r.id:Int) L λy I e=>h.fr.2.1 y I nL]at C;refine⟨W',A,h.upd E (.inr rfl) (wu h.id) (wu C) (h.nm.block (E.block bn h.nm.lt λe=>h.lt.1 (l8 e))) (by rw[if_pos rfl];exact C)⟩
end
noncomputable def Fz:List lY:=cO (cL (cL (cR (cB Tryz.f87))))
section
variable (g r bn bi:Nat)(c:oF)(L:List oO)(Il:Nat)(nm tx:ByteArray)(w0:jJ)(k:Nat)(b:Bool)(x:RC)
def AJ:Nat->jP
 |0=> nA (U (Z r 0 V))
 |1=> nA (U (Z r 0 V))
 |2=> nA (U (Z r 6 V))
 |3=> .map (U bn)
 |4=> nA (U (Z g 1 V))
 |5=> nz nm
 |6=> nE #[nD #[nk nJ x.i,nz x.nm,nz x.tx,nk nI x.k,nk nI x.z,ny x.ou x.nu x.cu,nk nI x.tl],nC b]
 |7=> nE #[nD #[nk nJ x.i,nz x.nm,nz x.tx,nk nI x.k,nk nI x.z,ny x.ou x.nu x.cu,nk nI x.tl],nC b]
 |8=> nD #[nk nJ x.i,nz x.nm,nz x.tx,nk nI x.k,nk nI x.z,ny x.ou x.nu x.cu,nk nI x.tl]
 |9=> nC b
 |10=> nA (U (Z k 0 V))
 |12=> nC b
 |_=>kI
structure a6z(D:Nat->Bool)(vs:Nat->jP)(w:jJ):Prop where
 oH:VM g r bn bi c L Il nm tx w0 k (D 10) w
 val:∀j,(true)=true->D j=true->vs j=AJ g r bn nm k b x j
variable {g r bn bi c L Il nm tx w0 k b x}
theorem Yo(h:p:=by
 have d10:=hw 10 nO nN;have hW:=hI.oH;rw[d10]at hW;obtain⟨y,hB⟩:=hW.bk rfl;obtain⟨⟨z0,z1,z2,z3,z4,z5,z6⟩,f0,f1,f2,f3,f4,f5,f6⟩:=qh hB;go_simp;rw[Av];refine hK kI _ _ rfl ⟨?_,uK hI.val⟩;rw[nR D (show 10≠11 by decide),d10];exact hW.put x h0):p:=h
theorem Yp(h:p:=by
 have hW:=hI.oH;rw[hd]at hW;have hz:w.heap.size=k:=by simpa using hW.sz
 go_simp;refine hK (nA (U (Z k 0 V))) _ _ rfl ⟨?_,uK hI.val⟩;rw[oo];exact hW.made):p:=h
theorem a1J{id:Nat}{Q:Exit->Act->jJ->Prop}{E:jJ}(ht0:a0.tmps.getD 0 kI=nA (U (Z r 0 V)))(ht3:a0.tmps.getD 3 kI=nA (U (Z g 0 V)))(hl:∀W,qi r bn bi c L W->(lW 130 (.map (U bn)) (nz nm) true).run jI W=.ok (nE #[nD #[nk nJ x.i,nz x.nm,nz x.tx,nk nI x.k,nk nI x.z,ny x.ou x.nu x.cu,nk nI x.tl],nC b]) W)(h0:qi r bn bi c L w0)(hsz:a0.tmps.size=76)(hI0:∀vs:Nat->jP,(λw=>VM g r bn bi c L Il nm tx w0 k false w) E.drew)(I:∀(vs:Nat->jP) (w:jJ),VM g r bn bi c L Il nm tx w0 k true w->Q .normal {a0 with tmps:=((((((((((((a0.tmps.setIfInBounds 12 (nA (U (Z r 0 V)))).setIfInBounds 13 (nA (U (Z r 0 V)))).setIfInBounds 14 (nA (U (Z r 6 V)))).setIfInBounds 15 (.map (U bn))).setIfInBounds 16 (nA (U (Z g 1 V)))).setIfInBounds 17 (nz nm)).setIfInBounds 18 (nE #[nD #[nk nJ x.i,nz x.nm,nz x.tx,nk nI x.k,nk nI x.z,ny x.ou x.nu x.cu,nk nI x.tl],nC b])).setIfInBounds 11 (nE #[nD #[nk nJ x.i,nz x.nm,nz x.tx,nk nI x.k,nk nI x.z,ny x.ou x.nu x.cu,nk nI x.tl],nC b])).setIfInBounds 19 (nD #[nk nJ x.i,nz x.nm,nz x.tx,nk nI x.k,nk nI x.z,ny x.ou x.nu x.cu,nk nI x.tl])).setIfInBounds 20 (nC b)).setIfInBounds 5 (nA (U (Z k 0 V)))).setIfInBounds 6 (nC b))} w):
  (ll id Fz.toArray true).wp jI Q a0 E:=by
 refine og 13 76 (a6z g r bn bi c L Il nm tx w0 k b x) nN hsz nN (.inl rfl) nN ?_ ?_ ?_;.exact qB
 .refine rM λA ag=> ?_
  clear hI0 I hsz;replace ht0:=jH ht0;replace ht3:=jH ht3;replace hl:=jH hl;replace h0:=jH h0;dsimp+instances only[Fz,cO,cL,cR,cB,Tryz.f87];simp only[ky,kL,qW];refine⟨?_,?_,?_,?_,?_,?_,?_,?_,?_,?_,?_,?_,?_,trivial⟩<;>(intro D vs a w K hI hd hw hw2 C hK;subst ag;dsimp+instances only[Fz,cO,cL,cR,cB,Tryz.f87]);have au:=(C 0 nO).trans ht0.out;rotate_left;have ah:=fe C hI.val hw 12 0;rotate_left;have ai:=fe C hI.val hw 13 1;rotate_left;have J:=fe C hI.val hw 14 2;simp only[AJ]at J;have c0:=hI.oH.b.rg.rg.c6;rotate_left;have e3:=(C 3 nO).trans ht3.out;rotate_left;have N:=fe C hI.val hw 16 4;simp only[AJ]at N;have c0:=hI.oH.b.en.c1;rotate_left;have hl:=hl.out;have O:=fe C hI.val hw 15 3;have Y:=fe C hI.val hw 17 5;simp only[AJ]at O Y;have q:=hl w hI.oH.b.rg;rotate_left;have aj:=fe C hI.val hw 18 6;rotate_left;have aa:=fe C hI.val hw 11 7;rotate_left;have aa:=fe C hI.val hw 11 7;rotate_left;.exact Yp
  .have h0:=h0.out
   have e5:=fe C hI.val hw 5 10;have ae:=fe C hI.val hw 19 8;simp only[AJ]at e5 ae;exact Yo
  have ak:=fe C hI.val hw 20 9;rotate_left
  all_goals
   try simp only[AJ]at*
   go_simp;exact hK _ _ _ rfl ⟨hI.oH,uK hI.val⟩
 .intro D vs w af hI
  have hw:=hI.oH;rw[af 10 nO]at hw;have q:=I vs w hw;rw[oW hI.val af];dsimp+instances only[Fz,cO,cL,cR,cB,Tryz.f87];exact qH
end
noncomputable def FB:List lY:=cO (cL (cL (cR (cR (cB Tryz.f87)))))
section
variable (g r bn bi:Nat)(c:oF)(L:List oO)(Il:Nat)(nm tx:ByteArray)(w0:jJ)(k:Nat)(b:Bool)(x:RC)
def AL:Nat->jP
 |0=> nA (U (Z r 0 V))
 |1=> nA (U (Z r 0 V))
 |2=> nA (U (Z r 7 V))
 |3=> .map (U bi)
 |4=> nA (U (Z g 0 V))
 |5=> nk nJ Il
 |6=> nE #[nD #[nk nJ x.i,nz x.nm,nz x.tx,nk nI x.k,nk nI x.z,ny x.ou x.nu x.cu,nk nI x.tl],nC b]
 |7=> nE #[nD #[nk nJ x.i,nz x.nm,nz x.tx,nk nI x.k,nk nI x.z,ny x.ou x.nu x.cu,nk nI x.tl],nC b]
 |8=> nD #[nk nJ x.i,nz x.nm,nz x.tx,nk nI x.k,nk nI x.z,ny x.ou x.nu x.cu,nk nI x.tl]
 |9=> nC b
 |10=> nA (U (Z k 0 V))
 |12=> nC b
 |_=>kI
structure a6A(D:Nat->Bool)(vs:Nat->jP)(w:jJ):Prop where
 oH:VM g r bn bi c L Il nm tx w0 k (D 10) w
 val:∀j,(true)=true->D j=true->vs j=AL g r bi Il k b x j
variable {g r bn bi c L Il nm tx w0 k b x}
theorem a1K{id:Nat}{Q:Exit->Act->jJ->Prop}{E:jJ}(ht0:a0.tmps.getD 0 kI=nA (U (Z r 0 V)))(ht3:a0.tmps.getD 3 kI=nA (U (Z g 0 V)))(hl:∀W,qi r bn bi c L W->(lW 131 (.map (U bi)) (nk nJ Il) true).run jI W=.ok (nE #[nD #[nk nJ x.i,nz x.nm,nz x.tx,nk nI x.k,nk nI x.z,ny x.ou x.nu x.cu,nk nI x.tl],nC b]) W)(h0:qi r bn bi c L w0)(hsz:a0.tmps.size=76)(hI0:∀vs:Nat->jP,(λw=>VM g r bn bi c L Il nm tx w0 k false w) E.drew)(I:∀(vs:Nat->jP) (w:jJ),VM g r bn bi c L Il nm tx w0 k true w->Q .normal {a0 with tmps:=((((((((((((a0.tmps.setIfInBounds 29 (nA (U (Z r 0 V)))).setIfInBounds 30 (nA (U (Z r 0 V)))).setIfInBounds 31 (nA (U (Z r 7 V)))).setIfInBounds 32 (.map (U bi))).setIfInBounds 33 (nA (U (Z g 0 V)))).setIfInBounds 34 (nk nJ Il)).setIfInBounds 35 (nE #[nD #[nk nJ x.i,nz x.nm,nz x.tx,nk nI x.k,nk nI x.z,ny x.ou x.nu x.cu,nk nI x.tl],nC b])).setIfInBounds 28 (nE #[nD #[nk nJ x.i,nz x.nm,nz x.tx,nk nI x.k,nk nI x.z,ny x.ou x.nu x.cu,nk nI x.tl],nC b])).setIfInBounds 36 (nD #[nk nJ x.i,nz x.nm,nz x.tx,nk nI x.k,nk nI x.z,ny x.ou x.nu x.cu,nk nI x.tl])).setIfInBounds 37 (nC b)).setIfInBounds 7 (nA (U (Z k 0 V)))).setIfInBounds 8 (nC b))} w):
  (ll id FB.toArray true).wp jI Q a0 E:=by
 refine og 13 76 (a6A g r bn bi c L Il nm tx w0 k b x) nN hsz nN (.inl rfl) nN ?_ ?_ ?_;.exact qB
 .refine rM λA ag=> ?_
  clear hI0 I hsz;replace ht0:=jH ht0;replace ht3:=jH ht3;replace hl:=jH hl;replace h0:=jH h0;dsimp+instances only[FB,cO,cL,cR,cB,Tryz.f87];simp only[ky,kL,qW];refine⟨?_,?_,?_,?_,?_,?_,?_,?_,?_,?_,?_,?_,?_,trivial⟩<;>(intro D vs a w K hI hd hw hw2 C hK;subst ag;dsimp+instances only[FB,cO,cL,cR,cB,Tryz.f87]);have av:=(C 0 nO).trans ht0.out;rotate_left;have ai:=fe C hI.val hw 29 0;rotate_left;have aj:=fe C hI.val hw 30 1;rotate_left;have J:=fe C hI.val hw 31 2;simp only[AL]at J;have c0:=hI.oH.b.rg.rg.c7;rotate_left;have e3:=(C 3 nO).trans ht3.out;rotate_left;have N:=fe C hI.val hw 33 4;simp only[AL]at N;have c0:=hI.oH.b.en.c0;rotate_left;have hl:=hl.out;have O:=fe C hI.val hw 32 3;have Y:=fe C hI.val hw 34 5;simp only[AL]at O Y;have q:=hl w hI.oH.b.rg;rotate_left;have ak:=fe C hI.val hw 35 6;rotate_left;have aa:=fe C hI.val hw 28 7;rotate_left;have aa:=fe C hI.val hw 28 7;rotate_left;.exact Yp
  .have h0:=h0.out
   have ah:=fe C hI.val hw 7 10;have ae:=fe C hI.val hw 36 8;simp only[AL]at ah ae;exact Yo
  have au:=fe C hI.val hw 37 9;rotate_left
  all_goals
   try simp only[AL]at*
   go_simp;exact hK _ _ _ rfl ⟨hI.oH,uK hI.val⟩
 .intro D vs w af hI
  have hw:=hI.oH;rw[af 10 nO]at hw;have q:=I vs w hw;rw[oW hI.val af];dsimp+instances only[FB,cO,cL,cR,cB,Tryz.f87];exact qH
end
noncomputable def Dj:List lY:=cO (cL (cR (cR (cR (cR (cR (cR (cB Tryz.f87))))))))
section
variable (g r bn bi kt:Nat)(c:oF)(L:List oO)(x:oO)(w0:jJ)
def yn:Nat->jP
 |0=> nA (U (Z r 0 V))
 |1=> nA (U (Z r 0 V))
 |2=> nA (U (Z r 6 V))
 |3=> .map (U bn)
 |4=> nA (U (Z g 1 V))
 |5=> nz x.r.name
 |6=> nD #[nk nJ x.r.id,nz x.r.name,nz x.r.text]
 |7=> nD #[nk nI x.r.ty.lab.kind,nk nI x.r.ty.lab.size,ny x.ou x.r.ty.sub.length x.cu,nk nI x.r.ty.lab.tail]
 |8=> nD #[nk nJ x.r.id,nz x.r.name,nz x.r.text,nk nI x.r.ty.lab.kind,nk nI x.r.ty.lab.size,ny x.ou x.r.ty.sub.length x.cu,nk nI x.r.ty.lab.tail]
 |_=>kI
structure a4u(D:Nat->Bool)(vs:Nat->jP)(w:jJ):Prop where
 oH:IK g r bn bi kt c L x w0 (D 9) false w
 val:∀j,(true)=true->D j=true->vs j=yn g r bn x j
variable {g r bn bi kt c L x w0}
theorem Sn(h:p:=by
 unfold oO.rc RC.cs at q;dsimp only at q;go_simp;refine hK kI _ _ rfl ⟨?_,uK hI.val⟩;rw[oo];exact hN):p:=h
theorem NJ{id:Nat}{Q:Exit->Act->jJ->Prop}{N:jJ}(ht0:a0.tmps.getD 0 kI=nA (U (Z r 0 V)))(ht3:a0.tmps.getD 3 kI=nA (U (Z g 0 V)))(Js:a0.tmps.getD 9 kI=nA (U (Z kt 0 V)))(hsz:a0.tmps.size=76)(hI0:∀vs:Nat->jP,(λw=>IK g r bn bi kt c L x w0 false false w) N.drew)(O:∀(vs:Nat->jP) (w:jJ),IK g r bn bi kt c L x w0 true false w->Q .normal {a0 with tmps:=(((((((((a0.tmps.setIfInBounds 58 (nA (U (Z r 0 V)))).setIfInBounds 59 (nA (U (Z r 0 V)))).setIfInBounds 60 (nA (U (Z r 6 V)))).setIfInBounds 61 (.map (U bn))).setIfInBounds 62 (nA (U (Z g 1 V)))).setIfInBounds 63 (nz x.r.name)).setIfInBounds 64 (nD #[nk nJ x.r.id,nz x.r.name,nz x.r.text])).setIfInBounds 65 (nD #[nk nI x.r.ty.lab.kind,nk nI x.r.ty.lab.size,ny x.ou x.r.ty.sub.length x.cu,nk nI x.r.ty.lab.tail])).setIfInBounds 66 (nD #[nk nJ x.r.id,nz x.r.name,nz x.r.text,nk nI x.r.ty.lab.kind,nk nI x.r.ty.lab.size,ny x.ou x.r.ty.sub.length x.cu,nk nI x.r.ty.lab.tail]))} w):
  (ll id Dj.toArray true).wp jI Q a0 N:=by
 refine og 10 76 (a4u g r bn bi kt c L x w0) nN hsz nN (.inl rfl) nN ?_ ?_ ?_;.exact qB
 .refine rM λA au=> ?_
  clear hI0 O hsz;replace ht0:=jH ht0;replace ht3:=jH ht3;replace Js:=jH Js;dsimp+instances only[Dj,cO,cL,cR,cB,Tryz.f87];simp only[ky,kL,qW];refine⟨?_,?_,?_,?_,?_,?_,?_,?_,?_,?_,trivial⟩<;>(intro D vs a w K hI hd E hw2 C hK;subst au;dsimp+instances only[Dj,cO,cL,cR,cB,Tryz.f87]);have ay:=(C 0 nO).trans ht0.out;rotate_left;have av:=fe C hI.val E 58 0;rotate_left;have ax:=fe C hI.val E 59 1;rotate_left;have Y:=fe C hI.val E 60 2;simp only[yn]at Y;have c0:=hI.oH.rg.c6;rotate_left;have e3:=(C 3 nO).trans ht3.out;rotate_left;have aa:=fe C hI.val E 62 4;simp only[yn]at aa;have c0:=hI.oH.en.c1;rotate_left;have e3:=(C 3 nO).trans ht3.out;have hB:=hI.oH.en;obtain⟨c0,c1,c2⟩:=hB.a3;clear hB;rotate_left;have az:=(C 9 nO).trans Js.out;have hB:=hI.oH.ty;obtain⟨c0,c1,c2,c3⟩:=hB.a4;clear hB;rotate_left;have I:=fe C hI.val E 64 6;have J:=fe C hI.val E 65 7;simp only[yn]at I J;have ae:=I;have af:=J;rw[lG]at ae;rw[lG]at af;rotate_left
  .have ag:=fe C hI.val E 61 3
   have ah:=fe C hI.val E 63 5;have ai:=fe C hI.val E 66 8;simp only[yn]at ag ah ai;have aj:=hI.oH;rw[hd]at aj;obtain⟨aA,q,hN⟩:=aj.a0I;exact Sn
  all_goals
   try simp only[yn]at*
   go_simp;exact hK _ _ _ rfl ⟨hI.oH,uK hI.val⟩
 .intro D vs w ak hI
  have E:=hI.oH;rw[ak 9 nO]at E;have q:=O vs w E;rw[oW hI.val ak];dsimp+instances only[Dj,cO,cL,cR,cB,Tryz.f87];exact qH
end
noncomputable def Dk:List lY:=cO (cL (cR (cR (cR (cR (cR (cR (cR (cB Tryz.f87)))))))))
section
variable (g r bn bi kt:Nat)(c:oF)(L:List oO)(x:oO)(w0:jJ)
def yo:Nat->jP
 |0=> nA (U (Z r 0 V))
 |1=> nA (U (Z r 0 V))
 |2=> nA (U (Z r 7 V))
 |3=> .map (U bi)
 |4=> nA (U (Z g 0 V))
 |5=> nk nJ x.r.id
 |6=> nD #[nk nJ x.r.id,nz x.r.name,nz x.r.text]
 |7=> nD #[nk nI x.r.ty.lab.kind,nk nI x.r.ty.lab.size,ny x.ou x.r.ty.sub.length x.cu,nk nI x.r.ty.lab.tail]
 |8=> nD #[nk nJ x.r.id,nz x.r.name,nz x.r.text,nk nI x.r.ty.lab.kind,nk nI x.r.ty.lab.size,ny x.ou x.r.ty.sub.length x.cu,nk nI x.r.ty.lab.tail]
 |_=>kI
structure a4v(D:Nat->Bool)(vs:Nat->jP)(w:jJ):Prop where
 oH:IK g r bn bi kt c L x w0 true (D 9) w
 val:∀j,(true)=true->D j=true->vs j=yo g r bi x j
variable {g r bn bi kt c L x w0}
theorem Yq{id:Nat}{Q:Exit->Act->jJ->Prop}{N:jJ}(ht0:a0.tmps.getD 0 kI=nA (U (Z r 0 V)))(ht3:a0.tmps.getD 3 kI=nA (U (Z g 0 V)))(Js:a0.tmps.getD 9 kI=nA (U (Z kt 0 V)))(hsz:a0.tmps.size=76)(hI0:∀vs:Nat->jP,(λw=>IK g r bn bi kt c L x w0 true false w) N.drew)(O:∀(vs:Nat->jP) (w:jJ),IK g r bn bi kt c L x w0 true true w->Q .normal {a0 with tmps:=(((((((((a0.tmps.setIfInBounds 67 (nA (U (Z r 0 V)))).setIfInBounds 68 (nA (U (Z r 0 V)))).setIfInBounds 69 (nA (U (Z r 7 V)))).setIfInBounds 70 (.map (U bi))).setIfInBounds 71 (nA (U (Z g 0 V)))).setIfInBounds 72 (nk nJ x.r.id)).setIfInBounds 73 (nD #[nk nJ x.r.id,nz x.r.name,nz x.r.text])).setIfInBounds 74 (nD #[nk nI x.r.ty.lab.kind,nk nI x.r.ty.lab.size,ny x.ou x.r.ty.sub.length x.cu,nk nI x.r.ty.lab.tail])).setIfInBounds 75 (nD #[nk nJ x.r.id,nz x.r.name,nz x.r.text,nk nI x.r.ty.lab.kind,nk nI x.r.ty.lab.size,ny x.ou x.r.ty.sub.length x.cu,nk nI x.r.ty.lab.tail]))} w):
  (ll id Dk.toArray true).wp jI Q a0 N:=by
 refine og 10 76 (a4v g r bn bi kt c L x w0) nN hsz nN (.inl rfl) nN ?_ ?_ ?_;.exact qB
 .refine rM λA au=> ?_
  clear hI0 O hsz;replace ht0:=jH ht0;replace ht3:=jH ht3;replace Js:=jH Js;dsimp+instances only[Dk,cO,cL,cR,cB,Tryz.f87];simp only[ky,kL,qW];refine⟨?_,?_,?_,?_,?_,?_,?_,?_,?_,?_,trivial⟩<;>(intro D vs a w K hI hd E hw2 C hK;subst au;dsimp+instances only[Dk,cO,cL,cR,cB,Tryz.f87]);have ay:=(C 0 nO).trans ht0.out;rotate_left;have av:=fe C hI.val E 67 0;rotate_left;have ax:=fe C hI.val E 68 1;rotate_left;have Y:=fe C hI.val E 69 2;simp only[yo]at Y;have c0:=hI.oH.rg.c7;rotate_left;have e3:=(C 3 nO).trans ht3.out;rotate_left;have aa:=fe C hI.val E 71 4;simp only[yo]at aa;have c0:=hI.oH.en.c0;rotate_left;have e3:=(C 3 nO).trans ht3.out;have hB:=hI.oH.en;obtain⟨c0,c1,c2⟩:=hB.a3;clear hB;rotate_left;have az:=(C 9 nO).trans Js.out;have hB:=hI.oH.ty;obtain⟨c0,c1,c2,c3⟩:=hB.a4;clear hB;rotate_left;have I:=fe C hI.val E 73 6;have J:=fe C hI.val E 74 7;simp only[yo]at I J;have ae:=I;have af:=J;rw[lG]at ae;rw[lG]at af;rotate_left
  .have ag:=fe C hI.val E 70 3
   have ah:=fe C hI.val E 72 5;have ai:=fe C hI.val E 75 8;simp only[yo]at ag ah ai;have aj:=hI.oH;rw[hd]at aj;obtain⟨aA,q,hN⟩:=aj.a9i;exact Sn
  all_goals
   try simp only[yo]at*
   go_simp;exact hK _ _ _ rfl ⟨hI.oH,uK hI.val⟩
 .intro D vs w ak hI
  have E:=hI.oH;rw[ak 9 nO]at E;have q:=O vs w E;rw[oW hI.val ak];dsimp+instances only[Dk,cO,cL,cR,cB,Tryz.f87];exact qH
end
end
section
open Go.RowKit
end
section
def Yr(n:Nat):List UInt8:=if h:n<10 then [kg (48+n)]else Yr (n/10)++[kg (48+n % 10)]
mutual
def put:nM TL->List UInt8
 | .node a s=>
  if a.kind=1 then 117::Yr (8*a.size).toNat
  else if a.kind=2 then 98::Yr a.size.toNat
  else if a.kind=3 then 115::Yr a.size.toNat
  else if a.kind=4 then 91::(a4w true 0 s++58::(Yr a.size.toNat++[93]))
  else 123::(a4w true a.tail.toNat s++[125])
def a4w:Bool->Nat->List (nM TL)->List UInt8
 |_,_,[]=>[]
 |first,t,x::xs=>(if first then []else [44])++((if xs.length+1<=t then [63]else [])++(put x++a4w false t xs))
end
theorem Ju(ds:List UInt8)(b:UInt8):yL (ds++[b])=10*yL ds+(b.toNat - 48):=by simp[yL]
theorem UW(l:List UInt8):qa l++past l=l:=by
 induction l with
 |nil=>rfl
 |cons b r A=>simp only[qa,past];split<;>simp_all
theorem Yt(l:List UInt8):∀b,b∈qa l->uQ b=true:=by
 induction l with
 |nil=>intro b h;cases h
 |cons c r A=>
  intro b h;simp only[qa]at h;split at h
  .rcases mM.1 h with h|h
   .subst h;assumption
   .exact A b h
  .cases h
end
section
open Go.RowKit
def sQ(w:jJ)(b:Nat)(s:ByteArray)(p l:Nat):Prop:=nP w b #[nz s,nk nI (p:Int),nk nI (l:Int)] 208
theorem sQ.c0{w:jJ}{b:Nat}{s:ByteArray}{p l:Nat}(h:sQ w b s p l):w.cell? (Z b 0 V)=U (nz s):=h.cell 0
theorem sQ.c1{w:jJ}{b:Nat}{s:ByteArray}{p l:Nat}(h:sQ w b s p l):w.cell? (Z b 1 V)=U (nk nI p):=h.cell 1
theorem sQ.c2{w:jJ}{b:Nat}{s:ByteArray}{p l:Nat}(h:sQ w b s p l):w.cell? (Z b 2 V)=U (nk nI l):=h.cell 2
theorem sQ.drewN{w:jJ}{b:Nat}{s:ByteArray}{p l:Nat}(h:sQ w b s p l)(n:Nat):sQ (w.drewN n) b s p l:=nP.drewN h n
theorem sQ.move{w:jJ}{b:Nat}{s:ByteArray}{p l:Nat}(h:sQ w b s p l)(q:Nat):sQ (w.setCell (Z b 1 V) (nk nI (q:Int))) b s q l:=nP.set h 1 _
theorem sQ.left{w:jJ}{b:Nat}{s:ByteArray}{p l:Nat}(h:sQ w b s p l)(q:Nat):sQ (w.setCell (Z b 2 V) (nk nI (q:Int))) b s p q:=nP.set h 2 _
def nQ(s:ByteArray)(p:Nat):List UInt8:=s.data.toList.drop p
theorem qY{s:ByteArray}{p:Nat}(h:p<s.size):nQ s p=s[p]::nQ s (p+1):=by
 unfold nQ;rw[List.drop_eq_getElem_cons (by simpa using h)];rfl
theorem rY{s:ByteArray}{p:Nat}(h:s.size<=p):nQ s p=[]:=by
 unfold nQ;exact List.drop_eq_nil_of_le (by simpa using h)
theorem Jv{s:ByteArray}{p:Nat}(hp:p<=s.size)(h:nQ s p=[]):p=s.size:=by
 rcases kZ p s.size with A|A
 .rw[qY A]at h;cases h
 .omega
def oP(c:UInt8)(l:List UInt8):Bool:=decide (l.head? =U c)
theorem Sq(h:p:=by
 go_in;go_wp2_with fail;go_quiet (fail);go_wp2_with fail;go_returns;exact⟨rfl,(pE.refl b w).drewN _,HB.drewN _⟩):p:=h
theorem uu(b:Nat)(s:ByteArray)(p l:Nat)(c:UInt8)(w:jJ)(hs:s.size<=j3)(hp:p<=s.size)(hb:sQ w b s p l):
  jV jI 215 #[nA (U (Z b 0 V)),nk .u8 (c.toNat:Int)] w λe w'=>e=nG (nC (oP c (nQ s p)))/\pE b w w'/\
   sQ w' b s (if oP c (nQ s p)then p+1 else p) l:=by
 unfold j3 at hs;obtain⟨c0,c1⟩:=hb.a2;have f1:=nP.free hb 1;have HB:=jH hb;clear hb;rcases kZ p s.size with h|h
 .have hn:oP c (nQ s p)=decide (s[p]=c):=by rw[qY h];simp[oP]
  have C:((p:Int)==s.size)=false:=nT;rw[hn];by_cases hc:s[p]=c
  .have A:((s[p].toNat:Int) !=(c.toNat:Int))=false:=by rw[hc];simp
   rw[decide_eq_true hc];clear hn hc;go_in;go_wp2_with fail;go_quiet (fail);go_wp2_with fail;go_returns;exact⟨rfl,((pE.refl b w).drewN _).set 1 _,by simpa using(HB.drewN _).move (p+1)⟩
  .have A:((s[p].toNat:Int) !=(c.toNat:Int))=true:=by
    rw[bne_iff_ne];intro E;exact hc (lX.1 nL)
   rw[decide_eq_false hc];clear hn hc;exact Sq
 .obtain rfl:p=s.size:=nL
  have hn:oP c (nQ s s.size)=false:=by rw[rY (jK _)];rfl
  rw[hn];clear hn;exact Sq
theorem NK:∀(l:List UInt8)(k:Nat),k<(qa l).length->∃b,l[k]? =U b/\uQ b=true/\(qa l).take (k+1)=(qa l).take k++[b]
 |[],k,h=>by simp[qa]at h
 |c::r,k,h=>by
  by_cases hc:uQ c=true
  .have e:qa (c::r)=c::qa r:=by simp[qa,hc]
   rw[e]at h⊢;cases k with
   |zero=>exact⟨c,rfl,hc,rfl⟩
   |succ k=>
    obtain⟨b,h1,h2,A⟩:=NK r k (by simpa using h);exact⟨b,by simpa using h1,h2,by rw[ky,A];rfl⟩
  .have e:qa (c::r)=[]:=by simp[qa,hc]
   rw[e]at h;simp at h
theorem yt:∀ l:List UInt8,past l=l.drop (qa l).length
 |[]=>rfl
 |c::r=>by
  by_cases hc:uQ c=true;.simp[qa,past,hc,yt r]
  .simp[qa,past,hc]
theorem Eg:∀(l:List UInt8)(b:UInt8),(past l).head? =U b->uQ b=false
 |[],b,h=>by simp[past]at h
 |c::r,b,h=>by
  by_cases hc:uQ c=true;.simp only[past,hc,if_true]at h;exact Eg r b h
  .simp only[past,hc,if_false]at h
   simp at h;subst h;simpa using hc
theorem K4(ds:List UInt8)(k:Nat):yL (ds.take k)<=yL ds:=by
 unfold yL;conv=>rhs;rw[<-ng k ds,List.foldl_append]
 exact MZ _ _
theorem UX{s:ByteArray}{p k:Nat}{b:UInt8}(h:(nQ s p)[k]? =U b):∃h:p+k<s.size,s[p+k]=b:=by
 unfold nQ at h;rw[List.getElem?_drop]at h;obtain⟨h1,h2⟩:=lF.1 h;exact⟨by simpa using h1,h2⟩
theorem yT(s:ByteArray)(p k:Nat):(nQ s p).drop k=nQ s (p+k):=by unfold nQ;rw[List.drop_drop]
theorem NL(ds:List UInt8):zO ds=(decide (ds.length=1)||(decide (1<ds.length)&&decide (ds.head?≠U 48))):=by
 cases ds with
 |nil=>rfl
 |cons b r=>cases r with
  |nil=>rfl
  |cons c r=>
   simp only[zO,kF,List.head?_cons];have:(b.toNat≠48)<->(U b≠U (48:UInt8)):=by
    constructor;.intro h A;cases A;exact h rfl
    .intro h A;exact h (congrArg U (lX.1 A))
   simp[this]
theorem Yu{most:Nat}{l:List UInt8}(h:most<yL (qa l)):num most l=V:=by
 unfold num;rw[if_neg];simp;intro _;omega
theorem Yv{most:Nat}{l:List UInt8}(h:zO (qa l)=false):num most l=V:=by
 unfold num;rw[if_neg];simp[h]
theorem Yw{most:Nat}{l:List UInt8}(h:zO (qa l)=true)(A:yL (qa l)<=most):num most l=U (yL (qa l),past l):=by
 unfold num;rw[if_pos];simp[h,A]
theorem a1L{D p k q:Nat}(h:p+k=q)(c:k<D):D -(q+1 - p)<D -(q - p):=nL
def K5(b:Nat)(s:ByteArray)(p l most:Nat)(w:jJ)(e:Ending)(w':jJ):Prop:=
 ∃(n:Nat) (ok:Bool) (A:Nat),e=nG (nE #[nk nI (n:Int),nC ok])/\pE b w w'/\sQ w' b s A l/\A<=s.size/\n<=most/\
  (ok=true->num most (nQ s p)=U (n,nQ s A))/\(ok=false->num most (nQ s p)=V)
theorem Sr(h:p:=by
 simp only[uQ,Bool.and_eq_false_iff,decide_eq_false_iff_not]at h2;rcases h2 with h2|h2
 .exact .inl ⟨h,nL⟩
 .exact .inr ⟨h,nL⟩):p:=h
theorem Su(h:p:=by
 obtain⟨b,h1,h2,h3⟩:=NK (nQ s p) k nL;obtain⟨h4,h5⟩:=UX h1;exact⟨h4,by rw[h5];exact h2,by rw[h5];exact h3⟩):p:=h
theorem Yx(h:p:=by
 clear he1 he2 hk1 fin HWD;rcases hend with rfl|⟨hlt,hb'⟩|⟨hlt,hb'⟩
 .have d0:decide ((s.size:Int)<s.size)=false:=nS
  go_wp2_with fail;go_quiet (fail);go_wp2_with fail;go_quiet (fail);go_wp2_with fail;exact HP _ _ ⟨n,false,_,rfl,(HU.drewN _).drewN _,(HR.drewN _).drewN _,hqs,hn,by have h:=IM.out;simpa using h⟩
 .have d0:decide ((q:Int)<s.size)=true:=nT
  have d1:decide ((48:Int)<=(s[q].toNat:Int))=false:=nT;clear hb';go_wp2_with fail;go_quiet (fail);go_wp2_with fail;go_quiet (fail);go_wp2_with fail;exact HP _ _ ⟨n,false,_,rfl,(HU.drewN _).drewN _,(HR.drewN _).drewN _,hqs,hn,by have h:=IM.out;simpa using h⟩
 .have d0:decide ((q:Int)<s.size)=true:=nT
  have d1:decide ((48:Int)<=(s[q].toNat:Int))=true:=nT;have d2:decide ((s[q].toNat:Int)<=57)=false:=nT;clear hb';go_wp2_with fail;go_quiet (fail);go_wp2_with fail;go_quiet (fail);go_wp2_with fail;exact HP _ _ ⟨n,false,_,rfl,(HU.drewN _).drewN _,(HR.drewN _).drewN _,hqs,hn,by have h:=IM.out;simpa using h⟩):p:=h
theorem Yy(h:p:=by
 rcases hend with rfl|⟨hlt,hb'⟩|⟨hlt,hb'⟩
 .have d0:decide ((s.size:Int)<s.size)=false:=nS
  go_wp2_with fail;go_quiet (fail);go_wp2_with fail;go_quiet (fail);go_wp2_with fail;exact HP _ _ ⟨n,true,_,rfl,(HU.drewN _).drewN _,(HR.drewN _).drewN _,hqs,hn,by have h:=IM.out;simpa using h⟩
 .have d0:decide ((q:Int)<s.size)=true:=nT
  have d1:decide ((48:Int)<=(s[q].toNat:Int))=false:=nT;clear hb';go_wp2_with fail;go_quiet (fail);go_wp2_with fail;go_quiet (fail);go_wp2_with fail;exact HP _ _ ⟨n,true,_,rfl,(HU.drewN _).drewN _,(HR.drewN _).drewN _,hqs,hn,by have h:=IM.out;simpa using h⟩
 .have d0:decide ((q:Int)<s.size)=true:=nT
  have d1:decide ((48:Int)<=(s[q].toNat:Int))=true:=nT;have d2:decide ((s[q].toNat:Int)<=57)=false:=nT;clear hb';go_wp2_with fail;go_quiet (fail);go_wp2_with fail;go_quiet (fail);go_wp2_with fail;exact HP _ _ ⟨n,true,_,rfl,(HU.drewN _).drewN _,(HR.drewN _).drewN _,hqs,hn,by have h:=IM.out;simpa using h⟩):p:=h
theorem Yz(h:p:=by
 obtain⟨h1,h2,h3⟩:=HG.out 0 h;refine⟨nL,?_⟩;have h4:=congrArg List.head? h3;simp only[Nat.zero_add,kL,List.nil_append,List.head?_cons,Nat.add_zero]at h4;rw[<-h4];cases qa (nQ s p)<;>rfl):p:=h
theorem YA(h:p:=by
 rcases kZ 1 k with h|h
 .obtain⟨h1,_⟩:=H0.out nL
  by_cases h2:s[p].toNat=48;.exact .inr (.inr (.inl ⟨h,h1,h2⟩))
  .exact .inr (.inr (.inr ⟨h,h1,h2⟩))
 .omega):p:=h
theorem YB(h:p:=by
 have h1:=congrArg List.length (UW (nQ s p));rw[j5,hD]at h1;have h0:(nQ s p).length=s.size - p:=by unfold nQ;rw[kX];rfl
 omega):p:=h
theorem UY(b:Nat)(s:ByteArray)(p l most:Nat)(w:jJ)(hs:s.size<=j3)(hp:p<=s.size)(aK:most<=65536)(hb:sQ w b s p l):
  jV jI 214 #[nA (U (Z b 0 V)),nk nI (most:Int)] w (K5 b s p l most w):=by
 unfold j3 at hs;have c1:=hb.c1;have ay:=jH hb;obtain⟨D,hD⟩:=nV ((qa (nQ s p)).length);have ai:=jH hD;have aH:p+D<=s.size:=by
  exact YB
 have HG:jX (∀k,k<D->∃h:p+k<s.size,uQ s[p+k]=true/\(qa (nQ s p)).take (k+1)=(qa (nQ s p)).take k++[s[p+k]]):=jH λk hk=>by
  exact Su
 have az:jX (∀h:p+D<s.size,uQ s[p+D]=false):=jH λh=>by
  refine Eg (nQ s p) _ ?_;rw[yt,hD,yT,qY h];rfl
 have aA:jX (past (nQ s p)=nQ s (p+D)):=jH (by rw[yt,hD,yT]);have H0:jX (0<D->∃h:p<s.size,(qa (nQ s p)).head? =U s[p]):=jH λh=>by
  exact Yz
 generalize aj:K5 b s p l most w=af;have HP:jX (∀e w',K5 b s p l most w e w'->af e w'):=jH λe w' h=>by rw[<-aj];exact h
 clear hb hD aj;go_in;go_wp2_with fail;clear c1;go_loopw [7] (λaB J=>∃(k n:Nat),aB=nk nI n/\k<=D/\n<=most/\jX (n=yL ((qa (nQ s p)).take k))/\jX (sQ J b s (p+k) l)/\jX (pE b w J)) (λ_ J=>D -(match J.cell? (Z b 1 V)with|some v=>(kT v).toNat - p|none=>0));case atStart=>exact⟨0,0,rfl,nL,nL,by simp[jX,yL],jH ay.out,jH (pE.refl _ _)⟩
 case round=>
  obtain⟨k,n,rfl,hk,hn,ag,HR,HU⟩:=hrel;obtain⟨q,N⟩:=nV (p+k);have E:=jH N;rw[N]at HR;have hqs:q<=s.size:=nL;obtain⟨c0,c1⟩:=HR.a2;have f1:=nP.free HR 1;have I:=jH (HG k);rw[N]at I;clear N;by_cases c:k<D
  .obtain⟨hlt,C,htake⟩:=I.out c
   simp only[uQ,j4,decide_eq_true_eq]at C;have Q:=jH (jU C htake);have d0:decide ((q:Int)<s.size)=true:=nT;have d1:decide ((48:Int)<=(s[q].toNat:Int))=true:=nT;have d2:decide ((s[q].toNat:Int)<=57)=true:=nT;have aC:48<=(s[q].toNat:Int):=nL;have aD:(s[q].toNat:Int)<=57:=nL;clear htake C;by_cases O:most<10*n+(s[q].toNat - 48)
   .have aF:decide ((most:Int)<10*(n:Int)+((s[q].toNat:Int) - 48))=true:=nT
    have ah:=jH O;clear O;go_wp2_with fail;go_quiet (fail);go_wp2_with fail;go_quiet (fail);go_wp2_with fail;refine HP _ _ ⟨0,false,q+1,rfl,(HU.drewN _).set 1 _,by simpa using(HR.drewN _).move (q+1),hlt,nL,(λh=>by cases h),λ_=>Yu ?_⟩;have h1:=ah.out;have h2:=K4 (qa (nQ s p)) (k+1);rw[Q.2,Ju,<-ag.out]at h2;omega
   .have aF:decide ((most:Int)<10*(n:Int)+((s[q].toNat:Int) - 48))=false:=nT
    have ah:=jH O;clear O;go_wp2_with fail;go_quiet (fail);go_wp2_with fail;go_quiet (fail);go_wp2_with fail;have Y:∀m,sQ ((wr.drewN m).setCell (Z b 1 V) (nk nI ((q:Int)+1))) b s (q+1) l:=λm=>by simpa using(HR.drewN m).move (q+1)
    refine⟨⟨k+1,10*n+(s[q].toNat - 48),by congr 1;omega,nL,by have:=ah.out;omega,jH ?_,jH (by rw[show p+(k+1)=q+1 by have:=E.out;omega];exact Y _),jH ((HU.drewN _).set 1 _)⟩,?_⟩;.rw[Q.2,Ju,<-ag.out]
    .have e1:=λm=>(Y m).c1
     have h3:=E.out;simp only[e1,c1,kT,Int.toNat_natCast];exact a1L h3 c
  .obtain rfl:k=D:=nL
   have aa:jX (n=yL (qa (nQ s p))):=jH (by rw[ag.out,List.take_of_length_le (by have:=ai.out;omega)]);have ak:jX (past (nQ s p)=nQ s q):=jH (by rw[aA.out,E.out]);have hend:q=s.size\/(∃h:q<s.size,s[q].toNat<48)\/(∃h:q<s.size,57<s[q].toNat):=by
    rcases kZ q s.size with h|h
    .right
     have h1:=az.out;rw[E.out]at h1;have h2:=h1 h;exact Sr
    .exact .inl nL
   have hlen:k=0\/k=1\/(1<k/\∃h:p<s.size,jX (s[p].toNat=48))\/(1<k/\∃h:p<s.size,jX (s[p].toNat≠48)):=by
    exact YA
   have HWD:jX (zO (qa (nQ s p))=(decide (k=1)||(decide (1<k)&&decide ((qa (nQ s p)).head?≠U 48)))):=jH (by rw[NL,ai.out]);have fin:jX (∀ok:Bool,zO (qa (nQ s p))=ok->(ok=true->num most (nQ s p)=U (n,nQ s q))/\(ok=false->num most (nQ s p)=V)):=jH λok hok=>
    ⟨λh=>by rw[Yw (by rw[hok,h]) (by rw[<-aa.out];omega),<-aa.out,ak.out],λh=>Yv (by rw[hok,h])⟩
   have ae:(q:Int)=p+k:=by have:=E.out;omega
   have aI:=jH ae;have au:(∃e1:Bool,((q:Int) - p==1)=e1/\e1=decide (k=1))/\∃e2:Bool,decide (1<(q:Int) - p)=e2/\e2=decide (1<k):=by
    refine⟨⟨_,rfl,?_⟩,_,rfl,?_⟩;.rw[Bool.eq_iff_iff];simp;omega
    .rw[decide_eq_decide];omega
   obtain⟨⟨e1,aJ,he1⟩,e2,av,he2⟩:=au;clear ae I;rcases hlen with hk1|hk1|⟨hk1,ax,A⟩|⟨hk1,ax,A⟩
   .obtain rfl:e1=false:=by rw[he1];simp;omega
    obtain rfl:e2=false:=by rw[he2];simp;omega
    have IM:=jH (fin false (by rw[HWD.out];simp;omega));exact Yx
   .obtain rfl:e1=true:=by rw[he1];simp;omega
    have IM:=jH (fin true (by rw[HWD.out];simp;omega));clear he1 he2 av hk1 fin HWD;exact Yy
   .obtain rfl:e1=false:=by rw[he1];simp;omega
    obtain rfl:e2=true:=by rw[he2];simp;omega
    have d5:((s[p].toNat:Int) !=48)=false:=by have:=A.out;simp;omega
    have IM:=jH (fin false (by
     obtain⟨_,h5⟩:=H0.out nL;rw[HWD.out,h5,show s[p]=48 from lX.1 A.out];simp;omega))
    exact Yx
   .obtain rfl:e1=false:=by rw[he1];simp;omega
    obtain rfl:e2=true:=by rw[he2];simp;omega
    have d5:((s[p].toNat:Int) !=48)=true:=by have:=A.out;simp;omega
    have IM:=jH (fin true (by
     obtain⟨_,h5⟩:=H0.out nL;have aG:s[p]≠48:=λh=>A.out (by rw[h];rfl)
     rw[HWD.out,h5];simp[aG];omega))
    clear he1 he2 hk1 fin HWD;exact Yy
theorem sQ.below{w w':jJ}{b:Nat}{s:ByteArray}{p l:Nat}(h:sQ w b s p l)(hb:jS w.heap.size w w'):sQ w' b s p l:=Below.blk hb h (nP.lt h)
theorem sQ.lt{w:jJ}{b:Nat}{s:ByteArray}{p l:Nat}(h:sQ w b s p l):b<w.heap.size:=nP.lt h
def qo(w:jJ)(g:Nat)(a b c d:jP):jJ:=(((w.setCell (Z g 0 V) a).setCell (Z g 1 V) b).setCell (Z g 2 V) c).setCell (Z g 3 V) d
theorem oL(w:jJ)(g:Nat)(a b c d:jP):(((w.setCell (Z g 0 V) a).setCell (Z g 1 V) b).setCell (Z g 2 V) c).setCell (Z g 3 V) d=qo w g a b c d:=rfl
theorem NM{w:jJ}{g:Nat}{x y z u a b c d:jP}(h:nP w g #[x,y,z,u] t):nP (qo w g a b c d) g #[a,b,c,d] t:=by
 have:=(((h.set 0 a).set 1 b).set 2 c).set 3 d;simpa [qo]using this
theorem Dl{b0:Nat}{u w:jJ}{g:Nat}{a b c d:jP}(h:pE b0 u w)(hg:u.heap.size<=g):pE b0 u (qo w g a b c d):=
 pE.Bu (pE.Bu (pE.Bu (pE.Bu h (a:=(Z g 0 V)) hg a) (a:=(Z g 1 V)) hg b) (a:=(Z g 2 V)) hg c) (a:=(Z g 3 V)) hg d
theorem yU{w:jJ}{g h:Nat}{a b c d:jP}{cs:Array jP}(hb:nP w h cs t)(A:h≠g):nP (qo w g a b c d) h cs t:=
 (((hb.setOther (a:=(Z g 0 V)) A a).setOther (a:=(Z g 1 V)) A b).setOther (a:=(Z g 2 V)) A c).setOther (a:=(Z g 3 V)) A d
theorem AO{w:jJ}{g:Nat}{a b c d:jP}(k:Nat)(h:k≠g):(qo w g a b c d).heap[k]? =w.heap[k]? :=by
 unfold qo;rw[j6 _ _ _ _ h,j6 _ _ _ _ h,j6 _ _ _ _ h,j6 _ _ _ _ h]
theorem yu{w:jJ}{g:Nat}{a b c d:jP}:(qo w g a b c d).heap.size=w.heap.size:=by simp[qo,kz]
theorem wE{w:jJ}{g:Nat}{a b c d:jP}{Q:Nat->Prop}{v:jP}{s:List (nM TL)}(h:oh.nX w Q v s)(A:∀k,Q k->k≠g):oh.nX (qo w g a b c d) Q v s:=
 h.keep (mR yu.symm) (λ_ _ h=>h) λk _ hk=>AO k (A k hk)
def yw(kind:Int)(b:Nat)(s:ByteArray)(p l most:Nat)(w:jJ)(e:Ending)(w':jJ):Prop:=
 ∃(n:Nat) (ok:Bool) (A:Nat),e=nG (nE #[nD #[nk nI kind,nk nI (n:Int),ny V 0 0,nk nI 0],nC ok])/\pE b w w'/\sQ w' b s A l/\A<=s.size/\n<=most/\
  (ok=true->num most (nQ s p)=U (n,nQ s A))/\(ok=false->num most (nQ s p)=V)
theorem Dm(kind:Int)(b E:Nat)(s:ByteArray)(p l most:Nat)(w:jJ)(hs:s.size<=j3)(hp:p<=s.size)(av:most<=65536)(hb:sQ w b s p l)(ae:w.cell? (Z E 0 V)=U (nA (U (Z b 0 V)))):
  jV jI 213 #[nk nI kind,nk nI (most:Int),nA (U (Z E 0 V))] w (yw kind b s p l most w):=by
 have C:E<w.heap.size:=by
  rcases kZ E w.heap.size with h|h
  .exact h
  .simp[mI,mZ h]at ae
 obtain⟨g,hg⟩:=nV w.heap.size
 have af:jX (∀W,w.alloc (nH #[nk nI 0,nk nI 0,ny V 0 0,nk nI 0] 63)=W->pE b w W/\sQ W b s p l/\W.cell? (Z E 0 V)=U (nA (U (Z b 0 V)))/\
   nP W g #[nk nI 0,nk nI 0,ny V 0 0,nk nI 0] 63):=jH λW h=>by
  subst h;have I:=(jT w.heap.size w).alloc (jK _) (nH #[nk nI 0,nk nI 0,ny V 0 0,nk nI 0] 63);exact⟨pE.of I,hb.below I,(I.cell (p:=(Z E 0 V)) C).trans ae,hg▸nP.new w _ _⟩
 have aB:b<g:=hg▸hb.lt;have aD:=jH C;clear hb ae C;go_in;go_upto_region 1 with fail;generalize w.alloc (nH #[nk nI 0,nk nI 0,ny V 0 0,nk nI 0] 63)=w1 at*;obtain⟨N,O,aC,Q⟩:=af.out _ rfl;have ax:=jH (UY b s p l most w1 hs hp av O);have ag:=jH N;have ah:=jH Q;clear af N O Q;go_wp2_with fail;refine(ax).mono ?_;rintro e w2 ⟨n,ok,ay,rfl,J,Y,ai,aj,hok,aa⟩;have A:nP w2 g #[nk nI 0,nk nI 0,ny V 0 0,nk nI 0] 63:=J.blk ah nL;have aF:w2.cell? (Z g 0 V)=U (nk nI 0):=A.cell 0;have aG:w2.cell? (Z g 1 V)=U (nk nI 0):=A.cell 1;have d2:w2.cell? (Z g 2 V)=U (ny V 0 0):=A.cell 2;have aH:w2.cell? (Z g 3 V)=U (nk nI 0):=A.cell 3;obtain⟨z0,aI,aJ,z3⟩:=A.f4;have az:=jH (jU (ag.trans J) (jU Y (jU ai (jU aj (jU hok aa)))));have ak:=jH A;clear J Y hok aa A;go_wp2_with fail;rw[oL];obtain⟨a1,a2,a3,a4,a5,a6⟩:=az.out;have au:=NM (a:=nk nI kind) (b:=nk nI (n:Int)) (c:=ny V 0 0) (d:=nk nI 0) (show nP w2 g #[nk nI 0,nk nI 0,ny V 0 0,nk nI 0] 63 from ak.out);obtain⟨aA,e1,e2,e3⟩:=au.a4;refine jZ (v:=nE #[nD #[nk nI kind,nk nI n,ny V 0 0,nk nI 0],nC ok]) (by simp[kQ,Tryz.results213,go_sem,aA,e1,e2,e3]) rfl ?_;exact⟨n,ok,ay,rfl,Dl a1 nL,yU a2 nL,a3,a4,a5,a6⟩
end
end Go.Proofs.YtamfcjmhnndbdaaGreatDoor


