/- Part 1 of the proof. -/
import Derived.Test.YtamfcjmhnndbdaaGreatDoorZu00
import Derived.Test.YtamfcjmhnndbdaaGreatDoorRows
import Derived.WalkSpells
import Derived.RegionTactic
import Derived.BigRegion
import Derived.ChangeAlike
import Derived.Deep.QuietTactic
import Derived.BigQuiet
import Derived.StillTailTactics
open Go.Value renaming bool→nA,int→ng,pointer→nz,slice→nk,string→ny,tuple→nD,int→lT
open Go.Obj renaming cells→nG
open Go.IntKind renaming i64→nH
open Go.Ending renaming returned→nE
open Go.Lib renaming hid→jH
open Go.Proofs.Tryz renaming prog→jI,underlying86→l8
open Go renaming World→jJ,Value→jP,Calls→jV,maxLen→j5
open Nat renaming le_refl→jL,le_trans→kg,lt_of_lt_of_le→kG,zero_le→kI
open Go.RowKit renaming Below→jS,Hid→jW
open Go.RowKit.Below renaming refl→jT
open And renaming intro→jU
open List renaming length_append→jY,length_drop→kS,length_take→kY
open ByteArray renaming size_extract→kz
open Array renaming length_toList→kV
open Go.Sem renaming run→mi
open Go.Instr renaming makeFunc→mG
open Int renaming toNat_of_nonneg→mZ
namespace Go.Proofs.YtamfcjmhnndbdaaGreatDoor
set_option linter.unusedVariables false
set_option linter.unusedSimpArgs false
set_option maxRecDepth 100000
set_option maxHeartbeats 8000000
variable {p:Prop}{l:List UInt8}{size b:Nat}{w:jJ}{row:Option Nat}{v:jP}
section
open Go.RowKit
def O6(mo us ta tq:Int):Array jP:=#[ng nH mo,ng nH us,ng nH ta,ng nH tq]
theorem TK(n:Int)(w:jJ):
  jV jI 32 #[ng nH n] w λe w'=>e=nE (nz (some ⟨w.heap.size,0,none⟩))/\w'=w.alloc (nG (O6 (if n<0 then 0 else n) 0 0 0) 119):=by
 by_cases h:n<0
 all_goals
  go_in;go_wp2;go_returns;exact⟨rfl,rfl⟩
def Al(mo us ta n:Int):Int:=if mo - us<n\/9223372036854775807 - ta<n then 5 else 0
theorem Ke(h:p:=by
 go_in;go_wp2;go_quiet (fail);go_wp2;go_returns;exact⟨rfl,_,rfl⟩):p:=h
theorem take1(b p q:Nat)(mo us ta tq n:Int)(w:jJ)(h0:0<=us)(J:us<=mo)(N:mo<=9223372036854775807)(O:0<=ta)(Q:ta<=9223372036854775807)(hb:nO w b (O6 mo us ta tq) 119)(hp:w.cell? ⟨p,0,none⟩=some (ng nH n))(U:w.cell? ⟨q,0,none⟩=some (nz (some ⟨b,0,none⟩))):
  jV jI 60 #[nz (some ⟨p,0,none⟩),nz (some ⟨q,0,none⟩)] w λe w'=>e=nE (ng nH (Al mo us ta n))/\∃k,w'=w.drewN k:=by
 have c0:=hb.cell 0;have c1:=hb.cell 1;have c2:=hb.cell 2;simp[O6]at c0 c1 c2;by_cases A:mo - us<n
 .have e:Al mo us ta n=5:=if_pos (.inl A)
  rw[e];clear e;exact Ke
 .have E:decide (mo - us<n)=false:=by simpa using A
  by_cases C:9223372036854775807 - ta<n
  .have e:Al mo us ta n=5:=if_pos (.inr C)
   rw[e];clear e A;exact Ke
  .have e:Al mo us ta n=0:=if_neg nK
   rw[e];have I:decide (9223372036854775807 - ta<n)=false:=by simpa using C
   clear e A C;exact Ke
theorem take2(b p q:Nat)(mo us ta tq n:Int)(w:jJ)(h0:0<=us+n)(E:us+n<=9223372036854775807)(I:0<=ta+n)(J:ta+n<=9223372036854775807)(A:q≠b)(C:p≠b)(hb:nO w b (O6 mo us ta tq) 119)(hp:w.cell? ⟨p,0,none⟩=some (ng nH n))(N:w.cell? ⟨q,0,none⟩=some (nz (some ⟨b,0,none⟩))):
  jV jI 61 #[nz (some ⟨q,0,none⟩),nz (some ⟨p,0,none⟩)] w λe w'=>e=nE (nD #[])/\pE b w w'/\nO w' b (O6 mo (us+n) (ta+n) tq) 119:=by
 have c1:=hb.cell 1;have c2:=hb.cell 2;have f1:=hb.free 1;have f2:=hb.free 2;simp[O6]at c1 c2;go_in;go_wp2;go_region;go_wp2;go_region;go_wp2;go_returns;exact⟨rfl,(((pE.refl b w).set 1 _).set 2 _).drew.drew,(hb.set 1 _).set 2 _⟩
def a2m(b:Nat)(w:jJ)(r mo us ta tq:Int):Ending->jJ->Prop:=λe w'=>
 e=nE (ng nH r)/\pE b w w'/\nO w' b (O6 mo us ta tq) 119
def TM(a b:Int):Int:=if a<b then b else a
theorem Kg(b:Nat)(mo us ta tq n r:Int)(cf C:Array jP)(w:jJ)(hn:0<=n)(J:((r:Int) !=0)=true)(hb:nO w b (O6 mo us ta tq) 119)(A:jV jI 60 cf w λe w'=>e=nE (ng nH r)/\∃k,w'=w.drewN k):
  jV jI 59 #[nz (some ⟨b,0,none⟩),ng nH n,.func (.func 60) #[] cf,.func (.func 61) #[] C] w (a2m b w r mo us ta tq):=by
 have E:=jH A;clear A;have I:decide (n<0)=false:=by simpa using hn
 go_in;go_wp2_with fail;refine E.mono ?_;rintro e w1 ⟨rfl,k,rfl⟩;go_wp2_with fail;go_returns;exact⟨rfl,⟨rfl,rfl,rfl,jL _,λ_ _ _=>rfl⟩,hb⟩
theorem Kh(b:Nat)(mo us ta tq A E n:Int)(cf I:Array jP)(w:jJ)(hn:0<=n)(hb:nO w b (O6 mo us ta tq) 119)(J:jV jI 60 cf w λe w'=>e=nE (ng nH 0)/\∃k,w'=w.drewN k)(N:∀k,jV jI 61 I (w.drewN k) λe w'=>e=nE (nD #[])/\pE b (w.drewN k) w'/\nO w' b (O6 mo A E tq) 119):
  jV jI 59 #[nz (some ⟨b,0,none⟩),ng nH n,.func (.func 60) #[] cf,.func (.func 61) #[] I] w (a2m b w 0 mo A E (TM tq A)):=by
 have O:=jH J;have Q:=jH N;clear J N;have V:decide (n<0)=false:=by simpa using hn
 have Y:(if tq<A then A else tq)=TM tq A:=rfl;generalize TM tq A=m at*;go_in;go_wp2_with fail;refine O.mono ?_;rintro e w1 ⟨rfl,k,rfl⟩;go_wp2_with fail;refine(Q k).mono ?_;rintro e w2 ⟨rfl,U,C⟩;have c1:=C.cell 1;have c3:=C.cell 3;have f3:=C.free 3;simp[O6]at c1 c3;go_wp2_with fail;go_region;go_wp2;go_returns;refine⟨rfl,?_,?_⟩
 .refine pE.trans (v:=w.drewN k) ⟨rfl,rfl,rfl,jL _,λ_ _ _=>rfl⟩ ?_
  exact(U.set 3 _).drew
 .exact C.set 3 _
structure MS where
 mo:Int
 us:Int
 ta:Int
 tq:Int
structure MS.Ok(m:MS):Prop where
 a:0<=m.us
 b:m.us<=m.tq
 c:m.tq<=m.mo
 d:m.mo<=9223372036854775807
 e:0<=m.ta
 f:m.ta<=9223372036854775807
def MS.cs(m:MS):Array jP:=O6 m.mo m.us m.ta m.tq
def MS.new(n:Int):MS:=⟨if n<0 then 0 else n,0,0,0⟩
def MS.take(m:MS)(n:Int):MS×Int:=
 if n<0 then(m,1)else if m.mo - m.us<n\/9223372036854775807 - m.ta<n then(m,5)else(⟨m.mo,m.us+n,m.ta+n,TM m.tq (m.us+n)⟩,0)
theorem MS.Ok.new(n:Int)(h:n<=9223372036854775807):(MS.new n).Ok:=by
 unfold MS.new;constructor<;>(simp only[];try split)<;>omega
theorem MS.Ok.take{m:MS}(h:m.Ok)(n:Int):(m.take n).1.Ok:=by
 obtain⟨a,b,c,d,e,f⟩:=h;unfold MS.take TM;split;.exact⟨a,b,c,d,e,f⟩
 .split
  .exact⟨a,b,c,d,e,f⟩
  .constructor<;>(simp only[];try split)<;>omega
def IsM(w:jJ)(b:Nat)(m:MS):Prop:=nO w b m.cs 119
def a2n(b:Nat)(w:jJ)(r:MS×Int):Ending->jJ->Prop:=λe w'=>e=nE (ng nH r.2)/\pE b w w'/\IsM w' b r.1
theorem O7(n:Int)(w:jJ):
  jV jI 32 #[ng nH n] w λe w'=>e=nE (nz (some ⟨w.heap.size,0,none⟩))/\jS w.heap.size w w'/\w.heap.size<w'.heap.size/\IsM w' w.heap.size (MS.new n):=by
 refine(TK n w).mono λe w' ⟨he,A⟩=>⟨he,?_⟩
 subst A;exact⟨(jT _ _).alloc (jL _) _,nR,nO.new _ _ _⟩
theorem V6(h:p:=by
 clear hb2 hp hq e e2 d1 H1;have H':=jH H;clear H;go_in;go_wp2_with fail;refine H'.mono ?_;rintro e w2 ⟨rfl,hu2,hb3⟩;go_wp2_with fail;go_returns;exact⟨rfl,hu.trans hu2,hb3⟩):p:=h
theorem FR(b:Nat)(m:MS)(n:Int)(w:jJ)(E:m.Ok)(hb:IsM w b m):
  jV jI 33 #[nz (some ⟨b,0,none⟩),ng nH n] w (a2n b w (m.take n)):=by
 obtain⟨mo,us,ta,tq⟩:=m;obtain⟨a,b',c,d,e,f⟩:=E;simp only at a b' c d e f;have A:nO w b (O6 mo us ta tq) 119:=hb;have hlt:=A.lt;have I:∀(fn:Fn)(first cap:Array jP)(w:jJ),(mG fn first cap).run jI w=.ok (.func fn first cap) w:=λ_ _ _ _=>rfl
 have hb2:nO ((w.alloc (nG #[nz (some ⟨b,0,none⟩)] 89)).alloc (nG #[ng nH n] 3)) b (O6 mo us ta tq) 119:=(A.alloc _).alloc _;have hp:((w.alloc (nG #[nz (some ⟨b,0,none⟩)] 89)).alloc (nG #[ng nH n] 3)).cell? ⟨w.heap.size+1,0,none⟩=some (ng nH n):=by simp[go_sem]
 have hq:((w.alloc (nG #[nz (some ⟨b,0,none⟩)] 89)).alloc (nG #[ng nH n] 3)).cell? ⟨w.heap.size,0,none⟩=some (nz (some ⟨b,0,none⟩)):=by simp[go_sem]
 have hu:pE b w ((w.alloc (nG #[nz (some ⟨b,0,none⟩)] 89)).alloc (nG #[ng nH n] 3)):=((pE.refl b w).alloc _).alloc _;by_cases hn:n<0
 .have e:MS.take ⟨mo,us,ta,tq⟩ n=(⟨mo,us,ta,tq⟩,1):=if_pos hn
  rw[e];clear e hb2 hp hq;go_in;go_wp2_with (go_at_call 59;go_in);go_returns;exact⟨rfl,hu,(A.alloc _).alloc _⟩
 .have C:0<=n:=nK
  have H1:=take1 b (w.heap.size+1) w.heap.size mo us ta tq n _ nK nK nK nK nK hb2 hp hq;by_cases d1:mo - us<n\/9223372036854775807 - ta<n
  .have e:MS.take ⟨mo,us,ta,tq⟩ n=(⟨mo,us,ta,tq⟩,5):=by unfold MS.take;rw[if_neg hn,if_pos d1]
   have e2:Al mo us ta n=5:=if_pos d1;rw[e];rw[e2]at H1;have H:=Kg b mo us ta tq n 5 _ #[nz (some ⟨w.heap.size,0,none⟩),nz (some ⟨w.heap.size+1,0,none⟩)] _ C nN hb2 H1;exact V6
  .have e:MS.take ⟨mo,us,ta,tq⟩ n=(⟨mo,us+n,ta+n,TM tq (us+n)⟩,0):=by unfold MS.take;rw[if_neg hn,if_neg d1]
   have e2:Al mo us ta n=0:=if_neg d1;rw[e];rw[e2]at H1;have H:=Kh b mo us ta tq (us+n) (ta+n) n _ _ _ C hb2 H1 λk=>take2 b (w.heap.size+1) w.heap.size mo us ta tq n _ nK nK nK nK nK nK hb2 hp hq
   exact V6
theorem V7(b:Nat)(m:MS)(w:jJ)(hb:IsM w b m):
  jV jI 35 #[nz (some ⟨b,0,none⟩)] w λe w'=>e=nE (ng nH m.ta)/\w=w':=by
 have c:=nO.cell hb 2;simp[MS.cs,O6]at c;go_in;go_wp2;go_returns;exact⟨rfl,rfl⟩
def RS.left(r:RS):Nat:=if r.f=0 then r.t.size - r.p else 0
theorem RS.BB(r:RS)(n:Int)(h:r.Ok):(r.take n).1.t=r.t/\r.p<=(r.take n).1.p/\(r.f≠0->(r.take n).1.f≠0):=by
 unfold RS.take;split
 .split
  .exact⟨rfl,jL _,λh=>absurd ‹r.f=0› h⟩
  .split
   .exact⟨rfl,jL _,λh=>absurd ‹r.f=0› h⟩
   .exact⟨rfl,Nat.le_add_right _ _,λh=>absurd ‹r.f=0› h⟩
 .exact⟨rfl,jL _,id⟩
theorem RS.BC(r:RS)(x:Int)(A:x≠0):(r.fail x).t=r.t/\r.p<=(r.fail x).p/\(r.fail x).f≠0:=by
 unfold RS.fail;split;.exact⟨rfl,jL _,A⟩
 .exact⟨rfl,jL _,‹_›⟩
theorem RS.O8(r:RS)(h:r.Ok)(h0:r.f=0)(A:r.p<r.t.size):r.byte.1.t=r.t/\r.byte.1.p=r.p+1/\r.byte.1.f=0:=by
 unfold RS.byte;rw[if_pos h0,dif_pos A];exact⟨rfl,rfl,rfl⟩
theorem Fb(h:p:=by
 exact⟨(r.BB _ h).1,(r.BB _ h).2.1,h.take _⟩):p:=h
theorem Mm(k v:Nat)(r:RS)(h:r.Ok):(rH k v r).1.t=r.t/\r.p<=(rH k v r).1.p/\(rH k v r).1.Ok:=by
 unfold rH;split
 .split
  .exact Fb
  .exact⟨rfl,jL _,h⟩
 .split
  .exact Fb
  .split
   .exact Fb
   .exact Fb
theorem Ci:∀(f n A:Nat)(l:List UInt8),n<=f->1<=A->A<=l.length->(vY f n A l).length=l.length+n
 |0,n,A,l,h,_,_=>by simp only[vY];omega
 |f+1,n,A,l,h,hb,hl=>by
  simp only[vY];split;.omega
  .have C:((l.drop (l.length - A)).take (min n A)).length=min n A:=by rw[kY,kS];omega
   rw[Ci f _ A _ nK hb (by rw[jY];omega),jY,C];omega
theorem Mo{k:Nat}{h:RS×Nat×Nat}(hok:h.1.Ok)(hl:l.length<=size):
  (uj k h l size).1.t=h.1.t/\h.1.p<=(uj k h l size).1.p/\(uj k h l size).1.Ok/\(uj k h l size).2.length<=size:=by
 unfold uj;split;.exact⟨rfl,jL _,hok,hl⟩
 .split
  .have:=h.1.BC 3 nN
   exact⟨this.1,this.2.1,hok.fail _,hl⟩
  .rename_i A C
   split
   .have:=h.1.BB (h.2.1:Nat) hok
    refine⟨this.1,this.2.1,hok.take _,?_⟩;have E:=take_size h.1 h.2.1;rw[jY,<-DI];omega
   .rename_i hk
    refine⟨rfl,jL _,hok,?_⟩;rw[Ci _ _ _ _ (jL _) nK nK];omega
theorem zC{r:RS}(hok:r.Ok)(hl:l.length<=size)(h0:r.f=0)(A:r.p<r.t.size):
  (rR r l size).1.t=r.t/\r.p+1<=(rR r l size).1.p/\(rR r l size).1.Ok/\(rR r l size).2.length<=size:=by
 unfold rR;obtain⟨b1,E,b3⟩:=r.O8 hok h0 A;obtain⟨C,a2,a3⟩:=Mm (r.byte.2.toNat % 4) (r.byte.2.toNat/4) r.byte.1 hok.byte;obtain⟨c1,c2,c3,c4⟩:=Mo (k:=r.byte.2.toNat % 4) (h:=rH (r.byte.2.toNat % 4) (r.byte.2.toNat/4) r.byte.1) (l:=l) (size:=size) a3 hl;exact⟨by rw[c1,C,b1],nK,c3,c4⟩
theorem RS.vE(r:RS)(n:Int)(h:0<=r.f):0<=(r.take n).1.f:=by
 unfold RS.take;split
 .split
  .show(0:Int)<=1;decide
  .split
   .show(0:Int)<=2;decide
   .show(0:Int)<=0;decide
 .exact h
theorem RS.yH(r:RS){x:Int}(A:0<=x)(h:0<=r.f):0<=(r.fail x).f:=by
 unfold RS.fail;split;.exact A
 .exact h
theorem RS.Ro(r:RS)(h:0<=r.f):0<=r.byte.1.f:=by
 unfold RS.byte;split
 .split
  .show(0:Int)<=0;decide
  .show(0:Int)<=2;decide
 .exact h
theorem V8{r:RS}(h:0<=r.f):0<=(rR r l size).1.f:=by
 have A:∀k v,0<=(rH k v r.byte.1).1.f:=λk v=>by
  have hb:=r.Ro h;unfold rH;split
  .split
   .exact RS.vE _ _ hb
   .exact hb
  .split
   .exact RS.vE _ _ hb
   .split
    .exact RS.vE _ _ hb
    .exact RS.vE _ _ hb
 unfold rR uj;split;.exact A _ _
 .split
  .exact RS.yH _ nN (A _ _)
  .split
   .exact RS.vE _ _ (A _ _)
   .exact A _ _
theorem O9{r:RS}(hok:r.Ok)(hl:l.length<=size)(h0:r.f=0)(A:r.p<r.t.size):(rR r l size).1.left<r.left:=by
 obtain⟨a,b,c,d⟩:=zC hok hl h0 A;unfold RS.left;rw[if_pos h0,a];split<;>omega
def wO(size:Nat):Nat->RS->List UInt8->RS×List UInt8
 |0,r,l=>(r,l)
 |f+1,r,l=>if r.f=0/\r.p<r.t.size then wO size f (rR r l size).1 (rR r l size).2 else(r,l)
def Cj(s:ByteArray)(size:Nat):Except Nat (List UInt8):=
 let y:=wO size (s.size+1) (RS.of s) [];let r:=if y.2.length<size then y.1.fail 2 else y.1
 if r.f≠0 then .error r.f.toNat else .ok y.2
def Ja:Option (Nat×MS)->jP
 |none=> nz none
 |some x=> nz (some ⟨x.1,0,none⟩)
def pJ(w:jJ):Option (Nat×MS)->Prop
 |none=>True
 |some x=>IsM w x.1 x.2/\x.2.Ok
def rO(n:Int):Option (Nat×MS)->Option (Nat×MS)
 |none=>none
 |some x=>some (x.1,(x.2.take n).1)
def Ck(n:Int):Option (Nat×MS)->Int
 |none=>0
 |some x=>(x.2.take n).2
def oI(mt:Option (Nat×MS)):Option Nat:=mt.map Prod.fst
@[simp] theorem FT (n:Int) (mt:Option (Nat×MS)):oI (rO n mt)=oI mt:=by cases mt<;>rfl
theorem Cm(n:Int)(mt:Option (Nat×MS)):0<=Ck n mt:=by
 cases mt with
 |none=>exact Int.le_refl _
 |some x=>
  unfold Ck MS.take;dsimp only;split;.show(0:Int)<=1;decide
  .split
   .show(0:Int)<=5;decide
   .show(0:Int)<=0;decide
def sj(s:ByteArray)(most:Int)(mt:Option (Nat×MS)):Except Nat (List UInt8)×Option (Nat×MS):=
 match tT s.data.toList with
 |(n,k,e)=>if e≠0 then(.error e,mt)else if most<n then(.error 5,mt)else
  if Ck n mt≠0 then(.error (Ck n mt).toNat,rO n mt)else(Cj (s.extract k s.size) n,rO n mt)
def V9(R:Except Nat (List UInt8)×Option (Nat×MS))(mt:Option (Nat×MS))(w:jJ)(e:Ending)(w':jJ):Prop:=
 w.grownBy w' (oI mt)/\pJ w' R.2/\match R.1 with
 | .error er=>e=nE (nD #[ny ⟨#[]⟩,ng nH (er:Nat)])
 | .ok l=>e=nE (nD #[ny ⟨l.toArray⟩,ng nH 0])
theorem pJ.grown{mt:Option (Nat×MS)}{w':jJ}(h:pJ w mt)(hb:jS w.heap.size w w'):pJ w' mt:=by
 cases mt with
 |none=>trivial
 |some x=>exact⟨Below.blk hb h.1 (nO.lt h.1),h.2⟩
theorem o5{w':jJ}(hb:jS w.heap.size w w'):w.grownBy w' row:=⟨hb.os,hb.tape,hb.output,hb.size,λi hi _=>hb.block i hi⟩
theorem pV{a b c:jJ}(h:a.grownBy b row)(k:b.grownBy c row):a.grownBy c row:=
 ⟨k.os.trans h.os,k.tape.trans h.tape,k.output.trans h.output,kg h.size k.size,λi hi A=>(k.block i (kG hi h.size) A).trans (h.block i hi A)⟩
theorem a0m(mt:Option (Nat×MS))(b:Nat)(m:MS)(A:mt=some (b,m))(n:Int)(w:jJ)(h:pJ w mt):
  jV jI 33 #[nz (some ⟨b,0,none⟩),ng nH n] w λe w'=>e=nE (ng nH (Ck n mt))/\w.grownBy w' (oI mt)/\pJ w' (rO n mt):=by
 subst A;exact(FR b m n w h.2 h.1).mono λe w' ⟨C,E,I⟩=>⟨C,E,I,h.2.take n⟩
theorem Wd(mt:Option (Nat×MS))(W:jJ):mi jI (eqGuard BinOp.neq 89 (Operand.tmp 29) (Operand.const (Value.pointer none)) (Ja mt) (nz none)) W=.ok () W:=by
 cases mt with
 |none=>rfl
 |some x=>rfl
theorem a2O(mt:Option (Nat×MS))(W:jJ):mi jI (binOp BinOp.neq 89 (Ja mt) (nz none)) W=.ok (nA mt.isSome) W:=by
 cases mt with
 |none=>rfl
 |some x=>rfl
theorem We(c:Nat)(C:Int)(A:C=c)(hc:c<=4096)(w:jJ):(Instr.makeSlice VJ (ng nH 0) (ng nH C)).run jI w=
  .ok (nk (some ⟨w.heap.size,0,none⟩) 0 c) (w.alloc (nG (madeCells #[ng .u8 0] c) wN)):=by
 subst A;obtain⟨i,hi,E,hs,hb⟩:=info_parts Bz;have I:=run_make (P:=jI) w VJ wN i (.int .u8 0) l8 hi E .i64 .i64 ((0:Nat):Int) (c:Int) nK nK (by rw[hb];omega) nK;simpa [hs,Value.cells]using I
theorem TN(c:Nat):(madeCells #[lT .u8 0] c).size=c:=by
 rw[<-kV,toList_madeCells_one];simp
def Ki(T b:Nat)(w:jJ):Nat:=match w.cell? ⟨b,1,none⟩,w.cell? ⟨b,2,none⟩with
 |some (ng _ p),some (ng _ f)=>if f=0 then T - p.toNat else 0
 |_,_=>0
theorem Jb{r:RS}(h:wo w b r):Ki r.t.size b w=r.left:=by
 unfold Ki RS.left;have c1:=nO.cell h 1;have c2:=nO.cell h 2;simp[RS.cs]at c1 c2;rw[c1,c2];simp
structure UnI(b:Nat)(w:jJ)(mt:Option (Nat×MS))(r:RS)(v:jP)(l:List UInt8)(W:jJ):Prop where
 sn:Ka w.heap.size b w r v l W
 mt:pJ W mt
theorem Pb{w0 W:jJ}{mt Ir:Option (Nat×MS)}{r:RS}(hg:w.grownBy w0 (oI mt))(h:UnI b w0 Ir r v l W):w.grownBy W (oI mt)/\pJ W Ir:=
 ⟨pV hg (o5 h.sn.qa),h.mt⟩
theorem a0o{B:Nat}{W A:jJ}{mt:Option (Nat×MS)}(h:pJ W mt)(hlt:∀x,oI mt=some x->x<B)(hB:B<=W.heap.size)(hb:jS B W A):pJ A mt:=by
 cases mt with
 |none=>trivial
 |some x=>exact⟨Below.blk hb h.1 (hlt _ rfl),h.2⟩
theorem TP{B:Nat}(h:oD w B wN v l):∃A C,v=nk A l.length C:=by
 rcases h.2 with⟨rfl,h0⟩|⟨g,cap,E,rfl,_⟩
 .exact⟨none,0,by rw[h0]⟩
 .exact⟨_,_,rfl⟩
theorem Rp{W:jJ}{mt:Option (Nat×MS)}{r:RS}(h:UnI b w mt r v l W)(k:Nat):UnI b w mt r v l (W.drewN k):=
 ⟨⟨h.sn.own,h.sn.rd,h.sn.ok,h.sn.hB,⟨h.sn.qa.os,h.sn.qa.tape,h.sn.qa.output,h.sn.qa.size,h.sn.qa.block⟩⟩,h.mt⟩
theorem Rq(h:p:=by
 go_in;go_wp2_with fail;refine CS.mono ?_;rintro e w2 ⟨rfl,rfl⟩;go_wp2_with fail;go_returns;rw[<-HRR.out];exact⟨World.grownBy.refl _ _,HMT.out,rfl⟩):p:=h
theorem Wh(h:p:=by
 rw[if_pos c1,if_pos (r.BC 2 nN).2.2]at Wi;have hfn:=(r.BC 2 nN).2.2;have hfp:=RS.yH r (x:=2) nN hnn;have a2N:=jH (HU.sn.ok.fail 2);generalize r.fail 2=r3 at*;have hfb:(r3.f !=0)=true:=by simp[hfn]
 go_wp2_with fail;refine CX.mono ?_;rintro e w7 ⟨rfl,hu,hr⟩;have HU7:jW (UnI b wc (rO n mt) r3 (nk oq L cq) l w7):=jH ⟨HU.sn.read hu hr a2N.out,a0o HU.mt Z4 (kg HU.sn.hB (Nat.le_of_lt HU.sn.lt)) (pE.below (B:=wc.heap.size) (b:=b) hu (jT _ _) HU.sn.hB (kg HU.sn.hB (Nat.le_of_lt HU.sn.lt)))⟩;have CF7:=jH (qc b r3 w7 hr);clear hu hr;go_wp2_with fail;refine CF7.mono ?_;rintro e w8 ⟨rfl,rfl⟩;go_wp2_with fail;refine CF7.mono ?_;rintro e w8 ⟨rfl,rfl⟩;go_wp2_with fail;go_returns;rw[Wi.out];have hend:=Pb H3.1 HU7.out;exact⟨hend.1,hend.2,by dsimp only;rw[mZ hfp];rfl⟩):p:=h
theorem Mq(s:ByteArray)(most:Int)(mt:Option (Nat×MS))(w:jJ)(hs:s.size<=j5)(bX:most<=65536)(U:pJ w mt):
  jV jI 148 #[ny s,ng nH most,Ja mt] w (V9 (sj s most mt) mt w):=by
 have CS:=jH (TH s w hs);have bY:s.size<=9223372036854775807:=by unfold j5 at hs;omega
 obtain⟨R,A⟩:=nT (sj s most mt);have aW:=jH A;rw[A];unfold sj at A;have V:=λn k h=>TI (l:=s.data.toList) (n:=n) (k:=k) h
 obtain⟨n,k,er,hsz⟩:∃n k er,tT s.data.toList=(n,k,er):=⟨_,_,_,rfl⟩;rw[hsz]at CS A;have HMT:=jH U;dsimp only at CS A;by_cases he:er=0;case neg=>
  rw[if_pos he]at A;have bZ:((er:Int)==0)=false:=wL;have cz:((er:Int) !=0)=true:=FL;have HRR:=jH A;clear he hsz V aW A U;exact Rq
 subst he;rw[if_neg nR]at A;obtain⟨hk,bS⟩:=V n k hsz;rw[<-DI]at hk;by_cases ag:most<n
 .rw[if_pos ag]at A
  have HRR:=jH A;clear hsz V aW A U;exact Rq
 rw[if_neg ag]at A;obtain⟨J,E⟩:=nT (Ck n mt);have aX:0<=J:=E▸Cm _ _;rw[E]at A;have HRR:=jH A;have ah:=jH E;have aY:n<=65536:=nK;have bT:decide (most<(n:Int))=false:=nQ;have dz:=a2O mt;have cK:=Wd mt;have aZ:jW (∀b m,mt=some (b,m)->jV jI 33 #[nz (some ⟨b,0,none⟩),ng nH n] w λe w'=>e=nE (ng nH J)/\w.grownBy w' (oI mt)/\pJ w' (rO n mt)):=jH λb m h=>E▸a0m mt b m h n w HMT.out
 clear V hsz aW A E U ag;go_in;go_wp2_with fail;refine CS.mono ?_;rintro e w2 ⟨rfl,rfl⟩;clear CS;go_upto_if 31 with(fail)
 go_cut [10] (λev bD=>ev=ng nH J/\jW (w.grownBy bD (oI mt)/\pJ bD (rO n mt)));case first=>
  cases mt with
  |none=>
   have ht:jW (J=0):=jH ah.symm;go_wp2_with fail;go_meet;exact⟨by rw[ht.out],jH ⟨World.grownBy.refl _ _,trivial⟩⟩
  |some x=>
   obtain⟨bm,m⟩:=x;have bE:=jH (aZ bm m rfl);have bg:Ja (some (bm,m))=nz (some ⟨bm,0,none⟩):=rfl;simp only[bg];clear aZ HRR HMT ah;go_wp2_with fail;refine bE.mono ?_;rintro e w3 ⟨rfl,aK,aL⟩;have H3:=jH (jU aK aL);clear aK aL;go_wp2_with fail;go_meet;exact⟨rfl,H3⟩
 case rest=>
  obtain⟨rfl,H3⟩:=hcut;clear aZ;by_cases aF:J=0;case neg=>
   have cZ:(J !=0)=true:=by simp[aF]
   have bF:jW (R=(.error J.toNat,rO n mt)):=jH (by rw[<-HRR.out,if_pos aF]);clear aF HRR;go_wp2_with fail;go_returns;rw[bF.out];exact⟨H3.1,H3.2,by dsimp only;rw[mZ aX];rfl⟩
  subst aF;have HRR:jW (R=(Cj (s.extract k s.size) n,rO n mt)):=jH (by rw[<-HRR.out];rfl);obtain⟨c,hc⟩:=nT (min n 4096);have Y:min (n:Int) 4096=(c:Int):=nK;have Z:(if(4096:Int)<(n:Int)then(4096:Int)else(n:Int))=(c:Int):=by split<;>omega
  have bG:=λw=>We c c rfl nK w
  have df:4096<=j5:=yc;have ai:=jH (oD.made wc wc.heap.size wN (madeCells #[ng .u8 0] c) c (jL _) nK (TN c));have aj:=(jT wc.heap.size wc).alloc (jL _) (nG (madeCells #[ng .u8 0] c) wN);have aM:=jH aj;have aN:=jH (H3.2.grown aj);have Z4:jW (∀x,oI (rO n mt)=some x->x<wc.heap.size):=jH λx aG=>by
   have:=H3.2;cases aO:rO n mt with
   |none=>rw[aO]at aG;cases aG
   |some y=>rw[aO]at aG this;cases aG;exact nO.lt this.1
  have bq:(wc.alloc (nG (madeCells #[ng .u8 0] c) wN)).heap.size=wc.heap.size+1:=nR;have bH:(k:Int)<=(s.size:Int):=nK;obtain⟨N,ak⟩:=nT (s.extract k s.size);have au:N.size<=9223372036854775807:=by rw[<-ak];simp[kz];omega
  rw[ak]at HRR;have bI:=jH ak;clear hc aj ah HMT;go_upto_region 9 with fail;generalize wc.alloc _=w1 at*;have aP:=jH (zx N w1);simp only[Y,Z]at*;go_wp2_with fail;refine aP.mono ?_;obtain⟨b,av⟩:=nT w1.heap.size;rintro e w2 ⟨rfl,aa,bu,aQ⟩;have aR:wc.heap.size<=w1.heap.size:=nK;have ax:jW (UnI b wc (rO n mt) (RS.of N) (nk (some ⟨wc.heap.size,0,none⟩) 0 c) [] w2):=jH ⟨⟨ai.below aa,av▸aQ,RS.Ok.of au,nK,aM.trans (aa.mono aR)⟩,aN.grown aa⟩;obtain⟨ae,aS⟩:=nT (wO n (N.size+1) (RS.of N) []);have ay:=jH aS;obtain⟨dA,az⟩:=nT wc.heap.size;have dh:=jH az;rw[av];rw[az]at ax⊢;obtain⟨T,bJ⟩:=nT N.size;have bz:=jH bJ;clear aa bu aQ ai aM aN aP bq bG aS av aR az bJ bH bI au Y Z;go_wp2_with fail;go_loopw [11] (λlv bA=>∃(r:RS) (l:List UInt8),jW (UnI b wc (rO n mt) r lv l bA)/\jW (∃F,r.left<F/\wO n F r l=ae)/\jW (r.t.size=T)/\l.length<=n/\0<=r.f) (λ_ bA=>Ki T b bA);case atStart=>exact⟨RS.of N,[],ax,jH ⟨T+1,by unfold RS.left RS.of;simp[bz.out],by rw[<-bz.out];exact ay.out⟩,bz,kI _,Int.le_refl _⟩
  case round=>
   obtain⟨r,l,HU,bB,C,hl,hnn⟩:=hrel;obtain⟨oq,cq,bg⟩:=TP HU.sn.own;subst bg;obtain⟨L,hL⟩:=nT l.length;have bK:=jH hL;rw[hL]at HU⊢;clear hL;have aH:=jH (qc b r wr HU.sn.rd);have af:=jH (Et b r wr HU.sn.ok HU.sn.rd);have dw:r.p<=T:=by rw[<-C.out];exact HU.sn.ok.1
   rw[C.out]at af;clear ax;by_cases I:r.f=0;case neg=>
    have bU:(r.f==0)=false:=by simp[I]
    go_wp2_with fail;refine aH.mono ?_;rintro e aI ⟨rfl,rfl⟩
    have aA:jW (ae=(r,l)):=jH (by obtain⟨F,aB,O⟩:=bB.out;rw[<-O];cases F with
     |zero=>rfl
     |succ F=>exact if_neg (λh=>I h.1))
    have Wi:jW (R=((if(if l.length<n then r.fail 2 else r).f≠0 then .error (if l.length<n then r.fail 2 else r).f.toNat else .ok l),rO n mt)):=jH (by rw[HRR.out];unfold Cj;rw[ay.out,aA.out]);rw[bK.out]at Wi;clear aA;by_cases c1:L<n
    .have CX:=jH (ui b r 2 wr HU.sn.rd)
     exact Wh
    .rw[if_neg c1]at Wi
     have CF7:=jH (qc b r wr HU.sn.rd);by_cases c2:r.f=0;.exact absurd c2 I
     .rw[if_pos c2]at Wi
      have hfb:(r.f !=0)=true:=by simp[c2]
      go_wp2_with fail;refine CF7.mono ?_;rintro e w8 ⟨rfl,rfl⟩;go_wp2_with fail;refine CF7.mono ?_;rintro e w8 ⟨rfl,rfl⟩;go_wp2_with fail;go_returns;rw[Wi.out];have hend:=Pb H3.1 HU.out;exact⟨hend.1,hend.2,by dsimp only;rw[mZ hnn];rfl⟩
   rw[I]at aH;by_cases hp:r.p<T;case neg=>
    have aT:((T:Int) -(r.p:Int))=0:=nK;rw[aT]at af;go_wp2_with fail;refine aH.mono ?_;rintro e aI ⟨rfl,rfl⟩;go_wp2_with fail;refine af.mono ?_;rintro e aI ⟨rfl,Q,rfl⟩;have HU:jW (UnI b wc (rO n mt) r (nk oq L cq) l (wr.drewN Q)):=jH (Rp HU Q);generalize wr.drewN Q=aJ at*
    have aA:jW (ae=(r,l)):=jH (by obtain⟨F,aB,O⟩:=bB.out;rw[<-O];cases F with
     |zero=>rfl
     |succ F=>exact if_neg (λh=>hp (by rw[<-C.out];exact h.2)))
    have Wi:jW (R=((if(if l.length<n then r.fail 2 else r).f≠0 then .error (if l.length<n then r.fail 2 else r).f.toNat else .ok l),rO n mt)):=jH (by rw[HRR.out];unfold Cj;rw[ay.out,aA.out]);rw[bK.out]at Wi;clear aA;by_cases c1:L<n
    .have CX:=jH (ui b r 2 aJ HU.sn.rd)
     exact Wh
    .rw[if_neg c1]at Wi
     have CF7:=jH (qc b r aJ HU.sn.rd);by_cases c2:r.f=0
     .rw[if_neg (by simpa using c2)]at Wi
      rw[c2]at CF7;have hst:=(HU.sn.own:oD aJ wc.heap.size wN (nk oq L cq) l).string Ch;go_wp2_with fail;refine CF7.mono ?_;rintro e w8 ⟨rfl,rfl⟩;go_wp2_with fail;go_returns;rw[Wi.out];have hend:=Pb H3.1 HU.out;exact⟨hend.1,hend.2,rfl⟩
     .exact absurd I c2
   .have aT:(0:Int)<(T:Int) -(r.p:Int):=nK
    have bV:=jH (λW (h:Ka wc.heap.size b wc r (nk oq L cq) l W)=>Kc wc.heap.size b wc r (nk oq L cq) l n W h hl aY);have bL:=zC (size:=n) HU.sn.ok hl I (by rw[C.out];exact hp);have aU:=O9 (size:=n) HU.sn.ok hl I (by rw[C.out];exact hp);have bC:=V8 (l:=l) (size:=n) hnn;have bM:jW (∃F,(rR r l n).1.left<F/\wO n F (rR r l n).1 (rR r l n).2=ae):=jH (by
     obtain⟨F,aB,O⟩:=bB.out;cases F with
     |zero=>omega
     |succ F=>
      simp only[wO]at O;rw[if_pos ⟨I,by rw[C.out];exact hp⟩]at O;exact⟨F,nK,O⟩)
    have bN:jW ((rR r l n).1.left<Ki T b wr):=jH (by rw[<-C.out,Jb HU.sn.rd];exact aU);obtain⟨aV,bO,dx,bP⟩:=bL;have aC:jW ((rR r l n).1.t.size=T):=jH (by rw[aV];exact C);generalize (rR r l n).1=r4 at*;generalize (rR r l n).2=bQ at*;clear aV bO aU;go_wp2_with fail;refine aH.mono ?_;rintro e aI ⟨rfl,rfl⟩;go_wp2_with fail;refine af.mono ?_;rintro e aI ⟨rfl,Q,rfl⟩;have bR:jW (UnI b wc (rO n mt) r (nk oq L cq) l (wr.drewN Q)):=jH (Rp HU Q);generalize wr.drewN Q=aJ at*;go_wp2_with fail;refine(bV _ bR.sn).mono ?_;rintro e w7 ⟨bW,rfl,aD⟩;have HU7:jW (UnI b wc (rO n mt) r4 bW bQ w7):=jH ⟨aD,H3.2.grown aD.qa⟩;clear aD;go_wp2_with fail;go_roundw;case rel=>exact⟨r4,bQ,HU7,bM,aC,bP,bC⟩
    case measure=>
     have aB:=Jb HU7.sn.rd;rw[aC.out]at aB;rw[aB];exact bN
end
end Go.Proofs.YtamfcjmhnndbdaaGreatDoor


