/- Part 1 of the proof. -/
import Derived.Test.YtamfcjmhnndbdaaGreatDoorZm00
open Go.Value renaming bool→nC,int→nk,pointer→nA,slice→ny,string→nz,tuple→nE,int→lQ
open Go.Obj renaming cells→nH
open Go.IntKind renaming i64→nI
open Go.Ending renaming returned→nG
open Go.Lib renaming hid→jH
open Go.Proofs.Tryz renaming prog→jI,underlying86→l6
open Go renaming World→jJ,Value→jP,Calls→jV,maxLen→j3
open Nat renaming le_refl→jK,le_trans→jY,lt_of_lt_of_le→kG,zero_le→kH,le_add_right→lZ,le_of_lt→mX
open Go.RowKit renaming Below→jS,Hid→jX
open Go.RowKit.Below renaming refl→jT
open And renaming intro→jU
open List renaming length_append→j5,length_drop→kX,length_take→mi
open ByteArray renaming size_extract→kC
open Array renaming length_toList→kY
open Go.Sem renaming run→l7
open Go.Instr renaming makeFunc→mJ
open Int renaming toNat_of_nonneg→mV
open Option renaming none→V,some→U
open Go.Addr renaming mk→Z
namespace Go.Proofs.YtamfcjmhnndbdaaGreatDoor
set_option linter.unusedVariables false
set_option linter.unusedSimpArgs false
set_option maxRecDepth 100000
set_option maxHeartbeats 8000000
variable {p:Prop}{l:List UInt8}{size b:Nat}{w:jJ}{row:Option Nat}{v:jP}
section
open Go.RowKit
structure MS where
 mo:Int
 us:Int
 ta:Int
 tq:Int
structure MS.Ok(m:MS):Prop where
 a:0<=m.us
 b:m.us<=m.tq
 c:m.tq<=m.mo
 d:m.mo<=9223372036854775807
 e:0<=m.ta
 f:m.ta<=9223372036854775807
def MS.cs(m:MS):Array jP:=OW m.mo m.us m.ta m.tq
def MS.new(n:Int):MS:=⟨if n<0 then 0 else n,0,0,0⟩
def MS.take(m:MS)(n:Int):MS×Int:=
 if n<0 then(m,1)else if m.mo - m.us<n\/9223372036854775807 - m.ta<n then(m,5)else(⟨m.mo,m.us+n,m.ta+n,TF m.tq (m.us+n)⟩,0)
theorem MS.Ok.new(n:Int)(h:n<=9223372036854775807):(MS.new n).Ok:=by
 unfold MS.new;constructor<;>(simp only[];try split)<;>omega
theorem MS.Ok.take{m:MS}(h:m.Ok)(n:Int):(m.take n).1.Ok:=by
 obtain⟨a,b,c,d,e,f⟩:=h;unfold MS.take TF;split;.exact⟨a,b,c,d,e,f⟩
 .split
  .exact⟨a,b,c,d,e,f⟩
  .constructor<;>(simp only[];try split)<;>omega
def IsM(w:jJ)(b:Nat)(m:MS):Prop:=nP w b m.cs 119
def a2z(b:Nat)(w:jJ)(r:MS×Int):Ending->jJ->Prop:=λe w'=>e=nG (nk nI r.2)/\pE b w w'/\IsM w' b r.1
theorem OX(n:Int)(w:jJ):
  jV jI 32 #[nk nI n] w λe w'=>e=nG (nA (U (Z w.heap.size 0 V)))/\jS w.heap.size w w'/\w.heap.size<w'.heap.size/\IsM w' w.heap.size (MS.new n):=by
 refine(TE n w).mono λe w' ⟨he,A⟩=>⟨he,?_⟩
 subst A;exact⟨(jT _ _).alloc (jK _) _,nS,nP.new _ _ _⟩
theorem V5(h:p:=by
 clear hb2 hp hq e e2 d1 H1;have H':=jH H;clear H;go_in;go_wp2_with fail;refine H'.mono ?_;rintro e w2 ⟨rfl,hu2,hb3⟩;go_wp2_with fail;go_returns;exact⟨rfl,hu.trans hu2,hb3⟩):p:=h
theorem FR(b:Nat)(m:MS)(n:Int)(w:jJ)(E:m.Ok)(hb:IsM w b m):
  jV jI 33 #[nA (U (Z b 0 V)),nk nI n] w (a2z b w (m.take n)):=by
 obtain⟨mo,us,ta,tq⟩:=m;obtain⟨a,b',c,d,e,f⟩:=E;simp only at a b' c d e f;have A:nP w b (OW mo us ta tq) 119:=hb;have hlt:=A.lt;have I:∀(fn:Fn)(first cap:Array jP)(w:jJ),(mJ fn first cap).run jI w=.ok (.func fn first cap) w:=λ_ _ _ _=>rfl
 have hb2:nP ((w.alloc (nH #[nA (U (Z b 0 V))] 89)).alloc (nH #[nk nI n] 3)) b (OW mo us ta tq) 119:=(A.alloc _).alloc _;have hp:((w.alloc (nH #[nA (U (Z b 0 V))] 89)).alloc (nH #[nk nI n] 3)).cell? (Z (w.heap.size+1) 0 V)=U (nk nI n):=by simp[go_sem]
 have hq:((w.alloc (nH #[nA (U (Z b 0 V))] 89)).alloc (nH #[nk nI n] 3)).cell? (Z w.heap.size 0 V)=U (nA (U (Z b 0 V))):=by simp[go_sem]
 have hu:pE b w ((w.alloc (nH #[nA (U (Z b 0 V))] 89)).alloc (nH #[nk nI n] 3)):=((pE.refl b w).alloc _).alloc _;by_cases hn:n<0
 .have e:MS.take ⟨mo,us,ta,tq⟩ n=(⟨mo,us,ta,tq⟩,1):=if_pos hn
  rw[e];clear e hb2 hp hq;go_in;go_wp2_with (go_at_call 59;go_in);go_returns;exact⟨rfl,hu,(A.alloc _).alloc _⟩
 .have C:0<=n:=nL
  have H1:=take1 b (w.heap.size+1) w.heap.size mo us ta tq n _ nL nL nL nL nL hb2 hp hq;by_cases d1:mo - us<n\/9223372036854775807 - ta<n
  .have e:MS.take ⟨mo,us,ta,tq⟩ n=(⟨mo,us,ta,tq⟩,5):=by unfold MS.take;rw[if_neg hn,if_pos d1]
   have e2:Ar mo us ta n=5:=if_pos d1;rw[e];rw[e2]at H1;have H:=Kc b mo us ta tq n 5 _ #[nA (U (Z w.heap.size 0 V)),nA (U (Z (w.heap.size+1) 0 V))] _ C nO hb2 H1;exact V5
  .have e:MS.take ⟨mo,us,ta,tq⟩ n=(⟨mo,us+n,ta+n,TF tq (us+n)⟩,0):=by unfold MS.take;rw[if_neg hn,if_neg d1]
   have e2:Ar mo us ta n=0:=if_neg d1;rw[e];rw[e2]at H1;have H:=Ke b mo us ta tq (us+n) (ta+n) n _ _ _ C hb2 H1 λk=>take2 b (w.heap.size+1) w.heap.size mo us ta tq n _ nL nL nL nL nL nL hb2 hp hq
   exact V5
theorem V6(b:Nat)(m:MS)(w:jJ)(hb:IsM w b m):
  jV jI 35 #[nA (U (Z b 0 V))] w λe w'=>e=nG (nk nI m.ta)/\w=w':=by
 have c:=nP.cell hb 2;simp[MS.cs,OW]at c;go_in;go_wp2;go_returns;exact⟨rfl,rfl⟩
def RS.left(r:RS):Nat:=if r.f=0 then r.t.size - r.p else 0
theorem RS.BI(r:RS)(n:Int)(h:r.Ok):(r.take n).1.t=r.t/\r.p<=(r.take n).1.p/\(r.f≠0->(r.take n).1.f≠0):=by
 unfold RS.take;split
 .split
  .exact⟨rfl,jK _,λh=>absurd ‹r.f=0› h⟩
  .split
   .exact⟨rfl,jK _,λh=>absurd ‹r.f=0› h⟩
   .exact⟨rfl,lZ _ _,λh=>absurd ‹r.f=0› h⟩
 .exact⟨rfl,jK _,id⟩
theorem RS.BJ(r:RS)(x:Int)(A:x≠0):(r.fail x).t=r.t/\r.p<=(r.fail x).p/\(r.fail x).f≠0:=by
 unfold RS.fail;split;.exact⟨rfl,jK _,A⟩
 .exact⟨rfl,jK _,‹_›⟩
theorem RS.OY(r:RS)(h:r.Ok)(h0:r.f=0)(h1:r.p<r.t.size):r.byte.1.t=r.t/\r.byte.1.p=r.p+1/\r.byte.1.f=0:=by
 unfold RS.byte;rw[if_pos h0,dif_pos h1];exact⟨rfl,rfl,rfl⟩
theorem Fb(h:p:=by
 exact⟨(r.BI _ h).1,(r.BI _ h).2.1,h.take _⟩):p:=h
theorem Mf(k v:Nat)(r:RS)(h:r.Ok):(uB k v r).1.t=r.t/\r.p<=(uB k v r).1.p/\(uB k v r).1.Ok:=by
 unfold uB;split
 .split
  .exact Fb
  .exact⟨rfl,jK _,h⟩
 .split
  .exact Fb
  .split
   .exact Fb
   .exact Fb
theorem Cn:∀(f n A:Nat)(l:List UInt8),n<=f->1<=A->A<=l.length->(y7 f n A l).length=l.length+n
 |0,n,A,l,h,_,_=>by simp only[y7];omega
 |f+1,n,A,l,h,hb,hl=>by
  simp only[y7];split;.omega
  .have h1:((l.drop (l.length - A)).take (min n A)).length=min n A:=by rw[mi,kX];omega
   rw[Cn f _ A _ nL hb (by rw[j5];omega),j5,h1];omega
theorem Mg{k:Nat}{h:RS×Nat×Nat}(hok:h.1.Ok)(hl:l.length<=size):
  (xm k h l size).1.t=h.1.t/\h.1.p<=(xm k h l size).1.p/\(xm k h l size).1.Ok/\(xm k h l size).2.length<=size:=by
 unfold xm;split;.exact⟨rfl,jK _,hok,hl⟩
 .split
  .have:=h.1.BJ 3 nO
   exact⟨this.1,this.2.1,hok.fail _,hl⟩
  .rename_i h1 h2
   split
   .have:=h.1.BI (h.2.1:Nat) hok
    refine⟨this.1,this.2.1,hok.take _,?_⟩;have A:=take_size h.1 h.2.1;rw[j5,<-DD];omega
   .rename_i hk
    refine⟨rfl,jK _,hok,?_⟩;rw[Cn _ _ _ _ (jK _) nL nL];omega
theorem zC{r:RS}(hok:r.Ok)(hl:l.length<=size)(h0:r.f=0)(h1:r.p<r.t.size):
  (sj r l size).1.t=r.t/\r.p+1<=(sj r l size).1.p/\(sj r l size).1.Ok/\(sj r l size).2.length<=size:=by
 unfold sj;obtain⟨b1,A,b3⟩:=r.OY hok h0 h1;obtain⟨a1,a2,a3⟩:=Mf (r.byte.2.toNat % 4) (r.byte.2.toNat/4) r.byte.1 hok.byte;obtain⟨c1,c2,c3,c4⟩:=Mg (k:=r.byte.2.toNat % 4) (h:=uB (r.byte.2.toNat % 4) (r.byte.2.toNat/4) r.byte.1) (l:=l) (size:=size) a3 hl;exact⟨by rw[c1,a1,b1],nL,c3,c4⟩
theorem RS.vw(r:RS)(n:Int)(h:0<=r.f):0<=(r.take n).1.f:=by
 unfold RS.take;split
 .split
  .show(0:Int)<=1;decide
  .split
   .show(0:Int)<=2;decide
   .show(0:Int)<=0;decide
 .exact h
theorem RS.yF(r:RS){x:Int}(A:0<=x)(h:0<=r.f):0<=(r.fail x).f:=by
 unfold RS.fail;split;.exact A
 .exact h
theorem RS.Rl(r:RS)(h:0<=r.f):0<=r.byte.1.f:=by
 unfold RS.byte;split
 .split
  .show(0:Int)<=0;decide
  .show(0:Int)<=2;decide
 .exact h
theorem V7{r:RS}(h:0<=r.f):0<=(sj r l size).1.f:=by
 have h1:∀k v,0<=(uB k v r.byte.1).1.f:=λk v=>by
  have hb:=r.Rl h;unfold uB;split
  .split
   .exact RS.vw _ _ hb
   .exact hb
  .split
   .exact RS.vw _ _ hb
   .split
    .exact RS.vw _ _ hb
    .exact RS.vw _ _ hb
 unfold sj xm;split;.exact h1 _ _
 .split
  .exact RS.yF _ nO (h1 _ _)
  .split
   .exact RS.vw _ _ (h1 _ _)
   .exact h1 _ _
theorem OZ{r:RS}(hok:r.Ok)(hl:l.length<=size)(h0:r.f=0)(h1:r.p<r.t.size):(sj r l size).1.left<r.left:=by
 obtain⟨a,b,c,d⟩:=zC hok hl h0 h1;unfold RS.left;rw[if_pos h0,a];split<;>omega
def zg(size:Nat):Nat->RS->List UInt8->RS×List UInt8
 |0,r,l=>(r,l)
 |f+1,r,l=>if r.f=0/\r.p<r.t.size then zg size f (sj r l size).1 (sj r l size).2 else(r,l)
def Eu(s:ByteArray)(size:Nat):Except Nat (List UInt8):=
 let y:=zg size (s.size+1) (RS.of s) [];let r:=if y.2.length<size then y.1.fail 2 else y.1
 if r.f≠0 then .error r.f.toNat else .ok y.2
def IZ:Option (Nat×MS)->jP
 |none=> nA V
 |some x=> nA (U (Z x.1 0 V))
def pO(w:jJ):Option (Nat×MS)->Prop
 |none=>True
 |some x=>IsM w x.1 x.2/\x.2.Ok
def ry(n:Int):Option (Nat×MS)->Option (Nat×MS)
 |none=>V
 |some x=>U (x.1,(x.2.take n).1)
def Bb(n:Int):Option (Nat×MS)->Int
 |none=>0
 |some x=>(x.2.take n).2
def oM(mt:Option (Nat×MS)):Option Nat:=mt.map Prod.fst
@[simp] theorem FT (n:Int) (mt:Option (Nat×MS)):oM (ry n mt)=oM mt:=by cases mt<;>rfl
theorem Co(n:Int)(mt:Option (Nat×MS)):0<=Bb n mt:=by
 cases mt with
 |none=>exact Int.le_refl _
 |some x=>
  unfold Bb MS.take;dsimp only;split;.show(0:Int)<=1;decide
  .split
   .show(0:Int)<=5;decide
   .show(0:Int)<=0;decide
def qQ(s:ByteArray)(most:Int)(mt:Option (Nat×MS)):Except Nat (List UInt8)×Option (Nat×MS):=
 match uA s.data.toList with
 |(n,k,e)=>if e≠0 then(.error e,mt)else if most<n then(.error 5,mt)else
  if Bb n mt≠0 then(.error (Bb n mt).toNat,ry n mt)else(Eu (s.extract k s.size) n,ry n mt)
def V8(R:Except Nat (List UInt8)×Option (Nat×MS))(mt:Option (Nat×MS))(w:jJ)(e:Ending)(w':jJ):Prop:=
 w.grownBy w' (oM mt)/\pO w' R.2/\match R.1 with
 | .error er=>e=nG (nE #[nz ⟨#[]⟩,nk nI (er:Nat)])
 | .ok l=>e=nG (nE #[nz ⟨l.toArray⟩,nk nI 0])
theorem pO.grown{mt:Option (Nat×MS)}{w':jJ}(h:pO w mt)(hb:jS w.heap.size w w'):pO w' mt:=by
 cases mt with
 |none=>trivial
 |some x=>exact⟨Below.blk hb h.1 (nP.lt h.1),h.2⟩
theorem o6{w':jJ}(hb:jS w.heap.size w w'):w.grownBy w' row:=⟨hb.os,hb.tape,hb.output,hb.size,λi hi _=>hb.block i hi⟩
theorem pY{a b c:jJ}(h:a.grownBy b row)(k:b.grownBy c row):a.grownBy c row:=
 ⟨k.os.trans h.os,k.tape.trans h.tape,k.output.trans h.output,jY h.size k.size,λi hi A=>(k.block i (kG hi h.size) A).trans (h.block i hi A)⟩
theorem a0s(mt:Option (Nat×MS))(b:Nat)(m:MS)(A:mt=U (b,m))(n:Int)(w:jJ)(h:pO w mt):
  jV jI 33 #[nA (U (Z b 0 V)),nk nI n] w λe w'=>e=nG (nk nI (Bb n mt))/\w.grownBy w' (oM mt)/\pO w' (ry n mt):=by
 subst A;exact(FR b m n w h.2 h.1).mono λe w' ⟨h1,h2,C⟩=>⟨h1,h2,C,h.2.take n⟩
theorem V9(mt:Option (Nat×MS))(W:jJ):l7 jI (eqGuard BinOp.neq 89 (Operand.tmp 29) (Operand.const (Value.pointer V)) (IZ mt) (nA V)) W=.ok () W:=by
 cases mt with
 |none=>rfl
 |some x=>rfl
theorem a3d(mt:Option (Nat×MS))(W:jJ):l7 jI (binOp BinOp.neq 89 (IZ mt) (nA V)) W=.ok (nC mt.isSome) W:=by
 cases mt with
 |none=>rfl
 |some x=>rfl
theorem Wd(c:Nat)(C:Int)(A:C=c)(hc:c<=4096)(w:jJ):(Instr.makeSlice TC (nk nI 0) (nk nI C)).run jI w=
  .ok (ny (U (Z w.heap.size 0 V)) 0 c) (w.alloc (nH (madeCells #[nk .u8 0] c) wB)):=by
 subst A;obtain⟨i,hi,E,hs,hb⟩:=info_parts BH;have I:=run_make (P:=jI) w TC wB i (.int .u8 0) l6 hi E .i64 .i64 ((0:Nat):Int) (c:Int) nL nL (by rw[hb];omega) nL;simpa [hs,Value.cells]using I
theorem TG(c:Nat):(madeCells #[lQ .u8 0] c).size=c:=by
 rw[<-kY,toList_madeCells_one];simp
def Kg(T b:Nat)(w:jJ):Nat:=match w.cell? (Z b 1 V),w.cell? (Z b 2 V)with
 |some (nk _ p),U (nk _ f)=>if f=0 then T - p.toNat else 0
 |_,_=>0
theorem I1{r:RS}(h:vW w b r):Kg r.t.size b w=r.left:=by
 unfold Kg RS.left;have c1:=nP.cell h 1;have c2:=nP.cell h 2;simp[RS.cs]at c1 c2;rw[c1,c2];simp
structure UnI(b:Nat)(w:jJ)(mt:Option (Nat×MS))(r:RS)(v:jP)(l:List UInt8)(W:jJ):Prop where
 sn:J8 w.heap.size b w r v l W
 mt:pO W mt
theorem O0{w0 W:jJ}{mt Ih:Option (Nat×MS)}{r:RS}(hg:w.grownBy w0 (oM mt))(h:UnI b w0 Ih r v l W):w.grownBy W (oM mt)/\pO W Ih:=
 ⟨pY hg (o6 h.sn.pR),h.mt⟩
theorem a0u{B:Nat}{W A:jJ}{mt:Option (Nat×MS)}(h:pO W mt)(hlt:∀x,oM mt=U x->x<B)(hB:B<=W.heap.size)(hb:jS B W A):pO A mt:=by
 cases mt with
 |none=>trivial
 |some x=>exact⟨Below.blk hb h.1 (hlt _ rfl),h.2⟩
theorem TH{B:Nat}(h:ow w B wB v l):∃A C,v=ny A l.length C:=by
 rcases h.2 with⟨rfl,h0⟩|⟨g,cap,E,rfl,_⟩
 .exact⟨V,0,by rw[h0]⟩
 .exact⟨_,_,rfl⟩
theorem Rm{W:jJ}{mt:Option (Nat×MS)}{r:RS}(h:UnI b w mt r v l W)(k:Nat):UnI b w mt r v l (W.drewN k):=
 ⟨⟨h.sn.own,h.sn.rd,h.sn.ok,h.sn.hB,⟨h.sn.pR.os,h.sn.pR.tape,h.sn.pR.output,h.sn.pR.size,h.sn.pR.block⟩⟩,h.mt⟩
theorem Rn(h:p:=by
 go_in;go_wp2_with fail;refine CS.mono ?_;rintro e w2 ⟨rfl,rfl⟩;go_wp2_with fail;go_returns;rw[<-HRR.out];exact⟨World.grownBy.refl _ _,HMT.out,rfl⟩):p:=h
theorem We(h:p:=by
 rw[if_pos c1,if_pos (r.BJ 2 nO).2.2]at Wh;have hfn:=(r.BJ 2 nO).2.2;have hfp:=RS.yF r (x:=2) nO hnn;have a3c:=jH (HU.sn.ok.fail 2);generalize r.fail 2=r3 at*;have hfb:(r3.f !=0)=true:=by simp[hfn]
 go_wp2_with fail;refine CX.mono ?_;rintro e w7 ⟨rfl,hu,hr⟩;have HU7:jX (UnI b wc (ry n mt) r3 (ny oq L cq) l w7):=jH ⟨HU.sn.read hu hr a3c.out,a0u HU.mt HLT (jY HU.sn.hB (mX HU.sn.lt)) (pE.below (B:=wc.heap.size) (b:=b) hu (jT _ _) HU.sn.hB (jY HU.sn.hB (mX HU.sn.lt)))⟩;have CF7:=jH (qd b r3 w7 hr);clear hu hr;go_wp2_with fail;refine CF7.mono ?_;rintro e w8 ⟨rfl,rfl⟩;go_wp2_with fail;refine CF7.mono ?_;rintro e w8 ⟨rfl,rfl⟩;go_wp2_with fail;go_returns;rw[Wh.out];have hend:=O0 H3.1 HU7.out;exact⟨hend.1,hend.2,by dsimp only;rw[mV hfp];rfl⟩):p:=h
theorem Mh(s:ByteArray)(most:Int)(mt:Option (Nat×MS))(w:jJ)(hs:s.size<=j3)(bY:most<=65536)(Q:pO w mt):
  jV jI 148 #[nz s,nk nI most,IZ mt] w (V8 (qQ s most mt) mt w):=by
 have CS:=jH (TA s w hs);have bZ:s.size<=9223372036854775807:=by unfold j3 at hs;omega
 obtain⟨R,A⟩:=nV (qQ s most mt);have aX:=jH A;rw[A];unfold qQ at A;have Y:=λn k h=>TB (l:=s.data.toList) (n:=n) (k:=k) h
 obtain⟨n,k,er,hsz⟩:∃n k er,uA s.data.toList=(n,k,er):=⟨_,_,_,rfl⟩;rw[hsz]at CS A;have HMT:=jH Q;dsimp only at CS A;by_cases he:er=0;case neg=>
  rw[if_pos he]at A;have cz:((er:Int)==0)=false:=wG;have cK:((er:Int) !=0)=true:=FL;have HRR:=jH A;clear he hsz Y aX A Q;exact Rn
 subst he;rw[if_neg nS]at A;obtain⟨hk,bT⟩:=Y n k hsz;rw[<-DD]at hk;by_cases ai:most<n
 .rw[if_pos ai]at A
  have HRR:=jH A;clear hsz Y aX A Q;exact Rn
 rw[if_neg ai]at A;obtain⟨J,E⟩:=nV (Bb n mt);have aY:0<=J:=E▸Co _ _;rw[E]at A;have HRR:=jH A;have aj:=jH E;have aZ:n<=65536:=nL;have bU:decide (most<(n:Int))=false:=nT;have dA:=a3d mt;have cZ:=V9 mt;have bg:jX (∀b m,mt=U (b,m)->jV jI 33 #[nA (U (Z b 0 V)),nk nI n] w λe w'=>e=nG (nk nI J)/\w.grownBy w' (oM mt)/\pO w' (ry n mt)):=jH λb m h=>E▸a0s mt b m h n w HMT.out
 clear Y hsz aX A E Q ai;go_in;go_wp2_with fail;refine CS.mono ?_;rintro e w2 ⟨rfl,rfl⟩;clear CS;go_upto_if 31 with(fail)
 go_cut [10] (λev bE=>ev=nk nI J/\jX (w.grownBy bE (oM mt)/\pO bE (ry n mt)));case first=>
  cases mt with
  |none=>
   have ht:jX (J=0):=jH aj.symm;go_wp2_with fail;go_meet;exact⟨by rw[ht.out],jH ⟨World.grownBy.refl _ _,trivial⟩⟩
  |some x=>
   obtain⟨bm,m⟩:=x;have bF:=jH (bg bm m rfl);have bq:IZ (U (bm,m))=nA (U (Z bm 0 V)):=rfl;simp only[bq];clear bg HRR HMT aj;go_wp2_with fail;refine bF.mono ?_;rintro e w3 ⟨rfl,aL,aM⟩;have H3:=jH (jU aL aM);clear aL aM;go_wp2_with fail;go_meet;exact⟨rfl,H3⟩
 case rest=>
  obtain⟨rfl,H3⟩:=hcut;clear bg;by_cases aG:J=0;case neg=>
   have df:(J !=0)=true:=by simp[aG]
   have bG:jX (R=(.error J.toNat,ry n mt)):=jH (by rw[<-HRR.out,if_pos aG]);clear aG HRR;go_wp2_with fail;go_returns;rw[bG.out];exact⟨H3.1,H3.2,by dsimp only;rw[mV aY];rfl⟩
  subst aG;have HRR:jX (R=(Eu (s.extract k s.size) n,ry n mt)):=jH (by rw[<-HRR.out];rfl);obtain⟨c,hc⟩:=nV (min n 4096);have aa:min (n:Int) 4096=(c:Int):=nL;have ae:(if(4096:Int)<(n:Int)then(4096:Int)else(n:Int))=(c:Int):=by split<;>omega
  have bH:=λw=>Wd c c rfl nL w
  have dh:4096<=j3:=yZ;have ak:=jH (ow.made wc wc.heap.size wB (madeCells #[nk .u8 0] c) c (jK _) nL (TG c));have au:=(jT wc.heap.size wc).alloc (jK _) (nH (madeCells #[nk .u8 0] c) wB);have aN:=jH au;have aO:=jH (H3.2.grown au);have HLT:jX (∀x,oM (ry n mt)=U x->x<wc.heap.size):=jH λx aH=>by
   have:=H3.2;cases aP:ry n mt with
   |none=>rw[aP]at aH;cases aH
   |some y=>rw[aP]at aH this;cases aH;exact nP.lt this.1
  have bu:(wc.alloc (nH (madeCells #[nk .u8 0] c) wB)).heap.size=wc.heap.size+1:=nS;have bI:(k:Int)<=(s.size:Int):=nL;obtain⟨N,av⟩:=nV (s.extract k s.size);have ax:N.size<=9223372036854775807:=by rw[<-av];simp[kC];omega
  rw[av]at HRR;have bJ:=jH av;clear hc au aj HMT;go_upto_region 9 with fail;generalize wc.alloc _=w1 at*;have aQ:=jH (zy N w1);simp only[aa,ae]at*;go_wp2_with fail;refine aQ.mono ?_;obtain⟨b,ay⟩:=nV w1.heap.size;rintro e w2 ⟨rfl,af,bz,aR⟩;have aS:wc.heap.size<=w1.heap.size:=nL;have az:jX (UnI b wc (ry n mt) (RS.of N) (ny (U (Z wc.heap.size 0 V)) 0 c) [] w2):=jH ⟨⟨ak.below af,ay▸aR,RS.Ok.of ax,nL,aN.trans (af.mono aS)⟩,aO.grown af⟩;obtain⟨ag,aT⟩:=nV (zg n (N.size+1) (RS.of N) []);have aA:=jH aT;obtain⟨dB,aB⟩:=nV wc.heap.size;have dw:=jH aB;rw[ay];rw[aB]at az⊢;obtain⟨T,bK⟩:=nV N.size;have bA:=jH bK;clear af bz aR ak aN aO aQ bu bH aT ay aS aB bK bI bJ ax aa ae;go_wp2_with fail;go_loopw [11] (λlv bB=>∃(r:RS) (l:List UInt8),jX (UnI b wc (ry n mt) r lv l bB)/\jX (∃F,r.left<F/\zg n F r l=ag)/\jX (r.t.size=T)/\l.length<=n/\0<=r.f) (λ_ bB=>Kg T b bB);case atStart=>exact⟨RS.of N,[],az,jH ⟨T+1,by unfold RS.left RS.of;simp[bA.out],by rw[<-bA.out];exact aA.out⟩,bA,kH _,Int.le_refl _⟩
  case round=>
   obtain⟨r,l,HU,bC,C,hl,hnn⟩:=hrel;obtain⟨oq,cq,bq⟩:=TH HU.sn.own;subst bq;obtain⟨L,hL⟩:=nV l.length;have bL:=jH hL;rw[hL]at HU⊢;clear hL;have aI:=jH (qd b r wr HU.sn.rd);have ah:=jH (Es b r wr HU.sn.ok HU.sn.rd);have dx:r.p<=T:=by rw[<-C.out];exact HU.sn.ok.1
   rw[C.out]at ah;clear az;by_cases I:r.f=0;case neg=>
    have bV:(r.f==0)=false:=by simp[I]
    go_wp2_with fail;refine aI.mono ?_;rintro e aJ ⟨rfl,rfl⟩
    have aC:jX (ag=(r,l)):=jH (by obtain⟨F,h1,h2⟩:=bC.out;rw[<-h2];cases F with
     |zero=>rfl
     |succ F=>exact if_neg (λh=>I h.1))
    have Wh:jX (R=((if(if l.length<n then r.fail 2 else r).f≠0 then .error (if l.length<n then r.fail 2 else r).f.toNat else .ok l),ry n mt)):=jH (by rw[HRR.out];unfold Eu;rw[aA.out,aC.out]);rw[bL.out]at Wh;clear aC;by_cases c1:L<n
    .have CX:=jH (tZ b r 2 wr HU.sn.rd)
     exact We
    .rw[if_neg c1]at Wh
     have CF7:=jH (qd b r wr HU.sn.rd);by_cases c2:r.f=0;.exact absurd c2 I
     .rw[if_pos c2]at Wh
      have hfb:(r.f !=0)=true:=by simp[c2]
      go_wp2_with fail;refine CF7.mono ?_;rintro e w8 ⟨rfl,rfl⟩;go_wp2_with fail;refine CF7.mono ?_;rintro e w8 ⟨rfl,rfl⟩;go_wp2_with fail;go_returns;rw[Wh.out];have hend:=O0 H3.1 HU.out;exact⟨hend.1,hend.2,by dsimp only;rw[mV hnn];rfl⟩
   rw[I]at aI;by_cases hp:r.p<T;case neg=>
    have aU:((T:Int) -(r.p:Int))=0:=nL;rw[aU]at ah;go_wp2_with fail;refine aI.mono ?_;rintro e aJ ⟨rfl,rfl⟩;go_wp2_with fail;refine ah.mono ?_;rintro e aJ ⟨rfl,O,rfl⟩;have HU:jX (UnI b wc (ry n mt) r (ny oq L cq) l (wr.drewN O)):=jH (Rm HU O);generalize wr.drewN O=aK at*
    have aC:jX (ag=(r,l)):=jH (by obtain⟨F,h1,h2⟩:=bC.out;rw[<-h2];cases F with
     |zero=>rfl
     |succ F=>exact if_neg (λh=>hp (by rw[<-C.out];exact h.2)))
    have Wh:jX (R=((if(if l.length<n then r.fail 2 else r).f≠0 then .error (if l.length<n then r.fail 2 else r).f.toNat else .ok l),ry n mt)):=jH (by rw[HRR.out];unfold Eu;rw[aA.out,aC.out]);rw[bL.out]at Wh;clear aC;by_cases c1:L<n
    .have CX:=jH (tZ b r 2 aK HU.sn.rd)
     exact We
    .rw[if_neg c1]at Wh
     have CF7:=jH (qd b r aK HU.sn.rd);by_cases c2:r.f=0
     .rw[if_neg (by simpa using c2)]at Wh
      rw[c2]at CF7;have hst:=(HU.sn.own:ow aK wc.heap.size wB (ny oq L cq) l).string Ch;go_wp2_with fail;refine CF7.mono ?_;rintro e w8 ⟨rfl,rfl⟩;go_wp2_with fail;go_returns;rw[Wh.out];have hend:=O0 H3.1 HU.out;exact⟨hend.1,hend.2,rfl⟩
     .exact absurd I c2
   .have aU:(0:Int)<(T:Int) -(r.p:Int):=nL
    have bW:=jH (λW (h:J8 wc.heap.size b wc r (ny oq L cq) l W)=>Ka wc.heap.size b wc r (ny oq L cq) l n W h hl aZ);have bM:=zC (size:=n) HU.sn.ok hl I (by rw[C.out];exact hp);have aV:=OZ (size:=n) HU.sn.ok hl I (by rw[C.out];exact hp);have bD:=V7 (l:=l) (size:=n) hnn;have bN:jX (∃F,(sj r l n).1.left<F/\zg n F (sj r l n).1 (sj r l n).2=ag):=jH (by
     obtain⟨F,h1,h2⟩:=bC.out;cases F with
     |zero=>omega
     |succ F=>
      simp only[zg]at h2;rw[if_pos ⟨I,by rw[C.out];exact hp⟩]at h2;exact⟨F,nL,h2⟩)
    have bO:jX ((sj r l n).1.left<Kg T b wr):=jH (by rw[<-C.out,I1 HU.sn.rd];exact aV);obtain⟨aW,bP,dz,bQ⟩:=bM;have aD:jX ((sj r l n).1.t.size=T):=jH (by rw[aW];exact C);generalize (sj r l n).1=r4 at*;generalize (sj r l n).2=bR at*;clear aW bP aV;go_wp2_with fail;refine aI.mono ?_;rintro e aJ ⟨rfl,rfl⟩;go_wp2_with fail;refine ah.mono ?_;rintro e aJ ⟨rfl,O,rfl⟩;have bS:jX (UnI b wc (ry n mt) r (ny oq L cq) l (wr.drewN O)):=jH (Rm HU O);generalize wr.drewN O=aK at*;go_wp2_with fail;refine(bW _ bS.sn).mono ?_;rintro e w7 ⟨bX,rfl,aF⟩;have HU7:jX (UnI b wc (ry n mt) r4 bX bR w7):=jH ⟨aF,H3.2.grown aF.pR⟩;clear aF;go_wp2_with fail;go_roundw;case rel=>exact⟨r4,bR,HU7,bN,aD,bQ,bD⟩
    case measure=>
     have h1:=I1 HU7.sn.rd;rw[aD.out]at h1;rw[h1];exact bO
end
end Go.Proofs.YtamfcjmhnndbdaaGreatDoor


