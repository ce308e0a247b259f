/- Part 1 of the proof. -/
import Derived.Test.YtamfcjmhnndbdaaGreatDoorZk00
open Go.Value renaming bool→lu,int→lg,pointer→lq,slice→lh,string→ll,tuple→lD
open Go.Obj renaming cells→lG
open Go.IntKind renaming i64→lH
open Go.Ending renaming returned→lF
open Go.Lib renaming hid→iF
open Go.Proofs.Tryz renaming prog→iG,underlying86→kC
open Go renaming World→iH,Value→iJ,Calls→iU,maxLen→jb
open Nat renaming le_refl→iI,le_trans→je,lt_of_lt_of_le→jq,zero_le→jy,le_add_right→ku
open Go.RowKit renaming Below→iK,Hid→iW
open Go.RowKit.Below renaming refl→iL
open And renaming intro→iQ
open ByteArray renaming size_extract→ja
open List renaming length_append→jv,length_drop→jS,length_take→ky
open Array renaming length_toList→jM
open Go.Sem renaming run→kJ
open Go.Instr renaming makeFunc→kL
namespace Go.Proofs.YtamfcjmhnndbdaaGreatDoor
set_option linter.unusedVariables false
set_option linter.unusedSimpArgs false
set_option maxRecDepth 100000
set_option maxHeartbeats 8000000
variable {p:Prop}{l:List UInt8}{size b:Nat}{w:iH}{row:Option Nat}{v:iJ}
section
open Go.RowKit
structure MS where
 mo:Int
 us:Int
 ta:Int
 tq:Int
structure MS.Ok(m:MS):Prop where
 a:0<=m.us
 b:m.us<=m.tq
 c:m.tq<=m.mo
 d:m.mo<=9223372036854775807
 e:0<=m.ta
 f:m.ta<=9223372036854775807
def MS.cs(m:MS):Array iJ:=LK m.mo m.us m.ta m.tq
def MS.new(n:Int):MS:=⟨if n<0 then 0 else n,0,0,0⟩
def MS.take(m:MS)(n:Int):MS×Int:=
 if n<0 then(m,1)else if m.mo - m.us<n\/9223372036854775807 - m.ta<n then(m,5)else(⟨m.mo,m.us+n,m.ta+n,Qa m.tq (m.us+n)⟩,0)
theorem MS.Ok.new(n:Int)(h:n<=9223372036854775807):(MS.new n).Ok:=by
 unfold MS.new;constructor<;>(simp only[];try split)<;>omega
theorem MS.Ok.take{m:MS}(h:m.Ok)(n:Int):(m.take n).1.Ok:=by
 obtain⟨a,b,c,d,e,f⟩:=h;unfold MS.take Qa;split;.exact⟨a,b,c,d,e,f⟩
 .split
  .exact⟨a,b,c,d,e,f⟩
  .constructor<;>(simp only[];try split)<;>omega
def Wh(w:iH)(b:Nat)(m:MS):Prop:=lN w b m.cs 119
def Yf(b:Nat)(w:iH)(r:MS×Int):Ending->iH->Prop:=λe w'=>e=lF (lg lH r.2)/\ng b w w'/\Wh w' b r.1
theorem LM(n:Int)(w:iH):
  iU iG 32 #[lg lH n] w λe w'=>e=lF (lq (some ⟨w.heap.size,0,none⟩))/\iK w.heap.size w w'/\w.heap.size<w'.heap.size/\Wh w' w.heap.size (MS.new n):=by
 refine(P9 n w).mono λe w' ⟨he,A⟩=>⟨he,?_⟩
 subst A;exact⟨(iL _ _).alloc (iI _) _,lU,lN.new _ _ _⟩
theorem Sb(h:p:=by
 clear hb2 hp hq e e2 d1 H1;have H':=iF H;clear H;go_in;go_wp2_with fail;refine H'.out.mono ?_;rintro e w2 ⟨rfl,hu2,hb3⟩;go_wp2_with fail;go_returns;exact⟨rfl,hu.trans hu2,hb3⟩):p:=h
theorem Du(b:Nat)(m:MS)(n:Int)(w:iH)(E:m.Ok)(hb:Wh w b m):
  iU iG 33 #[lq (some ⟨b,0,none⟩),lg lH n] w (Yf b w (m.take n)):=by
 obtain⟨mo,us,ta,tq⟩:=m;obtain⟨a,b',c,d,e,f⟩:=E;simp only at a b' c d e f;have A:lN w b (LK mo us ta tq) 119:=hb;have hlt:=A.lt;have J:∀(fn:Fn)(first cap:Array iJ)(w:iH),(kL fn first cap).run iG w=.ok (.func fn first cap) w:=λ_ _ _ _=>rfl
 have hb2:lN ((w.alloc (lG #[lq (some ⟨b,0,none⟩)] 89)).alloc (lG #[lg lH n] 3)) b (LK mo us ta tq) 119:=(A.alloc _).alloc _;have hp:((w.alloc (lG #[lq (some ⟨b,0,none⟩)] 89)).alloc (lG #[lg lH n] 3)).cell? ⟨w.heap.size+1,0,none⟩=some (lg lH n):=by simp[go_sem]
 have hq:((w.alloc (lG #[lq (some ⟨b,0,none⟩)] 89)).alloc (lG #[lg lH n] 3)).cell? ⟨w.heap.size,0,none⟩=some (lq (some ⟨b,0,none⟩)):=by simp[go_sem]
 have hu:ng b w ((w.alloc (lG #[lq (some ⟨b,0,none⟩)] 89)).alloc (lG #[lg lH n] 3)):=((ng.refl b w).alloc _).alloc _;by_cases hn:n<0
 .have e:MS.take ⟨mo,us,ta,tq⟩ n=(⟨mo,us,ta,tq⟩,1):=if_pos hn
  rw[e];clear e hb2 hp hq;go_in;go_wp2_with (go_at_call 59;go_in);go_returns;exact⟨rfl,hu,(A.alloc _).alloc _⟩
 .have C:0<=n:=lK
  have H1:=take1 b (w.heap.size+1) w.heap.size mo us ta tq n _ lK lK lK lK lK hb2 hp hq;by_cases d1:mo - us<n\/9223372036854775807 - ta<n
  .have e:MS.take ⟨mo,us,ta,tq⟩ n=(⟨mo,us,ta,tq⟩,5):=by unfold MS.take;rw[if_neg hn,if_pos d1]
   have e2:yg mo us ta n=5:=if_pos d1;rw[e];rw[e2]at H1;have H:=GR b mo us ta tq n 5 _ #[lq (some ⟨w.heap.size,0,none⟩),lq (some ⟨w.heap.size+1,0,none⟩)] _ C lM hb2 H1;exact Sb
  .have e:MS.take ⟨mo,us,ta,tq⟩ n=(⟨mo,us+n,ta+n,Qa tq (us+n)⟩,0):=by unfold MS.take;rw[if_neg hn,if_neg d1]
   have e2:yg mo us ta n=0:=if_neg d1;rw[e];rw[e2]at H1;have H:=GU b mo us ta tq (us+n) (ta+n) n _ _ _ C hb2 H1 λk=>take2 b (w.heap.size+1) w.heap.size mo us ta tq n _ lK lK lK lK lK lK hb2 hp hq
   exact Sb
theorem Sc(b:Nat)(m:MS)(w:iH)(hb:Wh w b m):
  iU iG 35 #[lq (some ⟨b,0,none⟩)] w λe w'=>e=lF (lg lH m.ta)/\w=w':=by
 have c:=lN.cell hb 2;simp[MS.cs,LK]at c;go_in;go_wp2;go_returns;exact⟨rfl,rfl⟩
def RS.left(r:RS):Nat:=if r.f=0 then r.t.size - r.p else 0
theorem RS.zg(r:RS)(n:Int)(h:r.Ok):(r.take n).1.t=r.t/\r.p<=(r.take n).1.p/\(r.f≠0->(r.take n).1.f≠0):=by
 unfold RS.take;split
 .split
  .exact⟨rfl,iI _,λh=>absurd ‹r.f=0› h⟩
  .split
   .exact⟨rfl,iI _,λh=>absurd ‹r.f=0› h⟩
   .exact⟨rfl,ku _ _,λh=>absurd ‹r.f=0› h⟩
 .exact⟨rfl,iI _,id⟩
theorem RS.zh(r:RS)(x:Int)(A:x≠0):(r.fail x).t=r.t/\r.p<=(r.fail x).p/\(r.fail x).f≠0:=by
 unfold RS.fail;split;.exact⟨rfl,iI _,A⟩
 .exact⟨rfl,iI _,‹_›⟩
theorem RS.LP(r:RS)(h:r.Ok)(h0:r.f=0)(A:r.p<r.t.size):r.byte.1.t=r.t/\r.byte.1.p=r.p+1/\r.byte.1.f=0:=by
 unfold RS.byte;rw[if_pos h0,dif_pos A];exact⟨rfl,rfl,rfl⟩
theorem CP(h:p:=by
 exact⟨(r.zg _ h).1,(r.zg _ h).2.1,h.take _⟩):p:=h
theorem Jr(k v:Nat)(r:RS)(h:r.Ok):(rF k v r).1.t=r.t/\r.p<=(rF k v r).1.p/\(rF k v r).1.Ok:=by
 unfold rF;split
 .split
  .exact CP
  .exact⟨rfl,iI _,h⟩
 .split
  .exact CP
  .split
   .exact CP
   .exact CP
theorem zJ:∀(f n A:Nat)(l:List UInt8),n<=f->1<=A->A<=l.length->(wK f n A l).length=l.length+n
 |0,n,A,l,h,_,_=>by simp only[wK];omega
 |f+1,n,A,l,h,hb,hl=>by
  simp only[wK];split;.omega
  .have C:((l.drop (l.length - A)).take (min n A)).length=min n A:=by rw[ky,jS];omega
   rw[zJ f _ A _ lK hb (by rw[jv];omega),jv,C];omega
theorem Js{k:Nat}{h:RS×Nat×Nat}(hok:h.1.Ok)(hl:l.length<=size):
  (uQ k h l size).1.t=h.1.t/\h.1.p<=(uQ k h l size).1.p/\(uQ k h l size).1.Ok/\(uQ k h l size).2.length<=size:=by
 unfold uQ;split;.exact⟨rfl,iI _,hok,hl⟩
 .split
  .have:=h.1.zh 3 lM
   exact⟨this.1,this.2.1,hok.fail _,hl⟩
  .rename_i A C
   split
   .have:=h.1.zg (h.2.1:Nat) hok
    refine⟨this.1,this.2.1,hok.take _,?_⟩;have E:=take_size h.1 h.2.1;rw[jv,<-AZ];omega
   .rename_i hk
    refine⟨rfl,iI _,hok,?_⟩;rw[zJ _ _ _ _ (iI _) lK lK];omega
theorem xn{r:RS}(hok:r.Ok)(hl:l.length<=size)(h0:r.f=0)(A:r.p<r.t.size):
  (qg r l size).1.t=r.t/\r.p+1<=(qg r l size).1.p/\(qg r l size).1.Ok/\(qg r l size).2.length<=size:=by
 unfold qg;obtain⟨b1,E,b3⟩:=r.LP hok h0 A;obtain⟨C,a2,a3⟩:=Jr (r.byte.2.toNat % 4) (r.byte.2.toNat/4) r.byte.1 hok.byte;obtain⟨c1,c2,c3,c4⟩:=Js (k:=r.byte.2.toNat % 4) (h:=rF (r.byte.2.toNat % 4) (r.byte.2.toNat/4) r.byte.1) (l:=l) (size:=size) a3 hl;exact⟨by rw[c1,C,b1],lK,c3,c4⟩
theorem RS.sM(r:RS)(n:Int)(h:0<=r.f):0<=(r.take n).1.f:=by
 unfold RS.take;split
 .split
  .show(0:Int)<=1;decide
  .split
   .show(0:Int)<=2;decide
   .show(0:Int)<=0;decide
 .exact h
theorem RS.vV(r:RS){x:Int}(A:0<=x)(h:0<=r.f):0<=(r.fail x).f:=by
 unfold RS.fail;split;.exact A
 .exact h
theorem RS.Oi(r:RS)(h:0<=r.f):0<=r.byte.1.f:=by
 unfold RS.byte;split
 .split
  .show(0:Int)<=0;decide
  .show(0:Int)<=2;decide
 .exact h
theorem Sd{r:RS}(h:0<=r.f):0<=(qg r l size).1.f:=by
 have A:∀k v,0<=(rF k v r.byte.1).1.f:=λk v=>by
  have hb:=r.Oi h;unfold rF;split
  .split
   .exact RS.sM _ _ hb
   .exact hb
  .split
   .exact RS.sM _ _ hb
   .split
    .exact RS.sM _ _ hb
    .exact RS.sM _ _ hb
 unfold qg uQ;split;.exact A _ _
 .split
  .exact RS.vV _ lM (A _ _)
  .split
   .exact RS.sM _ _ (A _ _)
   .exact A _ _
theorem LQ{r:RS}(hok:r.Ok)(hl:l.length<=size)(h0:r.f=0)(A:r.p<r.t.size):(qg r l size).1.left<r.left:=by
 obtain⟨a,b,c,d⟩:=xn hok hl h0 A;unfold RS.left;rw[if_pos h0,a];split<;>omega
def wR(size:Nat):Nat->RS->List UInt8->RS×List UInt8
 |0,r,l=>(r,l)
 |f+1,r,l=>if r.f=0/\r.p<r.t.size then wR size f (qg r l size).1 (qg r l size).2 else(r,l)
def BN(s:ByteArray)(size:Nat):Except Nat (List UInt8):=
 let y:=wR size (s.size+1) (RS.of s) [];let r:=if y.2.length<size then y.1.fail 2 else y.1
 if r.f≠0 then .error r.f.toNat else .ok y.2
def FJ:Option (Nat×MS)->iJ
 |none=> lq none
 |some x=> lq (some ⟨x.1,0,none⟩)
def nD(w:iH):Option (Nat×MS)->Prop
 |none=>True
 |some x=>Wh w x.1 x.2/\x.2.Ok
def p8(n:Int):Option (Nat×MS)->Option (Nat×MS)
 |none=>none
 |some x=>some (x.1,(x.2.take n).1)
def BO(n:Int):Option (Nat×MS)->Int
 |none=>0
 |some x=>(x.2.take n).2
def mr(mt:Option (Nat×MS)):Option Nat:=mt.map Prod.fst
@[simp] theorem Dv (n:Int) (mt:Option (Nat×MS)):mr (p8 n mt)=mr mt:=by cases mt<;>rfl
theorem zK(n:Int)(mt:Option (Nat×MS)):0<=BO n mt:=by
 cases mt with
 |none=>exact Int.le_refl _
 |some x=>
  unfold BO MS.take;dsimp only;split;.show(0:Int)<=1;decide
  .split
   .show(0:Int)<=5;decide
   .show(0:Int)<=0;decide
def qI(s:ByteArray)(most:Int)(mt:Option (Nat×MS)):Except Nat (List UInt8)×Option (Nat×MS):=
 match sj s.data.toList with
 |(n,k,e)=>if e≠0 then(.error e,mt)else if most<n then(.error 5,mt)else
  if BO n mt≠0 then(.error (BO n mt).toNat,p8 n mt)else(BN (s.extract k s.size) n,p8 n mt)
def Sg(R:Except Nat (List UInt8)×Option (Nat×MS))(mt:Option (Nat×MS))(w:iH)(e:Ending)(w':iH):Prop:=
 w.grownBy w' (mr mt)/\nD w' R.2/\match R.1 with
 | .error er=>e=lF (lD #[ll ⟨#[]⟩,lg lH (er:Nat)])
 | .ok l=>e=lF (lD #[ll ⟨l.toArray⟩,lg lH 0])
theorem nD.grown{mt:Option (Nat×MS)}{w':iH}(h:nD w mt)(hb:iK w.heap.size w w'):nD w' mt:=by
 cases mt with
 |none=>trivial
 |some x=>exact⟨Below.blk hb h.1 (lN.lt h.1),h.2⟩
theorem mV{w':iH}(hb:iK w.heap.size w w'):w.grownBy w' row:=⟨hb.os,hb.tape,hb.output,hb.size,λi hi _=>hb.block i hi⟩
theorem nL{a b c:iH}(h:a.grownBy b row)(k:b.grownBy c row):a.grownBy c row:=
 ⟨k.os.trans h.os,k.tape.trans h.tape,k.output.trans h.output,je h.size k.size,λi hi A=>(k.block i (jq hi h.size) A).trans (h.block i hi A)⟩
theorem Wi(mt:Option (Nat×MS))(b:Nat)(m:MS)(A:mt=some (b,m))(n:Int)(w:iH)(h:nD w mt):
  iU iG 33 #[lq (some ⟨b,0,none⟩),lg lH n] w λe w'=>e=lF (lg lH (BO n mt))/\w.grownBy w' (mr mt)/\nD w' (p8 n mt):=by
 subst A;exact(Du b m n w h.2 h.1).mono λe w' ⟨C,E,J⟩=>⟨C,E,J,h.2.take n⟩
theorem Si(mt:Option (Nat×MS))(W:iH):kJ iG (eqGuard BinOp.neq 89 (Operand.tmp 29) (Operand.const (Value.pointer none)) (FJ mt) (lq none)) W=.ok () W:=by
 cases mt with
 |none=>rfl
 |some x=>rfl
theorem YL(mt:Option (Nat×MS))(W:iH):kJ iG (binOp BinOp.neq 89 (FJ mt) (lq none)) W=.ok (lu mt.isSome) W:=by
 cases mt with
 |none=>rfl
 |some x=>rfl
theorem Sj(c:Nat)(C:Int)(A:C=c)(hc:c<=4096)(w:iH):(Instr.makeSlice RF (lg lH 0) (lg lH C)).run iG w=
  .ok (lh (some ⟨w.heap.size,0,none⟩) 0 c) (w.alloc (lG (madeCells #[lg .u8 0] c) uq)):=by
 subst A;obtain⟨i,hi,E,hs,hb⟩:=info_parts zf;have J:=run_make (P:=iG) w RF uq i (.int .u8 0) kC hi E .i64 .i64 ((0:Nat):Int) (c:Int) lK lK (by rw[hb];omega) lK;simpa [hs,Value.cells]using J
theorem Qb(c:Nat):(madeCells #[Value.int .u8 0] c).size=c:=by
 rw[<-jM,toList_madeCells_one];simp
def GV(T b:Nat)(w:iH):Nat:=match w.cell? ⟨b,1,none⟩,w.cell? ⟨b,2,none⟩with
 |some (lg _ p),some (lg _ f)=>if f=0 then T - p.toNat else 0
 |_,_=>0
theorem FK{r:RS}(h:tT w b r):GV r.t.size b w=r.left:=by
 unfold GV RS.left;have c1:=lN.cell h 1;have c2:=lN.cell h 2;simp[RS.cs]at c1 c2;rw[c1,c2];simp
structure Wj(b:Nat)(w:iH)(mt:Option (Nat×MS))(r:RS)(v:iJ)(l:List UInt8)(W:iH):Prop where
 sn:GL w.heap.size b w r v l W
 mt:nD W mt
theorem LU{w0 W:iH}{mt EW:Option (Nat×MS)}{r:RS}(hg:w.grownBy w0 (mr mt))(h:Wj b w0 EW r v l W):w.grownBy W (mr mt)/\nD W EW:=
 ⟨nL hg (mV h.sn.nV),h.mt⟩
theorem Wl{B:Nat}{W A:iH}{mt:Option (Nat×MS)}(h:nD W mt)(hlt:∀x,mr mt=some x->x<B)(hB:B<=W.heap.size)(hb:iK B W A):nD A mt:=by
 cases mt with
 |none=>trivial
 |some x=>exact⟨Below.blk hb h.1 (hlt _ rfl),h.2⟩
theorem Qc{B:Nat}(h:mI w B uq v l):∃A C,v=lh A l.length C:=by
 rcases h.2 with⟨rfl,h0⟩|⟨g,cap,E,rfl,_⟩
 .exact⟨none,0,by rw[h0]⟩
 .exact⟨_,_,rfl⟩
theorem Oj{W:iH}{mt:Option (Nat×MS)}{r:RS}(h:Wj b w mt r v l W)(k:Nat):Wj b w mt r v l (W.drewN k):=
 ⟨⟨h.sn.own,h.sn.rd,h.sn.ok,h.sn.hB,⟨h.sn.nV.os,h.sn.nV.tape,h.sn.nV.output,h.sn.nV.size,h.sn.nV.block⟩⟩,h.mt⟩
theorem Ol(h:p:=by
 go_in;go_wp2_with fail;refine CS.out.mono ?_;rintro e w2 ⟨rfl,rfl⟩;go_wp2_with fail;go_returns;rw[<-HRR.out];exact⟨World.grownBy.refl _ _,HMT.out,rfl⟩):p:=h
theorem Sk(h:p:=by
 rw[if_pos c1,if_pos (r.zh 2 lM).2.2]at Sl;have hfn:=(r.zh 2 lM).2.2;have hfp:=RS.vV r (x:=2) lM hnn;have YK:=iF (HU.out.sn.ok.fail 2);generalize r.fail 2=r3 at*;have hfb:(r3.f !=0)=true:=by simp[hfn]
 go_wp2_with fail;refine CX.out.mono ?_;rintro e w7 ⟨rfl,hu,hr⟩;have HU7:iW (Wj b wc (p8 n mt) r3 (lh oq L cq) l w7):=iF ⟨HU.out.sn.read hu hr YK.out,Wl HU.out.mt VS.out (je HU.out.sn.hB (Nat.le_of_lt HU.out.sn.lt)) (ng.below (B:=wc.heap.size) (b:=b) hu (iL _ _) HU.out.sn.hB (je HU.out.sn.hB (Nat.le_of_lt HU.out.sn.lt)))⟩;have Yg:=iF (nR b r3 w7 hr);clear hu hr;go_wp2_with fail;refine Yg.out.mono ?_;rintro e w8 ⟨rfl,rfl⟩;go_wp2_with fail;refine Yg.out.mono ?_;rintro e w8 ⟨rfl,rfl⟩;go_wp2_with fail;go_returns;rw[Sl.out];have hend:=LU H3.out.1 HU7.out;exact⟨hend.1,hend.2,by dsimp only;rw[Int.toNat_of_nonneg hfp];rfl⟩):p:=h
theorem Jt(s:ByteArray)(most:Int)(mt:Option (Nat×MS))(w:iH)(hs:s.size<=jb)(bY:most<=65536)(V:nD w mt):
  iU iG 148 #[ll s,lg lH most,FJ mt] w (Sg (qI s most mt) mt w):=by
 have CS:=iF (P5 s w hs);have bZ:s.size<=9223372036854775807:=by unfold jb at hs;omega
 obtain⟨R,A⟩:=lV (qI s most mt);have aX:=iF A;rw[A];unfold qI at A;have Y:=λn k h=>P6 (l:=s.data.toList) (n:=n) (k:=k) h
 obtain⟨n,k,er,hsz⟩:∃n k er,sj s.data.toList=(n,k,er):=⟨_,_,_,rfl⟩;rw[hsz]at CS A;have HMT:=iF V;dsimp only at CS A;by_cases he:er=0;case neg=>
  rw[if_pos he]at A;have cz:((er:Int)==0)=false:=sQ;have cB:((er:Int) !=0)=true:=EY;have HRR:=iF A;clear he hsz Y aX A V;exact Ol
 subst he;rw[if_neg lU]at A;obtain⟨hk,bT⟩:=Y n k hsz;rw[<-AZ]at hk;by_cases ah:most<n
 .rw[if_pos ah]at A
  have HRR:=iF A;clear hsz Y aX A V;exact Ol
 rw[if_neg ah]at A;obtain⟨N,E⟩:=lV (BO n mt);have aY:0<=N:=E▸zK _ _;rw[E]at A;have HRR:=iF A;have ai:=iF E;have aZ:n<=65536:=lK;have bU:decide (most<(n:Int))=false:=lW;have dz:=YL mt;have cK:=Si mt;have bg:iW (∀b m,mt=some (b,m)->iU iG 33 #[lq (some ⟨b,0,none⟩),lg lH n] w λe w'=>e=lF (lg lH N)/\w.grownBy w' (mr mt)/\nD w' (p8 n mt)):=iF λb m h=>E▸Wi mt b m h n w HMT.out
 clear Y hsz aX A E V ah;go_in;go_wp2_with fail;refine CS.out.mono ?_;rintro e w2 ⟨rfl,rfl⟩;clear CS;go_upto_if 31 with(fail)
 go_cut [10] (λev bE=>ev=lg lH N/\iW (w.grownBy bE (mr mt)/\nD bE (p8 n mt)));case first=>
  cases mt with
  |none=>
   have ht:iW (N=0):=iF ai.out.symm;go_wp2_with fail;go_meet;exact⟨by rw[ht.out],iF ⟨World.grownBy.refl _ _,trivial⟩⟩
  |some x=>
   obtain⟨bm,m⟩:=x;have bF:=iF (bg.out bm m rfl);have bq:FJ (some (bm,m))=lq (some ⟨bm,0,none⟩):=rfl;simp only[bq];clear bg HRR HMT ai;go_wp2_with fail;refine bF.out.mono ?_;rintro e w3 ⟨rfl,aL,aM⟩;have H3:=iF (iQ aL aM);clear aL aM;go_wp2_with fail;go_meet;exact⟨rfl,H3⟩
 case rest=>
  obtain⟨rfl,H3⟩:=hcut;clear bg;by_cases aG:N=0;case neg=>
   have cO:(N !=0)=true:=by simp[aG]
   have bG:iW (R=(.error N.toNat,p8 n mt)):=iF (by rw[<-HRR.out,if_pos aG]);clear aG HRR;go_wp2_with fail;go_returns;rw[bG.out];exact⟨H3.out.1,H3.out.2,by dsimp only;rw[Int.toNat_of_nonneg aY];rfl⟩
  subst aG;have HRR:iW (R=(BN (s.extract k s.size) n,p8 n mt)):=iF (by rw[<-HRR.out];rfl);obtain⟨c,hc⟩:=lV (min n 4096);have Z:min (n:Int) 4096=(c:Int):=lK;have aa:(if(4096:Int)<(n:Int)then(4096:Int)else(n:Int))=(c:Int):=by split<;>omega
  have bH:=λw=>Sj c c rfl lK w
  have cZ:4096<=jb:=wJ;have aj:=iF (mI.made wc wc.heap.size uq (madeCells #[lg .u8 0] c) c (iI _) lK (Qb c));have ak:=(iL wc.heap.size wc).alloc (iI _) (lG (madeCells #[lg .u8 0] c) uq);have aN:=iF ak;have aO:=iF (H3.out.2.grown ak);have VS:iW (∀x,mr (p8 n mt)=some x->x<wc.heap.size):=iF λx aH=>by
   have:=H3.out.2;cases aP:p8 n mt with
   |none=>rw[aP]at aH;cases aH
   |some y=>rw[aP]at aH this;cases aH;exact lN.lt this.1
  have bu:(wc.alloc (lG (madeCells #[lg .u8 0] c) uq)).heap.size=wc.heap.size+1:=lU;have bI:(k:Int)<=(s.size:Int):=lK;obtain⟨O,au⟩:=lV (s.extract k s.size);have av:O.size<=9223372036854775807:=by rw[<-au];simp[ja];omega
  rw[au]at HRR;have bJ:=iF au;clear hc ak ai HMT;go_upto_region 9 with fail;generalize wc.alloc _=w1 at*;have aQ:=iF (xe O w1);simp only[Z,aa]at*;go_wp2_with fail;refine aQ.out.mono ?_;obtain⟨b,ax⟩:=lV w1.heap.size;rintro e w2 ⟨rfl,ae,bz,aR⟩;have aS:wc.heap.size<=w1.heap.size:=lK;have ay:iW (Wj b wc (p8 n mt) (RS.of O) (lh (some ⟨wc.heap.size,0,none⟩) 0 c) [] w2):=iF ⟨⟨aj.out.below ae,ax▸aR,RS.Ok.of av,lK,aN.out.trans (ae.mono aS)⟩,aO.out.grown ae⟩;obtain⟨af,aT⟩:=lV (wR n (O.size+1) (RS.of O) []);have az:=iF aT;obtain⟨dA,aA⟩:=lV wc.heap.size;have df:=iF aA;rw[ax];rw[aA]at ay⊢;obtain⟨T,bK⟩:=lV O.size;have bA:=iF bK;clear ae bz aR aj aN aO aQ bu bH aT ax aS aA bK bI bJ av Z aa;go_wp2_with fail;go_loopw [11] (λlv bB=>∃(r:RS) (l:List UInt8),iW (Wj b wc (p8 n mt) r lv l bB)/\iW (∃F,r.left<F/\wR n F r l=af)/\iW (r.t.size=T)/\l.length<=n/\0<=r.f) (λ_ bB=>GV T b bB);case atStart=>exact⟨RS.of O,[],ay,iF ⟨T+1,by unfold RS.left RS.of;simp[bA.out],by rw[<-bA.out];exact az.out⟩,bA,jy _,Int.le_refl _⟩
  case round=>
   obtain⟨r,l,HU,bC,C,hl,hnn⟩:=hrel;obtain⟨oq,cq,bq⟩:=Qc HU.out.sn.own;subst bq;obtain⟨L,hL⟩:=lV l.length;have bL:=iF hL;rw[hL]at HU⊢;clear hL;have aI:=iF (nR b r wr HU.out.sn.rd);have ag:=iF (BL b r wr HU.out.sn.ok HU.out.sn.rd);have dh:r.p<=T:=by rw[<-C.out];exact HU.out.sn.ok.1
   rw[C.out]at ag;clear ay;by_cases J:r.f=0;case neg=>
    have bV:(r.f==0)=false:=by simp[J]
    go_wp2_with fail;refine aI.out.mono ?_;rintro e aJ ⟨rfl,rfl⟩
    have aB:iW (af=(r,l)):=iF (by obtain⟨F,aC,Q⟩:=bC.out;rw[<-Q];cases F with
     |zero=>rfl
     |succ F=>exact if_neg (λh=>J h.1))
    have Sl:iW (R=((if(if l.length<n then r.fail 2 else r).f≠0 then .error (if l.length<n then r.fail 2 else r).f.toNat else .ok l),p8 n mt)):=iF (by rw[HRR.out];unfold BN;rw[az.out,aB.out]);rw[bL.out]at Sl;clear aB;by_cases c1:L<n
    .have CX:=iF (qX b r 2 wr HU.out.sn.rd)
     exact Sk
    .rw[if_neg c1]at Sl
     have Yg:=iF (nR b r wr HU.out.sn.rd);by_cases c2:r.f=0;.exact absurd c2 J
     .rw[if_pos c2]at Sl
      have hfb:(r.f !=0)=true:=by simp[c2]
      go_wp2_with fail;refine Yg.out.mono ?_;rintro e w8 ⟨rfl,rfl⟩;go_wp2_with fail;refine Yg.out.mono ?_;rintro e w8 ⟨rfl,rfl⟩;go_wp2_with fail;go_returns;rw[Sl.out];have hend:=LU H3.out.1 HU.out;exact⟨hend.1,hend.2,by dsimp only;rw[Int.toNat_of_nonneg hnn];rfl⟩
   rw[J]at aI;by_cases hp:r.p<T;case neg=>
    have aU:((T:Int) -(r.p:Int))=0:=lK;rw[aU]at ag;go_wp2_with fail;refine aI.out.mono ?_;rintro e aJ ⟨rfl,rfl⟩;go_wp2_with fail;refine ag.out.mono ?_;rintro e aJ ⟨rfl,U,rfl⟩;have HU:iW (Wj b wc (p8 n mt) r (lh oq L cq) l (wr.drewN U)):=iF (Oj HU.out U);generalize wr.drewN U=aK at*
    have aB:iW (af=(r,l)):=iF (by obtain⟨F,aC,Q⟩:=bC.out;rw[<-Q];cases F with
     |zero=>rfl
     |succ F=>exact if_neg (λh=>hp (by rw[<-C.out];exact h.2)))
    have Sl:iW (R=((if(if l.length<n then r.fail 2 else r).f≠0 then .error (if l.length<n then r.fail 2 else r).f.toNat else .ok l),p8 n mt)):=iF (by rw[HRR.out];unfold BN;rw[az.out,aB.out]);rw[bL.out]at Sl;clear aB;by_cases c1:L<n
    .have CX:=iF (qX b r 2 aK HU.out.sn.rd)
     exact Sk
    .rw[if_neg c1]at Sl
     have Yg:=iF (nR b r aK HU.out.sn.rd);by_cases c2:r.f=0
     .rw[if_neg (by simpa using c2)]at Sl
      rw[c2]at Yg;have dw:=(HU.out.sn.own:mI aK wc.heap.size uq (lh oq L cq) l).string RD;go_wp2_with fail;refine Yg.out.mono ?_;rintro e w8 ⟨rfl,rfl⟩;go_wp2_with fail;go_returns;rw[Sl.out];have hend:=LU H3.out.1 HU.out;exact⟨hend.1,hend.2,rfl⟩
     .exact absurd J c2
   .have aU:(0:Int)<(T:Int) -(r.p:Int):=lK
    have bW:=iF (λW (h:GL wc.heap.size b wc r (lh oq L cq) l W)=>GN wc.heap.size b wc r (lh oq L cq) l n W h hl aZ);have bM:=xn (size:=n) HU.out.sn.ok hl J (by rw[C.out];exact hp);have aV:=LQ (size:=n) HU.out.sn.ok hl J (by rw[C.out];exact hp);have bD:=Sd (l:=l) (size:=n) hnn;have bN:iW (∃F,(qg r l n).1.left<F/\wR n F (qg r l n).1 (qg r l n).2=af):=iF (by
     obtain⟨F,aC,Q⟩:=bC.out;cases F with
     |zero=>omega
     |succ F=>
      simp only[wR]at Q;rw[if_pos ⟨J,by rw[C.out];exact hp⟩]at Q;exact⟨F,lK,Q⟩)
    have bO:iW ((qg r l n).1.left<GV T b wr):=iF (by rw[<-C.out,FK HU.out.sn.rd];exact aV);obtain⟨aW,bP,dx,bQ⟩:=bM;have aD:iW ((qg r l n).1.t.size=T):=iF (by rw[aW];exact C.out);generalize (qg r l n).1=r4 at*;generalize (qg r l n).2=bR at*;clear aW bP aV;go_wp2_with fail;refine aI.out.mono ?_;rintro e aJ ⟨rfl,rfl⟩;go_wp2_with fail;refine ag.out.mono ?_;rintro e aJ ⟨rfl,U,rfl⟩;have bS:iW (Wj b wc (p8 n mt) r (lh oq L cq) l (wr.drewN U)):=iF (Oj HU.out U);generalize wr.drewN U=aK at*;go_wp2_with fail;refine(bW.out _ bS.out.sn).mono ?_;rintro e w7 ⟨bX,rfl,aF⟩;have HU7:iW (Wj b wc (p8 n mt) r4 bX bR w7):=iF ⟨aF,H3.out.2.grown aF.nV⟩;clear aF;go_wp2_with fail;go_roundw;case rel=>exact⟨r4,bR,HU7,bN,aD,bQ,bD⟩
    case measure=>
     have aC:=FK HU7.out.sn.rd;rw[aD.out]at aC;rw[aC];exact bO.out
end
end Go.Proofs.YtamfcjmhnndbdaaGreatDoor


