/- Part 3 of the proof. -/
import Derived.Test.YtamfcjmhnndbdaaGreatDoorZk00
import Derived.Test.YtamfcjmhnndbdaaGreatDoorZk02
import Derived.Test.YtamfcjmhnndbdaaGreatDoorRows
import Derived.WalkSpells
import Derived.Deep.RegionWith
import Derived.WalkKit
import Derived.Lib.Hide
import Derived.Handy
import Derived.Lib.Strings
import Derived.Laws.BitsAllLaws
import Derived.RangeFuncNested
import Derived.RangeFuncBound
import Derived.RangeFuncCalls
import Derived.RangeFuncLeaves
import Derived.OwnWalkIn
import Derived.Deep.Quiet
import Derived.OrdersIn
import Derived.Shelf.Abstract
import Derived.TacticsInMore
import Derived.LoopNIn
import Derived.LoopIn
import Derived.Sort.CutIn
import Derived.OrdersHeld
import Derived.Deep.RegionHeld
open Go.Value renaming agg→lC,bool→lu,int→lg,pointer→lq,slice→lh,string→ll,tuple→lD
open Go.Obj renaming cells→lG
open Go.IntKind renaming i64→lH,u32→lJ,u64→lI
open Go.Ending renaming returned→lF,returned→jP
open Go.Lib renaming hid→iF,trimRightB→jL
open Go.Proofs.Tryz renaming prog→iG,underlying86→kC
open Go renaming World→iH,Value→iJ,Calls→iU,bodyPost_ret→iV,maxLen→jb,TypeId→jg,results→jr,Program→kg,Oper→kH,wpQuiet_nil→kS
open Nat renaming le_refl→iI,le_trans→je,lt_of_lt_of_le→jq,le_succ→jF,two_pow_add_eq_or_of_lt→kT,le_of_eq→kX
open Go.RowKit renaming Below→iK,Hid→iW,intOf→jA
open Go.RowKit.Below renaming refl→iL,heap_setCell→iX
open Bool renaming and_eq_true→iY
open List renaming getElem?_eq_getElem→iZ,take_succ_cons→ji,length_cons→jm,length_append→jv,take_zero→jC,all_eq_true→jV,replicate→jY,getD_eq_getElem?_getD→ko,mem_cons→kD,mem_range→kF,range→kI,length_eq_zero_iff→kR,drop_succ_cons→kU,size_toArray→kV
open ByteArray renaming size_extract→ja
open Go.World renaming setCell→jf
open Array renaming getElem?_eq_some_iff→jk,replicate→jQ,getD_eq_getD_getElem?→jR,getElem?_eq_none→kW
open UInt8 renaming ofNat→jl
open Go.Code renaming region→jJ
open Go.Region renaming ready→jW,binds→kG
open Go.Instr renaming makeFunc→kL
namespace Go.Proofs.YtamfcjmhnndbdaaGreatDoor
set_option linter.unusedVariables false
set_option linter.unusedSimpArgs false
set_option maxRecDepth 100000
set_option maxHeartbeats 8000000
variable {s:ByteArray}{T:jg}
section
open Go.RowKit
theorem bt:oN iG 86 5 9:=⟨kC,Tryz.underlying5,Tryz.underlying9,lQ⟩
theorem YM(w:iH):(Instr.makeSlice 86 (lg lH 0) (lg lH 10)).run iG w=
  .ok (lh (some ⟨w.heap.size,0,none⟩) 0 10) (w.alloc (lG (jQ 10 (lg .u8 0)) 5)):=lQ
theorem GX(n:Nat)(w:iH)(hn:n<18446744073709551616):
  iU iG 143 #[lg lI n] w λe w'=>e=lF (ll ⟨(mJ n).toArray⟩)/\iK w.heap.size w w':=by
 have ah:=YM;obtain⟨B,hB⟩:∃B,B=w.heap.size:=⟨_,rfl⟩;have ai:=iF hB;have O:B<=w.heap.size:=lK;rw[<-hB];clear hB;have Z:=xg.start n hn;generalize mJ n=t at*;go_in;go_wp2;go_loopw [0,3] (λU v wr=>∃(m:Nat) (l:List UInt8),U=lg lI m/\mI wr B 5 v l/\iK B w wr/\xg t l m/\m<18446744073709551616) (λU _ _=>(jA U).toNat);case atStart=>exact⟨n,[],rfl,mI.made w B _ _ 10 O lM rfl,(iL _ _).alloc O _,Z,hn⟩
 case round=>
  obtain⟨m,l,rfl,C,E,J,aa⟩:=hrel;have Q:B<=wr.heap.size:=by have:=E.size;omega
  have af:=J.le;by_cases c:128<=m
  .have Y:=J.step c
   go_wp2_with (at_builtin;refine mP bt rfl (.tmp 7) (.tmp 11) rfl B _ l [jl (m % 128+128)] 1 rfl wr _ (Dr (n:=m % 128+128) (a0K m) lK) rfl C rfl lK Q ?_;intro v' w' A N V);go_roundw;case rel=>exact⟨m/128,_,by go_num,A,E.trans N,Y,lK⟩
   case measure=>simp[jA];omega
  .have ae:m<128:=lK
   have hd:=iF (J.done ae);go_wp2_with (at_builtin;refine mP bt rfl (.tmp 15) (.tmp 18) rfl B _ l [jl m] 1 rfl wr _ (Dr (n:=m) lK lK) rfl C rfl lK Q ?_;intro v' w' A N V;have ag:=A.string bt);go_returns;exact⟨by rw[<-hd.out];rfl,E.trans N⟩
theorem Om:∀ k n:Nat,n<128^k->n<18446744073709551616->(mJ n).length=max 1 ((Lib.bitLen n+6)/7)
 |k,n,hk,h=>by
  by_cases c:n<128
  .rw[oP n c]
   have:=Lib.bitLen_le n 7 lK c;simp;omega
  .match k,hk with
   |0,hk=>simp at hk;omega
   |k+1,hk=>
   rw[ug n lK,jm,Om k (n/128) (by rw[Nat.pow_succ]at hk;omega) lK];rw[Lib.bitLen_shift 7 n lK h];have:n/2^7=n/128:=rfl;rw[this];have A:1<=Lib.bitLen (n/128):=by
    rw[Lib.bitLen_half (n/128) lK lK];omega
   omega
theorem Sm(n:Nat)(w:iH)(hn:n<18446744073709551616):
  iU iG 142 #[lg lI n] w λe w'=>e=lF (lg lH (mJ n).length)/\w=w':=by
 have hl:=iF (Om 10 n (jq hn lM) hn);have hb:Lib.bitLen n<=64:=Lib.bitLen_le n 64 lK hn;have hc:=λw=>Tryz.bits_Len64 n w lK lK
 rw[Int.toNat_natCast]at hc;generalize Lib.bitLen n=m at*;have A:=iF hc;clear hc;go_in;go_wp2_with fail;refine(A.out _).mono ?_;rintro e w' ⟨rfl,rfl⟩;go_wp2_with fail
 all_goals
  go_returns;exact⟨by rw[hl.out];exact congrArg jP (congrArg (Value.int lH) lK),rfl⟩
theorem uu(m:Int)(s:ByteArray)(w:iH)(C:-9223372036854775808<=m/\m<=9223372036854775807)(hs:s.size<=jb):
  iU iG 92 #[lg lH m,ll s] w λe w'=>e=lF (lD #[lg lH (nz m s.data.toList).1,lg lH (nz m s.data.toList).2.1,lg lH (nz m s.data.toList).2.2])/\w=w':=by
 have c1:=λw=>zG s w hs
 have hp:nz m s.data.toList=if(ma s.data.toList 0 0).2.2=0 then if m<0\/m<((ma s.data.toList 0 0).1:Int)then(0,0,5)else ma s.data.toList 0 0 else(0,0,(ma s.data.toList 0 0).2.2):=rfl
 have hlt:=λN K h=>(qQ (l:=s.data.toList) (N:=N) (K:=K) h).2.1
 obtain⟨O,Q⟩:=C;unfold jb at hs;generalize nz m s.data.toList=r at*;generalize ma s.data.toList 0 0=t at*;obtain⟨n,k,e⟩:=t;have C1:iW (∀w,iU iG 126 #[ll s] w λE w'=>E=lF (lD #[lg lI n,lg lH k,lg lH e])/\w=w'):=c1;clear c1;by_cases he:e=0
 .subst he
  have hn:=hlt n k rfl;clear hlt;rw[if_pos rfl]at hp;by_cases A:m<0
  .rw[if_pos (.inl A)]at hp
   subst hp;exact ze
  .obtain⟨M,rfl⟩:∃M:Nat,m=M:=⟨m.toNat,lK⟩
   by_cases J:M<n
   .rw[if_pos (.inr (by simp only;omega))]at hp
    subst hp;clear A;exact ze
   .rw[if_neg (by simp only;omega)]at hp
    subst hp;have U:decide (M<n)=false:=lW;have Z:n<=M:=lK;clear A J;exact ze
 .rw[if_neg he]at hp
  subst hp;have V:((e:Int)==0)=false:=sQ;have Y:((e:Int) !=0)=true:=EY;clear he hlt;exact ze
def A7(id:Nat)(b:ByteArray):iJ:=lC #[lg lI id,ll ⟨#[]⟩,ll b]
def PF.v(f:PF):iJ:=lD #[A7 f.id f.body,lg lH f.n,lg lH f.e]
theorem Qd(id:Nat)(b:ByteArray)(w:iH)(hid:id<18446744073709551616)(hb:(mJ id).length+b.size<=65536):
  iU iG 104 #[lg lI id,ll b] w λe w'=>e=lF (lD #[ll (AX id b),lg lH 0])/\iK w.heap.size w w':=by
 have hl:=uh 10 id (jq hid lM);have c1:=iF (λw=>Sm id w hid);have c2:=iF (λw=>GX ((mJ id).length+b.size) w lK);have c3:=iF (λw=>GX id w hid);have N:(⟨(mJ ((mJ id).length+b.size)).toArray⟩:ByteArray).size<=10:=by
  rw[size_mk];have:=uh 10 ((mJ id).length+b.size) (Nat.lt_of_le_of_lt hb lM);omega
 have J:(⟨(mJ id).toArray⟩:ByteArray).size<=10:=by rw[size_mk];omega
 have hp:AX id b=⟨(mJ ((mJ id).length+b.size)).toArray⟩++⟨(mJ id).toArray⟩++b:=rfl;generalize AX id b=R at*;generalize (⟨(mJ ((mJ id).length+b.size)).toArray⟩:ByteArray)=X at*;generalize (⟨(mJ id).toArray⟩:ByteArray)=O at*;generalize (mJ id).length=m at*;have E:=iF hp;clear hp;go_in;go_wp2_with fail;refine(c1.out _).mono ?_;rintro e w' ⟨rfl,rfl⟩;go_wp2_with fail;refine(c2.out _).mono ?_;rintro e w1 ⟨rfl,A⟩;go_wp2_with fail;refine(c3.out _).mono ?_;rintro e w2 ⟨rfl,C⟩;go_wp2_with fail;go_returns;exact⟨by rw[E.out];rfl,A.trans (C.mono A.size)⟩
theorem uw(t:ByteArray)(w:iH):iU iG 144 #[ll t] w λe w'=>∃b,e=lF (lq (some ⟨b,0,none⟩))/\w.heap.size<=b/\iK w.heap.size w w'/\tT w' b (RS.of t):=
 (xe t w).mono λ_ _ ⟨he,hb,_,A⟩=>⟨_,he,iI _,hb,A⟩
def vW:Array iJ:=#[lg lI 0,ll ⟨#[]⟩,ll ⟨#[]⟩]
theorem A8(m:Int)(s:ByteArray)(er:Nat)(w:iH)(A:-9223372036854775808<=m/\m<=9223372036854775807)(hs:s.size<=jb)(hp:nz m s.data.toList=(0,0,er))(he:er≠0):
  iU iG 106 #[lg lH m,ll s] w λe w'=>e=lF (PF.bad er).v/\iK w.heap.size w w':=by
 have c1:=λw=>uu m s w A hs
 rw[hp]at c1;have C:=iF c1;have E:((er:Int) !=0)=true:=EY;clear c1 hp A he;go_in;go_wp2_with fail;refine(C.out _).mono ?_;rintro e w' ⟨rfl,rfl⟩;go_wp2_with fail;refine iV (v:=(PF.bad er).v) (by simp[jr,Tryz.results106,go_sem,PF.v,PF.bad,A7]) rfl ⟨rfl,?_⟩;exact(iL _ _).alloc (iI _) _
theorem LV{p:Prop}(h:p:=by
 show RS.take ⟨s,0,0⟩ k=_;unfold RS.take;rw[if_pos rfl,if_neg lK,if_neg (by simp only[];omega)];simp):p:=h
theorem Cq(m:Int)(s:ByteArray)(n k:Nat)(w:iH)(Y:-9223372036854775808<=m/\m<=9223372036854775807)(hs:s.size<=jb)(hp:nz m s.data.toList=(n,k,0))(av:s.size<k+n):
  iU iG 106 #[lg lH m,ll s] w λe w'=>e=lF (PF.bad 2).v/\iK w.heap.size w w':=by
 have c1:=λw=>uu m s w Y hs
 rw[hp]at c1;have aj:=iF c1;obtain⟨ak,ay,Z,az⟩:=xh hp;rw[<-Lib.size_eq]at Z;have C:=hs;unfold jb at C;have ct:=iF (λb w (h:tT w b (RS.of s))=>nU b (RS.of s) k w (RS.Ok.of C) h);have e1:RS.take (RS.of s) k=(⟨s,k,0⟩,s.extract 0 k):=by
  exact LV
 rw[e1]at ct;have E:=iF (λb w (h:tT w b ⟨s,k,0⟩)=>nU b ⟨s,k,0⟩ n w ⟨Z,C⟩ h);have e2:RS.take ⟨s,k,0⟩ n=(⟨s,k,2⟩,rE):=by
  unfold RS.take;rw[if_pos rfl,if_neg lK,if_pos (by simp only[];omega)]
 rw[e2]at E;have ax:∀(fn:Fn)(first cap:Array iJ)(w:iH),(kL fn first cap).run iG w=.ok (.func fn first cap) w:=λ_ _ _ _=>rfl
 clear c1 hp Y e1 e2 ak;go_in;go_wp2_with fail;refine(aj.out _).mono ?_;rintro e w' ⟨rfl,rfl⟩;go_wp2_with fail;refine(uw _ _).mono ?_;rintro e w1 ⟨b,rfl,J,N,aa⟩;go_wp2_with fail;refine(ct.out _ _ aa).mono ?_;rintro e w2 ⟨rfl,u2,ae⟩;go_wp2_with fail;refine(E.out _ _ ae).mono ?_;rintro e w3 ⟨rfl,u3,af⟩;have cf:=iF (nR _ _ _ af);go_wp2_with fail;refine cf.out.mono ?_;rintro e w' ⟨rfl,rfl⟩;have hlt:w.heap.size<b:=by simp at J;omega
 have O:=Below.blk N (lN.new w vW 52) lU;have Q:=u2.blk O lK;have A:=u3.blk Q lK;have U:=((iL w.heap.size w).alloc (iI _) (lG vW 52)).trans (N.mono lU);have V:=u2.below U lK U.size;have au:=iF (u3.below V lK V.size);have ag:=A.cell 0;have ah:=A.cell 1;have ai:=A.cell 2;obtain⟨aA,f1,f2⟩:=A.f3;simp[vW]at ag ah ai;clear U V O Q J;go_wp2_with fail;refine iV (v:=(PF.bad 2).v) (by simp[jr,Tryz.results106,go_sem,PF.v,PF.bad,A7,ag,ah,ai]) rfl ⟨rfl,?_⟩;exact((au.out.setCell (p:=⟨w.heap.size,0,none⟩) (iI _) _).setCell (p:=⟨w.heap.size,1,none⟩) (iI _) _).setCell (p:=⟨w.heap.size,2,none⟩) (iI _) _
theorem Cr(m:Int)(s:ByteArray)(n k:Nat)(w:iH)(Y:-9223372036854775808<=m/\m<=9223372036854775807)(hs:s.size<=jb)(hp:nz m s.data.toList=(n,k,0))(aD:k+n<=s.size)(Z:(ma (s.extract k (k+n)).data.toList 0 0).2.2≠0):
  iU iG 106 #[lg lH m,ll s] w λe w'=>e=lF (PF.bad 3).v/\iK w.heap.size w w':=by
 have c1:=λw=>uu m s w Y hs
 rw[hp]at c1;have av:=iF c1;obtain⟨ax,aH,aa,aI⟩:=xh hp;rw[<-Lib.size_eq]at aa;have C:=hs;unfold jb at C;have ct:=iF (λb w (h:tT w b (RS.of s))=>nU b (RS.of s) k w (RS.Ok.of C) h);have e1:RS.take (RS.of s) k=(⟨s,k,0⟩,s.extract 0 k):=by
  exact LV
 rw[e1]at ct;have E:=iF (λb w (h:tT w b ⟨s,k,0⟩)=>nU b ⟨s,k,0⟩ n w ⟨aa,C⟩ h);have e2:RS.take ⟨s,k,0⟩ n=(⟨s,k+n,0⟩,s.extract k (k+n)):=by
  unfold RS.take;rw[if_pos rfl,if_neg lK,if_neg (by simp only[];omega)];rfl
 rw[e2]at E;have aF:∀(fn:Fn)(first cap:Array iJ)(w:iH),(kL fn first cap).run iG w=.ok (.func fn first cap) w:=λ_ _ _ _=>rfl
 have ae:=λw=>zG (s.extract k (k+n)) w (by unfold jb;rw[ja];omega)
 generalize ma (s.extract k (k+n)).data.toList 0 0=t at*;obtain⟨ay,az,af⟩:=t;have aA:iW (∀w,iU iG 126 #[ll (s.extract k (k+n))] w λaB w'=>aB=lF (lD #[lg lI ay,lg lH az,lg lH af])/\w=w'):=ae;have aG:((af:Int) !=0)=true:=by rw[bne_iff_ne];simp only at Z;omega
 clear ae Z;clear c1 hp Y e1 e2 ax;go_in;go_wp2_with fail;refine(av.out _).mono ?_;rintro e w' ⟨rfl,rfl⟩;go_wp2_with fail;refine(uw _ _).mono ?_;rintro e w1 ⟨b,rfl,J,N,ag⟩;go_wp2_with fail;refine(ct.out _ _ ag).mono ?_;rintro e w2 ⟨rfl,u2,ah⟩;go_wp2_with fail;refine(E.out _ _ ah).mono ?_;rintro e w3 ⟨rfl,u3,ai⟩;have cf:=iF (nR _ _ _ ai);go_wp2_with fail;refine cf.out.mono ?_;rintro e w' ⟨rfl,rfl⟩;have hlt:w.heap.size<b:=by simp at J;omega
 have O:=Below.blk N (lN.new w vW 52) lU;have Q:=u2.blk O lK;have A:=u3.blk Q lK;have U:=((iL w.heap.size w).alloc (iI _) (lG vW 52)).trans (N.mono lU);have V:=u2.below U lK U.size;have aC:=iF (u3.below V lK V.size);have aj:=A.cell 0;have ak:=A.cell 1;have au:=A.cell 2;obtain⟨aJ,f1,f2⟩:=A.f3;simp[vW]at aj ak au;clear U V O Q J;go_wp2_with fail;refine(aA.out _).mono ?_;rintro e w' ⟨rfl,rfl⟩;go_wp2_with fail;refine iV (v:=(PF.bad 3).v) (by simp[jr,Tryz.results106,go_sem,PF.v,PF.bad,A7,aj,ak,au]) rfl ⟨rfl,?_⟩;exact((aC.out.setCell (p:=⟨w.heap.size,0,none⟩) (iI _) _).setCell (p:=⟨w.heap.size,1,none⟩) (iI _) _).setCell (p:=⟨w.heap.size,2,none⟩) (iI _) _
theorem E9(m:Int)(s:ByteArray)(n k id z:Nat)(w:iH)(ae:-9223372036854775808<=m/\m<=9223372036854775807)(hs:s.size<=jb)(hp:nz m s.data.toList=(n,k,0))(aD:k+n<=s.size)(V:ma (s.extract k (k+n)).data.toList 0 0=(id,z,0)):
  iU iG 106 #[lg lH m,ll s] w λe w'=>e=lF (PF.mk id ((s.extract k (k+n)).extract z n) (k+n) 0).v/\iK w.heap.size w w':=by
 have c1:=λw=>uu m s w ae hs
 rw[hp]at c1;have ay:=iF c1;obtain⟨az,aG,af,aH⟩:=xh hp;rw[<-Lib.size_eq]at af;have C:=hs;unfold jb at C;have ct:=iF (λb w (h:tT w b (RS.of s))=>nU b (RS.of s) k w (RS.Ok.of C) h);have e1:RS.take (RS.of s) k=(⟨s,k,0⟩,s.extract 0 k):=by
  exact LV
 rw[e1]at ct;have E:=iF (λb w (h:tT w b ⟨s,k,0⟩)=>nU b ⟨s,k,0⟩ n w ⟨af,C⟩ h);have e2:RS.take ⟨s,k,0⟩ n=(⟨s,k+n,0⟩,s.extract k (k+n)):=by
  unfold RS.take;rw[if_pos rfl,if_neg lK,if_neg (by simp only[];omega)];rfl
 rw[e2]at E;have aF:∀(fn:Fn)(first cap:Array iJ)(w:iH),(kL fn first cap).run iG w=.ok (.func fn first cap) w:=λ_ _ _ _=>rfl
 have J:(s.extract k (k+n)).size=n:=by rw[ja];omega
 have aA:=(qQ V).1;rw[<-Lib.size_eq,J]at aA;have Y:=λw=>zG (s.extract k (k+n)) w (by unfold jb;rw[ja];omega)
 rw[V]at Y;have ag:iW (∀w,iU iG 126 #[ll (s.extract k (k+n))] w λaB w'=>aB=lF (lD #[lg lI id,lg lH z,lg lH 0])/\w=w'):=Y;clear Y V;obtain⟨X,ah⟩:∃X,X=s.extract k (k+n):=⟨_,rfl⟩;rw[<-ah]at J ag e2 E⊢;clear ah;clear c1 hp ae e1 e2 az;go_in;go_wp2_with fail;refine(ay.out _).mono ?_;rintro e w' ⟨rfl,rfl⟩;go_wp2_with fail;refine(uw _ _).mono ?_;rintro e w1 ⟨b,rfl,N,O,ai⟩;go_wp2_with fail;refine(ct.out _ _ ai).mono ?_;rintro e w2 ⟨rfl,u2,aj⟩;go_wp2_with fail;refine(E.out _ _ aj).mono ?_;rintro e w3 ⟨rfl,u3,ak⟩;have cf:=iF (nR _ _ _ ak);go_wp2_with fail;refine cf.out.mono ?_;rintro e w' ⟨rfl,rfl⟩;have hlt:w.heap.size<b:=by simp at N;omega
 have Q:=Below.blk O (lN.new w vW 52) lU;have U:=u2.blk Q lK;have A:=u3.blk U lK;have Z:=((iL w.heap.size w).alloc (iI _) (lG vW 52)).trans (O.mono lU);have aa:=u2.below Z lK Z.size;have aC:=iF (u3.below aa lK aa.size);have au:=A.cell 0;have av:=A.cell 1;have ax:=A.cell 2;obtain⟨aI,f1,f2⟩:=A.f3;simp[vW]at au av ax;clear Z aa Q U N;go_wp2_with fail;refine(ag.out _).mono ?_;rintro e w' ⟨rfl,rfl⟩;go_wp2_with fail;refine iV (v:=(PF.mk id (X.extract z n) (k+n) 0).v) (by simp[jr,Tryz.results106,go_sem,PF.v,A7,au,av,ax]) rfl ⟨rfl,?_⟩;exact((aC.out.setCell (p:=⟨w.heap.size,0,none⟩) (iI _) _).setCell (p:=⟨w.heap.size,1,none⟩) (iI _) _).setCell (p:=⟨w.heap.size,2,none⟩) (iI _) _
theorem Qe{P:PF->Prop}(m:Int)(s:ByteArray)(J:∀er,nz m s.data.toList=(0,0,er)->er≠0->P (.bad er))(N:∀n k,nz m s.data.toList=(n,k,0)->s.size<k+n->P (.bad 2))(O:∀n k,nz m s.data.toList=(n,k,0)->k+n<=s.size->(ma (s.extract k (k+n)).data.toList 0 0).2.2≠0->P (.bad 3))(Q:∀n k id z,nz m s.data.toList=(n,k,0)->k+n<=s.size->ma (s.extract k (k+n)).data.toList 0 0=(id,z,0)->P ⟨id,(s.extract k (k+n)).extract z n,k+n,0⟩):P (mZ m s):=by
 by_cases h0:(nz m s.data.toList).2.2=0
 .obtain⟨⟨n,k,e⟩,hp⟩:∃t,nz m s.data.toList=t:=⟨_,rfl⟩
  rw[hp]at h0;simp only at h0;subst h0;by_cases E:s.size<k+n;.rw[LB hp E];exact N n k hp E
  .by_cases A:(ma (s.extract k (k+n)).data.toList 0 0).2.2=0
   .obtain⟨⟨id,z,e⟩,C⟩:∃t,ma (s.extract k (k+n)).data.toList 0 0=t:=⟨_,rfl⟩
    rw[C]at A;simp only at A;subst A;rw[R4 hp lK C];exact Q n k id z hp lK C
   .rw[LC hp lK A];exact O n k hp lK A
 .rw[Jh h0];exact J _ (PY h0) h0
theorem Dw(m:Int)(s:ByteArray)(w:iH)(A:-9223372036854775808<=m/\m<=9223372036854775807)(hs:s.size<=jb):
  iU iG 106 #[lg lH m,ll s] w λe w'=>e=lF (mZ m s).v/\iK w.heap.size w w':=
 Qe (P:=λr=>iU iG 106 #[lg lH m,ll s] w λe w'=>e=lF r.v/\iK w.heap.size w w') m s
  (λer h he=>A8 m s er w A hs h he) (λn k h ho=>Cq m s n k w A hs h ho) (λn k h ho C=>Cr m s n k w A hs h ho C)
  (λn k id z h ho C=>E9 m s n k id z w A hs h ho C)
def uy(b:UInt8):Bool:=(decide (97<=b.toNat)&&decide (b.toNat<=122))||(decide (48<=b.toNat)&&decide (b.toNat<=57))||decide (b.toNat=95)
def rV(l:List UInt8):Bool:=decide (1<=l.length)&&decide (l.length<=12)&&l.all uy
theorem BP(b:UInt8):(uy b=true/\((97<=b.toNat/\b.toNat<=122)\/(48<=b.toNat/\b.toNat<=57)\/b.toNat=95))\/
  (uy b=false/\((b.toNat<48)\/(57<b.toNat/\b.toNat<95)\/b.toNat=96\/122<b.toNat)):=by
 unfold uy;by_cases h:(97<=b.toNat/\b.toNat<=122)\/(48<=b.toNat/\b.toNat<=57)\/b.toNat=95
 .left
  refine⟨?_,h⟩;simp only[Bool.or_eq_true,iY,decide_eq_true_eq];rcases h with h|h|h
  .exact .inl (.inl h)
  .exact .inl (.inr h)
  .exact .inr h
 .right
  refine⟨?_,lK⟩;simp only[Bool.or_eq_false_iff,Bool.and_eq_false_iff,decide_eq_false_iff_not];omega
theorem Jw{k:Nat}(h:k<s.size):(s.data.toList.take (k+1)).all uy=((s.data.toList.take k).all uy&&uy s[k]):=by
 rw[List.take_add_one,iZ (by simpa using h)];simp;rfl
theorem all_false{k:Nat}(h:k<s.size)(hb:uy s[k]=false):s.data.toList.all uy=false:=by
 rw[List.all_eq_false];have hk:k<s.data.toList.length:=by simpa using h
 exact⟨s.data.toList[k],List.getElem_mem hk,by
  have:s.data.toList[k]=s[k]:=rfl;rw[this,hb];simp⟩
theorem A9{p:Prop}(h:p:=by
 go_wp2_with fail
 all_goals
  go_roundw;case rel=>exact⟨k+1,by go_num,lK,HT.out,trivial⟩
  case measure=>simp[jA];omega):p:=h
theorem GY{p:Prop}(h:p:=by
 go_wp2_with fail
 all_goals first
  |(go_returns;exact⟨by rw[HM.out,HT.out];rfl,rfl⟩)
  |(exfalso;omega)
  |(exfalso;simp_all;omega)):p:=h
theorem Dx{p:Prop}(h:p:=by
 go_in;go_wp2_with fail;go_returns;exact⟨by rw[HR.out];rfl,rfl⟩):p:=h
theorem Oo(s:ByteArray)(w:iH)(hs:s.size<=jb):
  iU iG 120 #[ll s] w λe w'=>e=lF (lu (rV s.data.toList))/\w'=w:=by
 have O:s.size<=9223372036854775807:=by unfold jb at hs;omega
 have hlen:s.data.toList.length=s.size:=lU;clear hs;by_cases h0:s.size<1
 .have HR:iW (rV s.data.toList=false):=iF (by unfold rV;rw[decide_eq_false (by rw[hlen];omega)];rfl)
  clear hlen;exact Dx
 by_cases Q:12<s.size
 .have HR:iW (rV s.data.toList=false):=iF (by unfold rV;rw[decide_eq_true (p:=1<=_) (by rw[hlen];omega),decide_eq_false (by rw[hlen];omega)];rfl)
  clear hlen;exact Dx
 have HM:iW (rV s.data.toList=s.data.toList.all uy):=iF (by unfold rV;rw[decide_eq_true (p:=1<=_) (by rw[hlen];omega),decide_eq_true (by rw[hlen];omega)];rfl);obtain⟨N,Y⟩:=lV s.size;have U:=iF Y;have Z:=iF hlen;have A:¬N<1:=lK;have E:¬12<N:=lK;have aa:N<=12:=lK;clear O hlen h0 Q;go_in;go_wp2_with fail;go_loopw [15] (λiv ae=>∃k:Nat,iv=lg lH k/\k<=N/\iW ((s.data.toList.take k).all uy=true)/\ae=w) (λiv _=>N -(jA iv).toNat);case atStart=>exact⟨0,rfl,lK,iF lU,rfl⟩
 case round=>
  obtain⟨k,rfl,hk,V,rfl⟩:=hrel;by_cases c:k<N
  .have C:k<s.size:=by rw[U.out];exact c
   have J:=Jw C;rcases BP s[k]with⟨hn,hc⟩|⟨hn,hc⟩
   .have HT:iW ((s.data.toList.take (k+1)).all uy=true):=iF (by rw[J,V.out,hn];rfl)
    clear J hn;rcases hc with⟨A,E⟩|⟨A,E⟩|A
    .exact A9
    .exact A9
    .exact A9
   .have HT:=iF (all_false C hn)
    have ag:((s[k].toNat:Int) !=95)=true:=lW;have ah:((s[k].toNat:Int)==95)=false:=lW;clear J hn;rcases hc with A|⟨A,E⟩|A|A
    .exact GY
    .exact GY
    .exact GY
    .exact GY
  .obtain rfl:k=N:=lK
   have af:iW (rV s.data.toList=true):=iF (by
    have h:=V.out;rw[List.take_of_length_le (by rw[Z.out,U.out];exact iI _)]at h;rw[HM.out,h])
   go_wp2_with fail;go_returns;exact⟨by rw[af.out];rfl,rfl⟩
theorem GZ{p:Prop}(h:p:=by
 go_wp2_with fail
 all_goals first
  |(go_returns;exact⟨by rw[HM.out,HT.out,Bool.and_false];rfl,rfl⟩)
  |(exfalso;omega)
  |(exfalso;simp_all;omega)):p:=h
theorem Qf(s:ByteArray)(w:iH)(hs:s.size<=jb):
  iU iG 53 #[ll s] w λe w'=>e=lF (lu (rV s.data.toList))/\w'=w:=by
 have O:s.size<=9223372036854775807:=by unfold jb at hs;omega
 have hlen:s.data.toList.length=s.size:=lU;have HM:iW (rV s.data.toList=(decide (1<=s.size)&&decide (s.size<=12)&&s.data.toList.all uy)):=iF (by unfold rV;rw[hlen]);obtain⟨N,Z⟩:=lV s.size;have E:=iF Z;have aa:=iF hlen;have ae:N<=9223372036854775807:=lK;clear hs O hlen;go_in;go_wp2_with fail;go_loopw [3] (λiv af=>∃k:Nat,iv=lg lH k/\k<=N/\iW ((s.data.toList.take k).all uy=true)/\af=w) (λiv _=>N -(jA iv).toNat);case atStart=>exact⟨0,rfl,lK,iF lU,rfl⟩
 case round=>
  obtain⟨k,rfl,hk,Q,rfl⟩:=hrel;by_cases c:k<N
  .have C:k<s.size:=by rw[E.out];exact c
   have J:=Jw C;rcases BP s[k]with⟨hn,hc⟩|⟨hn,hc⟩
   .have HT:iW ((s.data.toList.take (k+1)).all uy=true):=iF (by rw[J,Q.out,hn];rfl)
    clear J hn;rcases hc with⟨A,U⟩|⟨A,U⟩|A
    .exact A9
    .exact A9
    .exact A9
   .have HT:=iF (all_false C hn)
    have ah:((s[k].toNat:Int) !=95)=true:=lW;have ai:((s[k].toNat:Int)==95)=false:=lW;clear J hn;rcases hc with A|⟨A,U⟩|A|A
    .exact GZ
    .exact GZ
    .exact GZ
    .exact GZ
  .obtain rfl:k=N:=lK
   have V:iW (rV s.data.toList=(decide (1<=k)&&decide (k<=12))):=iF (by
    have h:=Q.out;rw[List.take_of_length_le (by rw[aa.out,E.out];exact iI _)]at h;rw[HM.out,h,E.out,Bool.and_true])
   by_cases Y:1<=k
   .have ag:iW (decide ((k:Int)<=12)=rV s.data.toList):=iF (by rw[V.out,decide_eq_true Y,Bool.true_and,decide_eq_decide];omega)
    go_wp2_with fail;go_returns;exact⟨by rw[<-ag.out];rfl,rfl⟩
   .go_wp2_with fail
    go_returns;exact⟨by rw[V.out,decide_eq_false Y];rfl,rfl⟩
def zL(s:ByteArray):Option ByteArray:=if s.size=12/\rV (jL s.data.toList 0)=true then some ⟨(jL s.data.toList 0).toArray⟩else none
theorem BQ(l:List UInt8):(jL l 0).length<=l.length:=by
 unfold jL;rw[List.length_reverse];exact je (List.dropWhile_sublist _).length_le (kX List.length_reverse)
def Dy(s:ByteArray)(w:iH)(e:Ending)(w':iH):Prop:=e=lF (lD #[ll ((zL s).getD ⟨#[]⟩),lg lH (if(zL s).isSome then 0 else 3)])/\w'=w
theorem Sn{p:Prop}(h:p:=by
 clear hg hR;have hne:((s.size:Int) !=12)=false:=by simp[h1]
 clear h1;go_in;go_wp2_with fail;refine CT.out.mono ?_;rintro e w2 ⟨rfl,rfl⟩;go_wp2_with fail;refine CM.out.mono ?_;rintro e w3 ⟨rfl,rfl⟩;go_wp2_with fail;go_returns;rw[hG.out];exact⟨rfl,rfl⟩):p:=h
theorem Wo(s:ByteArray)(w:iH)(hs:s.size<=jb):iU iG 137 #[ll s] w (Dy s w):=by
 have A:s.size<=9223372036854775807:=by unfold jb at hs;omega
 have CT:=iF (Tryz.strings_TrimRight_one s 0 lM w A);have htl:(⟨(jL s.data.toList 0).toArray⟩:ByteArray).size<=jb:=by
  have h1:=BQ s.data.toList;have E:s.data.toList.length=s.size:=lU;have J:(⟨(jL s.data.toList 0).toArray⟩:ByteArray).size=(jL s.data.toList 0).length:=by simp[ByteArray.size]
  omega
 have CM:=iF (Oo ⟨(jL s.data.toList 0).toArray⟩ w htl);unfold Dy;obtain⟨R,hR⟩:∃R,Value.tuple #[ll ((zL s).getD ⟨#[]⟩),lg lH (if(zL s).isSome then 0 else 3)]=R:=⟨_,rfl⟩;rw[hR];have hg:zL s=if s.size=12/\rV (jL s.data.toList 0)=true then some ⟨(jL s.data.toList 0).toArray⟩else none:=rfl
 have CM:iW (iU iG 120 #[ll ⟨(jL s.data.toList 0).toArray⟩] w λe w'=>e=lF (lu (rV (jL s.data.toList 0)))/\w'=w):=CM;generalize zL s=G at*;generalize (⟨(jL s.data.toList 0).toArray⟩:ByteArray)=C at*;generalize rV (jL s.data.toList 0)=M at*;have CT:iW (iU iG 181 #[ll s,ll ⟨#[0]⟩] w λe w'=>e=lF (ll C)/\w'=w):=CT;by_cases h1:s.size=12
 .cases M with
  |true=>
   have hG:iW (R=lD #[ll C,lg lH 0]):=iF (by rw[<-hR,hg,if_pos ⟨h1,rfl⟩];rfl);exact Sn
  |false=>
   have hG:iW (R=lD #[ll ⟨#[]⟩,lg lH 3]):=iF (by rw[<-hR,hg,if_neg (λh=>by cases h.2)];rfl);exact Sn
 .have hG:iW (R=lD #[ll ⟨#[]⟩,lg lH 3]):=iF (by rw[<-hR,hg,if_neg (λh=>h1 h.1)];rfl)
  clear hg hR;have hne:((s.size:Int) !=12)=true:=lW;clear h1;go_in;go_wp2_with fail;refine CT.out.mono ?_;rintro e w2 ⟨rfl,rfl⟩;go_wp2_with fail;go_returns;rw[hG.out];exact⟨rfl,rfl⟩
end
section
def wT(x:UInt32)(n:Nat):UInt32:=UInt32.ofNat (x.toNat/2^n|||x.toNat*2^(32 - n) % 4294967296)
def shr(x:UInt32)(n:Nat):UInt32:=UInt32.ofNat (x.toNat/2^n)
def vg(x:UInt32)(a b c:Nat):UInt32:=wT x a^^^wT x b^^^shr x c
def Qg(x:UInt32)(a b c:Nat):UInt32:=wT x a^^^wT x b^^^wT x c
def yP(l:List UInt8)(i:Nat):UInt32:=
 UInt32.ofNat ((l.getD (4*i) 0).toNat*16777216+(l.getD (4*i+1) 0).toNat*65536+(l.getD (4*i+2) 0).toNat*256+(l.getD (4*i+3) 0).toNat)
theorem YN(n:Nat)(h:n<4294967296):(UInt32.ofNat n).toNat=n:=by
 show n % 2^32=n;exact Nat.mod_eq_of_lt h
theorem xq(x y:UInt32):((x.toNat:Int)+(y.toNat:Int)) % 4294967296=((x+y).toNat:Int):=by
 rw[UInt32.toNat_add];omega
theorem FL(x y:UInt32):bits BinOp.xor IntKind.u32 (x.toNat:Int) (y.toNat:Int)=((x^^^y).toNat:Int):=by
 rw[u32_xor_nat _ _ x.toNat_lt y.toNat_lt,UInt32.toNat_xor]
theorem a0M(x y:UInt32):bits BinOp.and IntKind.u32 (x.toNat:Int) (y.toNat:Int)=((x&&&y).toNat:Int):=by
 rw[u32_and_nat _ _ x.toNat_lt y.toNat_lt,UInt32.toNat_and]
theorem a0N(x:UInt32)(n:Nat):(x.toNat:Int)/2^n=((shr x n).toNat:Int):=by
 unfold shr;have h:=x.toNat_lt;have hp:=Nat.pow_pos (n:=n) (show 0<2 by decide);rw[YN _ (Nat.lt_of_le_of_lt (Nat.div_le_self _ _) h),Int.natCast_ediv];simp
theorem Wp(x:UInt32)(n:Nat):x.toNat/2^n|||x.toNat*2^(32 - n) % 4294967296<4294967296:=by
 have h:=x.toNat_lt;exact Nat.or_lt_two_pow (n:=32) (Nat.lt_of_le_of_lt (Nat.div_le_self _ _) h) (Nat.mod_lt _ lM)
theorem a0O(x:UInt32)(n:Nat):bits BinOp.or IntKind.u32 ((x.toNat:Int)*2^(32 - n) % 4294967296) ((x.toNat:Int)/2^n)=((wT x n).toNat:Int):=by
 have h:=x.toNat_lt;have e1:(x.toNat:Int)*2^(32 - n) % 4294967296=((x.toNat*2^(32 - n) % 4294967296:Nat):Int):=by
  rw[Int.natCast_emod,Int.natCast_mul,Int.natCast_pow];rfl
 have e2:(x.toNat:Int)/2^n=((x.toNat/2^n:Nat):Int):=by rw[Int.natCast_ediv,Int.natCast_pow];rfl
 rw[e1,e2,u32_or_nat _ _ (Nat.mod_lt _ lM) (Nat.lt_of_le_of_lt (Nat.div_le_self _ _) h)];unfold wT;rw[YN _ (Wp x n),Nat.or_comm]
def Oq(l:List UInt8)(w:List UInt32)(i:Nat):UInt32:=
 if i<16 then yP l i else w.getD (i - 16) 0+(vg (w.getD (i - 15) 0) 7 18 3+w.getD (i - 7) 0+vg (w.getD (i - 2) 0) 17 19 10)
def qJ(l:List UInt8):Nat->List UInt32
 |0=>[]
 |n+1=>qJ l n++[Oq l (qJ l n) n]
structure S8 where
 a:UInt32
 b:UInt32
 c:UInt32
 d:UInt32
 e:UInt32
 f:UInt32
 g:UInt32
 h:UInt32
 deriving DecidableEq
def Jy(s:S8)(k w:UInt32):UInt32:=s.h+Qg s.e 6 11 25+k+w+((s.e&&&s.f)^^^(~~~s.e&&&s.g))
def Ot(s:S8):UInt32:=Qg s.a 2 13 22+((s.a&&&s.b)^^^(s.a&&&s.c)^^^(s.b&&&s.c))
def Sq(s:S8)(k w:UInt32):S8:=⟨Jy s k w+Ot s,s.a,s.b,s.c,s.d+Jy s k w,s.e,s.f,s.g⟩
def Wq(s t:S8):S8:=⟨s.a+t.a,s.b+t.b,s.c+t.c,s.d+t.d,s.e+t.e,s.f+t.f,s.g+t.g,s.h+t.h⟩
def Sr:List UInt8:=[66,138,47,152,113,55,68,145,181,192,251,207,233,181,219,165,57,86,194,91,89,241,17,241,146,63,130,164,171,28,94,213,216,7,170,152,18,131,91,1,36,49,133,190,85,12,125,195,114,190,93,116,128,222,177,254,155,220,6,167,193,155,241,116,228,155,105,193,239,190,71,134,15,193,157,198,36,12,161,204,45,233,44,111,74,116,132,170,92,176,169,220,118,249,136,218,152,62,81,82,168,49,198,109,176,3,39,200,191,89,127,199,198,224,11,243,213,167,145,71,6,202,99,81,20,41,41,103,39,183,10,133,46,27,33,56,77,44,109,252,83,56,13,19,101,10,115,84,118,106,10,187,129,194,201,46,146,114,44,133,162,191,232,161,168,26,102,75,194,75,139,112,199,108,81,163,209,146,232,25,214,153,6,36,244,14,53,133,16,106,160,112,25,164,193,22,30,55,108,8,39,72,119,76,52,176,188,181,57,28,12,179,78,216,170,74,91,156,202,79,104,46,111,243,116,143,130,238,120,165,99,111,132,200,120,20,140,199,2,8,144,190,255,250,164,80,108,235,190,249,163,247,198,113,120,242]
def kN(i:Nat):UInt32:=yP Sr i
def vk:S8:=⟨1779033703,3144134277,1013904242,2773480762,1359893119,2600822924,528734635,1541459225⟩
def vX(l:List UInt8)(s:S8):Nat->S8
 |0=>s
 |n+1=>Sq (vX l s n) (kN n) ((qJ l 64).getD n 0)
def Jz(s:S8)(l:List UInt8):S8:=Wq s (vX l s 64)
def Ba(n:Nat):List UInt8:=128::(jY ((64 -(n+9) % 64) % 64) 0++(kI 8).map λi=>jl (n*8/256^(7 - i) % 256))
def Bb(A:S8->List UInt8->S8)(l:List UInt8):Nat->S8->S8
 |0,s=>s
 |k+1,s=>Bb A (l.drop 64) k (A s (l.take 64))
theorem JA(A:S8->List UInt8->S8)(l:List UInt8)(k:Nat)(s:S8):Bb A l (k+1) s=Bb A (l.drop 64) k (A s (l.take 64)):=rfl
def LW(l:List UInt8)(k:Nat)(s:S8):S8:=Bb Jz l k s
def su(x:UInt32):List UInt8:=[jl (x.toNat/16777216 % 256),jl (x.toNat/65536 % 256),jl (x.toNat/256 % 256),jl (x.toNat % 256)]
def S8.out(s:S8):List UInt8:=su s.a++su s.b++su s.c++su s.d++su s.e++su s.f++su s.g++su s.h
def Qh(l:List UInt8):List UInt8:=(LW (l++Ba l.length) ((l++Ba l.length).length/64) vk).out
end
section
open Go.RowKit
theorem LX(a b c d:UInt8):
  bits BinOp.or IntKind.u32 (bits BinOp.or IntKind.u32 (bits BinOp.or IntKind.u32 ((a.toNat:Int)*16777216) ((b.toNat:Int)*65536)) ((c.toNat:Int)*256)) (d.toNat:Int)=
   ((UInt32.ofNat (a.toNat*16777216+b.toNat*65536+c.toNat*256+d.toNat)).toNat:Int):=by
 have J:=a.toNat_lt;have hb:=b.toNat_lt;have hc:=c.toNat_lt;have hd:=d.toNat_lt;have e (x y:Nat):((x:Int)*(y:Int))=((x*y:Nat):Int):=(Int.natCast_mul x y).symm
 rw[show(16777216:Int)=((16777216:Nat):Int)from rfl,show(65536:Int)=((65536:Nat):Int)from rfl,show(256:Int)=((256:Nat):Int)from rfl,e,e,e,
  u32_or_nat _ _ lK lK]
 have A:a.toNat*16777216|||b.toNat*65536=a.toNat*16777216+b.toNat*65536:=by
  have:=kT (show b.toNat*65536<2^24 by omega) a.toNat;rw[Nat.mul_comm a.toNat];exact this.symm
 rw[A,u32_or_nat _ _ lK lK];have C:(a.toNat*16777216+b.toNat*65536)|||c.toNat*256=a.toNat*16777216+b.toNat*65536+c.toNat*256:=by
  have:=kT (show c.toNat*256<2^16 by omega) (a.toNat*256+b.toNat);rw[show 2^16*(a.toNat*256+b.toNat)=a.toNat*16777216+b.toNat*65536 by omega]at this;exact this.symm
 rw[C,u32_or_nat _ _ lK lK];have E:(a.toNat*16777216+b.toNat*65536+c.toNat*256)|||d.toNat=a.toNat*16777216+b.toNat*65536+c.toNat*256+d.toNat:=by
  have:=kT (show d.toNat<2^8 by omega) (a.toNat*65536+b.toNat*256+c.toNat);rw[show 2^8*(a.toNat*65536+b.toNat*256+c.toNat)=a.toNat*16777216+b.toNat*65536+c.toNat*256 by omega]at this;exact this.symm
 rw[E,YN _ lK]
theorem Su(s:ByteArray)(i:Nat)(h:4*i+4<=s.size):yP s.data.toList i=UInt32.ofNat (s[4*i].toNat*16777216+s[4*i+1].toNat*65536+s[4*i+2].toNat*256+s[4*i+3].toNat):=by
 have e:∀j (A:j<s.size),s.data.toList.getD j 0=s[j]:=by
  intro j A;have C:j<s.data.toList.length:=by rw[<-Lib.size_eq];exact A
  rw[ko,iZ C];rfl
 unfold yP;rw[e _ lK,e _ lK,e _ lK,e _ lK]
theorem JB(a b c d:UInt8):
  bits BinOp.or IntKind.u32 (bits BinOp.or IntKind.u32 (bits BinOp.or IntKind.u32 ((a.toNat:Int) % 4294967296*16777216 % 4294967296) ((b.toNat:Int) % 4294967296*65536 % 4294967296)) ((c.toNat:Int) % 4294967296*256 % 4294967296)) ((d.toNat:Int) % 4294967296)=
   ((UInt32.ofNat (a.toNat*16777216+b.toNat*65536+c.toNat*256+d.toNat)).toNat:Int):=by
 have A:=a.toNat_lt;have hb:=b.toNat_lt;have hc:=c.toNat_lt;have hd:=d.toNat_lt;rw[<-LX a b c d];congr 1
 .congr 1
  .congr 1<;>omega
  .omega
 .omega
theorem Qi(s:ByteArray)(i:Nat):yP (s.extract (4*i) (4*i+4)).data.toList 0=yP s.data.toList i:=by
 have e:∀j,j<4->(s.extract (4*i) (4*i+4)).data.toList.getD j 0=s.data.toList.getD (4*i+j) 0:=by
  intro j A;rw[Lib.extract_data,ko,ko,List.getElem?_take_of_lt lK,List.getElem?_drop]
 unfold yP;rw[e _ lK,e _ lK,e _ lK,e _ lK];rfl
theorem JC(s:ByteArray)(i:Nat)(w:iH)(hi:4*i+4<=s.size)(hs:s.size<=1000):
  iU iG 273 #[ll s,lg lH i] w λe w'=>e=lF (lg lJ (yP s.data.toList i).toNat)/\∃n,w'=w.drewN n:=by
 have E:(s.extract (4*i) (4*i+4)).size=4:=by rw[ja];omega
 have A:=Su (s.extract (4*i) (4*i+4)) 0 lK;rw[Qi]at A;go_in;have C:=iF A;clear A;go_wp2_with fail;go_quiet (fail);go_wp2_with fail;go_returns;exact⟨by rw[C.out,<-JB];rfl,_,rfl⟩
theorem YO(x:UInt32)(n:Nat)(w:iH)(E:1<=n)(J:n<=31):
  iU iG 292 #[lg lJ x.toNat,lg lH (-(n:Int))] w λe w'=>e=lF (lg lJ (wT x n).toNat)/\w=w':=by
 have N:=x.toNat_lt;have A:=iF (a0O x n);have e1:bits BinOp.and IntKind.u64 (IntKind.u64.wrap (-(n:Int))) 31=((32 - n:Nat):Int):=by
  have C:IntKind.u64.wrap (-(n:Int))=((18446744073709551616 - n:Nat):Int):=by
   rw[IntKind.wrap_u64];omega
  rw[C,show(31:Int)=((31:Nat):Int)from rfl,u64_and_nat _ _ lK lM];congr 1;rw[show(31:Nat)=2^5 - 1 from rfl,Nat.and_two_pow_sub_one_eq_mod];omega
 go_in;go_wp2_with fail;go_returns;refine⟨congrArg (λz=>jP (Value.int lJ z)) ?_,rfl⟩;rw[<-A.out,show 32 -(32 - n)=n by omega]
theorem vE(x:UInt32)(n:Nat)(w:iH)(A:1<=n)(C:n<=31):
  iU iG 285 #[lg lJ x.toNat,lg lH n] w λe w'=>e=lF (lg lJ (wT x n).toNat)/\w=w':=by
 have c1:=iF (YO x n w A C);have E:=x.toNat_lt;go_in;go_wp2_with fail;refine c1.out.mono ?_;rintro e w' ⟨rfl,rfl⟩;go_wp2_with fail;go_returns;exact⟨rfl,rfl⟩
theorem LY{P:kg}{f:FuncId}{args:Array iJ}{w:iH}{n:Nat}{v:iJ}(h:iU P f args (w.drewN n) λe w'=>e=lF v/\w.drewN n=w'):iU P f args (w.drewN n) λe A=>e=lF v/\∃m,A=w.drewN m:=
 h.mono λ_ _ ⟨he,C⟩=>⟨he,n,C.symm⟩
theorem LZ(x:UInt32)(a b c:Nat)(w:iH)(A:1<=a/\a<=31)(hb:1<=b/\b<=31)(hc:1<=c/\c<=31):
  iU iG 275 #[lg lJ x.toNat,lg lH a,lg lH b,lg lH c] w λe w'=>e=lF (lg lJ (Qg x a b c).toNat)/\w=w':=by
 have c1:=iF (vE x a w A.1 A.2);have c2:=iF (vE x b w hb.1 hb.2);have c3:=iF (vE x c w hc.1 hc.2);have C:=iF (FL (wT x a) (wT x b));have E:=iF (FL (wT x a^^^wT x b) (wT x c));clear A hb hc;go_in;go_wp2_with fail;refine c1.out.mono ?_;rintro e w' ⟨rfl,rfl⟩;go_wp2_with fail;refine c2.out.mono ?_;rintro e w' ⟨rfl,rfl⟩;go_wp2_with fail;refine c3.out.mono ?_;rintro e w' ⟨rfl,rfl⟩;go_wp2_with fail;go_returns;refine⟨congrArg (λz=>jP (Value.int lJ z)) ?_,rfl⟩;rw[C.out,E.out];rfl
theorem G6(x:UInt32)(a b c:Nat)(w:iH)(A:1<=a/\a<=31)(hb:1<=b/\b<=31)(hc:1<=c/\c<=31):
  iU iG 284 #[lg lJ x.toNat,lg lH a,lg lH b,lg lH c] w λe w'=>e=lF (lg lJ (vg x a b c).toNat)/\∃n,w'=w.drewN n:=by
 have c1:=iF (λw=>vE x a w A.1 A.2);have c2:=iF (λw=>vE x b w hb.1 hb.2);have C:=iF (FL (wT x a) (wT x b));have E:=iF (FL (wT x a^^^wT x b) (shr x c));have J:=iF (a0N x c);have Z:=x.toNat_lt;obtain⟨N,O⟩:=hc;obtain⟨Q,U⟩:=A;obtain⟨V,Y⟩:=hb;clear c1 c2;go_in;go_wp2_with fail;go_quiet ((go_at_call 285;exact LY (vE x _ _ lK lK)));go_wp2_with fail;go_returns;refine⟨congrArg (λz=>jP (Value.int lJ z)) ?_,_,rfl⟩;rw[C.out,J.out,E.out];rfl
def YP{C:Type}(B:Nat)(E:C->iH->Prop):Prop:=
 ∀s W A row,E s W->W.grownBy A row->(∀r,row=some r->B<=r)->E s A
def I7(E:Nat)(W A:iH):Prop:=W.heap.size<=A.heap.size/\∀k cs t m,E<=k->W.heap[k]? =some (lG cs t m)->A.heap[k]? =some (lG cs t m)
theorem I7.trans{E:Nat}{A B C:iH}(h:I7 E A B)(k:I7 E B C):I7 E A C:=⟨je h.1 k.1,λi cs t m hi hc=>k.2 i cs t m hi (h.2 i cs t m hi hc)⟩
theorem I7.refl(E:Nat)(W:iH):I7 E W W:=⟨iI _,λ_ _ _ _ _ h=>h⟩
theorem I7.put{E:Nat}{W:iH}{l:Nat}{o:Obj}(A:Obj)(h:W.heap[l]? =some o)(ho:o.isCells=false):I7 E W (W.putObj l A):=by
 have hl:=(jk.1 h).1;refine⟨(grownBy_putObj' W l A).size,λk cs t m _ hc=> ?_⟩;have C:k≠l:=by
  intro e;subst e;rw[h]at hc;cases hc;simp[Obj.isCells]at ho
 rw[(grownBy_putObj' W l A).block k (jk.1 hc).1 (by simpa using C)];exact hc
def JD(F:Fence)(n:Nat)(P:kg)(g:Nat)(lb:Array iJ)(encs:Nat->Array iJ)(J:iH->iH->Prop)(N:Nat)(w:iH):Prop:=
 ∀(l:Nat)(E:Nat->iH->Prop)(W:iH),iK w.heap.size w W->YP W.heap.size E->
  (∀k C,k<N->E k C->YieldAt F (n - 1) P l (encs k) C λe A=>e=lF (lu true)/\E (k+1) A/\J C A)->
  E 0 W->CallsIn F n P g (#[.func (.yield l) #[] #[]]++lb) W λe A=>(∃v,e=lF v)/\E N A
variable {F:Fence}{n:Nat}{P:kg}
def a0P(B E:Nat)(I:Nat->iH->Prop)(k:Nat)(W:iH):Exit->Act->iH->Prop:=
 λe _ A=>e=.normal/\KeepsFrom B W A/\I7 E W A/\I k A
theorem Bc{g:Operand}{ps:Array Tmp}{assign body:Code}{Q:Exit->Act->iH->Prop}{a:Act}{w:iH}(au:F.round=none)(aB:1<=n){gf:Nat}{lb:Array iJ}(hg:a.eval g=.func (.func gf) #[] lb)(av:F.fn gf)(eg:∀args w,(callFunc gf args).run P w=.ok (.enter gf args) w){encs:Nat->Array iJ}{E N:Nat}{w0:iH}(ai:JD F (n - 1) P gf lb encs (I7 E) N w0)(hb0:iK w0.heap.size w0 w)(ax:∀k,(encs k).size=ps.size)(I:Nat->iH->Prop)(hI:YP w.heap.size I)(h0:I 0 w)(L6:∀(l k:Nat) (W:iH),k<N->I k W->assign.wpIn (F.inRound l) (n - 1 - 1) P (Exit.then (λZ aa=>aa=W/\∀af,I k af->body.wpIn (F.inRound l) (n - 1 - 1) P (a0P w.heap.size E I (k+1) af) Z af) (λ_ _ _=>False))
   {tmps:=(ps.zip (encs k)).foldl (λt (p,v)=>t.setIfInBounds p v) a.tmps,defers:=[]} W)(hdone:∀(D:Nat) (W:iH),w.heap.size<=D->I N W->W.heap[D]? =some (.deferred (some []))->Q .normal {a with defers:={target:=.collected D,args:=#[]}::a.defers} W):
  (Code.rangeFunc g ps assign body).wpIn F n P Q a w:=by
 refine wpIn_rangeFunc λfn ay=> ?_
 rw[au];generalize C:(λst=>({state:=st,pending:=none,fn,tmps:=a.tmps,params:=ps,assign,body,defers:=w.heap.size}:Loop))=rec;have ag:∀st,(rec st).state=st:=λst=>by rw[<-C]
 generalize U:(w.alloc (.deferred (some []))).alloc (.loop (rec .ready))=O;have aO:O.heap.size=w.heap.size+2:=by rw[<-U];simp
 have aC:O.heap[w.heap.size+1]? =some (.loop (rec .ready)):=by
  rw[<-U];have:=World.alloc_heap_new (w.alloc (.deferred (some []))) (.loop (rec .ready));rwa [World.size_alloc]at this
 have aD:O.heap[w.heap.size]? =some (.deferred (some [])):=by
  rw[<-U];exact(Below.heap_alloc _ _ _ lU).trans (World.alloc_heap_new w _)
 have aF:I 0 O:=by
  rw[<-U];exact hI _ _ _ none (hI _ _ _ none h0 (World.grownBy_alloc w _ none) (λ_ h=>by cases h)) (World.grownBy_alloc _ _ none) (λ_ h=>by cases h)
 have b1:iK w0.heap.size w0 O:=by
  rw[<-U];exact hb0.trans ((((iL _ w).alloc (iI _) _).alloc lU _).mono hb0.size)
 refine⟨w.heap.size+1,[{target:=.collected w.heap.size,args:=#[]}],O,{target:=.fn (.func gf) lb,args:=#[.func (.yield (w.heap.size+1)) #[] #[]]},O,gf,
  #[.func (.yield (w.heap.size+1)) #[] #[]]++lb,O,?_,?_,?_,?_,λ_=>aB,?_⟩
 .rw[<-U,<-C];exact run_enterLoop_outer _ _ _ _ _
 .simp only[resolve,hg]
  simp[go_sem]
 .intro aP ah;simp[Target.leads]at ah;subst ah;exact av
 .simp[invoke,go_sem,eg]
 .
  have keep:∀{A B:iH}{row:Option Nat}{j:Nat}{o:Obj},A.grownBy B row->(∀r,row=some r->O.heap.size<=r)->j<O.heap.size->A.heap[j]? =some o->B.heap[j]? =some o:=by
   intro A B row j o V Y aQ ho;rw[V.block j (jk.1 ho).1 (λe=>by have:=Y j e.symm;omega)];exact ho
  refine(ai (w.heap.size+1) (λk W=>I k W/\W.heap[w.heap.size+1]? =some (.loop (rec .ready))/\W.heap[w.heap.size]? =some (.deferred (some []))) O b1
   (λs A B row hs V Y=>⟨hI s A B row hs.1 V (λr e=>by have:=Y r e;omega),keep V Y lK hs.2.1,keep V Y lK hs.2.2⟩) ?_ ⟨aF,aC,aD⟩).mono ?_
  .rintro k W hk ⟨hi,hl,hd⟩
   have az:=run_yield (P:=P) (args:=encs k) hl (by rw[<-C];exact ax k);rw[<-C]at az
   have put:∀{W:iH}{st:LoopState}(J:LoopState){k:Nat},W.heap[w.heap.size+1]? =some (.loop (rec st))->W.heap[w.heap.size]? =some (.deferred (some []))->I k W->
     (W.putObj (w.heap.size+1) (.loop (rec J))).heap[w.heap.size+1]? =some (.loop (rec J))/\(W.putObj (w.heap.size+1) (.loop (rec J))).heap[w.heap.size]? =some (.deferred (some []))/\
      I k (W.putObj (w.heap.size+1) (.loop (rec J))):=by
    intro W st J k hl hd hi;exact⟨World.putObj_heap_same (jk.1 hl).1,(World.putObj_heap_other lK).trans hd,hI _ _ _ (some (w.heap.size+1)) hi (grownBy_putObj' _ _ _) (λr e=>by cases e;omega)⟩
   have aj:∀st J,({rec st with state:=J}:Loop)=rec J:=λst J=>by rw[<-C]
   refine⟨fn,_,assign,body,az,roundIn_of_wpIn ay (wpIn_mono (L6 _ k W hk hi) ?_)⟩;rintro e Z aa hp;cases e with
   |normal=>
    obtain⟨rfl,hb⟩:=hp;obtain⟨aG,aH,aI⟩:=put .busy hl hd hi;refine⟨_,run_beginRound hl (ag _),?_⟩;rw[aj];refine wpIn_mono (hb _ aI) ?_;rintro e a3 W3 ⟨rfl,aA,c3,aJ⟩;have ak:=aA.same _ _ lK aG rfl;have aK:=aA.same _ _ (iI _) aH rfl;obtain⟨aL,aM,aN⟩:=put .ready ak aK aJ;have Y:=run_endRound (P:=P) none ak;refine⟨_,_,Y,?_⟩;have e4:({rec .busy with state:=if(none:Option Code).isNone then .ready else .done,pending:=none}:Loop)=rec .ready:=by rw[<-C];rfl
    rw[e4];exact⟨rfl,⟨aN,aL,aM⟩,((I7.put _ hl rfl).trans c3).trans (I7.put _ ak rfl)⟩
   |ret=>exact hp.elim
   |exit id=>exact hp.elim
   |goto t=>exact hp.elim
   |panic c=>exact hp.elim
   |outgrown=>exact hp.elim
  .rintro e af ⟨⟨v,rfl⟩,hi,hl,hd⟩
   have ae:=run_endLoop (P:=P) hl (by rw[ag];simp);have e5:(rec .ready).pending=none:=by rw[<-C]
   rw[e5]at ae;exact⟨none,_,ae,hdone _ _ (iI _) (hI _ _ _ (some (w.heap.size+1)) hi (grownBy_putObj' _ _ _) (λr e=>by cases e;omega)) ((World.putObj_heap_other lK).trans hd)⟩
variable {P:kg}{ops:Array kH}{Q:Exit->Act->iH->Prop}{md:Region.Mode}{n:Nat}
theorem a0Q(l:Nat){o:kH}{a:Act}{K:Act->iH->Prop}:∀ r:Result Next,o.upon P a K Q r->o.uponIn (Fence.wide.inRound l) n P a K Q r
 | .ok (.value v) w',h=>h
 | .ok .skip w',h=>h
 | .ok (.defer d) w',h=>h
 | .ok (.enter f args) w',h=>⟨(λh=>by cases h),CallsIn.inRound l (callsIn_wide.2 h)⟩
 | .ok (.row row args) w',h=>⟨(λh=>by cases h),λc cs _=>by
   obtain⟨v,w2,A,hs⟩:=h c cs;exact⟨v,w2,A,stepsIn_wide.2 hs⟩⟩
 | .ok (.round _ _ _ _ _) w',h=>h.elim
 | .halt (.panic v) w',h=>h
 | .halt (.exit _) w',h=>h.elim
 | .halt (.stuck _) w',h=>h.elim
 | .halt (.unsupported _) w',h=>h.elim
theorem a0R(l:Nat)(hd:∀(i:Nat) (o:kH) c,ops[i]? =some o->o.op≠.defer c)(hL:¬LetsOut Q){K C:Act->iH->Prop}(E:∀a w,K a w->C a w){i:Nat}{a:Act}{w:iH}(h:wpOp P ops Q i K a w):
  wpOpIn (Fence.wide.inRound l) n P ops Q i C a w:=by
 refine wpOpIn_mono E ?_;unfold wpOp at h;unfold wpOpIn;split;.rename_i ho;simp only[ho]at h;exact h
 .rename_i o ho
  simp only[ho]at h;split
  .rename_i A
   simp only[A,if_true]at h;rcases h with h|⟨_,h⟩
   .refine⟨λ_ _=>trivial,?_⟩
    rw[Oper.semAt_plain _ _ _ (λc=>hd i o c ho)];exact a0Q l _ h
   .exact absurd h hL
  .rename_i A
   simp only[A]at h;exact⟨λ_ _=>trivial,h⟩
theorem Sv(l:Nat)(hd:∀(i:Nat) (o:kH) c,ops[i]? =some o->o.op≠.defer c)(hL:¬LetsOut Q):∀(fuel:Nat)(A:Array Bool)(a:Act)(w:iH),wpAny P md ops Q fuel A a w->
  wpAnyIn (Fence.wide.inRound l) n P md ops Q fuel A a w
 |0,_,_,_,h=>h
 |fuel+1,A,a,w,h=>⟨h.1,λi hi=>a0R l hd hL (λC w' E=>Sv l hd hL fuel _ C w' E) (h.2 i hi)⟩
def JE(ops:Array kH):Bool:=ops.all λo=>match o.op with| .defer _=>false|_=>true
theorem Fa(h:JE ops=true)(i:Nat)(o:kH)(c:Call)(ho:ops[i]? =some o):o.op≠.defer c:=by
 intro e;have A:=Array.all_eq_true.1 h i (jk.1 ho).1;rw[(jk.1 ho).2,e]at A;cases A
theorem Bd{id:Nat}{a:Act}{w:iH}{l:List kH}(r:Nat)(J:P.follows .mixedOrders=true)(hB:Region.lexB .any l.toArray=true)(hd:JE l.toArray=true)(hL:¬LetsOut Q)(h:wpQuiet P l.toArray (λw'=>∃k,w'=w.drewN k) (λA=>∀k,Q .normal A (w.drewN k)) l a):(jJ id l.toArray true).wpIn (Fence.wide.inRound r) n P Q a w:=by
 refine wpIn_region_any J (Sv r (Fa hd) hL _ _ _ _ ?_);have e:(λA:Act=>∀k,Q .normal A (w.drewN k))=λA=>∀w',(∃k,w'=w.drewN k)->Q .normal A w':=by
  funext A;exact propext ⟨λh w' ⟨k,hk⟩=>hk▸h k,λh k=>h _ ⟨k,rfl⟩⟩
 rw[e]at h;simp only[Region.lexB,iY]at hB;refine wpAny_of_quiet (C:=λw'=>∃k,w'=w.drewN k) (Q:=λA=>∀w',(∃k,w'=w.drewN k)->Q .normal A w') (λ_ w' E h=>h w' E) _ _ _ _ ⟨1,rfl⟩ ?_;have:=wpAnyQ_lex (C:=λw'=>∃k,w'=w.drewN k) (md:=.any) hB.1 l 0 (jQ l.toArray.size false) a lU (by simpa using hB.2) h;simpa using this
end
section
open Go.RowKit Go.Shelf
attribute [local go_sem] Oper.semAt_some
def wS(l:List UInt8)(i:Nat):UInt32:=(qJ l 64).getD i 0
theorem rG(l:List UInt8):∀n,(qJ l n).length=n
 |0=>rfl
 |n+1=>by rw[qJ,jv,rG l n];rfl
theorem BR(l:List UInt8)(i n:Nat)(h:i<n):∀m,(qJ l (n+m)).getD i 0=(qJ l n).getD i 0
 |0=>rfl
 |m+1=>by
  rw[<-BR l i n h m,show n+(m+1)=(n+m)+1 by omega,qJ,ko,ko,List.getElem?_append_left (by rw[rG];omega)]
theorem JF(l:List UInt8)(n i:Nat)(h:i<n)(hn:n<=64):(qJ l n).getD i 0=wS l i:=by
 unfold wS;have:=BR l i n h (64 - n);rw[show n+(64 - n)=64 by omega]at this;exact this.symm
theorem Ou(l:List UInt8)(i:Nat)(h:i<64):wS l i=Oq l (qJ l i) i:=by
 rw[<-JF l (i+1) i lK lK,qJ,ko,List.getElem?_append_right (by rw[rG];omega),rG];simp
theorem a0S(l:List UInt8)(i:Nat)(h:i<16):wS l i=yP l i:=by rw[Ou l i lK,Oq,if_pos h]
theorem a0T(l:List UInt8)(i:Nat)(h:16<=i)(A:i<64):wS l i=wS l (i - 16)+(vg (wS l (i - 15)) 7 18 3+wS l (i - 7)+vg (wS l (i - 2)) 17 19 10):=by
 rw[Ou l i A,Oq,if_neg lK,JF l i _ lK lK,JF l i _ lK lK,JF l i _ lK lK,JF l i _ lK lK]
def wL(l:Nat->UInt32):Nat->Array iJ
 |0=>jQ 16 (lg lJ 0)
 |k+1=>(wL l k).setIfInBounds (k % 16) (lg lJ ((l k).toNat:Int))
theorem zi(l:Nat->UInt32):∀k,(wL l k).size=16
 |0=>rfl
 |k+1=>by rw[wL,Array.size_setIfInBounds,zi l k]
theorem ui(l:Nat->UInt32):∀ k m:Nat,m<k->k<=m+16->(wL l k)[m % 16]? =some (lg lJ ((l m).toNat:Int))
 |0,m,h,_=>by omega
 |k+1,m,h,A=>by
  rw[wL];by_cases e:m=k
  .subst e
   rw[Array.getElem?_setIfInBounds_self,if_pos (by rw[zi];omega)]
  .rw[Array.getElem?_setIfInBounds_ne lK]
   exact ui l k m lK lK
theorem Qj(l:Nat->UInt32)(k j:Nat)(h:j<16):∃v,(wL l k)[j]? =some v:=⟨_,Array.getElem?_eq_getElem (by rw[zi];exact h)⟩
theorem Sw{P:kg}{F:Fence}{n:Nat}{c:Code}{Q:Exit->Act->iH->Prop}{a:Act}{W:iH}(R:iH->Prop)(A:R W)(h:∀w,R w->c.wpIn F n P Q a w):c.wpIn F n P Q a W:=h W A
theorem YP.drewN{A:Type}{B:Nat}{C:A->iH->Prop}(h:YP B C){k:A}{w:iH}(hk:C k w)(m:Nat):C k (w.drewN m):=h _ _ _ none hk ⟨rfl,rfl,rfl,iI _,λ_ _ _=>rfl⟩ (λ_ e=>by cases e)
theorem YP.set{A:Type}{B:Nat}{C:A->iH->Prop}(h:YP B C){k:A}{w:iH}(hk:C k w){b:Nat}(hb:B<=b)(i:Nat)(v:iJ):C k (w.setCell ⟨b,i,none⟩ v):=
 h _ _ _ (some b) hk ⟨rfl,rfl,rfl,by simp[jf],λj _ E=>iX _ _ _ _ (λe=>E (by rw[e]))⟩ (λ_ e=>by cases e;exact hb)
theorem Ws(f:FuncId):Fence.wide.fn f:=trivial
theorem Dz(n:Nat):Fence.wide.depth.isSome=true->1<=n:=λh=>Bool.noConfusion h
def Sy(l:Nat->UInt32)(k:Nat):Array iJ:=#[lg lH (k:Int),lg lJ ((l k).toNat:Int)]
theorem Qk(x:UInt32)(p q r:Int)(w:iH)(hp:1<=p/\p<=31)(A:1<=q/\q<=31)(C:1<=r/\r<=31):
  iU iG 284 #[lg lJ x.toNat,lg lH p,lg lH q,lg lH r] w λe w'=>e=lF (lg lJ (vg x p.toNat q.toNat r.toNat).toNat)/\∃n,w'=w.drewN n:=by
 have h:=G6 x p.toNat q.toNat r.toNat w lK lK lK;rwa [show((p.toNat:Nat):Int)=p by omega,show((q.toNat:Nat):Int)=q by omega,show((r.toNat:Nat):Int)=r by omega]at h
theorem Sz{p:Prop}(h:p:=by
 refine Sw (λW2=>J k W2/\lN W2 B (wL wv (k+1)) 314/\lN W2 Bs #[ll s] 9) ⟨hJ.set (hJ.drewN hJs _) a2f _ _,(hR.drewN _).set _ _,(hS.drewN _).setOther hne _⟩ ?_;rintro W1 ⟨hJ1,hR1,hS1⟩;obtain⟨fn,tmps,assign,body,hy,hR'⟩:=hY k W1 hlt hJ1;unfold Sy at hy;have hc1:W1.cell? ⟨B,k % 16,none⟩=some (lg lJ ((wv k).toNat:Int)):=(hR1.cell _).trans (ui _ _ _ lK lK)
 gi_wp2
 refine⟨Dz _,hR'.mono ?_⟩;rintro e W3 ⟨rfl,hJ3,hK3⟩
 gi_wp2
 go_roundw;case rel=>exact⟨k+1,lK,by go_num,hJ3,hK3.2 _ _ _ _ lK hR1,hK3.2 _ _ _ _ hE hS1⟩
 case measure=>simp[jA];omega):p:=h
theorem L8(n l Bs E:Nat)(s:ByteArray)(wv:Nat->UInt32)(hw1:∀(k:Nat) (w:iH),k<16->iU iG 273 #[ll s,lg lH k] w λe w'=>e=lF (lg lJ (wv k).toNat)/\∃n,w'=w.drewN n)(hw2:∀k,16<=k->k<64->wv k=wv (k - 16)+(vg (wv (k - 15)) 7 18 3+wv (k - 7)+vg (wv (k - 2)) 17 19 10))(J:Nat->iH->Prop)(W:iH)(hJ:YP W.heap.size J)(hY:∀k W1,k<64->J k W1->YieldAt Fence.wide (n - 1) iG l (Sy wv k) W1 λe N=>e=lF (lu true)/\J (k+1) N/\I7 E W1 N)(hE:E<=Bs)(oL:lN W Bs #[ll s] 9)(h0:J 0 W):
  CallsIn Fence.wide n iG 283 #[.func (.yield l) #[] #[],lq (some ⟨Bs,0,none⟩)] W λe N=>(∃v,e=lF v)/\J 64 N:=by
 have aa:Fence.wide.round=none:=rfl;have ae:=iF hw1;have af:=iF hw2;clear hw1 hw2;obtain⟨B,hB⟩:=lV W.heap.size;have ay:Bs<B:=by rw[<-hB];exact oL.lt
 refine callsIn_of_wp Tryz.func283 rfl trivial ?_ aa;simp only[Tryz.ntmps283,kV,jm,List.length_nil,Nat.reduceAdd,Nat.reduceSub,Array.replicate_succ,Array.replicate_zero,List.push_toArray,List.append_toArray,List.nil_append,List.cons_append]
 gi_wp2
 have ag:lN (W.alloc (lG (wL wv 0) 314)) B (wL wv 0) 314:=by rw[<-hB];exact lN.new _ _ _
 have ah:=hJ _ _ _ none h0 (World.grownBy_alloc W (lG (wL wv 0) 314) none) (λ_ h=>by cases h);have Q:=oL.alloc (lG (wL wv 0) 314)
 gi_loopw [6] (λi wr=>∃k:Nat,k<=64/\i=lg lH k/\J k wr/\lN wr B (wL wv k) 314/\lN wr Bs #[ll s] 9) (λi _=>64 -(jA i).toNat)
 case atStart=>exact⟨0,lK,rfl,ah,ag,Q⟩
 case round=>
  obtain⟨k,hk,rfl,hJs,hR,hS⟩:=hrel;by_cases hlt:k<64
  .have A:=hS.cell 0
   have A:wr.cell? ⟨Bs,0,none⟩=some (ll s):=A;have hne:Bs≠B:=lK;have a2f:W.heap.size<=B:=lK;obtain⟨v0,O⟩:=Qj wv k (k % 16) lK;have ai:wr.cell? ⟨B,k % 16,none⟩=some v0:=(hR.cell _).trans O;have aD:=hR.free (k % 16);by_cases aj:k<16
   .have az:=iF (λw=>ae.out k w aj)
    gi_upto_region 8 with(refine⟨trivial,?_⟩;gi_at_call 273;skip)
    refine⟨Ws _,Dz _,CallsIn.mono (callsIn_wide.2 (az.out _)) ?_⟩;rintro e w' ⟨rfl,nq,rfl⟩
    gi_upto_region 8 with(fail)
    exact Sz
   .have U:=ui wv k (k - 16) lK lK
    have e1:=ui wv k (k - 15) lK lK;have V:=ui wv k (k - 7) lK lK;have C:=ui wv k (k - 2) lK lK;rw[show(k - 16) % 16=k % 16 by omega]at U;rw[show(k - 15) % 16=(k+1) % 16 by omega]at e1;rw[show(k - 7) % 16=(k+9) % 16 by omega]at V;rw[show(k - 2) % 16=(k+14) % 16 by omega]at C;have l0:=(hR.cell (k % 16)).trans U;have aH:=(hR.cell ((k+1) % 16)).trans e1;have aI:=(hR.cell ((k+9) % 16)).trans V;have aF:=(hR.cell ((k+14) % 16)).trans C;have hw2:=af.out k lK lK;generalize ak:wv (k - 16)=aA at*;generalize au:wv (k - 15)=aB at*;generalize av:wv (k - 7)=aC at*;generalize Y:wv (k - 2)=ax at*;have Z:=iF hw2;clear hw2 U e1 V C ak au av Y ai A O
    gi_upto_region 7 with(refine⟨trivial,?_⟩;skip)
    refine wpIn_wide.2 (oC 24 lQ lQ ?_);simp only[ji,jC,kU,List.drop_zero];repeat(go_big_quiet_step (exact Calls.quiet_of (Qk _ _ _ _ _ lM lM lM)))
    refine kS ?_;intro aG;go_wp2;have hval:(((aA.toNat:Int)+(((vg aB 7 18 3).toNat:Int)+(aC.toNat:Int)+((vg ax 17 19 10).toNat:Int))) % 4294967296)=((wv k).toNat:Int):=by
     rw[Z.out,<-xq,<-xq,<-xq];omega
    rw[hval];exact Sz
  .obtain rfl:k=64:=lK
   gi_wp2
   go_end0;exact⟨⟨_,rfl⟩,hJs⟩
def a0U(b:Nat):iJ:=.func (.func 283) #[] #[lq (some ⟨b,0,none⟩)]
theorem L9(s:ByteArray)(w:iH):
  iU iG 274 #[ll s] w λe w'=>∃b,e=lF (a0U b)/\w.heap.size<=b/\iK w.heap.size w w'/\lN w' b #[ll s] 9:=by
 go_in;go_wp2_with fail;go_returns;exact⟨_,rfl,iI _,(iL _ _).alloc (iI _) _,lN.new _ _ _⟩
theorem Ma(n Bs E:Nat)(s:ByteArray)(w:iH)(hs:s.size=64)(J:E<=Bs)(hB:lN w Bs #[ll s] 9):
  JD Fence.wide n iG 283 #[lq (some ⟨Bs,0,none⟩)] (Sy (wS s.data.toList)) (I7 E) 64 w:=by
 intro l Q W hb N O h0;exact L8 n l Bs E s (wS s.data.toList) (λk w hk=>by
  rw[a0S _ _ hk];exact JC s k w lK lK) (λk A C=>a0T _ _ A C) Q W N O J (Below.blk hb hB hB.lt) h0
end
section
open Go.RowKit
section fold
variable {σ:Type}(step:σ->Nat×Nat->Nat->σ)
def nM(f:Nat->Option Nat):List (Nat×Nat)->σ->σ
 |[],s=>s
 |p::r,s=>nM f r (match f p.1 with|some b=>step s p b|none=>s)
def upd(f:Nat->Option Nat)(i b:Nat):Nat->Option Nat:=λj=>if j=i then some b else f j
variable {step}
theorem zk(hc:∀s p q b c,p.1≠q.1->p.2≠q.2->step (step s p b) q c=step (step s q c) p b)(f:Nat->Option Nat)(p:Nat×Nat)(b:Nat):
  ∀(l:List (Nat×Nat))(s:σ),(∀q∈l,p.1≠q.1/\p.2≠q.2)->nM step f l (step s p b)=step (nM step f l s) p b
 |[],s,_=>rfl
 |q::r,s,h=>by
  have C:=h q lU;rw[nM,nM];cases E:f q.1 with
  |none=>exact zk hc f p b r s λx A=>h x (by simp[A])
  |some c=>
   show nM step f r (step (step s p b) q c)=step (nM step f r (step s q c)) p b;rw[hc s p q b c C.1 C.2];exact zk hc f p b r _ λx A=>h x (by simp[A])
theorem uR(f g:Nat->Option Nat):∀(l:List (Nat×Nat))(s:σ),(∀q∈l,f q.1=g q.1)->nM step f l s=nM step g l s
 |[],s,_=>rfl
 |q::r,s,h=>by
  rw[nM,nM,h q lU];exact uR f g r _ λx A=>h x (by simp[A])
theorem Be(hc:∀s p q b c,p.1≠q.1->p.2≠q.2->step (step s p b) q c=step (step s q c) p b)(f:Nat->Option Nat)(p:Nat×Nat)(b:Nat)(C:f p.1=none):
  ∀(l:List (Nat×Nat))(s:σ),l.Pairwise (λx y=>x.1≠y.1/\x.2≠y.2)->p∈l->step (nM step f l s) p b=nM step (upd f p.1 b) l s
 |[],s,_,h=>by cases h
 |q::r,s,hl,h=>by
  rw[List.pairwise_cons]at hl;rcases kD.1 h with rfl|E
  .have A:∀x∈r,p.1≠x.1/\p.2≠x.2:=hl.1
   rw[nM,nM,C];have e:upd f p.1 b p.1=some b:=by simp[upd]
   rw[e];show step (nM step f r s) p b=nM step (upd f p.1 b) r (step s p b);rw[<-zk hc f p b r s A];refine uR _ _ r _ λx J=> ?_
   have:=(A x J).1;unfold upd;rw[if_neg (Ne.symm this)]
  .have A:=hl.1 p E
   rw[nM,nM];have e:upd f p.1 b q.1=f q.1:=by unfold upd;rw[if_neg A.1]
   rw[e];exact Be hc f p b C r _ hl.2 E
end fold
def DC(a:Act)(p:Nat×Nat)(b:Nat):Act:=a.put (some p.2) (lq (some ⟨b,0,none⟩))
def vY(L:Array Bool)(p:Nat×Nat)(b:Nat):Array Bool:=L.setIfInBounds p.1 true
theorem Ql(s:Act)(p q:Nat×Nat)(b c:Nat)(C:p.1≠q.1)(A:p.2≠q.2):DC (DC s p b) q c=DC (DC s q c) p b:=by
 unfold DC;exact(Act.put_comm s _ _ (λd hd=>by cases hd;simpa using λe=>A e)).symm
theorem Qm(s:Array Bool)(p q:Nat×Nat)(b c:Nat)(A:p.1≠q.1)(C:p.2≠q.2):vY (vY s p b) q c=vY (vY s q c) p b:=by
 unfold vY;exact Array.setIfInBounds_comm _ _ A
theorem zM(f:Nat->Option Nat)(d:Bool)(j:Nat):∀(l:List (Nat×Nat))(L:Array Bool),(∀p∈l,p.1=j->f p.1=none)->(nM vY f l L).getD j d=L.getD j d
 |[],L,_=>rfl
 |p::r,L,h=>by
  rw[nM,zM f d j r _ λx A=>h x (by simp[A])];cases C:f p.1 with
  |none=>rfl
  |some b=>
   have:p.1≠j:=λe=>by have:=h p lU e;rw[C]at this;cases this
   exact getD_set_ne d this
theorem FM(f:Nat->Option Nat)(j:Nat):∀(l:List (Nat×Nat))(L:Array Bool),L.getD j false=true->(nM vY f l L).getD j false=true
 |[],L,h=>h
 |p::r,L,h=>by
  rw[nM];refine FM f j r _ ?_;cases A:f p.1 with
  |none=>exact h
  |some b=>exact getD_set_true h
theorem FN(f:Nat->Option Nat)(d:Bool)(j:Nat):∀(l:List (Nat×Nat))(L:Array Bool),L.getD j d=true->(nM vY f l L).getD j d=true
 |[],L,h=>h
 |p::r,L,h=>by
  rw[nM];refine FN f d j r _ ?_;cases A:f p.1 with
  |none=>exact h
  |some b=>
   by_cases e:p.1=j
   .subst e
    unfold vY;simp only[jR,Array.getElem?_setIfInBounds_self];split;.rfl
    .rename_i hn
     rw[jR,kW lK]at h;exact h
   .exact(getD_set_ne d e).trans h
theorem FO(f:Nat->Option Nat)(p:Nat×Nat)(b:Nat)(A:f p.1=some b):∀(l:List (Nat×Nat))(L:Array Bool),p∈l->(nM vY f l L).getD p.1 true=true
 |[],_,h=>by cases h
 |q::r,L,h=>by
  rw[nM];rcases kD.1 h with rfl|C
  .rw[A]
   refine FN f true p.1 r _ ?_;show(L.setIfInBounds p.1 true).getD p.1 true=true;rw[jR,Array.getElem?_setIfInBounds_self];split<;>rfl
  .exact FO f p b A r _ C
def left(f:Nat->Option Nat)(l:List (Nat×Nat)):Nat:=(l.filter λp=>(f p.1).isNone).length
theorem JG(f:Nat->Option Nat)(p:Nat×Nat)(b:Nat)(C:f p.1=none):∀(l:List (Nat×Nat)),l.Pairwise (λx y=>x.1≠y.1/\x.2≠y.2)->p∈l->left f l=left (upd f p.1 b) l+1
 |[],_,h=>by cases h
 |q::r,hl,h=>by
  rw[List.pairwise_cons]at hl;unfold left;rcases kD.1 h with rfl|E
  .have e:(upd f p.1 b p.1).isNone=false:=by simp[upd]
   rw[List.filter_cons_of_pos (by simp[C]),List.filter_cons_of_neg (by simp[e]),jm];congr 2;refine List.filter_congr λx N=> ?_
   have:=(hl.1 x N).1;unfold upd;rw[if_neg (Ne.symm this)]
  .have J:=(hl.1 p E).1
   have e:upd f p.1 b q.1=f q.1:=by unfold upd;rw[if_neg J]
   have A:=JG f p b C r hl.2 E;unfold left at A;by_cases c:(f q.1).isNone=true;.rw[List.filter_cons_of_pos (by simpa using c),List.filter_cons_of_pos (by rw[e];simpa using c),jm,jm,A]
   .rw[List.filter_cons_of_neg (by simpa using c),List.filter_cons_of_neg (by rw[e];simpa using c),A]
structure Yh(H:Nat)(T:jg)(z:iJ)(w0:iH)(f:Nat->Option Nat)(l:List (Nat×Nat))(w:iH):Prop where
 below:iK H w0 w
 blk:∀p∈l,∀b,f p.1=some b->H<=b/\lN w b #[z] T
 inj:∀p∈l,∀q∈l,∀b,f p.1=some b->f q.1=some b->p.1=q.1
variable {P:kg}{ops:Array kH}{Q:Exit->Act->iH->Prop}{S:iH->Prop}{md:Region.Mode}
theorem JH{z:iJ}{H fuel:Nat}{w0:iH}{a0:Act}{A:Array Bool}(l:List (Nat×Nat))(hl:l.Pairwise (λx y=>x.1≠y.1/\x.2≠y.2))(aJ:H<=w0.heap.size)(aa:∀p∈l,∃o,ops[p.1]? =some o/\o.dst=some p.2/\o.guard=none/\(∀aK w,(execOp aK o).run P w=.ok (.value (lq (some ⟨w.heap.size,0,none⟩))) (w.alloc (lG #[z] T)))/\
   (∀e∈o.after,kG md e=true->A.getD e.on false=true)/\A.getD p.1 true=false)(ai:∀j o,ops[j]? =some o->A.getD j true=false->(∀p∈l,p.1≠j)->∀p∈l,∃e∈o.after,kG md e=true/\e.on=p.1)(aC:∀w,S w->S (w.alloc (lG #[z] T)))(ay:∀(bs:Nat->Nat) w,S w->Yh H T z w0 (λi=>some (bs i)) l w->wpAnyH P md ops Q S fuel (nM vY (λi=>some (bs i)) l A) (nM DC (λi=>some (bs i)) l a0) w):
  ∀(k:Nat)(f:Nat->Option Nat)(w:iH),left f l=k->S w->Yh H T z w0 f l w->wpAnyH P md ops Q S (fuel+k) (nM vY f l A) (nM DC f l a0) w:=by
 intro k;induction k with
 |zero=>
  intro f w hk V N;have J:∀p∈l,f p.1=some ((f p.1).getD 0):=by
   intro p hp;cases O:f p.1 with
   |some b=>rfl
   |none=>
    have:p∈l.filter λp=>(f p.1).isNone:=List.mem_filter.2 ⟨hp,by simp[O]⟩
    rw[kR.1 hk]at this;cases this
  have h:=ay (λi=>(f i).getD 0) w V ⟨N.below,λp hp b hb=>N.blk p hp b (by rw[J p hp];exact hb),λp hp q U b C E=>N.inj p hp q U b (by rw[J p hp];exact C) (by rw[J q U];exact E)⟩;rw[uR f (λi=>some ((f i).getD 0)) l A J,uR f (λi=>some ((f i).getD 0)) l a0 J];exact h
 |succ k aL=>
  intro f w hk V N;have Y:∀p∈l,f p.1=none->(nM vY f l A).getD p.1 true=false/\(nM vY f l A).getD p.1 false=false:=by
   intro p hp O;obtain⟨o,_,_,_,_,_,h0⟩:=aa p hp;rw[zM f true p.1 l A (λx _ e=>by rw[e];exact O),zM f false p.1 l A (λx _ e=>by rw[e];exact O)];refine⟨h0,?_⟩;rw[jR]at h0⊢;cases aj:A[p.1]? with
   |none=>rw[aj]at h0;cases h0
   |some v=>rw[aj]at h0;exact h0
  obtain⟨ae,Z,ak⟩:∃p∈l,f p.1=none:=by
   have:0<(l.filter λp=>(f p.1).isNone).length:=by show 0<left f l;omega
   obtain⟨p,hp⟩:=List.exists_mem_of_length_pos this;obtain⟨C,E⟩:=List.mem_filter.1 hp;exact⟨p,C,by simpa using E⟩
  have af:∀i,i∈jW md ops (nM vY f l A)->∃p∈l,p.1=i/\f p.1=none:=by
   intro i hi;obtain⟨h0,o,ho,he⟩:=mem_ready.1 hi;rcases Classical.em (∃p∈l,p.1=i)with⟨p,hp,au⟩|av
   .refine⟨p,hp,au,?_⟩
    cases O:f p.1 with
    |none=>rfl
    |some b=>
     have:=FO f p b O l A hp;rw[au,h0]at this;cases this
   .exfalso
    have hL:A.getD i true=false:=by rw[<-h0,zM f true i l A (λx aj e=>absurd ⟨x,aj,e⟩ av)]
    obtain⟨e,ag,ah,aD⟩:=ai i o ho hL (λp hp e=>av ⟨p,hp,e⟩) ae Z;have C:=he e ag ah;rw[aD,(Y ae Z ak).2]at C;cases C
  refine⟨λaz=> ?_,λi hi=> ?_⟩
  .exfalso
   obtain⟨o,ho,_,_,_,aF,_⟩:=aa ae Z;have:ae.1∈jW md ops (nM vY f l A):=mem_ready.2 ⟨(Y ae Z ak).1,o,ho,λe ag ah=>FM f e.on l A (aF e ag ah)⟩;rw[az]at this;cases this
  .obtain⟨p,hp,rfl,O⟩:=af i hi
   obtain⟨o,ho,aA,hg,aB,_,_⟩:=aa p hp;unfold wpOp;simp only[ho];have aM:∀y,Region.wanted o y=true:=λy=>by unfold Region.wanted;rw[hg]
   rw[if_pos (aM _)];refine .inl ?_;unfold Oper.wp;rw[aB];show S _/\wpAnyH P md ops Q S (fuel+k) _ ((nM DC f l a0).put o.dst (lq (some ⟨w.heap.size,0,none⟩))) _;rw[aA];refine⟨aC w V,?_⟩;have e1:=Be Qm f p w.heap.size O l A hl hp;have e2:=Be Ql f p w.heap.size O l a0 hl hp;have aG:(nM vY f l A).setIfInBounds p.1 true=nM vY (upd f p.1 w.heap.size) l A:=e1;have aH:(nM DC f l a0).put (some p.2) (lq (some ⟨w.heap.size,0,none⟩))=nM DC (upd f p.1 w.heap.size) l a0:=e2;rw[aG,aH];have aN:=JG f p w.heap.size O l hl hp;have ax:H<=w.heap.size:=je aJ N.below.size;refine aL _ _ lK (aC w V) ⟨N.below.alloc ax _,λq U b hb=> ?_,λq U r aI b C E=> ?_⟩
   .unfold upd at hb
    by_cases c:q.1=p.1
    .rw[if_pos c]at hb
     cases hb;exact⟨ax,lN.new w _ T⟩
    .rw[if_neg c]at hb
     obtain⟨C,E⟩:=N.blk q U b hb;exact⟨C,E.alloc _⟩
   .unfold upd at C E
    by_cases c:q.1=p.1
    .by_cases d:r.1=p.1
     .rw[c,d]
     .rw[if_pos c]at C
      rw[if_neg d]at E;cases C;exact absurd (N.blk r aI _ E).2.lt (Nat.lt_irrefl _)
    .rw[if_neg c]at C
     by_cases d:r.1=p.1
     .rw[if_pos d]at E
      cases E;exact absurd (N.blk q U _ C).2.lt (Nat.lt_irrefl _)
     .rw[if_neg d]at E
      exact N.inj q U r aI b C E
section
variable {P:kg}{I:iH->Prop}
end
section
variable {P:kg}{ops:Array kH}{md:Region.Mode}{C S:iH->Prop}{Q:Exit->Act->iH->Prop}
end
end
section
open Go.RowKit Go.Shelf
def S8.cs(s:S8):Array iJ:=#[lg lJ (s.a.toNat:Int),lg lJ (s.b.toNat:Int),lg lJ (s.c.toNat:Int),lg lJ (s.d.toNat:Int),lg lJ (s.e.toNat:Int),lg lJ (s.f.toNat:Int),lg lJ (s.g.toNat:Int),lg lJ (s.h.toNat:Int)]
def a0V(md:Region.Mode)(ops:Array kH)(A:Array Bool)(l:List (Nat×Nat)):Bool:=
 (kI ops.size).all λj=>A.getD j true||(l.any λp=>p.1==j)||(match ops[j]? with|some o=>l.all λp=>o.after.any λe=>kG md e&&e.on==p.1|none=>true)
theorem Mc{md:Region.Mode}{ops:Array kH}{E:Array Bool}{l:List (Nat×Nat)}(h:a0V md ops E l=true):
  ∀j o,ops[j]? =some o->E.getD j true=false->(∀p∈l,p.1≠j)->∀p∈l,∃e∈o.after,kG md e=true/\e.on=p.1:=by
 intro j o ho hL J p hp;have A:=jV.1 h j (kF.2 (jk.1 ho).1);rw[hL]at A;have N:(l.any λp=>p.1==j)=false:=by
  rw[List.any_eq_false];intro q O;simpa using J q O
 rw[N]at A;simp only[ho,Bool.false_or]at A;have Q:=jV.1 A p hp;obtain⟨i,hi,C⟩:=Array.any_eq_true.1 Q;simp only[iY,beq_iff_eq]at C;exact⟨_,Array.getElem_mem hi,C.1,C.2⟩
def JI(md:Region.Mode)(ops:Array kH)(A:Array Bool)(T:jg)(p:Nat×Nat):Bool:=
 match ops[p.1]? with
 |some o=>(o.dst==some p.2)&&o.guard.isNone&&(match o.op with| .alloc t=>t==T|_=>false)&&(o.after.all λe=> !(kG md e)||A.getD e.on false)&& !(A.getD p.1 true)
 |none=>false
theorem Fb{P:kg}{z:iJ}{md:Region.Mode}{ops:Array kH}{J:Array Bool}{l:List (Nat×Nat)}(h:(l.all (JI md ops J T))=true)(U:∀C dst E pos after w,(execOp C {dst:=dst,op:=.alloc T,type:=E,pos:=pos,after:=after,guard:=none}).run P w=.ok (.value (lq (some ⟨w.heap.size,0,none⟩))) (w.alloc (lG #[z] T))):
  ∀p∈l,∃o,ops[p.1]? =some o/\o.dst=some p.2/\o.guard=none/\(∀C w,(execOp C o).run P w=.ok (.value (lq (some ⟨w.heap.size,0,none⟩))) (w.alloc (lG #[z] T)))/\
   (∀e∈o.after,kG md e=true->J.getD e.on false=true)/\J.getD p.1 true=false:=by
 intro p hp;have A:=jV.1 h p hp;unfold JI at A;cases ho:ops[p.1]? with
 |none=>rw[ho]at A;cases A
 |some o=>
  rw[ho]at A;simp only[iY,beq_iff_eq,Bool.not_eq_true']at A;obtain⟨⟨⟨⟨A,O⟩,N⟩,Q⟩,V⟩:=A;obtain⟨dst,op,E,pos,after,guard⟩:=o;simp only at A O N Q;cases guard with
  |some g=>cases O
  |none=>
   cases op<;>simp at N;subst N;refine⟨_,rfl,A,rfl,λC w=>U C _ _ _ _ w,λe he hb=> ?_,V⟩;have:=Array.all_eq_true'.1 Q e he;simpa [hb]using this
theorem Qn(C:Operand->iJ)(dst:Option Tmp)(A:jg)(pos:String)(after:Array Edge)(w:iH):
  (execOp C {dst:=dst,op:=.alloc 22,type:=A,pos:=pos,after:=after,guard:=none}).run iG w=.ok (.value (lq (some ⟨w.heap.size,0,none⟩))) (w.alloc (lG #[lg lJ 0] 22)):=by
 simp[go_sem]
theorem Qo(k:Nat)(w:iH)(hk:k<64):
  iU iG 272 #[lg lH k] w λe w'=>e=lF (lg lJ (kN k).toNat)/\∃n,w'=w.drewN n:=by
 obtain⟨R,A⟩:∃R:ByteArray,R=⟨Sr.toArray⟩:=⟨_,rfl⟩;have C:R.size=256:=by rw[A];rfl
 have c1:=JC R k w lK lK;have e1:yP R.data.toList k=kN k:=by rw[A];rfl
 rw[e1]at c1;have c1:=iF c1;clear e1 C;have A:=iF A;go_in;go_wp2_with fail;rw[A.out]at c1;refine c1.out.mono ?_;rintro e w' ⟨rfl,n,rfl⟩;go_wp2_with fail;go_returns;exact⟨rfl,_,rfl⟩
theorem Fe{P:kg}{c:Code}{K:Act->iH->Prop}{Q:Exit->Act->iH->Prop}{a:Act}{w:iH}(h:c.wp P (Exit.then K λ_ _ _=>False) a w):c.wp P (Exit.then K Q) a w:=
 wp_mono h λe a w=>by cases e<;>first|exact λh=>h|exact λh=>h.elim
theorem sV{P:kg}{md:Region.Mode}{ops:Array kH}{Q:Exit->Act->iH->Prop}{S:iH->Prop}{n:Nat}{A:Array Bool}{a:Act}{W:iH}(R:iH->Prop)(C:R W)(h:∀w,R w->wpAnyH P md ops Q S n A a w):wpAnyH P md ops Q S n A a W:=h W C
def upI(x:Nat->Int)(j:Nat)(y:Int):Nat->Int:=λi=>if i=j then y else x i
def S8.at_(s:S8):Nat->Int
 |0=>s.a.toNat
 |1=>s.b.toNat
 |2=>s.c.toNat
 |3=>s.d.toNat
 |4=>s.e.toNat
 |5=>s.f.toNat
 |6=>s.g.toNat
 |_=>s.h.toNat
structure a0W(b0:Nat)(bs:Nat->Nat):Prop where
 inj:∀i j,i<8->j<8->bs (16+i)=bs (16+j)->i=j
 ge:∀j,j<8->b0+3<=bs (16+j)
structure sW(b0:Nat)(bs:Nat->Nat)(cs:Array iJ)(w:iH)(x:Nat->Int)(W:iH):Prop where
 below:iK b0 w W
 st:lN W b0 cs 31
 res:lN W (b0+1) (jQ 8 (lg lJ 0)) 31
 cl:lN W (b0+2) #[.func (.func 272) #[] #[]] 302
 v:∀j,j<8->lN W (bs (16+j)) #[lg lJ (x j)] 22
theorem sW.set{b0:Nat}{bs:Nat->Nat}{cs:Array iJ}{w W:iH}{x:Nat->Int}(h:sW b0 bs cs w x W)(hs:a0W b0 bs)(j:Nat)(A:j<8)(y:Int):
  sW b0 bs cs w (upI x j y) (W.setCell ⟨bs (16+j),0,none⟩ (lg lJ y)):=by
 have hg:=hs.ge j A;refine⟨h.below.setCell lW _,h.st.setOther lW _,h.res.setOther lW _,h.cl.setOther lW _,λi hi=> ?_⟩;by_cases e:i=j
 .subst e
  have:=(h.v i hi).set 0 (lg lJ y);simpa [upI]using this
 .have C:bs (16+i)≠bs (16+j):=λc=>e (hs.inj i j hi A c)
  have:=(h.v i hi).setOther (a:=⟨bs (16+j),0,none⟩) C (lg lJ y);simpa [upI,e]using this
theorem sW.drewN{b0:Nat}{bs:Nat->Nat}{cs:Array iJ}{w W:iH}{x:Nat->Int}(h:sW b0 bs cs w x W)(n:Nat):sW b0 bs cs w x (W.drewN n):=
 ⟨⟨h.below.os,h.below.tape,h.below.output,h.below.size,h.below.block⟩,h.st,h.res,h.cl,h.v⟩
theorem sW.congr{b0:Nat}{bs:Nat->Nat}{cs:Array iJ}{w W:iH}{x y:Nat->Int}(h:sW b0 bs cs w x W)(e:∀j,j<8->x j=y j):sW b0 bs cs w y W:=
 ⟨h.below,h.st,h.res,h.cl,λj A=>by rw[<-e j A];exact h.v j A⟩
theorem sW.grown{b0:Nat}{bs:Nat->Nat}{cs:Array iJ}{w W A:iH}{x:Nat->Int}{row:Option Nat}{E:Nat}(h:sW b0 bs cs w x W)(N:∀j,j<8->bs (16+j)<E)(O:b0+2<E)(hg:W.grownBy A row)(C:∀r,row=some r->E<=r):sW b0 bs cs w x A:=by
 have keep:∀{b cs t},lN W b cs t->b<E->lN A b cs t:=by
  intro b cs t hb hlt;unfold lN;rw[hg.block b hb.lt (λe=>by have:=C b e.symm;omega)];exact hb
 have hsz:=hg.size;have hlt:=h.st.lt;refine⟨h.below.grown hg lK (λk hk=>by have:=C k hk;omega),keep h.st lK,keep h.res lK,keep h.cl lK,λj J=>keep (h.v j J) (N j J)⟩
theorem yh:∀j,j<8->(16+j,6+j)∈[(16,6),(17,7),(18,8),(19,9),(20,10),(21,11),(22,12),(23,13)]:=lM
theorem a0X(x:UInt32):bits BinOp.xor IntKind.u32 (if IntKind.u32.signed=true then -1 else IntKind.u32.max) (x.toNat:Int)=((~~~x).toNat:Int):=by
 have h:=FL 4294967295 x;have e:(4294967295:UInt32)^^^x= ~~~x:=by
  apply UInt32.toBitVec_inj.1;simp only[UInt32.toBitVec_xor,UInt32.toBitVec_not];apply BitVec.eq_of_getLsbD_eq;intro i hi;have A:(4294967295:UInt32).toBitVec=BitVec.allOnes 32:=lM;rw[A];simp only[BitVec.getLsbD_xor,BitVec.getLsbD_not,BitVec.getLsbD_allOnes,hi,decide_true,Bool.true_and];cases x.toBitVec.getLsbD i<;>rfl
 rw[e]at h;exact h
theorem DD(x:UInt32)(p q r:Int)(w:iH)(hp:1<=p/\p<=31)(A:1<=q/\q<=31)(C:1<=r/\r<=31):
  iU iG 275 #[lg lJ x.toNat,lg lH p,lg lH q,lg lH r] w λe w'=>e=lF (lg lJ (Qg x p.toNat q.toNat r.toNat).toNat)/\w=w':=by
 have h:=LZ x p.toNat q.toNat r.toNat w lK lK lK;rwa [show((p.toNat:Nat):Int)=p by omega,show((q.toNat:Nat):Int)=q by omega,show((r.toNat:Nat):Int)=r by omega]at h
theorem qY{E:Nat}{W A:iH}(h:KeepsFrom E W A/\I7 E W A){b:Nat}(hb:b<E)(v:iJ):KeepsFrom E W (A.setCell ⟨b,0,none⟩ v)/\I7 E W (A.setCell ⟨b,0,none⟩ v):=by
 have hg:A.grownBy (A.setCell ⟨b,0,none⟩ v) (some b):=⟨rfl,rfl,rfl,by simp[jf],λk _ C=>iX _ _ _ _ (λe=>C (by rw[e]))⟩;refine⟨h.1.trans (KeepsFrom.of_grownBy hg (λj e=>by cases e;exact hb)),h.2.trans ⟨hg.size,λk cs t m hk hc=> ?_⟩⟩;rw[hg.block k (jk.1 hc).1 lW];exact hc
def S8.get(s:S8):Nat->UInt32
 |0=>s.a
 |1=>s.b
 |2=>s.c
 |3=>s.d
 |4=>s.e
 |5=>s.f
 |6=>s.g
 |_=>s.h
def BS(s t:S8)(k j:Nat):iJ:=lg lJ (((match Nat.blt j k with|true=>s.get j+t.get j|false=>s.get j):UInt32).toNat:Int)
def Wt(s t:S8)(k:Nat):Array iJ:=#[BS s t k 0,BS s t k 1,BS s t k 2,BS s t k 3,BS s t k 4,BS s t k 5,BS s t k 6,BS s t k 7]
theorem qZ{b0:Nat}{w W:iH}(h:iK b0 w W)(j:Nat)(v:iJ):iK b0 w (W.setCell ⟨b0+1,j,none⟩ v):=h.setCell (jF _) _
end
end Go.Proofs.YtamfcjmhnndbdaaGreatDoor


