/- Part 3 of the proof. -/
import Derived.Test.YtamfcjmhnndbdaaGreatDoorZu00
import Derived.Test.YtamfcjmhnndbdaaGreatDoorZu02
import Derived.Test.YtamfcjmhnndbdaaGreatDoorRows
import Derived.WalkSpells
import Derived.Deep.RegionWith
import Derived.WalkKit
import Derived.Lib.Hide
import Derived.Handy
import Derived.Lib.Strings
import Derived.Laws.BitsAllLaws
import Derived.RangeFuncNested
import Derived.RangeFuncBound
import Derived.RangeFuncCalls
import Derived.RangeFuncLeaves
import Derived.OwnWalkIn
import Derived.Deep.Quiet
import Derived.OrdersIn
import Derived.Shelf.Abstract
import Derived.TacticsInMore
import Derived.LoopNIn
import Derived.LoopIn
import Derived.Sort.CutIn
import Derived.OrdersHeld
import Derived.Deep.RegionHeld
open Go.Value renaming agg→nC,bool→nA,int→ng,pointer→nz,slice→nk,string→ny,tuple→nD,int→lT
open Go.Obj renaming cells→nG
open Go.IntKind renaming i64→nH,u32→nJ,u64→nI
open Go.Ending renaming returned→nE,returned→lH
open Go.Lib renaming hid→jH,trimRightB→lG,extract_data→mY
open Go.Proofs.Tryz renaming prog→jI,underlying86→l8,underlying9→mR
open Go renaming World→jJ,Value→jP,Calls→jV,bodyPost_ret→j4,maxLen→j5,TypeId→ko,results→kK,Oper→lX,wpQuiet_nil→mJ,Program→mK
open Nat renaming le_refl→jL,le_trans→kg,lt_of_lt_of_le→kG,le_succ→kX,pow_succ→l6,lt_of_le_of_lt→mF,two_pow_add_eq_or_of_lt→mO,le_of_eq→mV
open Go.RowKit renaming Below→jS,Hid→jW,intOf→kW
open Go.RowKit.Below renaming refl→jT,heap_setCell→j6
open List renaming getElem?_eq_getElem→jX,length_append→jY,take_succ_cons→ky,length_cons→kD,take_zero→kQ,replicate→lu,getD_eq_getElem?_getD→lN,all_eq_true→lY,range→l7,length_eq_zero_iff→mf,mem_range→mg,mem_cons→mD,size_toArray→mP,cons_append→mU,drop_succ_cons→mX
open UInt8 renaming ofNat→jZ
open Bool renaming and_eq_true→j3
open Array renaming getElem?_eq_some_iff→ku,replicate→lI,getD_eq_getD_getElem?→lK
open ByteArray renaming size_extract→kz
open Go.World renaming setCell→kC
open Go.Code renaming region→lg
open Go.Region renaming ready→lQ,binds→mr
open Go.Instr renaming makeFunc→mG
namespace Go.Proofs.YtamfcjmhnndbdaaGreatDoor
set_option linter.unusedVariables false
set_option linter.unusedSimpArgs false
set_option maxRecDepth 100000
set_option maxHeartbeats 8000000
variable {s:ByteArray}{T:ko}
section
open Go.RowKit
theorem bt:ql jI 86 5 9:=⟨l8,Tryz.underlying5,mR,nM⟩
theorem a2P(w:jJ):(Instr.makeSlice 86 (ng nH 0) (ng nH 10)).run jI w=
  .ok (nk (some ⟨w.heap.size,0,none⟩) 0 10) (w.alloc (nG (lI 10 (ng .u8 0)) 5)):=nM
theorem Kj(n:Nat)(w:jJ)(hn:n<18446744073709551616):
  jV jI 143 #[ng nI n] w λe w'=>e=nE (ny ⟨(nZ n).toArray⟩)/\jS w.heap.size w w':=by
 have af:=a2P;obtain⟨B,hB⟩:∃B,B=w.heap.size:=⟨_,rfl⟩;have ag:=jH hB;have N:B<=w.heap.size:=nK;rw[<-hB];clear hB;have Y:=zy.start n hn;generalize nZ n=t at*;go_in;go_wp2;go_loopw [0,3] (λQ v wr=>∃(m:Nat) (l:List UInt8),Q=ng nI m/\oD wr B 5 v l/\jS B w wr/\zy t l m/\m<18446744073709551616) (λQ _ _=>(kW Q).toNat);case atStart=>exact⟨n,[],rfl,oD.made w B _ _ 10 N nN rfl,(jT _ _).alloc N _,Y,hn⟩
 case round=>
  obtain⟨m,l,rfl,C,E,I,Z⟩:=hrel;have O:B<=wr.heap.size:=by have:=E.size;omega
  have ae:=I.le;by_cases c:128<=m
  .have V:=I.step c
   go_wp2_with (at_builtin;refine oP bt rfl (.tmp 7) (.tmp 11) rfl B _ l [jZ (m % 128+128)] 1 rfl wr _ (yf (n:=m % 128+128) (a5o m) nK) rfl C rfl nK O ?_;intro v' w' A J U);go_roundw;case rel=>exact⟨m/128,_,by go_num,A,E.trans J,V,nK⟩
   case measure=>simp[kW];omega
  .have aa:m<128:=nK
   have hd:=jH (I.done aa);go_wp2_with (at_builtin;refine oP bt rfl (.tmp 15) (.tmp 18) rfl B _ l [jZ m] 1 rfl wr _ (yf (n:=m) nK nK) rfl C rfl nK O ?_;intro v' w' A J U;have hst:=A.string bt);go_returns;exact⟨by rw[<-hd.out];rfl,E.trans J⟩
theorem Rs:∀ k n:Nat,n<128^k->n<18446744073709551616->(nZ n).length=max 1 ((Lib.bitLen n+6)/7)
 |k,n,hk,h=>by
  by_cases c:n<128
  .rw[qM n c]
   have:=Lib.bitLen_le n 7 nK c;simp;omega
  .match k,hk with
   |0,hk=>simp at hk;omega
   |k+1,hk=>
   rw[uW n nK,kD,Rs k (n/128) (by rw[l6]at hk;omega) nK];rw[Lib.bitLen_shift 7 n nK h];have:n/2^7=n/128:=rfl;rw[this];have A:1<=Lib.bitLen (n/128):=by
    rw[Lib.bitLen_half (n/128) nK nK];omega
   omega
theorem Mt(n:Nat)(w:jJ)(hn:n<18446744073709551616):
  jV jI 142 #[ng nI n] w λe w'=>e=nE (ng nH (nZ n).length)/\w=w':=by
 have hl:=jH (Rs 10 n (kG hn nN) hn);have hb:Lib.bitLen n<=64:=Lib.bitLen_le n 64 nK hn;have hc:=λw=>Tryz.bits_Len64 n w nK nK
 rw[Int.toNat_natCast]at hc;generalize Lib.bitLen n=m at*;have A:=jH hc;clear hc;go_in;go_wp2_with fail;refine(A _).mono ?_;rintro e w' ⟨rfl,rfl⟩;go_wp2_with fail
 all_goals
  go_returns;exact⟨by rw[hl.out];exact congrArg lH (congrArg (lT nH) nK),rfl⟩
theorem wP(m:Int)(s:ByteArray)(w:jJ)(C:-9223372036854775808<=m/\m<=9223372036854775807)(hs:s.size<=j5):
  jV jI 92 #[ng nH m,ny s] w λe w'=>e=nE (nD #[ng nH (pq m s.data.toList).1,ng nH (pq m s.data.toList).2.1,ng nH (pq m s.data.toList).2.2])/\w=w':=by
 have c1:=λw=>Cg s w hs
 have hp:pq m s.data.toList=if(om s.data.toList 0 0).2.2=0 then if m<0\/m<((om s.data.toList 0 0).1:Int)then(0,0,5)else om s.data.toList 0 0 else(0,0,(om s.data.toList 0 0).2.2):=rfl
 have hlt:=λN K h=>(tQ (l:=s.data.toList) (N:=N) (K:=K) h).2.1
 obtain⟨J,O⟩:=C;unfold j5 at hs;generalize pq m s.data.toList=r at*;generalize om s.data.toList 0 0=t at*;obtain⟨n,k,e⟩:=t;have C1:jW (∀w,jV jI 126 #[ny s] w λE w'=>E=nE (nD #[ng nI n,ng nH k,ng nH e])/\w=w'):=c1;clear c1;by_cases he:e=0
 .subst he
  have hn:=hlt n k rfl;clear hlt;rw[if_pos rfl]at hp;by_cases A:m<0
  .rw[if_pos (.inl A)]at hp
   subst hp;exact Bw
  .obtain⟨M,rfl⟩:∃M:Nat,m=M:=⟨m.toNat,nK⟩
   by_cases I:M<n
   .rw[if_pos (.inr (by simp only;omega))]at hp
    subst hp;clear A;exact Bw
   .rw[if_neg (by simp only;omega)]at hp
    subst hp;have Q:decide (M<n)=false:=nQ;have Y:n<=M:=nK;clear A I;exact Bw
 .rw[if_neg he]at hp
  subst hp;have U:((e:Int)==0)=false:=wL;have V:((e:Int) !=0)=true:=FL;clear he hlt;exact Bw
def DJ(id:Nat)(b:ByteArray):jP:=nC #[ng nI id,ny ⟨#[]⟩,ny b]
def PF.v(f:PF):jP:=nD #[DJ f.id f.body,ng nH f.n,ng nH f.e]
theorem TQ(id:Nat)(b:ByteArray)(w:jJ)(hid:id<18446744073709551616)(hb:(nZ id).length+b.size<=65536):
  jV jI 104 #[ng nI id,ny b] w λe w'=>e=nE (nD #[ny (xP id b),ng nH 0])/\jS w.heap.size w w':=by
 have hl:=sN 10 id (kG hid nN);have c1:=jH (λw=>Mt id w hid);have c2:=jH (λw=>Kj ((nZ id).length+b.size) w nK);have c3:=jH (λw=>Kj id w hid);have J:(⟨(nZ ((nZ id).length+b.size)).toArray⟩:ByteArray).size<=10:=by
  rw[size_mk];have:=sN 10 ((nZ id).length+b.size) (mF hb nN);omega
 have I:(⟨(nZ id).toArray⟩:ByteArray).size<=10:=by rw[size_mk];omega
 have hp:xP id b=⟨(nZ ((nZ id).length+b.size)).toArray⟩++⟨(nZ id).toArray⟩++b:=rfl;generalize xP id b=R at*;generalize (⟨(nZ ((nZ id).length+b.size)).toArray⟩:ByteArray)=X at*;generalize (⟨(nZ id).toArray⟩:ByteArray)=N at*;generalize (nZ id).length=m at*;have E:=jH hp;clear hp;go_in;go_wp2_with fail;refine(c1 _).mono ?_;rintro e w' ⟨rfl,rfl⟩;go_wp2_with fail;refine(c2 _).mono ?_;rintro e w1 ⟨rfl,A⟩;go_wp2_with fail;refine(c3 _).mono ?_;rintro e w2 ⟨rfl,C⟩;go_wp2_with fail;go_returns;exact⟨by rw[E.out];rfl,A.trans (C.mono A.size)⟩
theorem FU(id:Nat)(b:ByteArray)(w:jJ)(hid:id<18446744073709551616)(hb:65536<(nZ id).length+b.size)(hs:b.size<=9223372036854770000):
  jV jI 104 #[ng nI id,ny b] w λe w'=>e=nE (nD #[ny ⟨#[]⟩,ng nH 5])/\w=w':=by
 have hl:=sN 10 id (kG hid nN);have c1:=jH (λw=>Mt id w hid);generalize (nZ id).length=m at*;go_in;go_wp2_with fail;refine(c1 _).mono ?_;rintro e w' ⟨rfl,rfl⟩;go_wp2_with fail;go_returns;exact⟨rfl,rfl⟩
theorem wQ(t:ByteArray)(w:jJ):jV jI 144 #[ny t] w λe w'=>∃b,e=nE (nz (some ⟨b,0,none⟩))/\w.heap.size<=b/\jS w.heap.size w w'/\wo w' b (RS.of t):=
 (zx t w).mono λ_ _ ⟨he,hb,_,A⟩=>⟨_,he,jL _,hb,A⟩
def yI:Array jP:=#[ng nI 0,ny ⟨#[]⟩,ny ⟨#[]⟩]
theorem DK(m:Int)(s:ByteArray)(er:Nat)(w:jJ)(A:-9223372036854775808<=m/\m<=9223372036854775807)(hs:s.size<=j5)(hp:pq m s.data.toList=(0,0,er))(he:er≠0):
  jV jI 106 #[ng nH m,ny s] w λe w'=>e=nE (PF.bad er).v/\jS w.heap.size w w':=by
 have c1:=λw=>wP m s w A hs
 rw[hp]at c1;have C:=jH c1;have E:((er:Int) !=0)=true:=FL;clear c1 hp A he;go_in;go_wp2_with fail;refine(C _).mono ?_;rintro e w' ⟨rfl,rfl⟩;go_wp2_with fail;refine j4 (v:=(PF.bad er).v) (by simp[kK,Tryz.results106,go_sem,PF.v,PF.bad,DJ]) rfl ⟨rfl,?_⟩;exact(jT _ _).alloc (jL _) _
theorem Pf{p:Prop}(h:p:=by
 show RS.take ⟨s,0,0⟩ k=_;unfold RS.take;rw[if_pos rfl,if_neg nK,if_neg (by simp only[];omega)];simp):p:=h
theorem ER(m:Int)(s:ByteArray)(n k:Nat)(w:jJ)(V:-9223372036854775808<=m/\m<=9223372036854775807)(hs:s.size<=j5)(hp:pq m s.data.toList=(n,k,0))(au:s.size<k+n):
  jV jI 106 #[ng nH m,ny s] w λe w'=>e=nE (PF.bad 2).v/\jS w.heap.size w w':=by
 have c1:=λw=>wP m s w V hs
 rw[hp]at c1;have ai:=jH c1;obtain⟨aj,ax,Y,ay⟩:=zA hp;rw[<-Lib.size_eq]at Y;have C:=hs;unfold j5 at C;have ct:=jH (λb w (h:wo w b (RS.of s))=>qg b (RS.of s) k w (RS.Ok.of C) h);have e1:RS.take (RS.of s) k=(⟨s,k,0⟩,s.extract 0 k):=by
  exact Pf
 rw[e1]at ct;have E:=jH (λb w (h:wo w b ⟨s,k,0⟩)=>qg b ⟨s,k,0⟩ n w ⟨Y,C⟩ h);have e2:RS.take ⟨s,k,0⟩ n=(⟨s,k,2⟩,uF):=by
  unfold RS.take;rw[if_pos rfl,if_neg nK,if_pos (by simp only[];omega)]
 rw[e2]at E;have av:∀(fn:Fn)(first cap:Array jP)(w:jJ),(mG fn first cap).run jI w=.ok (.func fn first cap) w:=λ_ _ _ _=>rfl
 clear c1 hp V e1 e2 aj;go_in;go_wp2_with fail;refine(ai _).mono ?_;rintro e w' ⟨rfl,rfl⟩;go_wp2_with fail;refine(wQ _ _).mono ?_;rintro e w1 ⟨b,rfl,I,J,Z⟩;go_wp2_with fail;refine(ct _ _ Z).mono ?_;rintro e w2 ⟨rfl,u2,aa⟩;go_wp2_with fail;refine(E _ _ aa).mono ?_;rintro e w3 ⟨rfl,u3,ae⟩;have cf:=jH (qc _ _ _ ae);go_wp2_with fail;refine cf.mono ?_;rintro e w' ⟨rfl,rfl⟩;have hlt:w.heap.size<b:=by simp at I;omega
 have N:=Below.blk J (nO.new w yI 52) nR;have O:=u2.blk N nK;have A:=u3.blk O nK;have Q:=((jT w.heap.size w).alloc (jL _) (nG yI 52)).trans (J.mono nR);have U:=u2.below Q nK Q.size;have ak:=jH (u3.below U nK U.size);have af:=A.cell 0;have ag:=A.cell 1;have ah:=A.cell 2;obtain⟨az,f1,f2⟩:=A.f3;simp[yI]at af ag ah;clear Q U N O I;go_wp2_with fail;refine j4 (v:=(PF.bad 2).v) (by simp[kK,Tryz.results106,go_sem,PF.v,PF.bad,DJ,af,ag,ah]) rfl ⟨rfl,?_⟩;exact((ak.setCell (p:=⟨w.heap.size,0,none⟩) (jL _) _).setCell (p:=⟨w.heap.size,1,none⟩) (jL _) _).setCell (p:=⟨w.heap.size,2,none⟩) (jL _) _
theorem ES(m:Int)(s:ByteArray)(n k:Nat)(w:jJ)(V:-9223372036854775808<=m/\m<=9223372036854775807)(hs:s.size<=j5)(hp:pq m s.data.toList=(n,k,0))(aC:k+n<=s.size)(Y:(om (s.extract k (k+n)).data.toList 0 0).2.2≠0):
  jV jI 106 #[ng nH m,ny s] w λe w'=>e=nE (PF.bad 3).v/\jS w.heap.size w w':=by
 have c1:=λw=>wP m s w V hs
 rw[hp]at c1;have au:=jH c1;obtain⟨av,aG,Z,aH⟩:=zA hp;rw[<-Lib.size_eq]at Z;have C:=hs;unfold j5 at C;have ct:=jH (λb w (h:wo w b (RS.of s))=>qg b (RS.of s) k w (RS.Ok.of C) h);have e1:RS.take (RS.of s) k=(⟨s,k,0⟩,s.extract 0 k):=by
  exact Pf
 rw[e1]at ct;have E:=jH (λb w (h:wo w b ⟨s,k,0⟩)=>qg b ⟨s,k,0⟩ n w ⟨Z,C⟩ h);have e2:RS.take ⟨s,k,0⟩ n=(⟨s,k+n,0⟩,s.extract k (k+n)):=by
  unfold RS.take;rw[if_pos rfl,if_neg nK,if_neg (by simp only[];omega)];rfl
 rw[e2]at E;have aD:∀(fn:Fn)(first cap:Array jP)(w:jJ),(mG fn first cap).run jI w=.ok (.func fn first cap) w:=λ_ _ _ _=>rfl
 have aa:=λw=>Cg (s.extract k (k+n)) w (by unfold j5;rw[kz];omega)
 generalize om (s.extract k (k+n)).data.toList 0 0=t at*;obtain⟨ax,ay,ae⟩:=t;have az:jW (∀w,jV jI 126 #[ny (s.extract k (k+n))] w λaA w'=>aA=nE (nD #[ng nI ax,ng nH ay,ng nH ae])/\w=w'):=aa;have aF:((ae:Int) !=0)=true:=by rw[bne_iff_ne];simp only at Y;omega
 clear aa Y;clear c1 hp V e1 e2 av;go_in;go_wp2_with fail;refine(au _).mono ?_;rintro e w' ⟨rfl,rfl⟩;go_wp2_with fail;refine(wQ _ _).mono ?_;rintro e w1 ⟨b,rfl,I,J,af⟩;go_wp2_with fail;refine(ct _ _ af).mono ?_;rintro e w2 ⟨rfl,u2,ag⟩;go_wp2_with fail;refine(E _ _ ag).mono ?_;rintro e w3 ⟨rfl,u3,ah⟩;have cf:=jH (qc _ _ _ ah);go_wp2_with fail;refine cf.mono ?_;rintro e w' ⟨rfl,rfl⟩;have hlt:w.heap.size<b:=by simp at I;omega
 have N:=Below.blk J (nO.new w yI 52) nR;have O:=u2.blk N nK;have A:=u3.blk O nK;have Q:=((jT w.heap.size w).alloc (jL _) (nG yI 52)).trans (J.mono nR);have U:=u2.below Q nK Q.size;have aB:=jH (u3.below U nK U.size);have ai:=A.cell 0;have aj:=A.cell 1;have ak:=A.cell 2;obtain⟨aI,f1,f2⟩:=A.f3;simp[yI]at ai aj ak;clear Q U N O I;go_wp2_with fail;refine(az _).mono ?_;rintro e w' ⟨rfl,rfl⟩;go_wp2_with fail;refine j4 (v:=(PF.bad 3).v) (by simp[kK,Tryz.results106,go_sem,PF.v,PF.bad,DJ,ai,aj,ak]) rfl ⟨rfl,?_⟩;exact((aB.setCell (p:=⟨w.heap.size,0,none⟩) (jL _) _).setCell (p:=⟨w.heap.size,1,none⟩) (jL _) _).setCell (p:=⟨w.heap.size,2,none⟩) (jL _) _
theorem IE(m:Int)(s:ByteArray)(n k id z:Nat)(w:jJ)(aa:-9223372036854775808<=m/\m<=9223372036854775807)(hs:s.size<=j5)(hp:pq m s.data.toList=(n,k,0))(aC:k+n<=s.size)(U:om (s.extract k (k+n)).data.toList 0 0=(id,z,0)):
  jV jI 106 #[ng nH m,ny s] w λe w'=>e=nE (PF.mk id ((s.extract k (k+n)).extract z n) (k+n) 0).v/\jS w.heap.size w w':=by
 have c1:=λw=>wP m s w aa hs
 rw[hp]at c1;have ax:=jH c1;obtain⟨ay,aF,ae,aG⟩:=zA hp;rw[<-Lib.size_eq]at ae;have C:=hs;unfold j5 at C;have ct:=jH (λb w (h:wo w b (RS.of s))=>qg b (RS.of s) k w (RS.Ok.of C) h);have e1:RS.take (RS.of s) k=(⟨s,k,0⟩,s.extract 0 k):=by
  exact Pf
 rw[e1]at ct;have E:=jH (λb w (h:wo w b ⟨s,k,0⟩)=>qg b ⟨s,k,0⟩ n w ⟨ae,C⟩ h);have e2:RS.take ⟨s,k,0⟩ n=(⟨s,k+n,0⟩,s.extract k (k+n)):=by
  unfold RS.take;rw[if_pos rfl,if_neg nK,if_neg (by simp only[];omega)];rfl
 rw[e2]at E;have aD:∀(fn:Fn)(first cap:Array jP)(w:jJ),(mG fn first cap).run jI w=.ok (.func fn first cap) w:=λ_ _ _ _=>rfl
 have I:(s.extract k (k+n)).size=n:=by rw[kz];omega
 have az:=(tQ U).1;rw[<-Lib.size_eq,I]at az;have V:=λw=>Cg (s.extract k (k+n)) w (by unfold j5;rw[kz];omega)
 rw[U]at V;have af:jW (∀w,jV jI 126 #[ny (s.extract k (k+n))] w λaA w'=>aA=nE (nD #[ng nI id,ng nH z,ng nH 0])/\w=w'):=V;clear V U;obtain⟨X,ag⟩:∃X,X=s.extract k (k+n):=⟨_,rfl⟩;rw[<-ag]at I af e2 E⊢;clear ag;clear c1 hp aa e1 e2 ay;go_in;go_wp2_with fail;refine(ax _).mono ?_;rintro e w' ⟨rfl,rfl⟩;go_wp2_with fail;refine(wQ _ _).mono ?_;rintro e w1 ⟨b,rfl,J,N,ah⟩;go_wp2_with fail;refine(ct _ _ ah).mono ?_;rintro e w2 ⟨rfl,u2,ai⟩;go_wp2_with fail;refine(E _ _ ai).mono ?_;rintro e w3 ⟨rfl,u3,aj⟩;have cf:=jH (qc _ _ _ aj);go_wp2_with fail;refine cf.mono ?_;rintro e w' ⟨rfl,rfl⟩;have hlt:w.heap.size<b:=by simp at J;omega
 have O:=Below.blk N (nO.new w yI 52) nR;have Q:=u2.blk O nK;have A:=u3.blk Q nK;have Y:=((jT w.heap.size w).alloc (jL _) (nG yI 52)).trans (N.mono nR);have Z:=u2.below Y nK Y.size;have aB:=jH (u3.below Z nK Z.size);have ak:=A.cell 0;have au:=A.cell 1;have av:=A.cell 2;obtain⟨aH,f1,f2⟩:=A.f3;simp[yI]at ak au av;clear Y Z O Q J;go_wp2_with fail;refine(af _).mono ?_;rintro e w' ⟨rfl,rfl⟩;go_wp2_with fail;refine j4 (v:=(PF.mk id (X.extract z n) (k+n) 0).v) (by simp[kK,Tryz.results106,go_sem,PF.v,DJ,ak,au,av]) rfl ⟨rfl,?_⟩;exact((aB.setCell (p:=⟨w.heap.size,0,none⟩) (jL _) _).setCell (p:=⟨w.heap.size,1,none⟩) (jL _) _).setCell (p:=⟨w.heap.size,2,none⟩) (jL _) _
theorem TR{P:PF->Prop}(m:Int)(s:ByteArray)(I:∀er,pq m s.data.toList=(0,0,er)->er≠0->P (.bad er))(J:∀n k,pq m s.data.toList=(n,k,0)->s.size<k+n->P (.bad 2))(N:∀n k,pq m s.data.toList=(n,k,0)->k+n<=s.size->(om (s.extract k (k+n)).data.toList 0 0).2.2≠0->P (.bad 3))(O:∀n k id z,pq m s.data.toList=(n,k,0)->k+n<=s.size->om (s.extract k (k+n)).data.toList 0 0=(id,z,0)->P ⟨id,(s.extract k (k+n)).extract z n,k+n,0⟩):P (o9 m s):=by
 by_cases h0:(pq m s.data.toList).2.2=0
 .obtain⟨⟨n,k,e⟩,hp⟩:∃t,pq m s.data.toList=t:=⟨_,rfl⟩
  rw[hp]at h0;simp only at h0;subst h0;by_cases E:s.size<k+n;.rw[O1 hp E];exact J n k hp E
  .by_cases A:(om (s.extract k (k+n)).data.toList 0 0).2.2=0
   .obtain⟨⟨id,z,e⟩,C⟩:∃t,om (s.extract k (k+n)).data.toList 0 0=t:=⟨_,rfl⟩
    rw[C]at A;simp only at A;subst A;rw[Ma hp nK C];exact O n k id z hp nK C
   .rw[O3 hp nK A];exact N n k hp nK A
 .rw[L9 h0];exact I _ (TD h0) h0
theorem FV(m:Int)(s:ByteArray)(w:jJ)(A:-9223372036854775808<=m/\m<=9223372036854775807)(hs:s.size<=j5):
  jV jI 106 #[ng nH m,ny s] w λe w'=>e=nE (o9 m s).v/\jS w.heap.size w w':=
 TR (P:=λr=>jV jI 106 #[ng nH m,ny s] w λe w'=>e=nE r.v/\jS w.heap.size w w') m s
  (λer h he=>DK m s er w A hs h he) (λn k h ho=>ER m s n k w A hs h ho) (λn k h ho C=>ES m s n k w A hs h ho C)
  (λn k id z h ho C=>IE m s n k id z w A hs h ho C)
def vZ(b:UInt8):Bool:=(decide (97<=b.toNat)&&decide (b.toNat<=122))||(decide (48<=b.toNat)&&decide (b.toNat<=57))||decide (b.toNat=95)
def qX(l:List UInt8):Bool:=decide (1<=l.length)&&decide (l.length<=12)&&l.all vZ
theorem Ew(b:UInt8):(vZ b=true/\((97<=b.toNat/\b.toNat<=122)\/(48<=b.toNat/\b.toNat<=57)\/b.toNat=95))\/
  (vZ b=false/\((b.toNat<48)\/(57<b.toNat/\b.toNat<95)\/b.toNat=96\/122<b.toNat)):=by
 unfold vZ;by_cases h:(97<=b.toNat/\b.toNat<=122)\/(48<=b.toNat/\b.toNat<=57)\/b.toNat=95
 .left
  refine⟨?_,h⟩;simp only[Bool.or_eq_true,j3,decide_eq_true_eq];rcases h with h|h|h
  .exact .inl (.inl h)
  .exact .inl (.inr h)
  .exact .inr h
 .right
  refine⟨?_,nK⟩;simp only[Bool.or_eq_false_iff,Bool.and_eq_false_iff,decide_eq_false_iff_not];omega
theorem Mv{k:Nat}(h:k<s.size):(s.data.toList.take (k+1)).all vZ=((s.data.toList.take k).all vZ&&vZ s[k]):=by
 rw[List.take_add_one,jX (by simpa using h)];simp;rfl
theorem all_false{k:Nat}(h:k<s.size)(hb:vZ s[k]=false):s.data.toList.all vZ=false:=by
 rw[List.all_eq_false];have hk:k<s.data.toList.length:=by simpa using h
 exact⟨s.data.toList[k],List.getElem_mem hk,by
  have:s.data.toList[k]=s[k]:=rfl;rw[this,hb];simp⟩
theorem DL{p:Prop}(h:p:=by
 go_wp2_with fail
 all_goals
  go_roundw;case rel=>exact⟨k+1,by go_num,nK,HT.out,trivial⟩
  case measure=>simp[kW];omega):p:=h
theorem Kk{p:Prop}(h:p:=by
 go_wp2_with fail
 all_goals first
  |(go_returns;exact⟨by rw[HM.out,HT.out];rfl,rfl⟩)
  |(exfalso;omega)
  |(exfalso;simp_all;omega)):p:=h
theorem FW{p:Prop}(h:p:=by
 go_in;go_wp2_with fail;go_returns;exact⟨by rw[HR.out];rfl,rfl⟩):p:=h
theorem Kl(s:ByteArray)(w:jJ)(hs:s.size<=j5):
  jV jI 120 #[ny s] w λe w'=>e=nE (nA (qX s.data.toList))/\w'=w:=by
 have J:s.size<=9223372036854775807:=by unfold j5 at hs;omega
 have hlen:s.data.toList.length=s.size:=nR;clear hs;by_cases h0:s.size<1
 .have HR:jW (qX s.data.toList=false):=jH (by unfold qX;rw[decide_eq_false (by rw[hlen];omega)];rfl)
  clear hlen;exact FW
 by_cases O:12<s.size
 .have HR:jW (qX s.data.toList=false):=jH (by unfold qX;rw[decide_eq_true (p:=1<=_) (by rw[hlen];omega),decide_eq_false (by rw[hlen];omega)];rfl)
  clear hlen;exact FW
 have HM:jW (qX s.data.toList=s.data.toList.all vZ):=jH (by unfold qX;rw[decide_eq_true (p:=1<=_) (by rw[hlen];omega),decide_eq_true (by rw[hlen];omega)];rfl);obtain⟨N,V⟩:=nT s.size;have Q:=jH V;have Y:=jH hlen;have A:¬N<1:=nK;have E:¬12<N:=nK;have Z:N<=12:=nK;clear J hlen h0 O;go_in;go_wp2_with fail;go_loopw [15] (λiv aa=>∃k:Nat,iv=ng nH k/\k<=N/\jW ((s.data.toList.take k).all vZ=true)/\aa=w) (λiv _=>N -(kW iv).toNat);case atStart=>exact⟨0,rfl,nK,jH nR,rfl⟩
 case round=>
  obtain⟨k,rfl,hk,U,rfl⟩:=hrel;by_cases c:k<N
  .have C:k<s.size:=by rw[Q.out];exact c
   have I:=Mv C;rcases Ew s[k]with⟨hn,hc⟩|⟨hn,hc⟩
   .have HT:jW ((s.data.toList.take (k+1)).all vZ=true):=jH (by rw[I,U.out,hn];rfl)
    clear I hn;rcases hc with⟨A,E⟩|⟨A,E⟩|A
    .exact DL
    .exact DL
    .exact DL
   .have HT:=jH (all_false C hn)
    have af:((s[k].toNat:Int) !=95)=true:=nQ;have ag:((s[k].toNat:Int)==95)=false:=nQ;clear I hn;rcases hc with A|⟨A,E⟩|A|A
    .exact Kk
    .exact Kk
    .exact Kk
    .exact Kk
  .obtain rfl:k=N:=nK
   have ae:jW (qX s.data.toList=true):=jH (by
    have h:=U.out;rw[List.take_of_length_le (by rw[Y.out,Q.out];exact jL _)]at h;rw[HM.out,h])
   go_wp2_with fail;go_returns;exact⟨by rw[ae.out];rfl,rfl⟩
theorem Km{p:Prop}(h:p:=by
 go_wp2_with fail
 all_goals first
  |(go_returns;exact⟨by rw[HM.out,HT.out,Bool.and_false];rfl,rfl⟩)
  |(exfalso;omega)
  |(exfalso;simp_all;omega)):p:=h
theorem TS(s:ByteArray)(w:jJ)(hs:s.size<=j5):
  jV jI 53 #[ny s] w λe w'=>e=nE (nA (qX s.data.toList))/\w'=w:=by
 have J:s.size<=9223372036854775807:=by unfold j5 at hs;omega
 have hlen:s.data.toList.length=s.size:=nR;have HM:jW (qX s.data.toList=(decide (1<=s.size)&&decide (s.size<=12)&&s.data.toList.all vZ)):=jH (by unfold qX;rw[hlen]);obtain⟨N,Y⟩:=nT s.size;have E:=jH Y;have Z:=jH hlen;have aa:N<=9223372036854775807:=nK;clear hs J hlen;go_in;go_wp2_with fail;go_loopw [3] (λiv ae=>∃k:Nat,iv=ng nH k/\k<=N/\jW ((s.data.toList.take k).all vZ=true)/\ae=w) (λiv _=>N -(kW iv).toNat);case atStart=>exact⟨0,rfl,nK,jH nR,rfl⟩
 case round=>
  obtain⟨k,rfl,hk,O,rfl⟩:=hrel;by_cases c:k<N
  .have C:k<s.size:=by rw[E.out];exact c
   have I:=Mv C;rcases Ew s[k]with⟨hn,hc⟩|⟨hn,hc⟩
   .have HT:jW ((s.data.toList.take (k+1)).all vZ=true):=jH (by rw[I,O.out,hn];rfl)
    clear I hn;rcases hc with⟨A,Q⟩|⟨A,Q⟩|A
    .exact DL
    .exact DL
    .exact DL
   .have HT:=jH (all_false C hn)
    have ag:((s[k].toNat:Int) !=95)=true:=nQ;have ah:((s[k].toNat:Int)==95)=false:=nQ;clear I hn;rcases hc with A|⟨A,Q⟩|A|A
    .exact Km
    .exact Km
    .exact Km
    .exact Km
  .obtain rfl:k=N:=nK
   have U:jW (qX s.data.toList=(decide (1<=k)&&decide (k<=12))):=jH (by
    have h:=O.out;rw[List.take_of_length_le (by rw[Z.out,E.out];exact jL _)]at h;rw[HM.out,h,E.out,Bool.and_true])
   by_cases V:1<=k
   .have af:jW (decide ((k:Int)<=12)=qX s.data.toList):=jH (by rw[U.out,decide_eq_true V,Bool.true_and,decide_eq_decide];omega)
    go_wp2_with fail;go_returns;exact⟨by rw[<-af.out];rfl,rfl⟩
   .go_wp2_with fail
    go_returns;exact⟨by rw[U.out,decide_eq_false V];rfl,rfl⟩
def Co(s:ByteArray):Option ByteArray:=if s.size=12/\qX (lG s.data.toList 0)=true then some ⟨(lG s.data.toList 0).toArray⟩else none
theorem Ex(l:List UInt8):(lG l 0).length<=l.length:=by
 unfold lG;rw[List.length_reverse];exact kg (List.dropWhile_sublist _).length_le (mV List.length_reverse)
def FX(s:ByteArray)(w:jJ)(e:Ending)(w':jJ):Prop:=e=nE (nD #[ny ((Co s).getD ⟨#[]⟩),ng nH (if(Co s).isSome then 0 else 3)])/\w'=w
theorem Wj{p:Prop}(h:p:=by
 clear hg hR;have hne:((s.size:Int) !=12)=false:=by simp[h1]
 clear h1;go_in;go_wp2_with fail;refine CT.mono ?_;rintro e w2 ⟨rfl,rfl⟩;go_wp2_with fail;refine CM.mono ?_;rintro e w3 ⟨rfl,rfl⟩;go_wp2_with fail;go_returns;rw[hG.out];exact⟨rfl,rfl⟩):p:=h
theorem a0s(s:ByteArray)(w:jJ)(hs:s.size<=j5):jV jI 137 #[ny s] w (FX s w):=by
 have A:s.size<=9223372036854775807:=by unfold j5 at hs;omega
 have CT:=jH (Tryz.strings_TrimRight_one s 0 nN w A);have htl:(⟨(lG s.data.toList 0).toArray⟩:ByteArray).size<=j5:=by
  have h1:=Ex s.data.toList;have E:s.data.toList.length=s.size:=nR;have I:(⟨(lG s.data.toList 0).toArray⟩:ByteArray).size=(lG s.data.toList 0).length:=by simp[ByteArray.size]
  omega
 have CM:=jH (Kl ⟨(lG s.data.toList 0).toArray⟩ w htl);unfold FX;obtain⟨R,hR⟩:∃R,Value.tuple #[ny ((Co s).getD ⟨#[]⟩),ng nH (if(Co s).isSome then 0 else 3)]=R:=⟨_,rfl⟩;rw[hR];have hg:Co s=if s.size=12/\qX (lG s.data.toList 0)=true then some ⟨(lG s.data.toList 0).toArray⟩else none:=rfl
 have CM:jW (jV jI 120 #[ny ⟨(lG s.data.toList 0).toArray⟩] w λe w'=>e=nE (nA (qX (lG s.data.toList 0)))/\w'=w):=CM;generalize Co s=G at*;generalize (⟨(lG s.data.toList 0).toArray⟩:ByteArray)=C at*;generalize qX (lG s.data.toList 0)=M at*;have CT:jW (jV jI 181 #[ny s,ny ⟨#[0]⟩] w λe w'=>e=nE (ny C)/\w'=w):=CT;by_cases h1:s.size=12
 .cases M with
  |true=>
   have hG:jW (R=nD #[ny C,ng nH 0]):=jH (by rw[<-hR,hg,if_pos ⟨h1,rfl⟩];rfl);exact Wj
  |false=>
   have hG:jW (R=nD #[ny ⟨#[]⟩,ng nH 3]):=jH (by rw[<-hR,hg,if_neg (λh=>by cases h.2)];rfl);exact Wj
 .have hG:jW (R=nD #[ny ⟨#[]⟩,ng nH 3]):=jH (by rw[<-hR,hg,if_neg (λh=>h1 h.1)];rfl)
  clear hg hR;have hne:((s.size:Int) !=12)=true:=nQ;clear h1;go_in;go_wp2_with fail;refine CT.mono ?_;rintro e w2 ⟨rfl,rfl⟩;go_wp2_with fail;go_returns;rw[hG.out];exact⟨rfl,rfl⟩
end
section
def zh(x:UInt32)(n:Nat):UInt32:=UInt32.ofNat (x.toNat/2^n|||x.toNat*2^(32 - n) % 4294967296)
def shr(x:UInt32)(n:Nat):UInt32:=UInt32.ofNat (x.toNat/2^n)
def xR(x:UInt32)(a b c:Nat):UInt32:=zh x a^^^zh x b^^^shr x c
def TU(x:UInt32)(a b c:Nat):UInt32:=zh x a^^^zh x b^^^zh x c
def AY(l:List UInt8)(i:Nat):UInt32:=
 UInt32.ofNat ((l.getD (4*i) 0).toNat*16777216+(l.getD (4*i+1) 0).toNat*65536+(l.getD (4*i+2) 0).toNat*256+(l.getD (4*i+3) 0).toNat)
theorem a2Q(n:Nat)(h:n<4294967296):(UInt32.ofNat n).toNat=n:=by
 show n % 2^32=n;exact Nat.mod_eq_of_lt h
theorem zD(x y:UInt32):((x.toNat:Int)+(y.toNat:Int)) % 4294967296=((x+y).toNat:Int):=by
 rw[UInt32.toNat_add];omega
theorem Jc(x y:UInt32):bits BinOp.xor IntKind.u32 (x.toNat:Int) (y.toNat:Int)=((x^^^y).toNat:Int):=by
 rw[u32_xor_nat _ _ x.toNat_lt y.toNat_lt,UInt32.toNat_xor]
theorem a5q(x y:UInt32):bits BinOp.and IntKind.u32 (x.toNat:Int) (y.toNat:Int)=((x&&&y).toNat:Int):=by
 rw[u32_and_nat _ _ x.toNat_lt y.toNat_lt,UInt32.toNat_and]
theorem a5r(x:UInt32)(n:Nat):(x.toNat:Int)/2^n=((shr x n).toNat:Int):=by
 unfold shr;have h:=x.toNat_lt;have hp:=Nat.pow_pos (n:=n) (show 0<2 by decide);rw[a2Q _ (mF (Nat.div_le_self _ _) h),Int.natCast_ediv];simp
theorem a0t(x:UInt32)(n:Nat):x.toNat/2^n|||x.toNat*2^(32 - n) % 4294967296<4294967296:=by
 have h:=x.toNat_lt;exact Nat.or_lt_two_pow (n:=32) (mF (Nat.div_le_self _ _) h) (Nat.mod_lt _ nN)
theorem a5s(x:UInt32)(n:Nat):bits BinOp.or IntKind.u32 ((x.toNat:Int)*2^(32 - n) % 4294967296) ((x.toNat:Int)/2^n)=((zh x n).toNat:Int):=by
 have h:=x.toNat_lt;have e1:(x.toNat:Int)*2^(32 - n) % 4294967296=((x.toNat*2^(32 - n) % 4294967296:Nat):Int):=by
  rw[Int.natCast_emod,Int.natCast_mul,Int.natCast_pow];rfl
 have e2:(x.toNat:Int)/2^n=((x.toNat/2^n:Nat):Int):=by rw[Int.natCast_ediv,Int.natCast_pow];rfl
 rw[e1,e2,u32_or_nat _ _ (Nat.mod_lt _ nN) (mF (Nat.div_le_self _ _) h)];unfold zh;rw[a2Q _ (a0t x n),Nat.or_comm]
def Rt(l:List UInt8)(w:List UInt32)(i:Nat):UInt32:=
 if i<16 then AY l i else w.getD (i - 16) 0+(xR (w.getD (i - 15) 0) 7 18 3+w.getD (i - 7) 0+xR (w.getD (i - 2) 0) 17 19 10)
def tH(l:List UInt8):Nat->List UInt32
 |0=>[]
 |n+1=>tH l n++[Rt l (tH l n) n]
structure S8 where
 a:UInt32
 b:UInt32
 c:UInt32
 d:UInt32
 e:UInt32
 f:UInt32
 g:UInt32
 h:UInt32
deriving DecidableEq
def Mw(s:S8)(k w:UInt32):UInt32:=s.h+TU s.e 6 11 25+k+w+((s.e&&&s.f)^^^(~~~s.e&&&s.g))
def Ru(s:S8):UInt32:=TU s.a 2 13 22+((s.a&&&s.b)^^^(s.a&&&s.c)^^^(s.b&&&s.c))
def Wl(s:S8)(k w:UInt32):S8:=⟨Mw s k w+Ru s,s.a,s.b,s.c,s.d+Mw s k w,s.e,s.f,s.g⟩
def a0u(s t:S8):S8:=⟨s.a+t.a,s.b+t.b,s.c+t.c,s.d+t.d,s.e+t.e,s.f+t.f,s.g+t.g,s.h+t.h⟩
def Wm:List UInt8:=[66,138,47,152,113,55,68,145,181,192,251,207,233,181,219,165,57,86,194,91,89,241,17,241,146,63,130,164,171,28,94,213,216,7,170,152,18,131,91,1,36,49,133,190,85,12,125,195,114,190,93,116,128,222,177,254,155,220,6,167,193,155,241,116,228,155,105,193,239,190,71,134,15,193,157,198,36,12,161,204,45,233,44,111,74,116,132,170,92,176,169,220,118,249,136,218,152,62,81,82,168,49,198,109,176,3,39,200,191,89,127,199,198,224,11,243,213,167,145,71,6,202,99,81,20,41,41,103,39,183,10,133,46,27,33,56,77,44,109,252,83,56,13,19,101,10,115,84,118,106,10,187,129,194,201,46,146,114,44,133,162,191,232,161,168,26,102,75,194,75,139,112,199,108,81,163,209,146,232,25,214,153,6,36,244,14,53,133,16,106,160,112,25,164,193,22,30,55,108,8,39,72,119,76,52,176,188,181,57,28,12,179,78,216,170,74,91,156,202,79,104,46,111,243,116,143,130,238,120,165,99,111,132,200,120,20,140,199,2,8,144,190,255,250,164,80,108,235,190,249,163,247,198,113,120,242]
def kN(i:Nat):UInt32:=AY Wm i
def xS:S8:=⟨1779033703,3144134277,1013904242,2773480762,1359893119,2600822924,528734635,1541459225⟩
def yJ(l:List UInt8)(s:S8):Nat->S8
 |0=>s
 |n+1=>Wl (yJ l s n) (kN n) ((tH l 64).getD n 0)
def Mx(s:S8)(l:List UInt8):S8:=a0u s (yJ l s 64)
def DN(n:Nat):List UInt8:=128::(lu ((64 -(n+9) % 64) % 64) 0++(l7 8).map λi=>jZ (n*8/256^(7 - i) % 256))
def DR(A:S8->List UInt8->S8)(l:List UInt8):Nat->S8->S8
 |0,s=>s
 |k+1,s=>DR A (l.drop 64) k (A s (l.take 64))
theorem MB(A:S8->List UInt8->S8)(l:List UInt8)(k:Nat)(s:S8):DR A l (k+1) s=DR A (l.drop 64) k (A s (l.take 64)):=rfl
def Pg(l:List UInt8)(k:Nat)(s:S8):S8:=DR Mx l k s
def uY(x:UInt32):List UInt8:=[jZ (x.toNat/16777216 % 256),jZ (x.toNat/65536 % 256),jZ (x.toNat/256 % 256),jZ (x.toNat % 256)]
def S8.out(s:S8):List UInt8:=uY s.a++uY s.b++uY s.c++uY s.d++uY s.e++uY s.f++uY s.g++uY s.h
def TV(l:List UInt8):List UInt8:=(Pg (l++DN l.length) ((l++DN l.length).length/64) xS).out
end
section
open Go.RowKit
theorem Ph(a b c d:UInt8):
  bits BinOp.or IntKind.u32 (bits BinOp.or IntKind.u32 (bits BinOp.or IntKind.u32 ((a.toNat:Int)*16777216) ((b.toNat:Int)*65536)) ((c.toNat:Int)*256)) (d.toNat:Int)=
   ((UInt32.ofNat (a.toNat*16777216+b.toNat*65536+c.toNat*256+d.toNat)).toNat:Int):=by
 have I:=a.toNat_lt;have hb:=b.toNat_lt;have hc:=c.toNat_lt;have hd:=d.toNat_lt;have e (x y:Nat):((x:Int)*(y:Int))=((x*y:Nat):Int):=(Int.natCast_mul x y).symm
 rw[show(16777216:Int)=((16777216:Nat):Int)from rfl,show(65536:Int)=((65536:Nat):Int)from rfl,show(256:Int)=((256:Nat):Int)from rfl,e,e,e,
  u32_or_nat _ _ nK nK]
 have A:a.toNat*16777216|||b.toNat*65536=a.toNat*16777216+b.toNat*65536:=by
  have:=mO (show b.toNat*65536<2^24 by omega) a.toNat;rw[Nat.mul_comm a.toNat];exact this.symm
 rw[A,u32_or_nat _ _ nK nK];have C:(a.toNat*16777216+b.toNat*65536)|||c.toNat*256=a.toNat*16777216+b.toNat*65536+c.toNat*256:=by
  have:=mO (show c.toNat*256<2^16 by omega) (a.toNat*256+b.toNat);rw[show 2^16*(a.toNat*256+b.toNat)=a.toNat*16777216+b.toNat*65536 by omega]at this;exact this.symm
 rw[C,u32_or_nat _ _ nK nK];have E:(a.toNat*16777216+b.toNat*65536+c.toNat*256)|||d.toNat=a.toNat*16777216+b.toNat*65536+c.toNat*256+d.toNat:=by
  have:=mO (show d.toNat<2^8 by omega) (a.toNat*65536+b.toNat*256+c.toNat);rw[show 2^8*(a.toNat*65536+b.toNat*256+c.toNat)=a.toNat*16777216+b.toNat*65536+c.toNat*256 by omega]at this;exact this.symm
 rw[E,a2Q _ nK]
theorem Wn(s:ByteArray)(i:Nat)(h:4*i+4<=s.size):AY s.data.toList i=UInt32.ofNat (s[4*i].toNat*16777216+s[4*i+1].toNat*65536+s[4*i+2].toNat*256+s[4*i+3].toNat):=by
 have e:∀j (A:j<s.size),s.data.toList.getD j 0=s[j]:=by
  intro j A;have C:j<s.data.toList.length:=by rw[<-Lib.size_eq];exact A
  rw[lN,jX C];rfl
 unfold AY;rw[e _ nK,e _ nK,e _ nK,e _ nK]
theorem MC(a b c d:UInt8):
  bits BinOp.or IntKind.u32 (bits BinOp.or IntKind.u32 (bits BinOp.or IntKind.u32 ((a.toNat:Int) % 4294967296*16777216 % 4294967296) ((b.toNat:Int) % 4294967296*65536 % 4294967296)) ((c.toNat:Int) % 4294967296*256 % 4294967296)) ((d.toNat:Int) % 4294967296)=
   ((UInt32.ofNat (a.toNat*16777216+b.toNat*65536+c.toNat*256+d.toNat)).toNat:Int):=by
 have A:=a.toNat_lt;have hb:=b.toNat_lt;have hc:=c.toNat_lt;have hd:=d.toNat_lt;rw[<-Ph a b c d];congr 1
 .congr 1
  .congr 1<;>omega
  .omega
 .omega
theorem TW(s:ByteArray)(i:Nat):AY (s.extract (4*i) (4*i+4)).data.toList 0=AY s.data.toList i:=by
 have e:∀j,j<4->(s.extract (4*i) (4*i+4)).data.toList.getD j 0=s.data.toList.getD (4*i+j) 0:=by
  intro j A;rw[mY,lN,lN,List.getElem?_take_of_lt nK,List.getElem?_drop]
 unfold AY;rw[e _ nK,e _ nK,e _ nK,e _ nK];rfl
theorem ME(s:ByteArray)(i:Nat)(w:jJ)(hi:4*i+4<=s.size)(hs:s.size<=1000):
  jV jI 273 #[ny s,ng nH i] w λe w'=>e=nE (ng nJ (AY s.data.toList i).toNat)/\∃n,w'=w.drewN n:=by
 have E:(s.extract (4*i) (4*i+4)).size=4:=by rw[kz];omega
 have A:=Wn (s.extract (4*i) (4*i+4)) 0 nK;rw[TW]at A;go_in;have C:=jH A;clear A;go_wp2_with fail;go_quiet (fail);go_wp2_with fail;go_returns;exact⟨by rw[C.out,<-MC];rfl,_,rfl⟩
theorem a2R(x:UInt32)(n:Nat)(w:jJ)(E:1<=n)(I:n<=31):
  jV jI 292 #[ng nJ x.toNat,ng nH (-(n:Int))] w λe w'=>e=nE (ng nJ (zh x n).toNat)/\w=w':=by
 have J:=x.toNat_lt;have A:=jH (a5s x n);have e1:bits BinOp.and IntKind.u64 (IntKind.u64.wrap (-(n:Int))) 31=((32 - n:Nat):Int):=by
  have C:IntKind.u64.wrap (-(n:Int))=((18446744073709551616 - n:Nat):Int):=by
   rw[IntKind.wrap_u64];omega
  rw[C,show(31:Int)=((31:Nat):Int)from rfl,u64_and_nat _ _ nK nN];congr 1;rw[show(31:Nat)=2^5 - 1 from rfl,Nat.and_two_pow_sub_one_eq_mod];omega
 go_in;go_wp2_with fail;go_returns;refine⟨congrArg (λz=>lH (lT nJ z)) ?_,rfl⟩;rw[<-A.out,show 32 -(32 - n)=n by omega]
theorem yh(x:UInt32)(n:Nat)(w:jJ)(A:1<=n)(C:n<=31):
  jV jI 285 #[ng nJ x.toNat,ng nH n] w λe w'=>e=nE (ng nJ (zh x n).toNat)/\w=w':=by
 have c1:=jH (a2R x n w A C);have E:=x.toNat_lt;go_in;go_wp2_with fail;refine c1.mono ?_;rintro e w' ⟨rfl,rfl⟩;go_wp2_with fail;go_returns;exact⟨rfl,rfl⟩
theorem Pj{P:mK}{f:FuncId}{args:Array jP}{w:jJ}{n:Nat}{v:jP}(h:jV P f args (w.drewN n) λe w'=>e=nE v/\w.drewN n=w'):jV P f args (w.drewN n) λe A=>e=nE v/\∃m,A=w.drewN m:=
 h.mono λ_ _ ⟨he,C⟩=>⟨he,n,C.symm⟩
theorem Pk(x:UInt32)(a b c:Nat)(w:jJ)(A:1<=a/\a<=31)(hb:1<=b/\b<=31)(hc:1<=c/\c<=31):
  jV jI 275 #[ng nJ x.toNat,ng nH a,ng nH b,ng nH c] w λe w'=>e=nE (ng nJ (TU x a b c).toNat)/\w=w':=by
 have c1:=jH (yh x a w A.1 A.2);have c2:=jH (yh x b w hb.1 hb.2);have c3:=jH (yh x c w hc.1 hc.2);have C:=jH (Jc (zh x a) (zh x b));have E:=jH (Jc (zh x a^^^zh x b) (zh x c));clear A hb hc;go_in;go_wp2_with fail;refine c1.mono ?_;rintro e w' ⟨rfl,rfl⟩;go_wp2_with fail;refine c2.mono ?_;rintro e w' ⟨rfl,rfl⟩;go_wp2_with fail;refine c3.mono ?_;rintro e w' ⟨rfl,rfl⟩;go_wp2_with fail;go_returns;refine⟨congrArg (λz=>lH (lT nJ z)) ?_,rfl⟩;rw[C.out,E.out];rfl
theorem Kn(x:UInt32)(a b c:Nat)(w:jJ)(A:1<=a/\a<=31)(hb:1<=b/\b<=31)(hc:1<=c/\c<=31):
  jV jI 284 #[ng nJ x.toNat,ng nH a,ng nH b,ng nH c] w λe w'=>e=nE (ng nJ (xR x a b c).toNat)/\∃n,w'=w.drewN n:=by
 have c1:=jH (λw=>yh x a w A.1 A.2);have c2:=jH (λw=>yh x b w hb.1 hb.2);have C:=jH (Jc (zh x a) (zh x b));have E:=jH (Jc (zh x a^^^zh x b) (shr x c));have I:=jH (a5r x c);have Y:=x.toNat_lt;obtain⟨J,N⟩:=hc;obtain⟨O,Q⟩:=A;obtain⟨U,V⟩:=hb;clear c1 c2;go_in;go_wp2_with fail;go_quiet ((go_at_call 285;exact Pj (yh x _ _ nK nK)));go_wp2_with fail;go_returns;refine⟨congrArg (λz=>lH (lT nJ z)) ?_,_,rfl⟩;rw[C.out,I.out,E.out];rfl
def AbN{C:Type}(B:Nat)(E:C->jJ->Prop):Prop:=
 ∀s W A row,E s W->W.grownBy A row->(∀r,row=some r->B<=r)->E s A
def LU(E:Nat)(W A:jJ):Prop:=W.heap.size<=A.heap.size/\∀k cs t m,E<=k->W.heap[k]? =some (nG cs t m)->A.heap[k]? =some (nG cs t m)
theorem LU.trans{E:Nat}{A B C:jJ}(h:LU E A B)(k:LU E B C):LU E A C:=⟨kg h.1 k.1,λi cs t m hi hc=>k.2 i cs t m hi (h.2 i cs t m hi hc)⟩
theorem LU.refl(E:Nat)(W:jJ):LU E W W:=⟨jL _,λ_ _ _ _ _ h=>h⟩
theorem LU.put{E:Nat}{W:jJ}{l:Nat}{o:Obj}(A:Obj)(h:W.heap[l]? =some o)(ho:o.isCells=false):LU E W (W.putObj l A):=by
 have hl:=(ku.1 h).1;refine⟨(grownBy_putObj' W l A).size,λk cs t m _ hc=> ?_⟩;have C:k≠l:=by
  intro e;subst e;rw[h]at hc;cases hc;simp[Obj.isCells]at ho
 rw[(grownBy_putObj' W l A).block k (ku.1 hc).1 (by simpa using C)];exact hc
def MF(F:Fence)(n:Nat)(P:mK)(g:Nat)(lb:Array jP)(encs:Nat->Array jP)(I:jJ->jJ->Prop)(N:Nat)(w:jJ):Prop:=
 ∀(l:Nat)(E:Nat->jJ->Prop)(W:jJ),jS w.heap.size w W->AbN W.heap.size E->
  (∀k C,k<N->E k C->YieldAt F (n - 1) P l (encs k) C λe A=>e=nE (nA true)/\E (k+1) A/\I C A)->
  E 0 W->CallsIn F n P g (#[.func (.yield l) #[] #[]]++lb) W λe A=>(∃v,e=nE v)/\E N A
variable {F:Fence}{n:Nat}{P:mK}
def a5t(B E:Nat)(C:Nat->jJ->Prop)(k:Nat)(W:jJ):Exit->Act->jJ->Prop:=
 λe _ A=>e=.normal/\KeepsFrom B W A/\LU E W A/\C k A
theorem DT{g:Operand}{ps:Array Tmp}{assign body:Code}{Q:Exit->Act->jJ->Prop}{a:Act}{w:jJ}(au:F.round=none)(aB:1<=n){gf:Nat}{lb:Array jP}(hg:a.eval g=.func (.func gf) #[] lb)(av:F.fn gf)(eg:∀args w,(callFunc gf args).run P w=.ok (.enter gf args) w){encs:Nat->Array jP}{E N:Nat}{w0:jJ}(ai:MF F (n - 1) P gf lb encs (LU E) N w0)(hb0:jS w0.heap.size w0 w)(ax:∀k,(encs k).size=ps.size)(ae:Nat->jJ->Prop)(hI:AbN w.heap.size ae)(h0:ae 0 w)(Pm:∀(l k:Nat) (W:jJ),k<N->ae k W->assign.wpIn (F.inRound l) (n - 1 - 1) P (Exit.then (λY Z=>Z=W/\∀af,ae k af->body.wpIn (F.inRound l) (n - 1 - 1) P (a5t w.heap.size E ae (k+1) af) Y af) (λ_ _ _=>False))
   {tmps:=(ps.zip (encs k)).foldl (λt (p,v)=>t.setIfInBounds p v) a.tmps,defers:=[]} W)(hdone:∀(D:Nat) (W:jJ),w.heap.size<=D->ae N W->W.heap[D]? =some (.deferred (some []))->Q .normal {a with defers:={target:=.collected D,args:=#[]}::a.defers} W):
  (Code.rangeFunc g ps assign body).wpIn F n P Q a w:=by
 refine wpIn_rangeFunc λfn ay=> ?_
 rw[au];generalize C:(λst=>({state:=st,pending:=none,fn,tmps:=a.tmps,params:=ps,assign,body,defers:=w.heap.size}:Loop))=rec;have ag:∀st,(rec st).state=st:=λst=>by rw[<-C]
 generalize O:(w.alloc (.deferred (some []))).alloc (.loop (rec .ready))=J;have aO:J.heap.size=w.heap.size+2:=by rw[<-O];simp
 have aC:J.heap[w.heap.size+1]? =some (.loop (rec .ready)):=by
  rw[<-O];have:=World.alloc_heap_new (w.alloc (.deferred (some []))) (.loop (rec .ready));rwa [World.size_alloc]at this
 have aD:J.heap[w.heap.size]? =some (.deferred (some [])):=by
  rw[<-O];exact(Below.heap_alloc _ _ _ nR).trans (World.alloc_heap_new w _)
 have aF:ae 0 J:=by
  rw[<-O];exact hI _ _ _ none (hI _ _ _ none h0 (World.grownBy_alloc w _ none) (λ_ h=>by cases h)) (World.grownBy_alloc _ _ none) (λ_ h=>by cases h)
 have b1:jS w0.heap.size w0 J:=by
  rw[<-O];exact hb0.trans ((((jT _ w).alloc (jL _) _).alloc nR _).mono hb0.size)
 refine⟨w.heap.size+1,[{target:=.collected w.heap.size,args:=#[]}],J,{target:=.fn (.func gf) lb,args:=#[.func (.yield (w.heap.size+1)) #[] #[]]},J,gf,
  #[.func (.yield (w.heap.size+1)) #[] #[]]++lb,J,?_,?_,?_,?_,λ_=>aB,?_⟩
 .rw[<-O,<-C];exact run_enterLoop_outer _ _ _ _ _
 .simp only[resolve,hg]
  simp[go_sem]
 .intro aP ah;simp[Target.leads]at ah;subst ah;exact av
 .simp[invoke,go_sem,eg]
 .
  have keep:∀{A B:jJ}{row:Option Nat}{j:Nat}{o:Obj},A.grownBy B row->(∀r,row=some r->J.heap.size<=r)->j<J.heap.size->A.heap[j]? =some o->B.heap[j]? =some o:=by
   intro A B row j o U V aQ ho;rw[U.block j (ku.1 ho).1 (λe=>by have:=V j e.symm;omega)];exact ho
  refine(ai (w.heap.size+1) (λk W=>ae k W/\W.heap[w.heap.size+1]? =some (.loop (rec .ready))/\W.heap[w.heap.size]? =some (.deferred (some []))) J b1
   (λs A B row hs U V=>⟨hI s A B row hs.1 U (λr e=>by have:=V r e;omega),keep U V nK hs.2.1,keep U V nK hs.2.2⟩) ?_ ⟨aF,aC,aD⟩).mono ?_
  .rintro k W hk ⟨hi,hl,hd⟩
   have az:=run_yield (P:=P) (args:=encs k) hl (by rw[<-C];exact ax k);rw[<-C]at az
   have put:∀{W:jJ}{st:LoopState}(I:LoopState){k:Nat},W.heap[w.heap.size+1]? =some (.loop (rec st))->W.heap[w.heap.size]? =some (.deferred (some []))->ae k W->
     (W.putObj (w.heap.size+1) (.loop (rec I))).heap[w.heap.size+1]? =some (.loop (rec I))/\(W.putObj (w.heap.size+1) (.loop (rec I))).heap[w.heap.size]? =some (.deferred (some []))/\
      ae k (W.putObj (w.heap.size+1) (.loop (rec I))):=by
    intro W st I k hl hd hi;exact⟨World.putObj_heap_same (ku.1 hl).1,(World.putObj_heap_other nK).trans hd,hI _ _ _ (some (w.heap.size+1)) hi (grownBy_putObj' _ _ _) (λr e=>by cases e;omega)⟩
   have aj:∀st I,({rec st with state:=I}:Loop)=rec I:=λst I=>by rw[<-C]
   refine⟨fn,_,assign,body,az,roundIn_of_wpIn ay (wpIn_mono (Pm _ k W hk hi) ?_)⟩;rintro e Y Z hp;cases e with
   |normal=>
    obtain⟨rfl,hb⟩:=hp;obtain⟨aG,aH,aI⟩:=put .busy hl hd hi;refine⟨_,run_beginRound hl (ag _),?_⟩;rw[aj];refine wpIn_mono (hb _ aI) ?_;rintro e a3 W3 ⟨rfl,aA,c3,aJ⟩;have ak:=aA.same _ _ nK aG rfl;have aK:=aA.same _ _ (jL _) aH rfl;obtain⟨aL,aM,aN⟩:=put .ready ak aK aJ;have V:=run_endRound (P:=P) none ak;refine⟨_,_,V,?_⟩;have e4:({rec .busy with state:=if(none:Option Code).isNone then .ready else .done,pending:=none}:Loop)=rec .ready:=by rw[<-C];rfl
    rw[e4];exact⟨rfl,⟨aN,aL,aM⟩,((LU.put _ hl rfl).trans c3).trans (LU.put _ ak rfl)⟩
   |ret=>exact hp.elim
   |exit id=>exact hp.elim
   |goto t=>exact hp.elim
   |panic c=>exact hp.elim
   |outgrown=>exact hp.elim
  .rintro e af ⟨⟨v,rfl⟩,hi,hl,hd⟩
   have aa:=run_endLoop (P:=P) hl (by rw[ag];simp);have e5:(rec .ready).pending=none:=by rw[<-C]
   rw[e5]at aa;exact⟨none,_,aa,hdone _ _ (jL _) (hI _ _ _ (some (w.heap.size+1)) hi (grownBy_putObj' _ _ _) (λr e=>by cases e;omega)) ((World.putObj_heap_other nK).trans hd)⟩
variable {P:mK}{ops:Array lX}{Q:Exit->Act->jJ->Prop}{md:Region.Mode}{n:Nat}
theorem a5u(l:Nat){o:lX}{a:Act}{K:Act->jJ->Prop}:∀ r:Result Next,o.upon P a K Q r->o.uponIn (Fence.wide.inRound l) n P a K Q r
 | .ok (.value v) w',h=>h
 | .ok .skip w',h=>h
 | .ok (.defer d) w',h=>h
 | .ok (.enter f args) w',h=>⟨(λh=>by cases h),CallsIn.inRound l (callsIn_wide.2 h)⟩
 | .ok (.row row args) w',h=>⟨(λh=>by cases h),λc cs _=>by
   obtain⟨v,w2,A,hs⟩:=h c cs;exact⟨v,w2,A,stepsIn_wide.2 hs⟩⟩
 | .ok (.round _ _ _ _ _) w',h=>h.elim
 | .halt (.panic v) w',h=>h
 | .halt (.exit _) w',h=>h.elim
 | .halt (.stuck _) w',h=>h.elim
 | .halt (.unsupported _) w',h=>h.elim
theorem a5v(l:Nat)(hd:∀(i:Nat) (o:lX) c,ops[i]? =some o->o.op≠.defer c)(hL:¬LetsOut Q){K C:Act->jJ->Prop}(E:∀a w,K a w->C a w){i:Nat}{a:Act}{w:jJ}(h:wpOp P ops Q i K a w):
  wpOpIn (Fence.wide.inRound l) n P ops Q i C a w:=by
 refine wpOpIn_mono E ?_;unfold wpOp at h;unfold wpOpIn;split;.rename_i ho;simp only[ho]at h;exact h
 .rename_i o ho
  simp only[ho]at h;split
  .rename_i A
   simp only[A,if_true]at h;rcases h with h|⟨_,h⟩
   .refine⟨λ_ _=>trivial,?_⟩
    rw[Oper.semAt_plain _ _ _ (λc=>hd i o c ho)];exact a5u l _ h
   .exact absurd h hL
  .rename_i A
   simp only[A]at h;exact⟨λ_ _=>trivial,h⟩
theorem Wo(l:Nat)(hd:∀(i:Nat) (o:lX) c,ops[i]? =some o->o.op≠.defer c)(hL:¬LetsOut Q):∀(fuel:Nat)(A:Array Bool)(a:Act)(w:jJ),wpAny P md ops Q fuel A a w->
  wpAnyIn (Fence.wide.inRound l) n P md ops Q fuel A a w
 |0,_,_,_,h=>h
 |fuel+1,A,a,w,h=>⟨h.1,λi hi=>a5v l hd hL (λC w' E=>Wo l hd hL fuel _ C w' E) (h.2 i hi)⟩
def MG(ops:Array lX):Bool:=ops.all λo=>match o.op with| .defer _=>false|_=>true
theorem IG(h:MG ops=true)(i:Nat)(o:lX)(c:Call)(ho:ops[i]? =some o):o.op≠.defer c:=by
 intro e;have A:=Array.all_eq_true.1 h i (ku.1 ho).1;rw[(ku.1 ho).2,e]at A;cases A
theorem DU{id:Nat}{a:Act}{w:jJ}{l:List lX}(r:Nat)(I:P.follows .mixedOrders=true)(hB:Region.lexB .any l.toArray=true)(hd:MG l.toArray=true)(hL:¬LetsOut Q)(h:wpQuiet P l.toArray (λw'=>∃k,w'=w.drewN k) (λA=>∀k,Q .normal A (w.drewN k)) l a):(lg id l.toArray true).wpIn (Fence.wide.inRound r) n P Q a w:=by
 refine wpIn_region_any I (Wo r (IG hd) hL _ _ _ _ ?_);have e:(λA:Act=>∀k,Q .normal A (w.drewN k))=λA=>∀w',(∃k,w'=w.drewN k)->Q .normal A w':=by
  funext A;exact propext ⟨λh w' ⟨k,hk⟩=>hk▸h k,λh k=>h _ ⟨k,rfl⟩⟩
 rw[e]at h;simp only[Region.lexB,j3]at hB;refine wpAny_of_quiet (C:=λw'=>∃k,w'=w.drewN k) (Q:=λA=>∀w',(∃k,w'=w.drewN k)->Q .normal A w') (λ_ w' E h=>h w' E) _ _ _ _ ⟨1,rfl⟩ ?_;have:=wpAnyQ_lex (C:=λw'=>∃k,w'=w.drewN k) (md:=.any) hB.1 l 0 (lI l.toArray.size false) a nR (by simpa using hB.2) h;simpa using this
end
section
open Go.RowKit Go.Shelf
attribute [local go_sem] Oper.semAt_some
def wS(l:List UInt8)(i:Nat):UInt32:=(tH l 64).getD i 0
theorem uH(l:List UInt8):∀n,(tH l n).length=n
 |0=>rfl
 |n+1=>by rw[tH,jY,uH l n];rfl
theorem Ey(l:List UInt8)(i n:Nat)(h:i<n):∀m,(tH l (n+m)).getD i 0=(tH l n).getD i 0
 |0=>rfl
 |m+1=>by
  rw[<-Ey l i n h m,show n+(m+1)=(n+m)+1 by omega,tH,lN,lN,List.getElem?_append_left (by rw[uH];omega)]
theorem MH(l:List UInt8)(n i:Nat)(h:i<n)(hn:n<=64):(tH l n).getD i 0=wS l i:=by
 unfold wS;have:=Ey l i n h (64 - n);rw[show n+(64 - n)=64 by omega]at this;exact this.symm
theorem Rv(l:List UInt8)(i:Nat)(h:i<64):wS l i=Rt l (tH l i) i:=by
 rw[<-MH l (i+1) i nK nK,tH,lN,List.getElem?_append_right (by rw[uH];omega),uH];simp
theorem a5w(l:List UInt8)(i:Nat)(h:i<16):wS l i=AY l i:=by rw[Rv l i nK,Rt,if_pos h]
theorem a5x(l:List UInt8)(i:Nat)(h:16<=i)(A:i<64):wS l i=wS l (i - 16)+(xR (wS l (i - 15)) 7 18 3+wS l (i - 7)+xR (wS l (i - 2)) 17 19 10):=by
 rw[Rv l i A,Rt,if_neg nK,MH l i _ nK nK,MH l i _ nK nK,MH l i _ nK nK,MH l i _ nK nK]
def y8(l:Nat->UInt32):Nat->Array jP
 |0=>lI 16 (ng nJ 0)
 |k+1=>(y8 l k).setIfInBounds (k % 16) (ng nJ ((l k).toNat:Int))
theorem BD(l:Nat->UInt32):∀k,(y8 l k).size=16
 |0=>rfl
 |k+1=>by rw[y8,Array.size_setIfInBounds,BD l k]
theorem wG(l:Nat->UInt32):∀ k m:Nat,m<k->k<=m+16->(y8 l k)[m % 16]? =some (ng nJ ((l m).toNat:Int))
 |0,m,h,_=>by omega
 |k+1,m,h,A=>by
  rw[y8];by_cases e:m=k
  .subst e
   rw[Array.getElem?_setIfInBounds_self,if_pos (by rw[BD];omega)]
  .rw[Array.getElem?_setIfInBounds_ne nK]
   exact wG l k m nK nK
theorem TY(l:Nat->UInt32)(k j:Nat)(h:j<16):∃v,(y8 l k)[j]? =some v:=⟨_,Array.getElem?_eq_getElem (by rw[BD];exact h)⟩
theorem Wp{P:mK}{F:Fence}{n:Nat}{c:Code}{Q:Exit->Act->jJ->Prop}{a:Act}{W:jJ}(R:jJ->Prop)(A:R W)(h:∀w,R w->c.wpIn F n P Q a w):c.wpIn F n P Q a W:=h W A
theorem AbN.drewN{A:Type}{B:Nat}{C:A->jJ->Prop}(h:AbN B C){k:A}{w:jJ}(hk:C k w)(m:Nat):C k (w.drewN m):=h _ _ _ none hk ⟨rfl,rfl,rfl,jL _,λ_ _ _=>rfl⟩ (λ_ e=>by cases e)
theorem AbN.set{A:Type}{B:Nat}{C:A->jJ->Prop}(h:AbN B C){k:A}{w:jJ}(hk:C k w){b:Nat}(hb:B<=b)(i:Nat)(v:jP):C k (w.setCell ⟨b,i,none⟩ v):=
 h _ _ _ (some b) hk ⟨rfl,rfl,rfl,by simp[kC],λj _ E=>j6 _ _ _ _ (λe=>E (by rw[e]))⟩ (λ_ e=>by cases e;exact hb)
theorem a0v(f:FuncId):Fence.wide.fn f:=trivial
theorem FY(n:Nat):Fence.wide.depth.isSome=true->1<=n:=λh=>Bool.noConfusion h
def Wq(l:Nat->UInt32)(k:Nat):Array jP:=#[ng nH (k:Int),ng nJ ((l k).toNat:Int)]
theorem TZ(x:UInt32)(p q r:Int)(w:jJ)(hp:1<=p/\p<=31)(A:1<=q/\q<=31)(C:1<=r/\r<=31):
  jV jI 284 #[ng nJ x.toNat,ng nH p,ng nH q,ng nH r] w λe w'=>e=nE (ng nJ (xR x p.toNat q.toNat r.toNat).toNat)/\∃n,w'=w.drewN n:=by
 have h:=Kn x p.toNat q.toNat r.toNat w nK nK nK;rwa [show((p.toNat:Nat):Int)=p by omega,show((q.toNat:Nat):Int)=q by omega,show((r.toNat:Nat):Int)=r by omega]at h
theorem Ws{p:Prop}(h:p:=by
 refine Wp (λW2=>J k W2/\nO W2 B (y8 wv (k+1)) 314/\nO W2 Bs #[ny s] 9) ⟨hJ.set (hJ.drewN hJs _) a7F _ _,(hR.drewN _).set _ _,(hS.drewN _).setOther hne _⟩ ?_;rintro W1 ⟨hJ1,hR1,hS1⟩;obtain⟨fn,tmps,assign,body,hy,hR'⟩:=hY k W1 hlt hJ1;unfold Wq at hy;have hc1:W1.cell? ⟨B,k % 16,none⟩=some (ng nJ ((wv k).toNat:Int)):=(hR1.cell _).trans (wG _ _ _ nK nK)
 gi_wp2
 refine⟨FY _,hR'.mono ?_⟩;rintro e W3 ⟨rfl,hJ3,hK3⟩
 gi_wp2
 go_roundw;case rel=>exact⟨k+1,nK,by go_num,hJ3,hK3.2 _ _ _ _ nK hR1,hK3.2 _ _ _ _ hE hS1⟩
 case measure=>simp[kW];omega):p:=h
theorem Pn(n l Bs E:Nat)(s:ByteArray)(wv:Nat->UInt32)(hw1:∀(k:Nat) (w:jJ),k<16->jV jI 273 #[ny s,ng nH k] w λe w'=>e=nE (ng nJ (wv k).toNat)/\∃n,w'=w.drewN n)(hw2:∀k,16<=k->k<64->wv k=wv (k - 16)+(xR (wv (k - 15)) 7 18 3+wv (k - 7)+xR (wv (k - 2)) 17 19 10))(J:Nat->jJ->Prop)(W:jJ)(hJ:AbN W.heap.size J)(hY:∀k W1,k<64->J k W1->YieldAt Fence.wide (n - 1) jI l (Wq wv k) W1 λe I=>e=nE (nA true)/\J (k+1) I/\LU E W1 I)(hE:E<=Bs)(qO:nO W Bs #[ny s] 9)(h0:J 0 W):
  CallsIn Fence.wide n jI 283 #[.func (.yield l) #[] #[],nz (some ⟨Bs,0,none⟩)] W λe I=>(∃v,e=nE v)/\J 64 I:=by
 have Z:Fence.wide.round=none:=rfl;have aa:=jH hw1;have ae:=jH hw2;clear hw1 hw2;obtain⟨B,hB⟩:=nT W.heap.size;have ax:Bs<B:=by rw[<-hB];exact qO.lt
 refine callsIn_of_wp Tryz.func283 rfl trivial ?_ Z;simp only[Tryz.ntmps283,mP,kD,List.length_nil,Nat.reduceAdd,Nat.reduceSub,Array.replicate_succ,Array.replicate_zero,List.push_toArray,List.append_toArray,List.nil_append,mU]
 gi_wp2
 have af:nO (W.alloc (nG (y8 wv 0) 314)) B (y8 wv 0) 314:=by rw[<-hB];exact nO.new _ _ _
 have ag:=hJ _ _ _ none h0 (World.grownBy_alloc W (nG (y8 wv 0) 314) none) (λ_ h=>by cases h);have O:=qO.alloc (nG (y8 wv 0) 314)
 gi_loopw [6] (λi wr=>∃k:Nat,k<=64/\i=ng nH k/\J k wr/\nO wr B (y8 wv k) 314/\nO wr Bs #[ny s] 9) (λi _=>64 -(kW i).toNat)
 case atStart=>exact⟨0,nK,rfl,ag,af,O⟩
 case round=>
  obtain⟨k,hk,rfl,hJs,hR,hS⟩:=hrel;by_cases hlt:k<64
  .have A:=hS.cell 0
   have A:wr.cell? ⟨Bs,0,none⟩=some (ny s):=A;have hne:Bs≠B:=nK;have a7F:W.heap.size<=B:=nK;obtain⟨v0,N⟩:=TY wv k (k % 16) nK;have ah:wr.cell? ⟨B,k % 16,none⟩=some v0:=(hR.cell _).trans N;have aC:=hR.free (k % 16);by_cases ai:k<16
   .have ay:=jH (λw=>aa.out k w ai)
    gi_upto_region 8 with(refine⟨trivial,?_⟩;gi_at_call 273;skip)
    refine⟨a0v _,FY _,CallsIn.mono (callsIn_wide.2 (ay _)) ?_⟩;rintro e w' ⟨rfl,nq,rfl⟩
    gi_upto_region 8 with(fail)
    exact Ws
   .have Q:=wG wv k (k - 16) nK nK
    have e1:=wG wv k (k - 15) nK nK;have U:=wG wv k (k - 7) nK nK;have C:=wG wv k (k - 2) nK nK;rw[show(k - 16) % 16=k % 16 by omega]at Q;rw[show(k - 15) % 16=(k+1) % 16 by omega]at e1;rw[show(k - 7) % 16=(k+9) % 16 by omega]at U;rw[show(k - 2) % 16=(k+14) % 16 by omega]at C;have aG:=(hR.cell (k % 16)).trans Q;have aH:=(hR.cell ((k+1) % 16)).trans e1;have aI:=(hR.cell ((k+9) % 16)).trans U;have aD:=(hR.cell ((k+14) % 16)).trans C;have hw2:=ae.out k nK nK;generalize aj:wv (k - 16)=az at*;generalize ak:wv (k - 15)=aA at*;generalize au:wv (k - 7)=aB at*;generalize V:wv (k - 2)=av at*;have Y:=jH hw2;clear hw2 Q e1 U C aj ak au V ah A N
    gi_upto_region 7 with(refine⟨trivial,?_⟩;skip)
    refine wpIn_wide.2 (pQ 24 nM nM ?_);simp only[ky,kQ,mX,List.drop_zero];repeat(go_big_quiet_step (exact Calls.quiet_of (TZ _ _ _ _ _ nN nN nN)))
    refine mJ ?_;intro aF;go_wp2;have hval:(((az.toNat:Int)+(((xR aA 7 18 3).toNat:Int)+(aB.toNat:Int)+((xR av 17 19 10).toNat:Int))) % 4294967296)=((wv k).toNat:Int):=by
     rw[Y.out,<-zD,<-zD,<-zD];omega
    rw[hval];exact Ws
  .obtain rfl:k=64:=nK
   gi_wp2
   go_end0;exact⟨⟨_,rfl⟩,hJs⟩
def a5y(b:Nat):jP:=.func (.func 283) #[] #[nz (some ⟨b,0,none⟩)]
theorem Po(s:ByteArray)(w:jJ):
  jV jI 274 #[ny s] w λe w'=>∃b,e=nE (a5y b)/\w.heap.size<=b/\jS w.heap.size w w'/\nO w' b #[ny s] 9:=by
 go_in;go_wp2_with fail;go_returns;exact⟨_,rfl,jL _,(jT _ _).alloc (jL _) _,nO.new _ _ _⟩
theorem Pp(n Bs E:Nat)(s:ByteArray)(w:jJ)(hs:s.size=64)(I:E<=Bs)(hB:nO w Bs #[ny s] 9):
  MF Fence.wide n jI 283 #[nz (some ⟨Bs,0,none⟩)] (Wq (wS s.data.toList)) (LU E) 64 w:=by
 intro l O W hb J N h0;exact Pn n l Bs E s (wS s.data.toList) (λk w hk=>by
  rw[a5w _ _ hk];exact ME s k w nK nK) (λk A C=>a5x _ _ A C) O W J N I (Below.blk hb hB hB.lt) h0
end
section
open Go.RowKit
section fold
variable {σ:Type}(step:σ->Nat×Nat->Nat->σ)
def pW(f:Nat->Option Nat):List (Nat×Nat)->σ->σ
 |[],s=>s
 |p::r,s=>pW f r (match f p.1 with|some b=>step s p b|none=>s)
def upd(f:Nat->Option Nat)(i b:Nat):Nat->Option Nat:=λj=>if j=i then some b else f j
variable {step}
theorem BG(hc:∀s p q b c,p.1≠q.1->p.2≠q.2->step (step s p b) q c=step (step s q c) p b)(f:Nat->Option Nat)(p:Nat×Nat)(b:Nat):
  ∀(l:List (Nat×Nat))(s:σ),(∀q∈l,p.1≠q.1/\p.2≠q.2)->pW step f l (step s p b)=step (pW step f l s) p b
 |[],s,_=>rfl
 |q::r,s,h=>by
  have C:=h q nR;rw[pW,pW];cases E:f q.1 with
  |none=>exact BG hc f p b r s λx A=>h x (by simp[A])
  |some c=>
   show pW step f r (step (step s p b) q c)=step (pW step f r (step s q c)) p b;rw[hc s p q b c C.1 C.2];exact BG hc f p b r _ λx A=>h x (by simp[A])
theorem xy(f g:Nat->Option Nat):∀(l:List (Nat×Nat))(s:σ),(∀q∈l,f q.1=g q.1)->pW step f l s=pW step g l s
 |[],s,_=>rfl
 |q::r,s,h=>by
  rw[pW,pW,h q nR];exact xy f g r _ λx A=>h x (by simp[A])
theorem DV(hc:∀s p q b c,p.1≠q.1->p.2≠q.2->step (step s p b) q c=step (step s q c) p b)(f:Nat->Option Nat)(p:Nat×Nat)(b:Nat)(C:f p.1=none):
  ∀(l:List (Nat×Nat))(s:σ),l.Pairwise (λx y=>x.1≠y.1/\x.2≠y.2)->p∈l->step (pW step f l s) p b=pW step (upd f p.1 b) l s
 |[],s,_,h=>by cases h
 |q::r,s,hl,h=>by
  rw[List.pairwise_cons]at hl;rcases mD.1 h with rfl|E
  .have A:∀x∈r,p.1≠x.1/\p.2≠x.2:=hl.1
   rw[pW,pW,C];have e:upd f p.1 b p.1=some b:=by simp[upd]
   rw[e];show step (pW step f r s) p b=pW step (upd f p.1 b) r (step s p b);rw[<-BG hc f p b r s A];refine xy _ _ r _ λx I=> ?_
   have:=(A x I).1;unfold upd;rw[if_neg (Ne.symm this)]
  .have A:=hl.1 p E
   rw[pW,pW];have e:upd f p.1 b q.1=f q.1:=by unfold upd;rw[if_neg A.1]
   rw[e];exact DV hc f p b C r _ hl.2 E
end fold
def FZ(a:Act)(p:Nat×Nat)(b:Nat):Act:=a.put (some p.2) (nz (some ⟨b,0,none⟩))
def yK(L:Array Bool)(p:Nat×Nat)(b:Nat):Array Bool:=L.setIfInBounds p.1 true
theorem T9(s:Act)(p q:Nat×Nat)(b c:Nat)(C:p.1≠q.1)(A:p.2≠q.2):FZ (FZ s p b) q c=FZ (FZ s q c) p b:=by
 unfold FZ;exact(Act.put_comm s _ _ (λd hd=>by cases hd;simpa using λe=>A e)).symm
theorem Ua(s:Array Bool)(p q:Nat×Nat)(b c:Nat)(A:p.1≠q.1)(C:p.2≠q.2):yK (yK s p b) q c=yK (yK s q c) p b:=by
 unfold yK;exact Array.setIfInBounds_comm _ _ A
theorem Cq(f:Nat->Option Nat)(d:Bool)(j:Nat):∀(l:List (Nat×Nat))(L:Array Bool),(∀p∈l,p.1=j->f p.1=none)->(pW yK f l L).getD j d=L.getD j d
 |[],L,_=>rfl
 |p::r,L,h=>by
  rw[pW,Cq f d j r _ λx A=>h x (by simp[A])];cases C:f p.1 with
  |none=>rfl
  |some b=>
   have:p.1≠j:=λe=>by have:=h p nR e;rw[C]at this;cases this
   exact getD_set_ne d this
theorem Jd(f:Nat->Option Nat)(j:Nat):∀(l:List (Nat×Nat))(L:Array Bool),L.getD j false=true->(pW yK f l L).getD j false=true
 |[],L,h=>h
 |p::r,L,h=>by
  rw[pW];refine Jd f j r _ ?_;cases A:f p.1 with
  |none=>exact h
  |some b=>exact getD_set_true h
theorem Je(f:Nat->Option Nat)(d:Bool)(j:Nat):∀(l:List (Nat×Nat))(L:Array Bool),L.getD j d=true->(pW yK f l L).getD j d=true
 |[],L,h=>h
 |p::r,L,h=>by
  rw[pW];refine Je f d j r _ ?_;cases A:f p.1 with
  |none=>exact h
  |some b=>
   by_cases e:p.1=j
   .subst e
    unfold yK;simp only[lK,Array.getElem?_setIfInBounds_self];split;.rfl
    .rename_i hn
     rw[lK,Array.getElem?_eq_none nK]at h;exact h
   .exact(getD_set_ne d e).trans h
theorem Jf(f:Nat->Option Nat)(p:Nat×Nat)(b:Nat)(A:f p.1=some b):∀(l:List (Nat×Nat))(L:Array Bool),p∈l->(pW yK f l L).getD p.1 true=true
 |[],_,h=>by cases h
 |q::r,L,h=>by
  rw[pW];rcases mD.1 h with rfl|C
  .rw[A]
   refine Je f true p.1 r _ ?_;show(L.setIfInBounds p.1 true).getD p.1 true=true;rw[lK,Array.getElem?_setIfInBounds_self];split<;>rfl
  .exact Jf f p b A r _ C
def left(f:Nat->Option Nat)(l:List (Nat×Nat)):Nat:=(l.filter λp=>(f p.1).isNone).length
theorem MI(f:Nat->Option Nat)(p:Nat×Nat)(b:Nat)(C:f p.1=none):∀(l:List (Nat×Nat)),l.Pairwise (λx y=>x.1≠y.1/\x.2≠y.2)->p∈l->left f l=left (upd f p.1 b) l+1
 |[],_,h=>by cases h
 |q::r,hl,h=>by
  rw[List.pairwise_cons]at hl;unfold left;rcases mD.1 h with rfl|E
  .have e:(upd f p.1 b p.1).isNone=false:=by simp[upd]
   rw[List.filter_cons_of_pos (by simp[C]),List.filter_cons_of_neg (by simp[e]),kD];congr 2;refine List.filter_congr λx J=> ?_
   have:=(hl.1 x J).1;unfold upd;rw[if_neg (Ne.symm this)]
  .have I:=(hl.1 p E).1
   have e:upd f p.1 b q.1=f q.1:=by unfold upd;rw[if_neg I]
   have A:=MI f p b C r hl.2 E;unfold left at A;by_cases c:(f q.1).isNone=true;.rw[List.filter_cons_of_pos (by simpa using c),List.filter_cons_of_pos (by rw[e];simpa using c),kD,kD,A]
   .rw[List.filter_cons_of_neg (by simpa using c),List.filter_cons_of_neg (by rw[e];simpa using c),A]
structure a2p(H:Nat)(T:ko)(z:jP)(w0:jJ)(f:Nat->Option Nat)(l:List (Nat×Nat))(w:jJ):Prop where
 below:jS H w0 w
 blk:∀p∈l,∀b,f p.1=some b->H<=b/\nO w b #[z] T
 inj:∀p∈l,∀q∈l,∀b,f p.1=some b->f q.1=some b->p.1=q.1
variable {P:mK}{ops:Array lX}{Q:Exit->Act->jJ->Prop}{S:jJ->Prop}{md:Region.Mode}
theorem MJ{z:jP}{H fuel:Nat}{w0:jJ}{a0:Act}{A:Array Bool}(l:List (Nat×Nat))(hl:l.Pairwise (λx y=>x.1≠y.1/\x.2≠y.2))(aH:H<=w0.heap.size)(hop:∀p∈l,∃o,ops[p.1]? =some o/\o.dst=some p.2/\o.guard=none/\(∀aI w,(execOp aI o).run P w=.ok (.value (nz (some ⟨w.heap.size,0,none⟩))) (w.alloc (nG #[z] T)))/\
   (∀e∈o.after,mr md e=true->A.getD e.on false=true)/\A.getD p.1 true=false)(ag:∀j o,ops[j]? =some o->A.getD j true=false->(∀p∈l,p.1≠j)->∀p∈l,∃e∈o.after,mr md e=true/\e.on=p.1)(aA:∀w,S w->S (w.alloc (nG #[z] T)))(av:∀(bs:Nat->Nat) w,S w->a2p H T z w0 (λi=>some (bs i)) l w->wpAnyH P md ops Q S fuel (pW yK (λi=>some (bs i)) l A) (pW FZ (λi=>some (bs i)) l a0) w):
  ∀(k:Nat)(f:Nat->Option Nat)(w:jJ),left f l=k->S w->a2p H T z w0 f l w->wpAnyH P md ops Q S (fuel+k) (pW yK f l A) (pW FZ f l a0) w:=by
 intro k;induction k with
 |zero=>
  intro f w hk U J;have I:∀p∈l,f p.1=some ((f p.1).getD 0):=by
   intro p hp;cases N:f p.1 with
   |some b=>rfl
   |none=>
    have:p∈l.filter λp=>(f p.1).isNone:=List.mem_filter.2 ⟨hp,by simp[N]⟩
    rw[mf.1 hk]at this;cases this
  have h:=av (λi=>(f i).getD 0) w U ⟨J.below,λp hp b hb=>J.blk p hp b (by rw[I p hp];exact hb),λp hp q O b C E=>J.inj p hp q O b (by rw[I p hp];exact C) (by rw[I q O];exact E)⟩;rw[xy f (λi=>some ((f i).getD 0)) l A I,xy f (λi=>some ((f i).getD 0)) l a0 I];exact h
 |succ k aJ=>
  intro f w hk U J;have V:∀p∈l,f p.1=none->(pW yK f l A).getD p.1 true=false/\(pW yK f l A).getD p.1 false=false:=by
   intro p hp N;obtain⟨o,_,_,_,_,_,h0⟩:=hop p hp;rw[Cq f true p.1 l A (λx _ e=>by rw[e];exact N),Cq f false p.1 l A (λx _ e=>by rw[e];exact N)];refine⟨h0,?_⟩;rw[lK]at h0⊢;cases ah:A[p.1]? with
   |none=>rw[ah]at h0;cases h0
   |some v=>rw[ah]at h0;exact h0
  obtain⟨Z,Y,ai⟩:∃p∈l,f p.1=none:=by
   have:0<(l.filter λp=>(f p.1).isNone).length:=by show 0<left f l;omega
   obtain⟨p,hp⟩:=List.exists_mem_of_length_pos this;obtain⟨C,E⟩:=List.mem_filter.1 hp;exact⟨p,C,by simpa using E⟩
  have aa:∀i,i∈lQ md ops (pW yK f l A)->∃p∈l,p.1=i/\f p.1=none:=by
   intro i hi;obtain⟨h0,o,ho,he⟩:=mem_ready.1 hi;rcases Classical.em (∃p∈l,p.1=i)with⟨p,hp,aj⟩|ak
   .refine⟨p,hp,aj,?_⟩
    cases N:f p.1 with
    |none=>rfl
    |some b=>
     have:=Jf f p b N l A hp;rw[aj,h0]at this;cases this
   .exfalso
    have hL:A.getD i true=false:=by rw[<-h0,Cq f true i l A (λx ah e=>absurd ⟨x,ah,e⟩ ak)]
    obtain⟨e,ae,af,aB⟩:=ag i o ho hL (λp hp e=>ak ⟨p,hp,e⟩) Z Y;have C:=he e ae af;rw[aB,(V Z Y ai).2]at C;cases C
  refine⟨λax=> ?_,λi hi=> ?_⟩
  .exfalso
   obtain⟨o,ho,_,_,_,aC,_⟩:=hop Z Y;have:Z.1∈lQ md ops (pW yK f l A):=mem_ready.2 ⟨(V Z Y ai).1,o,ho,λe ae af=>Jd f e.on l A (aC e ae af)⟩;rw[ax]at this;cases this
  .obtain⟨p,hp,rfl,N⟩:=aa i hi
   obtain⟨o,ho,ay,hg,az,_,_⟩:=hop p hp;unfold wpOp;simp only[ho];have aK:∀y,Region.wanted o y=true:=λy=>by unfold Region.wanted;rw[hg]
   rw[if_pos (aK _)];refine .inl ?_;unfold Oper.wp;rw[az];show S _/\wpAnyH P md ops Q S (fuel+k) _ ((pW FZ f l a0).put o.dst (nz (some ⟨w.heap.size,0,none⟩))) _;rw[ay];refine⟨aA w U,?_⟩;have e1:=DV Ua f p w.heap.size N l A hl hp;have e2:=DV T9 f p w.heap.size N l a0 hl hp;have aD:(pW yK f l A).setIfInBounds p.1 true=pW yK (upd f p.1 w.heap.size) l A:=e1;have aF:(pW FZ f l a0).put (some p.2) (nz (some ⟨w.heap.size,0,none⟩))=pW FZ (upd f p.1 w.heap.size) l a0:=e2;rw[aD,aF];have aL:=MI f p w.heap.size N l hl hp;have au:H<=w.heap.size:=kg aH J.below.size;refine aJ _ _ nK (aA w U) ⟨J.below.alloc au _,λq O b hb=> ?_,λq O r aG b C E=> ?_⟩
   .unfold upd at hb
    by_cases c:q.1=p.1
    .rw[if_pos c]at hb
     cases hb;exact⟨au,nO.new w _ T⟩
    .rw[if_neg c]at hb
     obtain⟨C,E⟩:=J.blk q O b hb;exact⟨C,E.alloc _⟩
   .unfold upd at C E
    by_cases c:q.1=p.1
    .by_cases d:r.1=p.1
     .rw[c,d]
     .rw[if_pos c]at C
      rw[if_neg d]at E;cases C;exact absurd (J.blk r aG _ E).2.lt (Nat.lt_irrefl _)
    .rw[if_neg c]at C
     by_cases d:r.1=p.1
     .rw[if_pos d]at E
      cases E;exact absurd (J.blk q O _ C).2.lt (Nat.lt_irrefl _)
     .rw[if_neg d]at E
      exact J.inj q O r aG b C E
section
variable {P:mK}{I:jJ->Prop}
end
section
variable {P:mK}{ops:Array lX}{md:Region.Mode}{C S:jJ->Prop}{Q:Exit->Act->jJ->Prop}
end
end
section
open Go.RowKit Go.Shelf
def S8.cs(s:S8):Array jP:=#[ng nJ (s.a.toNat:Int),ng nJ (s.b.toNat:Int),ng nJ (s.c.toNat:Int),ng nJ (s.d.toNat:Int),ng nJ (s.e.toNat:Int),ng nJ (s.f.toNat:Int),ng nJ (s.g.toNat:Int),ng nJ (s.h.toNat:Int)]
def a5z(md:Region.Mode)(ops:Array lX)(A:Array Bool)(l:List (Nat×Nat)):Bool:=
 (l7 ops.size).all λj=>A.getD j true||(l.any λp=>p.1==j)||(match ops[j]? with|some o=>l.all λp=>o.after.any λe=>mr md e&&e.on==p.1|none=>true)
theorem Pq{md:Region.Mode}{ops:Array lX}{E:Array Bool}{l:List (Nat×Nat)}(h:a5z md ops E l=true):
  ∀j o,ops[j]? =some o->E.getD j true=false->(∀p∈l,p.1≠j)->∀p∈l,∃e∈o.after,mr md e=true/\e.on=p.1:=by
 intro j o ho hL I p hp;have A:=lY.1 h j (mg.2 (ku.1 ho).1);rw[hL]at A;have J:(l.any λp=>p.1==j)=false:=by
  rw[List.any_eq_false];intro q N;simpa using I q N
 rw[J]at A;simp only[ho,Bool.false_or]at A;have O:=lY.1 A p hp;obtain⟨i,hi,C⟩:=Array.any_eq_true.1 O;simp only[j3,beq_iff_eq]at C;exact⟨_,Array.getElem_mem hi,C.1,C.2⟩
def MK(md:Region.Mode)(ops:Array lX)(A:Array Bool)(T:ko)(p:Nat×Nat):Bool:=
 match ops[p.1]? with
 |some o=>(o.dst==some p.2)&&o.guard.isNone&&(match o.op with| .alloc t=>t==T|_=>false)&&(o.after.all λe=> !(mr md e)||A.getD e.on false)&& !(A.getD p.1 true)
 |none=>false
theorem II{P:mK}{z:jP}{md:Region.Mode}{ops:Array lX}{I:Array Bool}{l:List (Nat×Nat)}(h:(l.all (MK md ops I T))=true)(Q:∀C dst E pos after w,(execOp C {dst:=dst,op:=.alloc T,type:=E,pos:=pos,after:=after,guard:=none}).run P w=.ok (.value (nz (some ⟨w.heap.size,0,none⟩))) (w.alloc (nG #[z] T))):
  ∀p∈l,∃o,ops[p.1]? =some o/\o.dst=some p.2/\o.guard=none/\(∀C w,(execOp C o).run P w=.ok (.value (nz (some ⟨w.heap.size,0,none⟩))) (w.alloc (nG #[z] T)))/\
   (∀e∈o.after,mr md e=true->I.getD e.on false=true)/\I.getD p.1 true=false:=by
 intro p hp;have A:=lY.1 h p hp;unfold MK at A;cases ho:ops[p.1]? with
 |none=>rw[ho]at A;cases A
 |some o=>
  rw[ho]at A;simp only[j3,beq_iff_eq,Bool.not_eq_true']at A;obtain⟨⟨⟨⟨A,N⟩,J⟩,O⟩,U⟩:=A;obtain⟨dst,op,E,pos,after,guard⟩:=o;simp only at A N J O;cases guard with
  |some g=>cases N
  |none=>
   cases op<;>simp at J;subst J;refine⟨_,rfl,A,rfl,λC w=>Q C _ _ _ _ w,λe he hb=> ?_,U⟩;have:=Array.all_eq_true'.1 O e he;simpa [hb]using this
theorem Ub(C:Operand->jP)(dst:Option Tmp)(A:ko)(pos:String)(after:Array Edge)(w:jJ):
  (execOp C {dst:=dst,op:=.alloc 22,type:=A,pos:=pos,after:=after,guard:=none}).run jI w=.ok (.value (nz (some ⟨w.heap.size,0,none⟩))) (w.alloc (nG #[ng nJ 0] 22)):=by
 simp[go_sem]
theorem Uc(k:Nat)(w:jJ)(hk:k<64):
  jV jI 272 #[ng nH k] w λe w'=>e=nE (ng nJ (kN k).toNat)/\∃n,w'=w.drewN n:=by
 obtain⟨R,A⟩:∃R:ByteArray,R=⟨Wm.toArray⟩:=⟨_,rfl⟩;have C:R.size=256:=by rw[A];rfl
 have c1:=ME R k w nK nK;have e1:AY R.data.toList k=kN k:=by rw[A];rfl
 rw[e1]at c1;have c1:=jH c1;clear e1 C;have A:=jH A;go_in;go_wp2_with fail;rw[A.out]at c1;refine c1.mono ?_;rintro e w' ⟨rfl,n,rfl⟩;go_wp2_with fail;go_returns;exact⟨rfl,_,rfl⟩
theorem IJ{P:mK}{c:Code}{K:Act->jJ->Prop}{Q:Exit->Act->jJ->Prop}{a:Act}{w:jJ}(h:c.wp P (Exit.then K λ_ _ _=>False) a w):c.wp P (Exit.then K Q) a w:=
 wp_mono h λe a w=>by cases e<;>first|exact λh=>h|exact λh=>h.elim
theorem vL{P:mK}{md:Region.Mode}{ops:Array lX}{Q:Exit->Act->jJ->Prop}{S:jJ->Prop}{n:Nat}{A:Array Bool}{a:Act}{W:jJ}(R:jJ->Prop)(C:R W)(h:∀w,R w->wpAnyH P md ops Q S n A a w):wpAnyH P md ops Q S n A a W:=h W C
def upI(x:Nat->Int)(j:Nat)(y:Int):Nat->Int:=λi=>if i=j then y else x i
def S8.at_(s:S8):Nat->Int
 |0=>s.a.toNat
 |1=>s.b.toNat
 |2=>s.c.toNat
 |3=>s.d.toNat
 |4=>s.e.toNat
 |5=>s.f.toNat
 |6=>s.g.toNat
 |_=>s.h.toNat
structure a5A(b0:Nat)(bs:Nat->Nat):Prop where
 inj:∀i j,i<8->j<8->bs (16+i)=bs (16+j)->i=j
 ge:∀j,j<8->b0+3<=bs (16+j)
structure vM(b0:Nat)(bs:Nat->Nat)(cs:Array jP)(w:jJ)(x:Nat->Int)(W:jJ):Prop where
 below:jS b0 w W
 st:nO W b0 cs 31
 res:nO W (b0+1) (lI 8 (ng nJ 0)) 31
 cl:nO W (b0+2) #[.func (.func 272) #[] #[]] 302
 v:∀j,j<8->nO W (bs (16+j)) #[ng nJ (x j)] 22
theorem vM.set{b0:Nat}{bs:Nat->Nat}{cs:Array jP}{w W:jJ}{x:Nat->Int}(h:vM b0 bs cs w x W)(hs:a5A b0 bs)(j:Nat)(A:j<8)(y:Int):
  vM b0 bs cs w (upI x j y) (W.setCell ⟨bs (16+j),0,none⟩ (ng nJ y)):=by
 have hg:=hs.ge j A;refine⟨h.below.setCell nQ _,h.st.setOther nQ _,h.res.setOther nQ _,h.cl.setOther nQ _,λi hi=> ?_⟩;by_cases e:i=j
 .subst e
  have:=(h.v i hi).set 0 (ng nJ y);simpa [upI]using this
 .have C:bs (16+i)≠bs (16+j):=λc=>e (hs.inj i j hi A c)
  have:=(h.v i hi).setOther (a:=⟨bs (16+j),0,none⟩) C (ng nJ y);simpa [upI,e]using this
theorem vM.drewN{b0:Nat}{bs:Nat->Nat}{cs:Array jP}{w W:jJ}{x:Nat->Int}(h:vM b0 bs cs w x W)(n:Nat):vM b0 bs cs w x (W.drewN n):=
 ⟨⟨h.below.os,h.below.tape,h.below.output,h.below.size,h.below.block⟩,h.st,h.res,h.cl,h.v⟩
theorem vM.congr{b0:Nat}{bs:Nat->Nat}{cs:Array jP}{w W:jJ}{x y:Nat->Int}(h:vM b0 bs cs w x W)(e:∀j,j<8->x j=y j):vM b0 bs cs w y W:=
 ⟨h.below,h.st,h.res,h.cl,λj A=>by rw[<-e j A];exact h.v j A⟩
theorem vM.grown{b0:Nat}{bs:Nat->Nat}{cs:Array jP}{w W A:jJ}{x:Nat->Int}{row:Option Nat}{E:Nat}(h:vM b0 bs cs w x W)(J:∀j,j<8->bs (16+j)<E)(N:b0+2<E)(hg:W.grownBy A row)(C:∀r,row=some r->E<=r):vM b0 bs cs w x A:=by
 have keep:∀{b cs t},nO W b cs t->b<E->nO A b cs t:=by
  intro b cs t hb hlt;unfold nO;rw[hg.block b hb.lt (λe=>by have:=C b e.symm;omega)];exact hb
 have hsz:=hg.size;have hlt:=h.st.lt;refine⟨h.below.grown hg nK (λk hk=>by have:=C k hk;omega),keep h.st nK,keep h.res nK,keep h.cl nK,λj I=>keep (h.v j I) (J j I)⟩
theorem Am:∀j,j<8->(16+j,6+j)∈[(16,6),(17,7),(18,8),(19,9),(20,10),(21,11),(22,12),(23,13)]:=nN
theorem a5B(x:UInt32):bits BinOp.xor IntKind.u32 (if IntKind.u32.signed=true then -1 else IntKind.u32.max) (x.toNat:Int)=((~~~x).toNat:Int):=by
 have h:=Jc 4294967295 x;have e:(4294967295:UInt32)^^^x= ~~~x:=by
  apply UInt32.toBitVec_inj.1;simp only[UInt32.toBitVec_xor,UInt32.toBitVec_not];apply BitVec.eq_of_getLsbD_eq;intro i hi;have A:(4294967295:UInt32).toBitVec=BitVec.allOnes 32:=nN;rw[A];simp only[BitVec.getLsbD_xor,BitVec.getLsbD_not,BitVec.getLsbD_allOnes,hi,decide_true,Bool.true_and];cases x.toBitVec.getLsbD i<;>rfl
 rw[e]at h;exact h
theorem Ga(x:UInt32)(p q r:Int)(w:jJ)(hp:1<=p/\p<=31)(A:1<=q/\q<=31)(C:1<=r/\r<=31):
  jV jI 275 #[ng nJ x.toNat,ng nH p,ng nH q,ng nH r] w λe w'=>e=nE (ng nJ (TU x p.toNat q.toNat r.toNat).toNat)/\w=w':=by
 have h:=Pk x p.toNat q.toNat r.toNat w nK nK nK;rwa [show((p.toNat:Nat):Int)=p by omega,show((q.toNat:Nat):Int)=q by omega,show((r.toNat:Nat):Int)=r by omega]at h
theorem uk{E:Nat}{W A:jJ}(h:KeepsFrom E W A/\LU E W A){b:Nat}(hb:b<E)(v:jP):KeepsFrom E W (A.setCell ⟨b,0,none⟩ v)/\LU E W (A.setCell ⟨b,0,none⟩ v):=by
 have hg:A.grownBy (A.setCell ⟨b,0,none⟩ v) (some b):=⟨rfl,rfl,rfl,by simp[kC],λk _ C=>j6 _ _ _ _ (λe=>C (by rw[e]))⟩;refine⟨h.1.trans (KeepsFrom.of_grownBy hg (λj e=>by cases e;exact hb)),h.2.trans ⟨hg.size,λk cs t m hk hc=> ?_⟩⟩;rw[hg.block k (ku.1 hc).1 nQ];exact hc
def S8.get(s:S8):Nat->UInt32
 |0=>s.a
 |1=>s.b
 |2=>s.c
 |3=>s.d
 |4=>s.e
 |5=>s.f
 |6=>s.g
 |_=>s.h
def Ez(s t:S8)(k j:Nat):jP:=ng nJ (((match Nat.blt j k with|true=>s.get j+t.get j|false=>s.get j):UInt32).toNat:Int)
def a0w(s t:S8)(k:Nat):Array jP:=#[Ez s t k 0,Ez s t k 1,Ez s t k 2,Ez s t k 3,Ez s t k 4,Ez s t k 5,Ez s t k 6,Ez s t k 7]
theorem um{b0:Nat}{w W:jJ}(h:jS b0 w W)(j:Nat)(v:jP):jS b0 w (W.setCell ⟨b0+1,j,none⟩ v):=h.setCell (kX _) _
end
end Go.Proofs.YtamfcjmhnndbdaaGreatDoor


