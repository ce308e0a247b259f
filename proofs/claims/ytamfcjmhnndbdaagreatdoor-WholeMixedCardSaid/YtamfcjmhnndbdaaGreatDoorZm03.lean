/- Part 3 of the proof. -/
import Derived.Test.YtamfcjmhnndbdaaGreatDoorZm00
import Derived.Test.YtamfcjmhnndbdaaGreatDoorZm02
import Derived.Test.YtamfcjmhnndbdaaGreatDoorRows
import Derived.WalkSpells
import Derived.Deep.RegionWith
import Derived.WalkKit
import Derived.Lib.Hide
import Derived.Handy
import Derived.Lib.Strings
import Derived.Laws.BitsAllLaws
import Derived.RangeFuncNested
import Derived.RangeFuncBound
import Derived.RangeFuncCalls
import Derived.RangeFuncLeaves
import Derived.OwnWalkIn
import Derived.Deep.Quiet
import Derived.OrdersIn
import Derived.Shelf.Abstract
import Derived.TacticsInMore
import Derived.LoopNIn
import Derived.LoopIn
import Derived.Sort.CutIn
import Derived.OrdersHeld
import Derived.Deep.RegionHeld
open Go.Value renaming agg→nD,bool→nC,int→nk,pointer→nA,slice→ny,string→nz,tuple→nE,int→lQ
open Go.Obj renaming cells→nH
open Go.IntKind renaming i64→nI,u32→nK,u64→nJ
open Go.Ending renaming returned→nG,returned→lJ
open Go.Lib renaming hid→jH,trimRightB→lC
open Go.Proofs.Tryz renaming prog→jI,underlying86→l6,underlying9→mH
open Go renaming World→jJ,Value→jP,Calls→jV,bodyPost_ret→jZ,maxLen→j3,TypeId→ko,results→kQ,Oper→lY,Program→ma,wpQuiet_nil→mK
open Nat renaming le_refl→jK,le_trans→jY,lt_of_lt_of_le→kG,le_succ→kV,lt_of_le_of_lt→mr,two_pow_add_eq_or_of_lt→mO,le_of_eq→mR
open Go.RowKit renaming Below→jS,Hid→jX,intOf→kT
open Go.RowKit.Below renaming refl→jT,heap_setCell→j6
open List renaming getElem?_eq_getElem→jW,length_append→j5,take_succ_cons→ky,length_cons→kF,take_zero→kL,replicate→lh,getD_eq_getElem?_getD→lL,all_eq_true→lM,range→l5,mem_range→mf,mem_cons→mM,size_toArray→mP,length_eq_zero_iff→mU,drop_succ_cons→mW,take_add_one→mY
open Bool renaming and_eq_true→j4
open UInt8 renaming ofNat→kg
open Array renaming getElem?_eq_some_iff→ku,replicate→lD,getD_eq_getD_getElem?→lG,getElem?_eq_none→mZ
open Go.World renaming setCell→kz
open ByteArray renaming size_extract→kC
open Go.Code renaming region→ll
open Go.Region renaming ready→lN,binds→mh
open Go.Instr renaming makeFunc→mJ
open Option renaming none→V,some→U
open Go.Addr renaming mk→Z
namespace Go.Proofs.YtamfcjmhnndbdaaGreatDoor
set_option linter.unusedVariables false
set_option linter.unusedSimpArgs false
set_option maxRecDepth 100000
set_option maxHeartbeats 8000000
variable {s:ByteArray}{T:ko}
section
open Go.RowKit
theorem bt:pX jI 86 5 9:=⟨l6,Tryz.underlying5,mH,nN⟩
theorem a3e(w:jJ):(Instr.makeSlice 86 (nk nI 0) (nk nI 10)).run jI w=
  .ok (ny (U (Z w.heap.size 0 V)) 0 10) (w.alloc (nH (lD 10 (nk .u8 0)) 5)):=nN
theorem Kh(n:Nat)(w:jJ)(hn:n<18446744073709551616):
  jV jI 143 #[nk nJ n] w λe w'=>e=nG (nz ⟨(oI n).toArray⟩)/\jS w.heap.size w w':=by
 have ai:=a3e;obtain⟨B,hB⟩:∃B,B=w.heap.size:=⟨_,rfl⟩;have aj:=jH hB;have N:B<=w.heap.size:=nL;rw[<-hB];clear hB;have ae:=zz.start n hn;generalize oI n=t at*;go_in;go_wp2;go_loopw [0,3] (λQ v wr=>∃(m:Nat) (l:List UInt8),Q=nk nJ m/\ow wr B 5 v l/\jS B w wr/\zz t l m/\m<18446744073709551616) (λQ _ _=>(kT Q).toNat);case atStart=>exact⟨n,[],rfl,ow.made w B _ _ 10 N nO rfl,(jT _ _).alloc N _,ae,hn⟩
 case round=>
  obtain⟨m,l,rfl,C,E,I,af⟩:=hrel;have O:B<=wr.heap.size:=by have:=E.size;omega
  have ah:=I.le;by_cases c:128<=m
  .have aa:=I.step c
   go_wp2_with (at_builtin;refine oU bt rfl (.tmp 7) (.tmp 11) rfl B _ l [kg (m % 128+128)] 1 rfl wr _ (xW (n:=m % 128+128) (a5D m) nL) rfl C rfl nL O ?_;intro v' w' A J Y);go_roundw;case rel=>exact⟨m/128,_,by go_num,A,E.trans J,aa,nL⟩
   case measure=>simp[kT];omega
  .have ag:m<128:=nL
   have hd:=jH (I.done ag);go_wp2_with (at_builtin;refine oU bt rfl (.tmp 15) (.tmp 18) rfl B _ l [kg m] 1 rfl wr _ (xW (n:=m) nL nL) rfl C rfl nL O ?_;intro v' w' A J Y;have hst:=A.string bt);go_returns;exact⟨by rw[<-hd.out];rfl,E.trans J⟩
theorem Ro:∀ k n:Nat,n<128^k->n<18446744073709551616->(oI n).length=max 1 ((Lib.bitLen n+6)/7)
 |k,n,hk,h=>by
  by_cases c:n<128
  .rw[qP n c]
   have:=Lib.bitLen_le n 7 nL c;simp;omega
  .match k,hk with
   |0,hk=>simp at hk;omega
   |k+1,hk=>
   rw[wy n nL,kF,Ro k (n/128) (by rw[Nat.pow_succ]at hk;omega) nL];rw[Lib.bitLen_shift 7 n nL h];have:n/2^7=n/128:=rfl;rw[this];have h1:1<=Lib.bitLen (n/128):=by
    rw[Lib.bitLen_half (n/128) nL nL];omega
   omega
theorem Mk(n:Nat)(w:jJ)(hn:n<18446744073709551616):
  jV jI 142 #[nk nJ n] w λe w'=>e=nG (nk nI (oI n).length)/\w=w':=by
 have hl:=jH (Ro 10 n (kG hn nO) hn);have hb:Lib.bitLen n<=64:=Lib.bitLen_le n 64 nL hn;have hc:=λw=>Tryz.bits_Len64 n w nL nL
 rw[Int.toNat_natCast]at hc;generalize Lib.bitLen n=m at*;have A:=jH hc;clear hc;go_in;go_wp2_with fail;refine(A _).mono ?_;rintro e w' ⟨rfl,rfl⟩;go_wp2_with fail
 all_goals
  go_returns;exact⟨by rw[hl.out];exact congrArg lJ (congrArg (lQ nI) nL),rfl⟩
theorem wI(m:Int)(s:ByteArray)(w:jJ)(A:-9223372036854775808<=m/\m<=9223372036854775807)(hs:s.size<=j3):
  jV jI 92 #[nk nI m,nz s] w λe w'=>e=nG (nE #[nk nI (pI m s.data.toList).1,nk nI (pI m s.data.toList).2.1,nk nI (pI m s.data.toList).2.2])/\w=w':=by
 have c1:=λw=>Cm s w hs
 have hp:pI m s.data.toList=if(oD s.data.toList 0 0).2.2=0 then if m<0\/m<((oD s.data.toList 0 0).1:Int)then(0,0,5)else oD s.data.toList 0 0 else(0,0,(oD s.data.toList 0 0).2.2):=rfl
 have hlt:=λN K h=>(tN (l:=s.data.toList) (N:=N) (K:=K) h).2.1
 obtain⟨E,I⟩:=A;unfold j3 at hs;generalize pI m s.data.toList=r at*;generalize oD s.data.toList 0 0=t at*;obtain⟨n,k,e⟩:=t;have C1:jX (∀w,jV jI 126 #[nz s] w λC w'=>C=nG (nE #[nk nJ n,nk nI k,nk nI e])/\w=w'):=c1;clear c1;by_cases he:e=0
 .subst he
  have hn:=hlt n k rfl;clear hlt;rw[if_pos rfl]at hp;by_cases h1:m<0
  .rw[if_pos (.inl h1)]at hp
   subst hp;exact BG
  .obtain⟨M,rfl⟩:∃M:Nat,m=M:=⟨m.toNat,nL⟩
   by_cases h2:M<n
   .rw[if_pos (.inr (by simp only;omega))]at hp
    subst hp;clear h1;exact BG
   .rw[if_neg (by simp only;omega)]at hp
    subst hp;have J:decide (M<n)=false:=nT;have Y:n<=M:=nL;clear h1 h2;exact BG
 .rw[if_neg he]at hp
  subst hp;have O:((e:Int)==0)=false:=wG;have Q:((e:Int) !=0)=true:=FL;clear he hlt;exact BG
def DF(id:Nat)(b:ByteArray):jP:=nD #[nk nJ id,nz ⟨#[]⟩,nz b]
def PF.v(f:PF):jP:=nE #[DF f.id f.body,nk nI f.n,nk nI f.e]
theorem TI(id:Nat)(b:ByteArray)(w:jJ)(hid:id<18446744073709551616)(hb:(oI id).length+b.size<=65536):
  jV jI 104 #[nk nJ id,nz b] w λe w'=>e=nG (nE #[nz (J3 id b),nk nI 0])/\jS w.heap.size w w':=by
 have hl:=uf 10 id (kG hid nO);have c1:=jH (λw=>Mk id w hid);have c2:=jH (λw=>Kh ((oI id).length+b.size) w nL);have c3:=jH (λw=>Kh id w hid);have J:(⟨(oI ((oI id).length+b.size)).toArray⟩:ByteArray).size<=10:=by
  rw[size_mk];have:=uf 10 ((oI id).length+b.size) (mr hb nO);omega
 have I:(⟨(oI id).toArray⟩:ByteArray).size<=10:=by rw[size_mk];omega
 have hp:J3 id b=⟨(oI ((oI id).length+b.size)).toArray⟩++⟨(oI id).toArray⟩++b:=rfl;generalize J3 id b=R at*;generalize (⟨(oI ((oI id).length+b.size)).toArray⟩:ByteArray)=X at*;generalize (⟨(oI id).toArray⟩:ByteArray)=N at*;generalize (oI id).length=m at*;have E:=jH hp;clear hp;go_in;go_wp2_with fail;refine(c1 _).mono ?_;rintro e w' ⟨rfl,rfl⟩;go_wp2_with fail;refine(c2 _).mono ?_;rintro e w1 ⟨rfl,A⟩;go_wp2_with fail;refine(c3 _).mono ?_;rintro e w2 ⟨rfl,C⟩;go_wp2_with fail;go_returns;exact⟨by rw[E.out];rfl,A.trans (C.mono A.size)⟩
theorem FU(id:Nat)(b:ByteArray)(w:jJ)(hid:id<18446744073709551616)(hb:65536<(oI id).length+b.size)(hs:b.size<=9223372036854770000):
  jV jI 104 #[nk nJ id,nz b] w λe w'=>e=nG (nE #[nz ⟨#[]⟩,nk nI 5])/\w=w':=by
 have hl:=uf 10 id (kG hid nO);have c1:=jH (λw=>Mk id w hid);generalize (oI id).length=m at*;go_in;go_wp2_with fail;refine(c1 _).mono ?_;rintro e w' ⟨rfl,rfl⟩;go_wp2_with fail;go_returns;exact⟨rfl,rfl⟩
theorem wJ(t:ByteArray)(w:jJ):jV jI 144 #[nz t] w λe w'=>∃b,e=nG (nA (U (Z b 0 V)))/\w.heap.size<=b/\jS w.heap.size w w'/\vW w' b (RS.of t):=
 (zy t w).mono λ_ _ ⟨he,hb,_,A⟩=>⟨_,he,jK _,hb,A⟩
def yG:Array jP:=#[nk nJ 0,nz ⟨#[]⟩,nz ⟨#[]⟩]
theorem DI(m:Int)(s:ByteArray)(er:Nat)(w:jJ)(A:-9223372036854775808<=m/\m<=9223372036854775807)(hs:s.size<=j3)(hp:pI m s.data.toList=(0,0,er))(he:er≠0):
  jV jI 106 #[nk nI m,nz s] w λe w'=>e=nG (PF.bad er).v/\jS w.heap.size w w':=by
 have c1:=λw=>wI m s w A hs
 rw[hp]at c1;have C:=jH c1;have E:((er:Int) !=0)=true:=FL;clear c1 hp A he;go_in;go_wp2_with fail;refine(C _).mono ?_;rintro e w' ⟨rfl,rfl⟩;go_wp2_with fail;refine jZ (v:=(PF.bad er).v) (by simp[kQ,Tryz.results106,go_sem,PF.v,PF.bad,DF]) rfl ⟨rfl,?_⟩;exact(jT _ _).alloc (jK _) _
theorem O1{p:Prop}(h:p:=by
 show RS.take ⟨s,0,0⟩ k=_;unfold RS.take;rw[if_pos rfl,if_neg nL,if_neg (by simp only[];omega)];simp):p:=h
theorem ER(m:Int)(s:ByteArray)(n k:Nat)(w:jJ)(aa:-9223372036854775808<=m/\m<=9223372036854775807)(hs:s.size<=j3)(hp:pI m s.data.toList=(n,k,0))(av:s.size<k+n):
  jV jI 106 #[nk nI m,nz s] w λe w'=>e=nG (PF.bad 2).v/\jS w.heap.size w w':=by
 have c1:=λw=>wI m s w aa hs
 rw[hp]at c1;have ak:=jH c1;obtain⟨h1,h2,ae,ay⟩:=zA hp;rw[<-Lib.size_eq]at ae;have C:=hs;unfold j3 at C;have ct:=jH (λb w (h:vW w b (RS.of s))=>qj b (RS.of s) k w (RS.Ok.of C) h);have e1:RS.take (RS.of s) k=(⟨s,k,0⟩,s.extract 0 k):=by
  exact O1
 rw[e1]at ct;have E:=jH (λb w (h:vW w b ⟨s,k,0⟩)=>qj b ⟨s,k,0⟩ n w ⟨ae,C⟩ h);have e2:RS.take ⟨s,k,0⟩ n=(⟨s,k,2⟩,uw):=by
  unfold RS.take;rw[if_pos rfl,if_neg nL,if_pos (by simp only[];omega)]
 rw[e2]at E;have ax:∀(fn:Fn)(first cap:Array jP)(w:jJ),(mJ fn first cap).run jI w=.ok (.func fn first cap) w:=λ_ _ _ _=>rfl
 clear c1 hp aa e1 e2 h1;go_in;go_wp2_with fail;refine(ak _).mono ?_;rintro e w' ⟨rfl,rfl⟩;go_wp2_with fail;refine(wJ _ _).mono ?_;rintro e w1 ⟨b,rfl,I,J,af⟩;go_wp2_with fail;refine(ct _ _ af).mono ?_;rintro e w2 ⟨rfl,u2,ag⟩;go_wp2_with fail;refine(E _ _ ag).mono ?_;rintro e w3 ⟨rfl,u3,ah⟩;have cf:=jH (qd _ _ _ ah);go_wp2_with fail;refine cf.mono ?_;rintro e w' ⟨rfl,rfl⟩;have hlt:w.heap.size<b:=by simp at I;omega
 have N:=Below.blk J (nP.new w yG 52) nS;have O:=u2.blk N nL;have A:=u3.blk O nL;have Q:=((jT w.heap.size w).alloc (jK _) (nH yG 52)).trans (J.mono nS);have Y:=u2.below Q nL Q.size;have au:=jH (u3.below Y nL Y.size);have ai:=A.cell 0;have aj:=A.cell 1;have d2:=A.cell 2;obtain⟨az,f1,f2⟩:=A.f3;simp[yG]at ai aj d2;clear Q Y N O I;go_wp2_with fail;refine jZ (v:=(PF.bad 2).v) (by simp[kQ,Tryz.results106,go_sem,PF.v,PF.bad,DF,ai,aj,d2]) rfl ⟨rfl,?_⟩;exact((au.setCell (p:=(Z w.heap.size 0 V)) (jK _) _).setCell (p:=(Z w.heap.size 1 V)) (jK _) _).setCell (p:=(Z w.heap.size 2 V)) (jK _) _
theorem ES(m:Int)(s:ByteArray)(n k:Nat)(w:jJ)(aa:-9223372036854775808<=m/\m<=9223372036854775807)(hs:s.size<=j3)(hp:pI m s.data.toList=(n,k,0))(aD:k+n<=s.size)(ae:(oD (s.extract k (k+n)).data.toList 0 0).2.2≠0):
  jV jI 106 #[nk nI m,nz s] w λe w'=>e=nG (PF.bad 3).v/\jS w.heap.size w w':=by
 have c1:=λw=>wI m s w aa hs
 rw[hp]at c1;have ax:=jH c1;obtain⟨h1,h2,af,aH⟩:=zA hp;rw[<-Lib.size_eq]at af;have C:=hs;unfold j3 at C;have ct:=jH (λb w (h:vW w b (RS.of s))=>qj b (RS.of s) k w (RS.Ok.of C) h);have e1:RS.take (RS.of s) k=(⟨s,k,0⟩,s.extract 0 k):=by
  exact O1
 rw[e1]at ct;have E:=jH (λb w (h:vW w b ⟨s,k,0⟩)=>qj b ⟨s,k,0⟩ n w ⟨af,C⟩ h);have e2:RS.take ⟨s,k,0⟩ n=(⟨s,k+n,0⟩,s.extract k (k+n)):=by
  unfold RS.take;rw[if_pos rfl,if_neg nL,if_neg (by simp only[];omega)];rfl
 rw[e2]at E;have aF:∀(fn:Fn)(first cap:Array jP)(w:jJ),(mJ fn first cap).run jI w=.ok (.func fn first cap) w:=λ_ _ _ _=>rfl
 have ag:=λw=>Cm (s.extract k (k+n)) w (by unfold j3;rw[kC];omega)
 generalize oD (s.extract k (k+n)).data.toList 0 0=t at*;obtain⟨ay,az,ah⟩:=t;have aA:jX (∀w,jV jI 126 #[nz (s.extract k (k+n))] w λaB w'=>aB=nG (nE #[nk nJ ay,nk nI az,nk nI ah])/\w=w'):=ag;have aG:((ah:Int) !=0)=true:=by rw[bne_iff_ne];simp only at ae;omega
 clear ag ae;clear c1 hp aa e1 e2 h1;go_in;go_wp2_with fail;refine(ax _).mono ?_;rintro e w' ⟨rfl,rfl⟩;go_wp2_with fail;refine(wJ _ _).mono ?_;rintro e w1 ⟨b,rfl,I,J,ai⟩;go_wp2_with fail;refine(ct _ _ ai).mono ?_;rintro e w2 ⟨rfl,u2,aj⟩;go_wp2_with fail;refine(E _ _ aj).mono ?_;rintro e w3 ⟨rfl,u3,ak⟩;have cf:=jH (qd _ _ _ ak);go_wp2_with fail;refine cf.mono ?_;rintro e w' ⟨rfl,rfl⟩;have hlt:w.heap.size<b:=by simp at I;omega
 have N:=Below.blk J (nP.new w yG 52) nS;have O:=u2.blk N nL;have A:=u3.blk O nL;have Q:=((jT w.heap.size w).alloc (jK _) (nH yG 52)).trans (J.mono nS);have Y:=u2.below Q nL Q.size;have aC:=jH (u3.below Y nL Y.size);have au:=A.cell 0;have av:=A.cell 1;have d2:=A.cell 2;obtain⟨aI,f1,f2⟩:=A.f3;simp[yG]at au av d2;clear Q Y N O I;go_wp2_with fail;refine(aA _).mono ?_;rintro e w' ⟨rfl,rfl⟩;go_wp2_with fail;refine jZ (v:=(PF.bad 3).v) (by simp[kQ,Tryz.results106,go_sem,PF.v,PF.bad,DF,au,av,d2]) rfl ⟨rfl,?_⟩;exact((aC.setCell (p:=(Z w.heap.size 0 V)) (jK _) _).setCell (p:=(Z w.heap.size 1 V)) (jK _) _).setCell (p:=(Z w.heap.size 2 V)) (jK _) _
theorem Ir(m:Int)(s:ByteArray)(n k id z:Nat)(w:jJ)(ag:-9223372036854775808<=m/\m<=9223372036854775807)(hs:s.size<=j3)(hp:pI m s.data.toList=(n,k,0))(aD:k+n<=s.size)(Y:oD (s.extract k (k+n)).data.toList 0 0=(id,z,0)):
  jV jI 106 #[nk nI m,nz s] w λe w'=>e=nG (PF.mk id ((s.extract k (k+n)).extract z n) (k+n) 0).v/\jS w.heap.size w w':=by
 have c1:=λw=>wI m s w ag hs
 rw[hp]at c1;have az:=jH c1;obtain⟨h1,h2,ah,aG⟩:=zA hp;rw[<-Lib.size_eq]at ah;have C:=hs;unfold j3 at C;have ct:=jH (λb w (h:vW w b (RS.of s))=>qj b (RS.of s) k w (RS.Ok.of C) h);have e1:RS.take (RS.of s) k=(⟨s,k,0⟩,s.extract 0 k):=by
  exact O1
 rw[e1]at ct;have E:=jH (λb w (h:vW w b ⟨s,k,0⟩)=>qj b ⟨s,k,0⟩ n w ⟨ah,C⟩ h);have e2:RS.take ⟨s,k,0⟩ n=(⟨s,k+n,0⟩,s.extract k (k+n)):=by
  unfold RS.take;rw[if_pos rfl,if_neg nL,if_neg (by simp only[];omega)];rfl
 rw[e2]at E;have aF:∀(fn:Fn)(first cap:Array jP)(w:jJ),(mJ fn first cap).run jI w=.ok (.func fn first cap) w:=λ_ _ _ _=>rfl
 have I:(s.extract k (k+n)).size=n:=by rw[kC];omega
 have aA:=(tN Y).1;rw[<-Lib.size_eq,I]at aA;have aa:=λw=>Cm (s.extract k (k+n)) w (by unfold j3;rw[kC];omega)
 rw[Y]at aa;have ai:jX (∀w,jV jI 126 #[nz (s.extract k (k+n))] w λaB w'=>aB=nG (nE #[nk nJ id,nk nI z,nk nI 0])/\w=w'):=aa;clear aa Y;obtain⟨X,aj⟩:∃X,X=s.extract k (k+n):=⟨_,rfl⟩;rw[<-aj]at I ai e2 E⊢;clear aj;clear c1 hp ag e1 e2 h1;go_in;go_wp2_with fail;refine(az _).mono ?_;rintro e w' ⟨rfl,rfl⟩;go_wp2_with fail;refine(wJ _ _).mono ?_;rintro e w1 ⟨b,rfl,J,N,ak⟩;go_wp2_with fail;refine(ct _ _ ak).mono ?_;rintro e w2 ⟨rfl,u2,au⟩;go_wp2_with fail;refine(E _ _ au).mono ?_;rintro e w3 ⟨rfl,u3,av⟩;have cf:=jH (qd _ _ _ av);go_wp2_with fail;refine cf.mono ?_;rintro e w' ⟨rfl,rfl⟩;have hlt:w.heap.size<b:=by simp at J;omega
 have O:=Below.blk N (nP.new w yG 52) nS;have Q:=u2.blk O nL;have A:=u3.blk Q nL;have ae:=((jT w.heap.size w).alloc (jK _) (nH yG 52)).trans (N.mono nS);have af:=u2.below ae nL ae.size;have aC:=jH (u3.below af nL af.size);have ax:=A.cell 0;have ay:=A.cell 1;have d2:=A.cell 2;obtain⟨aH,f1,f2⟩:=A.f3;simp[yG]at ax ay d2;clear ae af O Q J;go_wp2_with fail;refine(ai _).mono ?_;rintro e w' ⟨rfl,rfl⟩;go_wp2_with fail;refine jZ (v:=(PF.mk id (X.extract z n) (k+n) 0).v) (by simp[kQ,Tryz.results106,go_sem,PF.v,DF,ax,ay,d2]) rfl ⟨rfl,?_⟩;exact((aC.setCell (p:=(Z w.heap.size 0 V)) (jK _) _).setCell (p:=(Z w.heap.size 1 V)) (jK _) _).setCell (p:=(Z w.heap.size 2 V)) (jK _) _
theorem TJ{P:PF->Prop}(m:Int)(s:ByteArray)(h1:∀er,pI m s.data.toList=(0,0,er)->er≠0->P (.bad er))(h2:∀n k,pI m s.data.toList=(n,k,0)->s.size<k+n->P (.bad 2))(I:∀n k,pI m s.data.toList=(n,k,0)->k+n<=s.size->(oD (s.extract k (k+n)).data.toList 0 0).2.2≠0->P (.bad 3))(J:∀n k id z,pI m s.data.toList=(n,k,0)->k+n<=s.size->oD (s.extract k (k+n)).data.toList 0 0=(id,z,0)->P ⟨id,(s.extract k (k+n)).extract z n,k+n,0⟩):P (pq m s):=by
 by_cases h0:(pI m s.data.toList).2.2=0
 .obtain⟨⟨n,k,e⟩,hp⟩:∃t,pI m s.data.toList=t:=⟨_,rfl⟩
  rw[hp]at h0;simp only at h0;subst h0;by_cases E:s.size<k+n;.rw[OP hp E];exact h2 n k hp E
  .by_cases A:(oD (s.extract k (k+n)).data.toList 0 0).2.2=0
   .obtain⟨⟨id,z,e⟩,C⟩:∃t,oD (s.extract k (k+n)).data.toList 0 0=t:=⟨_,rfl⟩
    rw[C]at A;simp only at A;subst A;rw[VW hp nL C];exact J n k id z hp nL C
   .rw[OQ hp nL A];exact I n k hp nL A
 .rw[LX h0];exact h1 _ (Tw h0) h0
theorem FV(m:Int)(s:ByteArray)(w:jJ)(A:-9223372036854775808<=m/\m<=9223372036854775807)(hs:s.size<=j3):
  jV jI 106 #[nk nI m,nz s] w λe w'=>e=nG (pq m s).v/\jS w.heap.size w w':=
 TJ (P:=λr=>jV jI 106 #[nk nI m,nz s] w λe w'=>e=nG r.v/\jS w.heap.size w w') m s
  (λer h he=>DI m s er w A hs h he) (λn k h ho=>ER m s n k w A hs h ho) (λn k h ho C=>ES m s n k w A hs h ho C)
  (λn k id z h ho C=>Ir m s n k id z w A hs h ho C)
def wK(b:UInt8):Bool:=(decide (97<=b.toNat)&&decide (b.toNat<=122))||(decide (48<=b.toNat)&&decide (b.toNat<=57))||decide (b.toNat=95)
def sw(l:List UInt8):Bool:=decide (1<=l.length)&&decide (l.length<=12)&&l.all wK
theorem Ew(b:UInt8):(wK b=true/\((97<=b.toNat/\b.toNat<=122)\/(48<=b.toNat/\b.toNat<=57)\/b.toNat=95))\/
  (wK b=false/\((b.toNat<48)\/(57<b.toNat/\b.toNat<95)\/b.toNat=96\/122<b.toNat)):=by
 unfold wK;by_cases h:(97<=b.toNat/\b.toNat<=122)\/(48<=b.toNat/\b.toNat<=57)\/b.toNat=95
 .left
  refine⟨?_,h⟩;simp only[Bool.or_eq_true,j4,decide_eq_true_eq];rcases h with h|h|h
  .exact .inl (.inl h)
  .exact .inl (.inr h)
  .exact .inr h
 .right
  refine⟨?_,nL⟩;simp only[Bool.or_eq_false_iff,Bool.and_eq_false_iff,decide_eq_false_iff_not];omega
theorem Ml{k:Nat}(h:k<s.size):(s.data.toList.take (k+1)).all wK=((s.data.toList.take k).all wK&&wK s[k]):=by
 rw[mY,jW (by simpa using h)];simp;rfl
theorem all_false{k:Nat}(h:k<s.size)(hb:wK s[k]=false):s.data.toList.all wK=false:=by
 rw[List.all_eq_false];have hk:k<s.data.toList.length:=by simpa using h
 exact⟨s.data.toList[k],List.getElem_mem hk,by
  have:s.data.toList[k]=s[k]:=rfl;rw[this,hb];simp⟩
theorem DJ{p:Prop}(h:p:=by
 go_wp2_with fail
 all_goals
  go_roundw;case rel=>exact⟨k+1,by go_num,nL,HT.out,trivial⟩
  case measure=>simp[kT];omega):p:=h
theorem Ki{p:Prop}(h:p:=by
 go_wp2_with fail
 all_goals first
  |(go_returns;exact⟨by rw[HM.out,HT.out];rfl,rfl⟩)
  |(exfalso;omega)
  |(exfalso;simp_all;omega)):p:=h
theorem FW{p:Prop}(h:p:=by
 go_in;go_wp2_with fail;go_returns;exact⟨by rw[HR.out];rfl,rfl⟩):p:=h
theorem Kj(s:ByteArray)(w:jJ)(hs:s.size<=j3):
  jV jI 120 #[nz s] w λe w'=>e=nG (nC (sw s.data.toList))/\w'=w:=by
 have E:s.size<=9223372036854775807:=by unfold j3 at hs;omega
 have hlen:s.data.toList.length=s.size:=nS;clear hs;by_cases h0:s.size<1
 .have HR:jX (sw s.data.toList=false):=jH (by unfold sw;rw[decide_eq_false (by rw[hlen];omega)];rfl)
  clear hlen;exact FW
 by_cases I:12<s.size
 .have HR:jX (sw s.data.toList=false):=jH (by unfold sw;rw[decide_eq_true (p:=1<=_) (by rw[hlen];omega),decide_eq_false (by rw[hlen];omega)];rfl)
  clear hlen;exact FW
 have HM:jX (sw s.data.toList=s.data.toList.all wK):=jH (by unfold sw;rw[decide_eq_true (p:=1<=_) (by rw[hlen];omega),decide_eq_true (by rw[hlen];omega)];rfl);obtain⟨N,Q⟩:=nV s.size;have J:=jH Q;have Y:=jH hlen;have h1:¬N<1:=nL;have h2:¬12<N:=nL;have aa:N<=12:=nL;clear E hlen h0 I;go_in;go_wp2_with fail;go_loopw [15] (λiv ae=>∃k:Nat,iv=nk nI k/\k<=N/\jX ((s.data.toList.take k).all wK=true)/\ae=w) (λiv _=>N -(kT iv).toNat);case atStart=>exact⟨0,rfl,nL,jH nS,rfl⟩
 case round=>
  obtain⟨k,rfl,hk,O,rfl⟩:=hrel;by_cases c:k<N
  .have A:k<s.size:=by rw[J.out];exact c
   have C:=Ml A;rcases Ew s[k]with⟨hn,hc⟩|⟨hn,hc⟩
   .have HT:jX ((s.data.toList.take (k+1)).all wK=true):=jH (by rw[C,O.out,hn];rfl)
    clear C hn;rcases hc with⟨h1,h2⟩|⟨h1,h2⟩|h1
    .exact DJ
    .exact DJ
    .exact DJ
   .have HT:=jH (all_false A hn)
    have ag:((s[k].toNat:Int) !=95)=true:=nT;have ah:((s[k].toNat:Int)==95)=false:=nT;clear C hn;rcases hc with h1|⟨h1,h2⟩|h1|h1
    .exact Ki
    .exact Ki
    .exact Ki
    .exact Ki
  .obtain rfl:k=N:=nL
   have af:jX (sw s.data.toList=true):=jH (by
    have h:=O.out;rw[List.take_of_length_le (by rw[Y.out,J.out];exact jK _)]at h;rw[HM.out,h])
   go_wp2_with fail;go_returns;exact⟨by rw[af.out];rfl,rfl⟩
theorem Kk{p:Prop}(h:p:=by
 go_wp2_with fail
 all_goals first
  |(go_returns;exact⟨by rw[HM.out,HT.out,Bool.and_false];rfl,rfl⟩)
  |(exfalso;omega)
  |(exfalso;simp_all;omega)):p:=h
theorem TK(s:ByteArray)(w:jJ)(hs:s.size<=j3):
  jV jI 53 #[nz s] w λe w'=>e=nG (nC (sw s.data.toList))/\w'=w:=by
 have I:s.size<=9223372036854775807:=by unfold j3 at hs;omega
 have hlen:s.data.toList.length=s.size:=nS;have HM:jX (sw s.data.toList=(decide (1<=s.size)&&decide (s.size<=12)&&s.data.toList.all wK)):=jH (by unfold sw;rw[hlen]);obtain⟨N,Y⟩:=nV s.size;have C:=jH Y;have aa:=jH hlen;have ae:N<=9223372036854775807:=nL;clear hs I hlen;go_in;go_wp2_with fail;go_loopw [3] (λiv af=>∃k:Nat,iv=nk nI k/\k<=N/\jX ((s.data.toList.take k).all wK=true)/\af=w) (λiv _=>N -(kT iv).toNat);case atStart=>exact⟨0,rfl,nL,jH nS,rfl⟩
 case round=>
  obtain⟨k,rfl,hk,J,rfl⟩:=hrel;by_cases c:k<N
  .have A:k<s.size:=by rw[C.out];exact c
   have E:=Ml A;rcases Ew s[k]with⟨hn,hc⟩|⟨hn,hc⟩
   .have HT:jX ((s.data.toList.take (k+1)).all wK=true):=jH (by rw[E,J.out,hn];rfl)
    clear E hn;rcases hc with⟨h1,h2⟩|⟨h1,h2⟩|h1
    .exact DJ
    .exact DJ
    .exact DJ
   .have HT:=jH (all_false A hn)
    have ah:((s[k].toNat:Int) !=95)=true:=nT;have ai:((s[k].toNat:Int)==95)=false:=nT;clear E hn;rcases hc with h1|⟨h1,h2⟩|h1|h1
    .exact Kk
    .exact Kk
    .exact Kk
    .exact Kk
  .obtain rfl:k=N:=nL
   have O:jX (sw s.data.toList=(decide (1<=k)&&decide (k<=12))):=jH (by
    have h:=J.out;rw[List.take_of_length_le (by rw[aa.out,C.out];exact jK _)]at h;rw[HM.out,h,C.out,Bool.and_true])
   by_cases Q:1<=k
   .have ag:jX (decide ((k:Int)<=12)=sw s.data.toList):=jH (by rw[O.out,decide_eq_true Q,Bool.true_and,decide_eq_decide];omega)
    go_wp2_with fail;go_returns;exact⟨by rw[<-ag.out];rfl,rfl⟩
   .go_wp2_with fail
    go_returns;exact⟨by rw[O.out,decide_eq_false Q];rfl,rfl⟩
def Cr(s:ByteArray):Option ByteArray:=if s.size=12/\sw (lC s.data.toList 0)=true then U ⟨(lC s.data.toList 0).toArray⟩else V
theorem Ex(l:List UInt8):(lC l 0).length<=l.length:=by
 unfold lC;rw[List.length_reverse];exact jY (List.dropWhile_sublist _).length_le (mR List.length_reverse)
def FX(s:ByteArray)(w:jJ)(e:Ending)(w':jJ):Prop:=e=nG (nE #[nz ((Cr s).getD ⟨#[]⟩),nk nI (if(Cr s).isSome then 0 else 3)])/\w'=w
theorem Wi{p:Prop}(h:p:=by
 clear hg hR;have hne:((s.size:Int) !=12)=false:=by simp[h1]
 clear h1;go_in;go_wp2_with fail;refine CT.mono ?_;rintro e w2 ⟨rfl,rfl⟩;go_wp2_with fail;refine CM.mono ?_;rintro e w3 ⟨rfl,rfl⟩;go_wp2_with fail;go_returns;rw[hG.out];exact⟨rfl,rfl⟩):p:=h
theorem a0y(s:ByteArray)(w:jJ)(hs:s.size<=j3):jV jI 137 #[nz s] w (FX s w):=by
 have A:s.size<=9223372036854775807:=by unfold j3 at hs;omega
 have CT:=jH (Tryz.strings_TrimRight_one s 0 nO w A);have htl:(⟨(lC s.data.toList 0).toArray⟩:ByteArray).size<=j3:=by
  have h1:=Ex s.data.toList;have h2:s.data.toList.length=s.size:=nS;have E:(⟨(lC s.data.toList 0).toArray⟩:ByteArray).size=(lC s.data.toList 0).length:=by simp[ByteArray.size]
  omega
 have CM:=jH (Kj ⟨(lC s.data.toList 0).toArray⟩ w htl);unfold FX;obtain⟨R,hR⟩:∃R,Value.tuple #[nz ((Cr s).getD ⟨#[]⟩),nk nI (if(Cr s).isSome then 0 else 3)]=R:=⟨_,rfl⟩;rw[hR];have hg:Cr s=if s.size=12/\sw (lC s.data.toList 0)=true then U ⟨(lC s.data.toList 0).toArray⟩else V:=rfl
 have CM:jX (jV jI 120 #[nz ⟨(lC s.data.toList 0).toArray⟩] w λe w'=>e=nG (nC (sw (lC s.data.toList 0)))/\w'=w):=CM;generalize Cr s=G at*;generalize (⟨(lC s.data.toList 0).toArray⟩:ByteArray)=C at*;generalize sw (lC s.data.toList 0)=M at*;have CT:jX (jV jI 181 #[nz s,nz ⟨#[0]⟩] w λe w'=>e=nG (nz C)/\w'=w):=CT;by_cases h1:s.size=12
 .cases M with
  |true=>
   have hG:jX (R=nE #[nz C,nk nI 0]):=jH (by rw[<-hR,hg,if_pos ⟨h1,rfl⟩];rfl);exact Wi
  |false=>
   have hG:jX (R=nE #[nz ⟨#[]⟩,nk nI 3]):=jH (by rw[<-hR,hg,if_neg (λh=>by cases h.2)];rfl);exact Wi
 .have hG:jX (R=nE #[nz ⟨#[]⟩,nk nI 3]):=jH (by rw[<-hR,hg,if_neg (λh=>h1 h.1)];rfl)
  clear hg hR;have hne:((s.size:Int) !=12)=true:=nT;clear h1;go_in;go_wp2_with fail;refine CT.mono ?_;rintro e w2 ⟨rfl,rfl⟩;go_wp2_with fail;go_returns;rw[hG.out];exact⟨rfl,rfl⟩
end
section
def zh(x:UInt32)(n:Nat):UInt32:=UInt32.ofNat (x.toNat/2^n|||x.toNat*2^(32 - n) % 4294967296)
def shr(x:UInt32)(n:Nat):UInt32:=UInt32.ofNat (x.toNat/2^n)
def xL(x:UInt32)(a b c:Nat):UInt32:=zh x a^^^zh x b^^^shr x c
def TM(x:UInt32)(a b c:Nat):UInt32:=zh x a^^^zh x b^^^zh x c
def Bc(l:List UInt8)(i:Nat):UInt32:=
 UInt32.ofNat ((l.getD (4*i) 0).toNat*16777216+(l.getD (4*i+1) 0).toNat*65536+(l.getD (4*i+2) 0).toNat*256+(l.getD (4*i+3) 0).toNat)
theorem a3f(n:Nat)(h:n<4294967296):(UInt32.ofNat n).toNat=n:=by
 show n % 2^32=n;exact Nat.mod_eq_of_lt h
theorem zD(x y:UInt32):((x.toNat:Int)+(y.toNat:Int)) % 4294967296=((x+y).toNat:Int):=by
 rw[UInt32.toNat_add];omega
theorem I4(x y:UInt32):bits BinOp.xor IntKind.u32 (x.toNat:Int) (y.toNat:Int)=((x^^^y).toNat:Int):=by
 rw[u32_xor_nat _ _ x.toNat_lt y.toNat_lt,UInt32.toNat_xor]
theorem a5E(x y:UInt32):bits BinOp.and IntKind.u32 (x.toNat:Int) (y.toNat:Int)=((x&&&y).toNat:Int):=by
 rw[u32_and_nat _ _ x.toNat_lt y.toNat_lt,UInt32.toNat_and]
theorem a5F(x:UInt32)(n:Nat):(x.toNat:Int)/2^n=((shr x n).toNat:Int):=by
 unfold shr;have h:=x.toNat_lt;have hp:=Nat.pow_pos (n:=n) (show 0<2 by decide);rw[a3f _ (mr (Nat.div_le_self _ _) h),Int.natCast_ediv];simp
theorem a0z(x:UInt32)(n:Nat):x.toNat/2^n|||x.toNat*2^(32 - n) % 4294967296<4294967296:=by
 have h:=x.toNat_lt;exact Nat.or_lt_two_pow (n:=32) (mr (Nat.div_le_self _ _) h) (Nat.mod_lt _ nO)
theorem a5G(x:UInt32)(n:Nat):bits BinOp.or IntKind.u32 ((x.toNat:Int)*2^(32 - n) % 4294967296) ((x.toNat:Int)/2^n)=((zh x n).toNat:Int):=by
 have h:=x.toNat_lt;have e1:(x.toNat:Int)*2^(32 - n) % 4294967296=((x.toNat*2^(32 - n) % 4294967296:Nat):Int):=by
  rw[Int.natCast_emod,Int.natCast_mul,Int.natCast_pow];rfl
 have e2:(x.toNat:Int)/2^n=((x.toNat/2^n:Nat):Int):=by rw[Int.natCast_ediv,Int.natCast_pow];rfl
 rw[e1,e2,u32_or_nat _ _ (Nat.mod_lt _ nO) (mr (Nat.div_le_self _ _) h)];unfold zh;rw[a3f _ (a0z x n),Nat.or_comm]
def Rp(l:List UInt8)(w:List UInt32)(i:Nat):UInt32:=
 if i<16 then Bc l i else w.getD (i - 16) 0+(xL (w.getD (i - 15) 0) 7 18 3+w.getD (i - 7) 0+xL (w.getD (i - 2) 0) 17 19 10)
def tu(l:List UInt8):Nat->List UInt32
 |0=>[]
 |n+1=>tu l n++[Rp l (tu l n) n]
structure S8 where
 a:UInt32
 b:UInt32
 c:UInt32
 d:UInt32
 e:UInt32
 f:UInt32
 g:UInt32
 h:UInt32
deriving DecidableEq
def Mm(s:S8)(k w:UInt32):UInt32:=s.h+TM s.e 6 11 25+k+w+((s.e&&&s.f)^^^(~~~s.e&&&s.g))
def Rq(s:S8):UInt32:=TM s.a 2 13 22+((s.a&&&s.b)^^^(s.a&&&s.c)^^^(s.b&&&s.c))
def Wj(s:S8)(k w:UInt32):S8:=⟨Mm s k w+Rq s,s.a,s.b,s.c,s.d+Mm s k w,s.e,s.f,s.g⟩
def a0A(s t:S8):S8:=⟨s.a+t.a,s.b+t.b,s.c+t.c,s.d+t.d,s.e+t.e,s.f+t.f,s.g+t.g,s.h+t.h⟩
def Wl:List UInt8:=[66,138,47,152,113,55,68,145,181,192,251,207,233,181,219,165,57,86,194,91,89,241,17,241,146,63,130,164,171,28,94,213,216,7,170,152,18,131,91,1,36,49,133,190,85,12,125,195,114,190,93,116,128,222,177,254,155,220,6,167,193,155,241,116,228,155,105,193,239,190,71,134,15,193,157,198,36,12,161,204,45,233,44,111,74,116,132,170,92,176,169,220,118,249,136,218,152,62,81,82,168,49,198,109,176,3,39,200,191,89,127,199,198,224,11,243,213,167,145,71,6,202,99,81,20,41,41,103,39,183,10,133,46,27,33,56,77,44,109,252,83,56,13,19,101,10,115,84,118,106,10,187,129,194,201,46,146,114,44,133,162,191,232,161,168,26,102,75,194,75,139,112,199,108,81,163,209,146,232,25,214,153,6,36,244,14,53,133,16,106,160,112,25,164,193,22,30,55,108,8,39,72,119,76,52,176,188,181,57,28,12,179,78,216,170,74,91,156,202,79,104,46,111,243,116,143,130,238,120,165,99,111,132,200,120,20,140,199,2,8,144,190,255,250,164,80,108,235,190,249,163,247,198,113,120,242]
def kN(i:Nat):UInt32:=Bc Wl i
def xM:S8:=⟨1779033703,3144134277,1013904242,2773480762,1359893119,2600822924,528734635,1541459225⟩
def yH(l:List UInt8)(s:S8):Nat->S8
 |0=>s
 |n+1=>Wj (yH l s n) (kN n) ((tu l 64).getD n 0)
def Mo(s:S8)(l:List UInt8):S8:=a0A s (yH l s 64)
def DK(n:Nat):List UInt8:=128::(lh ((64 -(n+9) % 64) % 64) 0++(l5 8).map λi=>kg (n*8/256^(7 - i) % 256))
def DL(A:S8->List UInt8->S8)(l:List UInt8):Nat->S8->S8
 |0,s=>s
 |k+1,s=>DL A (l.drop 64) k (A s (l.take 64))
theorem Mq(A:S8->List UInt8->S8)(l:List UInt8)(k:Nat)(s:S8):DL A l (k+1) s=DL A (l.drop 64) k (A s (l.take 64)):=rfl
def O3(l:List UInt8)(k:Nat)(s:S8):S8:=DL Mo l k s
def uT(x:UInt32):List UInt8:=[kg (x.toNat/16777216 % 256),kg (x.toNat/65536 % 256),kg (x.toNat/256 % 256),kg (x.toNat % 256)]
def S8.out(s:S8):List UInt8:=uT s.a++uT s.b++uT s.c++uT s.d++uT s.e++uT s.f++uT s.g++uT s.h
def TN(l:List UInt8):List UInt8:=(O3 (l++DK l.length) ((l++DK l.length).length/64) xM).out
end
section
open Go.RowKit
theorem O4(a b c d:UInt8):
  bits BinOp.or IntKind.u32 (bits BinOp.or IntKind.u32 (bits BinOp.or IntKind.u32 ((a.toNat:Int)*16777216) ((b.toNat:Int)*65536)) ((c.toNat:Int)*256)) (d.toNat:Int)=
   ((UInt32.ofNat (a.toNat*16777216+b.toNat*65536+c.toNat*256+d.toNat)).toNat:Int):=by
 have C:=a.toNat_lt;have hb:=b.toNat_lt;have hc:=c.toNat_lt;have hd:=d.toNat_lt;have e (x y:Nat):((x:Int)*(y:Int))=((x*y:Nat):Int):=(Int.natCast_mul x y).symm
 rw[show(16777216:Int)=((16777216:Nat):Int)from rfl,show(65536:Int)=((65536:Nat):Int)from rfl,show(256:Int)=((256:Nat):Int)from rfl,e,e,e,
  u32_or_nat _ _ nL nL]
 have h1:a.toNat*16777216|||b.toNat*65536=a.toNat*16777216+b.toNat*65536:=by
  have:=mO (show b.toNat*65536<2^24 by omega) a.toNat;rw[Nat.mul_comm a.toNat];exact this.symm
 rw[h1,u32_or_nat _ _ nL nL];have h2:(a.toNat*16777216+b.toNat*65536)|||c.toNat*256=a.toNat*16777216+b.toNat*65536+c.toNat*256:=by
  have:=mO (show c.toNat*256<2^16 by omega) (a.toNat*256+b.toNat);rw[show 2^16*(a.toNat*256+b.toNat)=a.toNat*16777216+b.toNat*65536 by omega]at this;exact this.symm
 rw[h2,u32_or_nat _ _ nL nL];have A:(a.toNat*16777216+b.toNat*65536+c.toNat*256)|||d.toNat=a.toNat*16777216+b.toNat*65536+c.toNat*256+d.toNat:=by
  have:=mO (show d.toNat<2^8 by omega) (a.toNat*65536+b.toNat*256+c.toNat);rw[show 2^8*(a.toNat*65536+b.toNat*256+c.toNat)=a.toNat*16777216+b.toNat*65536+c.toNat*256 by omega]at this;exact this.symm
 rw[A,a3f _ nL]
theorem Wm(s:ByteArray)(i:Nat)(h:4*i+4<=s.size):Bc s.data.toList i=UInt32.ofNat (s[4*i].toNat*16777216+s[4*i+1].toNat*65536+s[4*i+2].toNat*256+s[4*i+3].toNat):=by
 have e:∀j (A:j<s.size),s.data.toList.getD j 0=s[j]:=by
  intro j A;have C:j<s.data.toList.length:=by rw[<-Lib.size_eq];exact A
  rw[lL,jW C];rfl
 unfold Bc;rw[e _ nL,e _ nL,e _ nL,e _ nL]
theorem Mr(a b c d:UInt8):
  bits BinOp.or IntKind.u32 (bits BinOp.or IntKind.u32 (bits BinOp.or IntKind.u32 ((a.toNat:Int) % 4294967296*16777216 % 4294967296) ((b.toNat:Int) % 4294967296*65536 % 4294967296)) ((c.toNat:Int) % 4294967296*256 % 4294967296)) ((d.toNat:Int) % 4294967296)=
   ((UInt32.ofNat (a.toNat*16777216+b.toNat*65536+c.toNat*256+d.toNat)).toNat:Int):=by
 have A:=a.toNat_lt;have hb:=b.toNat_lt;have hc:=c.toNat_lt;have hd:=d.toNat_lt;rw[<-O4 a b c d];congr 1
 .congr 1
  .congr 1<;>omega
  .omega
 .omega
theorem TP(s:ByteArray)(i:Nat):Bc (s.extract (4*i) (4*i+4)).data.toList 0=Bc s.data.toList i:=by
 have e:∀j,j<4->(s.extract (4*i) (4*i+4)).data.toList.getD j 0=s.data.toList.getD (4*i+j) 0:=by
  intro j A;rw[Lib.extract_data,lL,lL,List.getElem?_take_of_lt nL,List.getElem?_drop]
 unfold Bc;rw[e _ nL,e _ nL,e _ nL,e _ nL];rfl
theorem Ms(s:ByteArray)(i:Nat)(w:jJ)(hi:4*i+4<=s.size)(hs:s.size<=1000):
  jV jI 273 #[nz s,nk nI i] w λe w'=>e=nG (nk nK (Bc s.data.toList i).toNat)/\∃n,w'=w.drewN n:=by
 have E:(s.extract (4*i) (4*i+4)).size=4:=by rw[kC];omega
 have A:=Wm (s.extract (4*i) (4*i+4)) 0 nL;rw[TP]at A;go_in;have C:=jH A;clear A;go_wp2_with fail;go_quiet (fail);go_wp2_with fail;go_returns;exact⟨by rw[C.out,<-Mr];rfl,_,rfl⟩
theorem a3g(x:UInt32)(n:Nat)(w:jJ)(h1:1<=n)(h2:n<=31):
  jV jI 292 #[nk nK x.toNat,nk nI (-(n:Int))] w λe w'=>e=nG (nk nK (zh x n).toNat)/\w=w':=by
 have E:=x.toNat_lt;have A:=jH (a5G x n);have e1:bits BinOp.and IntKind.u64 (IntKind.u64.wrap (-(n:Int))) 31=((32 - n:Nat):Int):=by
  have C:IntKind.u64.wrap (-(n:Int))=((18446744073709551616 - n:Nat):Int):=by
   rw[IntKind.wrap_u64];omega
  rw[C,show(31:Int)=((31:Nat):Int)from rfl,u64_and_nat _ _ nL nO];congr 1;rw[show(31:Nat)=2^5 - 1 from rfl,Nat.and_two_pow_sub_one_eq_mod];omega
 go_in;go_wp2_with fail;go_returns;refine⟨congrArg (λz=>lJ (lQ nK z)) ?_,rfl⟩;rw[<-A.out,show 32 -(32 - n)=n by omega]
theorem xY(x:UInt32)(n:Nat)(w:jJ)(h1:1<=n)(h2:n<=31):
  jV jI 285 #[nk nK x.toNat,nk nI n] w λe w'=>e=nG (nk nK (zh x n).toNat)/\w=w':=by
 have c1:=jH (a3g x n w h1 h2);have A:=x.toNat_lt;go_in;go_wp2_with fail;refine c1.mono ?_;rintro e w' ⟨rfl,rfl⟩;go_wp2_with fail;go_returns;exact⟨rfl,rfl⟩
theorem O6{P:ma}{f:FuncId}{args:Array jP}{w:jJ}{n:Nat}{v:jP}(h:jV P f args (w.drewN n) λe w'=>e=nG v/\w.drewN n=w'):jV P f args (w.drewN n) λe A=>e=nG v/\∃m,A=w.drewN m:=
 h.mono λ_ _ ⟨he,C⟩=>⟨he,n,C.symm⟩
theorem O7(x:UInt32)(a b c:Nat)(w:jJ)(A:1<=a/\a<=31)(hb:1<=b/\b<=31)(hc:1<=c/\c<=31):
  jV jI 275 #[nk nK x.toNat,nk nI a,nk nI b,nk nI c] w λe w'=>e=nG (nk nK (TM x a b c).toNat)/\w=w':=by
 have c1:=jH (xY x a w A.1 A.2);have c2:=jH (xY x b w hb.1 hb.2);have c3:=jH (xY x c w hc.1 hc.2);have h1:=jH (I4 (zh x a) (zh x b));have h2:=jH (I4 (zh x a^^^zh x b) (zh x c));clear A hb hc;go_in;go_wp2_with fail;refine c1.mono ?_;rintro e w' ⟨rfl,rfl⟩;go_wp2_with fail;refine c2.mono ?_;rintro e w' ⟨rfl,rfl⟩;go_wp2_with fail;refine c3.mono ?_;rintro e w' ⟨rfl,rfl⟩;go_wp2_with fail;go_returns;refine⟨congrArg (λz=>lJ (lQ nK z)) ?_,rfl⟩;rw[h1.out,h2.out];rfl
theorem Kl(x:UInt32)(a b c:Nat)(w:jJ)(A:1<=a/\a<=31)(hb:1<=b/\b<=31)(hc:1<=c/\c<=31):
  jV jI 284 #[nk nK x.toNat,nk nI a,nk nI b,nk nI c] w λe w'=>e=nG (nk nK (xL x a b c).toNat)/\∃n,w'=w.drewN n:=by
 have c1:=jH (λw=>xY x a w A.1 A.2);have c2:=jH (λw=>xY x b w hb.1 hb.2);have h1:=jH (I4 (zh x a) (zh x b));have h2:=jH (I4 (zh x a^^^zh x b) (shr x c));have C:=jH (a5F x c);have Y:=x.toNat_lt;obtain⟨E,I⟩:=hc;obtain⟨J,N⟩:=A;obtain⟨O,Q⟩:=hb;clear c1 c2;go_in;go_wp2_with fail;go_quiet ((go_at_call 285;exact O6 (xY x _ _ nL nL)));go_wp2_with fail;go_returns;refine⟨congrArg (λz=>lJ (lQ nK z)) ?_,_,rfl⟩;rw[h1.out,C.out,h2.out];rfl
def AbN{C:Type}(B:Nat)(E:C->jJ->Prop):Prop:=
 ∀s W A row,E s W->W.grownBy A row->(∀r,row=U r->B<=r)->E s A
def LJ(E:Nat)(W A:jJ):Prop:=W.heap.size<=A.heap.size/\∀k cs t m,E<=k->W.heap[k]? =U (nH cs t m)->A.heap[k]? =U (nH cs t m)
theorem LJ.trans{E:Nat}{A B C:jJ}(h:LJ E A B)(k:LJ E B C):LJ E A C:=⟨jY h.1 k.1,λi cs t m hi hc=>k.2 i cs t m hi (h.2 i cs t m hi hc)⟩
theorem LJ.refl(E:Nat)(W:jJ):LJ E W W:=⟨jK _,λ_ _ _ _ _ h=>h⟩
theorem LJ.put{E:Nat}{W:jJ}{l:Nat}{o:Obj}(A:Obj)(h:W.heap[l]? =U o)(ho:o.isCells=false):LJ E W (W.putObj l A):=by
 have hl:=(ku.1 h).1;refine⟨(grownBy_putObj' W l A).size,λk cs t m _ hc=> ?_⟩;have C:k≠l:=by
  intro e;subst e;rw[h]at hc;cases hc;simp[Obj.isCells]at ho
 rw[(grownBy_putObj' W l A).block k (ku.1 hc).1 (by simpa using C)];exact hc
def Mt(F:Fence)(n:Nat)(P:ma)(g:Nat)(lb:Array jP)(encs:Nat->Array jP)(I:jJ->jJ->Prop)(N:Nat)(w:jJ):Prop:=
 ∀(l:Nat)(E:Nat->jJ->Prop)(W:jJ),jS w.heap.size w W->AbN W.heap.size E->
  (∀k C,k<N->E k C->YieldAt F (n - 1) P l (encs k) C λe A=>e=nG (nC true)/\E (k+1) A/\I C A)->
  E 0 W->CallsIn F n P g (#[.func (.yield l) #[] #[]]++lb) W λe A=>(∃v,e=nG v)/\E N A
variable {F:Fence}{n:Nat}{P:ma}
def a5H(B E:Nat)(C:Nat->jJ->Prop)(k:Nat)(W:jJ):Exit->Act->jJ->Prop:=
 λe _ A=>e=.normal/\KeepsFrom B W A/\LJ E W A/\C k A
theorem DN{g:Operand}{ps:Array Tmp}{assign body:Code}{Q:Exit->Act->jJ->Prop}{a:Act}{w:jJ}(ay:F.round=V)(h1:1<=n){gf:Nat}{lb:Array jP}(hg:a.eval g=.func (.func gf) #[] lb)(az:F.fn gf)(eg:∀args w,(callFunc gf args).run P w=.ok (.enter gf args) w){encs:Nat->Array jP}{E N:Nat}{w0:jJ}(au:Mt F (n - 1) P gf lb encs (LJ E) N w0)(hb0:jS w0.heap.size w0 w)(aA:∀k,(encs k).size=ps.size)(ah:Nat->jJ->Prop)(hI:AbN w.heap.size ah)(h0:ah 0 w)(O8:∀(l k:Nat) (W:jJ),k<N->ah k W->assign.wpIn (F.inRound l) (n - 1 - 1) P (Exit.then (λae af=>af=W/\∀ai,ah k ai->body.wpIn (F.inRound l) (n - 1 - 1) P (a5H w.heap.size E ah (k+1) ai) ae ai) (λ_ _ _=>False))
   {tmps:=(ps.zip (encs k)).foldl (λt (p,v)=>t.setIfInBounds p v) a.tmps,defers:=[]} W)(hdone:∀(D:Nat) (W:jJ),w.heap.size<=D->ah N W->W.heap[D]? =U (.deferred (U []))->Q .normal {a with defers:={target:=.collected D,args:=#[]}::a.defers} W):
  (Code.rangeFunc g ps assign body).wpIn F n P Q a w:=by
 refine wpIn_rangeFunc λfn aB=> ?_
 rw[ay];generalize C:(λst=>({state:=st,pending:=V,fn,tmps:=a.tmps,params:=ps,assign,body,defers:=w.heap.size}:Loop))=rec;have aj:∀st,(rec st).state=st:=λst=>by rw[<-C]
 generalize O:(w.alloc (.deferred (U []))).alloc (.loop (rec .ready))=J;have aQ:J.heap.size=w.heap.size+2:=by rw[<-O];simp
 have aF:J.heap[w.heap.size+1]? =U (.loop (rec .ready)):=by
  rw[<-O];have:=World.alloc_heap_new (w.alloc (.deferred (U []))) (.loop (rec .ready));rwa [World.size_alloc]at this
 have aG:J.heap[w.heap.size]? =U (.deferred (U [])):=by
  rw[<-O];exact(Below.heap_alloc _ _ _ nS).trans (World.alloc_heap_new w _)
 have aH:ah 0 J:=by
  rw[<-O];exact hI _ _ _ V (hI _ _ _ V h0 (World.grownBy_alloc w _ V) (λ_ h=>by cases h)) (World.grownBy_alloc _ _ V) (λ_ h=>by cases h)
 have b1:jS w0.heap.size w0 J:=by
  rw[<-O];exact hb0.trans ((((jT _ w).alloc (jK _) _).alloc nS _).mono hb0.size)
 refine⟨w.heap.size+1,[{target:=.collected w.heap.size,args:=#[]}],J,{target:=.fn (.func gf) lb,args:=#[.func (.yield (w.heap.size+1)) #[] #[]]},J,gf,
  #[.func (.yield (w.heap.size+1)) #[] #[]]++lb,J,?_,?_,?_,?_,λ_=>h1,?_⟩
 .rw[<-O,<-C];exact run_enterLoop_outer _ _ _ _ _
 .simp only[resolve,hg]
  simp[go_sem]
 .intro aR ak;simp[Target.leads]at ak;subst ak;exact az
 .simp[invoke,go_sem,eg]
 .
  have keep:∀{A B:jJ}{row:Option Nat}{j:Nat}{o:Obj},A.grownBy B row->(∀r,row=U r->J.heap.size<=r)->j<J.heap.size->A.heap[j]? =U o->B.heap[j]? =U o:=by
   intro A B row j o Y aa aS ho;rw[Y.block j (ku.1 ho).1 (λe=>by have:=aa j e.symm;omega)];exact ho
  refine(au (w.heap.size+1) (λk W=>ah k W/\W.heap[w.heap.size+1]? =U (.loop (rec .ready))/\W.heap[w.heap.size]? =U (.deferred (U []))) J b1
   (λs A B row hs Y aa=>⟨hI s A B row hs.1 Y (λr e=>by have:=aa r e;omega),keep Y aa nL hs.2.1,keep Y aa nL hs.2.2⟩) ?_ ⟨aH,aF,aG⟩).mono ?_
  .rintro k W hk ⟨hi,hl,hd⟩
   have aC:=run_yield (P:=P) (args:=encs k) hl (by rw[<-C];exact aA k);rw[<-C]at aC
   have put:∀{W:jJ}{st:LoopState}(I:LoopState){k:Nat},W.heap[w.heap.size+1]? =U (.loop (rec st))->W.heap[w.heap.size]? =U (.deferred (U []))->ah k W->
     (W.putObj (w.heap.size+1) (.loop (rec I))).heap[w.heap.size+1]? =U (.loop (rec I))/\(W.putObj (w.heap.size+1) (.loop (rec I))).heap[w.heap.size]? =U (.deferred (U []))/\
      ah k (W.putObj (w.heap.size+1) (.loop (rec I))):=by
    intro W st I k hl hd hi;exact⟨World.putObj_heap_same (ku.1 hl).1,(World.putObj_heap_other nL).trans hd,hI _ _ _ (U (w.heap.size+1)) hi (grownBy_putObj' _ _ _) (λr e=>by cases e;omega)⟩
   have av:∀st I,({rec st with state:=I}:Loop)=rec I:=λst I=>by rw[<-C]
   refine⟨fn,_,assign,body,aC,roundIn_of_wpIn aB (wpIn_mono (O8 _ k W hk hi) ?_)⟩;rintro e ae af hp;cases e with
   |normal=>
    obtain⟨rfl,hb⟩:=hp;obtain⟨aI,aJ,aK⟩:=put .busy hl hd hi;refine⟨_,run_beginRound hl (aj _),?_⟩;rw[av];refine wpIn_mono (hb _ aK) ?_;rintro e a3 W3 ⟨rfl,aD,c3,aL⟩;have ax:=aD.same _ _ nL aI rfl;have aM:=aD.same _ _ (jK _) aJ rfl;obtain⟨aN,aO,aP⟩:=put .ready ax aM aL;have aa:=run_endRound (P:=P) V ax;refine⟨_,_,aa,?_⟩;have e4:({rec .busy with state:=if(V:Option Code).isNone then .ready else .done,pending:=V}:Loop)=rec .ready:=by rw[<-C];rfl
    rw[e4];exact⟨rfl,⟨aP,aN,aO⟩,((LJ.put _ hl rfl).trans c3).trans (LJ.put _ ax rfl)⟩
   |ret=>exact hp.elim
   |exit id=>exact hp.elim
   |goto t=>exact hp.elim
   |panic c=>exact hp.elim
   |outgrown=>exact hp.elim
  .rintro e ai ⟨⟨v,rfl⟩,hi,hl,hd⟩
   have ag:=run_endLoop (P:=P) hl (by rw[aj];simp);have e5:(rec .ready).pending=V:=by rw[<-C]
   rw[e5]at ag;exact⟨V,_,ag,hdone _ _ (jK _) (hI _ _ _ (U (w.heap.size+1)) hi (grownBy_putObj' _ _ _) (λr e=>by cases e;omega)) ((World.putObj_heap_other nL).trans hd)⟩
variable {P:ma}{ops:Array lY}{Q:Exit->Act->jJ->Prop}{md:Region.Mode}{n:Nat}
theorem a5I(l:Nat){o:lY}{a:Act}{K:Act->jJ->Prop}:∀ r:Result Next,o.upon P a K Q r->o.uponIn (Fence.wide.inRound l) n P a K Q r
 | .ok (.value v) w',h=>h
 | .ok .skip w',h=>h
 | .ok (.defer d) w',h=>h
 | .ok (.enter f args) w',h=>⟨(λh=>by cases h),CallsIn.inRound l (callsIn_wide.2 h)⟩
 | .ok (.row row args) w',h=>⟨(λh=>by cases h),λc cs _=>by
   obtain⟨v,w2,A,hs⟩:=h c cs;exact⟨v,w2,A,stepsIn_wide.2 hs⟩⟩
 | .ok (.round _ _ _ _ _) w',h=>h.elim
 | .halt (.panic v) w',h=>h
 | .halt (.exit _) w',h=>h.elim
 | .halt (.stuck _) w',h=>h.elim
 | .halt (.unsupported _) w',h=>h.elim
theorem a5J(l:Nat)(hd:∀(i:Nat) (o:lY) c,ops[i]? =U o->o.op≠.defer c)(hL:¬LetsOut Q){K C:Act->jJ->Prop}(E:∀a w,K a w->C a w){i:Nat}{a:Act}{w:jJ}(h:wpOp P ops Q i K a w):
  wpOpIn (Fence.wide.inRound l) n P ops Q i C a w:=by
 refine wpOpIn_mono E ?_;unfold wpOp at h;unfold wpOpIn;split;.rename_i ho;simp only[ho]at h;exact h
 .rename_i o ho
  simp only[ho]at h;split
  .rename_i A
   simp only[A,if_true]at h;rcases h with h|⟨_,h⟩
   .refine⟨λ_ _=>trivial,?_⟩
    rw[Oper.semAt_plain _ _ _ (λc=>hd i o c ho)];exact a5I l _ h
   .exact absurd h hL
  .rename_i A
   simp only[A]at h;exact⟨λ_ _=>trivial,h⟩
theorem Wn(l:Nat)(hd:∀(i:Nat) (o:lY) c,ops[i]? =U o->o.op≠.defer c)(hL:¬LetsOut Q):∀(fuel:Nat)(A:Array Bool)(a:Act)(w:jJ),wpAny P md ops Q fuel A a w->
  wpAnyIn (Fence.wide.inRound l) n P md ops Q fuel A a w
 |0,_,_,_,h=>h
 |fuel+1,A,a,w,h=>⟨h.1,λi hi=>a5J l hd hL (λC w' E=>Wn l hd hL fuel _ C w' E) (h.2 i hi)⟩
def Mv(ops:Array lY):Bool:=ops.all λo=>match o.op with| .defer _=>false|_=>true
theorem Iu(h:Mv ops=true)(i:Nat)(o:lY)(c:Call)(ho:ops[i]? =U o):o.op≠.defer c:=by
 intro e;have h1:=Array.all_eq_true.1 h i (ku.1 ho).1;rw[(ku.1 ho).2,e]at h1;cases h1
theorem DR{id:Nat}{a:Act}{w:jJ}{l:List lY}(r:Nat)(I:P.follows .mixedOrders=true)(hB:Region.lexB .any l.toArray=true)(hd:Mv l.toArray=true)(hL:¬LetsOut Q)(h:wpQuiet P l.toArray (λw'=>∃k,w'=w.drewN k) (λA=>∀k,Q .normal A (w.drewN k)) l a):(ll id l.toArray true).wpIn (Fence.wide.inRound r) n P Q a w:=by
 refine wpIn_region_any I (Wn r (Iu hd) hL _ _ _ _ ?_);have e:(λA:Act=>∀k,Q .normal A (w.drewN k))=λA=>∀w',(∃k,w'=w.drewN k)->Q .normal A w':=by
  funext A;exact propext ⟨λh w' ⟨k,hk⟩=>hk▸h k,λh k=>h _ ⟨k,rfl⟩⟩
 rw[e]at h;simp only[Region.lexB,j4]at hB;refine wpAny_of_quiet (C:=λw'=>∃k,w'=w.drewN k) (Q:=λA=>∀w',(∃k,w'=w.drewN k)->Q .normal A w') (λ_ w' E h=>h w' E) _ _ _ _ ⟨1,rfl⟩ ?_;have:=wpAnyQ_lex (C:=λw'=>∃k,w'=w.drewN k) (md:=.any) hB.1 l 0 (lD l.toArray.size false) a nS (by simpa using hB.2) h;simpa using this
end
section
open Go.RowKit Go.Shelf
attribute [local go_sem] Oper.semAt_some
def wS(l:List UInt8)(i:Nat):UInt32:=(tu l 64).getD i 0
theorem uC(l:List UInt8):∀n,(tu l n).length=n
 |0=>rfl
 |n+1=>by rw[tu,j5,uC l n];rfl
theorem Ey(l:List UInt8)(i n:Nat)(h:i<n):∀m,(tu l (n+m)).getD i 0=(tu l n).getD i 0
 |0=>rfl
 |m+1=>by
  rw[<-Ey l i n h m,show n+(m+1)=(n+m)+1 by omega,tu,lL,lL,List.getElem?_append_left (by rw[uC];omega)]
theorem Mw(l:List UInt8)(n i:Nat)(h:i<n)(hn:n<=64):(tu l n).getD i 0=wS l i:=by
 unfold wS;have:=Ey l i n h (64 - n);rw[show n+(64 - n)=64 by omega]at this;exact this.symm
theorem Rs(l:List UInt8)(i:Nat)(h:i<64):wS l i=Rp l (tu l i) i:=by
 rw[<-Mw l (i+1) i nL nL,tu,lL,List.getElem?_append_right (by rw[uC];omega),uC];simp
theorem a5K(l:List UInt8)(i:Nat)(h:i<16):wS l i=Bc l i:=by rw[Rs l i nL,Rp,if_pos h]
theorem a5L(l:List UInt8)(i:Nat)(h:16<=i)(h2:i<64):wS l i=wS l (i - 16)+(xL (wS l (i - 15)) 7 18 3+wS l (i - 7)+xL (wS l (i - 2)) 17 19 10):=by
 rw[Rs l i h2,Rp,if_neg nL,Mw l i _ nL nL,Mw l i _ nL nL,Mw l i _ nL nL,Mw l i _ nL nL]
def y8(l:Nat->UInt32):Nat->Array jP
 |0=>lD 16 (nk nK 0)
 |k+1=>(y8 l k).setIfInBounds (k % 16) (nk nK ((l k).toNat:Int))
theorem BK(l:Nat->UInt32):∀k,(y8 l k).size=16
 |0=>rfl
 |k+1=>by rw[y8,Array.size_setIfInBounds,BK l k]
theorem wC(l:Nat->UInt32):∀ k m:Nat,m<k->k<=m+16->(y8 l k)[m % 16]? =U (nk nK ((l m).toNat:Int))
 |0,m,h,_=>by omega
 |k+1,m,h,h2=>by
  rw[y8];by_cases e:m=k
  .subst e
   rw[Array.getElem?_setIfInBounds_self,if_pos (by rw[BK];omega)]
  .rw[Array.getElem?_setIfInBounds_ne nL]
   exact wC l k m nL nL
theorem TQ(l:Nat->UInt32)(k j:Nat)(h:j<16):∃v,(y8 l k)[j]? =U v:=⟨_,Array.getElem?_eq_getElem (by rw[BK];exact h)⟩
theorem Wo{P:ma}{F:Fence}{n:Nat}{c:Code}{Q:Exit->Act->jJ->Prop}{a:Act}{W:jJ}(R:jJ->Prop)(A:R W)(h:∀w,R w->c.wpIn F n P Q a w):c.wpIn F n P Q a W:=h W A
theorem AbN.drewN{A:Type}{B:Nat}{C:A->jJ->Prop}(h:AbN B C){k:A}{w:jJ}(hk:C k w)(m:Nat):C k (w.drewN m):=h _ _ _ V hk ⟨rfl,rfl,rfl,jK _,λ_ _ _=>rfl⟩ (λ_ e=>by cases e)
theorem AbN.set{A:Type}{B:Nat}{C:A->jJ->Prop}(h:AbN B C){k:A}{w:jJ}(hk:C k w){b:Nat}(hb:B<=b)(i:Nat)(v:jP):C k (w.setCell (Z b i V) v):=
 h _ _ _ (U b) hk ⟨rfl,rfl,rfl,by simp[kz],λj _ E=>j6 _ _ _ _ (λe=>E (by rw[e]))⟩ (λ_ e=>by cases e;exact hb)
theorem a0B(f:FuncId):Fence.wide.fn f:=trivial
theorem FY(n:Nat):Fence.wide.depth.isSome=true->1<=n:=λh=>Bool.noConfusion h
def Wp(l:Nat->UInt32)(k:Nat):Array jP:=#[nk nI (k:Int),nk nK ((l k).toNat:Int)]
theorem TR(x:UInt32)(p q r:Int)(w:jJ)(hp:1<=p/\p<=31)(A:1<=q/\q<=31)(C:1<=r/\r<=31):
  jV jI 284 #[nk nK x.toNat,nk nI p,nk nI q,nk nI r] w λe w'=>e=nG (nk nK (xL x p.toNat q.toNat r.toNat).toNat)/\∃n,w'=w.drewN n:=by
 have h:=Kl x p.toNat q.toNat r.toNat w nL nL nL;rwa [show((p.toNat:Nat):Int)=p by omega,show((q.toNat:Nat):Int)=q by omega,show((r.toNat:Nat):Int)=r by omega]at h
theorem Wq{p:Prop}(h:p:=by
 refine Wo (λW2=>J k W2/\nP W2 B (y8 wv (k+1)) 314/\nP W2 Bs #[nz s] 9) ⟨hJ.set (hJ.drewN hJs _) a7X _ _,(hR.drewN _).set _ _,(hS.drewN _).setOther hne _⟩ ?_;rintro W1 ⟨hJ1,hR1,hS1⟩;obtain⟨fn,tmps,assign,body,hy,hR'⟩:=hY k W1 hlt hJ1;unfold Wp at hy;have hc1:W1.cell? (Z B (k % 16) V)=U (nk nK ((wv k).toNat:Int)):=(hR1.cell _).trans (wC _ _ _ nL nL)
 gi_wp2
 refine⟨FY _,hR'.mono ?_⟩;rintro e W3 ⟨rfl,hJ3,hK3⟩
 gi_wp2
 go_roundw;case rel=>exact⟨k+1,nL,by go_num,hJ3,hK3.2 _ _ _ _ nL hR1,hK3.2 _ _ _ _ hE hS1⟩
 case measure=>simp[kT];omega):p:=h
theorem O9(n l Bs E:Nat)(s:ByteArray)(wv:Nat->UInt32)(hw1:∀(k:Nat) (w:jJ),k<16->jV jI 273 #[nz s,nk nI k] w λe w'=>e=nG (nk nK (wv k).toNat)/\∃n,w'=w.drewN n)(hw2:∀k,16<=k->k<64->wv k=wv (k - 16)+(xL (wv (k - 15)) 7 18 3+wv (k - 7)+xL (wv (k - 2)) 17 19 10))(J:Nat->jJ->Prop)(W:jJ)(hJ:AbN W.heap.size J)(hY:∀k W1,k<64->J k W1->YieldAt Fence.wide (n - 1) jI l (Wp wv k) W1 λe I=>e=nG (nC true)/\J (k+1) I/\LJ E W1 I)(hE:E<=Bs)(qN:nP W Bs #[nz s] 9)(h0:J 0 W):
  CallsIn Fence.wide n jI 283 #[.func (.yield l) #[] #[],nA (U (Z Bs 0 V))] W λe I=>(∃v,e=nG v)/\J 64 I:=by
 have af:Fence.wide.round=V:=rfl;have ag:=jH hw1;have ah:=jH hw2;clear hw1 hw2;obtain⟨B,hB⟩:=nV W.heap.size;have aA:Bs<B:=by rw[<-hB];exact qN.lt
 refine callsIn_of_wp Tryz.func283 rfl trivial ?_ af;simp only[Tryz.ntmps283,mP,kF,List.length_nil,Nat.reduceAdd,Nat.reduceSub,Array.replicate_succ,Array.replicate_zero,List.push_toArray,List.append_toArray,List.nil_append,List.cons_append]
 gi_wp2
 have ai:nP (W.alloc (nH (y8 wv 0) 314)) B (y8 wv 0) 314:=by rw[<-hB];exact nP.new _ _ _
 have aj:=hJ _ _ _ V h0 (World.grownBy_alloc W (nH (y8 wv 0) 314) V) (λ_ h=>by cases h);have O:=qN.alloc (nH (y8 wv 0) 314)
 gi_loopw [6] (λi wr=>∃k:Nat,k<=64/\i=nk nI k/\J k wr/\nP wr B (y8 wv k) 314/\nP wr Bs #[nz s] 9) (λi _=>64 -(kT i).toNat)
 case atStart=>exact⟨0,nL,rfl,aj,ai,O⟩
 case round=>
  obtain⟨k,hk,rfl,hJs,hR,hS⟩:=hrel;by_cases hlt:k<64
  .have A:=hS.cell 0
   have A:wr.cell? (Z Bs 0 V)=U (nz s):=A;have hne:Bs≠B:=nL;have a7X:W.heap.size<=B:=nL;obtain⟨v0,N⟩:=TQ wv k (k % 16) nL;have ak:wr.cell? (Z B (k % 16) V)=U v0:=(hR.cell _).trans N;have aF:=hR.free (k % 16);by_cases au:k<16
   .have aB:=jH (λw=>ag.out k w au)
    gi_upto_region 8 with(refine⟨trivial,?_⟩;gi_at_call 273;skip)
    refine⟨a0B _,FY _,CallsIn.mono (callsIn_wide.2 (aB _)) ?_⟩;rintro e w' ⟨rfl,nq,rfl⟩
    gi_upto_region 8 with(fail)
    exact Wq
   .have Q:=wC wv k (k - 16) nL nL
    have e1:=wC wv k (k - 15) nL nL;have Y:=wC wv k (k - 7) nL nL;have C:=wC wv k (k - 2) nL nL;rw[show(k - 16) % 16=k % 16 by omega]at Q;rw[show(k - 15) % 16=(k+1) % 16 by omega]at e1;rw[show(k - 7) % 16=(k+9) % 16 by omega]at Y;rw[show(k - 2) % 16=(k+14) % 16 by omega]at C;have aI:=(hR.cell (k % 16)).trans Q;have aJ:=(hR.cell ((k+1) % 16)).trans e1;have aK:=(hR.cell ((k+9) % 16)).trans Y;have aG:=(hR.cell ((k+14) % 16)).trans C;have hw2:=ah.out k nL nL;generalize av:wv (k - 16)=aC at*;generalize ax:wv (k - 15)=x1 at*;generalize ay:wv (k - 7)=aD at*;generalize aa:wv (k - 2)=az at*;have ae:=jH hw2;clear hw2 Q e1 Y C av ax ay aa ak A N
    gi_upto_region 7 with(refine⟨trivial,?_⟩;skip)
    refine wpIn_wide.2 (pU 24 nN nN ?_);simp only[ky,kL,mW,List.drop_zero];repeat(go_big_quiet_step (exact Calls.quiet_of (TR _ _ _ _ _ nO nO nO)))
    refine mK ?_;intro aH;go_wp2;have hval:(((aC.toNat:Int)+(((xL x1 7 18 3).toNat:Int)+(aD.toNat:Int)+((xL az 17 19 10).toNat:Int))) % 4294967296)=((wv k).toNat:Int):=by
     rw[ae.out,<-zD,<-zD,<-zD];omega
    rw[hval];exact Wq
  .obtain rfl:k=64:=nL
   gi_wp2
   go_end0;exact⟨⟨_,rfl⟩,hJs⟩
def a5M(b:Nat):jP:=.func (.func 283) #[] #[nA (U (Z b 0 V))]
theorem Pb(s:ByteArray)(w:jJ):
  jV jI 274 #[nz s] w λe w'=>∃b,e=nG (a5M b)/\w.heap.size<=b/\jS w.heap.size w w'/\nP w' b #[nz s] 9:=by
 go_in;go_wp2_with fail;go_returns;exact⟨_,rfl,jK _,(jT _ _).alloc (jK _) _,nP.new _ _ _⟩
theorem Pf(n Bs E:Nat)(s:ByteArray)(w:jJ)(hs:s.size=64)(I:E<=Bs)(hB:nP w Bs #[nz s] 9):
  Mt Fence.wide n jI 283 #[nA (U (Z Bs 0 V))] (Wp (wS s.data.toList)) (LJ E) 64 w:=by
 intro l O W hb J N h0;exact O9 n l Bs E s (wS s.data.toList) (λk w hk=>by
  rw[a5K _ _ hk];exact Ms s k w nL nL) (λk A C=>a5L _ _ A C) O W J N I (Below.blk hb hB hB.lt) h0
end
section
open Go.RowKit
section fold
variable {σ:Type}(step:σ->Nat×Nat->Nat->σ)
def p8(f:Nat->Option Nat):List (Nat×Nat)->σ->σ
 |[],s=>s
 |p::r,s=>p8 f r (match f p.1 with|some b=>step s p b|none=>s)
def upd(f:Nat->Option Nat)(i b:Nat):Nat->Option Nat:=λj=>if j=i then U b else f j
variable {step}
theorem BL(hc:∀s p q b c,p.1≠q.1->p.2≠q.2->step (step s p b) q c=step (step s q c) p b)(f:Nat->Option Nat)(p:Nat×Nat)(b:Nat):
  ∀(l:List (Nat×Nat))(s:σ),(∀q∈l,p.1≠q.1/\p.2≠q.2)->p8 step f l (step s p b)=step (p8 step f l s) p b
 |[],s,_=>rfl
 |q::r,s,h=>by
  have C:=h q nS;rw[p8,p8];cases E:f q.1 with
  |none=>exact BL hc f p b r s λx A=>h x (by simp[A])
  |some c=>
   show p8 step f r (step (step s p b) q c)=step (p8 step f r (step s q c)) p b;rw[hc s p q b c C.1 C.2];exact BL hc f p b r _ λx A=>h x (by simp[A])
theorem xq(f g:Nat->Option Nat):∀(l:List (Nat×Nat))(s:σ),(∀q∈l,f q.1=g q.1)->p8 step f l s=p8 step g l s
 |[],s,_=>rfl
 |q::r,s,h=>by
  rw[p8,p8,h q nS];exact xq f g r _ λx A=>h x (by simp[A])
theorem DT(hc:∀s p q b c,p.1≠q.1->p.2≠q.2->step (step s p b) q c=step (step s q c) p b)(f:Nat->Option Nat)(p:Nat×Nat)(b:Nat)(C:f p.1=V):
  ∀(l:List (Nat×Nat))(s:σ),l.Pairwise (λx y=>x.1≠y.1/\x.2≠y.2)->p∈l->step (p8 step f l s) p b=p8 step (upd f p.1 b) l s
 |[],s,_,h=>by cases h
 |q::r,s,hl,h=>by
  rw[List.pairwise_cons]at hl;rcases mM.1 h with rfl|E
  .have A:∀x∈r,p.1≠x.1/\p.2≠x.2:=hl.1
   rw[p8,p8,C];have e:upd f p.1 b p.1=U b:=by simp[upd]
   rw[e];show step (p8 step f r s) p b=p8 step (upd f p.1 b) r (step s p b);rw[<-BL hc f p b r s A];refine xq _ _ r _ λx I=> ?_
   have:=(A x I).1;unfold upd;rw[if_neg (Ne.symm this)]
  .have A:=hl.1 p E
   rw[p8,p8];have e:upd f p.1 b q.1=f q.1:=by unfold upd;rw[if_neg A.1]
   rw[e];exact DT hc f p b C r _ hl.2 E
end fold
def FZ(a:Act)(p:Nat×Nat)(b:Nat):Act:=a.put (U p.2) (nA (U (Z b 0 V)))
def yI(L:Array Bool)(p:Nat×Nat)(b:Nat):Array Bool:=L.setIfInBounds p.1 true
theorem TS(s:Act)(p q:Nat×Nat)(b c:Nat)(h1:p.1≠q.1)(h2:p.2≠q.2):FZ (FZ s p b) q c=FZ (FZ s q c) p b:=by
 unfold FZ;exact(Act.put_comm s _ _ (λd hd=>by cases hd;simpa using λe=>h2 e)).symm
theorem TU(s:Array Bool)(p q:Nat×Nat)(b c:Nat)(h1:p.1≠q.1)(h2:p.2≠q.2):yI (yI s p b) q c=yI (yI s q c) p b:=by
 unfold yI;exact Array.setIfInBounds_comm _ _ h1
theorem Cs(f:Nat->Option Nat)(d:Bool)(j:Nat):∀(l:List (Nat×Nat))(L:Array Bool),(∀p∈l,p.1=j->f p.1=V)->(p8 yI f l L).getD j d=L.getD j d
 |[],L,_=>rfl
 |p::r,L,h=>by
  rw[p8,Cs f d j r _ λx A=>h x (by simp[A])];cases C:f p.1 with
  |none=>rfl
  |some b=>
   have:p.1≠j:=λe=>by have:=h p nS e;rw[C]at this;cases this
   exact getD_set_ne d this
theorem I5(f:Nat->Option Nat)(j:Nat):∀(l:List (Nat×Nat))(L:Array Bool),L.getD j false=true->(p8 yI f l L).getD j false=true
 |[],L,h=>h
 |p::r,L,h=>by
  rw[p8];refine I5 f j r _ ?_;cases A:f p.1 with
  |none=>exact h
  |some b=>exact getD_set_true h
theorem I6(f:Nat->Option Nat)(d:Bool)(j:Nat):∀(l:List (Nat×Nat))(L:Array Bool),L.getD j d=true->(p8 yI f l L).getD j d=true
 |[],L,h=>h
 |p::r,L,h=>by
  rw[p8];refine I6 f d j r _ ?_;cases A:f p.1 with
  |none=>exact h
  |some b=>
   by_cases e:p.1=j
   .subst e
    unfold yI;simp only[lG,Array.getElem?_setIfInBounds_self];split;.rfl
    .rename_i hn
     rw[lG,mZ nL]at h;exact h
   .exact(getD_set_ne d e).trans h
theorem I7(f:Nat->Option Nat)(p:Nat×Nat)(b:Nat)(A:f p.1=U b):∀(l:List (Nat×Nat))(L:Array Bool),p∈l->(p8 yI f l L).getD p.1 true=true
 |[],_,h=>by cases h
 |q::r,L,h=>by
  rw[p8];rcases mM.1 h with rfl|C
  .rw[A]
   refine I6 f true p.1 r _ ?_;show(L.setIfInBounds p.1 true).getD p.1 true=true;rw[lG,Array.getElem?_setIfInBounds_self];split<;>rfl
  .exact I7 f p b A r _ C
def left(f:Nat->Option Nat)(l:List (Nat×Nat)):Nat:=(l.filter λp=>(f p.1).isNone).length
theorem Mx(f:Nat->Option Nat)(p:Nat×Nat)(b:Nat)(C:f p.1=V):∀(l:List (Nat×Nat)),l.Pairwise (λx y=>x.1≠y.1/\x.2≠y.2)->p∈l->left f l=left (upd f p.1 b) l+1
 |[],_,h=>by cases h
 |q::r,hl,h=>by
  rw[List.pairwise_cons]at hl;unfold left;rcases mM.1 h with rfl|E
  .have e:(upd f p.1 b p.1).isNone=false:=by simp[upd]
   rw[List.filter_cons_of_pos (by simp[C]),List.filter_cons_of_neg (by simp[e]),kF];congr 2;refine List.filter_congr λx J=> ?_
   have:=(hl.1 x J).1;unfold upd;rw[if_neg (Ne.symm this)]
  .have I:=(hl.1 p E).1
   have e:upd f p.1 b q.1=f q.1:=by unfold upd;rw[if_neg I]
   have A:=Mx f p b C r hl.2 E;unfold left at A;by_cases c:(f q.1).isNone=true;.rw[List.filter_cons_of_pos (by simpa using c),List.filter_cons_of_pos (by rw[e];simpa using c),kF,kF,A]
   .rw[List.filter_cons_of_neg (by simpa using c),List.filter_cons_of_neg (by rw[e];simpa using c),A]
structure a2B(H:Nat)(T:ko)(z:jP)(w0:jJ)(f:Nat->Option Nat)(l:List (Nat×Nat))(w:jJ):Prop where
 below:jS H w0 w
 blk:∀p∈l,∀b,f p.1=U b->H<=b/\nP w b #[z] T
 inj:∀p∈l,∀q∈l,∀b,f p.1=U b->f q.1=U b->p.1=q.1
variable {P:ma}{ops:Array lY}{Q:Exit->Act->jJ->Prop}{S:jJ->Prop}{md:Region.Mode}
theorem MB{z:jP}{H fuel:Nat}{w0:jJ}{a0:Act}{A:Array Bool}(l:List (Nat×Nat))(hl:l.Pairwise (λx y=>x.1≠y.1/\x.2≠y.2))(aI:H<=w0.heap.size)(hop:∀p∈l,∃o,ops[p.1]? =U o/\o.dst=U p.2/\o.guard=V/\(∀aJ w,(execOp aJ o).run P w=.ok (.value (nA (U (Z w.heap.size 0 V)))) (w.alloc (nH #[z] T)))/\
   (∀e∈o.after,mh md e=true->A.getD e.on false=true)/\A.getD p.1 true=false)(ah:∀j o,ops[j]? =U o->A.getD j true=false->(∀p∈l,p.1≠j)->∀p∈l,∃e∈o.after,mh md e=true/\e.on=p.1)(aB:∀w,S w->S (w.alloc (nH #[z] T)))(ax:∀(bs:Nat->Nat) w,S w->a2B H T z w0 (λi=>U (bs i)) l w->wpAnyH P md ops Q S fuel (p8 yI (λi=>U (bs i)) l A) (p8 FZ (λi=>U (bs i)) l a0) w):
  ∀(k:Nat)(f:Nat->Option Nat)(w:jJ),left f l=k->S w->a2B H T z w0 f l w->wpAnyH P md ops Q S (fuel+k) (p8 yI f l A) (p8 FZ f l a0) w:=by
 intro k;induction k with
 |zero=>
  intro f w hk N E;have C:∀p∈l,f p.1=U ((f p.1).getD 0):=by
   intro p hp;cases I:f p.1 with
   |some b=>rfl
   |none=>
    have:p∈l.filter λp=>(f p.1).isNone:=List.mem_filter.2 ⟨hp,by simp[I]⟩
    rw[mU.1 hk]at this;cases this
  have h:=ax (λi=>(f i).getD 0) w N ⟨E.below,λp hp b hb=>E.blk p hp b (by rw[C p hp];exact hb),λp hp q J b h1 h2=>E.inj p hp q J b (by rw[C p hp];exact h1) (by rw[C q J];exact h2)⟩;rw[xq f (λi=>U ((f i).getD 0)) l A C,xq f (λi=>U ((f i).getD 0)) l a0 C];exact h
 |succ k aK=>
  intro f w hk N E;have O:∀p∈l,f p.1=V->(p8 yI f l A).getD p.1 true=false/\(p8 yI f l A).getD p.1 false=false:=by
   intro p hp I;obtain⟨o,_,_,_,_,_,h0⟩:=hop p hp;rw[Cs f true p.1 l A (λx _ e=>by rw[e];exact I),Cs f false p.1 l A (λx _ e=>by rw[e];exact I)];refine⟨h0,?_⟩;rw[lG]at h0⊢;cases ai:A[p.1]? with
   |none=>rw[ai]at h0;cases h0
   |some v=>rw[ai]at h0;exact h0
  obtain⟨aa,Y,aj⟩:∃p∈l,f p.1=V:=by
   have:0<(l.filter λp=>(f p.1).isNone).length:=by show 0<left f l;omega
   obtain⟨p,hp⟩:=List.exists_mem_of_length_pos this;obtain⟨h1,h2⟩:=List.mem_filter.1 hp;exact⟨p,h1,by simpa using h2⟩
  have ae:∀i,i∈lN md ops (p8 yI f l A)->∃p∈l,p.1=i/\f p.1=V:=by
   intro i hi;obtain⟨h0,o,ho,he⟩:=mem_ready.1 hi;rcases Classical.em (∃p∈l,p.1=i)with⟨p,hp,ak⟩|au
   .refine⟨p,hp,ak,?_⟩
    cases I:f p.1 with
    |none=>rfl
    |some b=>
     have:=I7 f p b I l A hp;rw[ak,h0]at this;cases this
   .exfalso
    have hL:A.getD i true=false:=by rw[<-h0,Cs f true i l A (λx ai e=>absurd ⟨x,ai,e⟩ au)]
    obtain⟨e,af,ag,aC⟩:=ah i o ho hL (λp hp e=>au ⟨p,hp,e⟩) aa Y;have h1:=he e af ag;rw[aC,(O aa Y aj).2]at h1;cases h1
  refine⟨λay=> ?_,λi hi=> ?_⟩
  .exfalso
   obtain⟨o,ho,_,_,_,aD,_⟩:=hop aa Y;have:aa.1∈lN md ops (p8 yI f l A):=mem_ready.2 ⟨(O aa Y aj).1,o,ho,λe af ag=>I5 f e.on l A (aD e af ag)⟩;rw[ay]at this;cases this
  .obtain⟨p,hp,rfl,I⟩:=ae i hi
   obtain⟨o,ho,az,hg,aA,_,_⟩:=hop p hp;unfold wpOp;simp only[ho];have aL:∀y,Region.wanted o y=true:=λy=>by unfold Region.wanted;rw[hg]
   rw[if_pos (aL _)];refine .inl ?_;unfold Oper.wp;rw[aA];show S _/\wpAnyH P md ops Q S (fuel+k) _ ((p8 FZ f l a0).put o.dst (nA (U (Z w.heap.size 0 V)))) _;rw[az];refine⟨aB w N,?_⟩;have e1:=DT TU f p w.heap.size I l A hl hp;have e2:=DT TS f p w.heap.size I l a0 hl hp;have aF:(p8 yI f l A).setIfInBounds p.1 true=p8 yI (upd f p.1 w.heap.size) l A:=e1;have aG:(p8 FZ f l a0).put (U p.2) (nA (U (Z w.heap.size 0 V)))=p8 FZ (upd f p.1 w.heap.size) l a0:=e2;rw[aF,aG];have aM:=Mx f p w.heap.size I l hl hp;have av:H<=w.heap.size:=jY aI E.below.size;refine aK _ _ nL (aB w N) ⟨E.below.alloc av _,λq J b hb=> ?_,λq J r aH b h1 h2=> ?_⟩
   .unfold upd at hb
    by_cases c:q.1=p.1
    .rw[if_pos c]at hb
     cases hb;exact⟨av,nP.new w _ T⟩
    .rw[if_neg c]at hb
     obtain⟨h1,h2⟩:=E.blk q J b hb;exact⟨h1,h2.alloc _⟩
   .unfold upd at h1 h2
    by_cases c:q.1=p.1
    .by_cases d:r.1=p.1
     .rw[c,d]
     .rw[if_pos c]at h1
      rw[if_neg d]at h2;cases h1;exact absurd (E.blk r aH _ h2).2.lt (Nat.lt_irrefl _)
    .rw[if_neg c]at h1
     by_cases d:r.1=p.1
     .rw[if_pos d]at h2
      cases h2;exact absurd (E.blk q J _ h1).2.lt (Nat.lt_irrefl _)
     .rw[if_neg d]at h2
      exact E.inj q J r aH b h1 h2
section
variable {P:ma}{I:jJ->Prop}
end
section
variable {P:ma}{ops:Array lY}{md:Region.Mode}{C S:jJ->Prop}{Q:Exit->Act->jJ->Prop}
end
end
section
open Go.RowKit Go.Shelf
def S8.cs(s:S8):Array jP:=#[nk nK (s.a.toNat:Int),nk nK (s.b.toNat:Int),nk nK (s.c.toNat:Int),nk nK (s.d.toNat:Int),nk nK (s.e.toNat:Int),nk nK (s.f.toNat:Int),nk nK (s.g.toNat:Int),nk nK (s.h.toNat:Int)]
def a5N(md:Region.Mode)(ops:Array lY)(A:Array Bool)(l:List (Nat×Nat)):Bool:=
 (l5 ops.size).all λj=>A.getD j true||(l.any λp=>p.1==j)||(match ops[j]? with|some o=>l.all λp=>o.after.any λe=>mh md e&&e.on==p.1|none=>true)
theorem Pg{md:Region.Mode}{ops:Array lY}{C:Array Bool}{l:List (Nat×Nat)}(h:a5N md ops C l=true):
  ∀j o,ops[j]? =U o->C.getD j true=false->(∀p∈l,p.1≠j)->∀p∈l,∃e∈o.after,mh md e=true/\e.on=p.1:=by
 intro j o ho hL E p hp;have h1:=lM.1 h j (mf.2 (ku.1 ho).1);rw[hL]at h1;have h2:(l.any λp=>p.1==j)=false:=by
  rw[List.any_eq_false];intro q I;simpa using E q I
 rw[h2]at h1;simp only[ho,Bool.false_or]at h1;have J:=lM.1 h1 p hp;obtain⟨i,hi,A⟩:=Array.any_eq_true.1 J;simp only[j4,beq_iff_eq]at A;exact⟨_,Array.getElem_mem hi,A.1,A.2⟩
def MC(md:Region.Mode)(ops:Array lY)(A:Array Bool)(T:ko)(p:Nat×Nat):Bool:=
 match ops[p.1]? with
 |some o=>(o.dst==U p.2)&&o.guard.isNone&&(match o.op with| .alloc t=>t==T|_=>false)&&(o.after.all λe=> !(mh md e)||A.getD e.on false)&& !(A.getD p.1 true)
 |none=>false
theorem Iw{P:ma}{z:jP}{md:Region.Mode}{ops:Array lY}{E:Array Bool}{l:List (Nat×Nat)}(h:(l.all (MC md ops E T))=true)(N:∀A dst C pos after w,(execOp A {dst:=dst,op:=.alloc T,type:=C,pos:=pos,after:=after,guard:=V}).run P w=.ok (.value (nA (U (Z w.heap.size 0 V)))) (w.alloc (nH #[z] T))):
  ∀p∈l,∃o,ops[p.1]? =U o/\o.dst=U p.2/\o.guard=V/\(∀A w,(execOp A o).run P w=.ok (.value (nA (U (Z w.heap.size 0 V)))) (w.alloc (nH #[z] T)))/\
   (∀e∈o.after,mh md e=true->E.getD e.on false=true)/\E.getD p.1 true=false:=by
 intro p hp;have h1:=lM.1 h p hp;unfold MC at h1;cases ho:ops[p.1]? with
 |none=>rw[ho]at h1;cases h1
 |some o=>
  rw[ho]at h1;simp only[j4,beq_iff_eq,Bool.not_eq_true']at h1;obtain⟨⟨⟨⟨h1,h2⟩,I⟩,J⟩,O⟩:=h1;obtain⟨dst,op,C,pos,after,guard⟩:=o;simp only at h1 h2 I J;cases guard with
  |some g=>cases h2
  |none=>
   cases op<;>simp at I;subst I;refine⟨_,rfl,h1,rfl,λA w=>N A _ _ _ _ w,λe he hb=> ?_,O⟩;have:=Array.all_eq_true'.1 J e he;simpa [hb]using this
theorem TV(C:Operand->jP)(dst:Option Tmp)(A:ko)(pos:String)(after:Array Edge)(w:jJ):
  (execOp C {dst:=dst,op:=.alloc 22,type:=A,pos:=pos,after:=after,guard:=V}).run jI w=.ok (.value (nA (U (Z w.heap.size 0 V)))) (w.alloc (nH #[nk nK 0] 22)):=by
 simp[go_sem]
theorem TW(k:Nat)(w:jJ)(hk:k<64):
  jV jI 272 #[nk nI k] w λe w'=>e=nG (nk nK (kN k).toNat)/\∃n,w'=w.drewN n:=by
 obtain⟨R,A⟩:∃R:ByteArray,R=⟨Wl.toArray⟩:=⟨_,rfl⟩;have C:R.size=256:=by rw[A];rfl
 have c1:=Ms R k w nL nL;have e1:Bc R.data.toList k=kN k:=by rw[A];rfl
 rw[e1]at c1;have c1:=jH c1;clear e1 C;have A:=jH A;go_in;go_wp2_with fail;rw[A.out]at c1;refine c1.mono ?_;rintro e w' ⟨rfl,n,rfl⟩;go_wp2_with fail;go_returns;exact⟨rfl,_,rfl⟩
theorem Iy{P:ma}{c:Code}{K:Act->jJ->Prop}{Q:Exit->Act->jJ->Prop}{a:Act}{w:jJ}(h:c.wp P (Exit.then K λ_ _ _=>False) a w):c.wp P (Exit.then K Q) a w:=
 wp_mono h λe a w=>by cases e<;>first|exact λh=>h|exact λh=>h.elim
theorem vG{P:ma}{md:Region.Mode}{ops:Array lY}{Q:Exit->Act->jJ->Prop}{S:jJ->Prop}{n:Nat}{A:Array Bool}{a:Act}{W:jJ}(R:jJ->Prop)(C:R W)(h:∀w,R w->wpAnyH P md ops Q S n A a w):wpAnyH P md ops Q S n A a W:=h W C
def upI(x:Nat->Int)(j:Nat)(y:Int):Nat->Int:=λi=>if i=j then y else x i
def S8.at_(s:S8):Nat->Int
 |0=>s.a.toNat
 |1=>s.b.toNat
 |2=>s.c.toNat
 |3=>s.d.toNat
 |4=>s.e.toNat
 |5=>s.f.toNat
 |6=>s.g.toNat
 |_=>s.h.toNat
structure a5O(b0:Nat)(bs:Nat->Nat):Prop where
 inj:∀i j,i<8->j<8->bs (16+i)=bs (16+j)->i=j
 ge:∀j,j<8->b0+3<=bs (16+j)
structure vH(b0:Nat)(bs:Nat->Nat)(cs:Array jP)(w:jJ)(x:Nat->Int)(W:jJ):Prop where
 below:jS b0 w W
 st:nP W b0 cs 31
 res:nP W (b0+1) (lD 8 (nk nK 0)) 31
 cl:nP W (b0+2) #[.func (.func 272) #[] #[]] 302
 v:∀j,j<8->nP W (bs (16+j)) #[nk nK (x j)] 22
theorem vH.set{b0:Nat}{bs:Nat->Nat}{cs:Array jP}{w W:jJ}{x:Nat->Int}(h:vH b0 bs cs w x W)(hs:a5O b0 bs)(j:Nat)(A:j<8)(y:Int):
  vH b0 bs cs w (upI x j y) (W.setCell ⟨bs (16+j),0,V⟩ (nk nK y)):=by
 have hg:=hs.ge j A;refine⟨h.below.setCell nT _,h.st.setOther nT _,h.res.setOther nT _,h.cl.setOther nT _,λi hi=> ?_⟩;by_cases e:i=j
 .subst e
  have:=(h.v i hi).set 0 (nk nK y);simpa [upI]using this
 .have C:bs (16+i)≠bs (16+j):=λc=>e (hs.inj i j hi A c)
  have:=(h.v i hi).setOther (a:=⟨bs (16+j),0,V⟩) C (nk nK y);simpa [upI,e]using this
theorem vH.drewN{b0:Nat}{bs:Nat->Nat}{cs:Array jP}{w W:jJ}{x:Nat->Int}(h:vH b0 bs cs w x W)(n:Nat):vH b0 bs cs w x (W.drewN n):=
 ⟨⟨h.below.os,h.below.tape,h.below.output,h.below.size,h.below.block⟩,h.st,h.res,h.cl,h.v⟩
theorem vH.congr{b0:Nat}{bs:Nat->Nat}{cs:Array jP}{w W:jJ}{x y:Nat->Int}(h:vH b0 bs cs w x W)(e:∀j,j<8->x j=y j):vH b0 bs cs w y W:=
 ⟨h.below,h.st,h.res,h.cl,λj A=>by rw[<-e j A];exact h.v j A⟩
theorem vH.grown{b0:Nat}{bs:Nat->Nat}{cs:Array jP}{w W A:jJ}{x:Nat->Int}{row:Option Nat}{E:Nat}(h:vH b0 bs cs w x W)(J:∀j,j<8->bs (16+j)<E)(N:b0+2<E)(hg:W.grownBy A row)(C:∀r,row=U r->E<=r):vH b0 bs cs w x A:=by
 have keep:∀{b cs t},nP W b cs t->b<E->nP A b cs t:=by
  intro b cs t hb hlt;unfold nP;rw[hg.block b hb.lt (λe=>by have:=C b e.symm;omega)];exact hb
 have hsz:=hg.size;have hlt:=h.st.lt;refine⟨h.below.grown hg nL (λk hk=>by have:=C k hk;omega),keep h.st nL,keep h.res nL,keep h.cl nL,λj I=>keep (h.v j I) (J j I)⟩
theorem Au:∀j,j<8->(16+j,6+j)∈[(16,6),(17,7),(18,8),(19,9),(20,10),(21,11),(22,12),(23,13)]:=nO
theorem a5P(x:UInt32):bits BinOp.xor IntKind.u32 (if IntKind.u32.signed=true then -1 else IntKind.u32.max) (x.toNat:Int)=((~~~x).toNat:Int):=by
 have h:=I4 4294967295 x;have e:(4294967295:UInt32)^^^x= ~~~x:=by
  apply UInt32.toBitVec_inj.1;simp only[UInt32.toBitVec_xor,UInt32.toBitVec_not];apply BitVec.eq_of_getLsbD_eq;intro i hi;have h1:(4294967295:UInt32).toBitVec=BitVec.allOnes 32:=nO;rw[h1];simp only[BitVec.getLsbD_xor,BitVec.getLsbD_not,BitVec.getLsbD_allOnes,hi,decide_true,Bool.true_and];cases x.toBitVec.getLsbD i<;>rfl
 rw[e]at h;exact h
theorem Ga(x:UInt32)(p q r:Int)(w:jJ)(hp:1<=p/\p<=31)(A:1<=q/\q<=31)(C:1<=r/\r<=31):
  jV jI 275 #[nk nK x.toNat,nk nI p,nk nI q,nk nI r] w λe w'=>e=nG (nk nK (TM x p.toNat q.toNat r.toNat).toNat)/\w=w':=by
 have h:=O7 x p.toNat q.toNat r.toNat w nL nL nL;rwa [show((p.toNat:Nat):Int)=p by omega,show((q.toNat:Nat):Int)=q by omega,show((r.toNat:Nat):Int)=r by omega]at h
theorem ug{E:Nat}{W A:jJ}(h:KeepsFrom E W A/\LJ E W A){b:Nat}(hb:b<E)(v:jP):KeepsFrom E W (A.setCell (Z b 0 V) v)/\LJ E W (A.setCell (Z b 0 V) v):=by
 have hg:A.grownBy (A.setCell (Z b 0 V) v) (U b):=⟨rfl,rfl,rfl,by simp[kz],λk _ C=>j6 _ _ _ _ (λe=>C (by rw[e]))⟩;refine⟨h.1.trans (KeepsFrom.of_grownBy hg (λj e=>by cases e;exact hb)),h.2.trans ⟨hg.size,λk cs t m hk hc=> ?_⟩⟩;rw[hg.block k (ku.1 hc).1 nT];exact hc
def S8.get(s:S8):Nat->UInt32
 |0=>s.a
 |1=>s.b
 |2=>s.c
 |3=>s.d
 |4=>s.e
 |5=>s.f
 |6=>s.g
 |_=>s.h
def Ez(s t:S8)(k j:Nat):jP:=nk nK (((match Nat.blt j k with|true=>s.get j+t.get j|false=>s.get j):UInt32).toNat:Int)
def a0C(s t:S8)(k:Nat):Array jP:=#[Ez s t k 0,Ez s t k 1,Ez s t k 2,Ez s t k 3,Ez s t k 4,Ez s t k 5,Ez s t k 6,Ez s t k 7]
theorem uh{b0:Nat}{w W:jJ}(h:jS b0 w W)(j:Nat)(v:jP):jS b0 w (W.setCell (Z (b0+1) j V) v):=h.setCell (kV _) _
end
end Go.Proofs.YtamfcjmhnndbdaaGreatDoor


