/- Part 2 of the proof. -/
import Derived.Test.YtamfcjmhnndbdaaGreatDoorZoA
import Derived.Test.YtamfcjmhnndbdaaGreatDoorZo00
import Derived.Test.YtamfcjmhnndbdaaGreatDoorZo01
import Derived.Test.YtamfcjmhnndbdaaGreatDoorRows
import Derived.WalkSpells
import Derived.Deep.RegionWith
import Derived.WalkKit
import Derived.Lib.Hide
import Derived.Handy
import Derived.Lib.Strings
import Derived.Laws.BitsAllLaws
import Derived.RangeFuncNested
import Derived.RangeFuncBound
import Derived.RangeFuncCalls
import Derived.RangeFuncLeaves
import Derived.OwnWalkIn
import Derived.Deep.Quiet
import Derived.OrdersIn
import Derived.Shelf.Abstract
import Derived.TacticsInMore
import Derived.LoopNIn
import Derived.LoopIn
import Derived.Sort.CutIn
import Derived.OrdersHeld
import Derived.Deep.RegionHeld
import Derived.StillTail
import Derived.Deep.RegionHeld3
import Derived.Laws.EntriesVeiled
import Derived.Deep.WholeRow
import Derived.OwnWalk
open Go.Value renaming agg→nI,bool→nH,int→Y,pointer→nG,slice→u,string→G,tuple→nJ,int→lC
open Go.Obj renaming cells→nL
open Go.IntKind renaming i64→X,u32→nO,u64→nN
open Go.Ending renaming returned→nK,returned→kZ
open Go.Lib renaming hid→H,trimRightB→kM,size_eq→l9,extract_data→mF
open Go.Proofs.Tryz renaming prog→jy,underlying86→lq,underlying9→lU
open Go renaming World→M,Value→jC,Calls→jG,maxLen→jN,bodyPost_ret→jO,TypeId→jX,results→kF,Oper→lJ,Program→lQ,wpQuiet_nil→l7,wpAnyH_ready→l8
open Nat renaming le_refl→jB,le_trans→jM,lt_of_lt_of_le→jZ,zero_le→ko,le_succ→kR,pow_succ→kV,le_of_eq→lZ,lt_of_le_of_lt→mi,two_pow_add_eq_or_of_lt→mW
open Go.RowKit renaming Below→jD,Hid→jI,intOf→kC
open Go.RowKit.Below renaming refl→jE,heap_setCell→jW
open And renaming intro→jF
open List renaming setIfInBounds_toArray→jH,length_append→jK,getElem?_eq_getElem→jL,set_cons_zero→jQ,set_cons_succ→jR,getElem?_cons_zero→jS,getElem?_cons_succ→jT,getElem?_toArray→jV,take_succ_cons→jY,length_cons→j4,replicate→ky,length_drop→kG,take_zero→kJ,getD_eq_getElem?_getD→kL,take_of_length_le→kS,append_assoc→kX,range→ll,size_toArray→lK,all_eq_true→lN,mem_cons→l5,getElem?_append_left→l6,map_cons→mf,length_eq_zero_iff→mh,mem_range→mJ,drop_zero→mM,drop_succ_cons→mP,getElem?_append_right→mZ,map_nil→ng
open Bool renaming and_eq_true→jJ,true_and→mQ
open ByteArray renaming size_extract→jP
open UInt8 renaming ofNat→jU
open Go.World renaming setCell→j5
open Array renaming getElem?_eq_some_iff→j6,replicate→lh,getD_eq_getD_getElem?→lD
open Go.Instr renaming index→kP
open Go.Code renaming region→kT
open Go.AllReadyH renaming cons→lg,nil→lH
open Go.Region renaming ready→lI,Mode→lW,wanted→ma,binds→mH
open Go.Act renaming put→mR
open Ne renaming symm→nz
open Option renaming none→V,some→U
open Bool renaming true→R,false→O
open Go.Addr renaming mk→Z
open Decidable renaming decide→At
namespace Go.Proofs.YtamfcjmhnndbdaaGreatDoor
set_option linter.unusedVariables false
set_option linter.defProp false
set_option linter.unusedSimpArgs false
set_option maxRecDepth 100000
set_option maxHeartbeats 8000000
variable {s:An}{T t:jX}{L:List Ax}
section
open Go.RowKit
def bt:qj jy 86 5 9:=⟨lq,Tryz.underlying5,lU,nV⟩
def a5S(w:M):(Instr.makeSlice 86 (Y X 0) (Y X 10)).run jy w=
  .ok (u (U (Z w.heap.size 0 V)) 0 10) (w.alloc (nL (lh 10 (Y .u8 0)) 5)):=nV
def MN(n:Nat)(w:M)(hn:n<18446744073709551616):
  jG jy 143 #[Y nN n] w λe w'=>e=nK (G ⟨(ow n).toArray⟩)/\jD w.heap.size w w':=by
 have av:=a5S;obtain⟨B,hB⟩:∃B,B=w.heap.size:=⟨_,rfl⟩;have N:B<=w.heap.size:=K;rw[<-hB];clear hB;have ah:=AQ.start n hn;generalize ow n=t at*;go_in;go_wp2;go_loopw [0,3] (λae v wr=>∃(m:Nat) (l:List Ax),ae=Y nN m/\oI wr B 5 v l/\jD B w wr/\AQ t l m/\m<18446744073709551616) (λae _ _=>(kC ae).toNat);case atStart=>exact⟨n,[],rfl,oI.made w B _ _ 10 N nT rfl,(jE _ _).alloc N _,ah,hn⟩
 case round=>
  obtain⟨m,l,rfl,C,E,I,ai⟩:=hrel;have aa:B<=wr.heap.size:=by have:=E.size;omega
  have ak:=I.le;by_cases c:128<=m
  .have ag:=I.step c
   go_wp2_with (at_builtin;refine o7 bt rfl (.tmp 7) (.tmp 11) rfl B _ l [jU (m % 128+128)] 1 rfl wr _ (yZ (n:=m % 128+128) (a8q m) K) rfl C rfl K aa ?_;intro v' w' A J af);go_roundw;case rel=>exact⟨m/128,_,by go_num,A,E.trans J,ag,K⟩
   case measure=>simp[kC];omega
  .have aj:m<128:=K
   have hd:=H (I.done aj);go_wp2_with (at_builtin;refine o7 bt rfl (.tmp 15) (.tmp 18) rfl B _ l [jU m] 1 rfl wr _ (yZ (n:=m) K K) rfl C rfl K aa ?_;intro v' w' A J af;have au:=A.string bt);go_returns;exact⟨by rw[<-hd.out];rfl,E.trans J⟩
def Un:∀ k n:Nat,n<128^k->n<18446744073709551616->(ow n).length=max 1 ((Lib.bitLen n+6)/7)
 |k,n,hk,h=>by
  by_cases c:n<128
  .rw[rC n c]
   have:=Lib.bitLen_le n 7 K c;simp;omega
  .match k,hk with
   |0,hk=>simp at hk;omega
   |k+1,hk=>
   rw[vP n K,j4,Un k (n/128) (by rw[kV]at hk;omega) K];rw[Lib.bitLen_shift 7 n K h];have:n/2^7=n/128:=rfl;rw[this];have A:1<=Lib.bitLen (n/128):=by
    rw[Lib.bitLen_half (n/128) K K];omega
   omega
def OO(n:Nat)(w:M)(hn:n<18446744073709551616):
  jG jy 142 #[Y nN n] w λe w'=>e=nK (Y X (ow n).length)/\w=w':=by
 have hl:=H (Un 10 n (jZ hn nT) hn);have hb:Lib.bitLen n<=64:=Lib.bitLen_le n 64 K hn;have hc:=λw=>Tryz.bits_Len64 n w K K
 rw[Int.toNat_natCast]at hc;generalize Lib.bitLen n=m at*;have A:=H hc;clear hc;go_in;go_wp2_with fail;refine(A _).mono ?_;rintro e w' ⟨rfl,rfl⟩;go_wp2_with fail
 all_goals
  go_returns;exact⟨by rw[hl.out];exact congrArg kZ (congrArg (lC X) K),rfl⟩
def Uo{p:Prop}(h:p:=by
 clear c c2;go_wp2;go_round;case rel=>exact⟨k+1,_,p*128,K,K,by go_num,by rw[hor.out],by go_num,hp',hs'⟩
 case measure=>simp[kC];omega):p:=h
def xm(s:An)(w:M)(hs:s.size<=jN):
  jG jy 75 #[G s] w λe w'=>e=nK (Mv (oC s.data.toList 0 0))/\w=w':=by
 unfold jN at hs;have I:=xI.start s;generalize oC s.data.toList 0 0=t at*;go_in;go_wp2
 .go_loop [5,6,7] (λacc A i=>∃k n p:Nat,k<=s.size/\k<=9/\i=Y X k/\acc=Y nN n/\A=Y nN p/\jI (p=128^k)/\xI s t k n) (λ_ _ i=>10 -(kC i).toNat)
  case atStart=>exact⟨0,0,1,K,K,rfl,rfl,rfl,rfl,I⟩
  case round=>
   obtain⟨k,n,p,hk,C,rfl,rfl,rfl,hp,hv⟩:=hrel;by_cases hlt:k<s.size
   .have hb:s[k].toNat<=255:=by have:=s[k].toNat_lt;omega
    by_cases c:k=9/\1<s[k].toNat\/0<k/\s[k].toNat=0;.exact YA
    .have hor:=H (a2A k n s[k].toNat p C hv.1 K K hp)
     by_cases c2:s[k].toNat<128;.exact Yz
     .have c4:128<=s[k].toNat:=K
      have hs':=hv.step hlt c c4;have c1:((k:Int)==9)=O:=vo;have E:k<=8:=K;have J:p<=72057594037927936:=by rw[hp.out];exact Uh k E
      have hp':jI (p*128=128^(k+1)):=by unfold jI;rw[hp.out,kV]
      by_cases d2:0<k
      .have c3:((s[k].toNat:Int)==0)=O:=vo
       exact Uo
      .exact Uo
   .go_wp2
    go_returns;exact⟨by rw[hv.short K];rfl,rfl⟩
def xM(m:Int)(s:An)(w:M)(C:-9223372036854775808<=m/\m<=9223372036854775807)(hs:s.size<=jN):
  jG jy 92 #[Y X m,G s] w λe w'=>e=nK (nJ #[Y X (o8 m s.data.toList).1,Y X (o8 m s.data.toList).2.1,Y X (o8 m s.data.toList).2.2])/\w=w':=by
 have c1:=λw=>DN s w hs
 have hp:o8 m s.data.toList=if(oC s.data.toList 0 0).2.2=0 then if m<0\/m<((oC s.data.toList 0 0).1:Int)then(0,0,5)else oC s.data.toList 0 0 else(0,0,(oC s.data.toList 0 0).2.2):=rfl
 have hlt:=λN am h=>(qN (l:=s.data.toList) (N:=N) (am:=am) h).2.1
 obtain⟨J,aa⟩:=C;unfold jN at hs;generalize o8 m s.data.toList=r at*;generalize oC s.data.toList 0 0=t at*;obtain⟨n,k,e⟩:=t;have C1:jI (∀w,jG jy 126 #[G s] w λE w'=>E=nK (nJ #[Y nN n,Y X k,Y X e])/\w=w'):=c1;clear c1;by_cases he:e=0
 .subst he
  have hn:=hlt n k rfl;clear hlt;rw[AC rfl]at hp;by_cases A:m<0
  .rw[AC (.inl A)]at hp
   subst hp;exact xK
  .obtain⟨aq,rfl⟩:∃aq:Nat,m=aq:=⟨m.toNat,K⟩
   by_cases I:aq<n
   .rw[AC (.inr (by simp only;omega))]at hp
    subst hp;clear A;exact xK
   .rw[As (by simp only;omega)]at hp
    subst hp;have ae:At (aq<n)=O:=nY;have ah:n<=aq:=K;clear A I;exact xK
 .rw[As he]at hp
  subst hp;have af:((e:Int)==0)=O:=vo;have ag:((e:Int) !=0)=R:=EX;clear he hlt;exact xK
def DV(m:Int)(s:An)(w:M)(C:-9223372036854775808<=m/\m<=9223372036854775807)(hs:s.size<=jN):
  jG jy 74 #[Y X m,G s] w λe w'=>e=nK (nJ #[Y X (o8 m s.data.toList).1,Y X (o8 m s.data.toList).2.1,Y X (o8 m s.data.toList).2.2])/\w=w':=by
 have c1:=λw=>xm s w hs
 have hp:o8 m s.data.toList=if(oC s.data.toList 0 0).2.2=0 then if m<0\/m<((oC s.data.toList 0 0).1:Int)then(0,0,5)else oC s.data.toList 0 0 else(0,0,(oC s.data.toList 0 0).2.2):=rfl
 have hlt:=λN am h=>(qN (l:=s.data.toList) (N:=N) (am:=am) h).2.1
 obtain⟨J,aa⟩:=C;unfold jN at hs;generalize o8 m s.data.toList=r at*;generalize oC s.data.toList 0 0=t at*;obtain⟨n,k,e⟩:=t;have C1:jI (∀w,jG jy 75 #[G s] w λE w'=>E=nK (nJ #[Y nN n,Y X k,Y X e])/\w=w'):=c1;clear c1;by_cases he:e=0
 .subst he
  have hn:=hlt n k rfl;clear hlt;rw[AC rfl]at hp;by_cases A:m<0
  .rw[AC (.inl A)]at hp
   subst hp;exact xK
  .obtain⟨aq,rfl⟩:∃aq:Nat,m=aq:=⟨m.toNat,K⟩
   by_cases I:aq<n
   .rw[AC (.inr (by simp only;omega))]at hp
    subst hp;clear A;exact xK
   .rw[As (by simp only;omega)]at hp
    subst hp;have ae:At (aq<n)=O:=nY;have ag:n<=aq:=K;clear A I;exact xK
 .rw[As he]at hp
  subst hp;have af:((e:Int) !=0)=R:=EX;clear he hlt;exact xK
def yQ(id:Nat)(b:An):jC:=nI #[Y nN id,G ⟨#[]⟩,G b]
def PF.v(f:PF):jC:=nJ #[yQ f.id f.body,Y X f.n,Y X f.e]
def V8(id:Nat)(b:An)(w:M)(hid:id<18446744073709551616)(hb:(ow id).length+b.size<=65536):
  jG jy 104 #[Y nN id,G b] w λe w'=>e=nK (nJ #[G (ve id b),Y X 0])/\jD w.heap.size w w':=by
 have hl:=sQ 10 id (jZ hid nT);have c1:=H (λw=>OO id w hid);have c2:=H (λw=>MN ((ow id).length+b.size) w K);have c3:=H (λw=>MN id w hid);have J:(⟨(ow ((ow id).length+b.size)).toArray⟩:An).size<=10:=by
  rw[size_mk];have:=sQ 10 ((ow id).length+b.size) (mi hb nT);omega
 have I:(⟨(ow id).toArray⟩:An).size<=10:=by rw[size_mk];omega
 have hp:ve id b=⟨(ow ((ow id).length+b.size)).toArray⟩++⟨(ow id).toArray⟩++b:=rfl;generalize ve id b=ar at*;generalize (⟨(ow ((ow id).length+b.size)).toArray⟩:An)=ac at*;generalize (⟨(ow id).toArray⟩:An)=ab at*;generalize (ow id).length=m at*;have E:=H hp;clear hp;go_in;go_wp2_with fail;refine(c1 _).mono ?_;rintro e w' ⟨rfl,rfl⟩;go_wp2_with fail;refine(c2 _).mono ?_;rintro e w1 ⟨rfl,A⟩;go_wp2_with fail;refine(c3 _).mono ?_;rintro e w2 ⟨rfl,C⟩;go_wp2;go_returns;exact⟨by rw[E.out];rfl,A.trans (C.mono A.size)⟩
def IG(id:Nat)(b:An)(w:M)(hid:id<18446744073709551616)(hb:65536<(ow id).length+b.size)(hs:b.size<=9223372036854770000):
  jG jy 104 #[Y nN id,G b] w λe w'=>e=nK (nJ #[G ⟨#[]⟩,Y X 5])/\w=w':=by
 have hl:=sQ 10 id (jZ hid nT);have c1:=H (λw=>OO id w hid);generalize (ow id).length=m at*;go_in;go_wp2_with fail;refine(c1 _).mono ?_;rintro e w' ⟨rfl,rfl⟩;go_wp2;go_returns;exact⟨rfl,rfl⟩
def xN(t:An)(w:M):jG jy 144 #[G t] w λe w'=>∃b,e=nK (nG (U (Z b 0 V)))/\w.heap.size<=b/\jD w.heap.size w w'/\xg w' b (RS.of t):=
 (AP t w).mono λ_ _ ⟨he,hb,_,A⟩=>⟨_,he,jB _,hb,A⟩
def zI:Array jC:=#[Y nN 0,G ⟨#[]⟩,G ⟨#[]⟩]
def E8(m:Int)(s:An)(er:Nat)(w:M)(A:-9223372036854775808<=m/\m<=9223372036854775807)(hs:s.size<=jN)(hp:o8 m s.data.toList=(0,0,er))(he:er≠0):
  jG jy 106 #[Y X m,G s] w λe w'=>e=nK (PF.bad er).v/\jD w.heap.size w w':=by
 have c1:=λw=>xM m s w A hs
 rw[hp]at c1;have C:=H c1;have E:((er:Int) !=0)=R:=EX;clear c1 hp A he;go_in;go_wp2_with fail;refine(C _).mono ?_;rintro e w' ⟨rfl,rfl⟩;go_wp2_with fail;refine jO (v:=(PF.bad er).v) (by simp[kF,Tryz.results106,go_sem,PF.v,PF.bad,yQ]) rfl ⟨rfl,?_⟩;exact(jE _ _).alloc (jB _) _
def Rl{p:Prop}(h:p:=by
 show RS.take ⟨s,0,0⟩ k=_;unfold RS.take;rw[AC rfl,As K,As (by simp only[];omega)];simp):p:=h
def GR(m:Int)(s:An)(n k:Nat)(w:M)(ag:-9223372036854775808<=m/\m<=9223372036854775807)(hs:s.size<=jN)(hp:o8 m s.data.toList=(n,k,0))(aB:s.size<k+n):
  jG jy 106 #[Y X m,G s] w λe w'=>e=nK (PF.bad 2).v/\jD w.heap.size w w':=by
 have c1:=λw=>xM m s w ag hs
 rw[hp]at c1;have ay:=H c1;obtain⟨az,aD,ah,aF⟩:=vw hp;rw[<-l9]at ah;have C:=hs;unfold jN at C;have ct:=H (λb w (h:xg w b (RS.of s))=>qJ b (RS.of s) k w (RS.Ok.of C) h);have e1:RS.take (RS.of s) k=(⟨s,k,0⟩,s.extract 0 k):=by
  exact Rl
 rw[e1]at ct;have E:=H (λb w (h:xg w b ⟨s,k,0⟩)=>qJ b ⟨s,k,0⟩ n w ⟨ah,C⟩ h);have e2:RS.take ⟨s,k,0⟩ n=(⟨s,k,2⟩,vv):=by
  unfold RS.take;rw[AC rfl,As K,AC (by simp only[];omega)]
 rw[e2]at E;have aC:∀(fn:Fn)(first cap:Array jC)(w:M),(Instr.makeFunc fn first cap).run jy w=.ok (.func fn first cap) w:=λ_ _ _ _=>rfl
 clear c1 hp ag e1 e2 az;go_in;go_wp2_with fail;refine(ay _).mono ?_;rintro e w' ⟨rfl,rfl⟩;go_wp2_with fail;refine(xN _ _).mono ?_;rintro e w1 ⟨b,rfl,I,J,ai⟩;go_wp2_with fail;refine(ct _ _ ai).mono ?_;rintro e w2 ⟨rfl,u2,aj⟩;go_wp2_with fail;refine(E _ _ aj).mono ?_;rintro e w3 ⟨rfl,u3,ak⟩;have cf:=H (qD _ _ _ ak);go_wp2_with fail;refine cf.mono ?_;rintro e w' ⟨rfl,rfl⟩;have hlt:w.heap.size<b:=by simp at I;omega
 have N:=Below.blk J (nU.new w zI 52) nX;have aa:=u2.blk N K;have A:=u3.blk aa K;have ae:=((jE w.heap.size w).alloc (jB _) (nL zI 52)).trans (J.mono nX);have af:=u2.below ae K ae.size;have aA:=H (u3.below af K af.size);have au:=A.cell 0;have av:=A.cell 1;have ax:=A.cell 2;obtain⟨aG,f1,f2⟩:=A.f3;simp[zI]at au av ax;clear ae af N aa I;go_wp2_with fail;refine jO (v:=(PF.bad 2).v) (by simp[kF,Tryz.results106,go_sem,PF.v,PF.bad,yQ,au,av,ax]) rfl ⟨rfl,?_⟩;exact((aA.setCell (p:=(Z w.heap.size 0 V)) (jB _) _).setCell (p:=(Z w.heap.size 1 V)) (jB _) _).setCell (p:=(Z w.heap.size 2 V)) (jB _) _
def GU(m:Int)(s:An)(n k:Nat)(w:M)(ag:-9223372036854775808<=m/\m<=9223372036854775807)(hs:s.size<=jN)(hp:o8 m s.data.toList=(n,k,0))(aJ:k+n<=s.size)(ah:(oC (s.extract k (k+n)).data.toList 0 0).2.2≠0):
  jG jy 106 #[Y X m,G s] w λe w'=>e=nK (PF.bad 3).v/\jD w.heap.size w w':=by
 have c1:=λw=>xM m s w ag hs
 rw[hp]at c1;have aB:=H c1;obtain⟨aC,aL,ai,aM⟩:=vw hp;rw[<-l9]at ai;have C:=hs;unfold jN at C;have ct:=H (λb w (h:xg w b (RS.of s))=>qJ b (RS.of s) k w (RS.Ok.of C) h);have e1:RS.take (RS.of s) k=(⟨s,k,0⟩,s.extract 0 k):=by
  exact Rl
 rw[e1]at ct;have E:=H (λb w (h:xg w b ⟨s,k,0⟩)=>qJ b ⟨s,k,0⟩ n w ⟨ai,C⟩ h);have e2:RS.take ⟨s,k,0⟩ n=(⟨s,k+n,0⟩,s.extract k (k+n)):=by
  unfold RS.take;rw[AC rfl,As K,As (by simp only[];omega)];rfl
 rw[e2]at E;have aj:=λw=>DN (s.extract k (k+n)) w (by unfold jN;rw[jP];omega)
 generalize oC (s.extract k (k+n)).data.toList 0 0=t at*;obtain⟨aD,aF,ak⟩:=t;have aG:jI (∀w,jG jy 126 #[G (s.extract k (k+n))] w λaH w'=>aH=nK (nJ #[Y nN aD,Y X aF,Y X ak])/\w=w'):=aj;have aK:((ak:Int) !=0)=R:=by rw[bne_iff_ne];simp only at ah;omega
 clear aj ah;clear c1 hp ag e1 e2 aC;go_in;go_wp2_with fail;refine(aB _).mono ?_;rintro e w' ⟨rfl,rfl⟩;go_wp2_with fail;refine(xN _ _).mono ?_;rintro e w1 ⟨b,rfl,I,J,au⟩;go_wp2_with fail;refine(ct _ _ au).mono ?_;rintro e w2 ⟨rfl,u2,av⟩;go_wp2_with fail;refine(E _ _ av).mono ?_;rintro e w3 ⟨rfl,u3,ax⟩;have cf:=H (qD _ _ _ ax);go_wp2_with fail;refine cf.mono ?_;rintro e w' ⟨rfl,rfl⟩;have hlt:w.heap.size<b:=by simp at I;omega
 have N:=Below.blk J (nU.new w zI 52) nX;have aa:=u2.blk N K;have A:=u3.blk aa K;have ae:=((jE w.heap.size w).alloc (jB _) (nL zI 52)).trans (J.mono nX);have af:=u2.below ae K ae.size;have aI:=H (u3.below af K af.size);have ay:=A.cell 0;have az:=A.cell 1;have aA:=A.cell 2;obtain⟨aN,f1,f2⟩:=A.f3;simp[zI]at ay az aA;clear ae af N aa I;go_wp2_with fail;refine(aG _).mono ?_;rintro e w' ⟨rfl,rfl⟩;go_wp2_with fail;refine jO (v:=(PF.bad 3).v) (by simp[kF,Tryz.results106,go_sem,PF.v,PF.bad,yQ,ay,az,aA]) rfl ⟨rfl,?_⟩;exact((aI.setCell (p:=(Z w.heap.size 0 V)) (jB _) _).setCell (p:=(Z w.heap.size 1 V)) (jB _) _).setCell (p:=(Z w.heap.size 2 V)) (jB _) _
def Ku(m:Int)(s:An)(n k id z:Nat)(w:M)(aj:-9223372036854775808<=m/\m<=9223372036854775807)(hs:s.size<=jN)(hp:o8 m s.data.toList=(n,k,0))(aJ:k+n<=s.size)(af:oC (s.extract k (k+n)).data.toList 0 0=(id,z,0)):
  jG jy 106 #[Y X m,G s] w λe w'=>e=nK (PF.mk id ((s.extract k (k+n)).extract z n) (k+n) 0).v/\jD w.heap.size w w':=by
 have c1:=λw=>xM m s w aj hs
 rw[hp]at c1;have aD:=H c1;obtain⟨aF,aK,ak,aL⟩:=vw hp;rw[<-l9]at ak;have C:=hs;unfold jN at C;have ct:=H (λb w (h:xg w b (RS.of s))=>qJ b (RS.of s) k w (RS.Ok.of C) h);have e1:RS.take (RS.of s) k=(⟨s,k,0⟩,s.extract 0 k):=by
  exact Rl
 rw[e1]at ct;have E:=H (λb w (h:xg w b ⟨s,k,0⟩)=>qJ b ⟨s,k,0⟩ n w ⟨ak,C⟩ h);have e2:RS.take ⟨s,k,0⟩ n=(⟨s,k+n,0⟩,s.extract k (k+n)):=by
  unfold RS.take;rw[AC rfl,As K,As (by simp only[];omega)];rfl
 rw[e2]at E;have I:(s.extract k (k+n)).size=n:=by rw[jP];omega
 have aG:=(qN af).1;rw[<-l9,I]at aG;have ag:=λw=>DN (s.extract k (k+n)) w (by unfold jN;rw[jP];omega)
 rw[af]at ag;have au:jI (∀w,jG jy 126 #[G (s.extract k (k+n))] w λaH w'=>aH=nK (nJ #[Y nN id,Y X z,Y X 0])/\w=w'):=ag;clear ag af;obtain⟨ac,av⟩:∃ac,ac=s.extract k (k+n):=⟨_,rfl⟩;rw[<-av]at I au e2 E|-;clear av;clear c1 hp aj e1 e2 aF;go_in;go_wp2_with fail;refine(aD _).mono ?_;rintro e w' ⟨rfl,rfl⟩;go_wp2_with fail;refine(xN _ _).mono ?_;rintro e w1 ⟨b,rfl,J,N,ax⟩;go_wp2_with fail;refine(ct _ _ ax).mono ?_;rintro e w2 ⟨rfl,u2,ay⟩;go_wp2_with fail;refine(E _ _ ay).mono ?_;rintro e w3 ⟨rfl,u3,az⟩;have cf:=H (qD _ _ _ az);go_wp2_with fail;refine cf.mono ?_;rintro e w' ⟨rfl,rfl⟩;have hlt:w.heap.size<b:=by simp at J;omega
 have aa:=Below.blk N (nU.new w zI 52) nX;have ae:=u2.blk aa K;have A:=u3.blk ae K;have ah:=((jE w.heap.size w).alloc (jB _) (nL zI 52)).trans (N.mono nX);have ai:=u2.below ah K ah.size;have aI:=H (u3.below ai K ai.size);have aA:=A.cell 0;have aB:=A.cell 1;have aC:=A.cell 2;obtain⟨aM,f1,f2⟩:=A.f3;simp[zI]at aA aB aC;clear ah ai aa ae J;go_wp2_with fail;refine(au _).mono ?_;rintro e w' ⟨rfl,rfl⟩;go_wp2_with fail;refine jO (v:=(PF.mk id (ac.extract z n) (k+n) 0).v) (by simp[kF,Tryz.results106,go_sem,PF.v,yQ,aA,aB,aC]) rfl ⟨rfl,?_⟩;exact((aI.setCell (p:=(Z w.heap.size 0 V)) (jB _) _).setCell (p:=(Z w.heap.size 1 V)) (jB _) _).setCell (p:=(Z w.heap.size 2 V)) (jB _) _
def E9(m:Int)(s:An)(er:Nat)(w:M)(A:-9223372036854775808<=m/\m<=9223372036854775807)(hs:s.size<=jN)(hp:o8 m s.data.toList=(0,0,er))(he:er≠0):
  jG jy 41 #[Y X m,G s] w λe w'=>e=nK (PF.bad er).v/\jD w.heap.size w w':=by
 have c1:=λw=>DV m s w A hs
 rw[hp]at c1;have C:=H c1;have E:((er:Int) !=0)=R:=EX;clear he;unfold jN at hs;clear c1 hp A;go_in;go_wp2_with fail;refine(C _).mono ?_;rintro e w' ⟨rfl,rfl⟩;go_wp2_with fail;refine jO (v:=(PF.bad er).v) (by simp[kF,Tryz.results41,go_sem,PF.v,PF.bad,yQ]) rfl ⟨rfl,?_⟩;exact(jE _ _).alloc (jB _) _
def GV(m:Int)(s:An)(n k:Nat)(w:M)(A:-9223372036854775808<=m/\m<=9223372036854775807)(hs:s.size<=jN)(hp:o8 m s.data.toList=(n,k,0))(J:s.size<k+n):
  jG jy 41 #[Y X m,G s] w λe w'=>e=nK (PF.bad 2).v/\jD w.heap.size w w':=by
 have c1:=λw=>DV m s w A hs
 rw[hp]at c1;have C:=H c1;obtain⟨E,N,I,aa⟩:=vw hp;rw[<-l9]at I;have hd:(s.size:Int) - k<n:=K;clear E;unfold jN at hs;clear c1 hp A;go_in;go_wp2_with fail;refine(C _).mono ?_;rintro e w' ⟨rfl,rfl⟩;go_wp2_with fail;refine jO (v:=(PF.bad 2).v) (by simp[kF,Tryz.results41,go_sem,PF.v,PF.bad,yQ]) rfl ⟨rfl,?_⟩;exact(jE _ _).alloc (jB _) _
def GX(m:Int)(s:An)(n k:Nat)(w:M)(A:-9223372036854775808<=m/\m<=9223372036854775807)(hs:s.size<=jN)(hp:o8 m s.data.toList=(n,k,0))(ai:k+n<=s.size)(C:(oC (s.extract k (k+n)).data.toList 0 0).2.2≠0):
  jG jy 41 #[Y X m,G s] w λe w'=>e=nK (PF.bad 3).v/\jD w.heap.size w w':=by
 have c1:=λw=>DV m s w A hs
 rw[hp]at c1;have J:=H c1;obtain⟨N,ak,aa,au⟩:=vw hp;rw[<-l9]at aa;have hd:At ((s.size:Int) - k<n)=O:=nY;have E:=λw=>xm (s.extract k (k+n)) w (by unfold jN at*;rw[jP];omega)
 generalize oC (s.extract k (k+n)).data.toList 0 0=t at*;obtain⟨ae,af,I⟩:=t;have ag:jI (∀w,jG jy 75 #[G (s.extract k (k+n))] w λah w'=>ah=nK (nJ #[Y nN ae,Y X af,Y X I])/\w=w'):=E;have aj:((I:Int) !=0)=R:=by rw[bne_iff_ne];simp only at C;omega
 clear N E C;unfold jN at hs;clear c1 hp A;go_in;go_wp2_with fail;refine(J _).mono ?_;rintro e w' ⟨rfl,rfl⟩;go_wp2_with fail;refine(ag _).mono ?_;rintro e w' ⟨rfl,rfl⟩;go_wp2_with fail;refine jO (v:=(PF.bad 3).v) (by simp[kF,Tryz.results41,go_sem,PF.v,PF.bad,yQ]) rfl ⟨rfl,?_⟩;exact(jE _ _).alloc (jB _) _
def Kv(m:Int)(s:An)(n k id z:Nat)(w:M)(E:-9223372036854775808<=m/\m<=9223372036854775807)(hs:s.size<=jN)(hp:o8 m s.data.toList=(n,k,0))(ah:k+n<=s.size)(A:oC (s.extract k (k+n)).data.toList 0 0=(id,z,0)):
  jG jy 41 #[Y X m,G s] w λe w'=>e=nK (PF.mk id ((s.extract k (k+n)).extract z n) (k+n) 0).v/\jD w.heap.size w w':=by
 have c1:=λw=>DV m s w E hs
 rw[hp]at c1;have J:=H c1;obtain⟨N,ai,aa,aj⟩:=vw hp;rw[<-l9]at aa;have hd:At ((s.size:Int) - k<n)=O:=nY;have I:(s.extract k (k+n)).size=n:=by rw[jP];omega
 have ae:=(qN A).1;rw[<-l9,I]at ae;have C:=λw=>xm (s.extract k (k+n)) w (by unfold jN at*;rw[jP];omega)
 rw[A]at C;have af:jI (∀w,jG jy 75 #[G (s.extract k (k+n))] w λag w'=>ag=nK (nJ #[Y nN id,Y X z,Y X 0])/\w=w'):=C;clear N C A;unfold jN at hs;clear c1 hp E;go_in;go_wp2_with fail;refine(J _).mono ?_;rintro e w' ⟨rfl,rfl⟩;go_wp2_with fail;refine(af _).mono ?_;rintro e w' ⟨rfl,rfl⟩;go_wp2_with fail;refine jO (v:=(PF.mk id ((s.extract k (k+n)).extract z n) (k+n) 0).v) (by simp[kF,Tryz.results41,go_sem,PF.v,yQ]) rfl ⟨rfl,?_⟩;exact(jE _ _).alloc (jB _) _
def K9{P:PF->Prop}(m:Int)(s:An)(I:∀er,o8 m s.data.toList=(0,0,er)->er≠0->P (.bad er))(J:∀n k,o8 m s.data.toList=(n,k,0)->s.size<k+n->P (.bad 2))(N:∀n k,o8 m s.data.toList=(n,k,0)->k+n<=s.size->(oC (s.extract k (k+n)).data.toList 0 0).2.2≠0->P (.bad 3))(aa:∀n k id z,o8 m s.data.toList=(n,k,0)->k+n<=s.size->oC (s.extract k (k+n)).data.toList 0 0=(id,z,0)->P ⟨id,(s.extract k (k+n)).extract z n,k+n,0⟩):P (o5 m s):=by
 by_cases h0:(o8 m s.data.toList).2.2=0
 .obtain⟨⟨n,k,e⟩,hp⟩:∃t,o8 m s.data.toList=t:=⟨_,rfl⟩
  rw[hp]at h0;simp only at h0;subst h0;by_cases E:s.size<k+n;.rw[Iu hp E];exact J n k hp E
  .by_cases A:(oC (s.extract k (k+n)).data.toList 0 0).2.2=0
   .obtain⟨⟨id,z,e⟩,C⟩:∃t,oC (s.extract k (k+n)).data.toList 0 0=t:=⟨_,rfl⟩
    rw[C]at A;simp only at A;subst A;rw[Iy hp K C];exact aa n k id z hp K C
   .rw[Iw hp K A];exact N n k hp K A
 .rw[AR h0];exact I _ (VX h0) h0
def II(m:Int)(s:An)(w:M)(A:-9223372036854775808<=m/\m<=9223372036854775807)(hs:s.size<=jN):
  jG jy 106 #[Y X m,G s] w λe w'=>e=nK (o5 m s).v/\jD w.heap.size w w':=
 K9 (P:=λr=>jG jy 106 #[Y X m,G s] w λe w'=>e=nK r.v/\jD w.heap.size w w') m s
  (λer h he=>E8 m s er w A hs h he) (λn k h ho=>GR m s n k w A hs h ho) (λn k h ho C=>GU m s n k w A hs h ho C)
  (λn k id z h ho C=>Ku m s n k id z w A hs h ho C)
def Rm(m:Int)(s:An)(w:M)(A:-9223372036854775808<=m/\m<=9223372036854775807)(hs:s.size<=jN):
  jG jy 41 #[Y X m,G s] w λe w'=>e=nK (o5 m s).v/\jD w.heap.size w w':=
 K9 (P:=λr=>jG jy 41 #[Y X m,G s] w λe w'=>e=nK r.v/\jD w.heap.size w w') m s
  (λer h he=>E9 m s er w A hs h he) (λn k h ho=>GV m s n k w A hs h ho) (λn k h ho C=>GX m s n k w A hs h ho C)
  (λn k id z h ho C=>Kv m s n k id z w A hs h ho C)
def xO(b:Ax):Bool:=(At (97<=b.toNat)&&At (b.toNat<=122))||(At (48<=b.toNat)&&At (b.toNat<=57))||At (b.toNat=95)
def sJ(l:List Ax):Bool:=At (1<=l.length)&&At (l.length<=12)&&l.all xO
def Gj(b:Ax):(xO b=R/\((97<=b.toNat/\b.toNat<=122)\/(48<=b.toNat/\b.toNat<=57)\/b.toNat=95))\/
  (xO b=O/\((b.toNat<48)\/(57<b.toNat/\b.toNat<95)\/b.toNat=96\/122<b.toNat)):=by
 unfold xO;by_cases h:(97<=b.toNat/\b.toNat<=122)\/(48<=b.toNat/\b.toNat<=57)\/b.toNat=95
 .left
  refine⟨?_,h⟩;simp only[Bool.or_eq_true,jJ,decide_eq_true_eq];rcases h with h|h|h
  .exact .inl (.inl h)
  .exact .inl (.inr h)
  .exact .inr h
 .right
  refine⟨?_,K⟩;simp only[Bool.or_eq_false_iff,Bool.and_eq_false_iff,decide_eq_false_iff_not];omega
def OP{k:Nat}(h:k<s.size):(s.data.toList.take (k+1)).all xO=((s.data.toList.take k).all xO&&xO s[k]):=by
 rw[List.take_add_one,jL (by simpa using h)];simp;rfl
def all_false{k:Nat}(h:k<s.size)(hb:xO s[k]=O):s.data.toList.all xO=O:=by
 rw[List.all_eq_false];have hk:k<s.data.toList.length:=by simpa using h
 exact⟨s.data.toList[k],List.getElem_mem hk,by
  have:s.data.toList[k]=s[k]:=rfl;rw[this,hb];simp⟩
def Fa{p:Prop}(h:p:=by
 go_wp2_with fail
 all_goals
  go_roundw;case rel=>exact⟨k+1,by go_num,K,HT.out,trivial⟩
  case measure=>simp[kC];omega):p:=h
def MO{p:Prop}(h:p:=by
 go_wp2_with fail
 all_goals first
  |(go_returns;exact⟨by rw[HM.out,HT.out];rfl,rfl⟩)
  |(exfalso;omega)
  |(exfalso;simp_all;omega)):p:=h
def IJ{p:Prop}(h:p:=by
 go_in;go_wp2;go_returns;exact⟨by rw[HR.out];rfl,rfl⟩):p:=h
def MP(s:An)(w:M)(hs:s.size<=jN):
  jG jy 120 #[G s] w λe w'=>e=nK (nH (sJ s.data.toList))/\w'=w:=by
 have J:s.size<=9223372036854775807:=by unfold jN at hs;omega
 have hlen:s.data.toList.length=s.size:=nX;clear hs;by_cases h0:s.size<1
 .have HR:jI (sJ s.data.toList=O):=H (by unfold sJ;rw[decide_eq_false (by rw[hlen];omega)];rfl)
  clear hlen;exact IJ
 by_cases aa:12<s.size
 .have HR:jI (sJ s.data.toList=O):=H (by unfold sJ;rw[decide_eq_true (p:=1<=_) (by rw[hlen];omega),decide_eq_false (by rw[hlen];omega)];rfl)
  clear hlen;exact IJ
 have HM:jI (sJ s.data.toList=s.data.toList.all xO):=H (by unfold sJ;rw[decide_eq_true (p:=1<=_) (by rw[hlen];omega),decide_eq_true (by rw[hlen];omega)];rfl);obtain⟨N,ag⟩:=og s.size;have ae:=H ag;have ah:=H hlen;have A:¬N<1:=K;have E:¬12<N:=K;have ai:N<=12:=K;clear J hlen h0 aa;go_in;go_wp2_with fail;go_loopw [15] (λiv aj=>∃k:Nat,iv=Y X k/\k<=N/\jI ((s.data.toList.take k).all xO=R)/\aj=w) (λiv _=>N -(kC iv).toNat);case atStart=>exact⟨0,rfl,K,H nX,rfl⟩
 case round=>
  obtain⟨k,rfl,hk,af,rfl⟩:=hrel;by_cases c:k<N
  .have C:k<s.size:=by rw[ae.out];exact c
   have I:=OP C;rcases Gj s[k]with⟨hn,hc⟩|⟨hn,hc⟩
   .have HT:jI ((s.data.toList.take (k+1)).all xO=R):=H (by rw[I,af.out,hn];rfl)
    clear I hn;rcases hc with⟨A,E⟩|⟨A,E⟩|A
    .exact Fa
    .exact Fa
    .exact Fa
   .have HT:=H (all_false C hn)
    have au:((s[k].toNat:Int) !=95)=R:=nY;clear I hn;rcases hc with A|⟨A,E⟩|A|A
    .exact MO
    .exact MO
    .exact MO
    .exact MO
  .obtain rfl:k=N:=K
   have ak:jI (sJ s.data.toList=R):=H (by
    have h:=af.out;rw[kS (by rw[ah.out,ae.out];exact jB _)]at h;rw[HM.out,h])
   go_wp2;go_returns;exact⟨by rw[ak.out];rfl,rfl⟩
def MQ{p:Prop}(h:p:=by
 go_wp2_with fail
 all_goals first
  |(go_returns;exact⟨by rw[HM.out,HT.out,Bool.and_false];rfl,rfl⟩)
  |(exfalso;omega)
  |(exfalso;simp_all;omega)):p:=h
def V9(s:An)(w:M)(hs:s.size<=jN):
  jG jy 53 #[G s] w λe w'=>e=nK (nH (sJ s.data.toList))/\w'=w:=by
 have J:s.size<=9223372036854775807:=by unfold jN at hs;omega
 have hlen:s.data.toList.length=s.size:=nX;have HM:jI (sJ s.data.toList=(At (1<=s.size)&&At (s.size<=12)&&s.data.toList.all xO)):=H (by unfold sJ;rw[hlen]);obtain⟨N,ah⟩:=og s.size;have E:=H ah;have ai:=H hlen;have aj:N<=9223372036854775807:=K;clear hs J hlen;go_in;go_wp2_with fail;go_loopw [3] (λiv ak=>∃k:Nat,iv=Y X k/\k<=N/\jI ((s.data.toList.take k).all xO=R)/\ak=w) (λiv _=>N -(kC iv).toNat);case atStart=>exact⟨0,rfl,K,H nX,rfl⟩
 case round=>
  obtain⟨k,rfl,hk,aa,rfl⟩:=hrel;by_cases c:k<N
  .have C:k<s.size:=by rw[E.out];exact c
   have I:=OP C;rcases Gj s[k]with⟨hn,hc⟩|⟨hn,hc⟩
   .have HT:jI ((s.data.toList.take (k+1)).all xO=R):=H (by rw[I,aa.out,hn];rfl)
    clear I hn;rcases hc with⟨A,ae⟩|⟨A,ae⟩|A
    .exact Fa
    .exact Fa
    .exact Fa
   .have HT:=H (all_false C hn)
    have av:((s[k].toNat:Int)==95)=O:=nY;clear I hn;rcases hc with A|⟨A,ae⟩|A|A
    .exact MQ
    .exact MQ
    .exact MQ
    .exact MQ
  .obtain rfl:k=N:=K
   have af:jI (sJ s.data.toList=(At (1<=k)&&At (k<=12))):=H (by
    have h:=aa.out;rw[kS (by rw[ai.out,E.out];exact jB _)]at h;rw[HM.out,h,E.out,Bool.and_true])
   by_cases ag:1<=k
   .have au:jI (At ((k:Int)<=12)=sJ s.data.toList):=H (by rw[af.out,decide_eq_true ag,mQ,decide_eq_decide];omega)
    go_wp2;go_returns;exact⟨by rw[<-au.out];rfl,rfl⟩
   .go_wp2
    go_returns;exact⟨by rw[af.out,decide_eq_false ag];rfl,rfl⟩
def Dh(s:An):Option An:=if s.size=12/\sJ (kM s.data.toList 0)=R then U ⟨(kM s.data.toList 0).toArray⟩else V
def Gl(l:List Ax):(kM l 0).length<=l.length:=by
 unfold kM;rw[List.length_reverse];exact jM (List.dropWhile_sublist _).length_le (lZ List.length_reverse)
def IK(s:An)(w:M)(e:Ending)(w':M):Prop:=e=nK (nJ #[G ((Dh s).getD ⟨#[]⟩),Y X (if(Dh s).isSome then 0 else 3)])/\w'=w
def YN{p:Prop}(h:p:=by
 clear hg hR;have hne:((s.size:Int) !=12)=O:=by simp[h1]
 clear h1;go_in;go_wp2_with fail;refine CT.mono ?_;rintro e w2 ⟨rfl,rfl⟩;go_wp2_with fail;refine CM.mono ?_;rintro e w3 ⟨rfl,rfl⟩;go_wp2;go_returns;rw[hG.out];exact⟨rfl,rfl⟩):p:=h
def a2N(s:An)(w:M)(hs:s.size<=jN):jG jy 137 #[G s] w (IK s w):=by
 have A:s.size<=9223372036854775807:=by unfold jN at hs;omega
 have CT:=H (Tryz.strings_TrimRight_one s 0 nT w A);have htl:(⟨(kM s.data.toList 0).toArray⟩:An).size<=jN:=by
  have h1:=Gl s.data.toList;have E:s.data.toList.length=s.size:=nX;have I:(⟨(kM s.data.toList 0).toArray⟩:An).size=(kM s.data.toList 0).length:=by simp[ByteArray.size]
  omega
 have CM:=H (MP ⟨(kM s.data.toList 0).toArray⟩ w htl);unfold IK;obtain⟨ar,hR⟩:∃ar,Value.tuple #[G ((Dh s).getD ⟨#[]⟩),Y X (if(Dh s).isSome then 0 else 3)]=ar:=⟨_,rfl⟩;rw[hR];have hg:Dh s=if s.size=12/\sJ (kM s.data.toList 0)=R then U ⟨(kM s.data.toList 0).toArray⟩else V:=rfl
 have CM:jI (jG jy 120 #[G ⟨(kM s.data.toList 0).toArray⟩] w λe w'=>e=nK (nH (sJ (kM s.data.toList 0)))/\w'=w):=CM;generalize Dh s=an at*;generalize (⟨(kM s.data.toList 0).toArray⟩:An)=C at*;generalize sJ (kM s.data.toList 0)=aq at*;have CT:jI (jG jy 181 #[G s,G ⟨#[0]⟩] w λe w'=>e=nK (G C)/\w'=w):=CT;by_cases h1:s.size=12
 .cases aq with
  |true=>
   have hG:jI (ar=nJ #[G C,Y X 0]):=H (by rw[<-hR,hg,AC ⟨h1,rfl⟩];rfl);exact YN
  |false=>
   have hG:jI (ar=nJ #[G ⟨#[]⟩,Y X 3]):=H (by rw[<-hR,hg,As (λh=>by cases h.2)];rfl);exact YN
 .have hG:jI (ar=nJ #[G ⟨#[]⟩,Y X 3]):=H (by rw[<-hR,hg,As (λh=>h1 h.1)];rfl)
  clear hg hR;have hne:((s.size:Int) !=12)=R:=nY;clear h1;go_in;go_wp2_with fail;refine CT.mono ?_;rintro e w2 ⟨rfl,rfl⟩;go_wp2;go_returns;rw[hG.out];exact⟨rfl,rfl⟩
end
section
def Ar(x:UInt32)(n:Nat):UInt32:=UInt32.ofNat (x.toNat/2^n|||x.toNat*2^(32 - n) % 4294967296)
def shr(x:UInt32)(n:Nat):UInt32:=UInt32.ofNat (x.toNat/2^n)
def yR(x:UInt32)(a b c:Nat):UInt32:=Ar x a^^^Ar x b^^^shr x c
def Wd(x:UInt32)(a b c:Nat):UInt32:=Ar x a^^^Ar x b^^^Ar x c
def Cs(l:List Ax)(i:Nat):UInt32:=
 UInt32.ofNat ((l.getD (4*i) 0).toNat*16777216+(l.getD (4*i+1) 0).toNat*65536+(l.getD (4*i+2) 0).toNat*256+(l.getD (4*i+3) 0).toNat)
def a5T(n:Nat)(h:n<4294967296):(UInt32.ofNat n).toNat=n:=by
 show n % 2^32=n;exact Nat.mod_eq_of_lt h
def AY(x y:UInt32):((x.toNat:Int)+(y.toNat:Int)) % 4294967296=((x+y).toNat:Int):=by
 rw[UInt32.toNat_add];omega
def La(x y:UInt32):bits BinOp.xor IntKind.u32 (x.toNat:Int) (y.toNat:Int)=((x^^^y).toNat:Int):=by
 rw[u32_xor_nat _ _ x.toNat_lt y.toNat_lt,UInt32.toNat_xor]
def a8r(x y:UInt32):bits BinOp.and IntKind.u32 (x.toNat:Int) (y.toNat:Int)=((x&&&y).toNat:Int):=by
 rw[u32_and_nat _ _ x.toNat_lt y.toNat_lt,UInt32.toNat_and]
def a8s(x:UInt32)(n:Nat):(x.toNat:Int)/2^n=((shr x n).toNat:Int):=by
 unfold shr;have h:=x.toNat_lt;rw[a5T _ (mi (Nat.div_le_self _ _) h),Int.natCast_ediv];simp
def a2O(x:UInt32)(n:Nat):x.toNat/2^n|||x.toNat*2^(32 - n) % 4294967296<4294967296:=by
 have h:=x.toNat_lt;exact Nat.or_lt_two_pow (n:=32) (mi (Nat.div_le_self _ _) h) (Nat.mod_lt _ nT)
def a8t(x:UInt32)(n:Nat):bits BinOp.or IntKind.u32 ((x.toNat:Int)*2^(32 - n) % 4294967296) ((x.toNat:Int)/2^n)=((Ar x n).toNat:Int):=by
 have h:=x.toNat_lt;have e1:(x.toNat:Int)*2^(32 - n) % 4294967296=((x.toNat*2^(32 - n) % 4294967296:Nat):Int):=by
  rw[Int.natCast_emod,Int.natCast_mul,Int.natCast_pow];rfl
 have e2:(x.toNat:Int)/2^n=((x.toNat/2^n:Nat):Int):=by rw[Int.natCast_ediv,Int.natCast_pow];rfl
 rw[e1,e2,u32_or_nat _ _ (Nat.mod_lt _ nT) (mi (Nat.div_le_self _ _) h)];unfold Ar;rw[a5T _ (a2O x n),Nat.or_comm]
def Uq(l:List Ax)(w:List UInt32)(i:Nat):UInt32:=
 if i<16 then Cs l i else w.getD (i - 16) 0+(yR (w.getD (i - 15) 0) 7 18 3+w.getD (i - 7) 0+yR (w.getD (i - 2) 0) 17 19 10)
def uA(l:List Ax):Nat->List UInt32
 |0=>[]
 |n+1=>uA l n++[Uq l (uA l n) n]
structure S8 where
 a:UInt32
 b:UInt32
 c:UInt32
 d:UInt32
 e:UInt32
 f:UInt32
 g:UInt32
 h:UInt32
deriving DecidableEq
def OQ(s:S8)(k w:UInt32):UInt32:=s.h+Wd s.e 6 11 25+k+w+((s.e&&&s.f)^^^(~~~s.e&&&s.g))
def Ur(s:S8):UInt32:=Wd s.a 2 13 22+((s.a&&&s.b)^^^(s.a&&&s.c)^^^(s.b&&&s.c))
def YO(s:S8)(k w:UInt32):S8:=⟨OQ s k w+Ur s,s.a,s.b,s.c,s.d+OQ s k w,s.e,s.f,s.g⟩
def a2P(s t:S8):S8:=⟨s.a+t.a,s.b+t.b,s.c+t.c,s.d+t.d,s.e+t.e,s.f+t.f,s.g+t.g,s.h+t.h⟩
def YP:List Ax:=[66,138,47,152,113,55,68,145,181,192,251,207,233,181,219,165,57,86,194,91,89,241,17,241,146,63,130,164,171,28,94,213,216,7,170,152,18,131,91,1,36,49,133,190,85,12,125,195,114,190,93,116,128,222,177,254,155,220,6,167,193,155,241,116,228,155,105,193,239,190,71,134,15,193,157,198,36,12,161,204,45,233,44,111,74,116,132,170,92,176,169,220,118,249,136,218,152,62,81,82,168,49,198,109,176,3,39,200,191,89,127,199,198,224,11,243,213,167,145,71,6,202,99,81,20,41,41,103,39,183,10,133,46,27,33,56,77,44,109,252,83,56,13,19,101,10,115,84,118,106,10,187,129,194,201,46,146,114,44,133,162,191,232,161,168,26,102,75,194,75,139,112,199,108,81,163,209,146,232,25,214,153,6,36,244,14,53,133,16,106,160,112,25,164,193,22,30,55,108,8,39,72,119,76,52,176,188,181,57,28,12,179,78,216,170,74,91,156,202,79,104,46,111,243,116,143,130,238,120,165,99,111,132,200,120,20,140,199,2,8,144,190,255,250,164,80,108,235,190,249,163,247,198,113,120,242]
def kN(i:Nat):UInt32:=Cs YP i
def yS:S8:=⟨1779033703,3144134277,1013904242,2773480762,1359893119,2600822924,528734635,1541459225⟩
def zJ(l:List Ax)(s:S8):Nat->S8
 |0=>s
 |n+1=>YO (zJ l s n) (kN n) ((uA l 64).getD n 0)
def OU(s:S8)(l:List Ax):S8:=a2P s (zJ l s 64)
def Fb(n:Nat):List Ax:=128::(ky ((64 -(n+9) % 64) % 64) 0++(ll 8).map λi=>jU (n*8/256^(7 - i) % 256))
def Fe(A:S8->List Ax->S8)(l:List Ax):Nat->S8->S8
 |0,s=>s
 |k+1,s=>Fe A (l.drop 64) k (A s (l.take 64))
def OV(A:S8->List Ax->S8)(l:List Ax)(k:Nat)(s:S8):Fe A l (k+1) s=Fe A (l.drop 64) k (A s (l.take 64)):=rfl
def Rn(l:List Ax)(k:Nat)(s:S8):S8:=Fe OU l k s
def vR(x:UInt32):List Ax:=[jU (x.toNat/16777216 % 256),jU (x.toNat/65536 % 256),jU (x.toNat/256 % 256),jU (x.toNat % 256)]
def S8.out(s:S8):List Ax:=vR s.a++vR s.b++vR s.c++vR s.d++vR s.e++vR s.f++vR s.g++vR s.h
def We(l:List Ax):List Ax:=(Rn (l++Fb l.length) ((l++Fb l.length).length/64) yS).out
def Ff(p A:Nat):Nat->Nat->Nat->Nat
 |0,_,x=>x
 |n+1,C,x=>Ff p A n (C/2) (if(x+C)^A/2^(32*A)<p then x+C else x)
def Gm(p A:Nat):Nat:=Ff p A 36 34359738368 0 % 4294967296
def isP(p:Nat):Bool:=(ll (p - 2)).all λd=>At (0<p %(d+2))
def Us:List Nat:=[2,3,5,7,11,13,17,19,23,29,31,37,41,43,47,53,59,61,67,71,73,79,83,89,97,101,103,107,109,113,127,131,137,139,149,151,157,163,167,173,179,181,191,193,197,199,211,223,227,229,233,239,241,251,257,263,269,271,277,281,283,293,307,311]
def Wh:((ll 310).map (.+2)).filter isP=Us:=xH
end
section
open Go.RowKit
def Ro(a b c d:Ax):
  bits BinOp.or IntKind.u32 (bits BinOp.or IntKind.u32 (bits BinOp.or IntKind.u32 ((a.toNat:Int)*16777216) ((b.toNat:Int)*65536)) ((c.toNat:Int)*256)) (d.toNat:Int)=
   ((UInt32.ofNat (a.toNat*16777216+b.toNat*65536+c.toNat*256+d.toNat)).toNat:Int):=by
 have I:=a.toNat_lt;have hb:=b.toNat_lt;have hc:=c.toNat_lt;have hd:=d.toNat_lt;have e (x y:Nat):((x:Int)*(y:Int))=((x*y:Nat):Int):=(Int.natCast_mul x y).symm
 rw[show(16777216:Int)=((16777216:Nat):Int)from rfl,show(65536:Int)=((65536:Nat):Int)from rfl,show(256:Int)=((256:Nat):Int)from rfl,e,e,e,
  u32_or_nat _ _ K K]
 have A:a.toNat*16777216|||b.toNat*65536=a.toNat*16777216+b.toNat*65536:=by
  have:=mW (show b.toNat*65536<2^24 by omega) a.toNat;rw[Nat.mul_comm a.toNat];exact this.symm
 rw[A,u32_or_nat _ _ K K];have C:(a.toNat*16777216+b.toNat*65536)|||c.toNat*256=a.toNat*16777216+b.toNat*65536+c.toNat*256:=by
  have:=mW (show c.toNat*256<2^16 by omega) (a.toNat*256+b.toNat);rw[show 2^16*(a.toNat*256+b.toNat)=a.toNat*16777216+b.toNat*65536 by omega]at this;exact this.symm
 rw[C,u32_or_nat _ _ K K];have E:(a.toNat*16777216+b.toNat*65536+c.toNat*256)|||d.toNat=a.toNat*16777216+b.toNat*65536+c.toNat*256+d.toNat:=by
  have:=mW (show d.toNat<2^8 by omega) (a.toNat*65536+b.toNat*256+c.toNat);rw[show 2^8*(a.toNat*65536+b.toNat*256+c.toNat)=a.toNat*16777216+b.toNat*65536+c.toNat*256 by omega]at this;exact this.symm
 rw[E,a5T _ K]
def YQ(s:An)(i:Nat)(h:4*i+4<=s.size):Cs s.data.toList i=UInt32.ofNat (s[4*i].toNat*16777216+s[4*i+1].toNat*65536+s[4*i+2].toNat*256+s[4*i+3].toNat):=by
 have e:∀j (A:j<s.size),s.data.toList.getD j 0=s[j]:=by
  intro j A;have C:j<s.data.toList.length:=by rw[<-l9];exact A
  rw[kL,jL C];rfl
 unfold Cs;rw[e _ K,e _ K,e _ K,e _ K]
def OW(a b c d:Ax):
  bits BinOp.or IntKind.u32 (bits BinOp.or IntKind.u32 (bits BinOp.or IntKind.u32 ((a.toNat:Int) % 4294967296*16777216 % 4294967296) ((b.toNat:Int) % 4294967296*65536 % 4294967296)) ((c.toNat:Int) % 4294967296*256 % 4294967296)) ((d.toNat:Int) % 4294967296)=
   ((UInt32.ofNat (a.toNat*16777216+b.toNat*65536+c.toNat*256+d.toNat)).toNat:Int):=by
 have A:=a.toNat_lt;have hb:=b.toNat_lt;have hc:=c.toNat_lt;have hd:=d.toNat_lt;rw[<-Ro a b c d];congr 1
 .congr 1
  .congr 1<;>omega
  .omega
 .omega
def Wi(s:An)(i:Nat):Cs (s.extract (4*i) (4*i+4)).data.toList 0=Cs s.data.toList i:=by
 have e:∀j,j<4->(s.extract (4*i) (4*i+4)).data.toList.getD j 0=s.data.toList.getD (4*i+j) 0:=by
  intro j A;rw[mF,kL,kL,List.getElem?_take_of_lt K,List.getElem?_drop]
 unfold Cs;rw[e _ K,e _ K,e _ K,e _ K];rfl
def OX(s:An)(i:Nat)(w:M)(hi:4*i+4<=s.size)(hs:s.size<=1000):
  jG jy 273 #[G s,Y X i] w λe w'=>e=nK (Y nO (Cs s.data.toList i).toNat)/\∃n,w'=w.drewN n:=by
 have E:(s.extract (4*i) (4*i+4)).size=4:=by rw[jP];omega
 have A:=YQ (s.extract (4*i) (4*i+4)) 0 K;rw[Wi]at A;go_in;have C:=H A;clear A;go_wp2_with fail;go_quiet (fail);go_wp2;go_returns;exact⟨by rw[C.out,<-OW];rfl,_,rfl⟩
def a5U(x:UInt32)(n:Nat)(w:M)(E:1<=n)(I:n<=31):
  jG jy 292 #[Y nO x.toNat,Y X (-(n:Int))] w λe w'=>e=nK (Y nO (Ar x n).toNat)/\w=w':=by
 have A:=H (a8t x n);have e1:bits BinOp.and IntKind.u64 (IntKind.u64.wrap (-(n:Int))) 31=((32 - n:Nat):Int):=by
  have C:IntKind.u64.wrap (-(n:Int))=((18446744073709551616 - n:Nat):Int):=by
   rw[IntKind.wrap_u64];omega
  rw[C,show(31:Int)=((31:Nat):Int)from rfl,u64_and_nat _ _ K nT];congr 1;rw[show(31:Nat)=2^5 - 1 from rfl,Nat.and_two_pow_sub_one_eq_mod];omega
 go_in;go_wp2;go_returns;refine⟨congrArg (λz=>kZ (lC nO z)) ?_,rfl⟩;rw[<-A.out,show 32 -(32 - n)=n by omega]
def DW(x:UInt32)(n:Nat)(w:M)(A:1<=n)(C:n<=31):
  jG jy 285 #[Y nO x.toNat,Y X n] w λe w'=>e=nK (Y nO (Ar x n).toNat)/\w=w':=by
 have c1:=H (a5U x n w A C);go_in;go_wp2_with fail;refine c1.mono ?_;rintro e w' ⟨rfl,rfl⟩;go_wp2;go_returns;exact⟨rfl,rfl⟩
def Rp{P:lQ}{f:FuncId}{args:Array jC}{w:M}{n:Nat}{v:jC}(h:jG P f args (w.drewN n) λe w'=>e=nK v/\w.drewN n=w'):jG P f args (w.drewN n) λe A=>e=nK v/\∃m,A=w.drewN m:=
 h.mono λ_ _ ⟨he,C⟩=>⟨he,n,C.symm⟩
def Rq(x:UInt32)(a b c:Nat)(w:M)(A:1<=a/\a<=31)(hb:1<=b/\b<=31)(hc:1<=c/\c<=31):
  jG jy 275 #[Y nO x.toNat,Y X a,Y X b,Y X c] w λe w'=>e=nK (Y nO (Wd x a b c).toNat)/\w=w':=by
 have c1:=H (DW x a w A.1 A.2);have c2:=H (DW x b w hb.1 hb.2);have c3:=H (DW x c w hc.1 hc.2);have C:=H (La (Ar x a) (Ar x b));have E:=H (La (Ar x a^^^Ar x b) (Ar x c));clear A hb hc;go_in;go_wp2_with fail;refine c1.mono ?_;rintro e w' ⟨rfl,rfl⟩;go_wp2_with fail;refine c2.mono ?_;rintro e w' ⟨rfl,rfl⟩;go_wp2_with fail;refine c3.mono ?_;rintro e w' ⟨rfl,rfl⟩;go_wp2;go_returns;refine⟨congrArg (λz=>kZ (lC nO z)) ?_,rfl⟩;rw[C.out,E.out];rfl
def MR(x:UInt32)(a b c:Nat)(w:M)(A:1<=a/\a<=31)(hb:1<=b/\b<=31)(hc:1<=c/\c<=31):
  jG jy 284 #[Y nO x.toNat,Y X a,Y X b,Y X c] w λe w'=>e=nK (Y nO (yR x a b c).toNat)/\∃n,w'=w.drewN n:=by
 have C:=H (La (Ar x a) (Ar x b));have E:=H (La (Ar x a^^^Ar x b) (shr x c));have I:=H (a8s x c);obtain⟨J,N⟩:=hc;obtain⟨aa,ae⟩:=A;obtain⟨af,ag⟩:=hb;go_in;go_wp2_with fail;go_quiet ((go_at_call 285;exact Rp (DW x _ _ K K)));go_wp2;go_returns;refine⟨congrArg (λz=>kZ (lC nO z)) ?_,_,rfl⟩;rw[C.out,I.out,E.out];rfl
def AbN{C:Type}(B:Nat)(E:C->M->Prop):Prop:=
 ∀s W A row,E s W->W.grownBy A row->(∀r,row=U r->B<=r)->E s A
def Oj(E:Nat)(W A:M):Prop:=W.heap.size<=A.heap.size/\∀k cs t m,E<=k->W.heap[k]? =U (nL cs t m)->A.heap[k]? =U (nL cs t m)
def Oj.trans{E:Nat}{A B C:M}(h:Oj E A B)(k:Oj E B C):Oj E A C:=⟨jM h.1 k.1,λi cs t m hi hc=>k.2 i cs t m hi (h.2 i cs t m hi hc)⟩
def Oj.refl(E:Nat)(W:M):Oj E W W:=⟨jB _,λ_ _ _ _ _ h=>h⟩
def Oj.put{E:Nat}{W:M}{l:Nat}{o:Obj}(A:Obj)(h:W.heap[l]? =U o)(ho:o.isCells=O):Oj E W (W.putObj l A):=by
 have hl:=(j6.1 h).1;refine⟨(grownBy_putObj' W l A).size,λk cs t m _ hc=> ?_⟩;have C:k≠l:=by
  intro e;subst e;rw[h]at hc;cases hc;simp[Obj.isCells]at ho
 rw[(grownBy_putObj' W l A).block k (j6.1 hc).1 (by simpa using C)];exact hc
def OY(F:Fence)(n:Nat)(P:lQ)(g:Nat)(lb:Array jC)(encs:Nat->Array jC)(I:M->M->Prop)(N:Nat)(w:M):Prop:=
 ∀(l:Nat)(E:Nat->M->Prop)(W:M),jD w.heap.size w W->AbN W.heap.size E->
  (∀k C,k<N->E k C->YieldAt F (n - 1) P l (encs k) C λe A=>e=nK (nH R)/\E (k+1) A/\I C A)->
  E 0 W->CallsIn F n P g (#[.func (.yield l) #[] #[]]++lb) W λe A=>(∃v,e=nK v)/\E N A
variable {F:Fence}{n:Nat}{P:lQ}
def a8u(B E:Nat)(C:Nat->M->Prop)(k:Nat)(W:M):Exit->Act->M->Prop:=
 λe _ A=>e=.normal/\KeepsFrom B W A/\Oj E W A/\C k A
def Fg{g:Operand}{ps:Array Tmp}{assign body:Code}{Q:Exit->Act->M->Prop}{a:Act}{w:M}(aA:F.round=V)(aG:1<=n){gf:Nat}{lb:Array jC}(hg:a.eval g=.func (.func gf) #[] lb)(aB:F.fn gf)(eg:∀args w,(callFunc gf args).run P w=.ok (.enter gf args) w){encs:Nat->Array jC}{E N:Nat}{w0:M}(ax:OY F (n - 1) P gf lb encs (Oj E) N w0)(hb0:jD w0.heap.size w0 w)(aC:∀k,(encs k).size=ps.size)(aj:Nat->M->Prop)(hI:AbN w.heap.size aj)(h0:aj 0 w)(Rs:∀(l k:Nat) (W:M),k<N->aj k W->assign.wpIn (F.inRound l) (n - 1 - 1) P (Exit.then (λag ah=>ah=W/\∀ak,aj k ak->body.wpIn (F.inRound l) (n - 1 - 1) P (a8u w.heap.size E aj (k+1) ak) ag ak) (λ_ _ _=>False))
   {tmps:=(ps.zip (encs k)).foldl (λt (p,v)=>t.setIfInBounds p v) a.tmps,defers:=[]} W)(hdone:∀(D:Nat) (W:M),w.heap.size<=D->aj N W->W.heap[D]? =U (.deferred (U []))->Q .normal {a with defers:={target:=.collected D,args:=#[]}::a.defers} W):
  (Code.rangeFunc g ps assign body).wpIn F n P Q a w:=by
 refine wpIn_rangeFunc λfn aD=> ?_
 rw[aA];generalize C:(λst=>({state:=st,pending:=V,fn,tmps:=a.tmps,params:=ps,assign,body,defers:=w.heap.size}:Loop))=rec;have au:∀st,(rec st).state=st:=λst=>by rw[<-C]
 generalize aa:(w.alloc (.deferred (U []))).alloc (.loop (rec .ready))=J;have aS:J.heap.size=w.heap.size+2:=by rw[<-aa];simp
 have aH:J.heap[w.heap.size+1]? =U (.loop (rec .ready)):=by
  rw[<-aa];have:=World.alloc_heap_new (w.alloc (.deferred (U []))) (.loop (rec .ready));rwa [World.size_alloc]at this
 have aI:J.heap[w.heap.size]? =U (.deferred (U [])):=by
  rw[<-aa];exact(Below.heap_alloc _ _ _ nX).trans (World.alloc_heap_new w _)
 have aJ:aj 0 J:=by
  rw[<-aa];exact hI _ _ _ V (hI _ _ _ V h0 (World.grownBy_alloc w _ V) (λ_ h=>by cases h)) (World.grownBy_alloc _ _ V) (λ_ h=>by cases h)
 have b1:jD w0.heap.size w0 J:=by
  rw[<-aa];exact hb0.trans ((((jE _ w).alloc (jB _) _).alloc nX _).mono hb0.size)
 refine⟨w.heap.size+1,[{target:=.collected w.heap.size,args:=#[]}],J,{target:=.fn (.func gf) lb,args:=#[.func (.yield (w.heap.size+1)) #[] #[]]},J,gf,
  #[.func (.yield (w.heap.size+1)) #[] #[]]++lb,J,?_,?_,?_,?_,λ_=>aG,?_⟩
 .rw[<-aa,<-C];exact run_enterLoop_outer _ _ _ _ _
 .simp only[resolve,hg]
  simp[go_sem]
 .intro aT av;simp[Target.leads]at av;subst av;exact aB
 .simp[invoke,go_sem,eg]
 .
  have keep:∀{A B:M}{row:Option Nat}{j:Nat}{o:Obj},A.grownBy B row->(∀r,row=U r->J.heap.size<=r)->j<J.heap.size->A.heap[j]? =U o->B.heap[j]? =U o:=by
   intro A B row j o ae af aU ho;rw[ae.block j (j6.1 ho).1 (λe=>by have:=af j e.symm;omega)];exact ho
  refine(ax (w.heap.size+1) (λk W=>aj k W/\W.heap[w.heap.size+1]? =U (.loop (rec .ready))/\W.heap[w.heap.size]? =U (.deferred (U []))) J b1
   (λs A B row hs ae af=>⟨hI s A B row hs.1 ae (λr e=>by have:=af r e;omega),keep ae af K hs.2.1,keep ae af K hs.2.2⟩) ?_ ⟨aJ,aH,aI⟩).mono ?_
  .rintro k W hk ⟨hi,hl,hd⟩
   have hy:=run_yield (P:=P) (args:=encs k) hl (by rw[<-C];exact aC k);rw[<-C]at hy
   have put:∀{W:M}{st:LoopState}(I:LoopState){k:Nat},W.heap[w.heap.size+1]? =U (.loop (rec st))->W.heap[w.heap.size]? =U (.deferred (U []))->aj k W->
     (W.putObj (w.heap.size+1) (.loop (rec I))).heap[w.heap.size+1]? =U (.loop (rec I))/\(W.putObj (w.heap.size+1) (.loop (rec I))).heap[w.heap.size]? =U (.deferred (U []))/\
      aj k (W.putObj (w.heap.size+1) (.loop (rec I))):=by
    intro W st I k hl hd hi;exact⟨World.putObj_heap_same (j6.1 hl).1,(World.putObj_heap_other K).trans hd,hI _ _ _ (U (w.heap.size+1)) hi (grownBy_putObj' _ _ _) (λr e=>by cases e;omega)⟩
   have ay:∀st I,({rec st with state:=I}:Loop)=rec I:=λst I=>by rw[<-C]
   refine⟨fn,_,assign,body,hy,roundIn_of_wpIn aD (wpIn_mono (Rs _ k W hk hi) ?_)⟩;rintro e ag ah hp;cases e with
   |normal=>
    obtain⟨rfl,hb⟩:=hp;obtain⟨aK,aL,aM⟩:=put .busy hl hd hi;refine⟨_,run_beginRound hl (au _),?_⟩;rw[ay];refine wpIn_mono (hb _ aM) ?_;rintro e a3 W3 ⟨rfl,aF,c3,aN⟩;have az:=aF.same _ _ K aK rfl;have aO:=aF.same _ _ (jB _) aL rfl;obtain⟨aP,aQ,aR⟩:=put .ready az aO aN;have af:=run_endRound (P:=P) V az;refine⟨_,_,af,?_⟩;have e4:({rec .busy with state:=if(V:Option Code).isNone then .ready else .done,pending:=V}:Loop)=rec .ready:=by rw[<-C];rfl
    rw[e4];exact⟨rfl,⟨aR,aP,aQ⟩,((Oj.put _ hl rfl).trans c3).trans (Oj.put _ az rfl)⟩
   |ret=>exact hp.elim
   |exit id=>exact hp.elim
   |goto t=>exact hp.elim
   |panic c=>exact hp.elim
   |outgrown=>exact hp.elim
  .rintro e ak ⟨⟨v,rfl⟩,hi,hl,hd⟩
   have ai:=run_endLoop (P:=P) hl (by rw[au];simp);have e5:(rec .ready).pending=V:=by rw[<-C]
   rw[e5]at ai;exact⟨V,_,ai,hdone _ _ (jB _) (hI _ _ _ (U (w.heap.size+1)) hi (grownBy_putObj' _ _ _) (λr e=>by cases e;omega)) ((World.putObj_heap_other K).trans hd)⟩
variable {P:lQ}{ops:Array lJ}{Q:Exit->Act->M->Prop}{md:lW}{n:Nat}
def a8v(l:Nat){o:lJ}{a:Act}{am:Act->M->Prop}:∀ r:Result Next,o.upon P a am Q r->o.uponIn (Fence.wide.inRound l) n P a am Q r
 | .ok (.value v) w',h=>h
 | .ok .skip w',h=>h
 | .ok (.defer d) w',h=>h
 | .ok (.enter f args) w',h=>⟨(λh=>by cases h),CallsIn.inRound l (callsIn_wide.2 h)⟩
 | .ok (.row row args) w',h=>⟨(λh=>by cases h),λc cs _=>by
   obtain⟨v,w2,A,hs⟩:=h c cs;exact⟨v,w2,A,stepsIn_wide.2 hs⟩⟩
 | .ok (.round _ _ _ _ _) w',h=>h.elim
 | .halt (.panic v) w',h=>h
 | .halt (.exit _) w',h=>h.elim
 | .halt (.stuck _) w',h=>h.elim
 | .halt (.unsupported _) w',h=>h.elim
def a8w(l:Nat)(hd:∀(i:Nat) (o:lJ) c,ops[i]? =U o->o.op≠.defer c)(hL:¬LetsOut Q){am C:Act->M->Prop}(E:∀a w,am a w->C a w){i:Nat}{a:Act}{w:M}(h:wpOp P ops Q i am a w):
  wpOpIn (Fence.wide.inRound l) n P ops Q i C a w:=by
 refine wpOpIn_mono E ?_;unfold wpOp at h;unfold wpOpIn;split;.rename_i ho;simp only[ho]at h;exact h
 .rename_i o ho
  simp only[ho]at h;split
  .rename_i A
   simp only[A,if_true]at h;rcases h with h|⟨_,h⟩
   .refine⟨λ_ _=>trivial,?_⟩
    rw[Oper.semAt_plain _ _ _ (λc=>hd i o c ho)];exact a8v l _ h
   .exact absurd h hL
  .rename_i A
   simp only[A]at h;exact⟨λ_ _=>trivial,h⟩
def YR(l:Nat)(hd:∀(i:Nat) (o:lJ) c,ops[i]? =U o->o.op≠.defer c)(hL:¬LetsOut Q):∀(fuel:Nat)(A:Array Bool)(a:Act)(w:M),wpAny P md ops Q fuel A a w->
  wpAnyIn (Fence.wide.inRound l) n P md ops Q fuel A a w
 |0,_,_,_,h=>h
 |fuel+1,A,a,w,h=>⟨h.1,λi hi=>a8w l hd hL (λC w' E=>YR l hd hL fuel _ C w' E) (h.2 i hi)⟩
def OZ(ops:Array lJ):Bool:=ops.all λo=>match o.op with| .defer _=>O|_=>R
def Kw(h:OZ ops=R)(i:Nat)(o:lJ)(c:Call)(ho:ops[i]? =U o):o.op≠.defer c:=by
 intro e;have A:=Array.all_eq_true.1 h i (j6.1 ho).1;rw[(j6.1 ho).2,e]at A;cases A
def Fh{id:Nat}{a:Act}{w:M}{l:List lJ}(r:Nat)(I:P.follows .mixedOrders=R)(hB:Region.lexB .any l.toArray=R)(hd:OZ l.toArray=R)(hL:¬LetsOut Q)(h:wpQuiet P l.toArray (λw'=>∃k,w'=w.drewN k) (λA=>∀k,Q .normal A (w.drewN k)) l a):(kT id l.toArray R).wpIn (Fence.wide.inRound r) n P Q a w:=by
 refine wpIn_region_any I (YR r (Kw hd) hL _ _ _ _ ?_);have e:(λA:Act=>∀k,Q .normal A (w.drewN k))=λA=>∀w',(∃k,w'=w.drewN k)->Q .normal A w':=by
  funext A;exact propext ⟨λh w' ⟨k,hk⟩=>hk▸h k,λh k=>h _ ⟨k,rfl⟩⟩
 rw[e]at h;simp only[Region.lexB,jJ]at hB;refine wpAny_of_quiet (C:=λw'=>∃k,w'=w.drewN k) (Q:=λA=>∀w',(∃k,w'=w.drewN k)->Q .normal A w') (λ_ w' E h=>h w' E) _ _ _ _ ⟨1,rfl⟩ ?_;have:=wpAnyQ_lex (C:=λw'=>∃k,w'=w.drewN k) (md:=.any) hB.1 l 0 (lh l.toArray.size O) a nX (by simpa using hB.2) h;simpa using this
end
section
open Go.RowKit Go.Shelf
attribute [local go_sem] Oper.semAt_some
def wS(l:List Ax)(i:Nat):UInt32:=(uA l 64).getD i 0
def vB(l:List Ax):∀n,(uA l n).length=n
 |0=>rfl
 |n+1=>by rw[uA,jK,vB l n];rfl
def Gn(l:List Ax)(i n:Nat)(h:i<n):∀m,(uA l (n+m)).getD i 0=(uA l n).getD i 0
 |0=>rfl
 |m+1=>by
  rw[<-Gn l i n h m,show n+(m+1)=(n+m)+1 by omega,uA,kL,kL,l6 (by rw[vB];omega)]
def O0(l:List Ax)(n i:Nat)(h:i<n)(hn:n<=64):(uA l n).getD i 0=wS l i:=by
 unfold wS;have:=Gn l i n h (64 - n);rw[show n+(64 - n)=64 by omega]at this;exact this.symm
def Ut(l:List Ax)(i:Nat)(h:i<64):wS l i=Uq l (uA l i) i:=by
 rw[<-O0 l (i+1) i K K,uA,kL,mZ (by rw[vB];omega),vB];simp
def a8x(l:List Ax)(i:Nat)(h:i<16):wS l i=Cs l i:=by rw[Ut l i K,Uq,AC h]
def a8y(l:List Ax)(i:Nat)(h:16<=i)(A:i<64):wS l i=wS l (i - 16)+(yR (wS l (i - 15)) 7 18 3+wS l (i - 7)+yR (wS l (i - 2)) 17 19 10):=by
 rw[Ut l i A,Uq,As K,O0 l i _ K K,O0 l i _ K K,O0 l i _ K K,O0 l i _ K K]
def Ai(l:Nat->UInt32):Nat->Array jC
 |0=>lh 16 (Y nO 0)
 |k+1=>(Ai l k).setIfInBounds (k % 16) (Y nO ((l k).toNat:Int))
def Di(l:Nat->UInt32):∀k,(Ai l k).size=16
 |0=>rfl
 |k+1=>by rw[Ai,Array.size_setIfInBounds,Di l k]
def xB(l:Nat->UInt32):∀ k m:Nat,m<k->k<=m+16->(Ai l k)[m % 16]? =U (Y nO ((l m).toNat:Int))
 |0,m,h,_=>by omega
 |k+1,m,h,A=>by
  rw[Ai];by_cases e:m=k
  .subst e
   rw[Array.getElem?_setIfInBounds_self,AC (by rw[Di];omega)]
  .rw[Array.getElem?_setIfInBounds_ne K]
   exact xB l k m K K
def Wj(l:Nat->UInt32)(k j:Nat)(h:j<16):∃v,(Ai l k)[j]? =U v:=⟨_,Array.getElem?_eq_getElem (by rw[Di];exact h)⟩
def YS{P:lQ}{F:Fence}{n:Nat}{c:Code}{Q:Exit->Act->M->Prop}{a:Act}{W:M}(ar:M->Prop)(A:ar W)(h:∀w,ar w->c.wpIn F n P Q a w):c.wpIn F n P Q a W:=h W A
def AbN.drewN{A:Type}{B:Nat}{C:A->M->Prop}(h:AbN B C){k:A}{w:M}(hk:C k w)(m:Nat):C k (w.drewN m):=h _ _ _ V hk ⟨rfl,rfl,rfl,jB _,λ_ _ _=>rfl⟩ (λ_ e=>by cases e)
def AbN.set{A:Type}{B:Nat}{C:A->M->Prop}(h:AbN B C){k:A}{w:M}(hk:C k w){b:Nat}(hb:B<=b)(i:Nat)(v:jC):C k (w.setCell (Z b i V) v):=
 h _ _ _ (U b) hk ⟨rfl,rfl,rfl,by simp[j5],λj _ E=>jW _ _ _ _ (λe=>E (by rw[e]))⟩ (λ_ e=>by cases e;exact hb)
def a2Q(f:FuncId):Fence.wide.fn f:=trivial
def IM(n:Nat):Fence.wide.depth.isSome=R->1<=n:=λh=>Bool.noConfusion h
def YT(l:Nat->UInt32)(k:Nat):Array jC:=#[Y X (k:Int),Y nO ((l k).toNat:Int)]
def Wl(x:UInt32)(p q r:Int)(w:M)(hp:1<=p/\p<=31)(A:1<=q/\q<=31)(C:1<=r/\r<=31):
  jG jy 284 #[Y nO x.toNat,Y X p,Y X q,Y X r] w λe w'=>e=nK (Y nO (yR x p.toNat q.toNat r.toNat).toNat)/\∃n,w'=w.drewN n:=by
 have h:=MR x p.toNat q.toNat r.toNat w K K K;rwa [show((p.toNat:Nat):Int)=p by omega,show((q.toNat:Nat):Int)=q by omega,show((r.toNat:Nat):Int)=r by omega]at h
def YU{p:Prop}(h:p:=by
 refine YS (λW2=>J k W2/\nU W2 B (Ai wv (k+1)) 314/\nU W2 Bs #[G s] 9) ⟨hJ.set (hJ.drewN hJs _) b0g _ _,(hR.drewN _).set _ _,(hS.drewN _).setOther hne _⟩ ?_;rintro W1 ⟨hJ1,hR1,hS1⟩;obtain⟨fn,tmps,assign,body,hy,hR'⟩:=hY k W1 hlt hJ1;unfold YT at hy;have hc1:W1.cell? (Z B (k % 16) V)=U (Y nO ((wv k).toNat:Int)):=(hR1.cell _).trans (xB _ _ _ K K)
 gi_wp2
 refine⟨IM _,hR'.mono ?_⟩;rintro e W3 ⟨rfl,hJ3,hK3⟩
 gi_wp2
 go_roundw;case rel=>exact⟨k+1,K,by go_num,hJ3,hK3.2 _ _ _ _ K hR1,hK3.2 _ _ _ _ hE hS1⟩
 case measure=>simp[kC];omega):p:=h
def Rt(n l Bs E:Nat)(s:An)(wv:Nat->UInt32)(aa:∀(k:Nat) (w:M),k<16->jG jy 273 #[G s,Y X k] w λe w'=>e=nK (Y nO (wv k).toNat)/\∃n,w'=w.drewN n)(A:∀k,16<=k->k<64->wv k=wv (k - 16)+(yR (wv (k - 15)) 7 18 3+wv (k - 7)+yR (wv (k - 2)) 17 19 10))(J:Nat->M->Prop)(W:M)(hJ:AbN W.heap.size J)(hY:∀k W1,k<64->J k W1->YieldAt Fence.wide (n - 1) jy l (YT wv k) W1 λe N=>e=nK (nH R)/\J (k+1) N/\Oj E W1 N)(hE:E<=Bs)(rG:nU W Bs #[G s] 9)(h0:J 0 W):
  CallsIn Fence.wide n jy 283 #[.func (.yield l) #[] #[],nG (U (Z Bs 0 V))] W λe N=>(∃v,e=nK v)/\J 64 N:=by
 have ak:Fence.wide.round=V:=rfl;have au:=H aa;have av:=H A;clear aa A;obtain⟨B,hB⟩:=og W.heap.size;have aG:Bs<B:=by rw[<-hB];exact rG.lt
 refine callsIn_of_wp Tryz.func283 rfl trivial ?_ ak;simp only[Tryz.ntmps283,lK,j4,List.length_nil,Nat.reduceAdd,Nat.reduceSub,Array.replicate_succ,Array.replicate_zero,List.push_toArray,List.append_toArray,List.nil_append,List.cons_append]
 gi_wp2
 have ax:nU (W.alloc (nL (Ai wv 0) 314)) B (Ai wv 0) 314:=by rw[<-hB];exact nU.new _ _ _
 have ay:=hJ _ _ _ V h0 (World.grownBy_alloc W (nL (Ai wv 0) 314) V) (λ_ h=>by cases h);have af:=rG.alloc (nL (Ai wv 0) 314)
 gi_loopw [6] (λi wr=>∃k:Nat,k<=64/\i=Y X k/\J k wr/\nU wr B (Ai wv k) 314/\nU wr Bs #[G s] 9) (λi _=>64 -(kC i).toNat)
 case atStart=>exact⟨0,K,rfl,ay,ax,af⟩
 case round=>
  obtain⟨k,hk,rfl,hJs,hR,hS⟩:=hrel;by_cases hlt:k<64
  .have C:=hS.cell 0
   have C:wr.cell? (Z Bs 0 V)=U (G s):=C;have hne:Bs≠B:=K;have b0g:W.heap.size<=B:=K;obtain⟨v0,ae⟩:=Wj wv k (k % 16) K;have az:wr.cell? (Z B (k % 16) V)=U v0:=(hR.cell _).trans ae;have aL:=hR.free (k % 16);by_cases aA:k<16
   .have aH:=H (λw=>au.out k w aA)
    gi_upto_region 8 with(refine⟨trivial,?_⟩;gi_at_call 273;skip)
    refine⟨a2Q _,IM _,CallsIn.mono (callsIn_wide.2 (aH _)) ?_⟩;rintro e w' ⟨rfl,nq,rfl⟩
    gi_upto_region 8 with(fail)
    exact YU
   .have ag:=xB wv k (k - 16) K K
    have e1:=xB wv k (k - 15) K K;have ah:=xB wv k (k - 7) K K;have I:=xB wv k (k - 2) K K;rw[show(k - 16) % 16=k % 16 by omega]at ag;rw[show(k - 15) % 16=(k+1) % 16 by omega]at e1;rw[show(k - 7) % 16=(k+9) % 16 by omega]at ah;rw[show(k - 2) % 16=(k+14) % 16 by omega]at I;have aO:=(hR.cell (k % 16)).trans ag;have aP:=(hR.cell ((k+1) % 16)).trans e1;have aQ:=(hR.cell ((k+9) % 16)).trans ah;have aM:=(hR.cell ((k+14) % 16)).trans I;have A:=av.out k K K;generalize aB:wv (k - 16)=aI at*;generalize aC:wv (k - 15)=aJ at*;generalize aD:wv (k - 7)=aK at*;generalize ai:wv (k - 2)=aF at*;have aj:=H A;clear A ag e1 ah I aB aC aD ai az C ae
    gi_upto_region 7 with(refine⟨trivial,?_⟩;skip)
    refine wpIn_wide.2 (qh 24 nV nV ?_);simp only[jY,kJ,mP,mM];repeat(go_big_quiet_step (exact Calls.quiet_of (Wl _ _ _ _ _ nT nT nT)))
    refine l7 ?_;intro aN;go_wp2;have hval:(((aI.toNat:Int)+(((yR aJ 7 18 3).toNat:Int)+(aK.toNat:Int)+((yR aF 17 19 10).toNat:Int))) % 4294967296)=((wv k).toNat:Int):=by
     rw[aj.out,<-AY,<-AY,<-AY];omega
    rw[hval];exact YU
  .obtain rfl:k=64:=K
   gi_wp2
   go_end0;exact⟨⟨_,rfl⟩,hJs⟩
def a8z(b:Nat):jC:=.func (.func 283) #[] #[nG (U (Z b 0 V))]
def Ru(s:An)(w:M):
  jG jy 274 #[G s] w λe w'=>∃b,e=nK (a8z b)/\w.heap.size<=b/\jD w.heap.size w w'/\nU w' b #[G s] 9:=by
 go_in;go_wp2;go_returns;exact⟨_,rfl,jB _,(jE _ _).alloc (jB _) _,nU.new _ _ _⟩
def Rv(n Bs E:Nat)(s:An)(w:M)(hs:s.size=64)(I:E<=Bs)(hB:nU w Bs #[G s] 9):
  OY Fence.wide n jy 283 #[nG (U (Z Bs 0 V))] (YT (wS s.data.toList)) (Oj E) 64 w:=by
 intro l aa W hb J N h0;exact Rt n l Bs E s (wS s.data.toList) (λk w hk=>by
  rw[a8x _ _ hk];exact OX s k w K K) (λk A C=>a8y _ _ A C) aa W J N I (Below.blk hb hB hB.lt) h0
end
section
open Go.RowKit
section fold
variable {σ:Type}(step:σ->Nat×Nat->Nat->σ)
def qw(f:Nat->Option Nat):List (Nat×Nat)->σ->σ
 |[],s=>s
 |p::r,s=>qw f r (match f p.1 with|some b=>step s p b|none=>s)
def upd(f:Nat->Option Nat)(i b:Nat):Nat->Option Nat:=λj=>if j=i then U b else f j
variable {step}
def Dj(hc:∀s p q b c,p.1≠q.1->p.2≠q.2->step (step s p b) q c=step (step s q c) p b)(f:Nat->Option Nat)(p:Nat×Nat)(b:Nat):
  ∀(l:List (Nat×Nat))(s:σ),(∀q∈l,p.1≠q.1/\p.2≠q.2)->qw step f l (step s p b)=step (qw step f l s) p b
 |[],s,_=>rfl
 |q::r,s,h=>by
  have C:=h q nX;rw[qw,qw];cases E:f q.1 with
  |none=>exact Dj hc f p b r s λx A=>h x (by simp[A])
  |some c=>
   show qw step f r (step (step s p b) q c)=step (qw step f r (step s q c)) p b;rw[hc s p q b c C.1 C.2];exact Dj hc f p b r _ λx A=>h x (by simp[A])
def yw(f g:Nat->Option Nat):∀(l:List (Nat×Nat))(s:σ),(∀q∈l,f q.1=g q.1)->qw step f l s=qw step g l s
 |[],s,_=>rfl
 |q::r,s,h=>by
  rw[qw,qw,h q nX];exact yw f g r _ λx A=>h x (by simp[A])
def Fj(hc:∀s p q b c,p.1≠q.1->p.2≠q.2->step (step s p b) q c=step (step s q c) p b)(f:Nat->Option Nat)(p:Nat×Nat)(b:Nat)(C:f p.1=V):
  ∀(l:List (Nat×Nat))(s:σ),l.Pairwise (λx y=>x.1≠y.1/\x.2≠y.2)->p∈l->step (qw step f l s) p b=qw step (upd f p.1 b) l s
 |[],s,_,h=>by cases h
 |q::r,s,hl,h=>by
  rw[List.pairwise_cons]at hl;rcases l5.1 h with rfl|E
  .have A:∀x∈r,p.1≠x.1/\p.2≠x.2:=hl.1
   rw[qw,qw,C];have e:upd f p.1 b p.1=U b:=by simp[upd]
   rw[e];show step (qw step f r s) p b=qw step (upd f p.1 b) r (step s p b);rw[<-Dj hc f p b r s A];refine yw _ _ r _ λx I=> ?_
   have:=(A x I).1;unfold upd;rw[As (nz this)]
  .have A:=hl.1 p E
   rw[qw,qw];have e:upd f p.1 b q.1=f q.1:=by unfold upd;rw[As A.1]
   rw[e];exact Fj hc f p b C r _ hl.2 E
end fold
def IP(a:Act)(p:Nat×Nat)(b:Nat):Act:=a.put (U p.2) (nG (U (Z b 0 V)))
def zK(L:Array Bool)(p:Nat×Nat)(b:Nat):Array Bool:=L.setIfInBounds p.1 R
def Wm(s:Act)(p q:Nat×Nat)(b c:Nat)(C:p.1≠q.1)(A:p.2≠q.2):IP (IP s p b) q c=IP (IP s q c) p b:=by
 unfold IP;exact(Act.put_comm s _ _ (λd hd=>by cases hd;simpa using λe=>A e)).symm
def Wn(s:Array Bool)(p q:Nat×Nat)(b c:Nat)(A:p.1≠q.1)(C:p.2≠q.2):zK (zK s p b) q c=zK (zK s q c) p b:=by
 unfold zK;exact Array.setIfInBounds_comm _ _ A
def DX(f:Nat->Option Nat)(d:Bool)(j:Nat):∀(l:List (Nat×Nat))(L:Array Bool),(∀p∈l,p.1=j->f p.1=V)->(qw zK f l L).getD j d=L.getD j d
 |[],L,_=>rfl
 |p::r,L,h=>by
  rw[qw,DX f d j r _ λx A=>h x (by simp[A])];cases C:f p.1 with
  |none=>rfl
  |some b=>
   have:p.1≠j:=λe=>by have:=h p nX e;rw[C]at this;cases this
   exact getD_set_ne d this
def Lb(f:Nat->Option Nat)(j:Nat):∀(l:List (Nat×Nat))(L:Array Bool),L.getD j O=R->(qw zK f l L).getD j O=R
 |[],L,h=>h
 |p::r,L,h=>by
  rw[qw];refine Lb f j r _ ?_;cases A:f p.1 with
  |none=>exact h
  |some b=>exact getD_set_true h
def Lc(f:Nat->Option Nat)(d:Bool)(j:Nat):∀(l:List (Nat×Nat))(L:Array Bool),L.getD j d=R->(qw zK f l L).getD j d=R
 |[],L,h=>h
 |p::r,L,h=>by
  rw[qw];refine Lc f d j r _ ?_;cases A:f p.1 with
  |none=>exact h
  |some b=>
   by_cases e:p.1=j
   .subst e
    unfold zK;simp only[lD,Array.getElem?_setIfInBounds_self];split;.rfl
    .rename_i hn
     rw[lD,Array.getElem?_eq_none K]at h;exact h
   .exact(getD_set_ne d e).trans h
def Ld(f:Nat->Option Nat)(p:Nat×Nat)(b:Nat)(A:f p.1=U b):∀(l:List (Nat×Nat))(L:Array Bool),p∈l->(qw zK f l L).getD p.1 R=R
 |[],_,h=>by cases h
 |q::r,L,h=>by
  rw[qw];rcases l5.1 h with rfl|C
  .rw[A]
   refine Lc f R p.1 r _ ?_;show(L.setIfInBounds p.1 R).getD p.1 R=R;rw[lD,Array.getElem?_setIfInBounds_self];split<;>rfl
  .exact Ld f p b A r _ C
def left(f:Nat->Option Nat)(l:List (Nat×Nat)):Nat:=(l.filter λp=>(f p.1).isNone).length
def O1(f:Nat->Option Nat)(p:Nat×Nat)(b:Nat)(C:f p.1=V):∀(l:List (Nat×Nat)),l.Pairwise (λx y=>x.1≠y.1/\x.2≠y.2)->p∈l->left f l=left (upd f p.1 b) l+1
 |[],_,h=>by cases h
 |q::r,hl,h=>by
  rw[List.pairwise_cons]at hl;unfold left;rcases l5.1 h with rfl|E
  .have e:(upd f p.1 b p.1).isNone=O:=by simp[upd]
   rw[List.filter_cons_of_pos (by simp[C]),List.filter_cons_of_neg (by simp[e]),j4];congr 2;refine List.filter_congr λx J=> ?_
   have:=(hl.1 x J).1;unfold upd;rw[As (nz this)]
  .have I:=(hl.1 p E).1
   have e:upd f p.1 b q.1=f q.1:=by unfold upd;rw[As I]
   have A:=O1 f p b C r hl.2 E;unfold left at A;by_cases c:(f q.1).isNone=R;.rw[List.filter_cons_of_pos (by simpa using c),List.filter_cons_of_pos (by rw[e];simpa using c),j4,j4,A]
   .rw[List.filter_cons_of_neg (by simpa using c),List.filter_cons_of_neg (by rw[e];simpa using c),A]
structure a5o(ad:Nat)(T:jX)(z:jC)(w0:M)(f:Nat->Option Nat)(l:List (Nat×Nat))(w:M):Prop where
 below:jD ad w0 w
 blk:∀p∈l,∀b,f p.1=U b->ad<=b/\nU w b #[z] T
 inj:∀p∈l,∀q∈l,∀b,f p.1=U b->f q.1=U b->p.1=q.1
variable {P:lQ}{ops:Array lJ}{Q:Exit->Act->M->Prop}{S:M->Prop}{md:lW}
def O3{z:jC}{ad fuel:Nat}{w0:M}{a0:Act}{A:Array Bool}(l:List (Nat×Nat))(hl:l.Pairwise (λx y=>x.1≠y.1/\x.2≠y.2))(aN:ad<=w0.heap.size)(ah:∀p∈l,∃o,ops[p.1]? =U o/\o.dst=U p.2/\o.guard=V/\(∀aO w,(execOp aO o).run P w=.ok (.value (nG (U (Z w.heap.size 0 V)))) (w.alloc (nL #[z] T)))/\
   (∀e∈o.after,mH md e=R->A.getD e.on O=R)/\A.getD p.1 R=O)(av:∀j o,ops[j]? =U o->A.getD j R=O->(∀p∈l,p.1≠j)->∀p∈l,∃e∈o.after,mH md e=R/\e.on=p.1)(aH:∀w,S w->S (w.alloc (nL #[z] T)))(aC:∀(bs:Nat->Nat) w,S w->a5o ad T z w0 (λi=>U (bs i)) l w->wpAnyH P md ops Q S fuel (qw zK (λi=>U (bs i)) l A) (qw IP (λi=>U (bs i)) l a0) w):
  ∀(k:Nat)(f:Nat->Option Nat)(w:M),left f l=k->S w->a5o ad T z w0 f l w->wpAnyH P md ops Q S (fuel+k) (qw zK f l A) (qw IP f l a0) w:=by
 intro k;induction k with
 |zero=>
  intro f w hk ae J;have I:∀p∈l,f p.1=U ((f p.1).getD 0):=by
   intro p hp;cases N:f p.1 with
   |some b=>rfl
   |none=>
    have:p∈l.filter λp=>(f p.1).isNone:=List.mem_filter.2 ⟨hp,by simp[N]⟩
    rw[mh.1 hk]at this;cases this
  have h:=aC (λi=>(f i).getD 0) w ae ⟨J.below,λp hp b hb=>J.blk p hp b (by rw[I p hp];exact hb),λp hp q aa b C E=>J.inj p hp q aa b (by rw[I p hp];exact C) (by rw[I q aa];exact E)⟩;rw[yw f (λi=>U ((f i).getD 0)) l A I,yw f (λi=>U ((f i).getD 0)) l a0 I];exact h
 |succ k aP=>
  intro f w hk ae J;have af:∀p∈l,f p.1=V->(qw zK f l A).getD p.1 R=O/\(qw zK f l A).getD p.1 O=O:=by
   intro p hp N;obtain⟨o,_,_,_,_,_,h0⟩:=ah p hp;rw[DX f R p.1 l A (λx _ e=>by rw[e];exact N),DX f O p.1 l A (λx _ e=>by rw[e];exact N)];refine⟨h0,?_⟩;rw[lD]at h0|-;cases ax:A[p.1]? with
   |none=>rw[ax]at h0;cases h0
   |some v=>rw[ax]at h0;exact h0
  obtain⟨ai,ag,ay⟩:∃p∈l,f p.1=V:=by
   have:0<(l.filter λp=>(f p.1).isNone).length:=by show 0<left f l;omega
   obtain⟨p,hp⟩:=List.exists_mem_of_length_pos this;obtain⟨C,E⟩:=List.mem_filter.1 hp;exact⟨p,C,by simpa using E⟩
  have aj:∀i,i∈lI md ops (qw zK f l A)->∃p∈l,p.1=i/\f p.1=V:=by
   intro i hi;obtain⟨h0,o,ho,he⟩:=mem_ready.1 hi;rcases Classical.em (∃p∈l,p.1=i)with⟨p,hp,az⟩|aA
   .refine⟨p,hp,az,?_⟩
    cases N:f p.1 with
    |none=>rfl
    |some b=>
     have:=Ld f p b N l A hp;rw[az,h0]at this;cases this
   .exfalso
    have hL:A.getD i R=O:=by rw[<-h0,DX f R i l A (λx ax e=>absurd ⟨x,ax,e⟩ aA)]
    obtain⟨e,ak,au,aI⟩:=av i o ho hL (λp hp e=>aA ⟨p,hp,e⟩) ai ag;have C:=he e ak au;rw[aI,(af ai ag ay).2]at C;cases C
  refine⟨λaD=> ?_,λi hi=> ?_⟩
  .exfalso
   obtain⟨o,ho,_,_,_,aJ,_⟩:=ah ai ag;have:ai.1∈lI md ops (qw zK f l A):=mem_ready.2 ⟨(af ai ag ay).1,o,ho,λe ak au=>Lb f e.on l A (aJ e ak au)⟩;rw[aD]at this;cases this
  .obtain⟨p,hp,rfl,N⟩:=aj i hi
   obtain⟨o,ho,aF,hg,aG,_,_⟩:=ah p hp;unfold wpOp;simp only[ho];have aQ:∀y,ma o y=R:=λy=>by unfold ma;rw[hg]
   rw[AC (aQ _)];refine .inl ?_;unfold Oper.wp;rw[aG];show S _/\wpAnyH P md ops Q S (fuel+k) _ ((qw IP f l a0).put o.dst (nG (U (Z w.heap.size 0 V)))) _;rw[aF];refine⟨aH w ae,?_⟩;have e1:=Fj Wn f p w.heap.size N l A hl hp;have e2:=Fj Wm f p w.heap.size N l a0 hl hp;have aK:(qw zK f l A).setIfInBounds p.1 R=qw zK (upd f p.1 w.heap.size) l A:=e1;have aL:(qw IP f l a0).put (U p.2) (nG (U (Z w.heap.size 0 V)))=qw IP (upd f p.1 w.heap.size) l a0:=e2;rw[aK,aL];have aR:=O1 f p w.heap.size N l hl hp;have aB:ad<=w.heap.size:=jM aN J.below.size;refine aP _ _ K (aH w ae) ⟨J.below.alloc aB _,λq aa b hb=> ?_,λq aa r aM b C E=> ?_⟩
   .unfold upd at hb
    by_cases c:q.1=p.1
    .rw[AC c]at hb
     cases hb;exact⟨aB,nU.new w _ T⟩
    .rw[As c]at hb
     obtain⟨C,E⟩:=J.blk q aa b hb;exact⟨C,E.alloc _⟩
   .unfold upd at C E
    by_cases c:q.1=p.1
    .by_cases d:r.1=p.1
     .rw[c,d]
     .rw[AC c]at C
      rw[As d]at E;cases C;exact absurd (J.blk r aM _ E).2.lt (Nat.lt_irrefl _)
    .rw[As c]at C
     by_cases d:r.1=p.1
     .rw[AC d]at E
      cases E;exact absurd (J.blk q aa _ C).2.lt (Nat.lt_irrefl _)
     .rw[As d]at E
      exact J.inj q aa r aM b C E
section
variable {P:lQ}{I:M->Prop}
end
section
variable {P:lQ}{ops:Array lJ}{md:lW}{C S:M->Prop}{Q:Exit->Act->M->Prop}
end
end
section
open Go.RowKit Go.Shelf
def S8.cs(s:S8):Array jC:=#[Y nO (s.a.toNat:Int),Y nO (s.b.toNat:Int),Y nO (s.c.toNat:Int),Y nO (s.d.toNat:Int),Y nO (s.e.toNat:Int),Y nO (s.f.toNat:Int),Y nO (s.g.toNat:Int),Y nO (s.h.toNat:Int)]
def a8A(md:lW)(ops:Array lJ)(A:Array Bool)(l:List (Nat×Nat)):Bool:=
 (ll ops.size).all λj=>A.getD j R||(l.any λp=>p.1==j)||(match ops[j]? with|some o=>l.all λp=>o.after.any λe=>mH md e&&e.on==p.1|none=>R)
def Rw{md:lW}{ops:Array lJ}{E:Array Bool}{l:List (Nat×Nat)}(h:a8A md ops E l=R):
  ∀j o,ops[j]? =U o->E.getD j R=O->(∀p∈l,p.1≠j)->∀p∈l,∃e∈o.after,mH md e=R/\e.on=p.1:=by
 intro j o ho hL I p hp;have A:=lN.1 h j (mJ.2 (j6.1 ho).1);rw[hL]at A;have J:(l.any λp=>p.1==j)=O:=by
  rw[List.any_eq_false];intro q N;simpa using I q N
 rw[J]at A;simp only[ho,Bool.false_or]at A;have aa:=lN.1 A p hp;obtain⟨i,hi,C⟩:=Array.any_eq_true.1 aa;simp only[jJ,beq_iff_eq]at C;exact⟨_,Array.getElem_mem hi,C.1,C.2⟩
def O4(md:lW)(ops:Array lJ)(A:Array Bool)(T:jX)(p:Nat×Nat):Bool:=
 match ops[p.1]? with
 |some o=>(o.dst==U p.2)&&o.guard.isNone&&(match o.op with| .alloc t=>t==T|_=>O)&&(o.after.all λe=> !(mH md e)||A.getD e.on O)&& !(A.getD p.1 R)
 |none=>O
def Ky{P:lQ}{z:jC}{md:lW}{ops:Array lJ}{I:Array Bool}{l:List (Nat×Nat)}(h:(l.all (O4 md ops I T))=R)(ae:∀C dst E pos after w,(execOp C {dst:=dst,op:=.alloc T,type:=E,pos:=pos,after:=after,guard:=V}).run P w=.ok (.value (nG (U (Z w.heap.size 0 V)))) (w.alloc (nL #[z] T))):
  ∀p∈l,∃o,ops[p.1]? =U o/\o.dst=U p.2/\o.guard=V/\(∀C w,(execOp C o).run P w=.ok (.value (nG (U (Z w.heap.size 0 V)))) (w.alloc (nL #[z] T)))/\
   (∀e∈o.after,mH md e=R->I.getD e.on O=R)/\I.getD p.1 R=O:=by
 intro p hp;have A:=lN.1 h p hp;unfold O4 at A;cases ho:ops[p.1]? with
 |none=>rw[ho]at A;cases A
 |some o=>
  rw[ho]at A;simp only[jJ,beq_iff_eq,Bool.not_eq_true']at A;obtain⟨⟨⟨⟨A,N⟩,J⟩,aa⟩,af⟩:=A;obtain⟨dst,op,E,pos,after,guard⟩:=o;simp only at A N J aa;cases guard with
  |some g=>cases N
  |none=>
   cases op<;>simp at J;subst J;refine⟨_,rfl,A,rfl,λC w=>ae C _ _ _ _ w,λe he hb=> ?_,af⟩;have:=Array.all_eq_true'.1 aa e he;simpa [hb]using this
def Wo(C:Operand->jC)(dst:Option Tmp)(A:jX)(pos:String)(after:Array Edge)(w:M):
  (execOp C {dst:=dst,op:=.alloc 22,type:=A,pos:=pos,after:=after,guard:=V}).run jy w=.ok (.value (nG (U (Z w.heap.size 0 V)))) (w.alloc (nL #[Y nO 0] 22)):=by
 simp[go_sem]
def Wp(k:Nat)(w:M)(hk:k<64):
  jG jy 272 #[Y X k] w λe w'=>e=nK (Y nO (kN k).toNat)/\∃n,w'=w.drewN n:=by
 obtain⟨ar,A⟩:∃ar:An,ar=⟨YP.toArray⟩:=⟨_,rfl⟩;have C:ar.size=256:=by rw[A];rfl
 have c1:=OX ar k w K K;have e1:Cs ar.data.toList k=kN k:=by rw[A];rfl
 rw[e1]at c1;have c1:=H c1;clear e1 C;have A:=H A;go_in;go_wp2_with fail;rw[A.out]at c1;refine c1.mono ?_;rintro e w' ⟨rfl,n,rfl⟩;go_wp2;go_returns;exact⟨rfl,_,rfl⟩
def Kz{P:lQ}{c:Code}{am:Act->M->Prop}{Q:Exit->Act->M->Prop}{a:Act}{w:M}(h:c.wp P (Exit.then am λ_ _ _=>False) a w):c.wp P (Exit.then am Q) a w:=
 wp_mono h λe a w=>by cases e<;>first|exact λh=>h|exact λh=>h.elim
def wG{P:lQ}{md:lW}{ops:Array lJ}{Q:Exit->Act->M->Prop}{S:M->Prop}{n:Nat}{A:Array Bool}{a:Act}{W:M}(ar:M->Prop)(C:ar W)(h:∀w,ar w->wpAnyH P md ops Q S n A a w):wpAnyH P md ops Q S n A a W:=h W C
def upI(x:Nat->Int)(j:Nat)(y:Int):Nat->Int:=λi=>if i=j then y else x i
def S8.at_(s:S8):Nat->Int
 |0=>s.a.toNat
 |1=>s.b.toNat
 |2=>s.c.toNat
 |3=>s.d.toNat
 |4=>s.e.toNat
 |5=>s.f.toNat
 |6=>s.g.toNat
 |_=>s.h.toNat
structure a8B(b0:Nat)(bs:Nat->Nat):Prop where
 inj:∀i j,i<8->j<8->bs (16+i)=bs (16+j)->i=j
 ge:∀j,j<8->b0+3<=bs (16+j)
structure wH(b0:Nat)(bs:Nat->Nat)(cs:Array jC)(w:M)(x:Nat->Int)(W:M):Prop where
 below:jD b0 w W
 st:nU W b0 cs 31
 res:nU W (b0+1) (lh 8 (Y nO 0)) 31
 cl:nU W (b0+2) #[.func (.func 272) #[] #[]] 302
 v:∀j,j<8->nU W (bs (16+j)) #[Y nO (x j)] 22
def wH.set{b0:Nat}{bs:Nat->Nat}{cs:Array jC}{w W:M}{x:Nat->Int}(h:wH b0 bs cs w x W)(hs:a8B b0 bs)(j:Nat)(A:j<8)(y:Int):
  wH b0 bs cs w (upI x j y) (W.setCell ⟨bs (16+j),0,V⟩ (Y nO y)):=by
 have hg:=hs.ge j A;refine⟨h.below.setCell nY _,h.st.setOther nY _,h.res.setOther nY _,h.cl.setOther nY _,λi hi=> ?_⟩;by_cases e:i=j
 .subst e
  have:=(h.v i hi).set 0 (Y nO y);simpa [upI]using this
 .have C:bs (16+i)≠bs (16+j):=λc=>e (hs.inj i j hi A c)
  have:=(h.v i hi).setOther (a:=⟨bs (16+j),0,V⟩) C (Y nO y);simpa [upI,e]using this
def wH.drewN{b0:Nat}{bs:Nat->Nat}{cs:Array jC}{w W:M}{x:Nat->Int}(h:wH b0 bs cs w x W)(n:Nat):wH b0 bs cs w x (W.drewN n):=
 ⟨⟨h.below.os,h.below.tape,h.below.output,h.below.size,h.below.block⟩,h.st,h.res,h.cl,h.v⟩
def wH.congr{b0:Nat}{bs:Nat->Nat}{cs:Array jC}{w W:M}{x y:Nat->Int}(h:wH b0 bs cs w x W)(e:∀j,j<8->x j=y j):wH b0 bs cs w y W:=
 ⟨h.below,h.st,h.res,h.cl,λj A=>by rw[<-e j A];exact h.v j A⟩
def wH.grown{b0:Nat}{bs:Nat->Nat}{cs:Array jC}{w W A:M}{x:Nat->Int}{row:Option Nat}{E:Nat}(h:wH b0 bs cs w x W)(J:∀j,j<8->bs (16+j)<E)(N:b0+2<E)(hg:W.grownBy A row)(C:∀r,row=U r->E<=r):wH b0 bs cs w x A:=by
 have keep:∀{b cs t},nU W b cs t->b<E->nU A b cs t:=by
  intro b cs t hb hlt;unfold nU;rw[hg.block b hb.lt (λe=>by have:=C b e.symm;omega)];exact hb
 have hlt:=h.st.lt;refine⟨h.below.grown hg K (λk hk=>by have:=C k hk;omega),keep h.st K,keep h.res K,keep h.cl K,λj I=>keep (h.v j I) (J j I)⟩
def BM:∀j,j<8->(16+j,6+j)∈[(16,6),(17,7),(18,8),(19,9),(20,10),(21,11),(22,12),(23,13)]:=nT
def a8C(x:UInt32):bits BinOp.xor IntKind.u32 (if IntKind.u32.signed=R then -1 else IntKind.u32.max) (x.toNat:Int)=((~~~x).toNat:Int):=by
 have h:=La 4294967295 x;have e:(4294967295:UInt32)^^^x= ~~~x:=by
  apply UInt32.toBitVec_inj.1;simp only[UInt32.toBitVec_xor,UInt32.toBitVec_not];apply BitVec.eq_of_getLsbD_eq;intro i hi;have A:(4294967295:UInt32).toBitVec=BitVec.allOnes 32:=nT;rw[A];simp only[BitVec.getLsbD_xor,BitVec.getLsbD_not,BitVec.getLsbD_allOnes,hi,decide_true,mQ];cases x.toBitVec.getLsbD i<;>rfl
 rw[e]at h;exact h
def IQ(x:UInt32)(p q r:Int)(w:M)(hp:1<=p/\p<=31)(A:1<=q/\q<=31)(C:1<=r/\r<=31):
  jG jy 275 #[Y nO x.toNat,Y X p,Y X q,Y X r] w λe w'=>e=nK (Y nO (Wd x p.toNat q.toNat r.toNat).toNat)/\w=w':=by
 have h:=Rq x p.toNat q.toNat r.toNat w K K K;rwa [show((p.toNat:Nat):Int)=p by omega,show((q.toNat:Nat):Int)=q by omega,show((r.toNat:Nat):Int)=r by omega]at h
def uP{E:Nat}{W ab:M}(h:KeepsFrom E W ab/\Oj E W ab){b:Nat}(hb:b<E)(v:jC):KeepsFrom E W (ab.setCell (Z b 0 V) v)/\Oj E W (ab.setCell (Z b 0 V) v):=by
 have hg:ab.grownBy (ab.setCell (Z b 0 V) v) (U b):=⟨rfl,rfl,rfl,by simp[j5],λk _ A=>jW _ _ _ _ (λe=>A (by rw[e]))⟩;refine⟨h.1.trans (KeepsFrom.of_grownBy hg (λj e=>by cases e;exact hb)),h.2.trans ⟨hg.size,λk cs t m hk hc=> ?_⟩⟩;rw[hg.block k (j6.1 hc).1 nY];exact hc
def S8.get(s:S8):Nat->UInt32
 |0=>s.a
 |1=>s.b
 |2=>s.c
 |3=>s.d
 |4=>s.e
 |5=>s.f
 |6=>s.g
 |_=>s.h
def Gp(s t:S8)(k j:Nat):jC:=Y nO (((match Nat.blt j k with|true=>s.get j+t.get j|false=>s.get j):UInt32).toNat:Int)
def a2R(s t:S8)(k:Nat):Array jC:=#[Gp s t k 0,Gp s t k 1,Gp s t k 2,Gp s t k 3,Gp s t k 4,Gp s t k 5,Gp s t k 6,Gp s t k 7]
def uQ{b0:Nat}{w W:M}(h:jD b0 w W)(j:Nat)(v:jC):jD b0 w (W.setCell (Z (b0+1) j V) v):=h.setCell (kR _) _
end
section
open Go.RowKit
section
variable {P:lQ}{ops:Array lJ}{md:lW}{S:M->Prop}{Q:Exit->Act->M->Prop}
def sK(i:Nat){oi:lJ}{v:jC}{fuel:Nat}{A C:Array Bool}{a E:Act}{w:M}(J:S w)(h:wpAnyH P md ops Q S fuel C E w)(hi:ops[i]? =U oi:=by simp only[jV,jT,jS]<;>rfl)(N:∀c a w,Q (.panic c) (a.put oi.dst v) w->Q (.panic c) a w:=by exact λ_ _ _ h=>h)(aa:ma oi (yielded ops a.tmps)=R:=by rfl)(hy:∀w,S w->(execOp a.eval oi).run P w=.ok (.value v) w:=by(intro w I;(try dsimp only at I);go_simp;try rfl))(ae:a.put oi.dst v=E:=by(try simp only[mR,jH,jQ,jR]);rfl)(hl:A.setIfInBounds i R=C:=by(try simp only[mR,jH,jQ,jR]);rfl)(hs:Region.noSelect ops=R:=by kernel_rfl)(af:Region.free md ops A i=R:=by kernel_rfl)(ag:(lI md ops A).contains i=R:=by kernel_rfl):
  wpAnyH P md ops Q S (fuel+1) A a w:=wpAnyH_take hi hs af ag N (.inl ⟨aa,hy⟩) J (by rw[hl,ae];exact h)
end
def y8{p:Prop}(h:p:=by simp only[jV,jT,jS]<;>rfl):p:=h
end
section
open Go.RowKit Go.Shelf
attribute [local go_sem] Oper.semAt_some
def a5W{k:Nat}(h:k<8):k=0\/k=1\/k=2\/k=3\/k=4\/k=5\/k=6\/k=7:=K
def a5X(s t:S8){k:Nat}(h:k<8):(a2R s t k)[k]? =U (Y nO ((s.get k).toNat:Int)):=by
 rcases a5W h with rfl|rfl|rfl|rfl|rfl|rfl|rfl|rfl<;>rfl
def a2S(s t:S8){k:Nat}(h:k<8):(a2R s t k).setIfInBounds k (Y nO ((s.get k+t.get k).toNat:Int))=a2R s t (k+1):=by
 rcases a5W h with rfl|rfl|rfl|rfl|rfl|rfl|rfl|rfl<;>rfl
def a8D(T:S8){k:Nat}(h:k<8)(w:M):(kP 31 (nI #[Y nO (T.a.toNat:Int),Y nO (T.b.toNat:Int),Y nO (T.c.toNat:Int),Y nO (T.d.toNat:Int),Y nO (T.e.toNat:Int),Y nO (T.f.toNat:Int),Y nO (T.g.toNat:Int),Y nO (T.h.toNat:Int)]) (Y X k)).run jy w=.ok (Y nO ((T.get k).toNat:Int)) w:=by
 rcases a5W h with rfl|rfl|rfl|rfl|rfl|rfl|rfl|rfl<;>rfl
def Uu(st:S8)(s:An)(w:M)(hs:s.size=64):
  jG jy 254 #[nI st.cs,G s] w λe w'=>e=nK (nI (OU st s.data.toList).cs)/\jD w.heap.size w w':=by
 refine(callsIn_wide (n:=8)).1 ?_;refine callsIn_of_wp_marks Tryz.func254 rfl trivial ?_ rfl;simp only[Tryz.ntmps254,lK,j4,List.length_nil,Nat.reduceAdd,Nat.reduceSub,Array.replicate_succ,Array.replicate_zero,List.push_toArray,List.append_toArray,List.nil_append,List.cons_append];refine wpIn_wide.2 ?_;go_upto_region 1 with fail;obtain⟨b0,hb0⟩:=og w.heap.size;refine uj (λW=>jD b0 w W/\W.heap.size=b0+2/\nU W b0 st.cs 31/\nU W (b0+1) (lh 8 (Y nO 0)) 31) ?_ ?_
 .refine⟨((jE _ _).alloc K _).alloc nY _,by simp[hb0],(hb0▸nU.new w _ _).alloc _,?_⟩
  have:=nU.new (w.alloc (nL st.cs 31)) (lh 8 (Y nO 0)) 31;rwa [World.size_alloc,hb0]at this
 rintro W ⟨aK,hsz,C,aj⟩;have aR:=H hsz;have dB:=H hb0;clear hsz;rw[hb0];clear hb0;go_upto_region 2 with fail;refine uj (λaa=>jD b0 w aa/\aa.heap.size=b0+3/\nU aa b0 st.cs 31/\nU aa (b0+1) (lh 8 (Y nO 0)) 31/\nU aa (b0+2) #[.func (.func 272) #[] #[]] 302) ?_ ?_
 .have e:=aR.out
  refine⟨aK.alloc K _,by simp[e],C.alloc _,aj.alloc _,?_⟩;have:=nU.new W #[.func (.func 272) #[] #[]] 302;rwa [e]at this
 rw[aR.out];clear aR C aj aK W;rintro W ⟨aK,hsz,C,aj,bK⟩;refine Kz ?_;refine wp_region_held_drew (S:=λw'=>nU w' b0 st.cs 31) nV (nU.drew C) (λA=> ?_);refine sK 0 A ?_;refine sK 1 A ?_ (hy:=by intro w ag;have hc:w.cell? (Z _ 0 V)=U (Y nO (st.a.toNat:Int)):=ag.cell 0;go_simp;try rfl);refine sK 2 A ?_;refine sK 3 A ?_ (hy:=by intro w ag;have hc:w.cell? (Z _ 1 V)=U (Y nO (st.b.toNat:Int)):=ag.cell 1;go_simp;try rfl);refine sK 4 A ?_;refine sK 5 A ?_ (hy:=by intro w ag;have hc:w.cell? (Z _ 2 V)=U (Y nO (st.c.toNat:Int)):=ag.cell 2;go_simp;try rfl);refine sK 6 A ?_;refine sK 7 A ?_ (hy:=by intro w ag;have hc:w.cell? (Z _ 3 V)=U (Y nO (st.d.toNat:Int)):=ag.cell 3;go_simp;try rfl);refine sK 8 A ?_;refine sK 9 A ?_ (hy:=by intro w ag;have hc:w.cell? (Z _ 4 V)=U (Y nO (st.e.toNat:Int)):=ag.cell 4;go_simp;try rfl);refine sK 10 A ?_;refine sK 11 A ?_ (hy:=by intro w ag;have hc:w.cell? (Z _ 5 V)=U (Y nO (st.f.toNat:Int)):=ag.cell 5;go_simp;try rfl);refine sK 12 A ?_;refine sK 13 A ?_ (hy:=by intro w ag;have hc:w.cell? (Z _ 6 V)=U (Y nO (st.g.toNat:Int)):=ag.cell 6;go_simp;try rfl);refine sK 14 A ?_;refine sK 15 A ?_ (hy:=by intro w ag;have hc:w.cell? (Z _ 7 V)=U (Y nO (st.h.toNat:Int)):=ag.cell 7;go_simp;try rfl)
 refine O3 (P:=jy) (T:=22) (z:=Y nO 0) (ad:=b0+3) (fuel:=8) (w0:=W.drew) [(16,6),(17,7),(18,8),(19,9),(20,10),(21,11),(22,12),(23,13)] nT (lZ hsz.symm)
  (Ky nV (λeZ dst dD pos after w=>Wo eZ dst dD pos after w)) (Rw nV) (λw' h=>h.alloc _) ?_ 8 (λ_=>V) _ rfl A ⟨jE _ _,(λp hp b hb=>by cases hb),(λp hp q dE b hb=>by cases hb)⟩
 intro bs bA bL aS;simp only[qw,zK,IP,mR,jH,jQ,jR];have af:a8B b0 bs:=by
  refine⟨λi j hi aB e=> ?_,λj aB=>(aS.blk (16+j,6+j) (BM j aB) _ rfl).1⟩;have:=aS.inj (16+i,6+i) (BM i hi) (16+j,6+j) (BM j aB) (bs (16+j)) (by rw[<-e]) rfl;omega
 have hI:wH b0 bs st.cs w (λ_=>0) bA:=by
  have aT:=aS.below;refine⟨aK.trans ?_,bL,Below.blk aT aj K,Below.blk aT bK K,λj aB=>(aS.blk (16+j,6+j) (BM j aB) _ rfl).2⟩;exact((jE b0 W).drew).trans (aT.mono K)
 clear aS bL A C aj bK aK hsz W;refine l8 (rs:=[24]) nV nX ?_;refine lg y8 (λam ah=> ?_) lH;have I:=hI.v 0 nT;have hc:bA.cell? (Z (bs 16) 0 V)=U (Y nO _):=I.cell 0;have ay:bA.frozen? (Z (bs 16) 0 V)=O:=I.free 0;clear I;have ai:=H hI;clear hI;go_simp;have hI:=ai.set af 0 nT st.a.toNat;clear ai;refine ah _ _ hI.st (λax=> ?_);clear ah am hc ay;try simp only[mR,jH,jQ,jR]
 refine wG _ hI ?_;clear hI ax bA;intro cK hI;refine l8 (rs:=[25]) nV nX ?_;refine lg y8 (λam ah=> ?_) lH;have I:=hI.v 1 nT;have hc:cK.cell? (Z (bs 17) 0 V)=U (Y nO _):=I.cell 0;have ay:cK.frozen? (Z (bs 17) 0 V)=O:=I.free 0;clear I;have ai:=H hI;clear hI;go_simp;have hI:=ai.set af 1 nT st.b.toNat;clear ai;refine ah _ _ hI.st (λax=> ?_);clear ah am hc ay;try simp only[mR,jH,jQ,jR]
 refine wG _ hI ?_;clear hI ax cK;intro aa hI;refine l8 (rs:=[26]) nV nX ?_;refine lg y8 (λam ah=> ?_) lH;have I:=hI.v 2 nT;have hc:aa.cell? (Z (bs 18) 0 V)=U (Y nO _):=I.cell 0;have ay:aa.frozen? (Z (bs 18) 0 V)=O:=I.free 0;clear I;have ai:=H hI;clear hI;go_simp;have hI:=ai.set af 2 nT st.c.toNat;clear ai;refine ah _ _ hI.st (λax=> ?_);clear ah am hc ay;try simp only[mR,jH,jQ,jR]
 refine wG _ hI ?_;clear hI ax aa;intro W3 hI;refine l8 (rs:=[27]) nV nX ?_;refine lg y8 (λam ah=> ?_) lH;have I:=hI.v 3 nT;have hc:W3.cell? (Z (bs 19) 0 V)=U (Y nO _):=I.cell 0;have ay:W3.frozen? (Z (bs 19) 0 V)=O:=I.free 0;clear I;have ai:=H hI;clear hI;go_simp;have hI:=ai.set af 3 nT st.d.toNat;clear ai;refine ah _ _ hI.st (λax=> ?_);clear ah am hc ay;try simp only[mR,jH,jQ,jR]
 refine wG _ hI ?_;clear hI ax W3;intro cZ hI;refine l8 (rs:=[28]) nV nX ?_;refine lg y8 (λam ah=> ?_) lH;have I:=hI.v 4 nT;have hc:cZ.cell? (Z (bs 20) 0 V)=U (Y nO _):=I.cell 0;have ay:cZ.frozen? (Z (bs 20) 0 V)=O:=I.free 0;clear I;have ai:=H hI;clear hI;go_simp;have hI:=ai.set af 4 nT st.e.toNat;clear ai;refine ah _ _ hI.st (λax=> ?_);clear ah am hc ay;try simp only[mR,jH,jQ,jR]
 refine wG _ hI ?_;clear hI ax cZ;intro df hI;refine l8 (rs:=[29]) nV nX ?_;refine lg y8 (λam ah=> ?_) lH;have I:=hI.v 5 nT;have hc:df.cell? (Z (bs 21) 0 V)=U (Y nO _):=I.cell 0;have ay:df.frozen? (Z (bs 21) 0 V)=O:=I.free 0;clear I;have ai:=H hI;clear hI;go_simp;have hI:=ai.set af 5 nT st.f.toNat;clear ai;refine ah _ _ hI.st (λax=> ?_);clear ah am hc ay;try simp only[mR,jH,jQ,jR]
 refine wG _ hI ?_;clear hI ax df;intro dh hI;refine l8 (rs:=[30]) nV nX ?_;refine lg y8 (λam ah=> ?_) lH;have I:=hI.v 6 nT;have hc:dh.cell? (Z (bs 22) 0 V)=U (Y nO _):=I.cell 0;have ay:dh.frozen? (Z (bs 22) 0 V)=O:=I.free 0;clear I;have ai:=H hI;clear hI;go_simp;have hI:=ai.set af 6 nT st.g.toNat;clear ai;refine ah _ _ hI.st (λax=> ?_);clear ah am hc ay;try simp only[mR,jH,jQ,jR]
 refine wG _ hI ?_;clear hI ax dh;intro dw hI;refine l8 (rs:=[31]) nV nX ?_;refine lg y8 (λam ah=> ?_) lH;have I:=hI.v 7 nT;have hc:dw.cell? (Z (bs 23) 0 V)=U (Y nO _):=I.cell 0;have ay:dw.frozen? (Z (bs 23) 0 V)=O:=I.free 0;clear I;have ai:=H hI;clear hI;go_simp;have hI:=ai.set af 7 nT st.h.toNat;clear ai;refine ah _ _ hI.st (λax=> ?_);clear ah am hc ay;try simp only[mR,jH,jQ,jR]
 refine wG _ hI ?_;clear hI ax dw;intro dF hI;refine wpAnyH_done nV ?_ _;have hI:wH b0 bs st.cs w st.at_ dF:=hI.congr (λj aB=>by match j,aB with|0,_=>rfl|1,_=>rfl|2,_=>rfl|3,_=>rfl|4,_=>rfl|5,_=>rfl|6,_=>rfl|7,_=>rfl);have aJ:=H hI;clear hI;go_wp2_with fail;refine(Ru s _).mono ?_;rintro e bB ⟨Bs,rfl,bM,az,rG⟩;obtain⟨E,dG⟩:=og dF.heap.size;rw[dG]at bM az;have hlt:=λj aB=>((aJ.v j aB).lt)
 rw[dG]at hlt;have aL:wH b0 bs st.cs w st.at_ bB:=aJ.grown (E:=E) hlt (by have:=aJ.cl.lt;omega) (row:=V) ⟨az.os,az.tape,az.output,by have:=az.size;omega,λi hi _=>az.block i K⟩ (λr h=>by cases h);have dH:b0+2<E:=by have:=aJ.cl.lt;omega
 clear aJ;unfold a8z;go_wp2_with fail;have aO:=Rv 7 Bs E s bB hs bM rG;have aU:OU st s.data.toList=a2P st (zJ s.data.toList st 64):=rfl;have bN:zJ s.data.toList st 0=st:=rfl;have bO:∀k,zJ s.data.toList st (k+1)=YO (zJ s.data.toList st k) (kN k) (wS s.data.toList k):=λ_=>rfl
 have dI:E<=bB.heap.size:=by have:=az.size;omega
 clear rG hI az;generalize zJ s.data.toList st=ar at*;generalize wS s.data.toList=dJ at*;have aL:=aL.congr (y:=(ar 0).at_) (λj _=>by rw[bN]);clear bN;have dK:=H aU;have dL:=H bO;clear aU bO;refine wpIn_wide.1 (Fg (n:=8) (E:=E) (N:=64) (encs:=YT dJ) (w0:=bB) rfl nT (gf:=283) (lb:=#[nG (U (Z Bs 0 V))]) rfl trivial ?eg aO (jE _ _) (λk=>rfl) (λk W=>wH b0 bs st.cs w (ar k).at_ W) ?hI aL ?Rs ?hdone);case eg=>intro args w';rfl
 case hI=>exact λk W gu row hk hg fq=>hk.grown (E:=E) hlt dH hg (λr e=>by have:=fq r e;omega)
 case Rs=>
  intro l k W hk hI;simp only[YT,List.zip_toArray,List.zip_cons_cons,List.zip_nil_right,List.foldl_toArray,List.foldl_cons,List.foldl_nil,jH,jQ,jR]
  gi_wp2
  refine⟨trivial,λaa ak=> ?_⟩;have aV:=dL.out k;generalize dJ k=wk at*;obtain⟨dM,aW⟩:=og (ar k);rw[aW]at aV;have ak:wH b0 bs st.cs w dM.at_ aa:=ak.congr (λj _=>by rw[aW]);clear aW;obtain⟨a,b,c,d,e,f,g,h⟩:=dM;have c0:aa.cell? (Z (bs 16) 0 V)=U (Y nO (a.toNat:Int)):=(ak.v 0 nT).cell 0;have c1:aa.cell? (Z (bs 17) 0 V)=U (Y nO (b.toNat:Int)):=(ak.v 1 nT).cell 0;have c2:aa.cell? (Z (bs 18) 0 V)=U (Y nO (c.toNat:Int)):=(ak.v 2 nT).cell 0;have c3:aa.cell? (Z (bs 19) 0 V)=U (Y nO (d.toNat:Int)):=(ak.v 3 nT).cell 0;have c4:aa.cell? (Z (bs 20) 0 V)=U (Y nO (e.toNat:Int)):=(ak.v 4 nT).cell 0;have c5:aa.cell? (Z (bs 21) 0 V)=U (Y nO (f.toNat:Int)):=(ak.v 5 nT).cell 0;have c6:aa.cell? (Z (bs 22) 0 V)=U (Y nO (g.toNat:Int)):=(ak.v 6 nT).cell 0;have c7:aa.cell? (Z (bs 23) 0 V)=U (Y nO (h.toNat:Int)):=(ak.v 7 nT).cell 0;have gy:aa.cell? (Z (b0+2) 0 V)=U (.func (.func 272) #[] #[]):=ak.cl.cell 0;have aX:=H ak;have dN:=H aV;have aA:=H hlt;clear ak aV hI aO aL hlt
  gi_upto_region 8 with(refine⟨trivial,?_⟩;skip)
  simp only[a8r,a8C,La];generalize aY:(e&&&f)^^^(~~~e&&&g)=ch;generalize aZ:(a&&&b)^^^(a&&&c)^^^(b&&&c)=fu;have aY:=H aY;have aZ:=H aZ;refine Fh l nV nV nV ?hL ?_;case hL=>rintro⟨gz,w',dE⟩;exact absurd dE.1 (λe=>by cases e)
  repeat(go_big_quiet_step (first
   |(go_at_call 275;exact Calls.Yt (IQ _ _ _ _ _ nT nT nT))
   |(go_at_call 272;exact Calls.quiet_of (Wp _ _ hk))))
  refine l7 ?_;intro bC
  gi_upto_region 9 with(refine⟨trivial,?_⟩;skip)
  have dO:((((h.toNat:Int)+((Wd e 6 11 25).toNat:Int)+((kN k).toNat:Int)+(wk.toNat:Int)) % 4294967296+(ch.toNat:Int)) % 4294967296)=((OQ ⟨a,b,c,d,e,f,g,h⟩ (kN k) wk).toNat:Int):=by
   unfold OQ;simp only;rw[aY.out,<-AY,<-AY,<-AY,<-AY];omega
  rw[dO];generalize bg:OQ ⟨a,b,c,d,e,f,g,h⟩ (kN k) wk=P;have bg:=H bg;clear dO
  gi_upto_region 10 with(refine⟨trivial,CallsIn.mono (CallsIn.inRound l (callsIn_wide.2 (IQ a 2 13 22 _ nT nT nT))) ?_⟩;rintro en w' ⟨rfl,rfl⟩)
  have dP:((((Wd a 2 13 22).toNat:Int)+(fu.toNat:Int)) % 4294967296)=((Ur ⟨a,b,c,d,e,f,g,h⟩).toNat:Int):=by
   unfold Ur;simp only;rw[aZ.out,<-AY]
  rw[dP];generalize bq:Ur ⟨a,b,c,d,e,f,g,h⟩=bD;have bq:=H bq;clear dP;have bP:=H (aX.drewN bC);have bQ:KeepsFrom E aa (aa.drewN bC)/\Oj E aa (aa.drewN bC):=⟨KeepsFrom.of_grownBy (row:=V) ⟨rfl,rfl,rfl,jB _,λ_ _ _=>rfl⟩ (λ_ h=>by cases h),Oj.refl _ _⟩;have gB:aa.frozen? (Z (bs 16) 0 V)=O:=(aX.v 0 nT).free 0;have f1:aa.frozen? (Z (bs 17) 0 V)=O:=(aX.v 1 nT).free 0;repeat(first|gi_guarded|gi_step|gi_upon)
  generalize fO:aa.drewN bC=fw at bP bQ|-;have aC:=bP.set af 0 nT (((P.toNat:Int)+(bD.toNat:Int)) % 4294967296);have bR:=uP (E:=E) bQ (b:=bs 16) (aA 0 nT) (Y nO (((P.toNat:Int)+(bD.toNat:Int)) % 4294967296));generalize dQ:fw.setCell (Z (bs 16) 0 V) (Y nO (((P.toNat:Int)+(bD.toNat:Int)) % 4294967296))=bE at bR|-;have aC:wH b0 bs st.cs w _ bE:=dQ▸aC;have gD:bE.cell? (Z (bs 17) 0 V)=U (Y nO _):=(aC.v 1 nT).cell 0;have f2:bE.frozen? (Z (bs 18) 0 V)=O:=(aC.v 2 nT).free 0;have dR:=H aC;clear aC;go_simp;repeat(first|gi_guarded|gi_step|gi_upon)
  have aD:=dR.set af 1 nT (a.toNat:Int);have bS:=uP (E:=E) bR (b:=bs 17) (aA 1 nT) (Y nO (a.toNat:Int));generalize dS:bE.setCell (Z (bs 17) 0 V) (Y nO (a.toNat:Int))=bF at bS|-;have aD:wH b0 bs st.cs w _ bF:=dS▸aD;have gF:bF.cell? (Z (bs 18) 0 V)=U (Y nO _):=(aD.v 2 nT).cell 0;have f3:bF.frozen? (Z (bs 19) 0 V)=O:=(aD.v 3 nT).free 0;have dU:=H aD;clear aD;go_simp;repeat(first|gi_guarded|gi_step|gi_upon)
  have aF:=dU.set af 2 nT (b.toNat:Int);have bT:=uP (E:=E) bS (b:=bs 18) (aA 2 nT) (Y nO (b.toNat:Int));generalize dV:bF.setCell (Z (bs 18) 0 V) (Y nO (b.toNat:Int))=bG at bT|-;have aF:wH b0 bs st.cs w _ bG:=dV▸aF;have gG:bG.cell? (Z (bs 19) 0 V)=U (Y nO _):=(aF.v 3 nT).cell 0;have f4:bG.frozen? (Z (bs 20) 0 V)=O:=(aF.v 4 nT).free 0;have dW:=H aF;clear aF;go_simp;repeat(first|gi_guarded|gi_step|gi_upon)
  have aG:=dW.set af 3 nT (c.toNat:Int);have bU:=uP (E:=E) bT (b:=bs 19) (aA 3 nT) (Y nO (c.toNat:Int));generalize dX:bG.setCell (Z (bs 19) 0 V) (Y nO (c.toNat:Int))=bH at bU|-;have aG:wH b0 bs st.cs w _ bH:=dX▸aG;have gH:bH.cell? (Z (bs 20) 0 V)=U (Y nO _):=(aG.v 4 nT).cell 0;have gI:bH.frozen? (Z (bs 21) 0 V)=O:=(aG.v 5 nT).free 0;have dY:=H aG;clear aG;go_simp;repeat(first|gi_guarded|gi_step|gi_upon)
  have aH:=dY.set af 4 nT (((d.toNat:Int)+(P.toNat:Int)) % 4294967296);have bV:=uP (E:=E) bU (b:=bs 20) (aA 4 nT) (Y nO (((d.toNat:Int)+(P.toNat:Int)) % 4294967296));generalize dZ:bH.setCell (Z (bs 20) 0 V) (Y nO (((d.toNat:Int)+(P.toNat:Int)) % 4294967296))=bI at bV|-;have aH:wH b0 bs st.cs w _ bI:=dZ▸aH;have gJ:bI.cell? (Z (bs 21) 0 V)=U (Y nO _):=(aH.v 5 nT).cell 0;have gK:bI.frozen? (Z (bs 22) 0 V)=O:=(aH.v 6 nT).free 0;have ed:=H aH;clear aH;go_simp;repeat(first|gi_guarded|gi_step|gi_upon)
  have aI:=ed.set af 5 nT (e.toNat:Int);have bW:=uP (E:=E) bV (b:=bs 21) (aA 5 nT) (Y nO (e.toNat:Int));generalize ek:bI.setCell (Z (bs 21) 0 V) (Y nO (e.toNat:Int))=bJ at bW|-;have aI:wH b0 bs st.cs w _ bJ:=ek▸aI;have gL:bJ.cell? (Z (bs 22) 0 V)=U (Y nO _):=(aI.v 6 nT).cell 0;have gM:bJ.frozen? (Z (bs 23) 0 V)=O:=(aI.v 7 nT).free 0;have eu:=H aI;clear aI;go_simp;repeat(first|gi_guarded|gi_step|gi_upon)
  have aM:=eu.set af 6 nT (f.toNat:Int);have bX:=uP (E:=E) bW (b:=bs 22) (aA 6 nT) (Y nO (f.toNat:Int));generalize eB:bJ.setCell (Z (bs 22) 0 V) (Y nO (f.toNat:Int))=dx at bX|-;have aM:wH b0 bs st.cs w _ dx:=eB▸aM;have gN:dx.cell? (Z (bs 23) 0 V)=U (Y nO _):=(aM.v 7 nT).cell 0;have eD:=H aM;clear aM;go_simp;repeat(first|gi_guarded|gi_step|gi_upon)
  have aP:=eD.set af 7 nT (g.toNat:Int);have aQ:=uP (E:=E) bX (b:=bs 23) (aA 7 nT) (Y nO (g.toNat:Int));generalize eF:dx.setCell (Z (bs 23) 0 V) (Y nO (g.toNat:Int))=fA at aQ|-;have aP:wH b0 bs st.cs w _ fA:=eF▸aP;have eG:=H aP;clear aP;refine⟨rfl,⟨aQ.1.size,λi o hi=>aQ.1.same i o (jM dI hi)⟩,aQ.2,eG.congr (λj aB=> ?_)⟩;rw[dN.out];unfold YO;rw[bg.out,bq.out]
  match j,aB with
  |0,_=>exact AY P bD
  |1,_=>rfl
  |2,_=>rfl
  |3,_=>rfl
  |4,_=>exact AY d P
  |5,_=>rfl
  |6,_=>rfl
  |7,_=>rfl
 case hdone=>
  intro D W gP hI eH;obtain⟨T,dz⟩:=og (ar 64);have hI:wH b0 bs st.cs w T.at_ W:=hI.congr (λj _=>by rw[dz]);have dA:=dK.out;rw[dz]at dA;have c0:W.cell? (Z (bs 16) 0 V)=U (Y nO (T.a.toNat:Int)):=(hI.v 0 nT).cell 0;have c1:W.cell? (Z (bs 17) 0 V)=U (Y nO (T.b.toNat:Int)):=(hI.v 1 nT).cell 0;have c2:W.cell? (Z (bs 18) 0 V)=U (Y nO (T.c.toNat:Int)):=(hI.v 2 nT).cell 0;have c3:W.cell? (Z (bs 19) 0 V)=U (Y nO (T.d.toNat:Int)):=(hI.v 3 nT).cell 0;have c4:W.cell? (Z (bs 20) 0 V)=U (Y nO (T.e.toNat:Int)):=(hI.v 4 nT).cell 0;have c5:W.cell? (Z (bs 21) 0 V)=U (Y nO (T.f.toNat:Int)):=(hI.v 5 nT).cell 0;have c6:W.cell? (Z (bs 22) 0 V)=U (Y nO (T.g.toNat:Int)):=(hI.v 6 nT).cell 0;have c7:W.cell? (Z (bs 23) 0 V)=U (Y nO (T.h.toNat:Int)):=(hI.v 7 nT).cell 0;have aJ:=H hI;have eO:=H eH;have bY:=H dA;clear hI eH dA dz dK dL aO aL hlt;go_wp2_with fail;go_loopw [98] (λi wr=>∃k:Nat,k<=8/\i=Y X k/\jD b0 w wr/\nU wr b0 (a2R st T k) 31/\nU wr (b0+1) (lh 8 (Y nO 0)) 31/\wr.heap[D]? =U (.deferred (U []))) (λi _=>8 -(kC i).toNat);case atStart=>exact⟨0,K,rfl,aJ.below,aJ.st,aJ.res,eO.out⟩
  case round=>
   obtain⟨k,hk,rfl,hB,C,aj,hd⟩:=hrel;have eP:=H hB;have eQ:=H hd;clear hB hd;by_cases bu:k<8
   .have c:wr.cell? (Z b0 k V)=U (Y nO ((st.get k).toNat:Int)):=(C.cell k).trans (a5X st T bu)
    have f:wr.frozen? (Z b0 k V)=O:=C.free k;have ax:∀w',(kP 31 (nI #[Y nO (T.a.toNat:Int),Y nO (T.b.toNat:Int),Y nO (T.c.toNat:Int),Y nO (T.d.toNat:Int),Y nO (T.e.toNat:Int),Y nO (T.f.toNat:Int),Y nO (T.g.toNat:Int),Y nO (T.h.toNat:Int)]) (Y X k)).run jy w'=.ok (Y nO ((T.get k).toNat:Int)) w':=λw'=>a8D T bu w'
    have fB:=H C;have eT:=H aj;have fP:(k:Int)<8:=K;clear C aj;have eU:=H (a2S st T bu);generalize st.get k=fC at*;generalize T.get k=fD at*;go_wp2_with fail;rw[AY];go_roundw;case rel=>exact⟨k+1,K,by go_num,eP.setCell (jB _) _,by have:=fB.set k (Y nO ((fC+fD).toNat:Int));rw[eU.out]at this;exact this,eT.setOther nX _,(jW _ _ _ _ nY).trans eQ.out⟩
    case measure=>simp[kC];omega
   .obtain rfl:k=8:=K
    have C:nU wr b0 (a2P st T).cs 31:=C;have J:nU wr (b0+1) #[Y nO 0,Y nO 0,Y nO 0,Y nO 0,Y nO 0,Y nO 0,Y nO 0,Y nO 0] 31:=aj;have bZ:=bY.out;generalize a2P st T=ae at*;have z0:wr.cell? (Z b0 0 V)=U (Y nO (ae.a.toNat:Int)):=C.cell 0;have r0:wr.cell? (Z (b0+1) 0 V)=U (Y nO 0):=J.cell 0;have fQ:wr.frozen? (Z (b0+1) 0 V)=O:=J.free 0;have gQ:wr.cell? (Z b0 1 V)=U (Y nO (ae.b.toNat:Int)):=C.cell 1;have r1:wr.cell? (Z (b0+1) 1 V)=U (Y nO 0):=J.cell 1;have fT:wr.frozen? (Z (b0+1) 1 V)=O:=J.free 1;have gT:wr.cell? (Z b0 2 V)=U (Y nO (ae.c.toNat:Int)):=C.cell 2;have r2:wr.cell? (Z (b0+1) 2 V)=U (Y nO 0):=J.cell 2;have fU:wr.frozen? (Z (b0+1) 2 V)=O:=J.free 2;have z3:wr.cell? (Z b0 3 V)=U (Y nO (ae.d.toNat:Int)):=C.cell 3;have r3:wr.cell? (Z (b0+1) 3 V)=U (Y nO 0):=J.cell 3;have fV:wr.frozen? (Z (b0+1) 3 V)=O:=J.free 3;have z4:wr.cell? (Z b0 4 V)=U (Y nO (ae.e.toNat:Int)):=C.cell 4;have r4:wr.cell? (Z (b0+1) 4 V)=U (Y nO 0):=J.cell 4;have fZ:wr.frozen? (Z (b0+1) 4 V)=O:=J.free 4;have z5:wr.cell? (Z b0 5 V)=U (Y nO (ae.f.toNat:Int)):=C.cell 5;have gU:wr.cell? (Z (b0+1) 5 V)=U (Y nO 0):=J.cell 5;have gm:wr.frozen? (Z (b0+1) 5 V)=O:=J.free 5;have gV:wr.cell? (Z b0 6 V)=U (Y nO (ae.g.toNat:Int)):=C.cell 6;have gW:wr.cell? (Z (b0+1) 6 V)=U (Y nO 0):=J.cell 6;have gp:wr.frozen? (Z (b0+1) 6 V)=O:=J.free 6;have gX:wr.cell? (Z b0 7 V)=U (Y nO (ae.h.toNat:Int)):=C.cell 7;have gY:wr.cell? (Z (b0+1) 7 V)=U (Y nO 0):=J.cell 7;have gq:wr.frozen? (Z (b0+1) 7 V)=O:=J.free 7;have eX:=H bZ;clear bZ bY aj;have eY:=H J;clear J C;go_wp2_with fail;have hF:=((((((((eY.set 0 (Y nO (ae.a.toNat:Int))).set 1 (Y nO (ae.b.toNat:Int))).set 2 (Y nO (ae.c.toNat:Int))).set 3 (Y nO (ae.d.toNat:Int))).set 4 (Y nO (ae.e.toNat:Int))).set 5 (Y nO (ae.f.toNat:Int))).set 6 (Y nO (ae.g.toNat:Int))).set 7 (Y nO (ae.h.toNat:Int)));have bz:=(uQ (uQ (uQ (uQ (uQ (uQ (uQ (uQ eP 0 (Y nO (ae.a.toNat:Int))) 1 (Y nO (ae.b.toNat:Int))) 2 (Y nO (ae.c.toNat:Int))) 3 (Y nO (ae.d.toNat:Int))) 4 (Y nO (ae.e.toNat:Int))) 5 (Y nO (ae.f.toNat:Int))) 6 (Y nO (ae.g.toNat:Int))) 7 (Y nO (ae.h.toNat:Int)));have au:D≠b0+1:=K;have av:=eQ.out;rw[<-jW _ (Z (b0+1) 0 V) (Y nO (ae.a.toNat:Int)) D (by simpa using au)]at av;rw[<-jW _ (Z (b0+1) 1 V) (Y nO (ae.b.toNat:Int)) D (by simpa using au)]at av;rw[<-jW _ (Z (b0+1) 2 V) (Y nO (ae.c.toNat:Int)) D (by simpa using au)]at av;rw[<-jW _ (Z (b0+1) 3 V) (Y nO (ae.d.toNat:Int)) D (by simpa using au)]at av;rw[<-jW _ (Z (b0+1) 4 V) (Y nO (ae.e.toNat:Int)) D (by simpa using au)]at av;rw[<-jW _ (Z (b0+1) 5 V) (Y nO (ae.f.toNat:Int)) D (by simpa using au)]at av;rw[<-jW _ (Z (b0+1) 6 V) (Y nO (ae.g.toNat:Int)) D (by simpa using au)]at av;rw[<-jW _ (Z (b0+1) 7 V) (Y nO (ae.h.toNat:Int)) D (by simpa using au)]at av;simp only[jH,jQ,jR]at hF;revert hF bz av;generalize ((((((((wr.setCell (Z (b0+1) 0 V) (Y nO (ae.a.toNat:Int))).setCell (Z (b0+1) 1 V) (Y nO (ae.b.toNat:Int))).setCell (Z (b0+1) 2 V) (Y nO (ae.c.toNat:Int))).setCell (Z (b0+1) 3 V) (Y nO (ae.d.toNat:Int))).setCell (Z (b0+1) 4 V) (Y nO (ae.e.toNat:Int))).setCell (Z (b0+1) 5 V) (Y nO (ae.f.toNat:Int))).setCell (Z (b0+1) 6 V) (Y nO (ae.g.toNat:Int))).setCell (Z (b0+1) 7 V) (Y nO (ae.h.toNat:Int)))=wf;intro bz av hF;have hF:nU wf (b0+1) ae.cs 31:=hF;refine⟨nX,.inl ⟨_,_,rfl,run_takeDeferred av,?_⟩⟩;have hG:nU (wf.putObj D (.deferred V)) (b0+1) ae.cs 31:=(World.putObj_heap_other K).trans hF;have cz:jD b0 w (wf.putObj D (.deferred V)):=bz.grown (grownBy_putObj' wf D _) (by have:=hF.lt;omega) (λk hk=>by cases hk;omega);generalize wf.putObj D (.deferred V)=aN at hG cz|-;have fE:aN.cell? (Z (b0+1) 0 V)=U (Y nO (ae.a.toNat:Int)):=hG.cell 0;have fF:aN.cell? (Z (b0+1) 1 V)=U (Y nO (ae.b.toNat:Int)):=hG.cell 1;have fG:aN.cell? (Z (b0+1) 2 V)=U (Y nO (ae.c.toNat:Int)):=hG.cell 2;have fH:aN.cell? (Z (b0+1) 3 V)=U (Y nO (ae.d.toNat:Int)):=hG.cell 3;have fI:aN.cell? (Z (b0+1) 4 V)=U (Y nO (ae.e.toNat:Int)):=hG.cell 4;have fJ:aN.cell? (Z (b0+1) 5 V)=U (Y nO (ae.f.toNat:Int)):=hG.cell 5;have fK:aN.cell? (Z (b0+1) 6 V)=U (Y nO (ae.g.toNat:Int)):=hG.cell 6;have fM:aN.cell? (Z (b0+1) 7 V)=U (Y nO (ae.h.toNat:Int)):=hG.cell 7;refine⟨nI ae.cs,?_,?_⟩
    .unfold S8.cs
     simp[kF,Tryz.results254,go_sem,fE,fF,fG,fH,fI,fJ,fK,fM]
    .rw[dB.out]
     exact⟨by rw[eX.out],cz⟩
def Le:qj jy 86 5 9:=⟨lq,Tryz.underlying5,lU,nV⟩
def a5Y(w:M)(b:Nat)(A:S8):M:=
 (((((((w.setCell (Z b 0 V) (Y nO (A.a.toNat:Int))).setCell (Z b 1 V) (Y nO (A.b.toNat:Int))).setCell (Z b 2 V) (Y nO (A.c.toNat:Int))).setCell (Z b 3 V) (Y nO (A.d.toNat:Int))).setCell (Z b 4 V) (Y nO (A.e.toNat:Int))).setCell (Z b 5 V) (Y nO (A.f.toNat:Int))).setCell (Z b 6 V) (Y nO (A.g.toNat:Int))).setCell (Z b 7 V) (Y nO (A.h.toNat:Int))
def O5{w:M}{b:Nat}{ab:S8}(h:nU w b ab.cs t)(A:S8):nU (a5Y w b A) b A.cs t:=by
 unfold S8.cs at*;unfold a5Y;have:=(((((((h.set 0 (Y nO (A.a.toNat:Int))).set 1 (Y nO (A.b.toNat:Int))).set 2 (Y nO (A.c.toNat:Int))).set 3 (Y nO (A.d.toNat:Int))).set 4 (Y nO (A.e.toNat:Int))).set 5 (Y nO (A.f.toNat:Int))).set 6 (Y nO (A.g.toNat:Int))).set 7 (Y nO (A.h.toNat:Int));simp only[jH,jQ,jR]at this;exact this
def IU{B b:Nat}{w0 w:M}(h:jD B w0 w)(hb:B<=b)(A:S8):jD B w0 (a5Y w b A):=
 (((((((h.setCell hb _).setCell hb _).setCell hb _).setCell hb _).setCell hb _).setCell hb _).setCell hb _).setCell hb _
def nU.eight{w:M}{b:Nat}{A:S8}(h:nU w b A.cs t):
  w.cell? (Z b 0 V)=U (Y nO (A.a.toNat:Int))/\w.cell? (Z b 1 V)=U (Y nO (A.b.toNat:Int))/\w.cell? (Z b 2 V)=U (Y nO (A.c.toNat:Int))/\w.cell? (Z b 3 V)=U (Y nO (A.d.toNat:Int))/\
  w.cell? (Z b 4 V)=U (Y nO (A.e.toNat:Int))/\w.cell? (Z b 5 V)=U (Y nO (A.f.toNat:Int))/\w.cell? (Z b 6 V)=U (Y nO (A.g.toNat:Int))/\w.cell? (Z b 7 V)=U (Y nO (A.h.toNat:Int)):=
 ⟨h.cell 0,h.cell 1,h.cell 2,h.cell 3,h.cell 4,h.cell 5,h.cell 6,h.cell 7⟩
def Wq(w:M):jG jy 253 #[] w λe w'=>e=nK (nI yS.cs)/\jD w.heap.size w w':=by
 have hB:=H ((jE w.heap.size w).alloc (jB _) (nL yS.cs 31));have hb:=(nU.new w yS.cs 31).eight;have A:=H hb;clear hb;go_in;go_wp2_with fail;change bodyPost _ _ _ _ _ (w.alloc (nL yS.cs 31));have q:=A.out;clear A;generalize w.alloc (nL yS.cs 31)=w1 at*;exact jO (v:=nI yS.cs) (by simp[kF,Tryz.results253,go_sem,q];rfl) rfl ⟨rfl,hB.out⟩
def a2T:∃i,Tryz.prog.info? 5=U i/\i.zero=U (Y .u8 0)/\i.size=1/\i.bytes=1:=by
 obtain⟨I,hi,A,C,E⟩:=info_parts Le.hi;exact⟨I,hi,A,C,E⟩
def O6(m c:Nat)(L C:Int)(hL:L=m)(A:C=c)(J:m<=c)(hc:c<=1000)(w:M):(Instr.makeSlice 86 (Y X L) (Y X C)).run jy w=
  .ok (u (U (Z w.heap.size 0 V)) m c) (w.alloc (nL (madeCells #[Y .u8 0] c) 5)):=by
 subst hL A;obtain⟨i,hi,E,hs,hb⟩:=a2T;have I:=run_make (P:=jy) w 86 5 i (Y .u8 0) Le.ht hi E X X (m:Int) (c:Int) K K (by rw[hb];omega) K;simpa [hs,Value.cells]using I
def Gq(n:Nat):(Fb n).length=9+(64 -(n+9) % 64) % 64:=by
 unfold Fb;simp;omega
def wW(n i:Nat):List Ax:=(ll i).map λj=>jU (n*8/256^(7 - j) % 256)
def tL(n i:Nat)(l:List Ax):l++wW n (i+1)=(l++wW n i)++[jU (n*8/256^(7 - i) % 256)]:=by
 unfold wW;rw[List.range_succ,List.map_append,kX];rfl
def AZ(k:Nat):List Ax:=128::ky k 0
def a2U(n:Nat):Fb n=AZ ((64 -(n+9) % 64) % 64)++wW n 8:=rfl
def a2V(n:Nat)(w:M)(hn:n<=1099511627776):
  jG jy 255 #[Y X n] w λe w'=>e=nK (nJ #[G ⟨(Fb n).toArray⟩,Y X 0])/\jD w.heap.size w w':=by
 have h0:At ((n:Int)<0)=O:=nX;have ay:At (1099511627776<(n:Int))=O:=nY;have hp:=H (a2U n);generalize Fb n=az at*;obtain⟨k,hk⟩:∃k,k=(64 -(n+9) % 64) % 64:=⟨_,rfl⟩;rw[<-hk]at hp;have au:k<64:=K;have av:=O6 (k+1) (k+9) (1+ -(((n:Int)+9) % 64) % 64) (1+ -(((n:Int)+9) % 64) % 64+8) K K K K w;have aA:=H hn;clear hk;obtain⟨B,hB⟩:=og w.heap.size;have af:=H hB;clear hB;go_in;go_upto_region 5 with fail;have hB:=af.out;rw[hB];refine uj (λW=>W.ownsRow B 5 1 (u (U (Z B 0 V)) (k+1) (k+9)) (k+1) (oh (ky (k+1) 0))/\jD B w W) ?_ ?_
 .have ah:=lZ hB.symm
  refine⟨⟨nX,.inr ⟨B,k+9,madeCells #[Y .u8 0] (k+9),rfl,jB _,?_,K,xe,by rw[size_madeCells,Nat.mul_one],?_⟩⟩,(jE _ _).alloc ah _⟩;.rw[<-hB];exact World.alloc_heap_new w _
  .rw[toList_madeCells_one]
   simp[oh,List.take_replicate,List.map_replicate]
 rintro W ⟨C,E⟩;have ai:W.cell? (Z B 0 V)=U (Y .u8 0):=by rw[C.cellAt 0 K];simp[oh,List.replicate_succ]
 have aj:=C.frozenAt 0;have aa:=(C.stored 0 (Y .u8 128)).1;have ae:=E.setCell (p:=(Z B 0 V)) (jB _) (Y .u8 128);clear av E hB;have ag:=H (jF aa ae);clear aa ae C;go_upto_region 6 with fail;refine uj (λW=>oI W B 5 (u (U (Z B 0 V)) (k+1) (k+9)) (AZ k++wW n 0)/\jD B w W) ⟨?_,ag.2⟩ ?_
 .have:=ag.1
  unfold oI;have e:AZ k++wW n 0=AZ k:=by unfold wW;simp
  rw[e];have e2:(AZ k).length=k+1:=by unfold AZ;simp
  rw[e2];have e3:oh (AZ k)=(oh (ky (k+1) 0)).set 0 (Y .u8 128):=by unfold AZ oh;simp[List.replicate_succ]
  rw[e3];exact this
 clear ag ai aj W;rintro W ⟨C,E⟩;have ax:(AZ k).length=k+1:=by unfold AZ;simp
 generalize AZ k=hd at*;generalize (1+ -(((n:Int)+9) % 64) % 64+8)=aB;generalize (1+ -(((n:Int)+9) % 64) % 64)=aC;generalize (64 -((n:Int)+9) % 64) % 64=z3;generalize 64 -((n:Int)+9) % 64=z4;generalize ((n:Int)+9) % 64=z5;generalize (n:Int)+9=aD;go_wp2_with fail;go_loopw [5,26] (λv i wr=>∃j:Nat,j<=8/\i=Y X j/\oI wr B 5 v (hd++wW n j)/\jD B w wr) (λ_ i _=>8 -(kC i).toNat);case atStart=>exact⟨0,K,rfl,C,E⟩
 case round=>
  obtain⟨j,aF,rfl,C,E⟩:=hrel;have N:B<=wr.heap.size:=by have:=E.size;have:=af.out;omega
  have ak:j=0\/j=1\/j=2\/j=3\/j=4\/j=5\/j=6\/j=7\/j=8:=K;rcases ak with rfl|rfl|rfl|rfl|rfl|rfl|rfl|rfl|rfl
  .go_wp2_with (at_builtin;refine o7 Le rfl (.tmp 29) (.tmp 38) rfl B _ _ [jU (n*8/256^7 % 256)] 1 rfl wr _ (yZ (n:=n*8/256^7 % 256) K (Nat.mod_lt _ nT)) rfl C rfl (by simp[wW];omega) N ?_;intro v' w' A I J)
   go_roundw;case rel=>exact⟨1,K,by go_num,by rw[tL];exact A,E.trans I⟩
   case measure=>simp[kC]
  .go_wp2_with (at_builtin;refine o7 Le rfl (.tmp 29) (.tmp 38) rfl B _ _ [jU (n*8/256^6 % 256)] 1 rfl wr _ (yZ (n:=n*8/256^6 % 256) K (Nat.mod_lt _ nT)) rfl C rfl (by simp[wW];omega) N ?_;intro v' w' A I J)
   go_roundw;case rel=>exact⟨2,K,by go_num,by rw[tL];exact A,E.trans I⟩
   case measure=>simp[kC]
  .go_wp2_with (at_builtin;refine o7 Le rfl (.tmp 29) (.tmp 38) rfl B _ _ [jU (n*8/256^5 % 256)] 1 rfl wr _ (yZ (n:=n*8/256^5 % 256) K (Nat.mod_lt _ nT)) rfl C rfl (by simp[wW];omega) N ?_;intro v' w' A I J)
   go_roundw;case rel=>exact⟨3,K,by go_num,by rw[tL];exact A,E.trans I⟩
   case measure=>simp[kC]
  .go_wp2_with (at_builtin;refine o7 Le rfl (.tmp 29) (.tmp 38) rfl B _ _ [jU (n*8/256^4 % 256)] 1 rfl wr _ (yZ (n:=n*8/256^4 % 256) K (Nat.mod_lt _ nT)) rfl C rfl (by simp[wW];omega) N ?_;intro v' w' A I J)
   go_roundw;case rel=>exact⟨4,K,by go_num,by rw[tL];exact A,E.trans I⟩
   case measure=>simp[kC]
  .go_wp2_with (at_builtin;refine o7 Le rfl (.tmp 29) (.tmp 38) rfl B _ _ [jU (n*8/256^3 % 256)] 1 rfl wr _ (yZ (n:=n*8/256^3 % 256) K (Nat.mod_lt _ nT)) rfl C rfl (by simp[wW];omega) N ?_;intro v' w' A I J)
   go_roundw;case rel=>exact⟨5,K,by go_num,by rw[tL];exact A,E.trans I⟩
   case measure=>simp[kC]
  .go_wp2_with (at_builtin;refine o7 Le rfl (.tmp 29) (.tmp 38) rfl B _ _ [jU (n*8/256^2 % 256)] 1 rfl wr _ (yZ (n:=n*8/256^2 % 256) K (Nat.mod_lt _ nT)) rfl C rfl (by simp[wW];omega) N ?_;intro v' w' A I J)
   go_roundw;case rel=>exact⟨6,K,by go_num,by rw[tL];exact A,E.trans I⟩
   case measure=>simp[kC]
  .go_wp2_with (at_builtin;refine o7 Le rfl (.tmp 29) (.tmp 38) rfl B _ _ [jU (n*8/256^1 % 256)] 1 rfl wr _ (yZ (n:=n*8/256^1 % 256) K (Nat.mod_lt _ nT)) rfl C rfl (by simp[wW];omega) N ?_;intro v' w' A I J)
   go_roundw;case rel=>exact⟨7,K,by go_num,by rw[tL];exact A,E.trans I⟩
   case measure=>simp[kC]
  .go_wp2_with (at_builtin;refine o7 Le rfl (.tmp 29) (.tmp 38) rfl B _ _ [jU (n*8/256^0 % 256)] 1 rfl wr _ (yZ (n:=n*8/256^0 % 256) K (Nat.mod_lt _ nT)) rfl C rfl (by simp[wW];omega) N ?_;intro v' w' A I J)
   go_roundw;case rel=>exact⟨8,K,by go_num,by rw[tL];exact A,E.trans I⟩
   case measure=>simp[kC]
  .have aa:=C.string Le
   go_wp2;go_returns;refine⟨by rw[hp.out];rfl,by rw[af.out];exact E⟩
def wN(A:S8->List Ax->S8)(L:List Ax)(p:Nat)(s r:S8):Prop:=∃k,Fe A (L.drop p) k s=r/\p+64*k=L.length
def wN.step{A:S8->List Ax->S8}{p:Nat}{s r:S8}(h:wN A L p s r)(hp:p+64<=L.length):wN A L (p+64) (A s ((L.drop p).take 64)) r:=by
 obtain⟨k,hk,hl⟩:=h;obtain⟨j,rfl⟩:∃j,k=j+1:=⟨k - 1,K⟩;rw[OV,List.drop_drop]at hk;exact⟨j,hk,K⟩
def wN.drop{A:S8->List Ax->S8}{p:Nat}{s r:S8}(h:wN A L p s r):wN A (L.drop p) 0 s r:=by
 obtain⟨k,hk,hl⟩:=h;exact⟨k,hk,by rw[kG];omega⟩
def Aj(L:List Ax)(p:Nat)(s r:S8):Prop:=wN OU L p s r
def wN.start(A:S8->List Ax->S8)(L:List Ax)(s:S8)(h:L.length % 64=0):wN A L 0 s (Fe A L (L.length/64) s):=⟨L.length/64,rfl,K⟩
def Aj.start(L:List Ax)(s:S8)(h:L.length % 64=0):Aj L 0 s (Rn L (L.length/64) s):=wN.start OU L s h
def Aj.step{p:Nat}{s r:S8}(h:Aj L p s r)(hp:p+64<=L.length):Aj L (p+64) (OU s ((L.drop p).take 64)) r:=wN.step h hp
def Aj.drop{p:Nat}{s r:S8}(h:Aj L p s r):Aj (L.drop p) 0 s r:=wN.drop h
def MU{l m:List Ax}{p:Nat}(h:p+64<=l.length):((l++m).drop p).take 64=(l.drop p).take 64:=by
 rw[List.drop_append_of_le_length K,List.take_append_of_le_length (by rw[kG];omega)]
def ext_list(s:An)(p:Nat):(s.extract p (p+64)).data.toList=(s.data.toList.drop p).take 64:=by
 rw[mF];congr 1;omega
def Fp(r:S8):Nat->List Ax
 |0=>[]
 |k+1=>Fp r k++vR (r.get k)
def YV(r:S8):r.out=Fp r 8:=by simp[Fp,S8.out,S8.get]
def uR(x:UInt32):[lC .u8 ((x.toNat:Int)/16777216 % 256),Y .u8 ((x.toNat:Int)/65536 % 256),Y .u8 ((x.toNat:Int)/256 % 256),Y .u8 ((x.toNat:Int) % 256)]=oh (vR x):=by
 unfold oh vR;have e:∀m:Nat,((jU (m % 256)).toNat:Int)=(m:Int) % 256:=λm=>by rw[AL _ (Nat.mod_lt _ nT)];omega
 simp only[mf,ng,e,Int.natCast_ediv];rfl
def a2W(s:An)(w:M)(hs:s.size<=100000):
  jG jy 218 #[G s] w λe w'=>e=nK (G ⟨(We s.data.toList).toArray⟩)/\jD w.heap.size w w':=by
 obtain⟨B,hB⟩:=og w.heap.size;have bG:=H hB;rw[hB];clear hB;obtain⟨l,hl⟩:∃l,l=s.data.toList:=⟨_,rfl⟩;have aL:l.length=s.size:=by rw[hl];rfl
 obtain⟨r,aV⟩:∃r,r=Rn (l++Fb l.length) ((l++Fb l.length).length/64) yS:=⟨_,rfl⟩;have aC:We s.data.toList=r.out:=by rw[aV,hl];rfl
 rw[aC];have aD:Aj (l++Fb l.length) 0 yS r:=by
  rw[aV];refine Aj.start _ _ ?_;rw[jK,Gq];omega
 have aZ:=H aD;have bg:=H hl;have az:=H aL;clear aC aV aD hl aL;obtain⟨q,bH⟩:∃q,q=s.size/64:=⟨_,rfl⟩;have bq:jI (((s.size:Int) -(s.size:Int) % 64)=((64*q:Nat):Int)):=by unfold jI;omega
 have aM:64*q<=s.size/\s.size<64*q+64:=K;clear bH;have aF:=H aM;clear aM;have c1:=H (λw=>Wq w);generalize yS=aW at*;go_in;go_wp2_with fail;refine(c1 _).mono ?_;rintro e w1 ⟨rfl,aG⟩;unfold S8.cs;go_upto_region 3 with fail;rw[bq.out];have aN:=bG.out;obtain⟨b3,aA⟩:=og w1.heap.size;have aO:B<=b3:=by have:=aG.size;omega
 refine uj (λW=>nU W b3 aW.cs 31/\jD B w W) ⟨aA▸nU.new w1 aW.cs _,(aN▸aG).alloc K _⟩ ?_;rw[aA];clear aG aA aN w1;rintro W ⟨A,E⟩;go_wp2_with fail;go_loopw [5] (λi wr=>∃(p:Nat) (g:S8),i=Y X p/\jI (p<=64*q/\p % 64=0)/\jI (Aj (l++Fb l.length) p g r)/\nU wr b3 g.cs 31/\jD B w wr) (λi _=>64*q -(kC i).toNat);case atStart=>exact⟨0,aW,rfl,⟨K,K⟩,aZ,A,E⟩
 case round=>
  obtain⟨p,g,rfl,hp,ag,A,E⟩:=hrel;by_cases hlt:p<64*q
  .have bI:p+64<=s.size:=by have bN:=hp.out;have bO:=aF.out;omega
   have ah:=λ(x:sW wr)=>(Below.blk x.is A A.lt).eight
   go_upto_region 6 with fail;refine wF 7 nV nV ?_;simp only[jY,kJ,mP,mM];have hsz:(s.extract p (p+64)).size=64:=by rw[jP];omega
   have av:=H (λw=>Uu g (s.extract p (p+64)) w hsz);have J:=ag.step (by rw[jK,az.out];omega);have aP:((l++Fb l.length).drop p).take 64=(s.extract p (p+64)).data.toList:=by rw[MU (by rw[az.out];omega),ext_list,bg.out]
   rw[aP]at J;clear aP;generalize OU g (s.extract p (p+64)).data.toList=ay at av J;have aX:=H J;clear J;clear hsz;unfold S8.cs at av;repeat(go_big_quiet_step ((exact Calls.after (av _))))
   refine l7 ?_;intro x;have aa:=Below.blk x.is A A.lt;have ai:=E.trans (x.is.mono (by have:=A.lt;omega));have aH:=aa.eight;have fr:=aa.free;have aI:=H ai;have aJ:=H aa;clear aa ai ah A E av;obtain⟨bJ,bu⟩:=x;simp only at*;go_wp2_with fail;have bz:=hp.out;exact⟨⟨p+64,ay,by go_num,⟨K,K⟩,aX,O5 aJ ay,IU aI aO ay⟩,by simp[kC];omega⟩
  .obtain rfl:p=64*q:=by have:=hp.out;omega
   have cp:=H (λw=>a2V s.size w K);have bA:=Gq s.size;have aj:=ag.drop;rw[List.drop_append_of_le_length (by rw[az.out];exact aF.1)]at aj;rw[az.out]at aj;generalize Fb s.size=au at*;have aQ:(s.extract (64*q) s.size++⟨au.toArray⟩).data.toList=l.drop (64*q)++au:=by
    rw[bg.out];simp only[ByteArray.data_append,Array.toList_append,mF];rw[kS (by rw[kG,<-l9];omega)]
   rw[<-aQ]at aj;have aR:(s.extract (64*q) s.size++⟨au.toArray⟩).size=s.size - 64*q+au.length:=by
    have:=size_mk au;have:=aF.out;rw[ByteArray.size_append,jP];omega
   have bB:(⟨au.toArray⟩:An).size<=72:=by rw[size_mk];omega
   have aB:(s.extract (64*q) s.size++⟨au.toArray⟩).size<=200:=by have:=aF.out;rw[aR];have:=size_mk au;omega
   have bC:=H aB;clear aB;have aS:=H aj;have bM:=aF.out;have bD:=A.lt;clear aj aQ aR bA;go_wp2_with fail;refine(cp _).mono ?_;rintro e w5 ⟨rfl,aK⟩;go_upto_region 9 with fail
   .rename_i aY
    have:=size_mk au;exact absurd aY K
   have ax:=E.trans (aK.mono K);have ak:=Below.blk aK A A.lt;clear cp aK A E bD bB;generalize s.extract (64*q) s.size++⟨au.toArray⟩=ar at*;have aB:=bC.out;refine uj (λW=>nU W b3 g.cs 31/\jD B w W) ⟨ak,ax⟩ ?_;clear ak ax w5;rintro w5 ⟨ak,ax⟩;go_wp2_with fail;go_loopw [9] (λi wr=>∃(p:Nat) (g:S8),i=Y X p/\jI (p<=ar.size)/\jI (Aj ar.data.toList p g r)/\nU wr b3 g.cs 31/\jD B w wr) (λi _=>ar.size -(kC i).toNat);case atStart=>exact⟨0,g,rfl,ko _,aS,ak,ax⟩
   case round=>
    clear ak ax aS ag hp hlt g;obtain⟨p,g,rfl,hp,ag,A,E⟩:=hrel;have bz:p<=200:=jM hp aB;by_cases hlt:p+64<=ar.size
    .have ah:=λ(x:sW wr)=>(Below.blk x.is A A.lt).eight
     go_upto_region 12 with fail;refine wF 7 nV nV ?_;simp only[jY,kJ,mP,mM];have hsz:(ar.extract p (p+64)).size=64:=by rw[jP];omega
     have av:=H (λw=>Uu g (ar.extract p (p+64)) w hsz);have J:=ag.step (by rw[<-l9];omega);rw[<-ext_list]at J;generalize OU g (ar.extract p (p+64)).data.toList=ay at av J;have aX:=H J;clear J hsz;unfold S8.cs at av;repeat(go_big_quiet_step ((exact Calls.after (av _))))
     refine l7 ?_;intro x;have aa:=Below.blk x.is A A.lt;have ai:=E.trans (x.is.mono (by have:=A.lt;omega));have aH:=aa.eight;have fr:=aa.free;have aI:=H ai;have aJ:=H aa;clear aa ai ah A E av;obtain⟨bJ,bu⟩:=x;simp only at*;go_wp2_with fail;exact⟨⟨p+64,ay,by go_num,hlt,aX,O5 aJ ay,IU aI aO ay⟩,by simp[kC];omega⟩
    .have bE:g=r:=by
      obtain⟨k,hk,hl⟩:=ag.out;rw[<-l9]at hl;obtain rfl:k=0:=K;exact hk
     clear ag;subst bE;have aH:=A.eight;have bK:=O6 0 32 0 32 rfl rfl nT nT wr;have bL:=A.lt;have aT:=H E;have aU:=H A;clear A E;go_upto_region 14 with fail;refine uj (λW=>oI W B 5 (u (U (Z wr.heap.size 0 V)) 0 32) (Fp g 0)/\jD B w W/\nU W b3 g.cs 31) ⟨oI.made wr B _ _ 32 K nT (by rw[size_madeCells]),aT.alloc K _,aU.alloc _⟩ ?_;clear bK aH aT aU;generalize wr.heap.size=bo at*;clear wr;rintro wr ⟨I,E,A⟩;have aH:=A.eight;have aA:=A.lt;clear A;go_wp2_with fail;clear aH;go_loopw [10,59] (λv i wr=>∃j:Nat,j<=8/\i=Y X j/\oI wr B 5 v (Fp g j)/\jD B w wr/\B<=wr.heap.size) (λ_ i _=>8 -(kC i).toNat);case atStart=>exact⟨0,K,rfl,I,E,K⟩
     case round=>
      clear I E;obtain⟨j,bP,rfl,I,E,af⟩:=hrel;have bF:j=0\/j=1\/j=2\/j=3\/j=4\/j=5\/j=6\/j=7\/j=8:=K;rcases bF with rfl|rfl|rfl|rfl|rfl|rfl|rfl|rfl|rfl
      .have ah:∀w',(kP 31 (nI #[Y nO (g.a.toNat:Int),Y nO (g.b.toNat:Int),Y nO (g.c.toNat:Int),Y nO (g.d.toNat:Int),Y nO (g.e.toNat:Int),Y nO (g.f.toNat:Int),Y nO (g.g.toNat:Int),Y nO (g.h.toNat:Int)]) (Y X 0)).run jy w'=.ok (Y nO (g.a.toNat:Int)) w':=λ_=>rfl
       go_wp2_with (at_builtin;refine o7 Le rfl (.tmp 62) (.tmp 74) rfl B _ _ (vR g.a) 4 rfl wr _ (uR g.a) rfl I rfl (by simp[Fp,vR]) af ?_;intro v' w' C N ae);go_roundw;case rel=>exact⟨1,K,by go_num,C,E.trans N,K⟩
       case measure=>simp[kC]
      .have ah:∀w',(kP 31 (nI #[Y nO (g.a.toNat:Int),Y nO (g.b.toNat:Int),Y nO (g.c.toNat:Int),Y nO (g.d.toNat:Int),Y nO (g.e.toNat:Int),Y nO (g.f.toNat:Int),Y nO (g.g.toNat:Int),Y nO (g.h.toNat:Int)]) (Y X 1)).run jy w'=.ok (Y nO (g.b.toNat:Int)) w':=λ_=>rfl
       go_wp2_with (at_builtin;refine o7 Le rfl (.tmp 62) (.tmp 74) rfl B _ _ (vR g.b) 4 rfl wr _ (uR g.b) rfl I rfl (by simp[Fp,vR]) af ?_;intro v' w' C N ae);go_roundw;case rel=>exact⟨2,K,by go_num,C,E.trans N,K⟩
       case measure=>simp[kC]
      .have ah:∀w',(kP 31 (nI #[Y nO (g.a.toNat:Int),Y nO (g.b.toNat:Int),Y nO (g.c.toNat:Int),Y nO (g.d.toNat:Int),Y nO (g.e.toNat:Int),Y nO (g.f.toNat:Int),Y nO (g.g.toNat:Int),Y nO (g.h.toNat:Int)]) (Y X 2)).run jy w'=.ok (Y nO (g.c.toNat:Int)) w':=λ_=>rfl
       go_wp2_with (at_builtin;refine o7 Le rfl (.tmp 62) (.tmp 74) rfl B _ _ (vR g.c) 4 rfl wr _ (uR g.c) rfl I rfl (by simp[Fp,vR]) af ?_;intro v' w' C N ae);go_roundw;case rel=>exact⟨3,K,by go_num,C,E.trans N,K⟩
       case measure=>simp[kC]
      .have ah:∀w',(kP 31 (nI #[Y nO (g.a.toNat:Int),Y nO (g.b.toNat:Int),Y nO (g.c.toNat:Int),Y nO (g.d.toNat:Int),Y nO (g.e.toNat:Int),Y nO (g.f.toNat:Int),Y nO (g.g.toNat:Int),Y nO (g.h.toNat:Int)]) (Y X 3)).run jy w'=.ok (Y nO (g.d.toNat:Int)) w':=λ_=>rfl
       go_wp2_with (at_builtin;refine o7 Le rfl (.tmp 62) (.tmp 74) rfl B _ _ (vR g.d) 4 rfl wr _ (uR g.d) rfl I rfl (by simp[Fp,vR]) af ?_;intro v' w' C N ae);go_roundw;case rel=>exact⟨4,K,by go_num,C,E.trans N,K⟩
       case measure=>simp[kC]
      .have ah:∀w',(kP 31 (nI #[Y nO (g.a.toNat:Int),Y nO (g.b.toNat:Int),Y nO (g.c.toNat:Int),Y nO (g.d.toNat:Int),Y nO (g.e.toNat:Int),Y nO (g.f.toNat:Int),Y nO (g.g.toNat:Int),Y nO (g.h.toNat:Int)]) (Y X 4)).run jy w'=.ok (Y nO (g.e.toNat:Int)) w':=λ_=>rfl
       go_wp2_with (at_builtin;refine o7 Le rfl (.tmp 62) (.tmp 74) rfl B _ _ (vR g.e) 4 rfl wr _ (uR g.e) rfl I rfl (by simp[Fp,vR]) af ?_;intro v' w' C N ae);go_roundw;case rel=>exact⟨5,K,by go_num,C,E.trans N,K⟩
       case measure=>simp[kC]
      .have ah:∀w',(kP 31 (nI #[Y nO (g.a.toNat:Int),Y nO (g.b.toNat:Int),Y nO (g.c.toNat:Int),Y nO (g.d.toNat:Int),Y nO (g.e.toNat:Int),Y nO (g.f.toNat:Int),Y nO (g.g.toNat:Int),Y nO (g.h.toNat:Int)]) (Y X 5)).run jy w'=.ok (Y nO (g.f.toNat:Int)) w':=λ_=>rfl
       go_wp2_with (at_builtin;refine o7 Le rfl (.tmp 62) (.tmp 74) rfl B _ _ (vR g.f) 4 rfl wr _ (uR g.f) rfl I rfl (by simp[Fp,vR]) af ?_;intro v' w' C N ae);go_roundw;case rel=>exact⟨6,K,by go_num,C,E.trans N,K⟩
       case measure=>simp[kC]
      .have ah:∀w',(kP 31 (nI #[Y nO (g.a.toNat:Int),Y nO (g.b.toNat:Int),Y nO (g.c.toNat:Int),Y nO (g.d.toNat:Int),Y nO (g.e.toNat:Int),Y nO (g.f.toNat:Int),Y nO (g.g.toNat:Int),Y nO (g.h.toNat:Int)]) (Y X 6)).run jy w'=.ok (Y nO (g.g.toNat:Int)) w':=λ_=>rfl
       go_wp2_with (at_builtin;refine o7 Le rfl (.tmp 62) (.tmp 74) rfl B _ _ (vR g.g) 4 rfl wr _ (uR g.g) rfl I rfl (by simp[Fp,vR]) af ?_;intro v' w' C N ae);go_roundw;case rel=>exact⟨7,K,by go_num,C,E.trans N,K⟩
       case measure=>simp[kC]
      .have ah:∀w',(kP 31 (nI #[Y nO (g.a.toNat:Int),Y nO (g.b.toNat:Int),Y nO (g.c.toNat:Int),Y nO (g.d.toNat:Int),Y nO (g.e.toNat:Int),Y nO (g.f.toNat:Int),Y nO (g.g.toNat:Int),Y nO (g.h.toNat:Int)]) (Y X 7)).run jy w'=.ok (Y nO (g.h.toNat:Int)) w':=λ_=>rfl
       go_wp2_with (at_builtin;refine o7 Le rfl (.tmp 62) (.tmp 74) rfl B _ _ (vR g.h) 4 rfl wr _ (uR g.h) rfl I rfl (by simp[Fp,vR]) af ?_;intro v' w' C N ae);go_roundw;case rel=>exact⟨8,K,by go_num,C,E.trans N,K⟩
       case measure=>simp[kC]
      .have A:=I.string Le
       go_wp2;go_returns;exact⟨by rw[YV];rfl,E⟩
end
end Go.Proofs.YtamfcjmhnndbdaaGreatDoor


