/- Part 2 of the proof. -/
import Derived.Test.YtamfcjmhnndbdaaGreatDoorZb01
import Derived.RangeFuncNested
import Derived.RangeFuncBound
import Derived.OwnWalkIn
import Derived.TacticsInMore
import Derived.LoopNIn
import Derived.Sort.CutIn
import Derived.Deep.RegionHeld3
import Derived.Laws.EntriesVeiled
import Derived.WalkLawsBesides
open Go.Value renaming agg→mI,bool→mH,int→V,pointer→mG,slice→G,string→H,tuple→mJ,int→lL
open Go.Obj renaming cells→mM
open Go.IntKind renaming i64→X,u32→mQ,u64→mP,u32→kF
open Go.Ending renaming returned→mK,returned→jS
open Go.Lib renaming hid→Y,trimRightB→jW
open Go.Proofs.Tryz renaming prog→iN
open Go renaming World→K,Value→iQ,Calls→iW,maxLen→jd,TypeId→jl,results→jv,undef→jw,Addr→j4,Program→j6,Oper→kC,Ending→kV,Act→lY,wpList→mq
open Go.RowKit renaming Below→iR,Hid→R,intOf→jF
open And renaming intro→iU
open List renaming replicate→jC,range→kG
open Go.World renaming setCell→jr
open Array renaming replicate→ku
open UInt8 renaming ofNat→jH
open Go.Instr renaming index→jX
open Go.Code renaming region→jZ
open Go.Region renaming ready→kI,Mode→kW,binds→lD,wanted→lG
open Go.AllReadyH renaming cons→kL,nil→kT
open Go.Sem renaming run→lJ
open Go.Lit renaming int→lN
open Go.Act renaming put→l7
open Option renaming none→U,some→O
open Bool renaming true→u,false→M
open Go.Addr renaming mk→Z
open Decidable renaming decide→As
namespace Go.Proofs.YtamfcjmhnndbdaaGreatDoor
set_option linter.unusedVariables false
set_option linter.defProp false
set_option linter.unusedSimpArgs false
set_option maxRecDepth 100000
set_option maxHeartbeats 8000000
variable{A:Array Bool}{B E b b0 fuel g k n:Nat}{L:List AC}{P:j6}{Q:Exit->lY->K->Prop}{T t:jl}{W w w' w0:K}{a:lY}{aq:lY->K->Prop}{bs:Nat->Nat}{c:Code}{er most:Int}{l:List (Nat×Nat)}{md:kW}{o:kC}{ops:Array kC}{p:Prop}{x:Nat->Int}{z:iQ}
variable {r:RS}
section
open Go.RowKit
def bt:pE iN 86 5 9:=⟨kQ,Tryz.underlying5,l8,mZ⟩
def a5B(w:K):(Instr.makeSlice 86 (V X 0) (V X 10)).run iN w=
  .ok (G (O (Z w.heap.size 0 U)) 0 10) (w.alloc (mM (ku 10 (V .u8 0)) 5)):=mZ
def Mf(n:Nat)(w:K)(hn:n<18446744073709551616):
  iW iN 143 #[V mP n] w λe w'=>e=mK (H ⟨(oz n).toArray⟩)/\iR w.heap.size w w':=by
 have ax:=a5B;have⟨B,hB⟩:∃B,B=w.heap.size:=⟨_,rfl⟩;have aa:B<=w.heap.size:=I;rw[<-hB];have ai:=zY.start n hn;generalize oz n=t at*;go_in;go_wp2;go_loopw [0,3] (λaf v wr=>∃(m:Nat) (l:List AC),af=V mP m/\nS wr B 5 v l/\iR B w wr/\zY t l m/\m<18446744073709551616) (λaf _ _=>(jF af).toNat);case atStart=>exact⟨n,[],rfl,nS.made w B _ _ 10 aa mX rfl,(iT _ _).alloc aa _,ai,hn⟩
 case round=>
  obtain⟨m,l,rfl,C,E,J,aj⟩:=hrel;have ae:B<=wr.heap.size:=by have:=E.size;omega
  have au:=J.le;by_cases c:128<=m
  .have ah:=J.step c
   go_wp2_with (at_builtin;refine ow bt rfl (.tmp 7) (.tmp 11) rfl B _ l [jH (m % 128+128)] 1 rfl wr _ (EB (n:=m % 128+128) (a8c m) I) rfl C rfl I ae ?_;intro v' w' A N ag);go_roundw;case rel=>exact⟨m/128,_,by go_num,A,E.trans N,ah,I⟩
   case measure=>simp[jF];omega
  .have ak:m<128:=I
   have hd:=Y (J.done ak);go_wp2_with (at_builtin;refine ow bt rfl (.tmp 15) (.tmp 18) rfl B _ l [jH m] 1 rfl wr _ (EB (n:=m) I I) rfl C rfl I ae ?_;intro v' w' A N ag;have av:=A.string bt);go_returns;exact⟨by rw[<-hd.out];rfl,E.trans N⟩
def Ug:∀ k n:Nat,n<128^k->n<18446744073709551616->(oz n).length=max 1 ((Lib.bitLen n+6)/7)
 |k,n,hk,h=>by
  by_cases c:n<128
  .rw[qW n c]
   have:=Lib.bitLen_le n 7 I c;simp;omega
  .match k,hk with
   |0,hk=>simp at hk;omega
   |k+1,hk=>
   rw[wU n I,jD,Ug k (n/128) (by rw[kD]at hk;omega) I];rw[Lib.bitLen_shift 7 n I h];have:n/2^7=n/128:=rfl;rw[this];have A:1<=Lib.bitLen (n/128):=by
    rw[Lib.bitLen_half (n/128) I I];omega
   omega
def YV(n:Nat)(w:K)(hn:n<18446744073709551616):
  iW iN 142 #[V mP n] w λe w'=>e=mK (V X (oz n).length)/\w=w':=by
 have hl:=Y (Ug 10 n (jy hn mX) hn);have hb:=Lib.bitLen_le n 64 I hn;have hc:=λw=>Tryz.bits_Len64 n w I I
 rw[cF]at hc;generalize Lib.bitLen n=m at*;have A:=Y hc;go_in;go_wp2_with fail;refine vE (A _) ?_;go_wp2_with fail
 all_goals
  go_returns;exact⟨by rw[hl.out];exact congrArg jS (congrArg (lL X) I),rfl⟩
def Uh(h:p:=by
 clear c c2;go_wp2;go_round;case rel=>exact⟨k+1,_,p*128,I,I,by go_num,by rw[hor.out],by go_num,hp',hs'⟩
 case measure=>simp[jF];omega):p:=h
def wM(s:An)(w:K)(hs:s.size<=jd):
  iW iN 75 #[H s] w λe w'=>e=mK (LU (nD s.data.toList 0 0))/\w=w':=by
 unfold jd at hs;have N:=xn.start s;generalize nD s.data.toList 0 0=t at*;go_in;go_wp2
 .go_loop [5,6,7] (λA C i=>∃k n p:Nat,k<=s.size/\k<=9/\i=V X k/\A=V mP n/\C=V mP p/\R (p=128^k)/\xn s t k n) (λ_ _ i=>10 -(jF i).toNat)
  case atStart=>exact⟨0,0,1,I,I,rfl,rfl,rfl,rfl,N⟩
  case round=>
   obtain⟨k,n,p,hk,E,rfl,rfl,rfl,hp,hv⟩:=hrel;by_cases hlt:k<s.size
   .have hb:s[k].toNat<=255:=by have:=s[k].toNat_lt;omega
    by_cases c:k=9/\1<s[k].toNat\/0<k/\s[k].toNat=0;.exact YI
    .have hor:=Y (a2v k n s[k].toNat p E hv.1 I I hp)
     by_cases c2:s[k].toNat<128;.exact YH
     .have c4:128<=s[k].toNat:=I
      have hs':=hv.step hlt c c4;have c1:((k:Int)==9)=M:=qJ;have J:k<=8:=I;have aa:p<=72057594037927936:=by rw[hp.out];exact TY k J
      have hp':R (p*128=128^(k+1)):=by unfold R;rw[hp.out,kD]
      by_cases d2:0<k
      .have c3:((s[k].toNat:Int)==0)=M:=qJ
       exact Uh
      .exact Uh
   .go_wp2
    go_returns;exact⟨by rw[hv.short I];rfl,rfl⟩
def xx(m:Int)(s:An)(w:K)(C:-9223372036854775808<=m/\m<=9223372036854775807)(hs:s.size<=jd):
  iW iN 92 #[V X m,H s] w λe w'=>e=mK (mJ #[V X (og m s.data.toList).1,V X (og m s.data.toList).2.1,V X (og m s.data.toList).2.2])/\w=w':=by
 have c1:=λw=>CV s w hs
 have hp:og m s.data.toList=if(nD s.data.toList 0 0).2.2=0 then if m<0\/m<((nD s.data.toList 0 0).1:Int)then(0,0,5)else nD s.data.toList 0 0 else(0,0,(nD s.data.toList 0 0).2.2):=rfl
 have hlt:=λN aq h=>(rD (l:=s.data.toList) (N:=N) (aq:=aq) h).2.1
 obtain⟨aa,ae⟩:=C;unfold jd at hs;generalize og m s.data.toList=r at*;generalize nD s.data.toList 0 0=t at*;obtain⟨n,k,e⟩:=t;have A:R (∀w,iW iN 126 #[H s] w λE w'=>E=mK (mJ #[V mP n,V X k,V X e])/\w=w'):=c1;by_cases he:e=0
 .subst he
  have hn:=hlt n k rfl;rw[Ax rfl]at hp;by_cases J:m<0
  .rw[Ax (.inl J)]at hp
   subst hp;go_in;go_wp2_with fail;refine(A _).mono ?_;rintro e w' ⟨rfl,rfl⟩;exact qF
  .obtain⟨aw,rfl⟩:∃aw:Nat,m=aw:=⟨m.toNat,I⟩
   by_cases ai:aw<n
   .rw[Ax (.inr (by simp only;omega))]at hp
    subst hp;go_in;go_wp2_with fail;refine(A _).mono ?_;rintro e w' ⟨rfl,rfl⟩;exact qF
   .rw[At (by simp only;omega)]at hp
    subst hp;have af:As (aw<n)=M:=nk;have aj:n<=aw:=I;go_in;go_wp2_with fail;refine(A _).mono ?_;rintro e w' ⟨rfl,rfl⟩;exact qF
 .rw[At he]at hp
  subst hp;have ag:((e:Int)==0)=M:=qJ;have ah:((e:Int) !=0)=u:=yE;go_in;go_wp2_with fail;refine vE (A _) ?_;exact qF
def C9(m:Int)(s:An)(w:K)(C:-9223372036854775808<=m/\m<=9223372036854775807)(hs:s.size<=jd):
  iW iN 74 #[V X m,H s] w λe w'=>e=mK (mJ #[V X (og m s.data.toList).1,V X (og m s.data.toList).2.1,V X (og m s.data.toList).2.2])/\w=w':=by
 have c1:=λw=>wM s w hs
 have hp:og m s.data.toList=if(nD s.data.toList 0 0).2.2=0 then if m<0\/m<((nD s.data.toList 0 0).1:Int)then(0,0,5)else nD s.data.toList 0 0 else(0,0,(nD s.data.toList 0 0).2.2):=rfl
 have hlt:=λN aq h=>(rD (l:=s.data.toList) (N:=N) (aq:=aq) h).2.1
 obtain⟨aa,ae⟩:=C;unfold jd at hs;generalize og m s.data.toList=r at*;generalize nD s.data.toList 0 0=t at*;obtain⟨n,k,e⟩:=t;have A:R (∀w,iW iN 75 #[H s] w λE w'=>E=mK (mJ #[V mP n,V X k,V X e])/\w=w'):=c1;by_cases he:e=0
 .subst he
  have hn:=hlt n k rfl;rw[Ax rfl]at hp;by_cases J:m<0
  .rw[Ax (.inl J)]at hp
   subst hp;go_in;go_wp2_with fail;refine(A _).mono ?_;rintro e w' ⟨rfl,rfl⟩;exact qF
  .obtain⟨aw,rfl⟩:∃aw:Nat,m=aw:=⟨m.toNat,I⟩
   by_cases ah:aw<n
   .rw[Ax (.inr (by simp only;omega))]at hp
    subst hp;go_in;go_wp2_with fail;refine(A _).mono ?_;rintro e w' ⟨rfl,rfl⟩;exact qF
   .rw[At (by simp only;omega)]at hp
    subst hp;have af:As (aw<n)=M:=nk;have ai:n<=aw:=I;go_in;go_wp2_with fail;refine(A _).mono ?_;rintro e w' ⟨rfl,rfl⟩;exact qF
 .rw[At he]at hp
  subst hp;have ag:((e:Int) !=0)=u:=yE;go_in;go_wp2_with fail;refine vE (A _) ?_;exact qF
def yo(id:Nat)(b:An):iQ:=mI #[V mP id,H ⟨#[]⟩,H b]
def PF.v(f:PF):iQ:=mJ #[yo f.id f.body,V X f.n,V X f.e]
def Ws(id:Nat)(b:An)(w:K)(hid:id<18446744073709551616)(hb:(oz id).length+b.size<=65536):
  iW iN 104 #[V mP id,H b] w λe w'=>e=mK (mJ #[H (ED id b),V X 0])/\iR w.heap.size w w':=by
 have hl:=wV 10 id (jy hid mX);have c1:=Y (λw=>YV id w hid);have c2:=Y (λw=>Mf ((oz id).length+b.size) w I);have c3:=Y (λw=>Mf id w hid);have N:(⟨(oz ((oz id).length+b.size)).toArray⟩:An).size<=10:=by
  rw[size_mk];have:=wV 10 ((oz id).length+b.size) (cQ hb mX);omega
 have J:(⟨(oz id).toArray⟩:An).size<=10:=by rw[size_mk];omega
 have hp:ED id b=⟨(oz ((oz id).length+b.size)).toArray⟩++⟨(oz id).toArray⟩++b:=rfl;generalize ED id b=aE at*;generalize (⟨(oz ((oz id).length+b.size)).toArray⟩:An)=ac at*;generalize (⟨(oz id).toArray⟩:An)=ad at*;generalize (oz id).length=m at*;have E:=Y hp;go_in;go_wp2_with fail;refine vE (c1 _) ?_;go_wp2_with fail;refine pG (c2 _) λw1 A=> ?_
 go_wp2_with fail;refine pG (c3 _) λw2 C=> ?_
 go_wp2;go_returns;exact⟨by rw[E.out];rfl,A.trans (C.mono A.size)⟩
def xy(t:An)(w:K):iW iN 144 #[H t] w λe w'=>∃b,e=mK (mG (O (Z b 0 U)))/\w.heap.size<=b/\iR w.heap.size w w'/\wL w' b (RS.of t):=
 (zX t w).mono λ_ _ ⟨he,hb,_,A⟩=>⟨_,he,iP _,hb,A⟩
def za:Array iQ:=#[V mP 0,H ⟨#[]⟩,H ⟨#[]⟩]
def EF(m:Int)(s:An)(er:Nat)(w:K)(A:-9223372036854775808<=m/\m<=9223372036854775807)(hs:s.size<=jd)(hp:og m s.data.toList=(0,0,er))(he:er≠0):
  iW iN 106 #[V X m,H s] w λe w'=>e=mK (PF.bad er).v/\iR w.heap.size w w':=by
 have c1:=λw=>xx m s w A hs
 rw[hp]at c1;have C:=Y c1;have E:((er:Int) !=0)=u:=yE;go_in;go_wp2_with fail;refine vE (C _) ?_;go_wp2_with fail;refine iY (v:=(PF.bad er).v) (by simp[jv,Tryz.results106,go_sem,PF.v,PF.bad,yo]) rfl ⟨rfl,?_⟩;exact(iT _ _).alloc (iP _) _
def Mg(h:p:=by
 show RS.take ⟨s,0,0⟩ k=_;unfold RS.take;rw[Ax rfl,At I,At (by simp only[];omega)];simp):p:=h
def Gm(m:Int)(s:An)(n k:Nat)(w:K)(ay:-9223372036854775808<=m/\m<=9223372036854775807)(hs:s.size<=jd)(hp:og m s.data.toList=(n,k,0))(aB:s.size<k+n):
  iW iN 106 #[V X m,H s] w λe w'=>e=mK (PF.bad 2).v/\iR w.heap.size w w':=by
 have c1:=λw=>xx m s w ay hs
 rw[hp]at c1;have az:=Y c1;have⟨aF,aG,N,aH⟩:=vW hp;rw[<-kJ]at N;have C:=hs;unfold jd at C;have ct:=Y (λb w (h:wL w b (RS.of s))=>pX b (RS.of s) k w (RS.Ok.of C) h);have e1:RS.take (RS.of s) k=(⟨s,k,0⟩,s.extract 0 k):=by
  exact Mg
 rw[e1]at ct;have E:=Y (λb w (h:wL w b ⟨s,k,0⟩)=>pX b ⟨s,k,0⟩ n w ⟨N,C⟩ h);have e2:RS.take ⟨s,k,0⟩ n=(⟨s,k,2⟩,tX):=by
  unfold RS.take;rw[Ax rfl,At I,Ax (by simp only[];omega)]
 rw[e2]at E;have aD:∀(fn:Fn)(first cap:Array iQ)(w:K),(Instr.makeFunc fn first cap).run iN w=.ok (.func fn first cap) w:=λ_ _ _ _=>rfl
 go_in;go_wp2_with fail;refine(az _).mono ?_;rintro e w' ⟨rfl,rfl⟩;go_wp2_with fail;refine(xy _ _).mono ?_;rintro e w1 ⟨b,rfl,aa,J,ae⟩;go_wp2_with fail;refine vF (ct _ _ ae) λw2 u2 af=> ?_
 go_wp2_with fail;refine vF (E _ _ af) λw3 u3 ag=> ?_
 have cf:=Y (pU _ _ _ ag);go_wp2_with fail;refine vE cf ?_;have hlt:w.heap.size<b:=by simp at aa;omega
 have ah:=a7 J (mY.new w za 52) ny;have ai:=u2.blk ah I;have A:=u3.blk ai I;have aj:=((iT w.heap.size w).alloc (iP _) (mM za 52)).trans (J.mono ny);have ak:=u2.below aj I aj.size;have aA:=Y (u3.below ak I ak.size);have au:=A.cell 0;have av:=A.cell 1;have ax:=A.cell 2;have⟨f0,f1,f2⟩:=A.f3;simp[za]at au av ax;go_wp2_with fail;refine iY (v:=(PF.bad 2).v) (by simp[jv,Tryz.results106,go_sem,PF.v,PF.bad,yo,au,av,ax]) rfl ⟨rfl,?_⟩;exact((aA.setCell (p:=(Z w.heap.size 0 U)) (iP _) _).setCell (p:=(Z w.heap.size 1 U)) (iP _) _).setCell (p:=(Z w.heap.size 2 U)) (iP _) _
def Gn(m:Int)(s:An)(n k:Nat)(w:K)(az:-9223372036854775808<=m/\m<=9223372036854775807)(hs:s.size<=jd)(hp:og m s.data.toList=(n,k,0))(aK:k+n<=s.size)(aA:(nD (s.extract k (k+n)).data.toList 0 0).2.2≠0):
  iW iN 106 #[V X m,H s] w λe w'=>e=mK (PF.bad 3).v/\iR w.heap.size w w':=by
 have c1:=λw=>xx m s w az hs
 rw[hp]at c1;have aB:=Y c1;have⟨aM,aN,N,aO⟩:=vW hp;rw[<-kJ]at N;have C:=hs;unfold jd at C;have ct:=Y (λb w (h:wL w b (RS.of s))=>pX b (RS.of s) k w (RS.Ok.of C) h);have e1:RS.take (RS.of s) k=(⟨s,k,0⟩,s.extract 0 k):=by
  exact Mg
 rw[e1]at ct;have E:=Y (λb w (h:wL w b ⟨s,k,0⟩)=>pX b ⟨s,k,0⟩ n w ⟨N,C⟩ h);have e2:RS.take ⟨s,k,0⟩ n=(⟨s,k+n,0⟩,s.extract k (k+n)):=by
  unfold RS.take;rw[Ax rfl,At I,At (by simp only[];omega)];rfl
 rw[e2]at E;have aD:=λw=>CV (s.extract k (k+n)) w (by unfold jd;rw[iV];omega)
 generalize nD (s.extract k (k+n)).data.toList 0 0=t at*;obtain⟨aF,aG,aa⟩:=t;have aH:R (∀w,iW iN 126 #[H (s.extract k (k+n))] w λaI w'=>aI=mK (mJ #[V mP aF,V X aG,V X aa])/\w=w'):=aD;have aL:((aa:Int) !=0)=u:=by rw[ce];simp only at aA;omega
 go_in;go_wp2_with fail;refine(aB _).mono ?_;rintro e w' ⟨rfl,rfl⟩;go_wp2_with fail;refine(xy _ _).mono ?_;rintro e w1 ⟨b,rfl,ae,J,af⟩;go_wp2_with fail;refine vF (ct _ _ af) λw2 u2 ag=> ?_
 go_wp2_with fail;refine vF (E _ _ ag) λw3 u3 ah=> ?_
 have cf:=Y (pU _ _ _ ah);go_wp2_with fail;refine cf.mono ?_;rintro e w' ⟨rfl,rfl⟩;have hlt:w.heap.size<b:=by simp at ae;omega
 have ai:=a7 J (mY.new w za 52) ny;have aj:=u2.blk ai I;have A:=u3.blk aj I;have ak:=((iT w.heap.size w).alloc (iP _) (mM za 52)).trans (J.mono ny);have au:=u2.below ak I ak.size;have aJ:=Y (u3.below au I au.size);have av:=A.cell 0;have ax:=A.cell 1;have ay:=A.cell 2;have⟨f0,f1,f2⟩:=A.f3;simp[za]at av ax ay;go_wp2_with fail;refine vE (aH _) ?_;go_wp2_with fail;refine iY (v:=(PF.bad 3).v) (by simp[jv,Tryz.results106,go_sem,PF.v,PF.bad,yo,av,ax,ay]) rfl ⟨rfl,?_⟩;exact((aJ.setCell (p:=(Z w.heap.size 0 U)) (iP _) _).setCell (p:=(Z w.heap.size 1 U)) (iP _) _).setCell (p:=(Z w.heap.size 2 U)) (iP _) _
def J6(m:Int)(s:An)(n k id z:Nat)(w:K)(ai:-9223372036854775808<=m/\m<=9223372036854775807)(hs:s.size<=jd)(hp:og m s.data.toList=(n,k,0))(aL:k+n<=s.size)(aj:nD (s.extract k (k+n)).data.toList 0 0=(id,z,0)):
  iW iN 106 #[V X m,H s] w λe w'=>e=mK (PF.mk id ((s.extract k (k+n)).extract z n) (k+n) 0).v/\iR w.heap.size w w':=by
 have c1:=λw=>xx m s w ai hs
 rw[hp]at c1;have aG:=Y c1;have⟨aH,aM,ak,aN⟩:=vW hp;rw[<-kJ]at ak;have C:=hs;unfold jd at C;have ct:=Y (λb w (h:wL w b (RS.of s))=>pX b (RS.of s) k w (RS.Ok.of C) h);have e1:RS.take (RS.of s) k=(⟨s,k,0⟩,s.extract 0 k):=by
  exact Mg
 rw[e1]at ct;have E:=Y (λb w (h:wL w b ⟨s,k,0⟩)=>pX b ⟨s,k,0⟩ n w ⟨ak,C⟩ h);have e2:RS.take ⟨s,k,0⟩ n=(⟨s,k+n,0⟩,s.extract k (k+n)):=by
  unfold RS.take;rw[Ax rfl,At I,At (by simp only[];omega)];rfl
 rw[e2]at E;have J:(s.extract k (k+n)).size=n:=by rw[iV];omega
 have aI:=(rD aj).1;rw[<-kJ,J]at aI;have au:=λw=>CV (s.extract k (k+n)) w (by unfold jd;rw[iV];omega)
 rw[aj]at au;have av:R (∀w,iW iN 126 #[H (s.extract k (k+n))] w λaJ w'=>aJ=mK (mJ #[V mP id,V X z,V X 0])/\w=w'):=au;have⟨ac,ax⟩:∃ac,ac=s.extract k (k+n):=⟨_,rfl⟩;rw[<-ax]at J av e2 E|-;clear ax;clear c1 hp ai e1 e2 aH;go_in;go_wp2_with fail;refine(aG _).mono ?_;rintro e w' ⟨rfl,rfl⟩;go_wp2_with fail;refine(xy _ _).mono ?_;rintro e w1 ⟨b,rfl,N,aa,ay⟩;go_wp2_with fail;refine vF (ct _ _ ay) λw2 u2 az=> ?_
 go_wp2_with fail;refine vF (E _ _ az) λw3 u3 aA=> ?_
 have cf:=Y (pU _ _ _ aA);go_wp2_with fail;refine cf.mono ?_;rintro e w' ⟨rfl,rfl⟩;have hlt:w.heap.size<b:=by simp at N;omega
 have ae:=a7 aa (mY.new w za 52) ny;have af:=u2.blk ae I;have A:=u3.blk af I;have ag:=((iT w.heap.size w).alloc (iP _) (mM za 52)).trans (aa.mono ny);have ah:=u2.below ag I ag.size;have aK:=Y (u3.below ah I ah.size);have aB:=A.cell 0;have aD:=A.cell 1;have aF:=A.cell 2;have⟨f0,f1,f2⟩:=A.f3;simp[za]at aB aD aF;clear ag ah ae af N;go_wp2_with fail;refine vE (av _) ?_;go_wp2_with fail;refine iY (v:=(PF.mk id (ac.extract z n) (k+n) 0).v) (by simp[jv,Tryz.results106,go_sem,PF.v,yo,aB,aD,aF]) rfl ⟨rfl,?_⟩;exact((aK.setCell (p:=(Z w.heap.size 0 U)) (iP _) _).setCell (p:=(Z w.heap.size 1 U)) (iP _) _).setCell (p:=(Z w.heap.size 2 U)) (iP _) _
def EG(m:Int)(s:An)(er:Nat)(w:K)(A:-9223372036854775808<=m/\m<=9223372036854775807)(hs:s.size<=jd)(hp:og m s.data.toList=(0,0,er))(he:er≠0):
  iW iN 41 #[V X m,H s] w λe w'=>e=mK (PF.bad er).v/\iR w.heap.size w w':=by
 have c1:=λw=>C9 m s w A hs
 rw[hp]at c1;have C:=Y c1;have E:((er:Int) !=0)=u:=yE;unfold jd at hs;go_in;go_wp2_with fail;refine vE (C _) ?_;go_wp2_with fail;refine iY (v:=(PF.bad er).v) (by simp[jv,Tryz.results41,go_sem,PF.v,PF.bad,yo]) rfl ⟨rfl,?_⟩;exact(iT _ _).alloc (iP _) _
def Gp(m:Int)(s:An)(n k:Nat)(w:K)(A:-9223372036854775808<=m/\m<=9223372036854775807)(hs:s.size<=jd)(hp:og m s.data.toList=(n,k,0))(J:s.size<k+n):
  iW iN 41 #[V X m,H s] w λe w'=>e=mK (PF.bad 2).v/\iR w.heap.size w w':=by
 have c1:=λw=>C9 m s w A hs
 rw[hp]at c1;have C:=Y c1;have⟨N,aa,E,ae⟩:=vW hp;rw[<-kJ]at E;have hd:(s.size:Int) - k<n:=I;unfold jd at hs;go_in;go_wp2_with fail;refine vE (C _) ?_;go_wp2_with fail;refine iY (v:=(PF.bad 2).v) (by simp[jv,Tryz.results41,go_sem,PF.v,PF.bad,yo]) rfl ⟨rfl,?_⟩;exact(iT _ _).alloc (iP _) _
def Gq(m:Int)(s:An)(n k:Nat)(w:K)(C:-9223372036854775808<=m/\m<=9223372036854775807)(hs:s.size<=jd)(hp:og m s.data.toList=(n,k,0))(ai:k+n<=s.size)(E:(nD (s.extract k (k+n)).data.toList 0 0).2.2≠0):
  iW iN 41 #[V X m,H s] w λe w'=>e=mK (PF.bad 3).v/\iR w.heap.size w w':=by
 have c1:=λw=>C9 m s w C hs
 rw[hp]at c1;have J:=Y c1;have⟨ak,au,N,av⟩:=vW hp;rw[<-kJ]at N;have hd:As ((s.size:Int) - k<n)=M:=nk;have aa:=λw=>wM (s.extract k (k+n)) w (by unfold jd at*;rw[iV];omega)
 generalize nD (s.extract k (k+n)).data.toList 0 0=t at*;obtain⟨ae,af,A⟩:=t;have ag:R (∀w,iW iN 75 #[H (s.extract k (k+n))] w λah w'=>ah=mK (mJ #[V mP ae,V X af,V X A])/\w=w'):=aa;have aj:((A:Int) !=0)=u:=by rw[ce];simp only at E;omega
 unfold jd at hs;go_in;go_wp2_with fail;refine(J _).mono ?_;rintro e w' ⟨rfl,rfl⟩;go_wp2_with fail;refine vE (ag _) ?_;go_wp2_with fail;refine iY (v:=(PF.bad 3).v) (by simp[jv,Tryz.results41,go_sem,PF.v,PF.bad,yo]) rfl ⟨rfl,?_⟩;exact(iT _ _).alloc (iP _) _
def J7(m:Int)(s:An)(n k id z:Nat)(w:K)(J:-9223372036854775808<=m/\m<=9223372036854775807)(hs:s.size<=jd)(hp:og m s.data.toList=(n,k,0))(ah:k+n<=s.size)(A:nD (s.extract k (k+n)).data.toList 0 0=(id,z,0)):
  iW iN 41 #[V X m,H s] w λe w'=>e=mK (PF.mk id ((s.extract k (k+n)).extract z n) (k+n) 0).v/\iR w.heap.size w w':=by
 have c1:=λw=>C9 m s w J hs
 rw[hp]at c1;have N:=Y c1;have⟨ai,aj,aa,ak⟩:=vW hp;rw[<-kJ]at aa;have hd:As ((s.size:Int) - k<n)=M:=nk;have C:(s.extract k (k+n)).size=n:=by rw[iV];omega
 have ae:=(rD A).1;rw[<-kJ,C]at ae;have E:=λw=>wM (s.extract k (k+n)) w (by unfold jd at*;rw[iV];omega)
 rw[A]at E;have af:R (∀w,iW iN 75 #[H (s.extract k (k+n))] w λag w'=>ag=mK (mJ #[V mP id,V X z,V X 0])/\w=w'):=E;unfold jd at hs;go_in;go_wp2_with fail;refine(N _).mono ?_;rintro e w' ⟨rfl,rfl⟩;go_wp2_with fail;refine vE (af _) ?_;go_wp2_with fail;refine iY (v:=(PF.mk id ((s.extract k (k+n)).extract z n) (k+n) 0).v) (by simp[jv,Tryz.results41,go_sem,PF.v,yo]) rfl ⟨rfl,?_⟩;exact(iT _ _).alloc (iP _) _
def KL{P:PF->Prop}(m:Int)(s:An)(J:∀er,og m s.data.toList=(0,0,er)->er≠0->P (.bad er))(N:∀n k,og m s.data.toList=(n,k,0)->s.size<k+n->P (.bad 2))(aa:∀n k,og m s.data.toList=(n,k,0)->k+n<=s.size->(nD (s.extract k (k+n)).data.toList 0 0).2.2≠0->P (.bad 3))(ae:∀n k id z,og m s.data.toList=(n,k,0)->k+n<=s.size->nD (s.extract k (k+n)).data.toList 0 0=(id,z,0)->P ⟨id,(s.extract k (k+n)).extract z n,k+n,0⟩):P (nT m s):=by
 by_cases h0:(og m s.data.toList).2.2=0
 .have⟨⟨n,k,e⟩,hp⟩:∃t,og m s.data.toList=t:=⟨_,rfl⟩
  rw[hp]at h0;simp only at h0;subst h0;by_cases E:s.size<k+n;.rw[BX hp E];exact N n k hp E
  .by_cases A:(nD (s.extract k (k+n)).data.toList 0 0).2.2=0
   .have⟨⟨id,z,e⟩,C⟩:∃t,nD (s.extract k (k+n)).data.toList 0 0=t:=⟨_,rfl⟩
    rw[C]at A;simp only at A;subst A;rw[Hz hp I C];exact ae n k id z hp I C
   .rw[BZ hp I A];exact aa n k hp I A
 .rw[xR h0];exact J _ (Wj h0) h0
def Ic(m:Int)(s:An)(w:K)(A:-9223372036854775808<=m/\m<=9223372036854775807)(hs:s.size<=jd):
  iW iN 106 #[V X m,H s] w λe w'=>e=mK (nT m s).v/\iR w.heap.size w w':=
 KL (P:=λr=>iW iN 106 #[V X m,H s] w λe w'=>e=mK r.v/\iR w.heap.size w w') m s
  (λer h he=>EF m s er w A hs h he) (λn k h ho=>Gm m s n k w A hs h ho) (λn k h ho C=>Gn m s n k w A hs h ho C)
  (λn k id z h ho C=>J6 m s n k id z w A hs h ho C)
def Ie(m:Int)(s:An)(w:K)(A:-9223372036854775808<=m/\m<=9223372036854775807)(hs:s.size<=jd):
  iW iN 41 #[V X m,H s] w λe w'=>e=mK (nT m s).v/\iR w.heap.size w w':=
 KL (P:=λr=>iW iN 41 #[V X m,H s] w λe w'=>e=mK r.v/\iR w.heap.size w w') m s
  (λer h he=>EG m s er w A hs h he) (λn k h ho=>Gp m s n k w A hs h ho) (λn k h ho C=>Gq m s n k w A hs h ho C)
  (λn k id z h ho C=>J7 m s n k id z w A hs h ho C)
def xz(b:AC):Bool:=(As (97<=b.toNat)&&As (b.toNat<=122))||(As (48<=b.toNat)&&As (b.toNat<=57))||As (b.toNat=95)
def rP(l:List AC):Bool:=As (1<=l.length)&&As (l.length<=12)&&l.all xz
def FI(b:AC):(xz b=u/\((97<=b.toNat/\b.toNat<=122)\/(48<=b.toNat/\b.toNat<=57)\/b.toNat=95))\/
  (xz b=M/\((b.toNat<48)\/(57<b.toNat/\b.toNat<95)\/b.toNat=96\/122<b.toNat)):=by
 unfold xz;by_cases h:(97<=b.toNat/\b.toNat<=122)\/(48<=b.toNat/\b.toNat<=57)\/b.toNat=95
 .left
  refine⟨?_,h⟩;simp only[cM,je,bb];rcases h with h|h|h
  .exact .inl (.inl h)
  .exact .inl (.inr h)
  .exact .inr h
 .right
  refine⟨?_,I⟩;simp only[ep,Bool.and_eq_false_iff,b8];omega
def Oy{s:An}(h:k<s.size):(s.data.toList.take (k+1)).all xz=((s.data.toList.take k).all xz&&xz s[k]):=by
 rw[du,ja (by simpa using h)];simp;rfl
def all_false{s:An}(h:k<s.size)(hb:xz s[k]=M):s.data.toList.all xz=M:=by
 rw[List.all_eq_false];have hk:k<s.data.toList.length:=by simpa using h
 exact⟨s.data.toList[k],ey hk,by
  have:s.data.toList[k]=s[k]:=rfl;rw[this,hb];simp⟩
def EH(h:p:=by
 go_wp2_with fail
 all_goals
  go_roundw;case rel=>exact⟨k+1,by go_num,I,HT.out,trivial⟩
  case measure=>simp[jF];omega):p:=h
def Mh(h:p:=by
 go_wp2_with fail
 all_goals first
  |(go_returns;exact⟨by rw[HM.out,HT.out];rfl,rfl⟩)
  |(exfalso;omega)
  |(exfalso;simp_all;omega)):p:=h
def Ig(h:p:=by
 go_in;go_wp2;go_returns;exact⟨by rw[HR.out];rfl,rfl⟩):p:=h
def Ui(s:An)(w:K)(hs:s.size<=jd):
  iW iN 120 #[H s] w λe w'=>e=mK (mH (rP s.data.toList))/\w'=w:=by
 have ak:s.size<=9223372036854775807:=by unfold jd at hs;omega
 have hlen:s.data.toList.length=s.size:=ny;by_cases h0:s.size<1
 .have HR:R (rP s.data.toList=M):=Y (by unfold rP;rw[bh (by rw[hlen];omega)];rfl)
  exact Ig
 by_cases au:12<s.size
 .have HR:R (rP s.data.toList=M):=Y (by unfold rP;rw[a8 (p:=1<=_) (by rw[hlen];omega),bh (by rw[hlen];omega)];rfl)
  exact Ig
 have HM:R (rP s.data.toList=s.data.toList.all xz):=Y (by unfold rP;rw[a8 (p:=1<=_) (by rw[hlen];omega),a8 (by rw[hlen];omega)];rfl);have⟨N,ae⟩:=nE s.size;have J:=Y ae;have af:=Y hlen;have A:¬N<1:=I;have E:¬12<N:=I;have ag:N<=12:=I;go_in;go_wp2;go_loopw [15] (λiv ah=>∃k:Nat,iv=V X k/\k<=N/\R ((s.data.toList.take k).all xz=u)/\ah=w) (λiv _=>N -(jF iv).toNat);case atStart=>exact⟨0,rfl,I,Y ny,rfl⟩
 case round=>
  obtain⟨k,rfl,hk,aa,rfl⟩:=hrel;by_cases c:k<N
  .have C:k<s.size:=by rw[J.out];exact c
   have ai:=Oy C;rcases FI s[k]with⟨hn,hc⟩|⟨hn,hc⟩
   .have HT:R ((s.data.toList.take (k+1)).all xz=u):=Y (by rw[ai,aa.out,hn];rfl)
    rcases hc with⟨A,E⟩|⟨A,E⟩|A
    .exact EH
    .exact EH
    .exact EH
   .have HT:=Y (all_false C hn)
    have av:((s[k].toNat:Int) !=95)=u:=nk;rcases hc with A|⟨A,E⟩|A|A
    .exact Mh
    .exact Mh
    .exact Mh
    .exact Mh
  .obtain rfl:k=N:=I
   have aj:R (rP s.data.toList=u):=Y (by
    have h:=aa.out;rw[kK (by rw[af.out,J.out];exact iP _)]at h;rw[HM.out,h])
   go_wp2;go_returns;exact⟨by rw[aj.out];rfl,rfl⟩
def Mi(h:p:=by
 go_wp2_with fail
 all_goals first
  |(go_returns;exact⟨by rw[HM.out,HT.out,cI];rfl,rfl⟩)
  |(exfalso;omega)
  |(exfalso;simp_all;omega)):p:=h
def KM(s:An)(w:K)(hs:s.size<=jd):
  iW iN 53 #[H s] w λe w'=>e=mK (mH (rP s.data.toList))/\w'=w:=by
 have av:s.size<=9223372036854775807:=by unfold jd at hs;omega
 have hlen:s.data.toList.length=s.size:=ny;have HM:R (rP s.data.toList=(As (1<=s.size)&&As (s.size<=12)&&s.data.toList.all xz)):=Y (by unfold rP;rw[hlen]);have⟨N,ag⟩:=nE s.size;have E:=Y ag;have ah:=Y hlen;have ai:N<=9223372036854775807:=I;go_in;go_wp2;go_loopw [3] (λiv aj=>∃k:Nat,iv=V X k/\k<=N/\R ((s.data.toList.take k).all xz=u)/\aj=w) (λiv _=>N -(jF iv).toNat);case atStart=>exact⟨0,rfl,I,Y ny,rfl⟩
 case round=>
  obtain⟨k,rfl,hk,J,rfl⟩:=hrel;by_cases c:k<N
  .have C:k<s.size:=by rw[E.out];exact c
   have ak:=Oy C;rcases FI s[k]with⟨hn,hc⟩|⟨hn,hc⟩
   .have HT:R ((s.data.toList.take (k+1)).all xz=u):=Y (by rw[ak,J.out,hn];rfl)
    rcases hc with⟨A,aa⟩|⟨A,aa⟩|A
    .exact EH
    .exact EH
    .exact EH
   .have HT:=Y (all_false C hn)
    have ax:((s[k].toNat:Int)==95)=M:=nk;rcases hc with A|⟨A,aa⟩|A|A
    .exact Mi
    .exact Mi
    .exact Mi
    .exact Mi
  .obtain rfl:k=N:=I
   have ae:R (rP s.data.toList=(As (1<=k)&&As (k<=12))):=Y (by
    have h:=J.out;rw[kK (by rw[ah.out,E.out];exact iP _)]at h;rw[HM.out,h,E.out,ea])
   by_cases af:1<=k
   .have au:R (As ((k:Int)<=12)=rP s.data.toList):=Y (by rw[ae.out,a8 af,lX,bx];omega)
    go_wp2;go_returns;exact⟨by rw[<-au.out];rfl,rfl⟩
   .go_wp2
    go_returns;exact⟨by rw[ae.out,bh af];rfl,rfl⟩
def vY(s:An):Option An:=if s.size=12/\rP (jW s.data.toList 0)=u then O ⟨(jW s.data.toList 0).toArray⟩else U
def FJ(l:List AC):(jW l 0).length<=l.length:=by
 unfold jW;rw[lC];exact jk (List.dropWhile_sublist _).length_le (kP lC)
def Ih(s:An)(w:K)(e:kV)(w':K):Prop:=e=mK (mJ #[H ((vY s).getD ⟨#[]⟩),V X (if(vY s).isSome then 0 else 3)])/\w'=w
def a2E(s:An)(w:K)(hs:s.size<=jd):iW iN 137 #[H s] w (Ih s w):=by
 have ae:s.size<=9223372036854775807:=by unfold jd at hs;omega
 have E:=Y (Tryz.strings_TrimRight_one s 0 mX w ae);have htl:(⟨(jW s.data.toList 0).toArray⟩:An).size<=jd:=by
  have A:=FJ s.data.toList;have ag:s.data.toList.length=s.size:=ny;have ah:(⟨(jW s.data.toList 0).toArray⟩:An).size=(jW s.data.toList 0).length:=by simp[ByteArray.size]
  omega
 have N:=Y (Ui ⟨(jW s.data.toList 0).toArray⟩ w htl);unfold Ih;have⟨aE,C⟩:∃aE,Value.tuple #[H ((vY s).getD ⟨#[]⟩),V X (if(vY s).isSome then 0 else 3)]=aE:=⟨_,rfl⟩;rw[C];have hg:vY s=if s.size=12/\rP (jW s.data.toList 0)=u then O ⟨(jW s.data.toList 0).toArray⟩else U:=rfl
 have N:R (iW iN 120 #[H ⟨(jW s.data.toList 0).toArray⟩] w λe w'=>e=mK (mH (rP (jW s.data.toList 0)))/\w'=w):=N;generalize vY s=ao at*;generalize (⟨(jW s.data.toList 0).toArray⟩:An)=af at*;generalize rP (jW s.data.toList 0)=aw at*;have E:=E;by_cases A:s.size=12
 .cases aw with
  |true=>
   have J:R (aE=mJ #[H af,V X 0]):=Y (by rw[<-C,hg,Ax ⟨A,rfl⟩];rfl);have aa:((s.size:Int) !=12)=M:=by simp[A]
   go_in;go_wp2_with fail;refine E.mono ?_;rintro e w2 ⟨rfl,rfl⟩;go_wp2_with fail;refine N.mono ?_;rintro e w3 ⟨rfl,rfl⟩;go_wp2;go_returns;rw[J.out];exact⟨rfl,rfl⟩
  |false=>
   have J:R (aE=mJ #[H ⟨#[]⟩,V X 3]):=Y (by rw[<-C,hg,At (λh=>by cases h.2)];rfl);clear hg C;have aa:((s.size:Int) !=12)=M:=by simp[A]
   clear A;go_in;go_wp2_with fail;refine E.mono ?_;rintro e w2 ⟨rfl,rfl⟩;go_wp2_with fail;refine vE N ?_;go_wp2;go_returns;rw[J.out];exact⟨rfl,rfl⟩
 .have J:R (aE=mJ #[H ⟨#[]⟩,V X 3]):=Y (by rw[<-C,hg,At (λh=>A h.1)];rfl)
  clear hg C;have aa:((s.size:Int) !=12)=u:=nk;clear A;go_in;go_wp2_with fail;refine vE E ?_;go_wp2;go_returns;rw[J.out];exact⟨rfl,rfl⟩
end
section
def qj(x:UInt32)(n:Nat):UInt32:=UInt32.ofNat (x.toNat/2^n|||x.toNat*2^(32 - n) % 4294967296)
def shr(x:UInt32)(n:Nat):UInt32:=UInt32.ofNat (x.toNat/2^n)
def uW(x:UInt32)(a b c:Nat):UInt32:=qj x a^^^qj x b^^^shr x c
def Oz(x:UInt32)(a b c:Nat):UInt32:=qj x a^^^qj x b^^^qj x c
def Aa(l:List AC)(i:Nat):UInt32:=
 UInt32.ofNat ((l.getD (4*i) 0).toNat*16777216+(l.getD (4*i+1) 0).toNat*65536+(l.getD (4*i+2) 0).toNat*256+(l.getD (4*i+3) 0).toNat)
def YW(n:Nat)(h:n<4294967296):(UInt32.ofNat n).toNat=n:=by
 show n % 2^32=n;exact Nat.mod_eq_of_lt h
def tY(x y:UInt32):((x.toNat:Int)+(y.toNat:Int)) % 4294967296=((x+y).toNat:Int):=by
 rw[UInt32.toNat_add];omega
def xB(x y:UInt32):bits BinOp.xor kF (x.toNat:Int) (y.toNat:Int)=((x^^^y).toNat:Int):=by
 rw[u32_xor_nat _ _ x.toNat_lt y.toNat_lt,ew]
def KN(x y:UInt32):bits BinOp.and kF (x.toNat:Int) (y.toNat:Int)=((x&&&y).toNat:Int):=by
 rw[u32_and_nat _ _ x.toNat_lt y.toNat_lt,UInt32.toNat_and]
def a5C(x y:UInt32):bits BinOp.or kF (x.toNat:Int) (y.toNat:Int)=((x|||y).toNat:Int):=by
 rw[u32_or_nat _ _ x.toNat_lt y.toNat_lt,UInt32.toNat_or]
def YX(x:UInt32)(n:Nat):(x.toNat:Int)/2^n=((shr x n).toNat:Int):=by
 unfold shr;have h:=x.toNat_lt;rw[YW _ (cQ (Nat.div_le_self _ _) h),Int.natCast_ediv];simp
def Uj(x:UInt32)(n:Nat):x.toNat/2^n|||x.toNat*2^(32 - n) % 4294967296<4294967296:=by
 have h:=x.toNat_lt;exact Nat.or_lt_two_pow (n:=32) (cQ (Nat.div_le_self _ _) h) (cN _ mX)
def a8e(x:UInt32)(n:Nat):bits BinOp.or kF ((x.toNat:Int)*2^(32 - n) % 4294967296) ((x.toNat:Int)/2^n)=((qj x n).toNat:Int):=by
 have h:=x.toNat_lt;have e1:(x.toNat:Int)*2^(32 - n) % 4294967296=((x.toNat*2^(32 - n) % 4294967296:Nat):Int):=by
  rw[Int.natCast_emod,eh,Int.natCast_pow];rfl
 have e2:(x.toNat:Int)/2^n=((x.toNat/2^n:Nat):Int):=by rw[Int.natCast_ediv,Int.natCast_pow];rfl
 rw[e1,e2,u32_or_nat _ _ (cN _ mX) (cQ (Nat.div_le_self _ _) h)];unfold qj;rw[YW _ (Uj x n),Nat.or_comm]
def a5D(x:UInt32)(n:Nat):bits BinOp.or kF ((x.toNat:Int)/2^n) ((x.toNat:Int)*2^(32 - n) % 4294967296)=((qj x n).toNat:Int):=by
 have h:=x.toNat_lt;have e1:(x.toNat:Int)*2^(32 - n) % 4294967296=((x.toNat*2^(32 - n) % 4294967296:Nat):Int):=by
  rw[Int.natCast_emod,eh,Int.natCast_pow];rfl
 have e2:(x.toNat:Int)/2^n=((x.toNat/2^n:Nat):Int):=by rw[Int.natCast_ediv,Int.natCast_pow];rfl
 rw[e1,e2,u32_or_nat _ _ (cQ (Nat.div_le_self _ _) h) (cN _ mX)];unfold qj;rw[YW _ (Uj x n)]
def Uk(l:List AC)(w:List UInt32)(i:Nat):UInt32:=
 if i<16 then Aa l i else w.getD (i - 16) 0+(uW (w.getD (i - 15) 0) 7 18 3+w.getD (i - 7) 0+uW (w.getD (i - 2) 0) 17 19 10)
def uo(l:List AC):Nat->List UInt32
 |0=>[]
 |n+1=>uo l n++[Uk l (uo l n) n]
structure S8 where
 a:UInt32
 b:UInt32
 c:UInt32
 d:UInt32
 e:UInt32
 f:UInt32
 g:UInt32
 h:UInt32
deriving DecidableEq
def FK(s:S8)(k w:UInt32):UInt32:=s.h+Oz s.e 6 11 25+k+w+((s.e&&&s.f)^^^(~~~s.e&&&s.g))
def Ii(s:S8):UInt32:=Oz s.a 2 13 22+((s.a&&&s.b)^^^(s.a&&&s.c)^^^(s.b&&&s.c))
def KO(s:S8)(k w:UInt32):S8:=⟨FK s k w+Ii s,s.a,s.b,s.c,s.d+FK s k w,s.e,s.f,s.g⟩
def Gr(s t:S8):S8:=⟨s.a+t.a,s.b+t.b,s.c+t.c,s.d+t.d,s.e+t.e,s.f+t.f,s.g+t.g,s.h+t.h⟩
def Wt(e f g:UInt32):(e&&&f)^^^(~~~e&&&g)=(e&&&f)|||((e^^^4294967295)&&&g):=by
 apply UInt32.toBitVec_inj.1;simp only[UInt32.toBitVec_xor,UInt32.toBitVec_and,UInt32.toBitVec_or,UInt32.toBitVec_not];apply BitVec.eq_of_getLsbD_eq;intro i hi;have A:(4294967295:UInt32).toBitVec=BitVec.allOnes 32:=mX;rw[A];simp only[BitVec.getLsbD_xor,BitVec.getLsbD_and,BitVec.getLsbD_or,BitVec.getLsbD_not,BitVec.getLsbD_allOnes,hi,decide_true,lX];cases e.toBitVec.getLsbD i<;>cases f.toBitVec.getLsbD i<;>cases g.toBitVec.getLsbD i<;>rfl
def a2F(a b c:UInt32):(a&&&b)^^^(a&&&c)^^^(b&&&c)=(a&&&b)|||(a&&&c)|||(b&&&c):=by
 apply UInt32.toBitVec_inj.1;simp only[UInt32.toBitVec_xor,UInt32.toBitVec_and,UInt32.toBitVec_or];apply BitVec.eq_of_getLsbD_eq;intro i hi;simp only[BitVec.getLsbD_xor,BitVec.getLsbD_and,BitVec.getLsbD_or];cases a.toBitVec.getLsbD i<;>cases b.toBitVec.getLsbD i<;>cases c.toBitVec.getLsbD i<;>rfl
def YY:List AC:=[66,138,47,152,113,55,68,145,181,192,251,207,233,181,219,165,57,86,194,91,89,241,17,241,146,63,130,164,171,28,94,213,216,7,170,152,18,131,91,1,36,49,133,190,85,12,125,195,114,190,93,116,128,222,177,254,155,220,6,167,193,155,241,116,228,155,105,193,239,190,71,134,15,193,157,198,36,12,161,204,45,233,44,111,74,116,132,170,92,176,169,220,118,249,136,218,152,62,81,82,168,49,198,109,176,3,39,200,191,89,127,199,198,224,11,243,213,167,145,71,6,202,99,81,20,41,41,103,39,183,10,133,46,27,33,56,77,44,109,252,83,56,13,19,101,10,115,84,118,106,10,187,129,194,201,46,146,114,44,133,162,191,232,161,168,26,102,75,194,75,139,112,199,108,81,163,209,146,232,25,214,153,6,36,244,14,53,133,16,106,160,112,25,164,193,22,30,55,108,8,39,72,119,76,52,176,188,181,57,28,12,179,78,216,170,74,91,156,202,79,104,46,111,243,116,143,130,238,120,165,99,111,132,200,120,20,140,199,2,8,144,190,255,250,164,80,108,235,190,249,163,247,198,113,120,242]
def kN(i:Nat):UInt32:=Aa YY i
def rE:S8:=⟨1779033703,3144134277,1013904242,2773480762,1359893119,2600822924,528734635,1541459225⟩
def sM(l:List AC)(s:S8):Nat->S8
 |0=>s
 |n+1=>KO (sM l s n) (kN n) ((uo l 64).getD n 0)
def Gs(s:S8)(l:List AC):S8:=Gr s (sM l s 64)
def zb(n:Nat):List AC:=128::(jC ((64 -(n+9) % 64) % 64) 0++(kG 8).map λi=>jH (n*8/256^(7 - i) % 256))
def EJ(mix:S8->List AC->S8)(l:List AC):Nat->S8->S8
 |0,s=>s
 |k+1,s=>EJ mix (l.drop 64) k (mix s (l.take 64))
def OA(mix:S8->List AC->S8)(l:List AC)(k:Nat)(s:S8):EJ mix l (k+1) s=EJ mix (l.drop 64) k (mix s (l.take 64)):=rfl
def Q5(l:List AC)(k:Nat)(s:S8):S8:=EJ Gs l k s
def uR(x:UInt32):List AC:=[jH (x.toNat/16777216 % 256),jH (x.toNat/65536 % 256),jH (x.toNat/256 % 256),jH (x.toNat % 256)]
def S8.out(s:S8):List AC:=uR s.a++uR s.b++uR s.c++uR s.d++uR s.e++uR s.f++uR s.g++uR s.h
def Bz(l:List AC):List AC:=(Q5 (l++zb l.length) ((l++zb l.length).length/64) rE).out
def EK(p A:Nat):Nat->Nat->Nat->Nat
 |0,_,x=>x
 |n+1,C,x=>EK p A n (C/2) (if(x+C)^A/2^(32*A)<p then x+C else x)
def FL(p A:Nat):Nat:=EK p A 36 34359738368 0 % 4294967296
def isP(p:Nat):Bool:=(kG (p - 2)).all λd=>As (0<p %(d+2))
def Ul:List Nat:=[2,3,5,7,11,13,17,19,23,29,31,37,41,43,47,53,59,61,67,71,73,79,83,89,97,101,103,107,109,113,127,131,137,139,149,151,157,163,167,173,179,181,191,193,197,199,211,223,227,229,233,239,241,251,257,263,269,271,277,281,283,293,307,311]
def Wu:((kG 310).map (.+2)).filter isP=Ul:=xh
end
variable{mix:S8->List AC->S8}
section
open Go.RowKit
def Q6(a b c d:AC):
  bits BinOp.or kF (bits BinOp.or kF (bits BinOp.or kF ((a.toNat:Int)*16777216) ((b.toNat:Int)*65536)) ((c.toNat:Int)*256)) (d.toNat:Int)=
   ((UInt32.ofNat (a.toNat*16777216+b.toNat*65536+c.toNat*256+d.toNat)).toNat:Int):=by
 have J:=a.toNat_lt;have hb:=b.toNat_lt;have hc:=c.toNat_lt;have hd:=d.toNat_lt;have e (x y:Nat):((x:Int)*(y:Int))=((x*y:Nat):Int):=(eh x y).symm
 rw[show(16777216:Int)=((16777216:Nat):Int)from rfl,show(65536:Int)=((65536:Nat):Int)from rfl,show(256:Int)=((256:Nat):Int)from rfl,e,e,e,
  u32_or_nat _ _ I I]
 have A:a.toNat*16777216|||b.toNat*65536=a.toNat*16777216+b.toNat*65536:=by
  have:=l9 (show b.toNat*65536<2^24 by omega) a.toNat;rw[db a.toNat];exact this.symm
 rw[A,u32_or_nat _ _ I I];have C:(a.toNat*16777216+b.toNat*65536)|||c.toNat*256=a.toNat*16777216+b.toNat*65536+c.toNat*256:=by
  have:=l9 (show c.toNat*256<2^16 by omega) (a.toNat*256+b.toNat);rw[show 2^16*(a.toNat*256+b.toNat)=a.toNat*16777216+b.toNat*65536 by omega]at this;exact this.symm
 rw[C,u32_or_nat _ _ I I];have E:(a.toNat*16777216+b.toNat*65536+c.toNat*256)|||d.toNat=a.toNat*16777216+b.toNat*65536+c.toNat*256+d.toNat:=by
  have:=l9 (show d.toNat<2^8 by omega) (a.toNat*65536+b.toNat*256+c.toNat);rw[show 2^8*(a.toNat*65536+b.toNat*256+c.toNat)=a.toNat*16777216+b.toNat*65536+c.toNat*256 by omega]at this;exact this.symm
 rw[E,YW _ I]
def OB(s:An)(i:Nat)(h:4*i+4<=s.size):Aa s.data.toList i=UInt32.ofNat (s[4*i].toNat*16777216+s[4*i+1].toNat*65536+s[4*i+2].toNat*256+s[4*i+3].toNat):=by
 have e:∀j (A:j<s.size),s.data.toList.getD j 0=s[j]:=by
  intro j A;have C:j<s.data.toList.length:=by rw[<-kJ];exact A
  rw[jN,ja C];rfl
 unfold Aa;rw[e _ I,e _ I,e _ I,e _ I]
def OC(a b c d:AC):
  bits BinOp.or kF (bits BinOp.or kF (bits BinOp.or kF ((a.toNat:Int) % 4294967296*16777216 % 4294967296) ((b.toNat:Int) % 4294967296*65536 % 4294967296)) ((c.toNat:Int) % 4294967296*256 % 4294967296)) ((d.toNat:Int) % 4294967296)=
   ((UInt32.ofNat (a.toNat*16777216+b.toNat*65536+c.toNat*256+d.toNat)).toNat:Int):=by
 have A:=a.toNat_lt;have hb:=b.toNat_lt;have hc:=c.toNat_lt;have hd:=d.toNat_lt;rw[<-Q6 a b c d];congr 1
 .congr 1
  .congr 1<;>omega
  .omega
 .omega
def Wv(s:An)(i:Nat):Aa (s.extract (4*i) (4*i+4)).data.toList 0=Aa s.data.toList i:=by
 have e:∀j,j<4->(s.extract (4*i) (4*i+4)).data.toList.getD j 0=s.data.toList.getD (4*i+j) 0:=by
  intro j A;rw[lI,jN,jN,cj I,dj]
 unfold Aa;rw[e _ I,e _ I,e _ I,e _ I];rfl
def OD(s:An)(i:Nat)(w:K)(hi:4*i+4<=s.size)(hs:s.size<=1000):
  iW iN 273 #[H s,V X i] w λe w'=>e=mK (V mQ (Aa s.data.toList i).toNat)/\∃n,w'=w.drewN n:=by
 have E:(s.extract (4*i) (4*i+4)).size=4:=by rw[iV];omega
 have A:=OB (s.extract (4*i) (4*i+4)) 0 I;rw[Wv]at A;go_in;have C:=Y A;go_wp2_with fail;go_quiet (fail);go_wp2;go_returns;exact⟨by rw[C.out,<-OC];rfl,_,rfl⟩
def a5E(x:UInt32)(n:Nat)(w:K)(E:1<=n)(J:n<=31):
  iW iN 292 #[V mQ x.toNat,V X (-(n:Int))] w λe w'=>e=mK (V mQ (qj x n).toNat)/\w=w':=by
 have A:=Y (a8e x n);have e1:bits BinOp.and IntKind.u64 (IntKind.u64.wrap (-(n:Int))) 31=((32 - n:Nat):Int):=by
  have C:IntKind.u64.wrap (-(n:Int))=((18446744073709551616 - n:Nat):Int):=by
   rw[IntKind.wrap_u64];omega
  rw[C,show(31:Int)=((31:Nat):Int)from rfl,u64_and_nat _ _ I mX];congr 1;rw[show(31:Nat)=2^5 - 1 from rfl,Nat.and_two_pow_sub_one_eq_mod];omega
 go_in;go_wp2;go_returns;refine⟨congrArg (λz=>jS (lL mQ z)) ?_,rfl⟩;rw[<-A.out,show 32 -(32 - n)=n by omega]
def Da(x:UInt32)(n:Nat)(w:K)(A:1<=n)(C:n<=31):
  iW iN 285 #[V mQ x.toNat,V X n] w λe w'=>e=mK (V mQ (qj x n).toNat)/\w=w':=by
 have c1:=Y (a5E x n w A C);go_in;go_wp2_with fail;refine vE c1 ?_;go_wp2;go_returns;exact⟨rfl,rfl⟩
def Q7{f:FuncId}{args:Array iQ}{v:iQ}(h:iW P f args (w.drewN n) λe w'=>e=mK v/\w.drewN n=w'):iW P f args (w.drewN n) λe A=>e=mK v/\∃m,A=w.drewN m:=
 h.mono λ_ _ ⟨he,C⟩=>⟨he,n,C.symm⟩
def Q8(x:UInt32)(a b c:Nat)(w:K)(A:1<=a/\a<=31)(hb:1<=b/\b<=31)(hc:1<=c/\c<=31):
  iW iN 275 #[V mQ x.toNat,V X a,V X b,V X c] w λe w'=>e=mK (V mQ (Oz x a b c).toNat)/\w=w':=by
 have c1:=Y (Da x a w A.1 A.2);have c2:=Y (Da x b w hb.1 hb.2);have c3:=Y (Da x c w hc.1 hc.2);have C:=Y (xB (qj x a) (qj x b));have E:=Y (xB (qj x a^^^qj x b) (qj x c));go_in;go_wp2_with fail;refine c1.mono ?_;rintro e w' ⟨rfl,rfl⟩;go_wp2_with fail;refine c2.mono ?_;rintro e w' ⟨rfl,rfl⟩;go_wp2_with fail;refine vE c3 ?_;go_wp2;go_returns;refine⟨congrArg (λz=>jS (lL mQ z)) ?_,rfl⟩;rw[C.out,E.out];rfl
def Mj(x:UInt32)(a b c:Nat)(w:K)(A:1<=a/\a<=31)(hb:1<=b/\b<=31)(hc:1<=c/\c<=31):
  iW iN 284 #[V mQ x.toNat,V X a,V X b,V X c] w λe w'=>e=mK (V mQ (uW x a b c).toNat)/\∃n,w'=w.drewN n:=by
 have C:=Y (xB (qj x a) (qj x b));have E:=Y (xB (qj x a^^^qj x b) (shr x c));have J:=Y (YX x c);obtain⟨N,aa⟩:=hc;obtain⟨ae,af⟩:=A;obtain⟨ag,ah⟩:=hb;go_in;go_wp2_with fail;go_quiet ((go_at_call 285;exact Q7 (Da x _ _ I I)));go_wp2;go_returns;refine⟨congrArg (λz=>jS (lL mQ z)) ?_,_,rfl⟩;rw[C.out,J.out,E.out];rfl
def AbN{C:Type}(B:Nat)(E:C->K->Prop):Prop:=
 ∀s W A row,E s W->W.grownBy A row->(∀r,row=O r->B<=r)->E s A
def NW(E:Nat)(W A:K):Prop:=W.heap.size<=A.heap.size/\∀k cs t m,E<=k->W.heap[k]? =O (mM cs t m)->A.heap[k]? =O (mM cs t m)
def NW.trans{A B C:K}(h:NW E A B)(k:NW E B C):NW E A C:=⟨jk h.1 k.1,λi cs t m hi hc=>k.2 i cs t m hi (h.2 i cs t m hi hc)⟩
def NW.refl(E:Nat)(W:K):NW E W W:=⟨iP _,λ_ _ _ _ _ h=>h⟩
def NW.put{l:Nat}{o:Obj}(A:Obj)(h:W.heap[l]? =O o)(ho:o.isCells=M):NW E W (W.putObj l A):=by
 have hl:=(jE.1 h).1;refine⟨(grownBy_putObj' W l A).size,λk cs t m _ hc=> ?_⟩;have C:k≠l:=by
  intro e;subst e;rw[h]at hc;cases hc;simp[Obj.isCells]at ho
 rw[(grownBy_putObj' W l A).block k (jE.1 hc).1 (by simpa using C)];exact hc
def OE(F:Fence)(n:Nat)(P:j6)(g:Nat)(lb:Array iQ)(encs:Nat->Array iQ)(J:K->K->Prop)(N:Nat)(w:K):Prop:=
 ∀(l:Nat)(E:Nat->K->Prop)(W:K),iR w.heap.size w W->AbN W.heap.size E->
  (∀k C,k<N->E k C->YieldAt F (n - 1) P l (encs k) C λe A=>e=mK (mH u)/\E (k+1) A/\J C A)->
  E 0 W->CallsIn F n P g (#[.func (.yield l) #[] #[]]++lb) W λe A=>(∃v,e=mK v)/\E N A
variable {F:Fence}{n:Nat}{P:j6}
def a8f(B E:Nat)(am:Nat->K->Prop)(k:Nat)(W:K):Exit->lY->K->Prop:=
 λe _ A=>e=.normal/\KeepsFrom B W A/\NW E W A/\am k A
def EL{g:Operand}{ps:Array Tmp}{assign body:Code}(aA:F.round=U)(aH:1<=n){gf:Nat}{lb:Array iQ}(hg:a.eval g=.func (.func gf) #[] lb)(aB:F.fn gf)(eg:∀args w,(callFunc gf args).run P w=.ok (.enter gf args) w){encs:Nat->Array iQ}{N:Nat}(ax:OE F (n - 1) P gf lb encs (NW E) N w0)(hb0:iR w0.heap.size w0 w)(aD:∀k,(encs k).size=ps.size)(am:Nat->K->Prop)(hI:AbN w.heap.size am)(h0:am 0 w)(Q9:∀(l k:Nat) (W:K),k<N->am k W->assign.wpIn (F.inRound l) (n - 1 - 1) P (Exit.then (λah ai=>ai=W/\∀ak,am k ak->body.wpIn (F.inRound l) (n - 1 - 1) P (a8f w.heap.size E am (k+1) ak) ah ak) (λ_ _ _=>False))
   {tmps:=(ps.zip (encs k)).foldl (λt (p,v)=>t.setIfInBounds p v) a.tmps,defers:=[]} W)(hdone:∀(D:Nat) (W:K),w.heap.size<=D->am N W->W.heap[D]? =O (.deferred (O []))->Q .normal {a with defers:={target:=.collected D,args:=#[]}::a.defers} W):
  (Code.rangeFunc g ps assign body).wpIn F n P Q a w:=by
 refine wpIn_rangeFunc λfn aF=> ?_
 rw[aA];generalize C:(λst=>({state:=st,pending:=U,fn,tmps:=a.tmps,params:=ps,assign,body,defers:=w.heap.size}:Loop))=rec;have au:∀st,(rec st).state=st:=λst=>by rw[<-C]
 generalize ae:(w.alloc (.deferred (O []))).alloc (.loop (rec .ready))=aa;have aQ:aa.heap.size=w.heap.size+2:=by rw[<-ae];simp
 have l1:aa.heap[w.heap.size+1]? =O (.loop (rec .ready)):=by
  rw[<-ae];have:=World.alloc_heap_new (w.alloc (.deferred (O []))) (.loop (rec .ready));rwa [jY]at this
 have aI:aa.heap[w.heap.size]? =O (.deferred (O [])):=by
  rw[<-ae];exact(Below.heap_alloc _ _ _ ny).trans (World.alloc_heap_new w _)
 have i1:am 0 aa:=by
  rw[<-ae];exact hI _ _ _ U (hI _ _ _ U h0 (World.grownBy_alloc w _ U) (λ_ h=>by cases h)) (World.grownBy_alloc _ _ U) (λ_ h=>by cases h)
 have b1:iR w0.heap.size w0 aa:=by
  rw[<-ae];exact hb0.trans ((((iT _ w).alloc (iP _) _).alloc ny _).mono hb0.size)
 refine⟨w.heap.size+1,[{target:=.collected w.heap.size,args:=#[]}],aa,{target:=.fn (.func gf) lb,args:=#[.func (.yield (w.heap.size+1)) #[] #[]]},aa,gf,
  #[.func (.yield (w.heap.size+1)) #[] #[]]++lb,aa,?_,?_,?_,?_,λ_=>aH,?_⟩
 .rw[<-ae,<-C];exact run_enterLoop_outer _ _ _ _ _
 .simp only[resolve,hg]
  simp[go_sem]
 .intro aR av;simp[Target.leads]at av;subst av;exact aB
 .simp[invoke,go_sem,eg]
 .
  have keep:∀{A B:K}{row:Option Nat}{j:Nat}{o:Obj},A.grownBy B row->(∀r,row=O r->aa.heap.size<=r)->j<aa.heap.size->A.heap[j]? =O o->B.heap[j]? =O o:=by
   intro A B row j o af ag aS ho;rw[af.block j (jE.1 ho).1 (λe=>by have:=ag j e.symm;omega)];exact ho
  refine(ax (w.heap.size+1) (λk W=>am k W/\W.heap[w.heap.size+1]? =O (.loop (rec .ready))/\W.heap[w.heap.size]? =O (.deferred (O []))) aa b1
   (λs A B row hs af ag=>⟨hI s A B row hs.1 af (λr e=>by have:=ag r e;omega),keep af ag I hs.2.1,keep af ag I hs.2.2⟩) ?_ ⟨i1,l1,aI⟩).mono ?_
  .rintro k W hk ⟨hi,hl,hd⟩
   have hy:=run_yield (P:=P) (args:=encs k) hl (by rw[<-C];exact aD k);rw[<-C]at hy
   have put:∀{W:K}{st:LoopState}(J:LoopState){k:Nat},W.heap[w.heap.size+1]? =O (.loop (rec st))->W.heap[w.heap.size]? =O (.deferred (O []))->am k W->
     (W.putObj (w.heap.size+1) (.loop (rec J))).heap[w.heap.size+1]? =O (.loop (rec J))/\(W.putObj (w.heap.size+1) (.loop (rec J))).heap[w.heap.size]? =O (.deferred (O []))/\
      am k (W.putObj (w.heap.size+1) (.loop (rec J))):=by
    intro W st J k hl hd hi;exact⟨World.putObj_heap_same (jE.1 hl).1,(World.putObj_heap_other I).trans hd,hI _ _ _ (O (w.heap.size+1)) hi (grownBy_putObj' _ _ _) (λr e=>by cases e;omega)⟩
   have ay:∀st J,({rec st with state:=J}:Loop)=rec J:=λst J=>by rw[<-C]
   refine⟨fn,_,assign,body,hy,roundIn_of_wpIn aF (wpIn_mono (Q9 _ k W hk hi) ?_)⟩;rintro e ah ai hp;cases e with
   |normal=>
    obtain⟨rfl,hb⟩:=hp;have⟨aJ,aK,aL⟩:=put .busy hl hd hi;refine⟨_,run_beginRound hl (au _),?_⟩;rw[ay];refine wpIn_mono (hb _ aL) ?_;rintro e a3 W3 ⟨rfl,aG,c3,i3⟩;have az:=aG.same _ _ I aJ rfl;have aM:=aG.same _ _ (iP _) aK rfl;have⟨aN,aO,aP⟩:=put .ready az aM i3;have ag:=run_endRound (P:=P) U az;refine⟨_,_,ag,?_⟩;have e4:({rec .busy with state:=if(U:Option Code).isNone then .ready else .done,pending:=U}:Loop)=rec .ready:=by rw[<-C];rfl
    rw[e4];exact⟨rfl,⟨aP,aN,aO⟩,((NW.put _ hl rfl).trans c3).trans (NW.put _ az rfl)⟩
   |ret=>exact hp.elim
   |exit id=>exact hp.elim
   |goto t=>exact hp.elim
   |panic c=>exact hp.elim
   |outgrown=>exact hp.elim
  .rintro e ak ⟨⟨v,rfl⟩,hi,hl,hd⟩
   have aj:=run_endLoop (P:=P) hl (by rw[au];simp);have e5:(rec .ready).pending=U:=by rw[<-C]
   rw[e5]at aj;exact⟨U,_,aj,hdone _ _ (iP _) (hI _ _ _ (O (w.heap.size+1)) hi (grownBy_putObj' _ _ _) (λr e=>by cases e;omega)) ((World.putObj_heap_other I).trans hd)⟩
variable {P:j6}{ops:Array kC}{Q:Exit->lY->K->Prop}{md:kW}{n:Nat}
def a8g(l:Nat):∀ r:Result Next,o.upon P a aq Q r->o.uponIn (Fence.wide.inRound l) n P a aq Q r
 | .ok (.value v) w',h=>h
 | .ok .skip w',h=>h
 | .ok (.defer d) w',h=>h
 | .ok (.enter f args) w',h=>⟨(λh=>by cases h),CallsIn.inRound l (callsIn_wide.2 h)⟩
 | .ok (.row row args) w',h=>⟨(λh=>by cases h),λc cs _=>by
   have⟨v,w2,A,hs⟩:=h c cs;exact⟨v,w2,A,stepsIn_wide.2 hs⟩⟩
 | .ok (.round _ _ _ _ _) w',h=>h.elim
 | .halt (.panic v) w',h=>h
 | .halt (.exit _) w',h=>h.elim
 | .halt (.stuck _) w',h=>h.elim
 | .halt (.unsupported _) w',h=>h.elim
def a8h(l:Nat)(hd:∀(i:Nat) (o:kC) c,ops[i]? =O o->o.op≠.defer c)(hL:¬LetsOut Q){C:lY->K->Prop}(E:∀a w,aq a w->C a w){i:Nat}(h:wpOp P ops Q i aq a w):
  wpOpIn (Fence.wide.inRound l) n P ops Q i C a w:=by
 refine wpOpIn_mono E ?_;unfold wpOp at h;unfold wpOpIn;split;.rename_i ho;simp only[ho]at h;exact h
 .rename_i o ho
  simp only[ho]at h;split
  .rename_i A
   simp only[A,cH]at h;rcases h with h|⟨_,h⟩
   .refine⟨λ_ _=>trivial,?_⟩
    rw[Oper.semAt_plain _ _ _ (λc=>hd i o c ho)];exact a8g l _ h
   .exact absurd h hL
  .rename_i A
   simp only[A]at h;exact⟨λ_ _=>trivial,h⟩
def YZ(l:Nat)(hd:∀(i:Nat) (o:kC) c,ops[i]? =O o->o.op≠.defer c)(hL:¬LetsOut Q):∀(fuel:Nat)(A:Array Bool)(a:lY)(w:K),wpAny P md ops Q fuel A a w->
  wpAnyIn (Fence.wide.inRound l) n P md ops Q fuel A a w
 |0,_,_,_,h=>h
 |fuel+1,A,a,w,h=>⟨h.1,λi hi=>a8h l hd hL (λC w' E=>YZ l hd hL fuel _ C w' E) (h.2 i hi)⟩
def OG(ops:Array kC):Bool:=ops.all λo=>match o.op with| .defer _=>M|_=>u
def J8(h:OG ops=u)(i:Nat)(o:kC)(c:Call)(ho:ops[i]? =O o):o.op≠.defer c:=by
 intro e;have A:=Array.all_eq_true.1 h i (jE.1 ho).1;rw[(jE.1 ho).2,e]at A;cases A
def EM{id:Nat}{l:List kC}(r:Nat)(J:P.follows .mixedOrders=u)(hB:Region.lexB .any l.toArray=u)(hd:OG l.toArray=u)(hL:¬LetsOut Q)(h:wpQuiet P l.toArray (λw'=>∃k,w'=w.drewN k) (λA=>∀k,Q .normal A (w.drewN k)) l a):(jZ id l.toArray u).wpIn (Fence.wide.inRound r) n P Q a w:=by
 refine wpIn_region_any J (YZ r (J8 hd) hL _ _ _ _ ?_);have e:(λA:lY=>∀k,Q .normal A (w.drewN k))=λA=>∀w',(∃k,w'=w.drewN k)->Q .normal A w':=by
  funext A;exact propext ⟨λh w' ⟨k,hk⟩=>hk▸h k,λh k=>h _ ⟨k,rfl⟩⟩
 rw[e]at h;simp only[Region.lexB,je]at hB;refine wpAny_of_quiet (C:=λw'=>∃k,w'=w.drewN k) (Q:=λA=>∀w',(∃k,w'=w.drewN k)->Q .normal A w') (λ_ w' E h=>h w' E) _ _ _ _ ⟨1,rfl⟩ ?_;have:=wpAnyQ_lex (C:=λw'=>∃k,w'=w.drewN k) (md:=.any) hB.1 l 0 (ku l.toArray.size M) a ny (by simpa using hB.2) h;simpa using this
end
section
open Go.RowKit Go.Shelf
attribute [local go_sem] Oper.semAt_some
def wS(l:List AC)(i:Nat):UInt32:=(uo l 64).getD i 0
def uX(l:List AC):∀n,(uo l n).length=n
 |0=>rfl
 |n+1=>by rw[uo,jo,uX l n];rfl
def FM(l:List AC)(i n:Nat)(h:i<n):∀m,(uo l (n+m)).getD i 0=(uo l n).getD i 0
 |0=>rfl
 |m+1=>by
  rw[<-FM l i n h m,show n+(m+1)=(n+m)+1 by omega,uo,jN,jN,kr (by rw[uX];omega)]
def OH(l:List AC)(n i:Nat)(h:i<n)(hn:n<=64):(uo l n).getD i 0=wS l i:=by
 unfold wS;have:=FM l i n h (64 - n);rw[show n+(64 - n)=64 by omega]at this;exact this.symm
def Um(l:List AC)(i:Nat)(h:i<64):wS l i=Uk l (uo l i) i:=by
 rw[<-OH l (i+1) i I I,uo,jN,kX (by rw[uX];omega),uX];simp
def a4P(l:List AC)(i:Nat)(h:i<16):wS l i=Aa l i:=by rw[Um l i I,Uk,Ax h]
def a4Q(l:List AC)(i:Nat)(h:16<=i)(A:i<64):wS l i=wS l (i - 16)+(uW (wS l (i - 15)) 7 18 3+wS l (i - 7)+uW (wS l (i - 2)) 17 19 10):=by
 rw[Um l i A,Uk,At I,OH l i _ I I,OH l i _ I I,OH l i _ I I,OH l i _ I I]
def zI(l:Nat->UInt32):Nat->Array iQ
 |0=>ku 16 (V mQ 0)
 |k+1=>(zI l k).setIfInBounds (k % 16) (V mQ ((l k).toNat:Int))
def Cg(l:Nat->UInt32):∀k,(zI l k).size=16
 |0=>rfl
 |k+1=>by rw[zI,Array.size_setIfInBounds,Cg l k]
def wW(l:Nat->UInt32):∀ k m:Nat,m<k->k<=m+16->(zI l k)[m % 16]? =O (V mQ ((l m).toNat:Int))
 |0,m,h,_=>by omega
 |k+1,m,h,A=>by
  rw[zI];by_cases e:m=k
  .subst e
   rw[cy,Ax (by rw[Cg];omega)]
  .rw[Array.getElem?_setIfInBounds_ne I]
   exact wW l k m I I
def Ww(l:Nat->UInt32)(k j:Nat)(h:j<16):∃v,(zI l k)[j]? =O v:=⟨_,Array.getElem?_eq_getElem (by rw[Cg];exact h)⟩
def Y0{F:Fence}(aE:K->Prop)(A:aE W)(h:∀w,aE w->c.wpIn F n P Q a w):c.wpIn F n P Q a W:=h W A
def AbN.drewN{A:Type}{C:A->K->Prop}(h:AbN B C){k:A}(hk:C k w)(m:Nat):C k (w.drewN m):=h _ _ _ U hk ⟨rfl,rfl,rfl,iP _,λ_ _ _=>rfl⟩ (λ_ e=>by cases e)
def AbN.set{A:Type}{C:A->K->Prop}(h:AbN B C){k:A}(hk:C k w)(hb:B<=b)(i:Nat)(v:iQ):C k (w.setCell (Z b i U) v):=
 h _ _ _ (O b) hk ⟨rfl,rfl,rfl,by simp[jr],λj _ E=>jh _ _ _ _ (λe=>E (by rw[e]))⟩ (λ_ e=>by cases e;exact hb)
def a2G(f:FuncId):Fence.wide.fn f:=trivial
def Ij(n:Nat):Fence.wide.depth.isSome=u->1<=n:=λh=>Bool.noConfusion h
def Y1(l:Nat->UInt32)(k:Nat):Array iQ:=#[V X (k:Int),V mQ ((l k).toNat:Int)]
def Wx(x:UInt32)(p q r:Int)(w:K)(hp:1<=p/\p<=31)(A:1<=q/\q<=31)(C:1<=r/\r<=31):
  iW iN 284 #[V mQ x.toNat,V X p,V X q,V X r] w λe w'=>e=mK (V mQ (uW x p.toNat q.toNat r.toNat).toNat)/\∃n,w'=w.drewN n:=by
 have h:=Mj x p.toNat q.toNat r.toNat w I I I;rwa [show((p.toNat:Nat):Int)=p by omega,show((q.toNat:Nat):Int)=q by omega,show((r.toNat:Nat):Int)=r by omega]at h
def Y2(h:p:=by
 refine Y0 (λW2=>J k W2/\mY W2 B (zI wv (k+1)) 314/\mY W2 Bs #[H s] 9) ⟨hJ.set (hJ.drewN hJs _) a9W _ _,(hR.drewN _).set _ _,(hS.drewN _).setOther hne _⟩ ?_;rintro W1 ⟨hJ1,hR1,hS1⟩;have⟨fn,tmps,assign,body,hy,hR'⟩:=hY k W1 hlt hJ1;unfold Y1 at hy;have hc1:W1.cell? (Z B (k % 16) U)=O (V mQ ((wv k).toNat:Int)):=(hR1.cell _).trans (wW _ _ _ I I)
 gi_wp2
 refine⟨Ij _,hR'.mono ?_⟩;rintro e W3 ⟨rfl,hJ3,hK3⟩
 gi_wp2
 go_roundw;case rel=>exact⟨k+1,I,by go_num,hJ3,hK3.2 _ _ _ _ I hR1,hK3.2 _ _ _ _ hE hS1⟩
 case measure=>simp[jF];omega):p:=h
def Ra(n l Bs E:Nat)(s:An)(wv:Nat->UInt32)(aj:∀(k:Nat) (w:K),k<16->iW iN 273 #[H s,V X k] w λe w'=>e=mK (V mQ (wv k).toNat)/\∃n,w'=w.drewN n)(A:∀k,16<=k->k<64->wv k=wv (k - 16)+(uW (wv (k - 15)) 7 18 3+wv (k - 7)+uW (wv (k - 2)) 17 19 10))(J:Nat->K->Prop)(W:K)(hJ:AbN W.heap.size J)(hY:∀k W1,k<64->J k W1->YieldAt Fence.wide (n - 1) iN l (Y1 wv k) W1 λe N=>e=mK (mH u)/\J (k+1) N/\NW E W1 N)(hE:E<=Bs)(qP:mY W Bs #[H s] 9)(h0:J 0 W):
  CallsIn Fence.wide n iN 283 #[.func (.yield l) #[] #[],mG (O (Z Bs 0 U))] W λe N=>(∃v,e=mK v)/\J 64 N:=by
 have ak:Fence.wide.round=U:=rfl;have au:=Y aj;have av:=Y A;obtain⟨B,hB⟩:=o7 W;have aH:Bs<B:=by rw[<-hB];exact qP.lt
 refine callsIn_of_wp Tryz.func283 rfl trivial ?_ ak;simp only[Tryz.ntmps283,lh,jD,dq,Nat.reduceAdd,Nat.reduceSub,Array.replicate_succ,Array.replicate_zero,List.push_toArray,List.append_toArray,cW,cP]
 gi_wp2
 have ax:mY (W.alloc (mM (zI wv 0) 314)) B (zI wv 0) 314:=by rw[<-hB];exact mY.new _ _ _
 have ay:=hJ _ _ _ U h0 (World.grownBy_alloc W (mM (zI wv 0) 314) U) (λ_ h=>by cases h);have ae:=qP.alloc (mM (zI wv 0) 314)
 gi_loopw [6] (λi wr=>∃k:Nat,k<=64/\i=V X k/\J k wr/\mY wr B (zI wv k) 314/\mY wr Bs #[H s] 9) (λi _=>64 -(jF i).toNat)
 case atStart=>exact⟨0,I,rfl,ay,ax,ae⟩
 case round=>
  obtain⟨k,hk,rfl,hJs,hR,hS⟩:=hrel;by_cases hlt:k<64
  .have hcs:=hS.cell 0
   have hcs:=hcs;have hne:Bs≠B:=I;have a9W:W.heap.size<=B:=I;have⟨v0,aa⟩:=Ww wv k (k % 16) I;have az:=(hR.cell _).trans aa;have aM:=hR.free (k % 16);by_cases aA:k<16
   .have aI:=Y (λw=>au.out k w aA)
    gi_upto_region 8 with(refine⟨trivial,?_⟩;gi_at_call 273;skip)
    refine⟨a2G _,Ij _,CallsIn.mono (callsIn_wide.2 (aI _)) ?_⟩;rintro e w' ⟨rfl,nq,rfl⟩
    gi_upto_region 8 with(fail)
    exact Y2
   .have af:=wW wv k (k - 16) I I
    have e1:=wW wv k (k - 15) I I;have ag:=wW wv k (k - 7) I I;have C:=wW wv k (k - 2) I I;rw[show(k - 16) % 16=k % 16 by omega]at af;rw[show(k - 15) % 16=(k+1) % 16 by omega]at e1;rw[show(k - 7) % 16=(k+9) % 16 by omega]at ag;rw[show(k - 2) % 16=(k+14) % 16 by omega]at C;have l0:=(hR.cell (k % 16)).trans af;have l1:=(hR.cell ((k+1) % 16)).trans e1;have aP:=(hR.cell ((k+9) % 16)).trans ag;have aN:=(hR.cell ((k+14) % 16)).trans C;have A:=av.out k I I;generalize aB:wv (k - 16)=aJ at*;generalize aD:wv (k - 15)=aK at*;generalize aF:wv (k - 7)=aL at*;generalize ah:wv (k - 2)=aG at*;have ai:=Y A;clear A af e1 ag C aB aD aF ah az hcs aa
    gi_upto_region 7 with(refine⟨trivial,?_⟩;skip)
    refine wpIn_wide.2 (oZ 24 mZ mZ ?_);simp only[jm,jI,kZ,ll];repeat(go_big_quiet_step (exact Calls.quiet_of (Wx _ _ _ _ _ mX mX mX)))
    refine jT ?_;intro aO;go_wp2;have hval:(((aJ.toNat:Int)+(((uW aK 7 18 3).toNat:Int)+(aL.toNat:Int)+((uW aG 17 19 10).toNat:Int))) % 4294967296)=((wv k).toNat:Int):=by
     rw[ai.out,<-tY,<-tY,<-tY];omega
    rw[hval];exact Y2
  .obtain rfl:k=64:=I
   gi_wp2
   go_end0;exact⟨⟨_,rfl⟩,hJs⟩
def a8i(b:Nat):iQ:=.func (.func 283) #[] #[mG (O (Z b 0 U))]
def Rb(s:An)(w:K):
  iW iN 274 #[H s] w λe w'=>∃b,e=mK (a8i b)/\w.heap.size<=b/\iR w.heap.size w w'/\mY w' b #[H s] 9:=by
 go_in;go_wp2;go_returns;exact⟨_,rfl,iP _,(iT _ _).alloc (iP _) _,mY.new _ _ _⟩
def Rc(n Bs E:Nat)(s:An)(w:K)(hs:s.size=64)(J:E<=Bs)(hB:mY w Bs #[H s] 9):
  OE Fence.wide n iN 283 #[mG (O (Z Bs 0 U))] (Y1 (wS s.data.toList)) (NW E) 64 w:=by
 intro l ae W hb N aa h0;exact Ra n l Bs E s (wS s.data.toList) (λk w hk=>by
  rw[a4P _ _ hk];exact OD s k w I I) (λk A C=>a4Q _ _ A C) ae W N aa J (a7 hb hB hB.lt) h0
end
section
open Go.RowKit
section fold
variable {σ:Type}(step:σ->Nat×Nat->Nat->σ)
def pK(f:Nat->Option Nat):List (Nat×Nat)->σ->σ
 |[],s=>s
 |p::r,s=>pK f r (match f p.1 with|some b=>step s p b|none=>s)
def upd(f:Nat->Option Nat)(i b:Nat):Nat->Option Nat:=λj=>if j=i then O b else f j
variable {step}
def Ch(hc:∀s p q b c,p.1≠q.1->p.2≠q.2->step (step s p b) q c=step (step s q c) p b)(f:Nat->Option Nat)(p:Nat×Nat)(b:Nat):
  ∀(l:List (Nat×Nat))(s:σ),(∀q∈l,p.1≠q.1/\p.2≠q.2)->pK step f l (step s p b)=step (pK step f l s) p b
 |[],s,_=>rfl
 |q::r,s,h=>by
  have C:=h q ny;rw[pK,pK];cases E:f q.1 with
  |none=>exact Ch hc f p b r s λx A=>h x (by simp[A])
  |some c=>
   show pK step f r (step (step s p b) q c)=step (pK step f r (step s q c)) p b;rw[hc s p q b c C.1 C.2];exact Ch hc f p b r _ λx A=>h x (by simp[A])
def xU(f g:Nat->Option Nat):∀(l:List (Nat×Nat))(s:σ),(∀q∈l,f q.1=g q.1)->pK step f l s=pK step g l s
 |[],s,_=>rfl
 |q::r,s,h=>by
  rw[pK,pK,h q ny];exact xU f g r _ λx A=>h x (by simp[A])
def EN(hc:∀s p q b c,p.1≠q.1->p.2≠q.2->step (step s p b) q c=step (step s q c) p b)(f:Nat->Option Nat)(p:Nat×Nat)(b:Nat)(C:f p.1=U):
  ∀(l:List (Nat×Nat))(s:σ),l.Pairwise (λx y=>x.1≠y.1/\x.2≠y.2)->p∈l->step (pK step f l s) p b=pK step (upd f p.1 b) l s
 |[],s,_,h=>by cases h
 |q::r,s,hl,h=>by
  rw[List.pairwise_cons]at hl;rcases l5.1 h with rfl|E
  .have A:=hl.1
   rw[pK,pK,C];have e:upd f p.1 b p.1=O b:=by simp[upd]
   rw[e];show step (pK step f r s) p b=pK step (upd f p.1 b) r (step s p b);rw[<-Ch hc f p b r s A];refine xU _ _ r _ λx J=> ?_
   have:=(A x J).1;unfold upd;rw[At (mf this)]
  .have A:=hl.1 p E
   rw[pK,pK];have e:upd f p.1 b q.1=f q.1:=by unfold upd;rw[At A.1]
   rw[e];exact EN hc f p b C r _ hl.2 E
end fold
def Ik(a:lY)(p:Nat×Nat)(b:Nat):lY:=a.put (O p.2) (mG (O (Z b 0 U)))
def ze(L:Array Bool)(p:Nat×Nat)(b:Nat):Array Bool:=L.setIfInBounds p.1 u
def Wy(s:lY)(p q:Nat×Nat)(b c:Nat)(C:p.1≠q.1)(A:p.2≠q.2):Ik (Ik s p b) q c=Ik (Ik s q c) p b:=by
 unfold Ik;exact(Act.put_comm s _ _ (λd hd=>by cases hd;simpa using λe=>A e)).symm
def Wz(s:Array Bool)(p q:Nat×Nat)(b c:Nat)(A:p.1≠q.1)(C:p.2≠q.2):ze (ze s p b) q c=ze (ze s q c) p b:=by
 unfold ze;exact Array.setIfInBounds_comm _ _ A
def Db(f:Nat->Option Nat)(d:Bool)(j:Nat):∀(l:List (Nat×Nat))(L:Array Bool),(∀p∈l,p.1=j->f p.1=U)->(pK ze f l L).getD j d=L.getD j d
 |[],L,_=>rfl
 |p::r,L,h=>by
  rw[pK,Db f d j r _ λx A=>h x (by simp[A])];cases C:f p.1 with
  |none=>rfl
  |some b=>
   have:p.1≠j:=λe=>by have:=h p ny e;rw[C]at this;cases this
   exact getD_set_ne d this
def KP(f:Nat->Option Nat)(j:Nat):∀(l:List (Nat×Nat))(L:Array Bool),L.getD j M=u->(pK ze f l L).getD j M=u
 |[],L,h=>h
 |p::r,L,h=>by
  rw[pK];refine KP f j r _ ?_;cases A:f p.1 with
  |none=>exact h
  |some b=>exact getD_set_true h
def KQ(f:Nat->Option Nat)(d:Bool)(j:Nat):∀(l:List (Nat×Nat))(L:Array Bool),L.getD j d=u->(pK ze f l L).getD j d=u
 |[],L,h=>h
 |p::r,L,h=>by
  rw[pK];refine KQ f d j r _ ?_;cases A:f p.1 with
  |none=>exact h
  |some b=>
   by_cases e:p.1=j
   .subst e
    unfold ze;simp only[jJ,cy];split;.rfl
    .rename_i hn
     rw[jJ,mi I]at h;exact h
   .exact(getD_set_ne d e).trans h
def KR(f:Nat->Option Nat)(p:Nat×Nat)(b:Nat)(A:f p.1=O b):∀(l:List (Nat×Nat))(L:Array Bool),p∈l->(pK ze f l L).getD p.1 u=u
 |[],_,h=>by cases h
 |q::r,L,h=>by
  rw[pK];rcases l5.1 h with rfl|C
  .rw[A]
   refine KQ f u p.1 r _ ?_;show(L.setIfInBounds p.1 u).getD p.1 u=u;rw[jJ,cy];split<;>rfl
  .exact KR f p b A r _ C
def left(f:Nat->Option Nat)(l:List (Nat×Nat)):Nat:=(l.filter λp=>(f p.1).isNone).length
def OI(f:Nat->Option Nat)(p:Nat×Nat)(b:Nat)(C:f p.1=U):∀(l:List (Nat×Nat)),l.Pairwise (λx y=>x.1≠y.1/\x.2≠y.2)->p∈l->left f l=left (upd f p.1 b) l+1
 |[],_,h=>by cases h
 |q::r,hl,h=>by
  rw[List.pairwise_cons]at hl;unfold left;rcases l5.1 h with rfl|E
  .have e:(upd f p.1 b p.1).isNone=M:=by simp[upd]
   rw[List.filter_cons_of_pos (by simp[C]),List.filter_cons_of_neg (by simp[e]),jD];congr 2;refine List.filter_congr λx N=> ?_
   have:=(hl.1 x N).1;unfold upd;rw[At (mf this)]
  .have J:=(hl.1 p E).1
   have e:upd f p.1 b q.1=f q.1:=by unfold upd;rw[At J]
   have A:=OI f p b C r hl.2 E;unfold left at A;by_cases c:(f q.1).isNone=u;.rw[List.filter_cons_of_pos (by simpa using c),List.filter_cons_of_pos (by rw[e];simpa using c),jD,jD,A]
   .rw[List.filter_cons_of_neg (by simpa using c),List.filter_cons_of_neg (by rw[e];simpa using c),A]
structure a4R(an:Nat)(T:jl)(z:iQ)(w0:K)(f:Nat->Option Nat)(l:List (Nat×Nat))(w:K):Prop where
 below:iR an w0 w
 blk:∀p∈l,∀b,f p.1=O b->an<=b/\mY w b #[z] T
 inj:∀p∈l,∀q∈l,∀b,f p.1=O b->f q.1=O b->p.1=q.1
variable {P:j6}{ops:Array kC}{Q:Exit->lY->K->Prop}{S:K->Prop}{md:kW}
def OJ{an:Nat}{a0:lY}(l:List (Nat×Nat))(hl:l.Pairwise (λx y=>x.1≠y.1/\x.2≠y.2))(aP:an<=w0.heap.size)(ai:∀p∈l,∃o,ops[p.1]? =O o/\o.dst=O p.2/\o.guard=U/\(∀aQ w,(execOp aQ o).run P w=.ok (.value (mG (O (Z w.heap.size 0 U)))) (w.alloc (mM #[z] T)))/\
   (∀e∈o.after,lD md e=u->A.getD e.on M=u)/\A.getD p.1 u=M)(ax:∀j o,ops[j]? =O o->A.getD j u=M->(∀p∈l,p.1≠j)->∀p∈l,∃e∈o.after,lD md e=u/\e.on=p.1)(aJ:∀w,S w->S (w.alloc (mM #[z] T)))(aF:∀(bs:Nat->Nat) w,S w->a4R an T z w0 (λi=>O (bs i)) l w->wpAnyH P md ops Q S fuel (pK ze (λi=>O (bs i)) l A) (pK Ik (λi=>O (bs i)) l a0) w):
  ∀(k:Nat)(f:Nat->Option Nat)(w:K),left f l=k->S w->a4R an T z w0 f l w->wpAnyH P md ops Q S (fuel+k) (pK ze f l A) (pK Ik f l a0) w:=by
 intro k;induction k with
 |zero=>
  intro f w hk af N;have J:∀p∈l,f p.1=O ((f p.1).getD 0):=by
   intro p hp;cases aa:f p.1 with
   |some b=>rfl
   |none=>
    have:p∈l.filter λp=>(f p.1).isNone:=List.mem_filter.2 ⟨hp,by simp[aa]⟩
    rw[j5.1 hk]at this;cases this
  have h:=aF (λi=>(f i).getD 0) w af ⟨N.below,λp hp b hb=>N.blk p hp b (by rw[J p hp];exact hb),λp hp q ae b C E=>N.inj p hp q ae b (by rw[J p hp];exact C) (by rw[J q ae];exact E)⟩;rw[xU f (λi=>O ((f i).getD 0)) l A J,xU f (λi=>O ((f i).getD 0)) l a0 J];exact h
 |succ k aR=>
  intro f w hk af N;have ag:∀p∈l,f p.1=U->(pK ze f l A).getD p.1 u=M/\(pK ze f l A).getD p.1 M=M:=by
   intro p hp aa;have⟨o,_,_,_,_,_,h0⟩:=ai p hp;rw[Db f u p.1 l A (λx _ e=>by rw[e];exact aa),Db f M p.1 l A (λx _ e=>by rw[e];exact aa)];refine⟨h0,?_⟩;rw[jJ]at h0|-;cases ay:A[p.1]? with
   |none=>rw[ay]at h0;cases h0
   |some v=>rw[ay]at h0;exact h0
  have⟨aj,ah,az⟩:∃p∈l,f p.1=U:=by
   have:0<(l.filter λp=>(f p.1).isNone).length:=by show 0<left f l;omega
   have⟨p,hp⟩:=List.exists_mem_of_length_pos this;have⟨C,E⟩:=List.mem_filter.1 hp;exact⟨p,C,by simpa using E⟩
  have ak:∀i,i∈kI md ops (pK ze f l A)->∃p∈l,p.1=i/\f p.1=U:=by
   intro i hi;have⟨h0,o,ho,he⟩:=mem_ready.1 hi;rcases Classical.em (∃p∈l,p.1=i)with⟨p,hp,aA⟩|aB
   .refine⟨p,hp,aA,?_⟩
    cases aa:f p.1 with
    |none=>rfl
    |some b=>
     have:=KR f p b aa l A hp;rw[aA,h0]at this;cases this
   .exfalso
    have hL:A.getD i u=M:=by rw[<-h0,Db f u i l A (λx ay e=>absurd ⟨x,ay,e⟩ aB)]
    have⟨e,au,av,aK⟩:=ax i o ho hL (λp hp e=>aB ⟨p,hp,e⟩) aj ah;have C:=he e au av;rw[aK,(ag aj ah az).2]at C;cases C
  refine⟨λaG=> ?_,λi hi=> ?_⟩
  .exfalso
   have⟨o,ho,_,_,_,aL,_⟩:=ai aj ah;have:aj.1∈kI md ops (pK ze f l A):=mem_ready.2 ⟨(ag aj ah az).1,o,ho,λe au av=>KP f e.on l A (aL e au av)⟩;rw[aG]at this;cases this
  .obtain⟨p,hp,rfl,aa⟩:=ak i hi
   have⟨o,ho,aH,hg,aI,_,_⟩:=ai p hp;unfold wpOp;simp only[ho];have aS:∀y,lG o y=u:=λy=>by unfold lG;rw[hg]
   rw[Ax (aS _)];refine .inl ?_;unfold Oper.wp;rw[aI];show S _/\wpAnyH P md ops Q S (fuel+k) _ ((pK Ik f l a0).put o.dst (mG (O (Z w.heap.size 0 U)))) _;rw[aH];refine⟨aJ w af,?_⟩;have e1:=EN Wz f p w.heap.size aa l A hl hp;have e2:=EN Wy f p w.heap.size aa l a0 hl hp;have aM:(pK ze f l A).setIfInBounds p.1 u=pK ze (upd f p.1 w.heap.size) l A:=e1;have aN:(pK Ik f l a0).put (O p.2) (mG (O (Z w.heap.size 0 U)))=pK Ik (upd f p.1 w.heap.size) l a0:=e2;rw[aM,aN];have aU:=OI f p w.heap.size aa l hl hp;have aD:=jk aP N.below.size;refine aR _ _ I (aJ w af) ⟨N.below.alloc aD _,λq ae b hb=> ?_,λq ae r aO b C E=> ?_⟩
   .unfold upd at hb
    by_cases c:q.1=p.1
    .rw[Ax c]at hb
     cases hb;exact⟨aD,mY.new w _ T⟩
    .rw[At c]at hb
     have⟨C,E⟩:=N.blk q ae b hb;exact⟨C,E.alloc _⟩
   .unfold upd at C E
    by_cases c:q.1=p.1
    .by_cases d:r.1=p.1
     .rw[c,d]
     .rw[Ax c]at C
      rw[At d]at E;cases C;exact absurd (N.blk r aO _ E).2.lt (Nat.lt_irrefl _)
    .rw[At c]at C
     by_cases d:r.1=p.1
     .rw[Ax d]at E
      cases E;exact absurd (N.blk q ae _ C).2.lt (Nat.lt_irrefl _)
     .rw[At d]at E
      exact N.inj q ae r aO b C E
section
variable {P:j6}{am:K->Prop}
end
section
variable {P:j6}{ops:Array kC}{md:kW}{C S:K->Prop}{Q:Exit->lY->K->Prop}
end
end
section
open Go.RowKit Go.Shelf
def S8.cs(s:S8):Array iQ:=#[V mQ (s.a.toNat:Int),V mQ (s.b.toNat:Int),V mQ (s.c.toNat:Int),V mQ (s.d.toNat:Int),V mQ (s.e.toNat:Int),V mQ (s.f.toNat:Int),V mQ (s.g.toNat:Int),V mQ (s.h.toNat:Int)]
def a8j(md:kW)(ops:Array kC)(A:Array Bool)(l:List (Nat×Nat)):Bool:=
 (kG ops.size).all λj=>A.getD j u||(l.any λp=>p.1==j)||(match ops[j]? with|some o=>l.all λp=>o.after.any λe=>lD md e&&e.on==p.1|none=>u)
def Re{E:Array Bool}(h:a8j md ops E l=u):
  ∀j o,ops[j]? =O o->E.getD j u=M->(∀p∈l,p.1≠j)->∀p∈l,∃e∈o.after,lD md e=u/\e.on=p.1:=by
 intro j o ho hL J p hp;have A:=kz.1 h j (lu.2 (jE.1 ho).1);rw[hL]at A;have N:(l.any λp=>p.1==j)=M:=by
  rw[List.any_eq_false];intro q aa;simpa using J q aa
 rw[N]at A;simp only[ho,Bool.false_or]at A;have ae:=kz.1 A p hp;have⟨i,hi,C⟩:=Array.any_eq_true.1 ae;simp only[je,beq_iff_eq]at C;exact⟨_,Array.getElem_mem hi,C.1,C.2⟩
def OL(md:kW)(ops:Array kC)(A:Array Bool)(T:jl)(p:Nat×Nat):Bool:=
 match ops[p.1]? with
 |some o=>(o.dst==O p.2)&&o.guard.isNone&&(match o.op with| .alloc t=>t==T|_=>M)&&(o.after.all λe=> !(lD md e)||A.getD e.on M)&& !(A.getD p.1 u)
 |none=>M
def J9{J:Array Bool}(h:(l.all (OL md ops J T))=u)(af:∀C dst E pos after w,(execOp C {dst:=dst,op:=.alloc T,type:=E,pos:=pos,after:=after,guard:=U}).run P w=.ok (.value (mG (O (Z w.heap.size 0 U)))) (w.alloc (mM #[z] T))):
  ∀p∈l,∃o,ops[p.1]? =O o/\o.dst=O p.2/\o.guard=U/\(∀C w,(execOp C o).run P w=.ok (.value (mG (O (Z w.heap.size 0 U)))) (w.alloc (mM #[z] T)))/\
   (∀e∈o.after,lD md e=u->J.getD e.on M=u)/\J.getD p.1 u=M:=by
 intro p hp;have A:=kz.1 h p hp;unfold OL at A;cases ho:ops[p.1]? with
 |none=>rw[ho]at A;cases A
 |some o=>
  rw[ho]at A;simp only[je,beq_iff_eq,el]at A;obtain⟨⟨⟨⟨A,aa⟩,N⟩,ae⟩,ag⟩:=A;obtain⟨dst,op,E,pos,after,guard⟩:=o;simp only at A aa N ae;cases guard with
  |some g=>cases aa
  |none=>
   cases op<;>simp at N;subst N;refine⟨_,rfl,A,rfl,λC w=>af C _ _ _ _ w,λe he hb=> ?_,ag⟩;have:=Array.all_eq_true'.1 ae e he;simpa [hb]using this
def WA(C:Operand->iQ)(dst:Option Tmp)(A:jl)(pos:String)(after:Array Edge)(w:K):
  (execOp C {dst:=dst,op:=.alloc 22,type:=A,pos:=pos,after:=after,guard:=U}).run iN w=.ok (.value (mG (O (Z w.heap.size 0 U)))) (w.alloc (mM #[V mQ 0] 22)):=by
 simp[go_sem]
def WB(k:Nat)(w:K)(hk:k<64):
  iW iN 272 #[V X k] w λe w'=>e=mK (V mQ (kN k).toNat)/\∃n,w'=w.drewN n:=by
 have⟨aE,A⟩:∃aE:An,aE=⟨YY.toArray⟩:=⟨_,rfl⟩;have C:aE.size=256:=by rw[A];rfl
 have c1:=OD aE k w I I;have e1:Aa aE.data.toList k=kN k:=by rw[A];rfl
 rw[e1]at c1;have c1:=Y c1;have A:=Y A;go_in;go_wp2_with fail;rw[A.out]at c1;refine c1.mono ?_;rintro e w' ⟨rfl,n,rfl⟩;go_wp2;go_returns;exact⟨rfl,_,rfl⟩
def Ka(h:c.wp P (Exit.then aq λ_ _ _=>False) a w):c.wp P (Exit.then aq Q) a w:=
 wp_mono h λe a w=>by cases e<;>first|exact λh=>h|exact λh=>h.elim
def vZ{S:K->Prop}(aE:K->Prop)(C:aE W)(h:∀w,aE w->wpAnyH P md ops Q S n A a w):wpAnyH P md ops Q S n A a W:=h W C
def upI(x:Nat->Int)(j:Nat)(y:Int):Nat->Int:=λi=>if i=j then y else x i
def S8.at_(s:S8):Nat->Int
 |0=>s.a.toNat
 |1=>s.b.toNat
 |2=>s.c.toNat
 |3=>s.d.toNat
 |4=>s.e.toNat
 |5=>s.f.toNat
 |6=>s.g.toNat
 |_=>s.h.toNat
structure a8k(b0:Nat)(bs:Nat->Nat):Prop where
 inj:∀i j,i<8->j<8->bs (16+i)=bs (16+j)->i=j
 ge:∀j,j<8->b0+3<=bs (16+j)
structure wh(b0:Nat)(bs:Nat->Nat)(cs:Array iQ)(w:K)(x:Nat->Int)(W:K):Prop where
 below:iR b0 w W
 st:mY W b0 cs 31
 res:mY W (b0+1) (ku 8 (V mQ 0)) 31
 cl:mY W (b0+2) #[.func (.func 272) #[] #[]] 302
 v:∀j,j<8->mY W (bs (16+j)) #[V mQ (x j)] 22
def wh.set{cs:Array iQ}(h:wh b0 bs cs w x W)(hs:a8k b0 bs)(j:Nat)(A:j<8)(y:Int):
  wh b0 bs cs w (upI x j y) (W.setCell ⟨bs (16+j),0,U⟩ (V mQ y)):=by
 have hg:=hs.ge j A;refine⟨h.below.setCell nk _,h.st.setOther nk _,h.res.setOther nk _,h.cl.setOther nk _,λi hi=> ?_⟩;by_cases e:i=j
 .subst e
  have:=(h.v i hi).set 0 (V mQ y);simpa [upI]using this
 .have C:bs (16+i)≠bs (16+j):=λc=>e (hs.inj i j hi A c)
  have:=(h.v i hi).setOther (a:=⟨bs (16+j),0,U⟩) C (V mQ y);simpa [upI,e]using this
def wh.drewN{cs:Array iQ}(h:wh b0 bs cs w x W)(n:Nat):wh b0 bs cs w x (W.drewN n):=
 ⟨⟨h.below.os,h.below.tape,h.below.output,h.below.size,h.below.block⟩,h.st,h.res,h.cl,h.v⟩
def wh.congr{cs:Array iQ}{y:Nat->Int}(h:wh b0 bs cs w x W)(e:∀j,j<8->x j=y j):wh b0 bs cs w y W:=
 ⟨h.below,h.st,h.res,h.cl,λj A=>by rw[<-e j A];exact h.v j A⟩
def wh.grown{cs:Array iQ}{A:K}{row:Option Nat}(h:wh b0 bs cs w x W)(N:∀j,j<8->bs (16+j)<E)(aa:b0+2<E)(hg:W.grownBy A row)(C:∀r,row=O r->E<=r):wh b0 bs cs w x A:=by
 have keep:∀{b cs t},mY W b cs t->b<E->mY A b cs t:=by
  intro b cs t hb hlt;unfold mY;rw[hg.block b hb.lt (λe=>by have:=C b e.symm;omega)];exact hb
 have hlt:=h.st.lt;refine⟨h.below.grown hg I (λk hk=>by have:=C k hk;omega),keep h.st I,keep h.res I,keep h.cl I,λj J=>keep (h.v j J) (N j J)⟩
def Bc:∀j,j<8->(16+j,6+j)∈[(16,6),(17,7),(18,8),(19,9),(20,10),(21,11),(22,12),(23,13)]:=mX
def a8l(x:UInt32):bits BinOp.xor kF (if IntKind.u32.signed=u then -1 else IntKind.u32.max) (x.toNat:Int)=((~~~x).toNat:Int):=by
 have h:=xB 4294967295 x;have e:(4294967295:UInt32)^^^x= ~~~x:=by
  apply UInt32.toBitVec_inj.1;simp only[UInt32.toBitVec_xor,UInt32.toBitVec_not];apply BitVec.eq_of_getLsbD_eq;intro i hi;have A:(4294967295:UInt32).toBitVec=BitVec.allOnes 32:=mX;rw[A];simp only[BitVec.getLsbD_xor,BitVec.getLsbD_not,BitVec.getLsbD_allOnes,hi,decide_true,lX];cases x.toBitVec.getLsbD i<;>rfl
 rw[e]at h;exact h
def Il(x:UInt32)(p q r:Int)(w:K)(hp:1<=p/\p<=31)(A:1<=q/\q<=31)(C:1<=r/\r<=31):
  iW iN 275 #[V mQ x.toNat,V X p,V X q,V X r] w λe w'=>e=mK (V mQ (Oz x p.toNat q.toNat r.toNat).toNat)/\w=w':=by
 have h:=Q8 x p.toNat q.toNat r.toNat w I I I;rwa [show((p.toNat:Nat):Int)=p by omega,show((q.toNat:Nat):Int)=q by omega,show((r.toNat:Nat):Int)=r by omega]at h
def uJ{ad:K}(h:KeepsFrom E W ad/\NW E W ad)(hb:b<E)(v:iQ):KeepsFrom E W (ad.setCell (Z b 0 U) v)/\NW E W (ad.setCell (Z b 0 U) v):=by
 have hg:ad.grownBy (ad.setCell (Z b 0 U) v) (O b):=⟨rfl,rfl,rfl,by simp[jr],λk _ A=>jh _ _ _ _ (λe=>A (by rw[e]))⟩;refine⟨h.1.trans (KeepsFrom.of_grownBy hg (λj e=>by cases e;exact hb)),h.2.trans ⟨hg.size,λk cs t m hk hc=> ?_⟩⟩;rw[hg.block k (jE.1 hc).1 nk];exact hc
def S8.get(s:S8):Nat->UInt32
 |0=>s.a
 |1=>s.b
 |2=>s.c
 |3=>s.d
 |4=>s.e
 |5=>s.f
 |6=>s.g
 |_=>s.h
def FN(s t:S8)(k j:Nat):iQ:=V mQ (((match Nat.blt j k with|true=>s.get j+t.get j|false=>s.get j):UInt32).toNat:Int)
def a2H(s t:S8)(k:Nat):Array iQ:=#[FN s t k 0,FN s t k 1,FN s t k 2,FN s t k 3,FN s t k 4,FN s t k 5,FN s t k 6,FN s t k 7]
def uK(h:iR b0 w W)(j:Nat)(v:iQ):iR b0 w (W.setCell (Z (b0+1) j U) v):=h.setCell (jO _) _
end
section
open Go.RowKit
section
variable {P:j6}{ops:Array kC}{md:kW}{S:K->Prop}{Q:Exit->lY->K->Prop}
def uY(i:Nat){oi:kC}{v:iQ}{C:Array Bool}{E:lY}(N:S w)(h:wpAnyH P md ops Q S fuel C E w)(hi:ops[i]? =O oi:=by simp only[ji,jc,jb]<;>rfl)(aa:∀c a w,Q (.panic c) (a.put oi.dst v) w->Q (.panic c) a w:=by exact λ_ _ _ h=>h)(ae:lG oi (yielded ops a.tmps)=u:=by rfl)(hy:∀w,S w->(execOp a.eval oi).run P w=.ok (.value v) w:=by(intro w J;(try dsimp only at J);go_simp;try rfl))(af:a.put oi.dst v=E:=by(try simp only[l7,iX,jg,jf]);rfl)(hl:A.setIfInBounds i u=C:=by(try simp only[l7,iX,jg,jf]);rfl)(hs:Region.noSelect ops=u:=by kernel_rfl)(ag:Region.free md ops A i=u:=by kernel_rfl)(ah:(kI md ops A).contains i=u:=by kernel_rfl):
  wpAnyH P md ops Q S (fuel+1) A a w:=wpAnyH_take hi hs ag ah aa (.inl ⟨ae,hy⟩) N (by rw[hl,af];exact h)
end
def Dc(h:p:=by simp only[ji,jc,jb]<;>rfl):p:=h
end
section
open Go.RowKit Go.Shelf
attribute [local go_sem] Oper.semAt_some
def a5G(h:k<8):k=0\/k=1\/k=2\/k=3\/k=4\/k=5\/k=6\/k=7:=I
def a5H(s t:S8)(h:k<8):(a2H s t k)[k]? =O (V mQ ((s.get k).toNat:Int)):=by
 rcases a5G h with rfl|rfl|rfl|rfl|rfl|rfl|rfl|rfl<;>rfl
def a2I(s t:S8)(h:k<8):(a2H s t k).setIfInBounds k (V mQ ((s.get k+t.get k).toNat:Int))=a2H s t (k+1):=by
 rcases a5G h with rfl|rfl|rfl|rfl|rfl|rfl|rfl|rfl<;>rfl
def a8m(T:S8)(h:k<8)(w:K):(jX 31 (mI #[V mQ (T.a.toNat:Int),V mQ (T.b.toNat:Int),V mQ (T.c.toNat:Int),V mQ (T.d.toNat:Int),V mQ (T.e.toNat:Int),V mQ (T.f.toNat:Int),V mQ (T.g.toNat:Int),V mQ (T.h.toNat:Int)]) (V X k)).run iN w=.ok (V mQ ((T.get k).toNat:Int)) w:=by
 rcases a5G h with rfl|rfl|rfl|rfl|rfl|rfl|rfl|rfl<;>rfl
def Un(st:S8)(s:An)(w:K)(hs:s.size=64):
  iW iN 254 #[mI st.cs,H s] w λe w'=>e=mK (mI (Gs st s.data.toList).cs)/\iR w.heap.size w w':=by
 refine(callsIn_wide (n:=8)).1 ?_;refine callsIn_of_wp_marks Tryz.func254 rfl trivial ?_ rfl;simp only[Tryz.ntmps254,lh,jD,dq,Nat.reduceAdd,Nat.reduceSub,Array.replicate_succ,Array.replicate_zero,List.push_toArray,List.append_toArray,cW,cP];refine wpIn_wide.2 ?_;go_upto_region 1 with fail;obtain⟨b0,hb0⟩:=o7 w;refine rY (λW=>iR b0 w W/\W.heap.size=b0+2/\mY W b0 st.cs 31/\mY W (b0+1) (ku 8 (V mQ 0)) 31) ?_ ?_
 .refine⟨((iT _ _).alloc I _).alloc nk _,by simp[hb0],(hb0▸mY.new w _ _).alloc _,?_⟩
  have:=mY.new (w.alloc (mM st.cs 31)) (ku 8 (V mQ 0)) 31;rwa [jY,hb0]at this
 rintro W ⟨aN,hsz,C,ak⟩;have aV:=Y hsz;have dG:=Y hb0;clear hsz;rw[hb0];clear hb0;go_upto_region 2 with fail;refine rY (λae=>iR b0 w ae/\ae.heap.size=b0+3/\mY ae b0 st.cs 31/\mY ae (b0+1) (ku 8 (V mQ 0)) 31/\mY ae (b0+2) #[.func (.func 272) #[] #[]] 302) ?_ ?_
 .have e:=aV.out
  refine⟨aN.alloc I _,by simp[e],C.alloc _,ak.alloc _,?_⟩;have:=mY.new W #[.func (.func 272) #[] #[]] 302;rwa [e]at this
 rw[aV.out];clear aV C ak aN W;rintro W ⟨aN,hsz,C,ak,bO⟩;refine Ka ?_;refine wp_region_held_drew (S:=λw'=>mY w' b0 st.cs 31) mZ (mY.drew C) (λA=> ?_);refine uY 0 A ?_;refine uY 1 A ?_ (hy:=by intro w ah;have hc:w.cell? (Z _ 0 U)=O (V mQ (st.a.toNat:Int)):=ah.cell 0;go_simp;try rfl);refine uY 2 A ?_;refine uY 3 A ?_ (hy:=by intro w ah;have hc:w.cell? (Z _ 1 U)=O (V mQ (st.b.toNat:Int)):=ah.cell 1;go_simp;try rfl);refine uY 4 A ?_;refine uY 5 A ?_ (hy:=by intro w ah;have hc:w.cell? (Z _ 2 U)=O (V mQ (st.c.toNat:Int)):=ah.cell 2;go_simp;try rfl);refine uY 6 A ?_;refine uY 7 A ?_ (hy:=by intro w ah;have hc:w.cell? (Z _ 3 U)=O (V mQ (st.d.toNat:Int)):=ah.cell 3;go_simp;try rfl);refine uY 8 A ?_;refine uY 9 A ?_ (hy:=by intro w ah;have hc:w.cell? (Z _ 4 U)=O (V mQ (st.e.toNat:Int)):=ah.cell 4;go_simp;try rfl);refine uY 10 A ?_;refine uY 11 A ?_ (hy:=by intro w ah;have hc:w.cell? (Z _ 5 U)=O (V mQ (st.f.toNat:Int)):=ah.cell 5;go_simp;try rfl);refine uY 12 A ?_;refine uY 13 A ?_ (hy:=by intro w ah;have hc:w.cell? (Z _ 6 U)=O (V mQ (st.g.toNat:Int)):=ah.cell 6;go_simp;try rfl);refine uY 14 A ?_;refine uY 15 A ?_ (hy:=by intro w ah;have hc:w.cell? (Z _ 7 U)=O (V mQ (st.h.toNat:Int)):=ah.cell 7;go_simp;try rfl)
 refine OJ (P:=iN) (T:=22) (z:=V mQ 0) (an:=b0+3) (fuel:=8) (w0:=W.drew) [(16,6),(17,7),(18,8),(19,9),(20,10),(21,11),(22,12),(23,13)] mX (kP hsz.symm)
  (J9 mZ (λfw dst dH pos after w=>WA fw dst dH pos after w)) (Re mZ) (λw' h=>h.alloc _) ?_ 8 (λ_=>U) _ rfl A ⟨iT _ _,(λp hp b hb=>by cases hb),(λp hp q dI b hb=>by cases hb)⟩
 intro bs bE bP aW;simp only[pK,ze,Ik,l7,iX,jg,jf];have ag:a8k b0 bs:=by
  refine⟨λi j hi aD e=> ?_,λj aD=>(aW.blk (16+j,6+j) (Bc j aD) _ rfl).1⟩;have:=aW.inj (16+i,6+i) (Bc i hi) (16+j,6+j) (Bc j aD) (bs (16+j)) (by rw[<-e]) rfl;omega
 have hI:wh b0 bs st.cs w (λ_=>0) bE:=by
  have aX:=aW.below;refine⟨aN.trans ?_,bP,a7 aX ak I,a7 aX bO I,λj aD=>(aW.blk (16+j,6+j) (Bc j aD) _ rfl).2⟩;exact((iT b0 W).drew).trans (aX.mono I)
 clear aW bP A C ak bO aN hsz W;refine wpAnyH_ready (rs:=[24]) mZ ny ?_;refine kL Dc (λaq ai=> ?_) kT;have J:=hI.v 0 mX;have hc:bE.cell? (Z (bs 16) 0 U)=O (V mQ _):=J.cell 0;have az:bE.frozen? (Z (bs 16) 0 U)=M:=J.free 0;clear J;have aj:=Y hI;clear hI;go_simp;have hI:=aj.set ag 0 mX st.a.toNat;clear aj;refine ai _ _ hI.st (λay=> ?_);clear ai aq hc az;try simp only[l7,iX,jg,jf]
 refine vZ _ hI ?_;clear hI ay bE;intro dw hI;refine wpAnyH_ready (rs:=[25]) mZ ny ?_;refine kL Dc (λaq ai=> ?_) kT;have J:=hI.v 1 mX;have hc:dw.cell? (Z (bs 17) 0 U)=O (V mQ _):=J.cell 0;have az:dw.frozen? (Z (bs 17) 0 U)=M:=J.free 0;clear J;have aj:=Y hI;clear hI;go_simp;have hI:=aj.set ag 1 mX st.b.toNat;clear aj;refine ai _ _ hI.st (λay=> ?_);clear ai aq hc az;try simp only[l7,iX,jg,jf]
 refine vZ _ hI ?_;clear hI ay dw;intro ae hI;refine wpAnyH_ready (rs:=[26]) mZ ny ?_;refine kL Dc (λaq ai=> ?_) kT;have J:=hI.v 2 mX;have hc:ae.cell? (Z (bs 18) 0 U)=O (V mQ _):=J.cell 0;have az:ae.frozen? (Z (bs 18) 0 U)=M:=J.free 0;clear J;have aj:=Y hI;clear hI;go_simp;have hI:=aj.set ag 2 mX st.c.toNat;clear aj;refine ai _ _ hI.st (λay=> ?_);clear ai aq hc az;try simp only[l7,iX,jg,jf]
 refine vZ _ hI ?_;clear hI ay ae;intro W3 hI;refine wpAnyH_ready (rs:=[27]) mZ ny ?_;refine kL Dc (λaq ai=> ?_) kT;have J:=hI.v 3 mX;have hc:W3.cell? (Z (bs 19) 0 U)=O (V mQ _):=J.cell 0;have az:W3.frozen? (Z (bs 19) 0 U)=M:=J.free 0;clear J;have aj:=Y hI;clear hI;go_simp;have hI:=aj.set ag 3 mX st.d.toNat;clear aj;refine ai _ _ hI.st (λay=> ?_);clear ai aq hc az;try simp only[l7,iX,jg,jf]
 refine vZ _ hI ?_;clear hI ay W3;intro dx hI;refine wpAnyH_ready (rs:=[28]) mZ ny ?_;refine kL Dc (λaq ai=> ?_) kT;have J:=hI.v 4 mX;have hc:dx.cell? (Z (bs 20) 0 U)=O (V mQ _):=J.cell 0;have az:dx.frozen? (Z (bs 20) 0 U)=M:=J.free 0;clear J;have aj:=Y hI;clear hI;go_simp;have hI:=aj.set ag 4 mX st.e.toNat;clear aj;refine ai _ _ hI.st (λay=> ?_);clear ai aq hc az;try simp only[l7,iX,jg,jf]
 refine vZ _ hI ?_;clear hI ay dx;intro dz hI;refine wpAnyH_ready (rs:=[29]) mZ ny ?_;refine kL Dc (λaq ai=> ?_) kT;have J:=hI.v 5 mX;have hc:dz.cell? (Z (bs 21) 0 U)=O (V mQ _):=J.cell 0;have az:dz.frozen? (Z (bs 21) 0 U)=M:=J.free 0;clear J;have aj:=Y hI;clear hI;go_simp;have hI:=aj.set ag 5 mX st.f.toNat;clear aj;refine ai _ _ hI.st (λay=> ?_);clear ai aq hc az;try simp only[l7,iX,jg,jf]
 refine vZ _ hI ?_;clear hI ay dz;intro dA hI;refine wpAnyH_ready (rs:=[30]) mZ ny ?_;refine kL Dc (λaq ai=> ?_) kT;have J:=hI.v 6 mX;have hc:dA.cell? (Z (bs 22) 0 U)=O (V mQ _):=J.cell 0;have az:dA.frozen? (Z (bs 22) 0 U)=M:=J.free 0;clear J;have aj:=Y hI;clear hI;go_simp;have hI:=aj.set ag 6 mX st.g.toNat;clear aj;refine ai _ _ hI.st (λay=> ?_);clear ai aq hc az;try simp only[l7,iX,jg,jf]
 refine vZ _ hI ?_;clear hI ay dA;intro dB hI;refine wpAnyH_ready (rs:=[31]) mZ ny ?_;refine kL Dc (λaq ai=> ?_) kT;have J:=hI.v 7 mX;have hc:dB.cell? (Z (bs 23) 0 U)=O (V mQ _):=J.cell 0;have az:dB.frozen? (Z (bs 23) 0 U)=M:=J.free 0;clear J;have aj:=Y hI;clear hI;go_simp;have hI:=aj.set ag 7 mX st.h.toNat;clear aj;refine ai _ _ hI.st (λay=> ?_);clear ai aq hc az;try simp only[l7,iX,jg,jf]
 refine vZ _ hI ?_;clear hI ay dB;intro dJ hI;refine wpAnyH_done mZ ?_ _;have hI:wh b0 bs st.cs w st.at_ dJ:=hI.congr (λj aD=>by match j,aD with|0,_=>rfl|1,_=>rfl|2,_=>rfl|3,_=>rfl|4,_=>rfl|5,_=>rfl|6,_=>rfl|7,_=>rfl);have aL:=Y hI;clear hI;go_wp2_with fail;refine(Rb s _).mono ?_;rintro e bF ⟨Bs,rfl,bQ,aA,qP⟩;obtain⟨E,dK⟩:=o7 dJ;rw[dK]at bQ aA;have hlt:=λj aD=>((aL.v j aD).lt)
 rw[dK]at hlt;have aO:wh b0 bs st.cs w st.at_ bF:=aL.grown (E:=E) hlt (by have:=aL.cl.lt;omega) (row:=U) ⟨aA.os,aA.tape,aA.output,by have:=aA.size;omega,λi hi _=>aA.block i I⟩ (λr h=>by cases h);have dL:b0+2<E:=by have:=aL.cl.lt;omega
 clear aL;unfold a8i;go_wp2_with fail;have aR:=Rc 7 Bs E s bF hs bQ qP;have aY:Gs st s.data.toList=Gr st (sM s.data.toList st 64):=rfl;have bR:sM s.data.toList st 0=st:=rfl;have bS:∀k,sM s.data.toList st (k+1)=KO (sM s.data.toList st k) (kN k) (wS s.data.toList k):=λ_=>rfl
 have dM:E<=bF.heap.size:=by have:=aA.size;omega
 clear qP hI aA;generalize sM s.data.toList st=aE at*;generalize wS s.data.toList=wv at*;have aO:=aO.congr (y:=(aE 0).at_) (λj _=>by rw[bR]);clear bR;have dN:=Y aY;have dO:=Y bS;clear aY bS;refine wpIn_wide.1 (EL (n:=8) (E:=E) (N:=64) (encs:=Y1 wv) (w0:=bF) rfl mX (gf:=283) (lb:=#[mG (O (Z Bs 0 U))]) rfl trivial ?eg aR (iT _ _) (λk=>rfl) (λk W=>wh b0 bs st.cs w (aE k).at_ W) ?hI aO ?Q9 ?hdone);case eg=>intro args w';rfl
 case hI=>exact λk W gB row hk hg fA=>hk.grown (E:=E) hlt dL hg (λr e=>by have:=fA r e;omega)
 case Q9=>
  intro l k W hk hI;simp only[Y1,List.zip_toArray,List.zip_cons_cons,List.zip_nil_right,List.foldl_toArray,eC,List.foldl_nil,iX,jg,jf]
  gi_wp2
  refine⟨trivial,λae au=> ?_⟩;have aZ:=dO.out k;generalize wv k=wk at*;have⟨dP,bg⟩:=nE (aE k);rw[bg]at aZ;have au:wh b0 bs st.cs w dP.at_ ae:=au.congr (λj _=>by rw[bg]);clear bg;obtain⟨a,b,c,d,e,f,g,h⟩:=dP;have c0:ae.cell? (Z (bs 16) 0 U)=O (V mQ (a.toNat:Int)):=(au.v 0 mX).cell 0;have c1:ae.cell? (Z (bs 17) 0 U)=O (V mQ (b.toNat:Int)):=(au.v 1 mX).cell 0;have c2:ae.cell? (Z (bs 18) 0 U)=O (V mQ (c.toNat:Int)):=(au.v 2 mX).cell 0;have c3:ae.cell? (Z (bs 19) 0 U)=O (V mQ (d.toNat:Int)):=(au.v 3 mX).cell 0;have c4:ae.cell? (Z (bs 20) 0 U)=O (V mQ (e.toNat:Int)):=(au.v 4 mX).cell 0;have c5:ae.cell? (Z (bs 21) 0 U)=O (V mQ (f.toNat:Int)):=(au.v 5 mX).cell 0;have c6:ae.cell? (Z (bs 22) 0 U)=O (V mQ (g.toNat:Int)):=(au.v 6 mX).cell 0;have c7:ae.cell? (Z (bs 23) 0 U)=O (V mQ (h.toNat:Int)):=(au.v 7 mX).cell 0;have gD:ae.cell? (Z (b0+2) 0 U)=O (.func (.func 272) #[] #[]):=au.cl.cell 0;have bq:=Y au;have dQ:=Y aZ;have aB:=Y hlt;clear au aZ hI aR aO hlt
  gi_upto_region 8 with(refine⟨trivial,?_⟩;skip)
  simp only[KN,a8l,xB];generalize bu:(e&&&f)^^^(~~~e&&&g)=ch;generalize bz:(a&&&b)^^^(a&&&c)^^^(b&&&c)=fB;have bu:=Y bu;have bz:=Y bz;refine EM l mZ mZ mZ ?hL ?_;case hL=>rintro⟨gF,w',dI⟩;exact absurd dI.1 (λe=>by cases e)
  repeat(go_big_quiet_step (first
   |(go_at_call 275;exact Calls.Ht (Il _ _ _ _ _ mX mX mX))
   |(go_at_call 272;exact Calls.quiet_of (WB _ _ hk))))
  refine jT ?_;intro bG
  gi_upto_region 9 with(refine⟨trivial,?_⟩;skip)
  have dR:((((h.toNat:Int)+((Oz e 6 11 25).toNat:Int)+((kN k).toNat:Int)+(wk.toNat:Int)) % 4294967296+(ch.toNat:Int)) % 4294967296)=((FK ⟨a,b,c,d,e,f,g,h⟩ (kN k) wk).toNat:Int):=by
   unfold FK;simp only;rw[bu.out,<-tY,<-tY,<-tY,<-tY];omega
  rw[dR];generalize bA:FK ⟨a,b,c,d,e,f,g,h⟩ (kN k) wk=P;have bA:=Y bA;clear dR
  gi_upto_region 10 with(refine⟨trivial,CallsIn.mono (CallsIn.inRound l (callsIn_wide.2 (Il a 2 13 22 _ mX mX mX))) ?_⟩;rintro en w' ⟨rfl,rfl⟩)
  have dS:((((Oz a 2 13 22).toNat:Int)+(fB.toNat:Int)) % 4294967296)=((Ii ⟨a,b,c,d,e,f,g,h⟩).toNat:Int):=by
   unfold Ii;simp only;rw[bz.out,<-tY]
  rw[dS];generalize bB:Ii ⟨a,b,c,d,e,f,g,h⟩=bH;have bB:=Y bB;clear dS;have bT:=Y (bq.drewN bG);have bU:KeepsFrom E ae (ae.drewN bG)/\NW E ae (ae.drewN bG):=⟨KeepsFrom.of_grownBy (row:=U) ⟨rfl,rfl,rfl,iP _,λ_ _ _=>rfl⟩ (λ_ h=>by cases h),NW.refl _ _⟩;have f0:ae.frozen? (Z (bs 16) 0 U)=M:=(bq.v 0 mX).free 0;have f1:ae.frozen? (Z (bs 17) 0 U)=M:=(bq.v 1 mX).free 0;repeat(first|gi_guarded|gi_step|gi_upon)
  generalize fT:ae.drewN bG=fC at bT bU|-;have aF:=bT.set ag 0 mX (((P.toNat:Int)+(bH.toNat:Int)) % 4294967296);have bV:=uJ (E:=E) bU (b:=bs 16) (aB 0 mX) (V mQ (((P.toNat:Int)+(bH.toNat:Int)) % 4294967296));generalize dU:fC.setCell (Z (bs 16) 0 U) (V mQ (((P.toNat:Int)+(bH.toNat:Int)) % 4294967296))=bI at bV|-;have aF:wh b0 bs st.cs w _ bI:=dU▸aF;have gG:bI.cell? (Z (bs 17) 0 U)=O (V mQ _):=(aF.v 1 mX).cell 0;have f2:bI.frozen? (Z (bs 18) 0 U)=M:=(aF.v 2 mX).free 0;have dV:=Y aF;clear aF;go_simp;repeat(first|gi_guarded|gi_step|gi_upon)
  have aG:=dV.set ag 1 mX (a.toNat:Int);have bW:=uJ (E:=E) bV (b:=bs 17) (aB 1 mX) (V mQ (a.toNat:Int));generalize dW:bI.setCell (Z (bs 17) 0 U) (V mQ (a.toNat:Int))=bJ at bW|-;have aG:wh b0 bs st.cs w _ bJ:=dW▸aG;have gH:bJ.cell? (Z (bs 18) 0 U)=O (V mQ _):=(aG.v 2 mX).cell 0;have f3:bJ.frozen? (Z (bs 19) 0 U)=M:=(aG.v 3 mX).free 0;have dX:=Y aG;clear aG;go_simp;repeat(first|gi_guarded|gi_step|gi_upon)
  have aH:=dX.set ag 2 mX (b.toNat:Int);have bX:=uJ (E:=E) bW (b:=bs 18) (aB 2 mX) (V mQ (b.toNat:Int));generalize dY:bJ.setCell (Z (bs 18) 0 U) (V mQ (b.toNat:Int))=bK at bX|-;have aH:wh b0 bs st.cs w _ bK:=dY▸aH;have gI:bK.cell? (Z (bs 19) 0 U)=O (V mQ _):=(aH.v 3 mX).cell 0;have f4:bK.frozen? (Z (bs 20) 0 U)=M:=(aH.v 4 mX).free 0;have dZ:=Y aH;clear aH;go_simp;repeat(first|gi_guarded|gi_step|gi_upon)
  have aI:=dZ.set ag 3 mX (c.toNat:Int);have bY:=uJ (E:=E) bX (b:=bs 19) (aB 3 mX) (V mQ (c.toNat:Int));generalize ed:bK.setCell (Z (bs 19) 0 U) (V mQ (c.toNat:Int))=bL at bY|-;have aI:wh b0 bs st.cs w _ bL:=ed▸aI;have gJ:bL.cell? (Z (bs 20) 0 U)=O (V mQ _):=(aI.v 4 mX).cell 0;have gK:bL.frozen? (Z (bs 21) 0 U)=M:=(aI.v 5 mX).free 0;have ek:=Y aI;clear aI;go_simp;repeat(first|gi_guarded|gi_step|gi_upon)
  have aJ:=ek.set ag 4 mX (((d.toNat:Int)+(P.toNat:Int)) % 4294967296);have bZ:=uJ (E:=E) bY (b:=bs 20) (aB 4 mX) (V mQ (((d.toNat:Int)+(P.toNat:Int)) % 4294967296));generalize eu:bL.setCell (Z (bs 20) 0 U) (V mQ (((d.toNat:Int)+(P.toNat:Int)) % 4294967296))=bM at bZ|-;have aJ:wh b0 bs st.cs w _ bM:=eu▸aJ;have gL:bM.cell? (Z (bs 21) 0 U)=O (V mQ _):=(aJ.v 5 mX).cell 0;have gM:bM.frozen? (Z (bs 22) 0 U)=M:=(aJ.v 6 mX).free 0;have eB:=Y aJ;clear aJ;go_simp;repeat(first|gi_guarded|gi_step|gi_upon)
  have aK:=eB.set ag 5 mX (e.toNat:Int);have cz:=uJ (E:=E) bZ (b:=bs 21) (aB 5 mX) (V mQ (e.toNat:Int));generalize eD:bM.setCell (Z (bs 21) 0 U) (V mQ (e.toNat:Int))=bN at cz|-;have aK:wh b0 bs st.cs w _ bN:=eD▸aK;have gN:bN.cell? (Z (bs 22) 0 U)=O (V mQ _):=(aK.v 6 mX).cell 0;have gP:bN.frozen? (Z (bs 23) 0 U)=M:=(aK.v 7 mX).free 0;have eF:=Y aK;clear aK;go_simp;repeat(first|gi_guarded|gi_step|gi_upon)
  have aP:=eF.set ag 6 mX (f.toNat:Int);have cK:=uJ (E:=E) cz (b:=bs 22) (aB 6 mX) (V mQ (f.toNat:Int));generalize eG:bN.setCell (Z (bs 22) 0 U) (V mQ (f.toNat:Int))=dD at cK|-;have aP:wh b0 bs st.cs w _ dD:=eG▸aP;have gQ:dD.cell? (Z (bs 23) 0 U)=O (V mQ _):=(aP.v 7 mX).cell 0;have eH:=Y aP;clear aP;go_simp;repeat(first|gi_guarded|gi_step|gi_upon)
  have aS:=eH.set ag 7 mX (g.toNat:Int);have aU:=uJ (E:=E) cK (b:=bs 23) (aB 7 mX) (V mQ (g.toNat:Int));generalize eO:dD.setCell (Z (bs 23) 0 U) (V mQ (g.toNat:Int))=fD at aU|-;have aS:wh b0 bs st.cs w _ fD:=eO▸aS;have eP:=Y aS;clear aS;refine⟨rfl,⟨aU.1.size,λi o hi=>aU.1.same i o (jk dM hi)⟩,aU.2,eP.congr (λj aD=> ?_)⟩;rw[dQ.out];unfold KO;rw[bA.out,bB.out]
  match j,aD with
  |0,_=>exact tY P bH
  |1,_=>rfl
  |2,_=>rfl
  |3,_=>rfl
  |4,_=>exact tY d P
  |5,_=>rfl
  |6,_=>rfl
  |7,_=>rfl
 case hdone=>
  intro D W gT hI eQ;have⟨T,dE⟩:=nE (aE 64);have hI:wh b0 bs st.cs w T.at_ W:=hI.congr (λj _=>by rw[dE]);have dF:=dN.out;rw[dE]at dF;have c0:W.cell? (Z (bs 16) 0 U)=O (V mQ (T.a.toNat:Int)):=(hI.v 0 mX).cell 0;have c1:W.cell? (Z (bs 17) 0 U)=O (V mQ (T.b.toNat:Int)):=(hI.v 1 mX).cell 0;have c2:W.cell? (Z (bs 18) 0 U)=O (V mQ (T.c.toNat:Int)):=(hI.v 2 mX).cell 0;have c3:W.cell? (Z (bs 19) 0 U)=O (V mQ (T.d.toNat:Int)):=(hI.v 3 mX).cell 0;have c4:W.cell? (Z (bs 20) 0 U)=O (V mQ (T.e.toNat:Int)):=(hI.v 4 mX).cell 0;have c5:W.cell? (Z (bs 21) 0 U)=O (V mQ (T.f.toNat:Int)):=(hI.v 5 mX).cell 0;have c6:W.cell? (Z (bs 22) 0 U)=O (V mQ (T.g.toNat:Int)):=(hI.v 6 mX).cell 0;have c7:W.cell? (Z (bs 23) 0 U)=O (V mQ (T.h.toNat:Int)):=(hI.v 7 mX).cell 0;have aL:=Y hI;have eT:=Y eQ;have cZ:=Y dF;clear hI eQ dF dE dN dO aR aO hlt;go_wp2;go_loopw [98] (λi wr=>∃k:Nat,k<=8/\i=V X k/\iR b0 w wr/\mY wr b0 (a2H st T k) 31/\mY wr (b0+1) (ku 8 (V mQ 0)) 31/\wr.heap[D]? =O (.deferred (O []))) (λi _=>8 -(jF i).toNat);case atStart=>exact⟨0,I,rfl,aL.below,aL.st,aL.res,eT.out⟩
  case round=>
   obtain⟨k,hk,rfl,hB,C,ak,hd⟩:=hrel;have eU:=Y hB;have eX:=Y hd;clear hB hd;by_cases bC:k<8
   .have c:wr.cell? (Z b0 k U)=O (V mQ ((st.get k).toNat:Int)):=(C.cell k).trans (a5H st T bC)
    have f:wr.frozen? (Z b0 k U)=M:=C.free k;have ay:∀w',(jX 31 (mI #[V mQ (T.a.toNat:Int),V mQ (T.b.toNat:Int),V mQ (T.c.toNat:Int),V mQ (T.d.toNat:Int),V mQ (T.e.toNat:Int),V mQ (T.f.toNat:Int),V mQ (T.g.toNat:Int),V mQ (T.h.toNat:Int)]) (V X k)).run iN w'=.ok (V mQ ((T.get k).toNat:Int)) w':=λw'=>a8m T bC w'
    have fE:=Y C;have eY:=Y ak;have fU:(k:Int)<8:=I;clear C ak;have eZ:=Y (a2I st T bC);generalize st.get k=fF at*;generalize T.get k=fG at*;go_wp2_with fail;rw[tY];go_roundw;case rel=>exact⟨k+1,I,by go_num,eU.setCell (iP _) _,by have:=fE.set k (V mQ ((fF+fG).toNat:Int));rw[eZ.out]at this;exact this,eY.setOther ny _,(jh _ _ _ _ nk).trans eX.out⟩
    case measure=>simp[jF];omega
   .obtain rfl:k=8:=I
    have C:mY wr b0 (Gr st T).cs 31:=C;have aa:mY wr (b0+1) #[V mQ 0,V mQ 0,V mQ 0,V mQ 0,V mQ 0,V mQ 0,V mQ 0,V mQ 0] 31:=ak;have df:=cZ.out;generalize Gr st T=af at*;have z0:wr.cell? (Z b0 0 U)=O (V mQ (af.a.toNat:Int)):=C.cell 0;have r0:wr.cell? (Z (b0+1) 0 U)=O (V mQ 0):=aa.cell 0;have fV:wr.frozen? (Z (b0+1) 0 U)=M:=aa.free 0;have gU:wr.cell? (Z b0 1 U)=O (V mQ (af.b.toNat:Int)):=C.cell 1;have r1:wr.cell? (Z (b0+1) 1 U)=O (V mQ 0):=aa.cell 1;have fZ:wr.frozen? (Z (b0+1) 1 U)=M:=aa.free 1;have gV:wr.cell? (Z b0 2 U)=O (V mQ (af.c.toNat:Int)):=C.cell 2;have r2:wr.cell? (Z (b0+1) 2 U)=O (V mQ 0):=aa.cell 2;have gm:wr.frozen? (Z (b0+1) 2 U)=M:=aa.free 2;have z3:wr.cell? (Z b0 3 U)=O (V mQ (af.d.toNat:Int)):=C.cell 3;have r3:wr.cell? (Z (b0+1) 3 U)=O (V mQ 0):=aa.cell 3;have gp:wr.frozen? (Z (b0+1) 3 U)=M:=aa.free 3;have z4:wr.cell? (Z b0 4 U)=O (V mQ (af.e.toNat:Int)):=C.cell 4;have r4:wr.cell? (Z (b0+1) 4 U)=O (V mQ 0):=aa.cell 4;have gq:wr.frozen? (Z (b0+1) 4 U)=M:=aa.free 4;have z5:wr.cell? (Z b0 5 U)=O (V mQ (af.f.toNat:Int)):=C.cell 5;have gW:wr.cell? (Z (b0+1) 5 U)=O (V mQ 0):=aa.cell 5;have gu:wr.frozen? (Z (b0+1) 5 U)=M:=aa.free 5;have gX:wr.cell? (Z b0 6 U)=O (V mQ (af.g.toNat:Int)):=C.cell 6;have gY:wr.cell? (Z (b0+1) 6 U)=O (V mQ 0):=aa.cell 6;have gy:wr.frozen? (Z (b0+1) 6 U)=M:=aa.free 6;have gZ:wr.cell? (Z b0 7 U)=O (V mQ (af.h.toNat:Int)):=C.cell 7;have ic:wr.cell? (Z (b0+1) 7 U)=O (V mQ 0):=aa.cell 7;have gz:wr.frozen? (Z (b0+1) 7 U)=M:=aa.free 7;have fq:=Y df;clear df cZ ak;have fu:=Y aa;clear aa C;go_wp2_with fail;have hF:=((((((((fu.set 0 (V mQ (af.a.toNat:Int))).set 1 (V mQ (af.b.toNat:Int))).set 2 (V mQ (af.c.toNat:Int))).set 3 (V mQ (af.d.toNat:Int))).set 4 (V mQ (af.e.toNat:Int))).set 5 (V mQ (af.f.toNat:Int))).set 6 (V mQ (af.g.toNat:Int))).set 7 (V mQ (af.h.toNat:Int)));have bD:=(uK (uK (uK (uK (uK (uK (uK (uK eU 0 (V mQ (af.a.toNat:Int))) 1 (V mQ (af.b.toNat:Int))) 2 (V mQ (af.c.toNat:Int))) 3 (V mQ (af.d.toNat:Int))) 4 (V mQ (af.e.toNat:Int))) 5 (V mQ (af.f.toNat:Int))) 6 (V mQ (af.g.toNat:Int))) 7 (V mQ (af.h.toNat:Int)));have av:D≠b0+1:=I;have ax:=eX.out;rw[<-jh _ (Z (b0+1) 0 U) (V mQ (af.a.toNat:Int)) D (by simpa using av)]at ax;rw[<-jh _ (Z (b0+1) 1 U) (V mQ (af.b.toNat:Int)) D (by simpa using av)]at ax;rw[<-jh _ (Z (b0+1) 2 U) (V mQ (af.c.toNat:Int)) D (by simpa using av)]at ax;rw[<-jh _ (Z (b0+1) 3 U) (V mQ (af.d.toNat:Int)) D (by simpa using av)]at ax;rw[<-jh _ (Z (b0+1) 4 U) (V mQ (af.e.toNat:Int)) D (by simpa using av)]at ax;rw[<-jh _ (Z (b0+1) 5 U) (V mQ (af.f.toNat:Int)) D (by simpa using av)]at ax;rw[<-jh _ (Z (b0+1) 6 U) (V mQ (af.g.toNat:Int)) D (by simpa using av)]at ax;rw[<-jh _ (Z (b0+1) 7 U) (V mQ (af.h.toNat:Int)) D (by simpa using av)]at ax;simp only[iX,jg,jf]at hF;revert hF bD ax;generalize ((((((((wr.setCell (Z (b0+1) 0 U) (V mQ (af.a.toNat:Int))).setCell (Z (b0+1) 1 U) (V mQ (af.b.toNat:Int))).setCell (Z (b0+1) 2 U) (V mQ (af.c.toNat:Int))).setCell (Z (b0+1) 3 U) (V mQ (af.d.toNat:Int))).setCell (Z (b0+1) 4 U) (V mQ (af.e.toNat:Int))).setCell (Z (b0+1) 5 U) (V mQ (af.f.toNat:Int))).setCell (Z (b0+1) 6 U) (V mQ (af.g.toNat:Int))).setCell (Z (b0+1) 7 U) (V mQ (af.h.toNat:Int)))=wf;intro bD ax hF;have hF:mY wf (b0+1) af.cs 31:=hF;refine⟨ny,.inl ⟨_,_,rfl,run_takeDeferred ax,?_⟩⟩;have aM:mY (wf.putObj D (.deferred U)) (b0+1) af.cs 31:=(World.putObj_heap_other I).trans hF;have dh:iR b0 w (wf.putObj D (.deferred U)):=bD.grown (grownBy_putObj' wf D _) (by have:=hF.lt;omega) (λk hk=>by cases hk;omega);generalize wf.putObj D (.deferred U)=aQ at aM dh|-;have fH:aQ.cell? (Z (b0+1) 0 U)=O (V mQ (af.a.toNat:Int)):=aM.cell 0;have fI:aQ.cell? (Z (b0+1) 1 U)=O (V mQ (af.b.toNat:Int)):=aM.cell 1;have fJ:aQ.cell? (Z (b0+1) 2 U)=O (V mQ (af.c.toNat:Int)):=aM.cell 2;have fK:aQ.cell? (Z (b0+1) 3 U)=O (V mQ (af.d.toNat:Int)):=aM.cell 3;have fM:aQ.cell? (Z (b0+1) 4 U)=O (V mQ (af.e.toNat:Int)):=aM.cell 4;have fO:aQ.cell? (Z (b0+1) 5 U)=O (V mQ (af.f.toNat:Int)):=aM.cell 5;have fP:aQ.cell? (Z (b0+1) 6 U)=O (V mQ (af.g.toNat:Int)):=aM.cell 6;have fQ:aQ.cell? (Z (b0+1) 7 U)=O (V mQ (af.h.toNat:Int)):=aM.cell 7;refine⟨mI af.cs,?_,?_⟩
    .unfold S8.cs
     simp[jv,Tryz.results254,go_sem,fH,fI,fJ,fK,fM,fO,fP,fQ]
    .rw[dG.out]
     exact⟨by rw[fq.out],dh⟩
def Im:pE iN 86 5 9:=⟨kQ,Tryz.underlying5,l8,mZ⟩
def Mk(w:K)(b:Nat)(A:S8):K:=
 (((((((w.setCell (Z b 0 U) (V mQ (A.a.toNat:Int))).setCell (Z b 1 U) (V mQ (A.b.toNat:Int))).setCell (Z b 2 U) (V mQ (A.c.toNat:Int))).setCell (Z b 3 U) (V mQ (A.d.toNat:Int))).setCell (Z b 4 U) (V mQ (A.e.toNat:Int))).setCell (Z b 5 U) (V mQ (A.f.toNat:Int))).setCell (Z b 6 U) (V mQ (A.g.toNat:Int))).setCell (Z b 7 U) (V mQ (A.h.toNat:Int))
def Ab{ad:S8}(h:mY w b ad.cs t)(A:S8):mY (Mk w b A) b A.cs t:=by
 unfold S8.cs at*;unfold Mk;have:=(((((((h.set 0 (V mQ (A.a.toNat:Int))).set 1 (V mQ (A.b.toNat:Int))).set 2 (V mQ (A.c.toNat:Int))).set 3 (V mQ (A.d.toNat:Int))).set 4 (V mQ (A.e.toNat:Int))).set 5 (V mQ (A.f.toNat:Int))).set 6 (V mQ (A.g.toNat:Int))).set 7 (V mQ (A.h.toNat:Int));simp only[iX,jg,jf]at this;exact this
def xC(h:iR B w0 w)(hb:B<=b)(A:S8):iR B w0 (Mk w b A):=
 (((((((h.setCell hb _).setCell hb _).setCell hb _).setCell hb _).setCell hb _).setCell hb _).setCell hb _).setCell hb _
def mY.eight{A:S8}(h:mY w b A.cs t):
  w.cell? (Z b 0 U)=O (V mQ (A.a.toNat:Int))/\w.cell? (Z b 1 U)=O (V mQ (A.b.toNat:Int))/\w.cell? (Z b 2 U)=O (V mQ (A.c.toNat:Int))/\w.cell? (Z b 3 U)=O (V mQ (A.d.toNat:Int))/\
  w.cell? (Z b 4 U)=O (V mQ (A.e.toNat:Int))/\w.cell? (Z b 5 U)=O (V mQ (A.f.toNat:Int))/\w.cell? (Z b 6 U)=O (V mQ (A.g.toNat:Int))/\w.cell? (Z b 7 U)=O (V mQ (A.h.toNat:Int)):=
 ⟨h.cell 0,h.cell 1,h.cell 2,h.cell 3,h.cell 4,h.cell 5,h.cell 6,h.cell 7⟩
def OM:S8:=⟨0,0,0,0,0,0,0,0⟩
def WC(w:K):iW iN 253 #[] w λe w'=>e=mK (mI rE.cs)/\iR w.heap.size w w':=by
 have hB:=Y ((iT w.heap.size w).alloc (iP _) (mM rE.cs 31));have hb:=(mY.new w rE.cs 31).eight;have A:=Y hb;go_in;go_wp2_with fail;change bodyPost _ _ _ _ _ (w.alloc (mM rE.cs 31));have q:=A.out;generalize w.alloc (mM rE.cs 31)=w1 at*;exact iY (v:=mI rE.cs) (by simp[jv,Tryz.results253,go_sem,q];rfl) rfl ⟨rfl,hB.out⟩
def a2J:∃i,Tryz.prog.info? 5=O i/\i.zero=O (V .u8 0)/\i.size=1/\i.bytes=1:=by
 have⟨J,hi,A,C,E⟩:=info_parts Im.hi;exact⟨J,hi,A,C,E⟩
def OO(m c:Nat)(L C:Int)(hL:L=m)(A:C=c)(N:m<=c)(hc:c<=1000)(w:K):(Instr.makeSlice 86 (V X L) (V X C)).run iN w=
  .ok (G (O (Z w.heap.size 0 U)) m c) (w.alloc (mM (madeCells #[V .u8 0] c) 5)):=by
 subst hL A;obtain⟨i,hi,E,hs,hb⟩:=a2J;have J:=run_make (P:=iN) w 86 5 i (V .u8 0) Im.ht hi E X X (m:Int) (c:Int) I I (by rw[hb];omega) I;simpa [hs,Value.cells]using J
def xV(n:Nat):(zb n).length=9+(64 -(n+9) % 64) % 64:=by
 unfold zb;simp;omega
def wm(n i:Nat):List AC:=(kG i).map λj=>jH (n*8/256^(7 - j) % 256)
def sS(n i:Nat)(l:List AC):l++wm n (i+1)=(l++wm n i)++[jH (n*8/256^(7 - i) % 256)]:=by
 unfold wm;rw[List.range_succ,List.map_append,cC];rfl
def xD(k:Nat):List AC:=128::jC k 0
def Uo(n:Nat):zb n=xD ((64 -(n+9) % 64) % 64)++wm n 8:=rfl
def a2K(n:Nat)(w:K)(hn:n<=1099511627776):
  iW iN 255 #[V X n] w λe w'=>e=mK (mJ #[H ⟨(zb n).toArray⟩,V X 0])/\iR w.heap.size w w':=by
 have h0:As ((n:Int)<0)=M:=ny;have ay:As (1099511627776<(n:Int))=M:=nk;have hp:=Y (Uo n);generalize zb n=az at*;have⟨k,hk⟩:∃k,k=(64 -(n+9) % 64) % 64:=⟨_,rfl⟩;rw[<-hk]at hp;have ak:k<64:=I;have aA:=OO (k+1) (k+9) (1+ -(((n:Int)+9) % 64) % 64) (1+ -(((n:Int)+9) % 64) % 64+8) I I I I w;have aB:=Y hn;clear hk;obtain⟨B,hB⟩:=o7 w;have af:=Y hB;clear hB;go_in;go_upto_region 5 with fail;have hB:=af.out;rw[hB];refine rY (λW=>W.ownsRow B 5 1 (G (O (Z B 0 U)) (k+1) (k+9)) (k+1) (nI (jC (k+1) 0))/\iR B w W) ?_ ?_
 .have ah:=kP hB.symm
  refine⟨⟨ny,.inr ⟨B,k+9,madeCells #[V .u8 0] (k+9),rfl,iP _,?_,I,yF,by rw[size_madeCells,Nat.mul_one],?_⟩⟩,(iT _ _).alloc ah _⟩;.rw[<-hB];exact World.alloc_heap_new w _
  .rw[toList_madeCells_one]
   simp[nI,List.take_replicate,List.map_replicate]
 rintro W ⟨C,J⟩;have au:W.cell? (Z B 0 U)=O (V .u8 0):=by rw[C.cellAt 0 I];simp[nI,cJ]
 have av:=C.frozenAt 0;have ae:=(C.stored 0 (V .u8 128)).1;have ag:=J.setCell (p:=(Z B 0 U)) (iP _) (V .u8 128);have ai:=Y (iU ae ag);go_upto_region 6 with fail;refine rY (λW=>nS W B 5 (G (O (Z B 0 U)) (k+1) (k+9)) (xD k++wm n 0)/\iR B w W) ⟨?_,ai.2⟩ ?_
 .have:=ai.1
  unfold nS;have e:xD k++wm n 0=xD k:=by unfold wm;simp
  rw[e];have e2:(xD k).length=k+1:=by unfold xD;simp
  rw[e2];have e3:nI (xD k)=(nI (jC (k+1) 0)).set 0 (V .u8 128):=by unfold xD nI;simp[cJ]
  rw[e3];exact this
 rintro W ⟨C,J⟩;have ax:(xD k).length=k+1:=by unfold xD;simp
 generalize xD k=hd at*;generalize (1+ -(((n:Int)+9) % 64) % 64+8)=aD;generalize (1+ -(((n:Int)+9) % 64) % 64)=aF;generalize (64 -((n:Int)+9) % 64) % 64=z3;generalize 64 -((n:Int)+9) % 64=z4;generalize ((n:Int)+9) % 64=z5;generalize (n:Int)+9=aG;go_wp2;go_loopw [5,26] (λv i wr=>∃j:Nat,j<=8/\i=V X j/\nS wr B 5 v (hd++wm n j)/\iR B w wr) (λ_ i _=>8 -(jF i).toNat);case atStart=>exact⟨0,I,rfl,C,J⟩
 case round=>
  obtain⟨j,aH,rfl,C,J⟩:=hrel;have aa:B<=wr.heap.size:=by have:=J.size;have:=af.out;omega
  have aj:j=0\/j=1\/j=2\/j=3\/j=4\/j=5\/j=6\/j=7\/j=8:=I;rcases aj with rfl|rfl|rfl|rfl|rfl|rfl|rfl|rfl|rfl
  .go_wp2_with (at_builtin;refine ow Im rfl (.tmp 29) (.tmp 38) rfl B _ _ [jH (n*8/256^7 % 256)] 1 rfl wr _ (EB (n:=n*8/256^7 % 256) I (cN _ mX)) rfl C rfl (by simp[wm];omega) aa ?_;intro v' w' A E N)
   go_roundw;case rel=>exact⟨1,I,by go_num,by rw[sS];exact A,J.trans E⟩
   case measure=>simp[jF]
  .go_wp2_with (at_builtin;refine ow Im rfl (.tmp 29) (.tmp 38) rfl B _ _ [jH (n*8/256^6 % 256)] 1 rfl wr _ (EB (n:=n*8/256^6 % 256) I (cN _ mX)) rfl C rfl (by simp[wm];omega) aa ?_;intro v' w' A E N)
   go_roundw;case rel=>exact⟨2,I,by go_num,by rw[sS];exact A,J.trans E⟩
   case measure=>simp[jF]
  .go_wp2_with (at_builtin;refine ow Im rfl (.tmp 29) (.tmp 38) rfl B _ _ [jH (n*8/256^5 % 256)] 1 rfl wr _ (EB (n:=n*8/256^5 % 256) I (cN _ mX)) rfl C rfl (by simp[wm];omega) aa ?_;intro v' w' A E N)
   go_roundw;case rel=>exact⟨3,I,by go_num,by rw[sS];exact A,J.trans E⟩
   case measure=>simp[jF]
  .go_wp2_with (at_builtin;refine ow Im rfl (.tmp 29) (.tmp 38) rfl B _ _ [jH (n*8/256^4 % 256)] 1 rfl wr _ (EB (n:=n*8/256^4 % 256) I (cN _ mX)) rfl C rfl (by simp[wm];omega) aa ?_;intro v' w' A E N)
   go_roundw;case rel=>exact⟨4,I,by go_num,by rw[sS];exact A,J.trans E⟩
   case measure=>simp[jF]
  .go_wp2_with (at_builtin;refine ow Im rfl (.tmp 29) (.tmp 38) rfl B _ _ [jH (n*8/256^3 % 256)] 1 rfl wr _ (EB (n:=n*8/256^3 % 256) I (cN _ mX)) rfl C rfl (by simp[wm];omega) aa ?_;intro v' w' A E N)
   go_roundw;case rel=>exact⟨5,I,by go_num,by rw[sS];exact A,J.trans E⟩
   case measure=>simp[jF]
  .go_wp2_with (at_builtin;refine ow Im rfl (.tmp 29) (.tmp 38) rfl B _ _ [jH (n*8/256^2 % 256)] 1 rfl wr _ (EB (n:=n*8/256^2 % 256) I (cN _ mX)) rfl C rfl (by simp[wm];omega) aa ?_;intro v' w' A E N)
   go_roundw;case rel=>exact⟨6,I,by go_num,by rw[sS];exact A,J.trans E⟩
   case measure=>simp[jF]
  .go_wp2_with (at_builtin;refine ow Im rfl (.tmp 29) (.tmp 38) rfl B _ _ [jH (n*8/256^1 % 256)] 1 rfl wr _ (EB (n:=n*8/256^1 % 256) I (cN _ mX)) rfl C rfl (by simp[wm];omega) aa ?_;intro v' w' A E N)
   go_roundw;case rel=>exact⟨7,I,by go_num,by rw[sS];exact A,J.trans E⟩
   case measure=>simp[jF]
  .go_wp2_with (at_builtin;refine ow Im rfl (.tmp 29) (.tmp 38) rfl B _ _ [jH (n*8/256^0 % 256)] 1 rfl wr _ (EB (n:=n*8/256^0 % 256) I (cN _ mX)) rfl C rfl (by simp[wm];omega) aa ?_;intro v' w' A E N)
   go_roundw;case rel=>exact⟨8,I,by go_num,by rw[sS];exact A,J.trans E⟩
   case measure=>simp[jF]
  .have ae:=C.string Im
   go_wp2;go_returns;refine⟨by rw[hp.out];rfl,by rw[af.out];exact J⟩
def sU(mix:S8->List AC->S8)(L:List AC)(p:Nat)(s r:S8):Prop:=∃k,EJ mix (L.drop p) k s=r/\p+64*k=L.length
def sU.step{p:Nat}{s r:S8}(h:sU mix L p s r)(hp:p+64<=L.length):sU mix L (p+64) (mix s ((L.drop p).take 64)) r:=by
 obtain⟨k,hk,hl⟩:=h;obtain⟨j,rfl⟩:∃j,k=j+1:=⟨k - 1,I⟩;rw[OA,List.drop_drop]at hk;exact⟨j,hk,I⟩
def sU.done{p:Nat}{s r:S8}(h:sU mix L p s r)(hp:L.length<=p):s=r:=by
 obtain⟨k,hk,hl⟩:=h;obtain rfl:k=0:=I;exact hk
def sU.drop{p:Nat}{s r:S8}(h:sU mix L p s r):sU mix (L.drop p) 0 s r:=by
 obtain⟨k,hk,hl⟩:=h;exact⟨k,hk,by rw[jP];omega⟩
def zJ(L:List AC)(p:Nat)(s r:S8):Prop:=sU Gs L p s r
def sU.start(mix:S8->List AC->S8)(L:List AC)(s:S8)(h:L.length % 64=0):sU mix L 0 s (EJ mix L (L.length/64) s):=⟨L.length/64,rfl,I⟩
def zJ.start(L:List AC)(s:S8)(h:L.length % 64=0):zJ L 0 s (Q5 L (L.length/64) s):=sU.start Gs L s h
def zJ.step{p:Nat}{s r:S8}(h:zJ L p s r)(hp:p+64<=L.length):zJ L (p+64) (Gs s ((L.drop p).take 64)) r:=sU.step h hp
def zJ.drop{p:Nat}{s r:S8}(h:zJ L p s r):zJ (L.drop p) 0 s r:=sU.drop h
def Ml{l m:List AC}{p:Nat}(h:p+64<=l.length):((l++m).drop p).take 64=(l.drop p).take 64:=by
 rw[List.drop_append_of_le_length I,ee (by rw[jP];omega)]
def ext_list(s:An)(p:Nat):(s.extract p (p+64)).data.toList=(s.data.toList.drop p).take 64:=by
 rw[lI];congr 1;omega
def zf(r:S8):Nat->List AC
 |0=>[]
 |k+1=>zf r k++uR (r.get k)
def OP(r:S8):r.out=zf r 8:=by simp[zf,S8.out,S8.get]
def tK(x:UInt32):[lL .u8 ((x.toNat:Int)/16777216 % 256),V .u8 ((x.toNat:Int)/65536 % 256),V .u8 ((x.toNat:Int)/256 % 256),V .u8 ((x.toNat:Int) % 256)]=nI (uR x):=by
 unfold nI uR;have e:∀m:Nat,((jH (m % 256)).toNat:Int)=(m:Int) % 256:=λm=>by rw[N9 _ (cN _ mX)];omega
 simp only[lg,cE,e,Int.natCast_ediv];rfl
def a2L(s:An)(w:K)(hs:s.size<=100000):
  iW iN 218 #[H s] w λe w'=>e=mK (H ⟨(Bz s.data.toList).toArray⟩)/\iR w.heap.size w w':=by
 obtain⟨B,hB⟩:=o7 w;have bI:=Y hB;rw[hB];clear hB;have⟨l,hl⟩:∃l,l=s.data.toList:=⟨_,rfl⟩;have aM:l.length=s.size:=by rw[hl];rfl
 have⟨r,aX⟩:∃r,r=Q5 (l++zb l.length) ((l++zb l.length).length/64) rE:=⟨_,rfl⟩;have aD:Bz s.data.toList=r.out:=by rw[aX,hl];rfl
 rw[aD];have aF:zJ (l++zb l.length) 0 rE r:=by
  rw[aX];refine zJ.start _ _ ?_;rw[jo,xV];omega
 have bq:=Y aF;have bu:=Y hl;have az:=Y aM;clear aD aX aF hl aM;have⟨q,bJ⟩:∃q,q=s.size/64:=⟨_,rfl⟩;have bz:R (((s.size:Int) -(s.size:Int) % 64)=((64*q:Nat):Int)):=by unfold R;omega
 have aN:64*q<=s.size/\s.size<64*q+64:=I;clear bJ;have aG:=Y aN;clear aN;have c1:=Y (λw=>WC w);generalize rE=aY at*;go_in;go_wp2_with fail;refine pG (c1 _) λw1 aH=> ?_
 unfold S8.cs;go_upto_region 3 with fail;rw[bz.out];have aO:=bI.out;obtain⟨b3,aA⟩:=o7 w1;have aP:B<=b3:=by have:=aH.size;omega
 refine rY (λW=>mY W b3 aY.cs 31/\iR B w W) ⟨aA▸mY.new w1 aY.cs _,(aO▸aH).alloc I _⟩ ?_;rw[aA];clear aH aA aO w1;rintro W ⟨A,E⟩;go_wp2;go_loopw [5] (λi wr=>∃(p:Nat) (g:S8),i=V X p/\R (p<=64*q/\p % 64=0)/\R (zJ (l++zb l.length) p g r)/\mY wr b3 g.cs 31/\iR B w wr) (λi _=>64*q -(jF i).toNat);case atStart=>exact⟨0,aY,rfl,⟨I,I⟩,bq,A,E⟩
 case round=>
  obtain⟨p,g,rfl,hp,ah,A,E⟩:=hrel;by_cases hlt:p<64*q
  .have bK:p+64<=s.size:=by have bP:=hp.out;have bQ:=aG.out;omega
   have ai:=λ(x:qX wr)=>(a7 x.is A A.lt).eight
   go_upto_region 6 with fail;refine sQ 7 mZ mZ ?_;simp only[jm,jI,kZ,ll];have hsz:(s.extract p (p+64)).size=64:=by rw[iV];omega
   have ax:=Y (λw=>Un g (s.extract p (p+64)) w hsz);have N:=ah.step (by rw[jo,az.out];omega);have aQ:((l++zb l.length).drop p).take 64=(s.extract p (p+64)).data.toList:=by rw[Ml (by rw[az.out];omega),ext_list,bu.out]
   rw[aQ]at N;clear aQ;generalize Gs g (s.extract p (p+64)).data.toList=g1 at ax N;have aZ:=Y N;clear N;clear hsz;unfold S8.cs at ax;repeat(go_big_quiet_step ((exact bp (ax _))))
   refine jT ?_;intro x;have ae:=a7 x.is A A.lt;have aj:=E.trans (x.is.mono (by have:=A.lt;omega));have aI:=ae.eight;have fr:=ae.free;have aJ:=Y aj;have aK:=Y ae;clear ae aj ai A E ax;obtain⟨bL,bA⟩:=x;simp only at*;go_wp2_with fail;have bB:=hp.out;exact⟨⟨p+64,g1,by go_num,⟨I,I⟩,aZ,Ab aK g1,xC aJ aP g1⟩,by simp[jF];omega⟩
  .obtain rfl:p=64*q:=by have:=hp.out;omega
   have cp:=Y (λw=>a2K s.size w I);have bC:=xV s.size;have ak:=ah.drop;rw[List.drop_append_of_le_length (by rw[az.out];exact aG.1)]at ak;rw[az.out]at ak;generalize zb s.size=av at*;have aR:(s.extract (64*q) s.size++⟨av.toArray⟩).data.toList=l.drop (64*q)++av:=by
    rw[bu.out];simp only[ByteArray.data_append,ma,lI];rw[kK (by rw[jP,<-kJ];omega)]
   rw[<-aR]at ak;have aS:(s.extract (64*q) s.size++⟨av.toArray⟩).size=s.size - 64*q+av.length:=by
    have:=size_mk av;have:=aG.out;rw[cg,iV];omega
   have bD:(⟨av.toArray⟩:An).size<=72:=by rw[size_mk];omega
   have aB:(s.extract (64*q) s.size++⟨av.toArray⟩).size<=200:=by have:=aG.out;rw[aS];have:=size_mk av;omega
   have bE:=Y aB;clear aB;have aU:=Y ak;have bO:=aG.out;have bF:=A.lt;clear ak aR aS bC;go_wp2_with fail;refine pG (cp _) λw5 aL=> ?_
   go_upto_region 9 with fail
   .rename_i bg
    have:=size_mk av;exact absurd bg I
   have ay:=E.trans (aL.mono I);have au:=a7 aL A A.lt;clear cp aL A E bF bD;generalize s.extract (64*q) s.size++⟨av.toArray⟩=aE at*;have aB:=bE.out;refine rY (λW=>mY W b3 g.cs 31/\iR B w W) ⟨au,ay⟩ ?_;clear au ay w5;rintro w5 ⟨au,ay⟩;go_wp2;go_loopw [9] (λi wr=>∃(p:Nat) (g:S8),i=V X p/\R (p<=aE.size)/\R (zJ aE.data.toList p g r)/\mY wr b3 g.cs 31/\iR B w wr) (λi _=>aE.size -(jF i).toNat);case atStart=>exact⟨0,g,rfl,jB _,aU,au,ay⟩
   case round=>
    clear au ay aU ah hp hlt g;obtain⟨p,g,rfl,hp,ah,A,E⟩:=hrel;have bB:p<=200:=jk hp aB;by_cases hlt:p+64<=aE.size
    .have ai:=λ(x:qX wr)=>(a7 x.is A A.lt).eight
     go_upto_region 12 with fail;refine sQ 7 mZ mZ ?_;simp only[jm,jI,kZ,ll];have hsz:(aE.extract p (p+64)).size=64:=by rw[iV];omega
     have ax:=Y (λw=>Un g (aE.extract p (p+64)) w hsz);have N:=ah.step (by rw[<-kJ];omega);rw[<-ext_list]at N;generalize Gs g (aE.extract p (p+64)).data.toList=g1 at ax N;have aZ:=Y N;clear N hsz;unfold S8.cs at ax;repeat(go_big_quiet_step ((exact bp (ax _))))
     refine jT ?_;intro x;have ae:=a7 x.is A A.lt;have aj:=E.trans (x.is.mono (by have:=A.lt;omega));have aI:=ae.eight;have fr:=ae.free;have aJ:=Y aj;have aK:=Y ae;clear ae aj ai A E ax;obtain⟨bL,bA⟩:=x;simp only at*;go_wp2_with fail;exact⟨⟨p+64,g1,by go_num,hlt,aZ,Ab aK g1,xC aJ aP g1⟩,by simp[jF];omega⟩
    .have bG:g=r:=by
      have⟨k,hk,hl⟩:=ah.out;rw[<-kJ]at hl;obtain rfl:k=0:=I;exact hk
     clear ah;subst bG;have aI:=A.eight;have bM:=OO 0 32 0 32 rfl rfl mX mX wr;have bN:=A.lt;have aV:=Y E;have aW:=Y A;clear A E;go_upto_region 14 with fail;refine rY (λW=>nS W B 5 (G (O (Z wr.heap.size 0 U)) 0 32) (zf g 0)/\iR B w W/\mY W b3 g.cs 31) ⟨nS.made wr B _ _ 32 I mX (by rw[size_madeCells]),aV.alloc I _,aW.alloc _⟩ ?_;clear bM aI aV aW;generalize wr.heap.size=bo at*;clear wr;rintro wr ⟨J,E,A⟩;have aI:=A.eight;have aA:=A.lt;clear A;go_wp2_with fail;clear aI;go_loopw [10,59] (λv i wr=>∃j:Nat,j<=8/\i=V X j/\nS wr B 5 v (zf g j)/\iR B w wr/\B<=wr.heap.size) (λ_ i _=>8 -(jF i).toNat);case atStart=>exact⟨0,I,rfl,J,E,I⟩
     case round=>
      clear J E;obtain⟨j,bR,rfl,J,E,ag⟩:=hrel;have bH:j=0\/j=1\/j=2\/j=3\/j=4\/j=5\/j=6\/j=7\/j=8:=I;rcases bH with rfl|rfl|rfl|rfl|rfl|rfl|rfl|rfl|rfl
      .have ai:∀w',(jX 31 (mI #[V mQ (g.a.toNat:Int),V mQ (g.b.toNat:Int),V mQ (g.c.toNat:Int),V mQ (g.d.toNat:Int),V mQ (g.e.toNat:Int),V mQ (g.f.toNat:Int),V mQ (g.g.toNat:Int),V mQ (g.h.toNat:Int)]) (V X 0)).run iN w'=.ok (V mQ (g.a.toNat:Int)) w':=λ_=>rfl
       go_wp2_with (at_builtin;refine ow Im rfl (.tmp 62) (.tmp 74) rfl B _ _ (uR g.a) 4 rfl wr _ (tK g.a) rfl J rfl (by simp[zf,uR]) ag ?_;intro v' w' C aa af);go_roundw;case rel=>exact⟨1,I,by go_num,C,E.trans aa,I⟩
       case measure=>simp[jF]
      .have ai:∀w',(jX 31 (mI #[V mQ (g.a.toNat:Int),V mQ (g.b.toNat:Int),V mQ (g.c.toNat:Int),V mQ (g.d.toNat:Int),V mQ (g.e.toNat:Int),V mQ (g.f.toNat:Int),V mQ (g.g.toNat:Int),V mQ (g.h.toNat:Int)]) (V X 1)).run iN w'=.ok (V mQ (g.b.toNat:Int)) w':=λ_=>rfl
       go_wp2_with (at_builtin;refine ow Im rfl (.tmp 62) (.tmp 74) rfl B _ _ (uR g.b) 4 rfl wr _ (tK g.b) rfl J rfl (by simp[zf,uR]) ag ?_;intro v' w' C aa af);go_roundw;case rel=>exact⟨2,I,by go_num,C,E.trans aa,I⟩
       case measure=>simp[jF]
      .have ai:∀w',(jX 31 (mI #[V mQ (g.a.toNat:Int),V mQ (g.b.toNat:Int),V mQ (g.c.toNat:Int),V mQ (g.d.toNat:Int),V mQ (g.e.toNat:Int),V mQ (g.f.toNat:Int),V mQ (g.g.toNat:Int),V mQ (g.h.toNat:Int)]) (V X 2)).run iN w'=.ok (V mQ (g.c.toNat:Int)) w':=λ_=>rfl
       go_wp2_with (at_builtin;refine ow Im rfl (.tmp 62) (.tmp 74) rfl B _ _ (uR g.c) 4 rfl wr _ (tK g.c) rfl J rfl (by simp[zf,uR]) ag ?_;intro v' w' C aa af);go_roundw;case rel=>exact⟨3,I,by go_num,C,E.trans aa,I⟩
       case measure=>simp[jF]
      .have ai:∀w',(jX 31 (mI #[V mQ (g.a.toNat:Int),V mQ (g.b.toNat:Int),V mQ (g.c.toNat:Int),V mQ (g.d.toNat:Int),V mQ (g.e.toNat:Int),V mQ (g.f.toNat:Int),V mQ (g.g.toNat:Int),V mQ (g.h.toNat:Int)]) (V X 3)).run iN w'=.ok (V mQ (g.d.toNat:Int)) w':=λ_=>rfl
       go_wp2_with (at_builtin;refine ow Im rfl (.tmp 62) (.tmp 74) rfl B _ _ (uR g.d) 4 rfl wr _ (tK g.d) rfl J rfl (by simp[zf,uR]) ag ?_;intro v' w' C aa af);go_roundw;case rel=>exact⟨4,I,by go_num,C,E.trans aa,I⟩
       case measure=>simp[jF]
      .have ai:∀w',(jX 31 (mI #[V mQ (g.a.toNat:Int),V mQ (g.b.toNat:Int),V mQ (g.c.toNat:Int),V mQ (g.d.toNat:Int),V mQ (g.e.toNat:Int),V mQ (g.f.toNat:Int),V mQ (g.g.toNat:Int),V mQ (g.h.toNat:Int)]) (V X 4)).run iN w'=.ok (V mQ (g.e.toNat:Int)) w':=λ_=>rfl
       go_wp2_with (at_builtin;refine ow Im rfl (.tmp 62) (.tmp 74) rfl B _ _ (uR g.e) 4 rfl wr _ (tK g.e) rfl J rfl (by simp[zf,uR]) ag ?_;intro v' w' C aa af);go_roundw;case rel=>exact⟨5,I,by go_num,C,E.trans aa,I⟩
       case measure=>simp[jF]
      .have ai:∀w',(jX 31 (mI #[V mQ (g.a.toNat:Int),V mQ (g.b.toNat:Int),V mQ (g.c.toNat:Int),V mQ (g.d.toNat:Int),V mQ (g.e.toNat:Int),V mQ (g.f.toNat:Int),V mQ (g.g.toNat:Int),V mQ (g.h.toNat:Int)]) (V X 5)).run iN w'=.ok (V mQ (g.f.toNat:Int)) w':=λ_=>rfl
       go_wp2_with (at_builtin;refine ow Im rfl (.tmp 62) (.tmp 74) rfl B _ _ (uR g.f) 4 rfl wr _ (tK g.f) rfl J rfl (by simp[zf,uR]) ag ?_;intro v' w' C aa af);go_roundw;case rel=>exact⟨6,I,by go_num,C,E.trans aa,I⟩
       case measure=>simp[jF]
      .have ai:∀w',(jX 31 (mI #[V mQ (g.a.toNat:Int),V mQ (g.b.toNat:Int),V mQ (g.c.toNat:Int),V mQ (g.d.toNat:Int),V mQ (g.e.toNat:Int),V mQ (g.f.toNat:Int),V mQ (g.g.toNat:Int),V mQ (g.h.toNat:Int)]) (V X 6)).run iN w'=.ok (V mQ (g.g.toNat:Int)) w':=λ_=>rfl
       go_wp2_with (at_builtin;refine ow Im rfl (.tmp 62) (.tmp 74) rfl B _ _ (uR g.g) 4 rfl wr _ (tK g.g) rfl J rfl (by simp[zf,uR]) ag ?_;intro v' w' C aa af);go_roundw;case rel=>exact⟨7,I,by go_num,C,E.trans aa,I⟩
       case measure=>simp[jF]
      .have ai:∀w',(jX 31 (mI #[V mQ (g.a.toNat:Int),V mQ (g.b.toNat:Int),V mQ (g.c.toNat:Int),V mQ (g.d.toNat:Int),V mQ (g.e.toNat:Int),V mQ (g.f.toNat:Int),V mQ (g.g.toNat:Int),V mQ (g.h.toNat:Int)]) (V X 7)).run iN w'=.ok (V mQ (g.h.toNat:Int)) w':=λ_=>rfl
       go_wp2_with (at_builtin;refine ow Im rfl (.tmp 62) (.tmp 74) rfl B _ _ (uR g.h) 4 rfl wr _ (tK g.h) rfl J rfl (by simp[zf,uR]) ag ?_;intro v' w' C aa af);go_roundw;case rel=>exact⟨8,I,by go_num,C,E.trans aa,I⟩
       case measure=>simp[jF]
      .have A:=J.string Im
       go_wp2;go_returns;exact⟨by rw[OP];rfl,E⟩
def twG(f:List AC->List AC)(l:List AC):Nat->List AC
 |0=>l
 |n+1=>f (twG f l n)
def Mm(l:List AC):List AC:=twG Bz l 2
def S8.Rf(r:S8):r.out.length=32:=rfl
def Ac(l:List AC):(Bz l).length=32:=S8.Rf _
def Kb(l:List AC):(Mm l).length=32:=Ac _
def a4S(f:List AC->List AC):Prop:=(∀l,(f l).length=32)/\∀(s:An)(w:K),s.size<=100000->
  iW iN 218 #[H s] w λe w'=>e=mK (H ⟨(f s.data.toList).toArray⟩)/\iR w.heap.size w w'
def a5J:a4S Bz:=⟨Ac,λs w h=>a2L s w h⟩
def Rh(f:List AC->List AC)(ag:a4S f)(s:An)(w:K)(hs:s.size<=100000):
  iW iN 180 #[H s] w λe w'=>e=mK (H ⟨(twG f s.data.toList 2).toArray⟩)/\iR w.heap.size w w':=by
 have⟨l,hl⟩:∃l,l=s.data.toList:=⟨_,rfl⟩;rw[<-hl];have ah:=Y hl;have C:=Y ag;obtain⟨B,hB⟩:=o7 w;have E:=Y hB;rw[hB];go_in;go_wp2;go_loopw [0,3] (λv i wr=>∃(k:Nat) (S:An),v=H S/\i=V X k/\k<=2/\R (S.data.toList=twG f l k)/\S.size<=100000/\iR B w wr) (λ_ i _=>2 -(jF i).toNat);case atStart=>exact⟨0,s,rfl,rfl,I,ah.symm,hs,E.out▸iT _ _⟩
 case round=>
  obtain⟨k,S,rfl,rfl,hk,J,N,hb⟩:=hrel;by_cases c:k<2
  .go_wp2_with fail
   refine pG (C.2 S wr N) λw1 aa=> ?_
   have A:=C.1 S.data.toList;have e1:f S.data.toList=twG f l (k+1):=by rw[J.out];rfl
   rw[e1]at A|-;generalize ae:(⟨(twG f l (k+1)).toArray⟩:An)=T;have hsz:T.size<=100000:=by rw[<-ae,size_mk,A];decide
   have ai:R (T.data.toList=twG f l (k+1)):=by rw[<-ae];rfl
   have af:=hb.trans (aa.mono (by have aj:=hb.size;have ak:=E.out;omega));go_wp2_with fail;exact⟨⟨k+1,T,rfl,by go_num,I,ai,hsz,af⟩,by simp[jF];omega⟩
  .obtain rfl:k=2:=I
   go_wp2;go_returns;refine⟨congrArg (λb:An=>jS (Value.string b)) ?_,hb⟩;apply cS;apply Array.ext';exact J
def WE(s:An)(w:K)(hs:s.size<=100000):
  iW iN 180 #[H s] w λe w'=>e=mK (H ⟨(Mm s.data.toList).toArray⟩)/\iR w.heap.size w w':=
 Rh Bz a5J s w hs
def checkN(l:List AC):List AC:=(Mm l).take 4
def OQ(s:An)(w:K)(hs:s.size<=100000):
  iW iN 130 #[H s] w λe w'=>e=mK (H ⟨(checkN s.data.toList).toArray⟩)/\iR w.heap.size w w':=by
 have c1:=Y (WE s w hs);have hl:=Kb s.data.toList;have⟨T,A⟩:∃T,T=Mm s.data.toList:=⟨_,rfl⟩;have hc:checkN s.data.toList=T.take 4:=by rw[A];rfl
 rw[hc];rw[<-A]at c1 hl;have N:(⟨T.toArray⟩:An).size=32:=by rw[size_mk,hl]
 generalize C:(⟨T.toArray⟩:An)=aa at*;have E:=Y C;go_in;go_wp2_with fail;refine pG c1 λw1 J=> ?_
 go_wp2;go_returns;refine⟨congrArg (λb:An=>jS (Value.string b)) ?_,J⟩;rw[<-E.out];apply cS;apply Array.ext';rw[lI];rfl
def Ri(s o:An)(w:K)(hs:s.size<=100000):
  iW iN 141 #[H s,H o] w λe w'=>e=mK (mH (o.toList==(⟨(checkN s.data.toList).toArray⟩:An).toList))/\iR w.heap.size w w':=by
 have c1:=Y (OQ s w hs);generalize (⟨(checkN s.data.toList).toArray⟩:An)=C at*;go_in;go_wp2_with fail;refine pG c1 λw1 A=> ?_
 go_wp2;go_returns;exact⟨rfl,A⟩
end
section
open Go.RowKit
def wF(b:Bool)(er:Int):Int:=if b then 0 else er
def uL(b:Bool)(er:Int)(w:K):iW iN 134 #[mH b,V X er] w λe w'=>e=mK (V X (wF b er))/\w'=w:=by
 cases b with
 |true=>
  go_in;exact qF
 |false=>
  go_in;exact qF
def OU(s:An)(a b:Int)(A B ps:Nat)(w:K)(c0:w.cell? (Z ps 0 U)=O (H s))(C:a=A)(hb:b=B)(J:A<B)(N:B - A<=8)(hB:B<=s.size)(hs:s.size<=jd):
  iW iN 131 #[V X a,V X b,mG (O (Z ps 0 U))] w λe w'=>e=mK (V mP (oM (s.extract A B).data.toList))/\w'=w:=by
 subst C hb;have aa:(s.extract A B).size=B - A:=by simp[iV];omega
 have E:=Y (uh (s.extract A B) w I I);generalize oM (s.extract A B).data.toList=ab at*;go_in;go_wp2_with fail;refine E.mono ?_;rintro e w2 ⟨rfl,rfl⟩;go_wp2;go_returns;exact⟨rfl,rfl⟩
def Mo(x:Int)(ps:Nat)(w:K):iW iN 132 #[V X x,mG (O (Z ps 0 U))] w
  λe w'=>e=mK (.func (.func 133) #[] #[mG (O (Z ps 0 U)),mG (O (Z w.heap.size 0 U))])/\w'=w.alloc (mM #[V X x] 3):=by
 have⟨W,A⟩:=nE (w.alloc (mM #[V X x] 3));rw[A];obtain⟨g,hg⟩:=o7 w;rw[hg];go_in;go_wp2;go_returns;exact⟨rfl,rfl⟩
def zg(s:An)(x:Int)(ac ps A:Nat)(w:K)(c0:w.cell? (Z ps 0 U)=O (H s))(c1:w.cell? (Z A 0 U)=O (V X x))(C:x=ac)(hs:s.size<=jd):
  iW iN 133 #[mG (O (Z ps 0 U)),mG (O (Z A 0 U))] w λe w'=>e=mK (V X (wF (As (ac<=s.size)) 2))/\w'=w:=by
 subst C;have E:=Y uL;have hd:As ((ac:Int)<=(s.size:Int))=As (ac<=s.size):=by rw[bx];omega
 have J:=Y hd;go_in;go_wp2_with fail;refine(E _ _ _).mono ?_;rintro e w2 ⟨rfl,rfl⟩;go_wp2;go_returns;exact⟨by rw[<-J.out];rfl,rfl⟩
def Rj(s:An)(m:Int)(ps A C:Nat)(w:K)(c0:w.cell? (Z ps 0 U)=O (H s))(h0:ps<w.heap.size)(c1:w.cell? (Z A 0 U)=O (V mQ m))(J:A<w.heap.size)(N:(lN mQ m).wf=u)(c2:w.cell? (Z C 0 U)=O (.func (.func 131) #[] #[mG (O (Z ps 0 U))]))(aa:C<w.heap.size)(ae:4<=s.size)(hs:s.size<=jd):
  iW iN 135 #[mG (O (Z C 0 U)),mG (O (Z A 0 U))] w λe w'=>e=mK (V X (wF ((oM (s.extract 0 4).data.toList:Int)==m) 9))/\iR w.heap.size w w':=by
 have af:=Y (λx:qX w=>(OU s 0 4 0 4 ps x.at_ ((x.is.cell (p:=(Z ps 0 U)) h0).trans c0) rfl rfl mX mX ae hs).mono λe w' ⟨he,E⟩=>(⟨he,E▸iT _ _⟩:_/\iR x.at_.heap.size x.at_ w'));have ag:=Y (λ(b:Bool) (x:qX w)=>(uL b 9 x.at_).mono λe w' ⟨he,E⟩=>(⟨he,E▸iT _ _⟩:_/\iR x.at_.heap.size x.at_ w'));have ai:∀x:qX w,x.at_.cell? (Z A 0 U)=O (V mQ m):=λx=>(x.is.cell (p:=(Z A 0 U)) J).trans c1
 have aj:∀x:qX w,x.at_.cell? (Z C 0 U)=O (.func (.func 131) #[] #[mG (O (Z ps 0 U))]):=λx=>(x.is.cell (p:=(Z C 0 U)) aa).trans c2
 have hm2:0<=m/\m<=4294967295:=by simpa [Lit.wf,IntKind.min,IntKind.max,IntKind.signed,IntKind.bits]using N
 have ah:IntKind.u64.wrap m=m:=by
  simp only[IntKind.wrap,IntKind.signed,IntKind.bits];exact Int.emod_eq_of_lt hm2.1 I
 generalize oM (s.extract 0 4).data.toList=ab at*;go_in;go_upto_region 1 with fail;refine nG mZ mZ ?_;repeat(go_big_quiet_step (first|(go_at_call 131;exact bp (af _))|(go_at_call 134;exact bp (ag _ _))))
 refine jT ?_;intro x;go_wp2;go_returns;exact⟨rfl,x.is⟩
def uM(s:An):An:=(vY (s.extract 4 16)).getD ⟨#[]⟩
def qz(s:An):Nat:=oM (s.extract 16 20).data.toList
def WG(s aa:An)(ps C:Nat)(w:K)(c0:w.cell? (Z ps 0 U)=O (H s))(c1:w.cell? (Z C 0 U)=O (H aa))(f1:w.frozen? (Z C 0 U)=M)(ah:16<=s.size)(hs:s.size<=jd):
  iW iN 136 #[mG (O (Z ps 0 U)),mG (O (Z C 0 U))] w λe w'=>e=mK (V X (wF (vY (s.extract 4 16)).isSome 3))/\w'=w.setCell (Z C 0 U) (H (uM s)):=by
 have ai:s.size<=9223372036854775807:=by unfold jd at hs;omega
 have A:=a2E (s.extract 4 16) w (by simp[iV];unfold jd at hs|-;omega);unfold Ih at A;have⟨nm,hn⟩:∃nm,(vY (s.extract 4 16)).getD ⟨#[]⟩=nm:=⟨_,rfl⟩;have J:uM s=nm:=hn;rw[hn]at A;rw[J];have ae:=Y uL;have⟨b,hb⟩:=nE ((vY (s.extract 4 16)).isSome);rw[hb]at A|-;have⟨er,E⟩:∃er:Int,(if b=u then(0:Int)else 3)=er:=⟨_,rfl⟩;rw[E]at A;have A:=Y A;have af:R (b=(er==0)):=Y (by subst E;cases b<;>rfl);have⟨W,N⟩:∃W,w.setCell (Z C 0 U) (H nm)=W:=⟨_,rfl⟩;rw[N];have ag:=Y N;clear hn J hb E hs N;go_in;go_wp2_with fail;refine A.mono ?_;rintro e w2 ⟨rfl,rfl⟩;go_wp2_with fail;refine(ae _ _ _).mono ?_;rintro e w3 ⟨rfl,rfl⟩;go_wp2;go_returns;exact⟨by rw[af.out];rfl,ag.out⟩
def Y3(s:An)(most aa:Int)(ps ae A E:Nat)(w:K)(c0:w.cell? (Z ps 0 U)=O (H s))(c2:w.cell? (Z ae 0 U)=O (.func (.func 131) #[] #[mG (O (Z ps 0 U))]))(b1:mY w A #[V X aa] 3)(b3:mY w E #[V X most] 3)(af:E≠A)(ag:20<=s.size)(hs:s.size<=jd):
  iW iN 138 #[mG (O (Z ae 0 U)),mG (O (Z A 0 U)),mG (O (Z E 0 U))] w λe w'=>e=mK (V X (wF (As ((qz s:Int)<=most)) 5))/\w'=w.setCell (Z A 0 U) (V X (qz s)):=by
 have J:iW iN 131 #[V X 16,V X 20,mG (O (Z ps 0 U))] w λe w'=>e=mK (V mP (qz s))/\w'=w:=OU s 16 20 16 20 ps w c0 rfl rfl mX mX ag hs
 have J:=Y J;have ai:=Y uL;have hlt:qz s<4294967296:=by
  have ah:=qD (s.extract 16 20).data.toList;have aj:(s.extract 16 20).data.toList.length=4:=by
   rw[jR];show(s.extract 16 20).size=4;rw[iV];omega
  rw[aj]at ah;exact ah
 generalize qz s=N at*;have⟨W,C⟩:∃W,w.setCell (Z A 0 U) (V X (N:Int))=W:=⟨_,rfl⟩;have c4:W.cell? (Z A 0 U)=O (V X (N:Int)):=by rw[<-C];exact(b1.set 0 _).cell 0
 have c5:W.cell? (Z E 0 U)=O (V X most):=by rw[<-C];exact(b3.setOther (a:=(Z A 0 U)) af _).cell 0
 have⟨c1,f1⟩:=b1.b1;rw[C];have ak:=Y C;go_in;go_upto_region 1 with fail;clear C;go_wp2_with fail;refine J.mono ?_;rintro e w2 ⟨rfl,rfl⟩;go_upto_region 2 with fail;rw[ak.out];go_wp2_with fail;refine(ai _ _ _).mono ?_;rintro e w3 ⟨rfl,rfl⟩;go_wp2;go_returns;exact⟨rfl,rfl⟩
def WH(s:An)(N ps A:Nat)(w:K)(c0:w.cell? (Z ps 0 U)=O (H s))(c1:w.cell? (Z A 0 U)=O (V X (N:Int)))(J:24<=s.size)(hs:s.size<=jd):
  iW iN 139 #[mG (O (Z ps 0 U)),mG (O (Z A 0 U))] w λe w'=>e=mK (V X (wF (As (24+N<=s.size)) 2))/\w'=w:=by
 have aa:s.size<=9223372036854775807:=by unfold jd at hs;omega
 have C:=Y uL;have E:R (As ((N:Int)<=(s.size:Int) - 24)=As (24+N<=s.size)):=Y (by rw[bx];omega);go_in;go_wp2_with fail;refine(C _ _ _).mono ?_;rintro e w3 ⟨rfl,rfl⟩;go_wp2;go_returns;exact⟨by rw[<-E.out];rfl,rfl⟩
def KS(b o:An):Bool:=o.toList==(⟨(checkN b.data.toList).toArray⟩:An).toList
def Y4(s:An)(N ps A:Nat)(w:K)(c0:w.cell? (Z ps 0 U)=O (H s))(h0:ps<w.heap.size)(c1:w.cell? (Z A 0 U)=O (V X (N:Int)))(E:A<w.heap.size)(ae:24+N<=s.size)(ag:N<=100000)(hs:s.size<=jd):
  iW iN 140 #[mG (O (Z ps 0 U)),mG (O (Z A 0 U))] w λe w'=>e=mK (V X (wF (KS (s.extract 24 (24+N)) (s.extract 20 24)) 10))/\iR w.heap.size w w':=by
 have af:s.size<=9223372036854775807:=by unfold jd at hs;omega
 have C:∀x:qX w,iW iN 141 #[H (s.extract 24 (24+N)),H (s.extract 20 24)] x.at_ λe w'=>e=mK (mH (KS (s.extract 24 (24+N)) (s.extract 20 24)))/\iR x.at_.heap.size x.at_ w':=λx=>Ri (s.extract 24 (24+N)) (s.extract 20 24) x.at_ (by simp[iV];omega)
 have C:=Y C;have J:=Y (λ(b:Bool) (x:qX w)=>(uL b 10 x.at_).mono λe w' ⟨he,aa⟩=>(⟨he,aa▸iT _ _⟩:_/\iR x.at_.heap.size x.at_ w'));have ah:∀x:qX w,x.at_.cell? (Z ps 0 U)=O (H s):=λx=>(x.is.cell (p:=(Z ps 0 U)) h0).trans c0
 have ai:∀x:qX w,x.at_.cell? (Z A 0 U)=O (V X (N:Int)):=λx=>(x.is.cell (p:=(Z A 0 U)) E).trans c1
 generalize KS (s.extract 24 (24+N)) (s.extract 20 24)=B at*;go_in;go_upto_region 1 with fail;refine nG mZ mZ ?_;repeat(go_big_quiet_step (first|(go_at_call 141;exact bp (C _))|(go_at_call 134;exact bp (J _ _))))
 refine jT ?_;intro x;go_wp2;go_returns;exact⟨rfl,x.is⟩
structure tJ where
 id:Nat
 name:An
 body:An
def tJ.v(f:tJ):iQ:=mI #[V mP f.id,H f.name,H f.body]
def uZ(aE:Except Nat (tJ×Nat))(w:K)(e:kV)(w':K):Prop:=iR w.heap.size w w'/\match aE with
 | .error er=>e=mK (mJ #[mI #[V mP 0,H ⟨#[]⟩,H ⟨#[]⟩],V X 0,V X (er:Nat)])
 | .ok y=>e=mK (mJ #[mI #[V mP y.1.id,H y.1.name,H y.1.body],V X (y.2:Nat),V X 0])
def rV(s:An)(m most:Int):Nat->Int
 |0=>wF (As (4<=s.size)) 2
 |1=>wF ((oM (s.extract 0 4).data.toList:Int)==m) 9
 |2=>wF (As (16<=s.size)) 2
 |3=>wF (vY (s.extract 4 16)).isSome 3
 |4=>wF (As (20<=s.size)) 2
 |5=>wF (As ((qz s:Int)<=most)) 5
 |6=>wF (As (24<=s.size)) 2
 |7=>wF (As (24+qz s<=s.size)) 2
 |8=>wF (KS (s.extract 24 (24+qz s)) (s.extract 20 24)) 10
 |_=>0
def sV(f:Nat->Int):Nat->Nat->Int
 |0,_=>0
 |n+1,k=>if f k=0 then sV f n (k+1)else f k
def tL{f:Nat->Int}(h:f k=0):sV f (n+1) k=sV f n (k+1):=Ax h
def rQ{f:Nat->Int}(h:f k≠0):sV f (n+1) k=f k:=At h
def qp(s:An)(m most:Int):Except Nat (tJ×Nat):=
 if sV (rV s m most) 9 0=0 then .ok (⟨0,uM s,s.extract 24 (24+qz s)⟩,24+qz s)else .error (sV (rV s m most) 9 0).toNat
def qZ{b:Bool}(he:er≠0)(h:wF b er=0):b=u:=by
 cases b;.exact absurd h (by simpa [wF]using he)
 .rfl
def Rk(b:Bool)(h:0<=er):0<=wF b er:=by unfold wF;split<;>omega
def qK(s:An)(m most:Int):∀k,0<=rV s m most k:=by
 intro k;unfold rV;split<;>first|exact Rk _ mX|exact dt _
def FO{f:Nat->Int}(h:∀k,0<=f k):∀n k,0<=sV f n k:=by
 intro n;induction n with
 |zero=>intro k;exact dt _
 |succ n A=>intro k;unfold sV;split;exact A _;exact h k
abbrev pR:jl:=52
abbrev QN:jl:=9
abbrev InT:jl:=3
abbrev NuT:jl:=187
def Io(g r:Nat):iQ:=.func (.func 133) #[] #[mG (O (Z (g+2) 0 U)),mG (O (Z r 0 U))]
structure Yt(g:Nat)(w0:K)(m most:Int)(s nm:An)(ln:Int)(W:K):Prop where
 bm:mY W g #[V mQ m] 22
 bo:mY W (g+1) #[V X most] InT
 bs:mY W (g+2) #[H s] QN
 br:mY W (g+3) #[V mP 0,H ⟨#[]⟩,H ⟨#[]⟩] pR
 bn:mY W (g+4) #[H nm] QN
 bl:mY W (g+5) #[V X ln] InT
 bf:mY W (g+6) #[.func (.func 131) #[] #[mG (O (Z (g+2) 0 U))]] NuT
 r1:mY W (g+7) #[V X 4] InT
 r2:mY W (g+8) #[V X 16] InT
 r3:mY W (g+9) #[V X 20] InT
 r4:mY W (g+10) #[V X 24] InT
 pV:iR g w0 W
section
variable {g:Nat}{w0 W:K}{m most ln:Int}{s nm:An}
def Yt.below{A:K}(h:Yt g w0 m most s nm ln W)(hb:iR W.heap.size W A):Yt g w0 m most s nm ln A:=
 ⟨a7 hb h.bm h.bm.lt,a7 hb h.bo h.bo.lt,a7 hb h.bs h.bs.lt,a7 hb h.br h.br.lt,a7 hb h.bn h.bn.lt,a7 hb h.bl h.bl.lt,a7 hb h.bf h.bf.lt,
  a7 hb h.r1 h.r1.lt,a7 hb h.r2 h.r2.lt,a7 hb h.r3 h.r3.lt,a7 hb h.r4 h.r4.lt,h.pV.trans (hb.mono (cG h.bm.lt))⟩
def Yt.a2M(h:Yt g w0 m most s nm ln W)(n2:An):Yt g w0 m most s n2 ln (W.setCell (Z (g+4) 0 U) (H n2)):=
 have o:∀{c:Nat}{cs:Array iQ}{t:jl},mY W c cs t->c≠g+4->mY (W.setCell (Z (g+4) 0 U) (H n2)) c cs t:=λh hn=>h.setOther hn _
 ⟨o h.bm I,o h.bo I,o h.bs I,o h.br I,h.bn.set 0 _,o h.bl I,o h.bf I,o h.r1 I,o h.r2 I,o h.r3 I,o h.r4 I,h.pV.setCell (co _ _) _⟩
def Yt.BU(h:Yt g w0 m most s nm ln W)(n2:Int):Yt g w0 m most s nm n2 (W.setCell (Z (g+5) 0 U) (V X n2)):=
 have o:∀{c:Nat}{cs:Array iQ}{t:jl},mY W c cs t->c≠g+5->mY (W.setCell (Z (g+5) 0 U) (V X n2)) c cs t:=λh hn=>h.setOther hn _
 ⟨o h.bm I,o h.bo I,o h.bs I,o h.br I,o h.bn I,h.bl.set 0 _,o h.bf I,o h.r1 I,o h.r2 I,o h.r3 I,o h.r4 I,h.pV.setCell (co _ _) _⟩
end
def Uq(g:Nat):Array iQ:=#[Io g (g+7),.func (.func 135) #[] #[mG (O (Z (g+6) 0 U)),mG (O (Z g 0 U))],Io g (g+8),
 .func (.func 136) #[] #[mG (O (Z (g+2) 0 U)),mG (O (Z (g+4) 0 U))],Io g (g+9),
 .func (.func 138) #[] #[mG (O (Z (g+6) 0 U)),mG (O (Z (g+5) 0 U)),mG (O (Z (g+1) 0 U))],Io g (g+10),
 .func (.func 139) #[] #[mG (O (Z (g+2) 0 U)),mG (O (Z (g+5) 0 U))],
 .func (.func 140) #[] #[mG (O (Z (g+2) 0 U)),mG (O (Z (g+5) 0 U))]]
abbrev Yu:jl:=191
def xE{cs:Array iQ}(h:mY w b cs t)(o:Obj)(he:w.alloc o=W):mY W b cs t:=by subst he;exact h.alloc o
def a5K{m:Int}{s:An}(hg:w.heap.size=g)(h:(((((((((((w.alloc (mM #[V mQ m] 22)).alloc (mM #[V X most] InT)).alloc (mM #[H s] QN)).alloc (mM #[V mP 0,H ⟨#[]⟩,H ⟨#[]⟩] pR)).alloc (mM #[H ⟨#[]⟩] QN)).alloc (mM #[V X 0] InT)).alloc
   (mM #[.func (.func 131) #[] #[mG (O (Z (g+2) 0 U))]] NuT)).alloc (mM #[V X 4] InT)).alloc (mM #[V X 16] InT)).alloc (mM #[V X 20] InT)).alloc (mM #[V X 24] InT)).alloc (mM (Uq g) Yu)=W):
  Yt g w m most s ⟨#[]⟩ 0 W/\mY W (g+11) (Uq g) Yu:=by
 have⟨a1,e1⟩:=nE (w.alloc (mM #[V mQ m] 22));rw[e1]at h;have⟨a2,e2⟩:=nE (a1.alloc (mM #[V X most] InT));rw[e2]at h;have⟨a3,e3⟩:=nE (a2.alloc (mM #[H s] QN));rw[e3]at h;have⟨a4,e4⟩:∃a,a3.alloc (mM #[V mP 0,H ⟨#[]⟩,H ⟨#[]⟩] pR)=a:=⟨_,rfl⟩;rw[e4]at h;have⟨a5,e5⟩:∃a,a4.alloc (mM #[H ⟨#[]⟩] QN)=a:=⟨_,rfl⟩;rw[e5]at h;have⟨a6,C⟩:=nE (a5.alloc (mM #[V X 0] InT));rw[C]at h;have⟨af,E⟩:∃a,a6.alloc (mM #[.func (.func 131) #[] #[mG (O (Z (g+2) 0 U))]] NuT)=a:=⟨_,rfl⟩;rw[E]at h;have⟨ag,J⟩:=nE (af.alloc (mM #[V X 4] InT));rw[J]at h;have⟨a9,N⟩:=nE (ag.alloc (mM #[V X 16] InT));rw[N]at h;have⟨ah,aa⟩:=nE (a9.alloc (mM #[V X 20] InT));rw[aa]at h;have⟨aA,ae⟩:=nE (ah.alloc (mM #[V X 24] InT));rw[ae]at h;have z:∀{ar v:K}{o:Obj}{n:Nat},ar.alloc o=v->ar.heap.size=n->v.heap.size=n+1:=λh hn=>by subst h;simp[hn]
 have ai:=z e1 hg;have aj:=z e2 ai;have z3:=z e3 aj;have z4:=z e4 z3;have z5:=z e5 z4;have ak:=z C z5;have au:=z E ak;have av:=z J au;have z9:=z N av;have ax:=z aa z9;have aB:=z ae ax;have nb:∀{ar v:K}{cs:Array iQ}{t:jl}{n:Nat},ar.alloc (mM cs t)=v->ar.heap.size=n->mY v n cs t:=λh hn=>by subst h;rw[<-hn];exact mY.new _ _ _
 have u4:=λ{b:Nat} {cs:Array iQ} {t:jl} (A:mY aA b cs t)=>xE A _ h
 have ay:=λ{b:Nat} {cs:Array iQ} {t:jl} (A:mY ah b cs t)=>u4 (xE A _ ae)
 have az:=λ{b:Nat} {cs:Array iQ} {t:jl} (A:mY a9 b cs t)=>ay (xE A _ aa)
 have u9:=λ{b:Nat} {cs:Array iQ} {t:jl} (A:mY ag b cs t)=>az (xE A _ N)
 have u8:=λ{b:Nat} {cs:Array iQ} {t:jl} (A:mY af b cs t)=>u9 (xE A _ J)
 have u7:=λ{b:Nat} {cs:Array iQ} {t:jl} (A:mY a6 b cs t)=>u8 (xE A _ E)
 have u6:=λ{b:Nat} {cs:Array iQ} {t:jl} (A:mY a5 b cs t)=>u7 (xE A _ C)
 have u5:=λ{b:Nat} {cs:Array iQ} {t:jl} (A:mY a4 b cs t)=>u6 (xE A _ e5)
 have v4:=λ{b:Nat} {cs:Array iQ} {t:jl} (A:mY a3 b cs t)=>u5 (xE A _ e4)
 have v3:=λ{b:Nat} {cs:Array iQ} {t:jl} (A:mY a2 b cs t)=>v4 (xE A _ e3)
 have v2:=λ{b:Nat} {cs:Array iQ} {t:jl} (A:mY a1 b cs t)=>v3 (xE A _ e2)
 refine⟨⟨v2 (nb e1 hg),v3 (nb e2 ai),v4 (nb e3 aj),u5 (nb e4 z3),u6 (nb e5 z4),u7 (nb C z5),u8 (nb E ak),u9 (nb J au),az (nb N av),ay (nb aa z9),u4 (nb ae ax),?_⟩,nb h aB⟩;subst h ae aa N J E C e5 e4 e3 e2 e1;have q:=λ(ar:K) (aD:g<=ar.heap.size) (b:iR g w ar) (o:Obj)=>b.alloc aD o
 exact q _ I (q _ I (q _ I (q _ I (q _ I (q _ I (q _ I (q _ I (q _ I (q _ I (q _ I (q _ I (iT _ _) _) _) _) _) _) _) _) _) _) _) _) _
def q8(w:K)(g:Nat)(a b c:iQ):K:=((w.setCell (Z g 0 U) a).setCell (Z g 1 U) b).setCell (Z g 2 U) c
def nO(w:K)(g:Nat)(a b c:iQ):((w.setCell (Z g 0 U) a).setCell (Z g 1 U) b).setCell (Z g 2 U) c=q8 w g a b c:=rfl
def oU{a b c a0 b0 c0:iQ}(h:mY w g #[a0,b0,c0] t):mY (q8 w g a b c) g #[a,b,c] t:=((h.set 0 _).set 1 _).set 2 _
def a5L{s:An}{m E v:Int}(A:sV (rV s m most) 9 0=E)(he:E=v)(C:v≠0)(hn:0<=v)(hb:iR w.heap.size w w'):
  uZ (qp s m most) w (mK (mJ #[mI #[V mP 0,H ⟨#[]⟩,H ⟨#[]⟩],V X 0,V X v])) w':=by
 unfold uZ qp;rw[A,he,At C];refine⟨hb,?_⟩;dsimp only;rw[cY hn]
def a5M(a0 a1 a2 a3 a4 a5 a6 A C:iQ)(W:K):lJ iN (jX Yu (mI #[a0,a1,a2,a3,a4,a5,a6,A,C]) (V X 0)) W=.ok a0 W:=rfl
def a5N(a0 a1 a2 a3 a4 a5 a6 A C:iQ)(W:K):lJ iN (jX Yu (mI #[a0,a1,a2,a3,a4,a5,a6,A,C]) (V X 1)) W=.ok a1 W:=rfl
def a5O(a0 a1 a2 a3 a4 a5 a6 A C:iQ)(W:K):lJ iN (jX Yu (mI #[a0,a1,a2,a3,a4,a5,a6,A,C]) (V X 2)) W=.ok a2 W:=rfl
def a5P(a0 a1 a2 a3 a4 a5 a6 A C:iQ)(W:K):lJ iN (jX Yu (mI #[a0,a1,a2,a3,a4,a5,a6,A,C]) (V X 3)) W=.ok a3 W:=rfl
def a5Q(a0 a1 a2 a3 a4 a5 a6 A C:iQ)(W:K):lJ iN (jX Yu (mI #[a0,a1,a2,a3,a4,a5,a6,A,C]) (V X 4)) W=.ok a4 W:=rfl
def a5R(a0 a1 a2 a3 a4 a5 a6 A C:iQ)(W:K):lJ iN (jX Yu (mI #[a0,a1,a2,a3,a4,a5,a6,A,C]) (V X 5)) W=.ok a5 W:=rfl
def a5S(a0 a1 a2 a3 a4 a5 a6 A C:iQ)(W:K):lJ iN (jX Yu (mI #[a0,a1,a2,a3,a4,a5,a6,A,C]) (V X 6)) W=.ok a6 W:=rfl
def a5T(a0 a1 a2 a3 a4 a5 a6 A C:iQ)(W:K):lJ iN (jX Yu (mI #[a0,a1,a2,a3,a4,a5,a6,A,C]) (V X 7)) W=.ok A W:=rfl
def a5U(a0 a1 a2 a3 a4 a5 a6 C A:iQ)(W:K):lJ iN (jX Yu (mI #[a0,a1,a2,a3,a4,a5,a6,C,A]) (V X 8)) W=.ok A W:=rfl
def De(h:p:=by
 have⟨r0,r1,r2,z0,z1,z2⟩:=HI3.br.b3;have HQ:=Y (oU (a:=V mP 0) (b:=H ⟨#[]⟩) (c:=H ⟨#[]⟩) HI3.br);have HBL:R (iR w.heap.size w (q8 w3 (g+3) (V mP 0) (H ⟨#[]⟩) (H ⟨#[]⟩))):=Y (hg.symm▸(((HI3.pV.setCell (p:=(Z (g+3) 0 U)) (co _ _) _).setCell (p:=(Z (g+3) 1 U)) (co _ _) _).setCell (p:=(Z (g+3) 2 U)) (co _ _) _));go_wp2_with fail;rw[nO];have⟨d0,d1,d2⟩:=HQ.a3;refine iY (v:=mJ #[mI #[V mP 0,H ⟨#[]⟩,H ⟨#[]⟩],V X 0,V X v]) (by simp[jv,Tryz.results101,go_sem,d0,d1,d2]) rfl ?_;rw[<-HP.out];exact a5L HE HEV (by simpa using hne) hnn HBL.out):p:=h
def WI(m most:Int)(s:An)(w:K)(bg:(lN mQ m).wf=u)(bB:most<=65536)(hs:s.size<=jd):
  iW iN 101 #[V mQ m,V X most,H s] w (uZ (qp s m most) w):=by
 obtain⟨g,hg⟩:=o7 w;have aA:=Y Mo;have bC:=a5M;have bD:=a5N;have bE:=a5O;have bF:=a5P;have bG:=a5Q;have bH:=a5R;have bI:=a5S;have bJ:=a5T;have bK:=a5U;have av:=Y hs;clear hs;have⟨bq,aD⟩:=nE (uZ (qp s m most) w);have HP:=Y aD;rw[aD];clear aD;go_in;go_upto_region 5 with fail;simp only[j3,Nat.reduceAdd];go_wp2_with fail;refine(aA _ _ _).mono ?_;rintro e w2 ⟨rfl,rfl⟩;go_wp2_with fail;refine(aA _ _ _).mono ?_;rintro e w2 ⟨rfl,rfl⟩;go_wp2_with fail;refine(aA _ _ _).mono ?_;rintro e w2 ⟨rfl,rfl⟩;go_wp2_with fail;refine(aA _ _ _).mono ?_;rintro e w2 ⟨rfl,rfl⟩;go_upto_region 6 with fail;simp only[j3,Nat.reduceAdd,hg];refine rY (λW=>Yt g w m most s ⟨#[]⟩ 0 W/\mY W (g+11) (Uq g) Yu) (a5K hg rfl) ?_;rintro bN ⟨hI0,ak⟩;have aJ:=ak.cell 0;have aK:=ak.cell 1;have aL:=ak.cell 2;have aM:=ak.cell 3;have aN:=ak.cell 4;have aO:=ak.cell 5;have aP:=ak.cell 6;have aQ:=ak.cell 7;have aR:=ak.cell 8;simp only[Uq,Io,ji,jb,jc]at aJ aK aL aM aN aO aP aQ aR;have aS:=Y hI0;have⟨E,aU⟩:=nE (sV (rV s m most) 9 0);have HE:=Y aU;clear ak hI0 aU;go_wp2;go_loopw [34] (λkv bu=>∃(k:Nat) (nm:An) (ln:Int),kv=V X (k:Int)/\k<=9/\R (Yt g w m most s nm ln bu)/\R (sV (rV s m most) (9 - k) k=E)/\R (∀i,i<k->rV s m most i=0)/\R (3<k->nm=uM s)/\R (5<k->ln=(qz s:Nat))) (λkv _=>9 -(jF kv).toNat);case atStart=>exact⟨0,_,_,rfl,I,aS,HE,Y (λi hi=>absurd hi I),Y (λh=>absurd h I),Y (λh=>absurd h I)⟩
 case round=>
  obtain⟨k,nm,ln,rfl,hk,J,ag,ah,au,ay⟩:=hrel;have aj:=Y J.br;clear aJ aK aL aM aN aO aP aQ aR;by_cases bL:k<9;case neg=>
   obtain rfl:k=9:=I;obtain rfl:=au.out mX;obtain rfl:=ay.out mX;have aV:R (E=0):=Y ag.symm;have bz:24+qz s<=s.size:=b2 (qZ mX (ah 7 mX));have aW:(qz s:Int)<=most:=b2 (qZ mX (ah 5 mX));have az:R (uZ (qp s m most) w=λe w'=>iR w.heap.size w w'/\e=mK (mJ #[mI #[V mP 0,H (uM s),H (s.extract 24 (24+qz s))],V X ((24+qz s:Nat):Int),V X 0])):=Y (by
    unfold uZ qp;rw[HE.out,aV.out,Ax rfl];rfl)
   have⟨N,aX⟩:=nE (qz s);have⟨aF,aB⟩:=nE (uM s);rw[aX]at bz aW J az;rw[aB]at J az;have bO:=J.bs.c0;have bP:=J.bn.c0;have bQ:=J.bl.c0;have⟨r0,r1,r2,z0,z1,z2⟩:=J.br.b3;have bA:N<=65536:=I;clear aX aB aj aW;have HI3:=J;have HBL:R (iR w.heap.size w (q8 wr (g+3) (V mP 0) (H aF) (H (s.extract 24 (24+N))))):=Y (hg.symm▸(((HI3.pV.setCell (p:=(Z (g+3) 0 U)) (co _ _) _).setCell (p:=(Z (g+3) 1 U)) (co _ _) _).setCell (p:=(Z (g+3) 2 U)) (co _ _) _));have HQ:=Y (oU (a:=V mP 0) (b:=H aF) (c:=H (s.extract 24 (24+N))) HI3.br);go_upto_region 13 with fail;go_big_region;go_wp2_with fail;have⟨d0,d1,d2⟩:=HQ.a3;rw[nO];refine iY (v:=mJ #[mI #[V mP 0,H aF,H (s.extract 24 (24+N))],V X (24+(N:Int)),V X 0]) (by simp[jv,Tryz.results101,go_sem,d0,d1,d2]) rfl ?_;rw[<-HP.out,az.out];exact⟨HBL.drew,ny⟩
  obtain rfl|rfl|rfl|rfl|rfl|rfl|rfl|rfl|rfl:k=0\/k=1\/k=2\/k=3\/k=4\/k=5\/k=6\/k=7\/k=8:=I
  .
   have⟨v,A⟩:=nE (rV s m most 0);have ax:=Y A;have hnn:0<=v:=by rw[<-A];exact qK _ _ _ _
   have C:R (iW iN 133 #[mG (O (Z (g+2) 0 U)),mG (O (Z (g+7) 0 U))] wr λe w'=>e=mK (V X v)/\w'=wr):=Y (by rw[<-A];exact zg s 4 4 (g+2) (g+7) wr (J.bs.cell 0) (J.r1.cell 0) rfl av);by_cases aa:v=0
   .subst aa
    have ae:R (sV (rV s m most) (9 - 1) 1=E):=Y (by rw[<-ag.out];exact(tL A).symm);have af:R (∀i,i<1->rV s m most i=0):=Y λi hi=>by
     rcases jL i 0 with h|h
     .exact ah i h
     .obtain rfl:i=0:=I
      exact A
    clear A hnn aj;go_wp2_with fail;refine C.mono ?_;rintro e w3 ⟨rfl,rfl⟩;go_wp2;go_roundw;case rel=>exact⟨1,nm,ln,rfl,I,J,ae,af,Y (λh=>absurd h I),Y (λh=>absurd h I)⟩
    case measure=>simp[jF]
   .have hne:(v !=0)=u:=by simp[aa]
    have HEV:R (E=v):=Y (by rw[<-ag.out];exact(rQ (by rw[A];exact aa)).trans A);clear A aa;go_wp2_with fail;refine C.mono ?_;rintro e w3 ⟨rfl,rfl⟩;have HI3:=J;exact De
  .
   have aY:4<=s.size:=b2 (qZ mX (ah 0 mX));have⟨v,A⟩:=nE (rV s m most 1);have ax:=Y A;have hnn:0<=v:=by rw[<-A];exact qK _ _ _ _
   have C:R (iW iN 135 #[mG (O (Z (g+6) 0 U)),mG (O (Z g 0 U))] wr λe w'=>e=mK (V X v)/\iR wr.heap.size wr w'):=Y (by rw[<-A];exact Rj s m (g+2) g (g+6) wr (J.bs.cell 0) J.bs.lt (J.bm.cell 0) J.bm.lt bg (J.bf.cell 0) J.bf.lt aY av);by_cases aa:v=0
   .subst aa
    have ae:R (sV (rV s m most) (9 - 2) 2=E):=Y (by rw[<-ag.out];exact(tL A).symm);have af:R (∀i,i<2->rV s m most i=0):=Y λi hi=>by
     rcases jL i 1 with h|h
     .exact ah i h
     .obtain rfl:i=1:=I
      exact A
    clear A hnn aj;go_wp2_with fail;refine pG C λw3 ai=> ?_
    have HI3:=Y (J.below ai);clear ai;go_wp2;go_roundw;case rel=>exact⟨2,nm,ln,rfl,I,HI3,ae,af,Y (λh=>absurd h I),Y (λh=>absurd h I)⟩
    case measure=>simp[jF]
   .have hne:(v !=0)=u:=by simp[aa]
    have HEV:R (E=v):=Y (by rw[<-ag.out];exact(rQ (by rw[A];exact aa)).trans A);clear A aa;go_wp2_with fail;refine pG C λw3 ai=> ?_
    have HI3:=Y (J.below ai);clear ai;exact De
  .
   have⟨v,A⟩:=nE (rV s m most 2);have ax:=Y A;have hnn:0<=v:=by rw[<-A];exact qK _ _ _ _
   have C:R (iW iN 133 #[mG (O (Z (g+2) 0 U)),mG (O (Z (g+8) 0 U))] wr λe w'=>e=mK (V X v)/\w'=wr):=Y (by rw[<-A];exact zg s 16 16 (g+2) (g+8) wr (J.bs.cell 0) (J.r2.cell 0) rfl av);by_cases aa:v=0
   .subst aa
    have ae:R (sV (rV s m most) (9 - 3) 3=E):=Y (by rw[<-ag.out];exact(tL A).symm);have af:R (∀i,i<3->rV s m most i=0):=Y λi hi=>by
     rcases jL i 2 with h|h
     .exact ah i h
     .obtain rfl:i=2:=I
      exact A
    clear A hnn aj;go_wp2_with fail;refine C.mono ?_;rintro e w3 ⟨rfl,rfl⟩;go_wp2;go_roundw;case rel=>exact⟨3,nm,ln,rfl,I,J,ae,af,Y (λh=>absurd h I),Y (λh=>absurd h I)⟩
    case measure=>simp[jF]
   .have hne:(v !=0)=u:=by simp[aa]
    have HEV:R (E=v):=Y (by rw[<-ag.out];exact(rQ (by rw[A];exact aa)).trans A);clear A aa;go_wp2_with fail;refine C.mono ?_;rintro e w3 ⟨rfl,rfl⟩;have HI3:=J;exact De
  .
   have aG:16<=s.size:=b2 (qZ mX (ah 2 mX));have⟨v,A⟩:=nE (rV s m most 3);have ax:=Y A;have hnn:0<=v:=by rw[<-A];exact qK _ _ _ _
   have C:R (iW iN 136 #[mG (O (Z (g+2) 0 U)),mG (O (Z (g+4) 0 U))] wr λe w'=>e=mK (V X v)/\w'=wr.setCell (Z (g+4) 0 U) (H (uM s))):=Y (by rw[<-A];exact WG s nm (g+2) (g+4) wr (J.bs.cell 0) (J.bn.cell 0) (J.bn.free 0) aG av);by_cases aa:v=0
   .subst aa
    have ae:R (sV (rV s m most) (9 - 4) 4=E):=Y (by rw[<-ag.out];exact(tL A).symm);have af:R (∀i,i<4->rV s m most i=0):=Y λi hi=>by
     rcases jL i 3 with h|h
     .exact ah i h
     .obtain rfl:i=3:=I
      exact A
    clear A hnn aj;go_wp2_with fail;refine C.mono ?_;rintro e w3 ⟨rfl,rfl⟩;have HI3:=Y (J.a2M (uM s));generalize wr.setCell (Z (g+4) 0 U) (H (uM s))=w3 at*;go_wp2;go_roundw;case rel=>exact⟨4,uM s,ln,rfl,I,HI3,ae,af,Y (λh=>rfl),Y (λh=>absurd h I)⟩
    case measure=>simp[jF]
   .have hne:(v !=0)=u:=by simp[aa]
    have HEV:R (E=v):=Y (by rw[<-ag.out];exact(rQ (by rw[A];exact aa)).trans A);clear A aa;go_wp2_with fail;refine C.mono ?_;rintro e w3 ⟨rfl,rfl⟩;have HI3:=Y (J.a2M (uM s));generalize wr.setCell (Z (g+4) 0 U) (H (uM s))=w3 at*;exact De
  .
   have⟨v,A⟩:=nE (rV s m most 4);have ax:=Y A;have hnn:0<=v:=by rw[<-A];exact qK _ _ _ _
   have C:R (iW iN 133 #[mG (O (Z (g+2) 0 U)),mG (O (Z (g+9) 0 U))] wr λe w'=>e=mK (V X v)/\w'=wr):=Y (by rw[<-A];exact zg s 20 20 (g+2) (g+9) wr (J.bs.cell 0) (J.r3.cell 0) rfl av);by_cases aa:v=0
   .subst aa
    have ae:R (sV (rV s m most) (9 - 5) 5=E):=Y (by rw[<-ag.out];exact(tL A).symm);have af:R (∀i,i<5->rV s m most i=0):=Y λi hi=>by
     rcases jL i 4 with h|h
     .exact ah i h
     .obtain rfl:i=4:=I
      exact A
    clear A hnn aj;go_wp2_with fail;refine C.mono ?_;rintro e w3 ⟨rfl,rfl⟩;go_wp2;go_roundw;case rel=>exact⟨5,nm,ln,rfl,I,J,ae,af,Y (λh=>au.out I),Y (λh=>absurd h I)⟩
    case measure=>simp[jF]
   .have hne:(v !=0)=u:=by simp[aa]
    have HEV:R (E=v):=Y (by rw[<-ag.out];exact(rQ (by rw[A];exact aa)).trans A);clear A aa;go_wp2_with fail;refine C.mono ?_;rintro e w3 ⟨rfl,rfl⟩;have HI3:=J;exact De
  .
   have aH:20<=s.size:=b2 (qZ mX (ah 4 mX));have⟨v,A⟩:=nE (rV s m most 5);have ax:=Y A;have hnn:0<=v:=by rw[<-A];exact qK _ _ _ _
   have C:R (iW iN 138 #[mG (O (Z (g+6) 0 U)),mG (O (Z (g+5) 0 U)),mG (O (Z (g+1) 0 U))] wr λe w'=>e=mK (V X v)/\w'=wr.setCell (Z (g+5) 0 U) (V X (qz s:Nat))):=Y (by rw[<-A];exact Y3 s most ln (g+2) (g+6) (g+5) (g+1) wr (J.bs.cell 0) (J.bf.cell 0) J.bl J.bo I aH av);by_cases aa:v=0
   .subst aa
    have ae:R (sV (rV s m most) (9 - 6) 6=E):=Y (by rw[<-ag.out];exact(tL A).symm);have af:R (∀i,i<6->rV s m most i=0):=Y λi hi=>by
     rcases jL i 5 with h|h
     .exact ah i h
     .obtain rfl:i=5:=I
      exact A
    clear A hnn aj;go_wp2_with fail;refine C.mono ?_;rintro e w3 ⟨rfl,rfl⟩;have HI3:=Y (J.BU (qz s:Nat));generalize wr.setCell (Z (g+5) 0 U) (V X (qz s:Nat))=w3 at*;go_wp2;go_roundw;case rel=>exact⟨6,nm,(qz s:Nat),rfl,I,HI3,ae,af,Y (λh=>au.out I),Y (λh=>rfl)⟩
    case measure=>simp[jF]
   .have hne:(v !=0)=u:=by simp[aa]
    have HEV:R (E=v):=Y (by rw[<-ag.out];exact(rQ (by rw[A];exact aa)).trans A);clear A aa;go_wp2_with fail;refine C.mono ?_;rintro e w3 ⟨rfl,rfl⟩;have HI3:=Y (J.BU (qz s:Nat));generalize wr.setCell (Z (g+5) 0 U) (V X (qz s:Nat))=w3 at*;exact De
  .
   have⟨v,A⟩:=nE (rV s m most 6);have ax:=Y A;have hnn:0<=v:=by rw[<-A];exact qK _ _ _ _
   have C:R (iW iN 133 #[mG (O (Z (g+2) 0 U)),mG (O (Z (g+10) 0 U))] wr λe w'=>e=mK (V X v)/\w'=wr):=Y (by rw[<-A];exact zg s 24 24 (g+2) (g+10) wr (J.bs.cell 0) (J.r4.cell 0) rfl av);by_cases aa:v=0
   .subst aa
    have ae:R (sV (rV s m most) (9 - 7) 7=E):=Y (by rw[<-ag.out];exact(tL A).symm);have af:R (∀i,i<7->rV s m most i=0):=Y λi hi=>by
     rcases jL i 6 with h|h
     .exact ah i h
     .obtain rfl:i=6:=I
      exact A
    clear A hnn aj;go_wp2_with fail;refine C.mono ?_;rintro e w3 ⟨rfl,rfl⟩;go_wp2;go_roundw;case rel=>exact⟨7,nm,ln,rfl,I,J,ae,af,Y (λh=>au.out I),Y (λh=>ay.out I)⟩
    case measure=>simp[jF]
   .have hne:(v !=0)=u:=by simp[aa]
    have HEV:R (E=v):=Y (by rw[<-ag.out];exact(rQ (by rw[A];exact aa)).trans A);clear A aa;go_wp2_with fail;refine C.mono ?_;rintro e w3 ⟨rfl,rfl⟩;have HI3:=J;exact De
  .
   obtain rfl:=ay.out mX;have aI:24<=s.size:=b2 (qZ mX (ah 6 mX));have⟨v,A⟩:=nE (rV s m most 7);have ax:=Y A;have hnn:0<=v:=by rw[<-A];exact qK _ _ _ _
   have C:R (iW iN 139 #[mG (O (Z (g+2) 0 U)),mG (O (Z (g+5) 0 U))] wr λe w'=>e=mK (V X v)/\w'=wr):=Y (by rw[<-A];exact WH s (qz s) (g+2) (g+5) wr (J.bs.cell 0) (J.bl.cell 0) aI av);by_cases aa:v=0
   .subst aa
    have ae:R (sV (rV s m most) (9 - 8) 8=E):=Y (by rw[<-ag.out];exact(tL A).symm);have af:R (∀i,i<8->rV s m most i=0):=Y λi hi=>by
     rcases jL i 7 with h|h
     .exact ah i h
     .obtain rfl:i=7:=I
      exact A
    clear A hnn aj;go_wp2_with fail;refine C.mono ?_;rintro e w3 ⟨rfl,rfl⟩;go_wp2;go_roundw;case rel=>exact⟨8,nm,_,rfl,I,J,ae,af,Y (λh=>au.out I),Y (λh=>rfl)⟩
    case measure=>simp[jF]
   .have hne:(v !=0)=u:=by simp[aa]
    have HEV:R (E=v):=Y (by rw[<-ag.out];exact(rQ (by rw[A];exact aa)).trans A);clear A aa;go_wp2_with fail;refine C.mono ?_;rintro e w3 ⟨rfl,rfl⟩;have HI3:=J;exact De
  .
   obtain rfl:=ay.out mX;have aZ:24+qz s<=s.size:=b2 (qZ mX (ah 7 mX));have bM:(qz s:Int)<=most:=b2 (qZ mX (ah 5 mX));have⟨v,A⟩:=nE (rV s m most 8);have ax:=Y A;have hnn:0<=v:=by rw[<-A];exact qK _ _ _ _
   have C:R (iW iN 140 #[mG (O (Z (g+2) 0 U)),mG (O (Z (g+5) 0 U))] wr λe w'=>e=mK (V X v)/\iR wr.heap.size wr w'):=Y (by rw[<-A];exact Y4 s (qz s) (g+2) (g+5) wr (J.bs.cell 0) J.bs.lt (J.bl.cell 0) J.bl.lt aZ I av);by_cases aa:v=0
   .subst aa
    have ae:R (sV (rV s m most) (9 - 9) 9=E):=Y (by rw[<-ag.out];exact(tL A).symm);have af:R (∀i,i<9->rV s m most i=0):=Y λi hi=>by
     rcases jL i 8 with h|h
     .exact ah i h
     .obtain rfl:i=8:=I
      exact A
    clear A hnn aj;go_wp2_with fail;refine pG C λw3 ai=> ?_
    have HI3:=Y (J.below ai);clear ai;go_wp2;go_roundw;case rel=>exact⟨9,nm,_,rfl,I,HI3,ae,af,Y (λh=>au.out I),Y (λh=>rfl)⟩
    case measure=>simp[jF]
   .have hne:(v !=0)=u:=by simp[aa]
    have HEV:R (E=v):=Y (by rw[<-ag.out];exact(rQ (by rw[A];exact aa)).trans A);clear A aa;go_wp2_with fail;refine pG C λw3 ai=> ?_
    have HI3:=Y (J.below ai);clear ai;exact De
end
section
open Go.RowKit Go.Maps
structure Gt(P:j6)(k:jl)(κ:Type) where
 kv:κ->iQ
 kl:κ->Lit
 ok:κ->Prop
 aq:Keyed P k
 lay:∀x,ok x->keyOf P k (kv x)=O (kl x)
 inv:∀v l,keyOf P k v=O l->∃x,v=kv x/\l=kl x
 inj:∀x y,kl x=kl y->x=y
 key:∀x,WideAt.IsKeyLit (kl x)
structure Kc(ac:Type) where
 ev:ac->iQ
 aE:iQ->Option (DataW ac×List MemPlace)
 lay:∀x,aE (ev x)=O (.held x,[])
 inv:∀v z,aE v=O z->∃x,v=ev x/\z=(.held x,[])
section
variable {P:j6}{k e t:jl}{κ ac:Type}
def q9(E:Gt P k κ)(F:Kc ac)(w:K)(b n:Nat)(l:List (κ×ac)):Prop:=
 ∃A,w.ownsMap P k F.aE b n (.map A)/\A.Perm (l.map λp=>(E.kl p.1,.held p.2))/\(l.map Prod.fst).Nodup/\∀p∈l,E.ok p.1
variable {E:Gt P k κ}{F:Kc ac}{w:K}{b n:Nat}{l:List (κ×ac)}
def q9.made(E:Gt P k κ)(F:Kc ac)(w:K):q9 E F (w.alloc (.map #[] 0)) w.heap.size 0 []:=
 ⟨[],World.ownsMap_made w P k F.aE,.refl _,List.nodup_nil,λp hp=>by cases hp⟩
def q9.lt(h:q9 E F w b n l):b<w.heap.size:=let ⟨_,h,_⟩:=h;h.lt
def q9.block(h:q9 E F w b n l)(hb:w'.heap[b]? =w.heap[b]?):q9 E F w' b n l:=by
 obtain⟨D,⟨C,A,J,r⟩,N⟩:=h;exact⟨D,⟨C,A,by rw[hb];exact J,r⟩,N⟩
def q9.below(h:q9 E F w b n l)(hb:iR w.heap.size w w'):q9 E F w' b n l:=h.block (hb.block b h.lt)
def a5V{A:List (Lit×DataW ac)}(C:A.Perm (l.map λp=>(E.kl p.1,.held p.2))){x:κ}{d:DataW ac}(h:(E.kl x,d)∈A):∃y,d=.held y/\(x,y)∈l:=by
 have⟨p,hp,he⟩:=List.mem_map.1 (C.mem_iff.1 h);simp only[cT]at he;obtain⟨a,y⟩:=p;obtain rfl:a=x:=E.inj _ _ he.1;exact⟨y,he.2.symm,hp⟩
def Mq{l:List (κ×ac)}(h:(l.map Prod.fst).Nodup)(f:κ×ac->Bool):((l.filter f).map Prod.fst).Nodup:=h.sublist (List.filter_sublist.map _)
end
section
variable {P:j6}{k e t:jl}{κ ac:Type}[DecidableEq κ]{E:Gt P k κ}{F:Kc ac}{w:K}{b n:Nat}{l:List (κ×ac)}
def yt(l:List (κ×ac))(x:κ):Option ac:=(l.find? λp=>p.1==x).map Prod.snd
def KT{l:List (κ×ac)}(hn:(l.map Prod.fst).Nodup){x:κ}{y:ac}:yt l x=O y<->(x,y)∈l:=by
 unfold yt;constructor
 .intro h
  obtain⟨p,hp,rfl⟩:=Option.map_eq_some_iff.1 h;have C:=List.find?_some hp;have E:=lT hp;obtain⟨a,b⟩:=p;have:a=x:=by simpa using C
  subst this;exact E
 .intro h
  induction l with
  |nil=>cases h
  |cons p l J=>
   rw[lg,List.nodup_cons]at hn;rw[List.find?_cons];rcases l5.1 h with rfl|h
   .simp
   .have A:(p.1==x)=M:=by
     rw[bj];rintro rfl;exact hn.1 (List.mem_map.2 ⟨(p.1,y),h,rfl⟩)
    rw[A];exact J hn.2 h
def WJ{l:List (κ×ac)}{x:κ}:yt l x=U<->x∉l.map Prod.fst:=by
 unfold yt;rw[Option.map_eq_none_iff,List.find?_eq_none,List.mem_map];constructor;.rintro h ⟨p,hp,rfl⟩;exact h p hp ny
 .intro h p hp he;exact h ⟨p,hp,by simpa using he⟩
def q9.at_{A:List (Lit×DataW ac)}(C:A.Perm (l.map λp=>(E.kl p.1,.held p.2)))(hn:(l.map Prod.fst).Nodup)(x:κ)(z:ac):
  (DataW.map A).atKey (E.kl x) (.held z)=.held ((yt l x).getD z)/\Maps.has (.map A) (E.kl x)=(yt l x).isSome:=by
 cases hg:yt l x with
 |none=>
  have J:∀p∈A,p.1.sameKey (E.kl x)=M:=by
   intro p hp;obtain⟨q,ae,rfl⟩:=List.mem_map.1 (C.mem_iff.1 hp);apply sameKey_ne;intro he;exact WJ.1 hg (List.mem_map.2 ⟨q,ae,E.inj _ _ he⟩)
  constructor
  .show(match A.find? (λp=>p.1.sameKey (E.kl x))with|some p=>p.2|none=> .held z)=_
   rw[List.find?_eq_none.2 (λp hp=>by rw[J p hp];decide)];rfl
  .rw[Maps.has_eq]
   rw[Option.isSome_none,List.any_eq_false];intro p hp;rw[J p hp];decide
 |some y=>
  have hin:=C.mem_iff.2 (List.mem_map.2 ⟨(x,y),(KT hn).1 hg,rfl⟩);constructor
  .show(match A.find? (λp=>p.1.sameKey (E.kl x))with|some p=>p.2|none=> .held z)=_
   cases N:A.find? (λp=>p.1.sameKey (E.kl x))with
   |none=>
    have:=List.find?_eq_none.1 N _ hin;exact absurd (WideAt.sameKey_self (E.key x)) this
   |some p=>
    obtain⟨af,ai⟩:=p;have ag:=List.find?_some N;have ah:=lT N;obtain rfl:af=E.kl x:=WideAt.sameKey_eq ag;obtain⟨aj,rfl,aa⟩:=a5V C ah;have:=(KT hn).2 aa;rw[hg]at this;cases this;rfl
  .rw[Maps.has_eq,Option.isSome_some,List.any_eq_true]
   exact⟨_,hin,WideAt.sameKey_self (E.key x)⟩
def q9.look(h:q9 E F w b n l)(ht:P.underlying t=O (.map k e)){z:ac}(N:∀w,(zeroValue e).run P w=.ok (F.ev z) w){x:κ}(aa:E.ok x):
  (Instr.lookup t (.map (O b)) (E.kv x) M).run P w=.ok (F.ev ((yt l x).getD z)) w:=by
 obtain⟨af,ae,C,hn,_⟩:=h;have⟨v,ps,A,J⟩:=ae.lookup E.aq ht (N w) (F.lay z) (E.lay x aa);rw[(q9.at_ C hn x z).1]at J;obtain⟨y,rfl,hy⟩:=F.inv _ _ J;simp only[cT,DataW.held.injEq]at hy;rw[A,hy.1]
def q9.look_ok(h:q9 E F w b n l)(ht:P.underlying t=O (.map k e)){z:ac}(N:∀w,(zeroValue e).run P w=.ok (F.ev z) w){x:κ}(aa:E.ok x):
  (Instr.lookup t (.map (O b)) (E.kv x) u).run P w=.ok (mJ #[F.ev ((yt l x).getD z),mH (yt l x).isSome]) w:=by
 obtain⟨af,ae,C,hn,_⟩:=h;have⟨v,ps,A,J⟩:=ae.look_ok E.aq ht (N w) (F.lay z) (E.lay x aa);rw[(q9.at_ C hn x z).1]at J;rw[(q9.at_ C hn x z).2]at A;obtain⟨y,rfl,hy⟩:=F.inv _ _ J;simp only[cT,DataW.held.injEq]at hy;rw[A,hy.1]
def Rl(x:κ)(l:List (κ×ac)):(l.map λp=>(E.kl p.1,DataW.held p.2)).filter (λp=> !p.1.sameKey (E.kl x))=(l.filter λp=>p.1 !=x).map λp=>(E.kl p.1,DataW.held p.2):=by
 rw[List.filter_map];congr 1;apply List.filter_congr;intro p _;show(!(E.kl p.1).sameKey (E.kl x))=(p.1 !=x);by_cases h:p.1=x;.subst h;rw[WideAt.sameKey_self (E.key _)];simp
 .rw[sameKey_ne (λhe=>h (E.inj _ _ he))];simp[bne,h]
def q9.store(h:q9 E F w b n l)(ht:P.underlying t=O (.map k e)){x:κ}(C:E.ok x)(y:ac)(hn:n<jd):
  ∃w',(Instr.mapUpdate t (.map (O b)) (E.kv x) (F.ev y)).run P w=.ok () w'/\q9 E F w' b (n+1) ((x,y)::l.filter λp=>p.1 !=x)/\oO b w w':=by
 obtain⟨af,ae,J,N,hok⟩:=h;have⟨w',A,aa,hg⟩:=ae.update E.aq ht hn (E.lay x C) (F.lay y);refine⟨w',A,⟨_,aa,?_,?_,?_⟩,hg⟩
 .refine(Go.WideShapes.insert_perm _ _).trans ?_
  rw[lg];refine List.Perm.cons _ ?_;rw[<-Rl];exact J.filter _
 .rw[lg,List.nodup_cons]
  refine⟨?_,Mq N _⟩;rw[List.mem_map];rintro⟨p,hp,he⟩;have:=(List.mem_filter.1 hp).2;rw[he]at this;simp at this
 .intro p hp
  rcases l5.1 hp with rfl|hp
  .exact C
  .exact hok p (List.mem_filter.1 hp).1
end
section
variable {P:j6}{k:jl}{q:IntKind}
def intKeys(hk:P.underlying k=O (.int q)):Gt P k Int where
 kv:=V q
 kl:=.int q
 ok x:=(lN q x).wf=u
 aq:=int_keyed hk
 lay x hx:=keyOf_int_mk hk hx
 inv v l h:=by obtain⟨x,A,C,_⟩:=Maps.keyOf_int_inv hk h;exact⟨x,A,C⟩
 inj x y h:=(Lit.int.inj h).2
 key x:=trivial
def Y5(q:IntKind):Kc Int where
 ev:=V q
 aE v:=match v with| V A x=>if A=q then O (.held x,[])else U|_=>U
 lay x:=ny
 inv v z h:=by
  cases v<;>simp at h;obtain⟨rfl,rfl⟩:=h;exact⟨_,rfl,rfl⟩
end
section
variable {P:j6}{k e t:jl}{κ ac:Type}[DecidableEq κ]{E:Gt P k κ}{F:Kc ac}{w:K}{b n:Nat}{l:List (κ×ac)}
def qb{rest:List kC}(hg:o.guard=U)(mo xo C:Operand)(J:o.op=.insert t mo xo C)(ht:P.underlying t=O (.map k e))(h:q9 E F w b n l)(aa:a.eval mo=.map (O b)){x:κ}(ae:a.eval xo=E.kv x)(hok:E.ok x){y:ac}(af:a.eval C=F.ev y)(hn:n<jd)(ag:∀w',q9 E F w' b (n+1) ((x,y)::l.filter λp=>p.1 !=x)->oO b w w'->mq P ops Q rest (a.put o.dst jw) w'):mq P ops Q (o::rest) a w:=by
 refine wpList_plain hg λah N=> ?_
 have⟨w',A,r1,r2⟩:=h.store ht hok y hn;unfold Oper.wp;simp[execOp,J,aa,ae,af,A,Result.andThen];exact N _ _ (ag w' r1 r2)
end
end
section
open Go.RowKit
def ErK:Gt iN 36 Int:=intKeys Tryz.underlying36
def ErE:Kc Int:=Y5 X
def Df(er:Int):Int:=if er=2 then 3 else er
def OV(er:Int):(yt [((2:Int),(3:Int))] er).isSome=(er==2)/\(er=2->(yt [((2:Int),(3:Int))] er).getD 0=3):=by
 unfold yt;by_cases h:er=2;.subst h;exact⟨rfl,λ_=>rfl⟩
 .have A:((2:Int)==er)=M:=nk
  simp[List.find?,A,h]
def a2O(w:K):(zeroValue 36).run iN w=.ok (ErE.ev 0) w:=rfl
def EO(h:p:=by
 go_wp2;go_returns;exact⟨by rw[HE.out];rfl,HB.out⟩):p:=h
def Ke(er:Int)(w:K)(av:(lN X er).wf=u):
  iW iN 149 #[V X er] w λe w'=>e=mK (V X (Df er))/\iR w.heap.size w w':=by
 have ax:=@run_makeMap iN;obtain⟨g,hg⟩:=o7 w;have ag:=q9.made ErK ErE w;have ah:=(iT w.heap.size w).alloc (iP _) (.map #[] 0);rw[hg]at ag ah;have ag:=Y ag;have ai:=Y ah;rw[hg];have⟨aE,aj⟩:=nE (Df er);have ak:=Y aj;rw[aj];go_in;go_upto_region 1 with fail;go_upto_region 2 with(go_loud (refine qb (E:=ErK) (F:=ErE) (x:=(2:Int)) (y:=(3:Int)) rfl _ _ _ rfl Tryz.underlying229 ag rfl rfl (show(lN .i64 2).wf=u by decide) rfl xh ?_);intro w2 J N)
 have HB:=Y (N.below ai (iP _) (by simp[hg]));have A:=q9.look_ok (x:=er) J Tryz.underlying229 a2O av;have aa:=(OV er).1;have ae:=(OV er).2;have af:((2:Int),(3:Int))::List.filter (λp=>p.1 !=(2:Int)) ([]:List (Int×Int))=[((2:Int),(3:Int))]:=rfl;rw[af,aa]at A;have A:(Instr.lookup 229 (.map (O g)) (.int .i64 er) u).run iN w2=.ok (.tuple #[.int .i64 ((yt [((2:Int),(3:Int))] er).getD 0),.bool (er==2)]) w2:=A;generalize (yt [((2:Int),(3:Int))] er).getD 0=ao at*;by_cases C:er=2
 .have au:ao=3:=ae C
  have hb:(er==2)=u:=by simp[C]
  rw[hb,au]at A;have HE:R (aE=3):=Y (by rw[<-ak.out];exact Ax C);clear J N af ae aa C hb au;exact EO
 .have hb:(er==2)=M:=by simp[C]
  rw[hb]at A;have HE:R (aE=er):=Y (by rw[<-ak.out];exact At C);clear J N af ae aa C hb;exact EO
def KU:∀(l:List AC)(i n:Nat),(nD l i n).2.2<=3
 |[],_,_=>by simp[nD]
 |b::r,i,n=>by
  unfold nD;split;.exact iP _
  .split
   .exact jB _
   .exact KU r _ _
def KV(r:RS):Prop:=0<=r.f/\r.f<=5
def KV.take(h:KV r)(n:Int):KV (r.take n).1:=by
 refine⟨RS.vR r n h.1,?_⟩;unfold RS.take;split
 .split
  .show(1:Int)<=5;decide
  .split
   .show(2:Int)<=5;decide
   .show(0:Int)<=5;decide
 .exact h.2
def KV.fail(h:KV r){x:Int}(h0:0<=x)(A:x<=5):KV (r.fail x):=by
 refine⟨RS.y9 r h0 h.1,?_⟩;unfold RS.fail;split;.exact A
 .exact h.2
def KV.byte(h:KV r):KV r.byte.1:=by
 refine⟨RS.Ud r h.1,?_⟩;unfold RS.byte;split
 .split
  .show(0:Int)<=5;decide
  .show(2:Int)<=5;decide
 .exact h.2
def KV.elem(h:KV r)(l:List AC)(size:Nat):KV (p8 r l size).1:=by
 have A:∀k v,KV (rO k v r.byte.1).1:=λk v=>by
  have hb:=h.byte;unfold rO;split
  .split
   .exact hb.take _
   .exact hb
  .split
   .exact hb.take _
   .split
    .exact hb.take _
    .exact hb.take _
 unfold p8 uT;split;.exact A _ _
 .split
  .exact(A _ _).fail mX mX
  .split
   .exact(A _ _).take _
   .exact A _ _
def KV.run(size:Nat):∀(f:Nat)(r:RS)(l:List AC),KV r->KV (uU size f r l).1
 |0,r,l,h=>h
 |f+1,r,l,h=>by
  unfold uU;split;.exact KV.run size f _ _ (h.elem l size)
  .exact h
def Y6(s:An)(n:Nat):∀er,uV s n=.error er->1<=er/\er<=1000:=by
 intro er h;unfold uV at h;have h0:KV (uU n (s.size+1) (RS.of s) []).1:=KV.run n _ _ _ ⟨dt _,show(0:Int)<=5 by decide⟩;have A:KV (if(uU n (s.size+1) (RS.of s) []).2.length<n then(uU n (s.size+1) (RS.of s) []).1.fail 2 else(uU n (s.size+1) (RS.of s) []).1):=by
  split;.exact h0.fail mX mX
  .exact h0
 dsimp only at h;generalize (if(uU n (s.size+1) (RS.of s) []).2.length<n then(uU n (s.size+1) (RS.of s) []).1.fail 2 else(uU n (s.size+1) (RS.of s) []).1)=r at*;obtain⟨a,b⟩:=A;split at h
 .rename_i C
  cases h;omega
 .cases h
def Y7(n:Int)(mt:Option (Nat×MS)):z8 n mt<=5:=by
 cases mt with
 |none=>show(0:Int)<=5;decide
 |some x=>
  unfold z8 MS.take;dsimp only;split;.show(1:Int)<=5;decide
  .split
   .show(5:Int)<=5;decide
   .show(0:Int)<=5;decide
def Y8(l:List AC):(qG l).2.2<=5:=by
 have:=KU l 0 0;unfold qG;split
 .split
  .exact iP _
  .omega
 .show(nD l 0 0).2.2<=5;omega
def Ip(s:An)(most:Int)(mt:Option (Nat×MS)):∀er,(sK s most mt).1=.error er->1<=er/\er<=1000:=by
 intro er h;have A:=Y8 s.data.toList;unfold sK at h;generalize qG s.data.toList=t at*;obtain⟨n,k,e⟩:=t;dsimp only at h A;split at h;.cases h;omega
 .split at h
  .cases h;omega
  .have C:=C8 n mt
   have E:=Y7 n mt;split at h;.cases h;omega
   .exact Y6 _ _ _ h
def Iq(most:Int)(s:An):(nT most s).body.size<=s.size:=by
 unfold nT;split
 .split
  .exact jB _
  .dsimp only
   split;.simp only[iV];omega
   .exact jB _
 .exact jB _
def qA(most un:Int)(s:An)(mt:Option (Nat×MS)):Except Nat (tJ×Nat)×Option (Nat×MS):=
 if(nT most s).e≠0 then(.error (nT most s).e,mt)else
 match sK (nT most s).body un mt with
 |(.error er,m2)=>(.error (Df (er:Nat)).toNat,m2)
 |(.ok l,m2)=>(.ok (⟨(nT most s).id,⟨#[]⟩,⟨l.toArray⟩⟩,(nT most s).n),m2)
def Ad(aE:Except Nat (tJ×Nat)×Option (Nat×MS))(mt:Option (Nat×MS))(w:K)(e:kV)(w':K):Prop:=
 w.grownBy w' (nY mt)/\o9 w' aE.2/\match aE.1 with
 | .error er=>e=mK (mJ #[mI #[V mP 0,H ⟨#[]⟩,H ⟨#[]⟩],V X 0,V X (er:Nat)])
 | .ok y=>e=mK (mJ #[mI #[V mP y.1.id,H y.1.name,H y.1.body],V X (y.2:Nat),V X 0])
def Ae{mt:Option (Nat×MS)}(h:o9 w mt):∀x,nY mt=O x->x<w.heap.size:=λx A=>by
 cases mt with
 |none=>cases A
 |some y=>cases A;exact mY.lt h.1
def Dh(s:An)(most:Int)(mt:Option (Nat×MS)):nY (sK s most mt).2=nY mt:=by
 unfold sK;split;split;.rfl
 .split
  .rfl
  .split
   .exact Ib _ _
   .exact Ib _ _
structure Y9(g g2:Nat)(w:K)(mt JX:Option (Nat×MS))(id:Nat)(b:An)(W:K):Prop where
 res:mY W g #[V mP 0,H ⟨#[]⟩,H ⟨#[]⟩] pR
 fr:mY W g2 #[V mP id,H ⟨#[]⟩,H b] pR
 mm:o9 W JX
 gr:w.grownBy W (nY mt)
 lt:g<g2
section
variable {g g2:Nat}{w W W':K}{mt JX:Option (Nat×MS)}{id:Nat}{b:An}
def Y9.below(h:Y9 g g2 w mt JX id b W)(hb:iR W.heap.size W W'):Y9 g g2 w mt JX id b W':=
 ⟨a7 hb h.res h.res.lt,a7 hb h.fr h.fr.lt,h.mm.grown hb,pJ h.gr (oP hb),h.lt⟩
def oV{row:Option Nat}{c:Nat}{cs:Array iQ}(h:mY W c cs t)(hg:W.grownBy W' row)(A:∀x,row=O x->x≠c):mY W' c cs t:=by
 unfold mY;rw[hg.block c h.lt (λe=>A c e.symm rfl)];exact h
def Y9.grow{m2:Option (Nat×MS)}(h:Y9 g g2 w mt JX id b W)(hg:W.grownBy W' (nY mt))(C:o9 W' m2)(hlt:∀x,nY mt=O x->x<g):Y9 g g2 w mt m2 id b W':=
 ⟨oV h.res hg (λx A e=>by have:=hlt x A;omega),oV h.fr hg (λx A e=>by have:=hlt x A;have:=h.lt;omega),C,pJ h.gr hg,h.lt⟩
def sH{row:Option Nat}{A:K}(h:w.grownBy A row){p:j4}(hp:w.heap.size<=p.block)(v:iQ):w.grownBy (A.setCell p v) row:=
 ⟨h.os,h.tape,h.output,by simpa [jr]using h.size,λi hi C=>(jh A p v i I).trans (h.block i hi C)⟩
def yu{A:K}{m:Option (Nat×MS)}(h:o9 A m){p:j4}(hp:∀x,nY m=O x->x≠p.block)(v:iQ):o9 (A.setCell p v) m:=by
 cases m with
 |none=>trivial
 |some y=>exact⟨cx h.1 (hp _ rfl) v,h.2⟩
def Rm{a b' c:iQ}(h:Y9 g g2 w mt JX id b W)(hlt:∀x,nY JX=O x->x<g)(hg:w.heap.size=g):w.grownBy (q8 W g a b' c) (nY mt)/\o9 (q8 W g a b' c) JX:=
 have q:∀i,∀x,nY JX=O x->x≠((Z g i U):j4).block:=λi x A e=>by have:=hlt x A;simp at e;omega
 have p:∀i,w.heap.size<=((Z g i U):j4).block:=λi=>kP hg
 ⟨sH (p:=(Z g 2 U)) (sH (p:=(Z g 1 U)) (sH (p:=(Z g 0 U)) h.gr (p 0) _) (p 1) _) (p 2) _,yu (yu (yu h.mm (q 0) _) (q 1) _) (q 2) _⟩
def Y9.setBody(h:Y9 g g2 w mt JX id b W)(hlt:∀x,nY JX=O x->x<g)(hg:w.heap.size=g)(A:An):Y9 g g2 w mt JX id A (W.setCell (Z g2 2 U) (H A)):=
 ⟨h.res.setOther (a:=(Z g2 2 U)) (by have:=h.lt;simp;omega) _,h.fr.set 2 _,yu h.mm (λx C e=>by have:=hlt x C;have:=h.lt;simp at e;omega) _,sH h.gr (by have:=h.lt;simp;omega) _,h.lt⟩
end
def OW(most un:Int)(s:An)(mt:Option (Nat×MS))(w:K)(hs:s.size<=jd)(bq:-9223372036854775808<=most/\most<=9223372036854775807)(aU:un<=65536)(av:o9 w mt):
  iW iN 111 #[V X most,V X un,KI mt,H s] w (Ad (qA most un s mt) mt w):=by
 obtain⟨g,hg⟩:=o7 w;have ax:=(iT w.heap.size w).alloc (iP _) (mM #[V mP 0,H ⟨#[]⟩,H ⟨#[]⟩] pR);have aL:=Y (mY.new w #[V mP 0,H ⟨#[]⟩,H ⟨#[]⟩] pR);have aM:=Y ax;have ay:(w.alloc (mM #[V mP 0,H ⟨#[]⟩,H ⟨#[]⟩] pR)).heap.size=g+1:=by simp[hg]
 have az:=Y (Ic most s (w.alloc (mM #[V mP 0,H ⟨#[]⟩,H ⟨#[]⟩] pR)) bq hs);have aN:=Y (o9.grown av ax);have C:=Y (hg▸Ae av);have⟨aE,ai⟩:=nE (qA most un s mt);rw[ai];unfold qA at ai;have aA:=jk (Iq most s) hs;have⟨id,bd,n,er,aO⟩:∃id bd n er,nT most s=⟨id,bd,n,er⟩:=⟨_,_,_,_,rfl⟩;rw[aO]at az ai aA;dsimp only at ai aA;have N:=Y ai;have az:R (iW iN 106 #[V X most,H s] (w.alloc (mM #[V mP 0,H ⟨#[]⟩,H ⟨#[]⟩] pR)) λe w'=>e=mK (mJ #[mI #[V mP id,H ⟨#[]⟩,H bd],V X (n:Nat),V X (er:Nat)])/\iR (w.alloc (mM #[V mP 0,H ⟨#[]⟩,H ⟨#[]⟩] pR)).heap.size (w.alloc (mM #[V mP 0,H ⟨#[]⟩,H ⟨#[]⟩] pR)) w'):=az;have aP:R (∀w2 W,iR (g+1) (w.alloc (mM #[V mP 0,H ⟨#[]⟩,H ⟨#[]⟩] pR)) w2->w2.alloc (mM #[V mP id,H ⟨#[]⟩,H bd] pR)=W->Y9 g w2.heap.size w mt mt id bd W):=Y λw2 W aR bu=>by
  subst bu;have bz:=aR.alloc (by rw[<-ay];exact aR.size) (mM #[V mP id,H ⟨#[]⟩,H bd] pR);have aB:iR (w.alloc (mM #[V mP 0,H ⟨#[]⟩,H ⟨#[]⟩] pR)).heap.size (w.alloc (mM #[V mP 0,H ⟨#[]⟩,H ⟨#[]⟩] pR)) (w2.alloc (mM #[V mP id,H ⟨#[]⟩,H bd] pR)):=by rw[ay];exact bz
  exact⟨a7 aB (hg▸aL.out) I,mY.new _ _ _,aN.grown aB,pJ (oP aM) (oP aB),by have:=aR.size;omega⟩
 clear ax av ai aO aL aM aN;go_in;go_upto_region 1 with fail;generalize w.alloc _=w1 at*;go_wp2_with fail;refine pG az λw2 aD=> ?_
 rw[ay]at aD;go_upto_region 2 with fail;have ag:=Y (aP w2 _ aD rfl);generalize w2.alloc _=w3 at*;generalize w2.heap.size=g2 at*;clear aP aD az;by_cases he:er=0;case neg=>
  have bD:((er:Int) !=0)=u:=by simp[he]
  have aj:R (aE=(.error er,mt)):=Y (by rw[<-N.out,Ax he]);clear he N;have⟨r0,r1,r2,z0,aV,aW⟩:=ag.res.b3;have aF:=Y (oU (a:=V mP 0) (b:=H ⟨#[]⟩) (c:=H ⟨#[]⟩) ag.res);have A:=Y (Rm (a:=V mP 0) (b':=H ⟨#[]⟩) (c:=H ⟨#[]⟩) ag C hg);go_wp2_with fail;rw[nO];have⟨aG,aH,aI⟩:=aF.a3;refine iY (v:=mJ #[mI #[V mP 0,H ⟨#[]⟩,H ⟨#[]⟩],V X 0,V X er]) (by simp[jv,Tryz.results111,go_sem,aG,aH,aI]) rfl ?_;rw[aj.out];exact⟨A.1,A.2,rfl⟩
 subst he
 have N:R (aE=match sK bd un mt with
  |(.error er,m2)=>(.error (Df (er:Nat)).toNat,m2)
  |(.ok l,m2)=>(.ok (⟨id,⟨#[]⟩,⟨l.toArray⟩⟩,n),m2)):=Y (by rw[<-N.out];rfl)
 have ak:=Y (Ov bd un mt w3 aA aU ag.mm);have hrow:=Dh bd un mt;have aa:=Ip bd un mt;have⟨aS,m2,aX⟩:∃aS m2,sK bd un mt=(aS,m2):=⟨_,_,rfl⟩;rw[aX]at ak N hrow aa;have ah:R (∀x,nY m2=O x->x<g):=Y λx bA=>C.out x (hrow▸bA)
 dsimp only at hrow aa;have aK:=ag.fr.c2;unfold YQ at ak;dsimp only at ak;clear aX hrow;cases aS with
 |error au=>
  have bF:=aa au rfl;have bB:=Y (λW=>Ke (au:Nat) W (by simp[Lit.wf,IntKind.min,IntKind.max,IntKind.signed,IntKind.bits];omega));have bE:((au:Int) !=0)=u:=nk;have aY:0<=Df (au:Nat):=by unfold Df;split<;>omega
  have aj:R (aE=(.error (Df (au:Nat)).toNat,m2)):=N;clear N;generalize Df (au:Nat)=bC at*;clear aa;go_wp2_with fail;refine ak.mono ?_;rintro e w4 ⟨ae,af,rfl⟩;have J:=Y (ag.grow ae af C);clear ae af;clear C;have C:=ah;go_wp2_with fail;refine pG (bB _) λw5 aQ=> ?_
  have E:=Y (J.below aQ);clear aQ;have⟨r0,r1,r2,z0,aV,aW⟩:=E.res.b3;have aF:=Y (oU (a:=V mP 0) (b:=H ⟨#[]⟩) (c:=H ⟨#[]⟩) E.res);have A:=Y (Rm (a:=V mP 0) (b':=H ⟨#[]⟩) (c:=H ⟨#[]⟩) E C hg);go_wp2_with fail;rw[nO];have⟨aG,aH,aI⟩:=aF.a3;refine iY (v:=mJ #[mI #[V mP 0,H ⟨#[]⟩,H ⟨#[]⟩],V X 0,V X bC]) (by simp[jv,Tryz.results111,go_sem,aG,aH,aI]) rfl ?_;rw[aj.out];exact⟨A.1,A.2,by dsimp only;rw[cY aY]⟩
 |ok l=>
  have aj:R (aE=(.ok (⟨id,⟨#[]⟩,⟨l.toArray⟩⟩,n),m2)):=N;have⟨bl,aJ⟩:∃bl:An,(⟨l.toArray⟩:An)=bl:=⟨_,rfl⟩;rw[aJ]at aj;simp only[aJ]at ak;clear aa aJ;go_wp2_with fail;refine ak.mono ?_;rintro e w4 ⟨ae,af,rfl⟩;have J:=Y (ag.grow ae af C);clear ae af aK;have aZ:=J.fr.c0;have bg:=J.fr.c1;have aK:=J.fr.c2;have f2:=J.fr.free 2;have E:=Y (J.setBody ah hg bl);clear C;have C:=ah;go_upto_region 8 with fail;generalize w4.setCell (Z g2 2 U) (H bl)=w5 at*;clear aZ bg aK f2;have⟨aZ,bg,aK⟩:=E.fr.a3;have⟨r0,r1,r2,z0,aV,aW⟩:=E.res.b3;have aF:=Y (oU (a:=V mP id) (b:=H ⟨#[]⟩) (c:=H bl) E.res);have A:=Y (Rm (a:=V mP id) (b':=H ⟨#[]⟩) (c:=H bl) E C hg);go_wp2_with fail;rw[nO];have⟨aG,aH,aI⟩:=aF.a3;refine iY (v:=mJ #[mI #[V mP id,H ⟨#[]⟩,H bl],V X n,V X 0]) (by simp[jv,Tryz.results111,go_sem,aG,aH,aI]) rfl ?_;rw[aj.out];exact⟨A.1,A.2,rfl⟩
structure nU where
 fmt:Int
 mag:Int
 oL:Int
 pq:Int
 dep:Int
 oo:Int
def nU.cs(c:nU):Array iQ:=#[V X c.fmt,V mQ c.mag,V X c.oL,V X c.pq,V X c.dep,V X c.oo]
def nU.v(c:nU):iQ:=mI c.cs
def nU.wf(c:nU):Prop:=(lN X c.fmt).wf=u/\(lN mQ c.mag).wf=u/\(lN X c.oL).wf=u/\(lN X c.pq).wf=u/\(lN X c.dep).wf=u/\(lN X c.oo).wf=u
def within(n most:Int):Bool:=As (1<=n)&&As (n<=most)
def nV(c:nU):Bool:=within c.fmt 3&&within c.oL 65536&&within c.pq 65536&&within c.dep 16&&within c.oo 1024
def ql{c:nU}(h:nV c=u):(1<=c.fmt/\c.fmt<=3)/\(1<=c.oL/\c.oL<=65536)/\(1<=c.pq/\c.pq<=65536)/\(1<=c.dep/\c.dep<=16)/\(1<=c.oo/\c.oo<=1024):=by
 simp only[nV,within,je,bb]at h;omega
abbrev rG:jl:=24
def vS(c:nU):∀W,w.alloc (mM #[V X c.fmt,V mQ c.mag,V X c.oL,V X c.pq,V X c.dep,V X c.oo] t)=W->
  iR w.heap.size w W/\W.cell? (Z w.heap.size 0 U)=O (V X c.fmt)/\W.cell? (Z w.heap.size 1 U)=O (V mQ c.mag)/\W.cell? (Z w.heap.size 2 U)=O (V X c.oL)/\
   W.cell? (Z w.heap.size 3 U)=O (V X c.pq)/\W.cell? (Z w.heap.size 4 U)=O (V X c.dep)/\W.cell? (Z w.heap.size 5 U)=O (V X c.oo):=by
 rintro W rfl;have hb:=mY.new w #[V X c.fmt,V mQ c.mag,V X c.oL,V X c.pq,V X c.dep,V X c.oo] t;exact⟨(iT _ w).alloc (iP _) _,hb.cell 0,hb.cell 1,hb.cell 2,hb.cell 3,hb.cell 4,hb.cell 5⟩
def OX(n m:Int)(w:K):iW iN 95 #[V X n,V X m] w λe w'=>e=mK (mH (within n m))/\w'=w:=by
 by_cases A:1<=n
 .by_cases C:n<=m
  .have HR:R (within n m=u):=Y (by unfold within;rw[a8 A,a8 C];rfl)
   exact Ig
  .have HR:R (within n m=M):=Y (by unfold within;rw[a8 A,bh C];rfl)
   exact Ig
 .have HR:R (within n m=M):=Y (by unfold within;rw[bh A];rfl)
  exact Ig
def Ci(c:nU)(w:K):iW iN 67 #[c.v] w λe w'=>e=mK (mH (nV c))/\iR w.heap.size w w':=by
 have af:=Y (vS (w:=w) c (t:=rG));have C:=Y OX;obtain⟨g,hg⟩:=o7 w;have J:R (nV c=(within c.fmt 3&&within c.oL 65536&&within c.pq 65536&&within c.dep 16&&within c.oo 1024)):=Y rfl;rw[hg]at af|-;obtain⟨f,m,fr,un,ah,it⟩:=c;unfold nU.v nU.cs;dsimp only at af J|-;go_in;go_upto_region 1 with fail;generalize w.alloc _=w1 at*;have⟨ag,c0,c1,c2,c3,c4,c5⟩:=af.out _ rfl;have N:=Y ag;go_wp2_with fail;refine(C _ _ _).mono ?_;rintro e w2 ⟨rfl,rfl⟩;cases A:within f 3 with
 |false=>
  go_wp2;go_returns;exact⟨by rw[J.out];simp[A],N.out⟩
 |true=>
  go_wp2_with fail;refine(C _ _ _).mono ?_;rintro e w2 ⟨rfl,rfl⟩;cases E:within fr 65536 with
  |false=>
   go_wp2;go_returns;exact⟨by rw[J.out];simp[A,E],N.out⟩
  |true=>
   go_wp2_with fail;refine(C _ _ _).mono ?_;rintro e w2 ⟨rfl,rfl⟩;cases aa:within un 65536 with
   |false=>
    go_wp2;go_returns;exact⟨by rw[J.out];simp[A,E,aa],N.out⟩
   |true=>
    go_wp2_with fail;refine(C _ _ _).mono ?_;rintro e w2 ⟨rfl,rfl⟩;cases ae:within ah 16 with
    |false=>
     go_wp2;go_returns;exact⟨by rw[J.out];simp[A,E,aa,ae],N.out⟩
    |true=>
     go_wp2_with fail;refine vE (C _ _ _) ?_;go_wp2;go_returns;exact⟨by rw[J.out];simp[A,E,aa,ae],N.out⟩
end
end Go.Proofs.YtamfcjmhnndbdaaGreatDoor


