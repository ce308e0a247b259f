/- Part 7 of the proof. -/
import Derived.Test.YtamfcjmhnndbdaaGreatDoorZb06
open Go.Value renaming agg→mI,bool→mH,int→V,pointer→mG,slice→G,string→H,tuple→mJ,slice→jM,int→lL
open Go.Obj renaming cells→mM
open Go.IntKind renaming i64→X,u32→mQ,u64→mP
open Go.Ending renaming returned→mK
open Go.Lib renaming hid→Y
open Go.Proofs.Tryz renaming prog→iN
open Go renaming World→K,Value→iQ,Calls→iW,maxLen→jd,TypeId→jl,results→jv,undef→jw,Addr→j4,Ending→kV,Act→lY
open Go.RowKit renaming Below→iR,Hid→R,intOf→jF
open And renaming intro→iU
open List renaming length→lQ
open Go.World renaming setCell→jr,cell?→lV
open Go.Lit renaming int→lN
open Go.Act renaming put→l7
open Option renaming none→U,some→O
open Bool renaming true→u,false→M
open Go.Addr renaming mk→Z
open Decidable renaming decide→As
namespace Go.Proofs.YtamfcjmhnndbdaaGreatDoor
set_option linter.unusedVariables false
set_option linter.defProp false
set_option linter.unusedSimpArgs false
set_option maxRecDepth 100000
set_option maxHeartbeats 8000000
variable{nm:An}{v':iQ}
variable {w w' w0 W W':K}{b k most g t f n gr B bn bi er:Nat}{s:An}{p:Prop}{l r l1:List AC}{x:mW TL}{y:pI TL}{a d v:iQ}{c:nU}{cs:Array iQ}{Q:Nat->Prop}{Iw:List AC->Nat->Option (mW TL×List AC×Nat)}{aE:Option (mW TL×List AC×Nat)}{L:List (pI TL)}{pf:List AC->Option (mW TL×List AC)}{rows mid:List Row}
section
open Go.RowKit
def uf(w:K)(b:Nat)(s:An)(p l:Nat):Prop:=mY w b #[H s,V X (p:Int),V X (l:Int)] 208
def uf.c0{p l:Nat}(h:uf w b s p l):w.cell? (Z b 0 U)=O (H s):=h.cell 0
def uf.c1{p l:Nat}(h:uf w b s p l):w.cell? (Z b 1 U)=O (V X p):=h.cell 1
def uf.c2{p l:Nat}(h:uf w b s p l):w.cell? (Z b 2 U)=O (V X l):=h.cell 2
def uf.drewN{p l:Nat}(h:uf w b s p l)(n:Nat):uf (w.drewN n) b s p l:=mY.drewN h n
def uf.move{p l:Nat}(h:uf w b s p l)(q:Nat):uf (w.setCell (Z b 1 U) (V X (q:Int))) b s q l:=eK h 1 _
def uf.left{p l:Nat}(h:uf w b s p l)(q:Nat):uf (w.setCell (Z b 2 U) (V X (q:Int))) b s p q:=eK h 2 _
def ng(s:An)(p:Nat):List AC:=s.data.toList.drop p
def rz{p:Nat}(h:p<s.size):ng s p=s[p]::ng s (p+1):=by
 unfold ng;rw[lH (by simpa using h)];rfl
def sJ{p:Nat}(h:s.size<=p):ng s p=[]:=by
 unfold ng;exact ef (by simpa using h)
def Lh{p:Nat}(hp:p<=s.size)(h:ng s p=[]):p=s.size:=by
 rcases jL p s.size with A|A
 .rw[rz A]at h;cases h
 .omega
def oF(c:AC)(l:List AC):Bool:=As (l.head? =O c)
def Vl(h:p:=by
 go_in;go_wp2_with fail;go_quiet (fail);go_wp2;go_returns;exact⟨rfl,(b9 b w).drewN _,HB.drewN _⟩):p:=h
def uQ(b:Nat)(s:An)(p l:Nat)(c:AC)(w:K)(hs:s.size<=jd)(hp:p<=s.size)(hb:uf w b s p l):
  iW iN 215 #[mG (O (Z b 0 U)),V .u8 (c.toNat:Int)] w λe w'=>e=mK (mH (oF c (ng s p)))/\oO b w w'/\
   uf w' b s (if oF c (ng s p)then p+1 else p) l:=by
 unfold jd at hs;have⟨c0,c1⟩:=hb.a2;have f1:=ec hb 1;have HB:=Y hb;clear hb;rcases jL p s.size with h|h
 .have hn:oF c (ng s p)=As (s[p]=c):=by rw[rz h];simp[oF]
  have C:((p:Int)==s.size)=M:=nk;rw[hn];by_cases hc:s[p]=c
  .have A:((s[p].toNat:Int) !=(c.toNat:Int))=M:=by rw[hc];simp
   rw[a8 hc];clear hn hc;go_in;go_wp2_with fail;go_quiet (fail);go_wp2;go_returns;exact⟨rfl,((b9 b w).drewN _).set 1 _,by simpa using(HB.drewN _).move (p+1)⟩
  .have A:((s[p].toNat:Int) !=(c.toNat:Int))=u:=by
    rw[ce];intro E;exact hc (kH.1 I)
   rw[bh hc];clear hn hc;exact Vl
 .obtain rfl:p=s.size:=I
  have hn:oF c (ng s s.size)=M:=by rw[sJ (iP _)];rfl
  rw[hn];clear hn;exact Vl
def Qc:∀(l:List AC)(k:Nat),k<(pM l).length->∃b,l[k]? =O b/\vC b=u/\(pM l).take (k+1)=(pM l).take k++[b]
 |[],k,h=>by simp[pM]at h
 |c::r,k,h=>by
  by_cases hc:vC c=u
  .have e:pM (c::r)=c::pM r:=by simp[pM,hc]
   rw[e]at h|-;cases k with
   |zero=>exact⟨c,rfl,hc,rfl⟩
   |succ k=>
    have⟨b,A,C,E⟩:=Qc r k (by simpa using h);exact⟨b,by simpa using A,C,by rw[jm,E];rfl⟩
  .have e:pM (c::r)=[]:=by simp[pM,hc]
   rw[e]at h;simp at h
def yV:∀ l:List AC,past l=l.drop (pM l).length
 |[]=>rfl
 |c::r=>by
  by_cases hc:vC c=u;.simp[pM,past,hc,yV r]
  .simp[pM,past,hc]
def Fa:∀(l:List AC)(b:AC),(past l).head? =O b->vC b=M
 |[],b,h=>by simp[past]at h
 |c::r,b,h=>by
  by_cases hc:vC c=u;.simp only[past,hc,cH]at h;exact Fa r b h
  .simp only[past,hc,cU]at h
   simp at h;subst h;simpa using hc
def M8(ds:List AC)(k:Nat):zh (ds.take k)<=zh ds:=by
 unfold zh;conv=>rhs;rw[<-kS k ds,List.foldl_append]
 exact O9 _ _
def Xz{p:Nat}{b:AC}(h:(ng s p)[k]? =O b):∃h:p+k<s.size,s[p+k]=b:=by
 unfold ng at h;rw[dj]at h;have⟨A,C⟩:=jU.1 h;exact⟨by simpa using A,C⟩
def zB(s:An)(p k:Nat):(ng s p).drop k=ng s (p+k):=by unfold ng;rw[List.drop_drop]
def Qd(ds:List AC):Am ds=(As (ds.length=1)||(As (1<ds.length)&&As (ds.head?≠O 48))):=by
 cases ds with
 |nil=>rfl
 |cons b r=>cases r with
  |nil=>rfl
  |cons c r=>
   simp only[Am,jD,List.head?_cons];have:(b.toNat≠48)<->(O b≠O (48:AC)):=by
    constructor;.intro h A;cases A;exact h rfl
    .intro h A;exact h (congrArg O (kH.1 A))
   simp[this]
def a0K(h:most<zh (pM l)):num most l=U:=by
 unfold num;rw[At];simp;intro _;omega
def a0L(h:Am (pM l)=M):num most l=U:=by
 unfold num;rw[At];simp[h]
def a0M(h:Am (pM l)=u)(A:zh (pM l)<=most):num most l=O (zh (pM l),past l):=by
 unfold num;rw[Ax];simp[h,A]
def a3X{D p q:Nat}(h:p+k=q)(c:k<D):D -(q+1 - p)<D -(q - p):=I
def M9(b:Nat)(s:An)(p l most:Nat)(w:K)(e:kV)(w':K):Prop:=
 ∃(n:Nat) (ok:Bool) (A:Nat),e=mK (mJ #[V X (n:Int),mH ok])/\oO b w w'/\uf w' b s A l/\A<=s.size/\n<=most/\
  (ok=u->num most (ng s p)=O (n,ng s A))/\(ok=M->num most (ng s p)=U)
def Vm(h:p:=by
 have⟨h1,h2,h3⟩:=HG.out 0 h;refine⟨I,?_⟩;have h4:=congrArg List.head? h3;simp only[mg,jI,cW,List.head?_cons,mh]at h4;rw[<-h4];cases pM (ng s p)<;>rfl):p:=h
def Vn(h:p:=by
 rcases jL 1 k with h|h
 .have⟨h1,_⟩:=H0.out I
  by_cases h2:s[p].toNat=48;.exact .inr (.inr (.inl ⟨h,h1,h2⟩))
  .exact .inr (.inr (.inr ⟨h,h1,h2⟩))
 .omega):p:=h
def Vo(h:p:=by
 have h1:=congrArg lQ (Xy (ng s p));rw[jo,hD]at h1;have h0:(ng s p).length=s.size - p:=by unfold ng;rw[jP];rfl
 omega):p:=h
def Vp(h:p:=by
 simp only[vC,Bool.and_eq_false_iff,b8]at h2;rcases h2 with h2|h2
 .exact .inl ⟨h,I⟩
 .exact .inr ⟨h,I⟩):p:=h
def Vq(h:p:=by
 have⟨b,h1,h2,h3⟩:=Qc (ng s p) k I;have⟨h4,h5⟩:=Xz h1;exact⟨h4,by rw[h5];exact h2,by rw[h5];exact h3⟩):p:=h
def a0N(h:p:=by
 clear he1 he2 hk1 fin HWD;rcases hend with rfl|⟨hlt,hb'⟩|⟨hlt,hb'⟩
 .have d0:As ((s.size:Int)<s.size)=M:=ny
  go_wp2_with fail;go_quiet (fail);go_wp2_with fail;go_quiet (fail);go_wp2_with fail;exact HP _ _ ⟨n,M,_,rfl,(HU.drewN _).drewN _,(HR.drewN _).drewN _,hqs,hn,by have h:=BQ.out;simpa using h⟩
 .have d0:As ((q:Int)<s.size)=u:=nk
  have d1:As ((48:Int)<=(s[q].toNat:Int))=M:=nk;clear hb';go_wp2_with fail;go_quiet (fail);go_wp2_with fail;go_quiet (fail);go_wp2_with fail;exact HP _ _ ⟨n,M,_,rfl,(HU.drewN _).drewN _,(HR.drewN _).drewN _,hqs,hn,by have h:=BQ.out;simpa using h⟩
 .have d0:As ((q:Int)<s.size)=u:=nk
  have d1:As ((48:Int)<=(s[q].toNat:Int))=u:=nk;have d2:As ((s[q].toNat:Int)<=57)=M:=nk;clear hb';go_wp2_with fail;go_quiet (fail);go_wp2_with fail;go_quiet (fail);go_wp2_with fail;exact HP _ _ ⟨n,M,_,rfl,(HU.drewN _).drewN _,(HR.drewN _).drewN _,hqs,hn,by have h:=BQ.out;simpa using h⟩):p:=h
def a0O(h:p:=by
 rcases hend with rfl|⟨hlt,hb'⟩|⟨hlt,hb'⟩
 .have d0:As ((s.size:Int)<s.size)=M:=ny
  go_wp2_with fail;go_quiet (fail);go_wp2_with fail;go_quiet (fail);go_wp2_with fail;exact HP _ _ ⟨n,u,_,rfl,(HU.drewN _).drewN _,(HR.drewN _).drewN _,hqs,hn,by have h:=BQ.out;simpa using h⟩
 .have d0:As ((q:Int)<s.size)=u:=nk
  have d1:As ((48:Int)<=(s[q].toNat:Int))=M:=nk;clear hb';go_wp2_with fail;go_quiet (fail);go_wp2_with fail;go_quiet (fail);go_wp2_with fail;exact HP _ _ ⟨n,u,_,rfl,(HU.drewN _).drewN _,(HR.drewN _).drewN _,hqs,hn,by have h:=BQ.out;simpa using h⟩
 .have d0:As ((q:Int)<s.size)=u:=nk
  have d1:As ((48:Int)<=(s[q].toNat:Int))=u:=nk;have d2:As ((s[q].toNat:Int)<=57)=M:=nk;clear hb';go_wp2_with fail;go_quiet (fail);go_wp2_with fail;go_quiet (fail);go_wp2_with fail;exact HP _ _ ⟨n,u,_,rfl,(HU.drewN _).drewN _,(HR.drewN _).drewN _,hqs,hn,by have h:=BQ.out;simpa using h⟩):p:=h
def XA(b:Nat)(s:An)(p l most:Nat)(w:K)(hs:s.size<=jd)(hp:p<=s.size)(aP:most<=65536)(hb:uf w b s p l):
  iW iN 214 #[mG (O (Z b 0 U)),V X (most:Int)] w (M9 b s p l most w):=by
 unfold jd at hs;have c1:=hb.c1;have aD:=Y hb;have⟨D,hD⟩:=nE ((pM (ng s p)).length);have av:=Y hD;have aM:p+D<=s.size:=by
  exact Vo
 have HG:R (∀k,k<D->∃h:p+k<s.size,vC s[p+k]=u/\(pM (ng s p)).take (k+1)=(pM (ng s p)).take k++[s[p+k]]):=Y λk hk=>by
  exact Vq
 have aF:R (∀h:p+D<s.size,vC s[p+D]=M):=Y λh=>by
  refine Fa (ng s p) _ ?_;rw[yV,hD,zB,rz h];rfl
 have aG:R (past (ng s p)=ng s (p+D)):=Y (by rw[yV,hD,zB]);have H0:R (0<D->∃h:p<s.size,(pM (ng s p)).head? =O s[p]):=Y λh=>by
  exact Vm
 generalize ax:M9 b s p l most w=aj;have HP:R (∀e w',M9 b s p l most w e w'->aj e w'):=Y λe w' h=>by rw[<-ax];exact h
 clear hb hD ax;go_in;go_wp2_with fail;clear c1;go_loopw [7] (λaH N=>∃(k n:Nat),aH=V X n/\k<=D/\n<=most/\R (n=zh ((pM (ng s p)).take k))/\R (uf N b s (p+k) l)/\R (oO b w N)) (λ_ N=>D -(match N.cell? (Z b 1 U)with|some v=>(jF v).toNat - p|none=>0));case atStart=>exact⟨0,0,rfl,I,I,by simp[R,zh],Y aD.out,Y (b9 _ _)⟩
 case round=>
  obtain⟨k,n,rfl,hk,hn,ak,HR,HU⟩:=hrel;have⟨q,aa⟩:=nE (p+k);have E:=Y aa;rw[aa]at HR;have hqs:q<=s.size:=I;have⟨c0,c1⟩:=HR.a2;have f1:=ec HR 1;have J:=Y (HG k);rw[aa]at J;clear aa;by_cases c:k<D
  .have⟨hlt,C,htake⟩:=J.out c
   simp only[vC,je,bb]at C;have af:=Y (iU C htake);have d0:As ((q:Int)<s.size)=u:=nk;have d1:As ((48:Int)<=(s[q].toNat:Int))=u:=nk;have d2:As ((s[q].toNat:Int)<=57)=u:=nk;have aI:48<=(s[q].toNat:Int):=I;have aJ:(s[q].toNat:Int)<=57:=I;clear htake C;by_cases ae:most<10*n+(s[q].toNat - 48)
   .have aK:As ((most:Int)<10*(n:Int)+((s[q].toNat:Int) - 48))=u:=nk
    have au:=Y ae;clear ae;go_wp2_with fail;go_quiet (fail);go_wp2_with fail;go_quiet (fail);go_wp2_with fail;refine HP _ _ ⟨0,M,q+1,rfl,(HU.drewN _).set 1 _,by simpa using(HR.drewN _).move (q+1),hlt,I,(λh=>by cases h),λ_=>a0K ?_⟩;have h1:=au.out;have h2:=M8 (pM (ng s p)) (k+1);rw[af.2,Lg,<-ak.out]at h2;omega
   .have aK:As ((most:Int)<10*(n:Int)+((s[q].toNat:Int) - 48))=M:=nk
    have au:=Y ae;clear ae;go_wp2_with fail;go_quiet (fail);go_wp2_with fail;go_quiet (fail);go_wp2_with fail;have ag:∀m,uf ((wr.drewN m).setCell (Z b 1 U) (V X ((q:Int)+1))) b s (q+1) l:=λm=>by simpa using(HR.drewN m).move (q+1)
    refine⟨⟨k+1,10*n+(s[q].toNat - 48),by congr 1;omega,I,by have:=au.out;omega,Y ?_,Y (by rw[show p+(k+1)=q+1 by have:=E.out;omega];exact ag _),Y ((HU.drewN _).set 1 _)⟩,?_⟩;.rw[af.2,Lg,<-ak.out]
    .have e1:=λm=>(ag m).c1
     have h3:=E.out;simp only[e1,c1,jF,cF];exact a3X h3 c
  .obtain rfl:k=D:=I
   have ah:R (n=zh (pM (ng s p))):=Y (by rw[ak.out,kK (by have:=av.out;omega)]);have ay:R (past (ng s p)=ng s q):=Y (by rw[aG.out,E.out]);have hend:q=s.size\/(∃h:q<s.size,s[q].toNat<48)\/(∃h:q<s.size,57<s[q].toNat):=by
    rcases jL q s.size with h|h
    .right
     have h1:=aF.out;rw[E.out]at h1;have h2:=h1 h;exact Vp
    .exact .inl I
   have hlen:k=0\/k=1\/(1<k/\∃h:p<s.size,R (s[p].toNat=48))\/(1<k/\∃h:p<s.size,R (s[p].toNat≠48)):=by
    exact Vn
   have HWD:R (Am (pM (ng s p))=(As (k=1)||(As (1<k)&&As ((pM (ng s p)).head?≠O 48)))):=Y (by rw[Qd,av.out]);have fin:R (∀ok:Bool,Am (pM (ng s p))=ok->(ok=u->num most (ng s p)=O (n,ng s q))/\(ok=M->num most (ng s p)=U)):=Y λok hok=>
    ⟨λh=>by rw[a0M (by rw[hok,h]) (by rw[<-ah.out];omega),<-ah.out,ay.out],λh=>a0L (by rw[hok,h])⟩
   have ai:(q:Int)=p+k:=by have:=E.out;omega
   have aN:=Y ai;have az:(∃e1:Bool,((q:Int) - p==1)=e1/\e1=As (k=1))/\∃e2:Bool,As (1<(q:Int) - p)=e2/\e2=As (1<k):=by
    refine⟨⟨_,rfl,?_⟩,_,rfl,?_⟩;.rw[ei];simp;omega
    .rw[bx];omega
   obtain⟨⟨e1,aO,he1⟩,e2,aA,he2⟩:=az;clear ai J;rcases hlen with hk1|hk1|⟨hk1,aB,A⟩|⟨hk1,aB,A⟩
   .obtain rfl:e1=M:=by rw[he1];simp;omega
    obtain rfl:e2=M:=by rw[he2];simp;omega
    have BQ:=Y (fin M (by rw[HWD.out];simp;omega));exact a0N
   .obtain rfl:e1=u:=by rw[he1];simp;omega
    have BQ:=Y (fin u (by rw[HWD.out];simp;omega));clear he1 he2 aA hk1 fin HWD;exact a0O
   .obtain rfl:e1=M:=by rw[he1];simp;omega
    obtain rfl:e2=u:=by rw[he2];simp;omega
    have d5:((s[p].toNat:Int) !=48)=M:=by have:=A.out;simp;omega
    have BQ:=Y (fin M (by
     have⟨_,h5⟩:=H0.out I;rw[HWD.out,h5,show s[p]=48 from kH.1 A.out];simp;omega))
    exact a0N
   .obtain rfl:e1=M:=by rw[he1];simp;omega
    obtain rfl:e2=u:=by rw[he2];simp;omega
    have d5:((s[p].toNat:Int) !=48)=u:=by have:=A.out;simp;omega
    have BQ:=Y (fin u (by
     have⟨_,h5⟩:=H0.out I;have aL:s[p]≠48:=λh=>A.out (by rw[h];rfl)
     rw[HWD.out,h5];simp[aL];omega))
    clear he1 he2 hk1 fin HWD;exact a0O
def uf.below{p l:Nat}(h:uf w b s p l)(hb:iR w.heap.size w w'):uf w' b s p l:=a7 hb h (mY.lt h)
def uf.lt{p l:Nat}(h:uf w b s p l):b<w.heap.size:=mY.lt h
def p9(w:K)(g:Nat)(a b c d:iQ):K:=(((w.setCell (Z g 0 U) a).setCell (Z g 1 U) b).setCell (Z g 2 U) c).setCell (Z g 3 U) d
def nX(w:K)(g:Nat)(a b c d:iQ):(((w.setCell (Z g 0 U) a).setCell (Z g 1 U) b).setCell (Z g 2 U) c).setCell (Z g 3 U) d=p9 w g a b c d:=rfl
def Qe{x y z ar b c:iQ}{t:jl}(h:mY w g #[x,y,z,ar] t):mY (p9 w g a b c d) g #[a,b,c,d] t:=by
 have:=(((h.set 0 a).set 1 b).set 2 c).set 3 d;simpa [p9]using this
def Eb{b0:Nat}{ar:K}{b c:iQ}(h:oO b0 ar w)(hg:ar.heap.size<=g):oO b0 ar (p9 w g a b c d):=
 oO.xm (oO.xm (oO.xm (oO.xm h (a:=(Z g 0 U)) hg a) (a:=(Z g 1 U)) hg b) (a:=(Z g 2 U)) hg c) (a:=(Z g 3 U)) hg d
def zC{h:Nat}{b c:iQ}{t:jl}(hb:mY w h cs t)(A:h≠g):mY (p9 w g a b c d) h cs t:=
 (((hb.setOther (a:=(Z g 0 U)) A a).setOther (a:=(Z g 1 U)) A b).setOther (a:=(Z g 2 U)) A c).setOther (a:=(Z g 3 U)) A d
def Bo{b c:iQ}(k:Nat)(h:k≠g):(p9 w g a b c d).heap[k]? =w.heap[k]? :=by
 unfold p9;rw[jh _ _ _ _ h,jh _ _ _ _ h,jh _ _ _ _ h,jh _ _ _ _ h]
def yX{b c:iQ}:(p9 w g a b c d).heap.size=w.heap.size:=by simp[p9,jr]
def wY{b c:iQ}{s:List (mW TL)}(h:nK.nA w Q v s)(A:∀k,Q k->k≠g):nK.nA (p9 w g a b c d) Q v s:=
 h.keep (kP yX.symm) (λ_ _ h=>h) λk _ hk=>Bo k (A k hk)
def yY(kind:Int)(b:Nat)(s:An)(p l most:Nat)(w:K)(e:kV)(w':K):Prop:=
 ∃(n:Nat) (ok:Bool) (A:Nat),e=mK (mJ #[mI #[V X kind,V X (n:Int),G U 0 0,V X 0],mH ok])/\oO b w w'/\uf w' b s A l/\A<=s.size/\n<=most/\
  (ok=u->num most (ng s p)=O (n,ng s A))/\(ok=M->num most (ng s p)=U)
def Ec(kind:Int)(b C:Nat)(s:An)(p l most:Nat)(w:K)(hs:s.size<=jd)(hp:p<=s.size)(az:most<=65536)(hb:uf w b s p l)(aa:w.cell? (Z C 0 U)=O (mG (O (Z b 0 U)))):
  iW iN 213 #[V X kind,V X (most:Int),mG (O (Z C 0 U))] w (yY kind b s p l most w):=by
 have N:C<w.heap.size:=by
  rcases jL C w.heap.size with h|h
  .exact h
  .simp[lV,mi h]at aa
 obtain⟨g,hg⟩:=o7 w
 have aA:R (∀W,w.alloc (mM #[V X 0,V X 0,G U 0 0,V X 0] 63)=W->oO b w W/\uf W b s p l/\W.cell? (Z C 0 U)=O (mG (O (Z b 0 U)))/\
   mY W g #[V X 0,V X 0,G U 0 0,V X 0] 63):=Y λW h=>by
  subst h;have E:=(iT w.heap.size w).alloc (iP _) (mM #[V X 0,V X 0,G U 0 0,V X 0] 63);exact⟨oO.of E,hb.below E,(E.cell (p:=(Z C 0 U)) N).trans aa,hg▸mY.new w _ _⟩
 have aH:b<g:=hg▸hb.lt;go_in;go_upto_region 1 with fail;generalize w.alloc (mM #[V X 0,V X 0,G U 0 0,V X 0] 63)=w1 at*;have⟨ae,af,aI,ag⟩:=aA.out _ rfl;have aB:=Y (XA b s p l most w1 hs hp az af);have ah:=Y ae;have ai:=Y ag;go_wp2_with fail;refine(aB).mono ?_;rintro e w2 ⟨n,ok,aD,rfl,J,aj,ak,au,hok,av⟩;have A:=J.blk ai I;have aJ:=A.cell 0;have aK:=A.cell 1;have aL:=A.cell 2;have aM:=A.cell 3;have⟨z0,aN,aO,z3⟩:=A.f4;have aF:=Y (iU (ah.trans J) (iU aj (iU ak (iU au (iU hok av)))));have ax:=Y A;go_wp2_with fail;rw[nX];have⟨a1,a2,a3,a4,a5,a6⟩:=aF.out;have ay:=Qe (a:=V X kind) (b:=V X (n:Int)) (c:=G U 0 0) (d:=V X 0) (show mY w2 g #[V X 0,V X 0,G U 0 0,V X 0] 63 from ax.out);have⟨aG,e1,e2,e3⟩:=ay.a4;refine iY (v:=mJ #[mI #[V X kind,V X n,G U 0 0,V X 0],mH ok]) (by simp[jv,Tryz.results213,go_sem,aG,e1,e2,e3]) rfl ?_;exact⟨n,ok,aD,rfl,Eb a1 I,zC a2 I,a3,a4,a5,a6⟩
abbrev TT:jl:=63
def vv(aE:Option (mW TL×List AC×Nat))(b:Nat)(s:An)(w:K)(e:kV)(w':K):Prop:=
 ∃(a:TL) (o:Option j4) (n c:Nat) (ok:Bool) (A C:Nat),e=mK (mJ #[mI #[V X a.kind,V X a.size,G o n c,V X a.tail],mH ok])/\oO b w w'/\uf w' b s A C/\A<=s.size/\C<=64/\
  (ok=u->∃sub,aE=O (.node a sub,ng s A,C)/\TL.wf a/\nK.nA w' (λk=>w.heap.size<=k) (G o n c) sub)/\(ok=M->aE=U)
def qI{c:AC}{p:Nat}(hp:p<=s.size)(h:oF c (ng s p)=u):p<s.size/\ng s p=c::ng s (p+1):=by
 rcases jL p s.size with A|A
 .rw[rz A]at h|-
  simp[oF]at h;exact⟨A,by rw[h]⟩
 .rw[sJ A]at h;simp[oF]at h
def tT{c:AC}(h:oF c l=M)(e:l=c::r):False:=by
 rw[e]at h;simp[oF]at h
def Jw{p:Nat}(hp:p<=s.size)(h:oF 63 (ng s p)=u):mark (ng s p) t=O (ng s (p+1),t+1):=by
 rw[(qI hp h).2];rfl
def Na{p:Nat}(h:oF 63 (ng s p)=M):mark (ng s p) t=if 0<t then U else O (ng s p,t):=by
 unfold mark;split;.rename_i r e;exact(tT h e).elim
 .rfl
def Sv{sub:List (mW TL)}(h:mark l t=U):xJ Iw (f+1) l n sub t=U:=by
 simp only[xJ,h];rfl
def Sw{t1:Nat}{sub:List (mW TL)}(h:mark l t=O (l1,t1))(A:Iw l1 n=U):xJ Iw (f+1) l n sub t=U:=by
 simp only[xJ,h,jG,A];rfl
def Qf{t1 n2:Nat}{sub:List (mW TL)}(h:mark l t=O (l1,t1))(A:Iw l1 n=O (x,125::r,n2)):
  xJ Iw (f+1) l n sub t=O (.node ⟨5,0,t1⟩ (sub++[x]),r,n2):=by
 simp only[xJ,h,jG,A]
def Li{t1 n2:Nat}{sub:List (mW TL)}(h:mark l t=O (l1,t1))(A:Iw l1 n=O (x,44::r,n2)):
  xJ Iw (f+1) l n sub t=xJ Iw f r n2 (sub++[x]) t1:=by
 simp only[xJ,h,jG,A]
def XB{t1 n2:Nat}{l2:List AC}{sub:List (mW TL)}(h:mark l t=O (l1,t1))(A:Iw l1 n=O (x,l2,n2))(C:oF 125 l2=M)(E:oF 44 l2=M):xJ Iw (f+1) l n sub t=U:=by
 simp only[xJ,h,jG,A];split;.exact(tT C rfl).elim
 .exact(tT E rfl).elim
 .rfl
def Ed:Tryz.prog.underlying 61=O (.slice TT):=Tryz.underlying61
def Vr:(Tryz.prog.info? TT).map (λi=>(i.zero,i.size,i.bytes))=O (O (mI #[V X 0,V X 0,G U 0 0,V X 0]),4,48):=mZ
def Nb:∀(a:TL)(o:Option j4)(n c:Nat),∀ar∈nK.cells a (G o n c),ar.oneCell'=u:=by
 intro a o n c ar A;simp[nK]at A;rcases A with rfl|rfl|rfl|rfl<;>rfl
def Yz(w:K)(g:Nat)(v:iQ)(t:Nat):Prop:=mY w g #[V X 5,V X 0,v,V X (t:Int)] TT
def Yz.more(h:Yz w g v t):Yz (w.setCell (Z g 3 U) (V X ((t:Int)+1))) g v (t+1):=by
 have:=eK h 3 (V X ((t:Int)+1));simpa [Yz]using this
def Yz.sub(h:Yz w g v t)(v':iQ):Yz (w.setCell (Z g 2 U) v') g v' t:=by
 have:=eK h 2 v';simpa [Yz]using this
structure Jy(w0:K)(b gr B:Nat)(s:An)(p l:Nat)(v:iQ)(L:List (pI TL))(t:Nat)(w:K):Prop where
 upd:oO b w0 w
 rd:uf w b s p l
 res:∃cs,mY w gr cs TT/\cs.size=4
 st:Yz w (gr+1) v t
 own:wG nK TT w B v L
 hp:p<=s.size
 hl:l<=64
 hlen:L.length<=64
 ht:t<=64
 hB:B<=w.heap.size
def wZ{b c:iQ}{t:jl}(h:mY w g cs t)(hs:cs.size=4):mY (p9 w g a b c d) g #[a,b,c,d] t:=by
 obtain⟨l⟩:=cs
 match l,hs with
 |[x,y,z,ar],_=>exact Qe h
def Qg{p l:Nat}(J:oO b w0 w)(N:uf w b s p l)(hp:p<=s.size)(hl:l<=64)(hg:∃cs,mY w gr cs TT/\cs.size=4)(A:w0.heap.size<=gr)(hb:b<w0.heap.size)(aa:aE=U):
  (p9 w gr (V X 0) (V X 0) (G U 0 0) (V X 0)).cell? (Z gr 0 U)=O (V X 0)/\(p9 w gr (V X 0) (V X 0) (G U 0 0) (V X 0)).cell? (Z gr 1 U)=O (V X 0)/\
   (p9 w gr (V X 0) (V X 0) (G U 0 0) (V X 0)).cell? (Z gr 2 U)=O (G U 0 0)/\(p9 w gr (V X 0) (V X 0) (G U 0 0) (V X 0)).cell? (Z gr 3 U)=O (V X 0)/\
   vv aE b s w0 (mK (mJ #[mI #[V X 0,V X 0,G U 0 0,V X 0],mH M])) (p9 w gr (V X 0) (V X 0) (G U 0 0) (V X 0)):=by
 obtain⟨cs,C,E⟩:=hg;have hB:=wZ (a:=V X 0) (b:=V X 0) (c:=G U 0 0) (d:=V X 0) C E;exact⟨hB.cell 0,hB.cell 1,hB.cell 2,hB.cell 3,⟨0,0,0⟩,U,0,0,M,p,l,rfl,Eb J A,zC N I,hp,hl,(λh=>by cases h),λ_=>aa⟩
def Jy.sub{p l:Nat}(h:Jy w0 b gr B s p l v L t w)(A:oO b w w')(J:b<gr)(af:gr+2<=B){C E:Nat}(N:uf w' b s C E)(hp:C<=s.size)(hl:E<=64):
  Jy w0 b gr B s C E v L t w':=by
 have⟨cs,aa,ae⟩:=h.res;exact⟨h.upd.trans A,N,⟨cs,A.blk aa I,ae⟩,A.blk h.st I,h.own.upd A I,hp,hl,h.hlen,h.ht,jk h.hB A.size⟩
def Jy.more{p l:Nat}(h:Jy w0 b gr B s p l v L t w)(A:b<gr)(N:gr+2<=B)(aa:w0.heap.size<=gr)(ht:t<64):
  Jy w0 b gr B s p l v L (t+1) (w.setCell (Z (gr+1) 3 U) (V X ((t:Int)+1))):=by
 have⟨cs,C,E⟩:=h.res;have J:oO (gr+1) w (w.setCell (Z (gr+1) 3 U) (V X ((t:Int)+1))):=(b9 _ _).set 3 _;exact⟨h.upd.xm (a:=(Z (gr+1) 3 U)) (show w0.heap.size<=gr+1 by omega) _,cx h.rd nk _,⟨cs,C.setOther ny _,E⟩,h.st.more,h.own.upd J I,h.hp,h.hl,h.hlen,I,by simpa [jr]using h.hB⟩
def Jy.grown{p l:Nat}(h:Jy w0 b gr B s p l v L t w)(J:b<gr)(ag:gr+2<=B)(ah:w0.heap.size<=gr)(hL:L.length<64)(ho:wG nK TT w' B v' (L++[y]))(hb:iR B w w')(hsz:w.heap.size<w'.heap.size)(hg:w.grownBy w' v.ownBlock):Jy w0 b gr B s p l v' (L++[y]) t (w'.setCell (Z (gr+1) 2 U) v'):=by
 have⟨cs,N,aa⟩:=h.res;have ae:oO (gr+1) w' (w'.setCell (Z (gr+1) 2 U) v'):=(b9 _ _).set 2 _;have af:uf w' b s p l:=a7 hb h.rd I;have A:Yz w' (gr+1) v t:=a7 hb h.st I;have C:oO b w0 w':=⟨hg.os.trans h.upd.os,hg.tape.trans h.upd.tape,hg.output.trans h.upd.output,jk h.upd.size hg.size,λk hk E=>by
  rw[<-h.upd.block k hk E];refine hg.block k (jy hk h.upd.size) λe=> ?_
  have:=(h.own.block k e.symm).1;omega⟩
 exact⟨C.xm (a:=(Z (gr+1) 2 U)) (show w0.heap.size<=gr+1 by omega) _,cx af nk _,⟨cs,(a7 hb N I).setOther ny _,aa⟩,A.sub v',ho.upd ae I,h.hp,h.hl,nk,h.ht,by simp[jr];have:=h.hB;omega⟩
def Jy.c0{p l:Nat}(h:Jy w0 b gr B s p l v L t w):w.cell? (Z (gr+1) 0 U)=O (V X 5)/\w.cell? (Z (gr+1) 1 U)=O (V X 0)/\
  w.cell? (Z (gr+1) 2 U)=O v/\w.cell? (Z (gr+1) 3 U)=O (V X (t:Int))/\w.frozen? (Z (gr+1) 2 U)=M/\w.frozen? (Z (gr+1) 3 U)=M:=by
 have:=h.st;exact⟨b5 this 0,b5 this 1,b5 this 2,b5 this 3,ec this 2,ec this 3⟩
def Jy.r0{p l:Nat}(h:Jy w0 b gr B s p l v L t w):(∃x,w.cell? (Z gr 0 U)=O x)/\(∃x,w.cell? (Z gr 1 U)=O x)/\(∃x,w.cell? (Z gr 2 U)=O x)/\(∃x,w.cell? (Z gr 3 U)=O x)/\
  w.frozen? (Z gr 0 U)=M/\w.frozen? (Z gr 1 U)=M/\w.frozen? (Z gr 2 U)=M/\w.frozen? (Z gr 3 U)=M:=by
 have⟨⟨l⟩,A,C⟩:=h.res
 match l,C with
 |[x,y,z,ar],_=>exact⟨⟨x,A.cell 0⟩,⟨y,A.cell 1⟩,⟨z,A.cell 2⟩,⟨ar,A.cell 3⟩,A.free 0,A.free 1,A.free 2,A.free 3⟩
def Jy.Nc{p l:Nat}(h:Jy w0 b gr B s p l v L t w)(A:w0.heap.size<=gr)(hb:b<w0.heap.size):
  (p9 w gr (V X 0) (V X 0) (G U 0 0) (V X 0)).cell? (Z gr 0 U)=O (V X 0)/\(p9 w gr (V X 0) (V X 0) (G U 0 0) (V X 0)).cell? (Z gr 1 U)=O (V X 0)/\
   (p9 w gr (V X 0) (V X 0) (G U 0 0) (V X 0)).cell? (Z gr 2 U)=O (G U 0 0)/\(p9 w gr (V X 0) (V X 0) (G U 0 0) (V X 0)).cell? (Z gr 3 U)=O (V X 0)/\
   vv U b s w0 (mK (mJ #[mI #[V X 0,V X 0,G U 0 0,V X 0],mH M])) (p9 w gr (V X 0) (V X 0) (G U 0 0) (V X 0)):=
 Qg h.upd h.rd h.hp h.hl h.res A hb rfl
def Jy.Nf{p l:Nat}{oa:Option j4}{cap:Nat}(h:Jy w0 b gr B s p l (G oa n cap) L t w)(E:w0.heap.size<=gr)(hb:b<w0.heap.size)(aa:gr+2<=B):
  (p9 w gr (V X 5) (V X 0) (G oa n cap) (V X t)).cell? (Z gr 0 U)=O (V X 5)/\(p9 w gr (V X 5) (V X 0) (G oa n cap) (V X t)).cell? (Z gr 1 U)=O (V X 0)/\
   (p9 w gr (V X 5) (V X 0) (G oa n cap) (V X t)).cell? (Z gr 2 U)=O (G oa n cap)/\(p9 w gr (V X 5) (V X 0) (G oa n cap) (V X t)).cell? (Z gr 3 U)=O (V X t)/\
   vv (O (.node ⟨5,0,t⟩ (L.map pI.tree),ng s p,l)) b s w0 (mK (mJ #[mI #[V X 5,V X 0,G oa n cap,V X t],mH u])) (p9 w gr (V X 5) (V X 0) (G oa n cap) (V X t)):=by
 have⟨cs,A,C⟩:=h.res;have hB:=wZ (a:=V X 5) (b:=V X 0) (c:=G oa n cap) (d:=V X t) A C;have ht:=h.ht;refine⟨hB.cell 0,hB.cell 1,hB.cell 2,hB.cell 3,⟨5,0,t⟩,oa,n,cap,u,p,l,rfl,Eb h.upd E,zC h.rd I,h.hp,h.hl,(λ_=>⟨L.map pI.tree,rfl,⟨rfl,rfl,?_⟩,?_⟩),λh=>by cases h⟩
 .have J:IntKind.i64.min= -9223372036854775808:=rfl
  have N:IntKind.i64.max=9223372036854775807:=rfl;simp[Lit.wf,J,N];omega
 .exact(wY h.own.subs (λk hk=>by omega)).keep (iP _) (λk _ hk=>by omega) λ_ _ _=>rfl
def Vs(h:p:=by
 have hal:=(iT w4.heap.size w4).alloc (iP _) o;exact F4.sub (oO.of hal) HC.1 (iP _) (F4.rd.below hal) QR hl4):p:=h
def a0P(h:p:=by
 rw[hq2]at CP3;have HQ2:=Y hq2;clear hq2;go_wp2_with fail;refine vF (CP3) λw9 hu9 Sn=> ?_
 have F9:=Y (F8.sub hu9 HC.1 (iP _) (show uf w9 b s p2 l2 from by simpa using Sn) QR I);clear hu9 Sn;have⟨⟨x0,r0⟩,⟨x1,r1⟩,⟨x2,r2⟩,⟨x3,r3⟩,y0,y1,y2,y3⟩:=F9.r0;go_wp2_with fail;rw[nX];have⟨e0,e1,e2,e3,hpost⟩:=F9.Nc HC.2.1 HC.2.2;refine iY (v:=mJ #[mI #[V X 0,V X 0,G U 0 0,V X 0],mH M]) (by simp[jv,Tryz.results216,go_sem,e0,e1,e2,e3]) rfl ?_;rw[<-HP.out,HR.out,XB Sy.out YA.out HQ1.out HQ2.out];exact hpost):p:=h
def a0Q(h:p:=by
 go_upto_region 9 with fail;have F6:=Y (F5 (mM #[V X a.kind,V X a.size,G o n c,V X a.tail] TT));generalize w4.alloc (mM #[V X a.kind,V X a.size,G o n c,V X a.tail] TT)=w5 at*;have⟨⟨x0,r0⟩,⟨x1,r1⟩,⟨x2,r2⟩,⟨x3,r3⟩,y0,y1,y2,y3⟩:=F6.r0;go_wp2_with fail;rw[nX];have⟨e0,e1,e2,e3,hpost⟩:=F6.Nc HC.2.1 HC.2.2;refine iY (v:=mJ #[mI #[V X 0,V X 0,G U 0 0,V X 0],mH M]) (by simp[jv,Tryz.results216,go_sem,e0,e1,e2,e3]) rfl ?_;rw[<-HP.out,HR.out,Sw Sy.out HN.out];exact hpost):p:=h
def a0R(h:p:=by
 subst h;have hal:=(iT w4.heap.size w4).alloc (iP _) (mM #[V X a.kind,V X a.size,G o n c,V X a.tail] TT);exact⟨F4.sub (oO.of hal) HC.1 (iP _) (F4.rd.below hal) QR hl4,mY.new w4 _ _,hal⟩):p:=h
def XC(D dep b:Nat)(s:An)(hs:s.size<=jd)(dD:dep<=8)(cZ:∀(p l:Nat) (w:K),p<=s.size->l<=64->uf w b s p l->iW iN 171 #[mG (O (Z b 0 U)),V X ((dep:Int)+1)] w (vv (rd D (ng s p) l) b s w))(p l:Nat)(w:K)(hp:p<=s.size)(hl:l<=63)(hb:uf w b s p l):
  iW iN 216 #[mG (O (Z b 0 U)),V X (dep:Int)] w
   (vv (if oF 125 (ng s p)then O (.node ⟨5,0,0⟩ [],ng s (p+1),l)else xJ (rd D) (l+2) (ng s p) l [] 0) b s w):=by
 obtain⟨g,hg⟩:=o7 w;have df:b<g:=hg▸hb.lt;have dh:R (∀W,(w.alloc (mM #[V X 0,V X 0,G U 0 0,V X 0] TT)).alloc (mM #[V X 5,V X 0,G U 0 0,V X 0] TT)=W->Jy w b g (g+2) s p l (G U 0 0) [] 0 W):=Y λW h=>by
  subst h;have hal:=(iT w.heap.size w).alloc (iP _) (mM #[V X 0,V X 0,G U 0 0,V X 0] TT);have bN:=mY.new w #[V X 0,V X 0,G U 0 0,V X 0] TT;have dw:=hb.below hal;have dx:(w.alloc (mM #[V X 0,V X 0,G U 0 0,V X 0] TT)).heap.size=g+1:=nk;generalize w.alloc (mM #[V X 0,V X 0,G U 0 0,V X 0] TT)=w1 at*;have aY:=(iT w1.heap.size w1).alloc (iP _) (mM #[V X 5,V X 0,G U 0 0,V X 0] TT);have bO:=mY.new w1 #[V X 5,V X 0,G U 0 0,V X 0] TT;rw[dx]at bO;rw[hg]at bN;refine⟨(oO.of hal).trans (oO.of aY),dw.below aY,⟨_,a7 aY bN I,rfl⟩,bO,wG.nil _ _ _ _,hp,I,ny,ny,nk⟩
 have hw0:w.heap.size<=g:=I;have hb0:b<w.heap.size:=hb.lt;have dz:=Y cZ;have bz:=Y hs;have⟨aE,bT⟩:∃aE,(if oF 125 (ng s p)then O (.node ⟨5,0,0⟩ [],ng s (p+1),l)else xJ (rd D) (l+2) (ng s p) l [] 0)=aE:=⟨_,rfl⟩;have HR:=Y bT;rw[bT];have⟨dE,bU⟩:=nE (vv aE b s w);have HP:=Y bU;rw[bU];have HC:=Y (iU df (iU hw0 hb0));clear bT bU cZ hb hs hw0 hb0;have⟨dH,hi,bP,bQ,bR⟩:=info_parts Vr;go_in;go_upto_region 2 with fail;generalize (w.alloc (mM #[V X 0,V X 0,G U 0 0,V X 0] TT)).alloc (mM #[V X 5,V X 0,G U 0 0,V X 0] TT)=w1 at*;have bM:=Y (dh _ rfl)
 have bA:R (iW iN 215 #[mG (O (Z b 0 U)),V .u8 125] w1 λe w'=>e=mK (mH (oF 125 (ng s p)))/\oO b w1 w'/\uf w' b s (if oF 125 (ng s p)then p+1 else p) l):=
  Y (uQ b s p l 125 w1 bz hp bM.rd)
 clear dh;cases af:oF 125 (ng s p)with
 |true=>
  rw[af]at bA HR;have aL:=Y (qI hp af);clear af;go_wp2_with fail;refine vF (bA) λw2 A C=> ?_
  have J:=Y (bM.sub A HC.1 (iP _) (show uf w2 b s (p+1) l from by simpa using C) (by have:=aL.1;omega) I);have⟨c0,c1,c2,c3,N,z3⟩:=J.c0;have⟨⟨x0,r0⟩,⟨x1,r1⟩,⟨x2,r2⟩,⟨x3,r3⟩,y0,y1,y2,y3⟩:=J.r0;clear A C;go_wp2_with fail;rw[nX];have aa:=J.Nf HC.2.1 HC.2.2 (iP _);simp only[show((0:Nat):Int)=0 from rfl]at aa;obtain⟨e0,e1,e2,e3,hpost⟩:=aa;refine iY (v:=mJ #[mI #[V X 5,V X 0,G U 0 0,V X 0],mH u]) (by
   simp[jv,Tryz.results216,go_sem,e0,e1,e2,e3]) rfl ?_
  rw[<-HP.out,<-HR.out];exact hpost
 |false=>
  rw[af]at bA HR;clear af;go_wp2_with fail;refine vF (bA) λw2 A C=> ?_
  have J:=Y (bM.sub A HC.1 (iP _) (show uf w2 b s p l from by simpa using C) hp I);clear A C bA bM;go_wp2
  go_loopw [7,8] (λ_ _ bV=>∃(f p l t:Nat) (v:iQ) (L:List (pI TL)),R (Jy w b g (g+2) s p l v L t bV)/\l<f/\R (aE=xJ (rd D) f (ng s p) l (L.map pI.tree) t)/\L.length+l<=63/\t<=L.length/\p<=s.size)
   (λ_ _ bV=>match bV.cell? (Z b 2 U)with|some v=>(jF v).toNat|none=>0)
  case atStart=>exact⟨l+2,p,l,0,G U 0 0,[],Y J.out,I,Y (by rw[<-HR.out];simp),nk,ny,hp⟩
  case round=>
   clear J HR hp hl;obtain⟨f,p,l,t,v,L,F,dI,HR,dA,dB,hp⟩:=hrel;obtain⟨f,rfl⟩:∃dF,f=dF+1:=⟨f - 1,I⟩;have hl:l<=63:=I;obtain⟨oa,cap,rfl⟩:=F.own.slice;have⟨c0,c1,c2,c3,N,z3⟩:=F.c0
   have bB:R (iW iN 215 #[mG (O (Z b 0 U)),V .u8 63] wr λe w'=>e=mK (mH (oF 63 (ng s p)))/\oO b wr w'/\uf w' b s (if oF 63 (ng s p)then p+1 else p) l):=
    Y (uQ b s p l 63 wr bz hp F.rd)
   have bS:R (wr.cell? (Z b 2 U)=O (V X (l:Int))):=Y F.rd.c2;have⟨aw,bW⟩:=nE L.length;have aM:=Y bW;have aN:R (oF 63 (ng s p)=u->mark (ng s p) t=O (ng s (p+1),t+1)/\p<s.size):=Y λh=>⟨Jw hp h,(qI hp h).1⟩
   have ay:R (oF 63 (ng s p)=M->mark (ng s p) t=if 0<t then U else O (ng s p,t)):=Y λh=>Na h
   rw[bW]at dA dB F c2;clear bW;cases af:oF 63 (ng s p)with
   |true=>
    rw[af]at bB;have aL:=Y (aN af);clear af aN ay;go_wp2_with fail;refine vF (bB) λw2 A C=> ?_
    have J:=Y (F.sub A HC.1 (iP _) (show uf w2 b s (p+1) l from by simpa using C) (by have:=aL.2;omega) I);clear A C c0 c1 c2 c3 N z3 F;have⟨c0,c1,c2,c3,N,z3⟩:=J.c0;go_upto_region 8 with fail;have aO:=Y (J.more HC.1 (iP _) HC.2.1 I);generalize w2.setCell (Z (g+1) 3 U) (V X ((t:Int)+1))=w3 at*;have Sy:=Y aL.1;have bC:p+1<=s.size:=by have:=aL.2;omega
    clear c0 c1 c2 c3 N z3 J aL;have bD:=Y (dz (p+1) l w3 bC I aO.rd);go_wp2_with fail;refine(bD).mono ?_;rintro e w4 ⟨a,o,n,c,ok,p2,l2,rfl,aP,aQ,QR,hl4,hok,az⟩;have F4:=Y (aO.sub aP HC.1 (iP _) aQ QR hl4);have bE:=Y aO.own.block;have bF:=Y aO.hB;clear aP aQ bD;cases ok with
    |false=>
     have HN:=Y (az rfl);clear hok az;have F5:R (∀o,Jy w b g (g+2) s p2 l2 (G oa aw cap) L (t+1) (w4.alloc o)):=Y λo=>by
      exact Vs
     exact a0Q
    |true=>
     have aR:=Y (hok rfl);clear hok az;have F5:R (∀W,w4.alloc (mM #[V X a.kind,V X a.size,G o n c,V X a.tail] TT)=W->Jy w b g (g+2) s p2 l2 (G oa aw cap) L (t+1) W/\mY W w4.heap.size #[V X a.kind,V X a.size,G o n c,V X a.tail] TT/\iR w4.heap.size w4 W):=Y λW h=>by
      exact a0R
     go_upto_region 9 with fail;generalize w4.alloc (mM #[V X a.kind,V X a.size,G o n c,V X a.tail] TT)=w5 at*;have⟨aS,ai,ag⟩:=F5.out _ rfl;have F6:=Y aS;have⟨c0,c1,c2,c3,N,z3⟩:=F6.c0;have⟨bX,bY,bZ,cz⟩:=ai.a4;have aA:R (∃sub,rd D (ng s (p+1)) l=O (.node a sub,ng s p2,l2)/\TL.wf a/\nK.nA w5 (λk=>g+2<=k/\(jM oa aw cap).ownBlock≠O k) (G o n c) sub):=Y (by
      have⟨sub,ah,cK,bG⟩:=aR.out;refine⟨sub,ah,cK,bG.keep ag.size (λk hk af=>⟨?_,λe=> ?_⟩) λk hk af=>ag.block k hk⟩;.have:=bF.out;omega
      .have:=(bE k e).2;omega)
     clear F5 aS ai ag F4 aR;have⟨sub,YA,aB,aj⟩:=aA.out;have YA:=Y YA;have aU:=Y aB;have aV:=Y aj;have ai:g+2<=w5.heap.size:=F6.hB;have aD:=Y F6.own;have aF:=Y (Zj _ _ _ _ YA).2.1;clear aA aB aj;go_upto_region 12 with(at_builtin;refine yc (S:=nK) Ed hi bP bQ bR rfl mX Nb rfl (.tmp 34) (.tmp 36) rfl (g+2) (G oa aw cap) L ⟨a,G o n c,sub⟩ w5 _ rfl rfl aD rfl (by have:=aM.out;omega) mX ai aU aV ?_;intro g2 aG aZ ak au aH aI;have bH:aZ.cell? (Z (g+1) 2 U)=O (G oa aw cap):=(au.cell (p:=(Z (g+1) 2 U)) (show g+1<g+2 by omega)).trans c2;have bI:aZ.frozen? (Z (g+1) 2 U)=M:=(au.frozen (p:=(Z (g+1) 2 U)) (show g+1<g+2 by omega)).trans N)
     have aJ:=Y (F6.grown HC.1 (iP _) HC.2.1 (by have:=aM.out;omega) ak au aH aI);generalize aZ.setCell (Z (g+1) 2 U) (G (O (Z g2 0 U)) (L.length+1) aG)=bg at*;have aK:R ((L++[(⟨a,G o n c,sub⟩:pI TL)]).map pI.tree=L.map pI.tree++[.node a sub]):=Y (by simp[pI.tree]);have aW:R ((L++[(⟨a,G o n c,sub⟩:pI TL)]).length=aw+1):=Y (by rw[jo,aM.out];rfl);have⟨bq,aX⟩:∃bq,L++[(⟨a,G o n c,sub⟩:pI TL)]=bq:=⟨_,rfl⟩;rw[aX]at aK aW aJ;have bJ:=mW.wX (mW.node a sub);have bK:l2<l:=by have:=aF.out;simp only at this;omega
     clear bH bI ak au aH aI c0 c1 c2 c3 N z3 bX bY bZ cz aD aV aU aX bJ aF;rw[aM.out]at aJ
     have av:R (iW iN 215 #[mG (O (Z b 0 U)),V .u8 125] bg λe w'=>e=mK (mH (oF 125 (ng s p2)))/\oO b bg w'/\uf w' b s (if oF 125 (ng s p2)then p2+1 else p2) l2):=
      Y (uQ b s p2 l2 125 bg bz QR aJ.rd)
     have bL:=Y (λh=>qI (c:=125) (s:=s) (p:=p2) QR h);have bu:=Y (λh=>qI (c:=44) (s:=s) (p:=p2) QR h);cases E:oF 125 (ng s p2)with
     |true=>
      rw[E]at av;have HQ1:=Y (bL E);clear E;go_wp2_with fail;refine vF (av) λax ae Kr=> ?_
      have F8:=Y (aJ.sub ae HC.1 (iP _) (show uf ax b s (p2+1) l2 from by simpa using Kr) (by have:=HQ1.1;omega) I);clear ae Kr;have⟨c0,c1,c2,c3,N,z3⟩:=F8.c0;have⟨⟨x0,r0⟩,⟨x1,r1⟩,⟨x2,r2⟩,⟨x3,r3⟩,y0,y1,y2,y3⟩:=F8.r0;rw[aM.out];go_wp2_with fail;rw[nX];have aa:=F8.Nf HC.2.1 HC.2.2 (iP _);try simp only[show((0:Nat):Int)=0 from rfl]at aa
      obtain⟨e0,e1,e2,e3,hpost⟩:=aa;refine iY (v:=mJ #[mI #[V X 5,V X 0,G (O (Z g2 0 U)) (aw+1) aG,V X ((t:Int)+1)],mH u]) (by simp[jv,Tryz.results216,go_sem]at e0 e1 e2 e3|-;simp[go_sem,e0,e1,e2,e3]) rfl ?_;have ah:=YA.out;rw[HQ1.2]at ah;rw[<-HP.out,HR.out,Qf Sy.out ah,<-aK.out];exact hpost
     |false=>
      rw[E]at av;have HQ1:=Y E;clear E;go_wp2_with fail;refine vF (av) λax ae Kr=> ?_
      have F8:=Y (aJ.sub ae HC.1 (iP _) (show uf ax b s p2 l2 from by simpa using Kr) QR I);clear ae Kr
      have CP3:R (iW iN 215 #[mG (O (Z b 0 U)),V .u8 44] ax λe w'=>e=mK (mH (oF 44 (ng s p2)))/\oO b ax w'/\uf w' b s (if oF 44 (ng s p2)then p2+1 else p2) l2):=
       Y (uQ b s p2 l2 44 ax bz QR F8.rd)
      cases hq2:oF 44 (ng s p2)with
      |true=>
       rw[hq2]at CP3;have HQ2:=Y (bu hq2);clear hq2;go_wp2_with fail;refine vF (CP3) λw9 hu9 Sn=> ?_
       have F9:=Y (F8.sub hu9 HC.1 (iP _) (show uf w9 b s (p2+1) l2 from by simpa using Sn) (by have:=HQ2.1;omega) I);clear hu9 Sn;go_wp2_with fail;have ah:=YA.out;rw[HQ2.2]at ah;have bG:=aW.out;refine⟨⟨f,p2+1,l2,t+1,_,bq,Y F9.out,I,Y (by rw[HR.out,Li Sy.out ah,aK.out]),I,I,by have:=HQ2.1;omega⟩,?_⟩;have e1:=F9.rd.c2;have e2:=bS.out;simp only[e1,e2,jF,cF];exact bK
      |false=>
       exact a0P
   |false=>
    rw[af]at bB;have aL:=Y (ay af);clear af aN ay;by_cases h0:0<t
    .have dJ:As (0<(t:Int))=u:=nk
     have dG:=Y h0;clear h0;go_wp2_with fail;refine vF (bB) λw2 A C=> ?_
     have J:=Y (F.sub A HC.1 (iP _) (show uf w2 b s p l from by simpa using C) hp I);clear A C c0 c1 c2 c3 N z3 F;have⟨c0,c1,c2,c3,N,z3⟩:=J.c0;have⟨⟨x0,r0⟩,⟨x1,r1⟩,⟨x2,r2⟩,⟨x3,r3⟩,y0,y1,y2,y3⟩:=J.r0;go_wp2_with fail;rw[nX];have⟨e0,e1,e2,e3,hpost⟩:=J.Nc HC.2.1 HC.2.2;refine iY (v:=mJ #[mI #[V X 0,V X 0,G U 0 0,V X 0],mH M]) (by simp[jv,Tryz.results216,go_sem,e0,e1,e2,e3]) rfl ?_;rw[<-HP.out,HR.out,Sv (by rw[aL.out,Ax dG.out])];exact hpost
    .obtain rfl:t=0:=I
     clear h0;go_wp2_with fail;refine vF (bB) λw2 A C=> ?_
     have J:=Y (F.sub A HC.1 (iP _) (show uf w2 b s p l from by simpa using C) hp I);clear A C c0 c1 c2 c3 N z3 F;have⟨c0,c1,c2,c3,N,z3⟩:=J.c0;go_upto_region 8 with fail;have Sy:R (mark (ng s p) 0=O (ng s p,0)):=Y (by rw[aL.out];simp);have aO:=Y J.out;generalize w2=w3 at*;have bC:p<=s.size:=hp;clear c0 c1 c2 c3 N z3 J aL;have bD:=Y (dz (p) l w3 bC I aO.rd);go_wp2_with fail;refine(bD).mono ?_;rintro e w4 ⟨a,o,n,c,ok,p2,l2,rfl,aP,aQ,QR,hl4,hok,az⟩;have F4:=Y (aO.sub aP HC.1 (iP _) aQ QR hl4);have bE:=Y aO.own.block;have bF:=Y aO.hB;clear aP aQ bD;cases ok with
     |false=>
      have HN:=Y (az rfl);clear hok az;have F5:R (∀o,Jy w b g (g+2) s p2 l2 (G oa aw cap) L (0) (w4.alloc o)):=Y λo=>by
       exact Vs
      exact a0Q
     |true=>
      have aR:=Y (hok rfl);clear hok az;have F5:R (∀W,w4.alloc (mM #[V X a.kind,V X a.size,G o n c,V X a.tail] TT)=W->Jy w b g (g+2) s p2 l2 (G oa aw cap) L (0) W/\mY W w4.heap.size #[V X a.kind,V X a.size,G o n c,V X a.tail] TT/\iR w4.heap.size w4 W):=Y λW h=>by
       exact a0R
      go_upto_region 9 with fail;generalize w4.alloc (mM #[V X a.kind,V X a.size,G o n c,V X a.tail] TT)=w5 at*;have⟨aS,ai,ag⟩:=F5.out _ rfl;have F6:=Y aS;have⟨c0,c1,c2,c3,N,z3⟩:=F6.c0;have⟨bX,bY,bZ,cz⟩:=ai.a4;have aA:R (∃sub,rd D (ng s (p)) l=O (.node a sub,ng s p2,l2)/\TL.wf a/\nK.nA w5 (λk=>g+2<=k/\(jM oa aw cap).ownBlock≠O k) (G o n c) sub):=Y (by
       have⟨sub,ah,cK,bG⟩:=aR.out;refine⟨sub,ah,cK,bG.keep ag.size (λk hk af=>⟨?_,λe=> ?_⟩) λk hk af=>ag.block k hk⟩;.have:=bF.out;omega
       .have:=(bE k e).2;omega)
      clear F5 aS ai ag F4 aR;have⟨sub,YA,aB,aj⟩:=aA.out;have YA:=Y YA;have aU:=Y aB;have aV:=Y aj;have ai:g+2<=w5.heap.size:=F6.hB;have aD:=Y F6.own;have aF:=Y (Zj _ _ _ _ YA).2.1;clear aA aB aj;go_upto_region 12 with(at_builtin;refine yc (S:=nK) Ed hi bP bQ bR rfl mX Nb rfl (.tmp 34) (.tmp 36) rfl (g+2) (G oa aw cap) L ⟨a,G o n c,sub⟩ w5 _ rfl rfl aD rfl (by have:=aM.out;omega) mX ai aU aV ?_;intro g2 aG aZ ak au aH aI;have bH:aZ.cell? (Z (g+1) 2 U)=O (G oa aw cap):=(au.cell (p:=(Z (g+1) 2 U)) (show g+1<g+2 by omega)).trans c2;have bI:aZ.frozen? (Z (g+1) 2 U)=M:=(au.frozen (p:=(Z (g+1) 2 U)) (show g+1<g+2 by omega)).trans N)
      have aJ:=Y (F6.grown HC.1 (iP _) HC.2.1 (by have:=aM.out;omega) ak au aH aI);generalize aZ.setCell (Z (g+1) 2 U) (G (O (Z g2 0 U)) (L.length+1) aG)=bg at*;have aK:R ((L++[(⟨a,G o n c,sub⟩:pI TL)]).map pI.tree=L.map pI.tree++[.node a sub]):=Y (by simp[pI.tree]);have aW:R ((L++[(⟨a,G o n c,sub⟩:pI TL)]).length=aw+1):=Y (by rw[jo,aM.out];rfl);have⟨bq,aX⟩:∃bq,L++[(⟨a,G o n c,sub⟩:pI TL)]=bq:=⟨_,rfl⟩;rw[aX]at aK aW aJ;have bJ:=mW.wX (mW.node a sub);have bK:l2<l:=by have:=aF.out;simp only at this;omega
      clear bH bI ak au aH aI c0 c1 c2 c3 N z3 bX bY bZ cz aD aV aU aX bJ aF;rw[aM.out]at aJ
      have av:R (iW iN 215 #[mG (O (Z b 0 U)),V .u8 125] bg λe w'=>e=mK (mH (oF 125 (ng s p2)))/\oO b bg w'/\uf w' b s (if oF 125 (ng s p2)then p2+1 else p2) l2):=
       Y (uQ b s p2 l2 125 bg bz QR aJ.rd)
      have bL:=Y (λh=>qI (c:=125) (s:=s) (p:=p2) QR h);have bu:=Y (λh=>qI (c:=44) (s:=s) (p:=p2) QR h);cases E:oF 125 (ng s p2)with
      |true=>
       rw[E]at av;have HQ1:=Y (bL E);clear E;go_wp2_with fail;refine vF (av) λax ae Kr=> ?_
       have F8:=Y (aJ.sub ae HC.1 (iP _) (show uf ax b s (p2+1) l2 from by simpa using Kr) (by have:=HQ1.1;omega) I);clear ae Kr;have⟨c0,c1,c2,c3,N,z3⟩:=F8.c0;have⟨⟨x0,r0⟩,⟨x1,r1⟩,⟨x2,r2⟩,⟨x3,r3⟩,y0,y1,y2,y3⟩:=F8.r0;rw[aM.out];go_wp2_with fail;rw[nX];have aa:=F8.Nf HC.2.1 HC.2.2 (iP _);try simp only[show((0:Nat):Int)=0 from rfl]at aa
       obtain⟨e0,e1,e2,e3,hpost⟩:=aa;refine iY (v:=mJ #[mI #[V X 5,V X 0,G (O (Z g2 0 U)) (aw+1) aG,V X 0],mH u]) (by simp[jv,Tryz.results216,go_sem]at e0 e1 e2 e3|-;simp[go_sem,e0,e1,e2,e3]) rfl ?_;have ah:=YA.out;rw[HQ1.2]at ah;rw[<-HP.out,HR.out,Qf Sy.out ah,<-aK.out];exact hpost
      |false=>
       rw[E]at av;have HQ1:=Y E;clear E;go_wp2_with fail;refine vF (av) λax ae Kr=> ?_
       have F8:=Y (aJ.sub ae HC.1 (iP _) (show uf ax b s p2 l2 from by simpa using Kr) QR I);clear ae Kr
       have CP3:R (iW iN 215 #[mG (O (Z b 0 U)),V .u8 44] ax λe w'=>e=mK (mH (oF 44 (ng s p2)))/\oO b ax w'/\uf w' b s (if oF 44 (ng s p2)then p2+1 else p2) l2):=
        Y (uQ b s p2 l2 44 ax bz QR F8.rd)
       cases hq2:oF 44 (ng s p2)with
       |true=>
        rw[hq2]at CP3;have HQ2:=Y (bu hq2);clear hq2;go_wp2_with fail;refine vF (CP3) λw9 hu9 Sn=> ?_
        have F9:=Y (F8.sub hu9 HC.1 (iP _) (show uf w9 b s (p2+1) l2 from by simpa using Sn) (by have:=HQ2.1;omega) I);clear hu9 Sn;go_wp2_with fail;have ah:=YA.out;rw[HQ2.2]at ah;have bG:=aW.out;refine⟨⟨f,p2+1,l2,0,_,bq,Y F9.out,I,Y (by rw[HR.out,Li Sy.out ah,aK.out]),I,I,by have:=HQ2.1;omega⟩,?_⟩;have e1:=F9.rd.c2;have e2:=bS.out;simp only[e1,e2,jF,cF];exact bK
       |false=>
        exact a0P
structure Bp(w0:K)(b g:Nat)(s:An)(p l:Nat)(w:K):Prop where
 upd:oO b w0 w
 rd:uf w b s p l
 box:w.cell? (Z g 0 U)=O (mG (O (Z b 0 U)))
 res:∃cs,mY w (g+1) cs TT/\cs.size=4
 hp:p<=s.size
 hl:l<=64
 hg:g+2<=w.heap.size
 h0:w0.heap.size=g
 hb:b<g
def Bp.sub{p l C E:Nat}(h:Bp w0 b g s p l w)(A:oO b w w')(J:uf w' b s C E)(hp:C<=s.size)(hl:E<=64):Bp w0 b g s C E w':=by
 have⟨cs,N,aa⟩:=h.res;have ae:=h.hb;have hg:=h.hg;refine⟨h.upd.trans A,J,?_,⟨cs,A.blk N I,aa⟩,hp,hl,jk h.hg A.size,h.h0,h.hb⟩;rw[World.cell?_of_block (w:=w) (A.block g I (by simpa using by omega))];exact h.box
def Bp.drewN{p l:Nat}(h:Bp w0 b g s p l w)(n:Nat):Bp w0 b g s p l (w.drewN n):=h.sub ((b9 _ _).drewN n) (h.rd.drewN n) h.hp h.hl
def Bp.less{p l:Nat}(h:Bp w0 b g s p l w)(A:1<=l):Bp w0 b g s p (l - 1) (w.setCell (Z b 2 U) (V X ((l:Int) - 1))):=by
 refine h.sub ((b9 _ _).set 2 _) ?_ h.hp (by have:=h.hl;omega);have:=h.rd.left (l - 1);rwa [show((l - 1:Nat):Int)=(l:Int) - 1 by omega]at this
def Bp.next{p l:Nat}(h:Bp w0 b g s p l w)(A:p<s.size):Bp w0 b g s (p+1) l (w.setCell (Z b 1 U) (V X ((p:Int)+1))):=by
 refine h.sub ((b9 _ _).set 1 _) ?_ I h.hl;have:=h.rd.move (p+1);rwa [show((p+1:Nat):Int)=(p:Int)+1 by omega]at this
def Bp.r0{p l:Nat}(h:Bp w0 b g s p l w):(∃x,w.cell? (Z (g+1) 0 U)=O x)/\(∃x,w.cell? (Z (g+1) 1 U)=O x)/\(∃x,w.cell? (Z (g+1) 2 U)=O x)/\(∃x,w.cell? (Z (g+1) 3 U)=O x)/\
  w.frozen? (Z (g+1) 0 U)=M/\w.frozen? (Z (g+1) 1 U)=M/\w.frozen? (Z (g+1) 2 U)=M/\w.frozen? (Z (g+1) 3 U)=M:=by
 have⟨⟨l⟩,A,C⟩:=h.res
 match l,C with
 |[x,y,z,ar],_=>exact⟨⟨x,A.cell 0⟩,⟨y,A.cell 1⟩,⟨z,A.cell 2⟩,⟨ar,A.cell 3⟩,A.free 0,A.free 1,A.free 2,A.free 3⟩
def Bp.start{p l:Nat}(J:uf w b s p l)(hp:p<=s.size)(hl:l<=64):
  ∀W,(w.alloc (mM #[mG (O (Z b 0 U))] 206)).alloc (mM #[V X 0,V X 0,G U 0 0,V X 0] TT)=W->Bp w b w.heap.size s p l W:=by
 rintro W rfl;have C:=(iT w.heap.size w).alloc (iP _) (mM #[mG (O (Z b 0 U))] 206);have N:=mY.new w #[mG (O (Z b 0 U))] 206;have aa:=J.below C;have ae:(w.alloc (mM #[mG (O (Z b 0 U))] 206)).heap.size=w.heap.size+1:=ny;generalize w.alloc (mM #[mG (O (Z b 0 U))] 206)=w1 at*;have A:=(iT w1.heap.size w1).alloc (iP _) (mM #[V X 0,V X 0,G U 0 0,V X 0] TT);have E:=mY.new w1 #[V X 0,V X 0,G U 0 0,V X 0] TT;rw[ae]at E;refine⟨(oO.of C).trans (oO.of A),aa.below A,(a7 A N I).cell 0,⟨_,E,rfl⟩,hp,hl,nk,rfl,J.lt⟩
def Bp.far{p l:Nat}(h:Bp w0 b g s p l w)(hk:g+2<=k)(i:Nat)(v:iQ):Bp w0 b g s p l (w.setCell (Z k i U) v):=by
 have⟨cs,A,C⟩:=h.res;have J:=h.hb;have E:=h.h0;refine⟨h.upd.xm (a:=(Z k i U)) (show w0.heap.size<=k by omega) v,cx h.rd nk v,?_,⟨cs,A.setOther nk v,C⟩,h.hp,h.hl,by simpa [jr]using h.hg,E,h.hb⟩;rw[World.cell?_of_block (w:=w) (jh _ _ _ _ nk)];exact h.box
def Bp.alloc{p l:Nat}(h:Bp w0 b g s p l w)(cs:Array iQ)(t:jl):∀W,w.alloc (mM cs t)=W->Bp w0 b g s p l W/\mY W w.heap.size cs t/\iR w.heap.size w W:=by
 rintro W rfl;have A:=(iT w.heap.size w).alloc (iP _) (mM cs t);exact⟨h.sub (oO.of A) (h.rd.below A) h.hp h.hl,mY.new w _ _,A⟩
def Bp.fin{p l:Nat}(h:Bp w0 b g s p l w)(a:TL)(o:Option j4)(n c:Nat)(ok:Bool)(aa:ok=u->∃sub,aE=O (.node a sub,ng s p,l)/\TL.wf a/\nK.nA w (λk=>g+2<=k) (G o n c) sub)(ae:ok=M->aE=U){A B C D:iQ}(af:A=V X a.kind)(E:B=V X a.size)(ag:C=G o n c)(ah:D=V X a.tail):
  (p9 w (g+1) A B C D).cell? (Z (g+1) 0 U)=O A/\(p9 w (g+1) A B C D).cell? (Z (g+1) 1 U)=O B/\(p9 w (g+1) A B C D).cell? (Z (g+1) 2 U)=O C/\(p9 w (g+1) A B C D).cell? (Z (g+1) 3 U)=O D/\
   vv aE b s w0 (mK (mJ #[mI #[A,B,C,D],mH ok])) (p9 w (g+1) A B C D):=by
 subst af E ag ah;have⟨cs,J,N⟩:=h.res;have hB:=wZ (a:=V X a.kind) (b:=V X a.size) (c:=G o n c) (d:=V X a.tail) J N;have av:=h.h0;have au:=h.hb;refine⟨hB.cell 0,hB.cell 1,hB.cell 2,hB.cell 3,a,o,n,c,ok,p,l,rfl,Eb h.upd I,zC h.rd I,h.hp,h.hl,λe=> ?_,ae⟩;have⟨sub,ai,aj,ak⟩:=aa e;exact⟨sub,ai,aj,(wY ak (λk hk=>by omega)).keep (iP _) (λk _ hk=>by omega) λ_ _ _=>rfl⟩
def Vt(h:p:=by
 have e1:IntKind.i64.min= -9223372036854775808:=rfl;have e2:IntKind.i64.max=9223372036854775807:=rfl;simp[Lit.wf,e1,e2];omega):p:=h
def Jz{k:Int}(h0:0<=k)(A:k<=65536):(lN X k).wf=u:=by
 exact Vt
def Lj{k z t:Int}(h:(0<=k/\k<=65536)/\(0<=z/\z<=65536)/\(0<=t/\t<=65536)):TL.wf ⟨k,z,t⟩:=⟨Jz h.1.1 h.1.2,Jz h.2.1.1 h.2.1.2,Jz h.2.2.1 h.2.2.2⟩
def Ee(S:Shape TL)(w:K)(Q:Nat->Prop):S.nA w Q (G U 0 0) []:=⟨U,0,rfl,iP _,jB _,λh=>absurd h ny⟩
def Qh{a:TL}{o:Option j4}{c:Nat}{sub:List (mW TL)}(hB:mY w k #[V X a.kind,V X a.size,G o n c,V X a.tail] TT)(A:TL.wf a)(hs:nK.nA w Q (G o n c) sub)(C:Q k):nK.nA w Q (G (O (Z k 0 U)) 1 1) [.node a sub]:=by
 refine⟨O (Z k 0 U),1,rfl,iP _,by unfold jd;decide,λ_=>⟨k,0,rfl,hB.lt,C,?_⟩⟩;simp only[Shape.qR,Shape.ug,and_true];refine⟨A,G o n c,λj E=> ?_,hs⟩;have J:j<4:=E;rw[hB.cell];have:j=0\/j=1\/j=2\/j=3:=I;rcases this with rfl|rfl|rfl|rfl<;>rfl
def a3Z(D:Nat)(s:An)(p l:Nat)(hp:p<s.size)(hl:1<=l)(b:AC)(hb:s[p]=b):rd (D+1) (ng s p) l=
  if b=117 then(num 64 (ng s (p+1))).bind λq=>if q.1 % 8=0 then O (.node ⟨1,(q.1/8:Nat),0⟩ [],q.2,l - 1)else U
  else if b=98 then(num 65536 (ng s (p+1))).bind λq=>O (.node ⟨2,q.1,0⟩ [],q.2,l - 1)
  else if b=115 then(num 65536 (ng s (p+1))).bind λq=>O (.node ⟨3,q.1,0⟩ [],q.2,l - 1)
  else if b=91 then(rd D (ng s (p+1)) (l - 1)).bind λy=>match y.2.1 with
    |58::r2=>(num 1024 r2).bind λq=>match q.2 with
     |93::r4=>O (.node ⟨4,q.1,0⟩ [y.1],r4,y.2.2)
     |_=>U
    |_=>U
  else if b=123 then(if oF 125 (ng s (p+1))then O (.node ⟨5,0,0⟩ [],ng s (p+2),l - 1)else xJ (rd D) (l+1) (ng s (p+1)) (l - 1) [] 0)
  else U:=by
 rw[rz hp,hb];simp only[rd];rw[At I];split;.rfl
 split;.rfl
 split;.rfl
 split;.rfl
 split
 .cases A:oF 125 (ng s (p+1))with
  |true=>
   have⟨E,C⟩:=qI I A;rw[C];rfl
  |false=>
   split;.rename_i r e;exact(tT A e).elim
   .simp
 .rfl
def a6S(D:Nat)(s:An)(p l:Nat)(hp:p<=s.size)(h:l=0\/p=s.size):rd (D+1) (ng s p) l=U:=by
 simp only[rd];split;.rfl
 .rcases h with h|h
  .omega
  .rw[sJ I]
def Ng(h:p:=by
 refine iY (v:=mJ #[mI #[V X 0,V X 0,G U 0 0,V X 0],mH M]) (by simp[jv,Tryz.results171,go_sem,e0,e1,e2,e3]) rfl ?_;rw[<-HP.out];exact hpost):p:=h
def a4a(b:Nat)(s:An)(hs:s.size<=jd):∀(D dep p l:Nat)(w:K),dep+D=9->p<=s.size->l<=64->uf w b s p l->
  iW iN 171 #[mG (O (Z b 0 U)),V X (dep:Int)] w (vv (rd D (ng s p) l) b s w):=by
 intro D;induction D with
 |zero=>
  intro dep p l w hd hp hl hb;have gq:As (8<(dep:Int))=u:=nk;have dx:=Y (Bp.start hb hp hl);have dM:R (rd 0 (ng s p) l=U):=Y rfl;obtain⟨g,hg⟩:=o7 w;rw[hg]at dx;have dR:=Y hd;have⟨aE,dN⟩:=nE (rd 0 (ng s p) l);rw[dN]at dM|-;have⟨gu,dz⟩:=nE (vv aE b s w);have HP:=Y dz;rw[dz];clear hb hd dN dz;go_in;go_upto_region 1 with fail;generalize (w.alloc (mM #[mG (O (Z b 0 U))] 206)).alloc (mM #[V X 0,V X 0,G U 0 0,V X 0] TT)=w1 at*;have ao:=Y (dx _ rfl);have⟨⟨av,r0⟩,⟨ax,r1⟩,⟨ay,r2⟩,⟨az,r3⟩,aA,aB,aD,aF⟩:=ao.r0;go_quiet (fail);go_wp2_with fail;rw[nX];have⟨e0,e1,e2,e3,hpost⟩:=(ao.drewN nq).fin (A:=V X 0) (B:=V X 0) (C:=G U 0 0) (D:=V X 0) ⟨0,0,0⟩ U 0 0 M (λh=>by cases h) (λ_=>dM.out) rfl rfl rfl rfl;exact Ng
 |succ D gH=>
  intro dep p l w hd hp hl hb;have gq:As (8<(dep:Int))=M:=nk;have dx:=Y (Bp.start hb hp hl);obtain⟨g,hg⟩:=o7 w;rw[hg]at dx;have dR:=Y hd;have dA:dep<=8:=I;have eX:=Y gH;have bO:=Y hs;have⟨aE,dN⟩:=nE (rd (D+1) (ng s p) l);have dM:=Y dN;have dB:=Y (a6S D s p l hp);rw[dN];have⟨gu,dz⟩:=nE (vv aE b s w);have HP:=Y dz;rw[dz];have fC:s.size<=9223372036854775807:=by unfold jd at hs;omega
  clear hb hd dN dz gH hs;by_cases bP:l=0\/p=s.size
  .have dD:R (aE=U):=Y (by rw[<-dM.out];exact dB bP)
   have e1:((l:Int)==0)=As (l=0):=by rw[ei];simp
   have e2:((p:Int)==s.size)=As (p=s.size):=by rw[ei];simp;omega
   have eY:(((l:Int)==0)=u)\/(((l:Int)==0)=M/\((p:Int)==s.size)=u):=by
    rcases bP with h|h
    .exact .inl (by rw[e1];simp[h])
    .by_cases h0:l=0
     .exact .inl (by rw[e1];simp[h0])
     .exact .inr ⟨by rw[e1];simp[h0],by rw[e2];simp[h]⟩
   clear bP dB e1 e2;go_in;go_upto_region 1 with fail;generalize (w.alloc (mM #[mG (O (Z b 0 U))] 206)).alloc (mM #[V X 0,V X 0,G U 0 0,V X 0] TT)=w1 at*;have ao:=Y (dx _ rfl);have⟨⟨av,r0⟩,⟨ax,r1⟩,⟨ay,r2⟩,⟨az,r3⟩,aA,aB,aD,aF⟩:=ao.r0;have b0:=ao.box;have⟨c0,c1,c2⟩:=ao.rd.a3;rcases eY with gy|⟨gy,gI⟩
   all_goals
    go_quiet (fail);go_wp2_with fail;rw[nX];have⟨e0,e1,e2,e3,hpost⟩:=(ao.drewN nq).fin (A:=V X 0) (B:=V X 0) (C:=G U 0 0) (D:=V X 0) ⟨0,0,0⟩ U 0 0 M (λh=>by cases h) (λ_=>dD.out) rfl rfl rfl rfl;refine iY (v:=mJ #[mI #[V X 0,V X 0,G U 0 0,V X 0],mH M]) (by simp[jv,Tryz.results171,go_sem,e0,e1,e2,e3]) rfl ?_;rw[<-HP.out];exact hpost
  .have dI:1<=l:=I
   have fD:p<s.size:=I;have gy:((l:Int)==0)=M:=nk;have gI:((p:Int)==s.size)=M:=nk;have dJ:=Y (a3Z D s p l fD dI s[p] rfl);clear bP dB;go_in;go_upto_region 1 with fail;generalize (w.alloc (mM #[mG (O (Z b 0 U))] 206)).alloc (mM #[V X 0,V X 0,G U 0 0,V X 0] TT)=w1 at*;have ao:=Y (dx _ rfl);have b0:=ao.box;have⟨c0,c1,c2⟩:=ao.rd.a3;have f2:=ec ao.rd 2;clear dx;go_quiet (fail);go_upto_region 4 with fail;refine rY (λW=>Bp w b g s p (l - 1) W) ((ao.drewN _).less dI) ?_;intro w2 fE;have dS:=Y fE;clear ao b0 c0 c1 c2 f2 fE;have b0:=dS.box;have⟨c0,c1⟩:=dS.rd.a2;have f1:=ec dS.rd 1;go_quiet (fail);go_upto_region 7 with fail;refine rY (λW=>Bp w b g s (p+1) (l - 1) W) ((dS.drewN _).next fD) ?_;intro w3 fF;have ag:=Y fF;have⟨q,aM⟩:=nE (p+1);have⟨m,eZ⟩:=nE (l - 1);have gz:=Y aM;have gB:=Y eZ;have dU:m<=63:=I;have aY:q<=s.size:=I;rw[aM,eZ]at ag;have J:=Y (dM.symm.trans dJ);rw[aM,eZ]at J;clear dS b0 c0 c1 f1 fF aM eZ dJ dM gy gI;have b0:=ag.box;have⟨⟨av,r0⟩,⟨ax,r1⟩,⟨ay,r2⟩,⟨az,r3⟩,aA,aB,aD,aF⟩:=ag.r0;have hk:R (∀c:AC,s[p]≠c->((s[p].toNat:Int)==(c.toNat:Int))=M):=Y λc h=>by
    rw[bj];intro iL;exact h (kH.1 I)
   by_cases aR:s[p]=117
   .have dO:((s[p].toNat:Int)==117)=u:=by rw[aR];rfl
    have ae:=Y J.out;rw[Ax aR]at ae;have aZ:R (iW iN 213 #[V X 1,V X 64,mG (O (Z g 0 U))] w3 (yY 1 b s q m 64 w3)):=Y (Ec 1 b g s q m 64 w3 bO aY mX ag.rd ag.box);clear aR J hk;go_wp2_with fail;refine(aZ).mono ?_;rintro e w4 ⟨n,ok,ah,rfl,ai,aj,ak,fG,hok,af⟩;have aJ:=Y (ag.sub ai aj ak I);have N:=Y (iU hok af);have bF:=Y (aJ.alloc #[V X 1,V X (n:Int),G U 0 0,V X 0] TT);clear ai aj hok af aZ ag b0 av r0 ax r1 ay r2 az r3 aA aB aD aF;go_upto_region 10 with fail;generalize w4.alloc (mM #[V X 1,V X (n:Int),G U 0 0,V X 0] TT)=w5 at*;have⟨bG,aI,_⟩:=bF.out _ rfl;have aG:=Y bG;have bH:=Y aI;have⟨⟨av,r0⟩,⟨ax,r1⟩,⟨ay,r2⟩,⟨az,r3⟩,aA,aB,aD,aF⟩:=aG.r0;have dE:=aI.c0;have bQ:=aI.c1;have dF:=aI.c2;have dG:=aI.c3;have gJ:=aI.free 1;have bg:g+2<=w4.heap.size:=aJ.hg;clear bG aI bF;cases ok with
    |true=>
     go_upto_region 12 with fail;refine rY (λW=>Bp w b g s ah m W/\mY W w4.heap.size #[V X 1,V X ((n/8:Nat):Int),G U 0 0,V X 0] TT) ⟨aG.far bg _ _,by simpa using bH.set 1 (V X ((n/8:Nat):Int))⟩ ?_;rintro bR ⟨bX,bY⟩;have aP:=Y bX;clear dE bQ dF dG gJ av r0 ax r1 ay r2 az r3 aA aB aD aF;have⟨⟨av,r0⟩,⟨ax,r1⟩,⟨ay,r2⟩,⟨az,r3⟩,aA,aB,aD,aF⟩:=aP.r0;have⟨dE,bQ,dF,dG⟩:=bY.a4;have⟨nd,bq⟩:=nE (n/8);rw[bq]at bQ;have fH:=Y bq;have gD:nd<=64:=I;clear bX bY bq;go_wp2_with fail;have aN:((n:Int) % 8==0)=u->∃sub,aE=O (.node ⟨1,(nd:Int),0⟩ sub,ng s ah,m)/\TL.wf ⟨1,(nd:Int),0⟩/\nK.nA bR (λk=>g+2<=k) (G U 0 0) sub:=λh=>by
      have aK:=N.1 (by trivial);refine⟨[],?_,Lj I,Ee _ _ _⟩;rw[ae.out,aK,jG,Ax (by simp at h;omega),fH.out]
     have E:((n:Int) % 8==0)=M->aE=U:=λh=>by
      have aK:=N.1 (by trivial);rw[ae.out,aK,jG,At (by simp at h;omega)]
     rw[nX];have⟨e0,e1,e2,e3,hpost⟩:=aP.fin (A:=V X 1) (B:=V X (nd:Int)) (C:=G U 0 0) (D:=V X 0) ⟨1,(nd:Int),0⟩ U 0 0 ((n:Int) % 8==0) aN E rfl rfl rfl rfl;refine iY (v:=mJ #[mI #[V X 1,V X (nd:Int),G U 0 0,V X 0],mH ((n:Int) % 8==0)]) (by simp[jv,Tryz.results171,go_sem,e0,e1,e2,e3]) rfl ?_;rw[<-HP.out];exact hpost
    |false=>
     go_upto_region 12 with fail;refine rY (λW=>Bp w b g s ah m W/\mY W w4.heap.size #[V X 1,V X ((n/8:Nat):Int),G U 0 0,V X 0] TT) ⟨aG.far bg _ _,by simpa using bH.set 1 (V X ((n/8:Nat):Int))⟩ ?_;rintro bR ⟨bX,bY⟩;have aP:=Y bX;clear dE bQ dF dG gJ av r0 ax r1 ay r2 az r3 aA aB aD aF;have⟨⟨av,r0⟩,⟨ax,r1⟩,⟨ay,r2⟩,⟨az,r3⟩,aA,aB,aD,aF⟩:=aP.r0;have⟨dE,bQ,dF,dG⟩:=bY.a4;have⟨nd,bq⟩:=nE (n/8);rw[bq]at bQ;have fH:=Y bq;have gD:nd<=64:=I;clear bX bY bq;go_wp2_with fail;have E:aE=U:=by rw[ae.out,N.2 (by trivial)];rfl
     rw[nX];have⟨e0,e1,e2,e3,hpost⟩:=aP.fin (A:=V X 1) (B:=V X (nd:Int)) (C:=G U 0 0) (D:=V X 0) ⟨1,(nd:Int),0⟩ U 0 0 M (λh=>by cases h) (λ_=>E) rfl rfl rfl rfl;refine iY (v:=mJ #[mI #[V X 1,V X (nd:Int),G U 0 0,V X 0],mH M]) (by simp[jv,Tryz.results171,go_sem,e0,e1,e2,e3]) rfl ?_;rw[<-HP.out];exact hpost
   have dV:((s[p].toNat:Int)==117)=M:=hk.out 117 aR;have bS:=Y J.out;rw[At aR]at bS;clear aR J;have J:=bS;clear bS;by_cases bI:s[p]=98
   .have dO:((s[p].toNat:Int)==98)=u:=by rw[bI];rfl
    have ae:=Y J.out;rw[Ax bI]at ae;have aZ:R (iW iN 213 #[V X 2,V X 65536,mG (O (Z g 0 U))] w3 (yY 2 b s q m 65536 w3)):=Y (Ec 2 b g s q m 65536 w3 bO aY mX ag.rd ag.box);clear bI J hk;go_wp2_with fail;refine(aZ).mono ?_;rintro e w4 ⟨n,ok,ah,rfl,ai,aj,ak,fG,hok,af⟩;have aJ:=Y (ag.sub ai aj ak I);have N:=Y (iU hok af);clear ai aj hok af aZ ag b0 av r0 ax r1 ay r2 az r3 aA aB aD aF;have⟨⟨av,r0⟩,⟨ax,r1⟩,⟨ay,r2⟩,⟨az,r3⟩,aA,aB,aD,aF⟩:=aJ.r0;go_wp2_with fail;have aN:ok=u->∃sub,aE=O (.node ⟨2,(n:Int),0⟩ sub,ng s ah,m)/\TL.wf ⟨2,(n:Int),0⟩/\nK.nA w4 (λk=>g+2<=k) (G U 0 0) sub:=λh=>by
     refine⟨[],?_,Lj I,Ee _ _ _⟩;rw[ae.out,N.1 h];rfl
    have E:ok=M->aE=U:=λh=>by rw[ae.out,N.2 h];rfl
    rw[nX];have⟨e0,e1,e2,e3,hpost⟩:=aJ.fin (A:=V X 2) (B:=V X (n:Int)) (C:=G U 0 0) (D:=V X 0) ⟨2,(n:Int),0⟩ U 0 0 ok aN E rfl rfl rfl rfl;refine iY (v:=mJ #[mI #[V X 2,V X (n:Int),G U 0 0,V X 0],mH ok]) (by simp[jv,Tryz.results171,go_sem,e0,e1,e2,e3]) rfl ?_;rw[<-HP.out];exact hpost
   have fI:((s[p].toNat:Int)==98)=M:=hk.out 98 bI;have bu:=Y J.out;rw[At bI]at bu;clear bI J;have J:=bu;clear bu;by_cases aS:s[p]=115
   .have dO:((s[p].toNat:Int)==115)=u:=by rw[aS];rfl
    have ae:=Y J.out;rw[Ax aS]at ae;have aZ:R (iW iN 213 #[V X 3,V X 65536,mG (O (Z g 0 U))] w3 (yY 3 b s q m 65536 w3)):=Y (Ec 3 b g s q m 65536 w3 bO aY mX ag.rd ag.box);clear aS J hk;go_wp2_with fail;refine(aZ).mono ?_;rintro e w4 ⟨n,ok,ah,rfl,ai,aj,ak,fG,hok,af⟩;have aJ:=Y (ag.sub ai aj ak I);have N:=Y (iU hok af);clear ai aj hok af aZ ag b0 av r0 ax r1 ay r2 az r3 aA aB aD aF;have⟨⟨av,r0⟩,⟨ax,r1⟩,⟨ay,r2⟩,⟨az,r3⟩,aA,aB,aD,aF⟩:=aJ.r0;go_wp2_with fail;have aN:ok=u->∃sub,aE=O (.node ⟨3,(n:Int),0⟩ sub,ng s ah,m)/\TL.wf ⟨3,(n:Int),0⟩/\nK.nA w4 (λk=>g+2<=k) (G U 0 0) sub:=λh=>by
     refine⟨[],?_,Lj I,Ee _ _ _⟩;rw[ae.out,N.1 h];rfl
    have E:ok=M->aE=U:=λh=>by rw[ae.out,N.2 h];rfl
    rw[nX];have⟨e0,e1,e2,e3,hpost⟩:=aJ.fin (A:=V X 3) (B:=V X (n:Int)) (C:=G U 0 0) (D:=V X 0) ⟨3,(n:Int),0⟩ U 0 0 ok aN E rfl rfl rfl rfl;refine iY (v:=mJ #[mI #[V X 3,V X (n:Int),G U 0 0,V X 0],mH ok]) (by simp[jv,Tryz.results171,go_sem,e0,e1,e2,e3]) rfl ?_;rw[<-HP.out];exact hpost
   have dW:((s[p].toNat:Int)==115)=M:=hk.out 115 aS;have bT:=Y J.out;rw[At aS]at bT;clear aS J;have J:=bT;clear bT;by_cases bJ:s[p]=91
   .have dO:((s[p].toNat:Int)==91)=u:=by rw[bJ];rfl
    have ae:=Y J.out;rw[Ax bJ]at ae;have gK:R (iW iN 171 #[mG (O (Z b 0 U)),V X ((dep:Int)+1)] w3 (vv (rd D (ng s q) m) b s w3)):=Y (eX (dep+1) q m w3 (by have:=dR.out;omega) aY I ag.rd);clear bJ J hk;have bZ:=Y ag.hg;go_wp2_with fail;refine(gK).mono ?_;rintro e w4 ⟨a,o,n,c,ok,ah,aH,rfl,ai,aj,ak,aQ,hok,af⟩;have aJ:=Y (ag.sub ai aj ak aQ);have N:=Y (iU hok af);have bF:=Y (aJ.alloc #[V X a.kind,V X a.size,G o n c,V X a.tail] TT);clear ai aj hok af gK ag b0 av r0 ax r1 ay r2 az r3 aA aB aD aF;go_upto_region 19 with fail;generalize w4.alloc (mM #[V X a.kind,V X a.size,G o n c,V X a.tail] TT)=w5 at*;have⟨bG,aI,bU⟩:=bF.out _ rfl;have aG:=Y bG;have bH:=Y aI;have b0:=aG.box;have bg:g+2<=w4.heap.size:=aJ.hg;cases ok with
    |false=>
     clear bG aI bF bU;have⟨⟨av,r0⟩,⟨ax,r1⟩,⟨ay,r2⟩,⟨az,r3⟩,aA,aB,aD,aF⟩:=aG.r0;have E:aE=U:=by rw[ae.out,N.2 (by trivial)];rfl
     have dD:=Y E;clear E;go_wp2_with fail;rw[nX];have⟨e0,e1,e2,e3,hpost⟩:=aG.fin (A:=V X 0) (B:=V X 0) (C:=G U 0 0) (D:=V X 0) ⟨0,0,0⟩ U 0 0 M (λh=>by cases h) (λ_=>dD.out) rfl rfl rfl rfl;exact Ng
    |true=>
     have dX:R (∃sub,rd D (ng s q) m=O (.node a sub,ng s ah,aH)/\TL.wf a/\nK.nA w5 (λk=>g+2<=k/\k<w4.heap.size) (G o n c) sub):=Y (by
      have⟨sub,aK,cz,bV⟩:=N.1 (by trivial);exact⟨sub,aK,cz,bV.keep bU.size (λk hk aM=>⟨jk bZ aM,hk⟩) λk hk aM=>bU.block k hk⟩)
     clear bG aI bF bU N;have⟨sub,aV,dY,dK⟩:=dX.out;have aV:=Y aV;have dZ:=Y dY;have ed:=Y dK;clear dX dY dK
     have dP:R (iW iN 215 #[mG (O (Z b 0 U)),V .u8 58] w5 λe w'=>e=mK (mH (oF 58 (ng s ah)))/\oO b w5 w'/\uf w' b s (if oF 58 (ng s ah)then ah+1 else ah) aH):=
      Y (uQ b s ah aH 58 w5 bO ak aG.rd)
     have bK:=Y (λh=>qI (c:=58) (s:=s) (p:=ah) ak h);cases bL:oF 58 (ng s ah)with
     |false=>
      rw[bL]at dP;have aW:=Y bL;clear bL;have E:aE=U:=by
       rw[ae.out,aV.out];simp only[jG];split;.rename_i r2 e2;exact(tT aW e2).elim
       .rfl
      have dD:=Y E;clear E;go_wp2_with fail;refine vF (dP) λbR aX cK=> ?_
      have aP:=Y (aG.sub aX (show uf bR b s ah aH from by simpa using cK) ak aQ);clear aX cK dP b0;have⟨⟨av,r0⟩,⟨ax,r1⟩,⟨ay,r2⟩,⟨az,r3⟩,aA,aB,aD,aF⟩:=aP.r0;go_wp2_with fail;rw[nX];have⟨e0,e1,e2,e3,hpost⟩:=aP.fin (A:=V X 0) (B:=V X 0) (C:=G U 0 0) (D:=V X 0) ⟨0,0,0⟩ U 0 0 M (λh=>by cases h) (λ_=>dD.out) rfl rfl rfl rfl;exact Ng
     |true=>
      rw[bL]at dP;have aW:=Y (bK bL);clear bL bK;go_wp2_with fail;refine vF (dP) λbR aX cK=> ?_
      have dL:ah+1<=s.size:=by have:=aW.1;omega
      have aP:=Y (aG.sub aX (show uf bR b s (ah+1) aH from by simpa using cK) dL aQ);have ek:=Y (aX.blk bH (by have:=aG.hb;omega));have eu:=Y (Shape.nA.keep ed aX.size (λ_ _ h=>h) λk hk aM=>aX.block k hk (by simpa using by have:=aG.hb;omega));have aZ:R (iW iN 213 #[V X 4,V X 1024,mG (O (Z g 0 U))] bR (yY 4 b s (ah+1) aH 1024 bR)):=Y (Ec 4 b g s (ah+1) aH 1024 bR bO dL mX aP.rd aP.box);clear aX cK dP b0;go_wp2_with fail;refine(aZ).mono ?_;rintro e aL ⟨au,gL,bz,rfl,cZ,fJ,df,fK,hok,af⟩;have fq:=Y (aP.sub cZ fJ df aQ);have N:=Y (iU hok af);have dh:=Y (cZ.blk ek (by have:=aG.hb;omega));have eB:=Y (Shape.nA.keep eu cZ.size (λ_ _ h=>h) λk hk aM=>cZ.block k hk (by simpa using by have:=aG.hb;omega));have fM:=Y (fq.alloc #[V X 4,V X (au:Int),G U 0 0,V X 0] TT);clear cZ fJ hok af aZ;go_upto_region 22 with fail;generalize aL.alloc (mM #[V X 4,V X (au:Int),G U 0 0,V X 0] TT)=aa at*;have⟨fO,dw,bW⟩:=fM.out _ rfl;have fP:=Y (a7 bW dh dh.lt);have fQ:=Y (Shape.nA.keep eB bW.size (λ_ _ h=>h) λk hk _=>bW.block k hk);have fT:=Y dw;have gM:=Y fO;have eD:aL.heap.size<aa.heap.size:=dw.lt;have eF:w4.heap.size<aL.heap.size:=dh.lt;have⟨dE,bQ,dF,dG⟩:=fP.a4;have iD:=dw.c2;have iE:=dw.free 2;have eG:g+2<=aL.heap.size:=fq.hg
      have fU:R (∀W,(aa.setCell (Z aL.heap.size 2 U) (G (O (Z aa.heap.size 0 U)) 1 1)).alloc (mM #[V X a.kind,V X a.size,G o n c,V X a.tail] TT)=W->
        (Bp w b g s bz aH W/\mY W aL.heap.size #[V X 4,V X (au:Int),G (O (Z aa.heap.size 0 U)) 1 1,V X 0] TT/\nK.nA W (λk=>g+2<=k) (G (O (Z aa.heap.size 0 U)) 1 1) [.node a sub])):=Y λW h=>by
       have iF:=gM.far eG 2 (G (O (Z aa.heap.size 0 U)) 1 1);have gN:mY (aa.setCell (Z aL.heap.size 2 U) (G (O (Z aa.heap.size 0 U)) 1 1)) aL.heap.size #[V X 4,V X (au:Int),G (O (Z aa.heap.size 0 U)) 1 1,V X 0] TT:=by simpa using fT.set 2 (G (O (Z aa.heap.size 0 U)) 1 1)
       have iG:=Shape.nA.keep (w':=aa.setCell (Z aL.heap.size 2 U) (G (O (Z aa.heap.size 0 U)) 1 1)) fQ (by simp[jr]) (λ_ _ h=>h) λk hk aM=>jh _ _ _ _ nk
       have sz:(aa.setCell (Z aL.heap.size 2 U) (G (O (Z aa.heap.size 0 U)) 1 1)).heap.size=aa.heap.size:=by simp[jr]
       have⟨aK,cz,bV⟩:=iF.alloc _ _ W h;rw[sz]at cz;have iH:=iG.keep (Q':=λk=>g+2<=k) bV.size (λk _ aM=>aM.1) λk hk _=>bV.block k hk
       exact⟨aK,a7 bV gN gN.lt,Qh cz dZ iH I⟩
      clear fO dw bW fM;go_upto_region 23 with fail;refine rY (λW=>Bp w b g s bz aH W/\mY W aL.heap.size #[V X 4,V X (au:Int),G (O (Z aa.heap.size 0 U)) 1 1,V X 0] TT/\nK.nA W (λk=>g+2<=k) (G (O (Z aa.heap.size 0 U)) 1 1) [.node a sub]) (fU _ rfl) ?_;rintro bA ⟨fV,fZ,gm⟩;have fu:=Y fV;have gp:=Y fZ;have gP:=Y gm;clear dE bQ dF dG iD iE fU fV fZ gm gM fP fQ fT;have b0:=fu.box;have⟨⟨av,r0⟩,⟨ax,r1⟩,⟨ay,r2⟩,⟨az,r3⟩,aA,aB,aD,aF⟩:=fu.r0;have⟨dE,bQ,dF,dG⟩:=gp.a4;cases gL with
      |false=>
       have E:aE=U:=by
        rw[ae.out,aV.out];simp only[jG,aW.2,N.2 rfl];rfl
       have dD:=Y E;clear E;go_big_region;go_wp2_with fail;rw[nX,show∀A B C D,(p9 bA (g+1) A B C D).drew=p9 (bA.drewN 1) (g+1) A B C D from λ_ _ _ _=>rfl];have⟨e0,e1,e2,e3,hpost⟩:=(fu.drewN 1).fin (A:=V X 4) (B:=V X (au:Int)) (C:=G (O (Z aa.heap.size 0 U)) 1 1) (D:=V X 0) ⟨4,(au:Int),0⟩ (O (Z aa.heap.size 0 U)) 1 1 M (λh=>by cases h) (λ_=>dD.out) rfl rfl rfl rfl;refine iY (v:=mJ #[mI #[V X 4,V X (au:Int),G (O (Z aa.heap.size 0 U)) 1 1,V X 0],mH M]) (by simp[jv,Tryz.results171,go_sem,e0,e1,e2,e3]) rfl ?_;rw[<-HP.out];exact hpost
      |true=>
       have fw:R (Bp w b g s bz aH bA.drew):=Y (by have:=fu.drewN 1;exact this);have eH:R (mY bA.drew aL.heap.size #[V X 4,V X (au:Int),G (O (Z aa.heap.size 0 U)) 1 1,V X 0] TT):=Y gp.out;have dQ:=Y (uQ b s bz aH 93 bA.drew bO df fw.rd);have bK:=Y (λh=>qI (c:=93) (s:=s) (p:=bz) df h)
       have gQ:R (∀W fA,oO b bA.drew W->uf W b s fA aH->fA<=s.size->(W.cell? (Z aL.heap.size 0 U)=O (V X 4)/\W.cell? (Z aL.heap.size 1 U)=O (V X (au:Int))/\W.cell? (Z aL.heap.size 2 U)=O (G (O (Z aa.heap.size 0 U)) 1 1)/\W.cell? (Z aL.heap.size 3 U)=O (V X 0))/\
         Bp w b g s fA aH W/\nK.nA W (λk=>g+2<=k) (G (O (Z aa.heap.size 0 U)) 1 1) [.node a sub]):=Y λW fA fB iI gT=>by
        have aK:=fB.blk eH (by have:=aG.hb;omega);exact⟨⟨aK.cell 0,aK.cell 1,aK.cell 2,aK.cell 3⟩,fw.sub fB iI gT aQ,Shape.nA.keep (gP.keep (w':=bA.drew) (iP _) (λ_ _ h=>h) λ_ _ _=>rfl) fB.size (λ_ _ h=>h) λk hk aM=>fB.block k hk (by have:=aG.hb;simp;omega)⟩
       cases bM:oF 93 (ng s bz)with
       |true=>
        rw[bM]at dQ;have bN:=Y (bK bM);have eO:R (iW iN 215 #[mG (O (Z b 0 U)),V .u8 93] bA.drew λe w'=>e=mK (mH u)/\oO b bA.drew w'/\uf w' b s (bz+1) aH):=Y (dQ.mono λe w' h=>⟨h.1,h.2.1,by simpa using h.2.2⟩);clear bM dQ;have eP:bz+1<=s.size:=by have:=bN.1;omega
        have dH:R (aE=O (.node ⟨4,(au:Int),0⟩ [.node a sub],ng s (bz+1),aH)):=Y (by
         rw[ae.out,aV.out];simp only[jG,aW.2,N.1 rfl,bN.2])
        have gF:au<=65536:=I;clear eX bO ae aV dZ ed eu eB bH ek dh aJ aG aP fq gz gB aW bN N bK fw eH dA fC dI dU aY ak aQ dL df fK bg eF eD eG bZ hp hl dR gq dO dV fI dW;go_region_with (refine(eO).mono ?_;rintro e eQ ⟨rfl,bB,bC⟩;obtain⟨⟨gU,gV,gW,gX⟩,aO,bD⟩:=gQ.out eQ _ bB bC eP;have eT:=Y aO;have eU:=Y bD;obtain⟨⟨gY,gZ⟩,⟨ic,ig⟩,⟨ik,il⟩,⟨iq,iw⟩,iy,iA,iB,iC⟩:=aO.r0;clear bB bC aO bD)
        all_goals
         go_wp2_with fail;rw[nX];have⟨e0,e1,e2,e3,hpost⟩:=eT.fin (A:=V X 4) (B:=V X (au:Int)) (C:=G (O (Z aa.heap.size 0 U)) 1 1) (D:=V X 0) ⟨4,(au:Int),0⟩ (O (Z aa.heap.size 0 U)) 1 1 u (λ_=>⟨_,dH.out,Lj I,eU.out⟩) (λh=>by cases h) rfl rfl rfl rfl;refine iY (v:=mJ #[mI #[V X 4,V X (au:Int),G (O (Z aa.heap.size 0 U)) 1 1,V X 0],mH u]) (by simp[jv,Tryz.results171,go_sem,l7,e0,e1,e2,e3]) rfl ?_;rw[<-HP.out];exact hpost
       |false=>
        rw[bM]at dQ;have bN:=Y bM;have eO:R (iW iN 215 #[mG (O (Z b 0 U)),V .u8 93] bA.drew λe w'=>e=mK (mH M)/\oO b bA.drew w'/\uf w' b s (bz) aH):=Y (dQ.mono λe w' h=>⟨h.1,h.2.1,by simpa using h.2.2⟩);clear bM dQ;have eP:bz<=s.size:=I;have dH:R (aE=U):=Y (by
         rw[ae.out,aV.out];simp only[jG,aW.2,N.1 rfl];split;.rename_i r4 e4;exact(tT bN e4).elim
         .rfl)
        have gF:au<=65536:=I;clear eX bO ae aV dZ ed eu eB bH ek dh aJ aG aP fq gz gB aW bN N bK fw eH dA fC dI dU aY ak aQ dL df fK bg eF eD eG bZ hp hl dR gq dO dV fI dW;go_region_with (refine(eO).mono ?_;rintro e eQ ⟨rfl,bB,bC⟩;obtain⟨⟨gU,gV,gW,gX⟩,aO,bD⟩:=gQ.out eQ _ bB bC eP;have eT:=Y aO;have eU:=Y bD;obtain⟨⟨gY,gZ⟩,⟨ic,ig⟩,⟨ik,il⟩,⟨iq,iw⟩,iy,iA,iB,iC⟩:=aO.r0;clear bB bC aO bD)
        all_goals
         go_wp2_with fail;rw[nX];have⟨e0,e1,e2,e3,hpost⟩:=eT.fin (A:=V X 4) (B:=V X (au:Int)) (C:=G (O (Z aa.heap.size 0 U)) 1 1) (D:=V X 0) ⟨4,(au:Int),0⟩ (O (Z aa.heap.size 0 U)) 1 1 M (λh=>by cases h) (λ_=>dH.out) rfl rfl rfl rfl;refine iY (v:=mJ #[mI #[V X 4,V X (au:Int),G (O (Z aa.heap.size 0 U)) 1 1,V X 0],mH M]) (by simp[jv,Tryz.results171,go_sem,l7,e0,e1,e2,e3]) rfl ?_;rw[<-HP.out];exact hpost
   have iK:((s[p].toNat:Int)==91)=M:=hk.out 91 bJ;have bE:=Y J.out;rw[At bJ]at bE;clear bJ J;have J:=bE;clear bE;by_cases aU:s[p]=123
   .have dO:((s[p].toNat:Int)==123)=u:=by rw[aU];rfl
    have ae:=Y J.out;rw[Ax aU,show p+2=q+1 by have:=gz.out;omega,show l+1=m+2 by have:=gB.out;omega]at ae;have gG:=Y (XC D dep b s bO dA (λp l w aK cz bV=>eX.out (dep+1) p l w (by have:=dR.out;omega) aK cz bV) q m w3 aY dU ag.rd);rw[<-ae.out]at gG;have bZ:=Y ag.hg;clear aU J hk;go_wp2_with fail;refine(gG).mono ?_;rintro e w4 ⟨a,o,n,c,ok,ah,aH,rfl,ai,aj,ak,aQ,hok,af⟩;have aJ:=Y (ag.sub ai aj ak aQ);have N:=Y (iU hok af);clear ai aj hok af gG ag b0 av r0 ax r1 ay r2 az r3 aA aB aD aF;have⟨⟨av,r0⟩,⟨ax,r1⟩,⟨ay,r2⟩,⟨az,r3⟩,aA,aB,aD,aF⟩:=aJ.r0;go_wp2_with fail;have aN:ok=u->∃sub,aE=O (.node a sub,ng s ah,aH)/\TL.wf a/\nK.nA w4 (λk=>g+2<=k) (G o n c) sub:=λh=>by
     have⟨sub,aK,cz,bV⟩:=N.1 h;exact⟨sub,aK,cz,bV.keep (iP _) (λk _ aM=>jk bZ aM) λ_ _ _=>rfl⟩
    rw[nX];have⟨e0,e1,e2,e3,hpost⟩:=aJ.fin (A:=V X a.kind) (B:=V X a.size) (C:=G o n c) (D:=V X a.tail) a o n c ok aN N.2 rfl rfl rfl rfl;refine iY (v:=mJ #[mI #[V X a.kind,V X a.size,G o n c,V X a.tail],mH ok]) (by simp[jv,Tryz.results171,go_sem,e0,e1,e2,e3]) rfl ?_;rw[<-HP.out];exact hpost
   .have iJ:((s[p].toNat:Int)==123)=M:=hk.out 123 aU
    have ae:=Y J.out;rw[At aU]at ae;clear aU J hk;go_wp2_with fail;rw[nX];have⟨e0,e1,e2,e3,hpost⟩:=ag.fin (A:=V X 0) (B:=V X 0) (C:=G U 0 0) (D:=V X 0) ⟨0,0,0⟩ U 0 0 M (λh=>by cases h) (λ_=>ae.out) rfl rfl rfl rfl;exact Ng
def JA(l:List AC)(w:K)(e:kV)(w':K):Prop:=
 ∃(a:TL) (o:Option j4) (n c:Nat) (er:Int) (sub:List (mW TL)),e=mK (mJ #[mI #[V X a.kind,V X a.size,G o n c,V X a.tail],V X er])/\iR w.heap.size w w'/\TL.wf a/\nK.nA w' (λk=>w.heap.size<=k) (G o n c) sub/\
  (wP l=O (.node a sub)/\er=0\/wP l=U/\er=3/\a=⟨0,0,0⟩/\sub=[])
def Sz(s:An):ng s 0=s.data.toList:=rfl
def SA(h:rd 8 l 64=U):wP l=U:=by unfold wP;rw[h]
def SB(h:rd 8 l 64=O (x,r,n))(A:r≠[]):wP l=U:=by
 unfold wP;rw[h];cases r with
 |nil=>exact absurd rfl A
 |cons _ _=>rfl
def XD(h:rd 8 l 64=O (x,[],n)):wP l=if pg x then O x else U:=by unfold wP;rw[h]
def SC(h:p:=by
 refine iY (v:=mJ #[mI #[V X 0,V X 0,G U 0 0,V X 0],V X 3]) (by simp[jv,Tryz.results121,go_sem,e0,e1,e2,e3]) rfl ?_;exact hpost):p:=h
def XE(s:An)(w:K)(hs:s.size<=jd)(aN:qB w):
  iW iN 121 #[H s] w (JA s.data.toList w):=by
 have aO:=aN.lt;obtain⟨g,hg⟩:=o7 w
 have bM:R (∀W,(w.alloc (mM #[V X 0,V X 0,G U 0 0,V X 0] TT)).alloc (mM #[H s,V X 0,V X 64] 208)=W->iR g w W/\uf W (g+1) s 0 64/\
   mY W g #[V X 0,V X 0,G U 0 0,V X 0] TT/\W.heap.size=g+2):=Y λW h=>by
  subst h;have aG:=(iT w.heap.size w).alloc (iP _) (mM #[V X 0,V X 0,G U 0 0,V X 0] TT);have aH:=mY.new w #[V X 0,V X 0,G U 0 0,V X 0] TT;have aj:(w.alloc (mM #[V X 0,V X 0,G U 0 0,V X 0] TT)).heap.size=g+1:=nk;rw[hg]at aG aH;generalize w.alloc (mM #[V X 0,V X 0,G U 0 0,V X 0] TT)=w1 at*;have ak:=(iT w1.heap.size w1).alloc (iP _) (mM #[H s,V X 0,V X 64] 208);have aI:=mY.new w1 #[H s,V X 0,V X 64] 208;rw[aj]at aI;exact⟨aG.trans (ak.mono I),aI,a7 ak aH I,nk⟩
 have bN:=Y aN;have aP:1<g:=hg▸aO;have⟨aJ,aQ⟩:=nE (JA s.data.toList w);have aR:=Y aQ;rw[aQ];go_in;go_upto_region 2 with fail;generalize (w.alloc (mM #[V X 0,V X 0,G U 0 0,V X 0] TT)).alloc (mM #[H s,V X 0,V X 64] 208)=w1 at*;have⟨aK,aS,au,aj⟩:=bM.out _ rfl;have bO:=Y (a4a (g+1) s hs 8 1 0 64 w1 rfl (jB _) (iP _) aS);have av:=Y (iU aK (iU au aj));go_wp2_with fail;refine(bO).mono ?_;rintro e w2 ⟨a,o,n,c,ok,ag,l2,rfl,ax,aU,aV,bW,hok,aW⟩;have bP:g+2<=w2.heap.size:=by have:=ax.size;have:=av.2.2;omega
 have ay:R (iR g w w2/\uf w2 (g+1) s ag l2/\mY w2 g #[V X 0,V X 0,G U 0 0,V X 0] TT):=Y ⟨ax.below av.1 I (by have:=av.2.2;omega),aU,ax.blk av.2.1 I⟩;have az:=Y (iU hok aW);have aX:R (∀W,w2.alloc (mM #[V X a.kind,V X a.size,G o n c,V X a.tail] TT)=W->iR w2.heap.size w2 W/\mY W w2.heap.size #[V X a.kind,V X a.size,G o n c,V X a.tail] TT/\W.heap.size=w2.heap.size+1):=Y λW h=>by
  subst h;exact⟨(iT w2.heap.size w2).alloc (iP _) _,mY.new w2 _ _,ny⟩
 have aY:=Y av.2.2;go_upto_region 3 with fail;generalize w2.alloc (mM #[V X a.kind,V X a.size,G o n c,V X a.tail] TT)=w3 at*;have⟨N,aZ,bX⟩:=aX.out _ rfl
 have C:R (iR g w w3/\uf w3 (g+1) s ag l2/\mY w3 g #[V X 0,V X 0,G U 0 0,V X 0] TT/\mY w3 w2.heap.size #[V X a.kind,V X a.size,G o n c,V X a.tail] TT/\iR w2.heap.size w2 w3):=
  Y ⟨ay.1.trans (N.mono I),uf.below ay.2.1 N,a7 N ay.2.2 I,aZ,N⟩
 have aa:w2.heap.size<w3.heap.size:=I;have⟨bQ,bR,bS,bT⟩:=C.2.2.2.1.a4;have⟨r0,r1,r2,r3,bg,bq,bu,bz⟩:=C.2.2.1.b4;have c1:=C.2.1.c1
 have ae:R (∀W,iR g w W->(∃cs,mY W g cs TT/\cs.size=4)->wP s.data.toList=U->(p9 W g (V X 0) (V X 0) (G U 0 0) (V X 0)).cell? (Z g 0 U)=O (V X 0)/\(p9 W g (V X 0) (V X 0) (G U 0 0) (V X 0)).cell? (Z g 1 U)=O (V X 0)/\
   (p9 W g (V X 0) (V X 0) (G U 0 0) (V X 0)).cell? (Z g 2 U)=O (G U 0 0)/\(p9 W g (V X 0) (V X 0) (G U 0 0) (V X 0)).cell? (Z g 3 U)=O (V X 0)/\
   aJ (mK (mJ #[mI #[V X 0,V X 0,G U 0 0,V X 0],V X 3])) (p9 W g (V X 0) (V X 0) (G U 0 0) (V X 0))):=Y λW E hB bU=>by
  obtain⟨cs,au,bA⟩:=hB;have ah:=wZ (a:=V X 0) (b:=V X 0) (c:=G U 0 0) (d:=V X 0) au bA;refine⟨ah.cell 0,ah.cell 1,ah.cell 2,ah.cell 3,?_⟩;rw[<-aR.out];refine⟨⟨0,0,0⟩,U,0,0,3,[],rfl,?_,Lj I,Ee _ _ _,.inr ⟨bU,rfl,rfl,rfl⟩⟩;rw[hg];exact⟨E.os,E.tape,E.output,jk E.size (kP yX.symm),λk hk=>(Bo k I).trans (E.block k hk)⟩
 cases ok with
 |false=>
  have aL:=Y (SA (az.2 rfl));go_wp2_with fail;rw[nX];have⟨e0,e1,e2,e3,hpost⟩:=ae.out w3 C.1 ⟨_,C.2.2.1,rfl⟩ aL.out;exact SC
 |true=>
  by_cases aA:ag=s.size
  .have bV:((ag:Int) !=s.size)=M:=by simp[aA]
   have aM:R (∃sub,rd 8 s.data.toList 64=O (.node a sub,[],l2)/\TL.wf a/\nK.nA w3 (λk=>g+2<=k) (G o n c) sub):=Y (by
    have⟨sub,ai,aF,aB⟩:=az.1 rfl;rw[Sz,sJ (s:=s) (p:=ag) I]at ai;exact⟨sub,ai,aF,aB.keep C.2.2.2.2.size (λk _ hk=>by have:=aY.out;omega) λk hk _=>C.2.2.2.2.block k hk⟩)
   have⟨sub,ai,aF,aB⟩:=aM.out;have af:=Y (XD ai);have bB:=Y aF;have bC:=Y aB;have aD:=Y (Dp (.node a sub) w3 (G o n c) (aB.keep (iP _) (λ_ _ _=>trivial) λ_ _ _=>rfl) (bN.below C.1 aP));simp only[mW.oW]at aD;cases bD:pg (.node a sub)with
   |false=>
    rw[bD]at aD af;go_wp2_with fail;refine pG (aD) λw4 A=> ?_
    have J:=Y A;have bE:=(A.cell (p:=(Z g 0 U)) (show g<w3.heap.size by omega)).trans r0;have bF:=(A.cell (p:=(Z g 1 U)) (show g<w3.heap.size by omega)).trans r1;have bG:=(A.cell (p:=(Z g 2 U)) (show g<w3.heap.size by omega)).trans r2;have bH:=(A.cell (p:=(Z g 3 U)) (show g<w3.heap.size by omega)).trans r3;have bI:=(A.frozen (p:=(Z g 0 U)) (show g<w3.heap.size by omega)).trans bg;have bJ:=(A.frozen (p:=(Z g 1 U)) (show g<w3.heap.size by omega)).trans bq;have bK:=(A.frozen (p:=(Z g 2 U)) (show g<w3.heap.size by omega)).trans bu;have bL:=(A.frozen (p:=(Z g 3 U)) (show g<w3.heap.size by omega)).trans bz;go_wp2_with fail;rw[nX];have⟨e0,e1,e2,e3,hpost⟩:=ae.out w4 (C.1.trans (J.mono I)) ⟨_,a7 J C.2.2.1 I,rfl⟩ (by rw[af.out];rfl);exact SC
   |true=>
    rw[bD]at aD af;go_wp2_with fail;refine pG (aD) λw4 A=> ?_
    have J:=Y A;have bE:=(A.cell (p:=(Z g 0 U)) (show g<w3.heap.size by omega)).trans r0;have bF:=(A.cell (p:=(Z g 1 U)) (show g<w3.heap.size by omega)).trans r1;have bG:=(A.cell (p:=(Z g 2 U)) (show g<w3.heap.size by omega)).trans r2;have bH:=(A.cell (p:=(Z g 3 U)) (show g<w3.heap.size by omega)).trans r3;have bI:=(A.frozen (p:=(Z g 0 U)) (show g<w3.heap.size by omega)).trans bg;have bJ:=(A.frozen (p:=(Z g 1 U)) (show g<w3.heap.size by omega)).trans bq;have bK:=(A.frozen (p:=(Z g 2 U)) (show g<w3.heap.size by omega)).trans bu;have bL:=(A.frozen (p:=(Z g 3 U)) (show g<w3.heap.size by omega)).trans bz;have bY:=(A.cell (p:=(Z w2.heap.size 0 U)) aa).trans bQ;have bZ:=(A.cell (p:=(Z w2.heap.size 1 U)) aa).trans bR;have cz:=(A.cell (p:=(Z w2.heap.size 2 U)) aa).trans bS;have cK:=(A.cell (p:=(Z w2.heap.size 3 U)) aa).trans bT;go_wp2_with fail;rw[nX];have ah:=wZ (a:=V X a.kind) (b:=V X a.size) (c:=G o n c) (d:=V X a.tail) (a7 J C.2.2.1 I) rfl;have⟨e0,e1,e2,e3⟩:=ah.a4;refine iY (v:=mJ #[mI #[V X a.kind,V X a.size,G o n c,V X a.tail],V X 0]) (by simp[jv,Tryz.results121,go_sem,e0,e1,e2,e3]) rfl ?_;rw[<-aR.out];have E:=C.1.trans (J.mono I);refine⟨a,o,n,c,0,sub,rfl,?_,bB.out,?_,.inl ⟨by rw[af.out];rfl,rfl⟩⟩
    .rw[hg]
     exact⟨E.os,E.tape,E.output,jk E.size (kP yX.symm),λk hk=>(Bo k I).trans (E.block k hk)⟩
    .exact(wY (Shape.nA.below bC J) (λk hk=>by omega)).keep (iP _) (λk _ hk=>by have hk:g+2<=k:=hk;show w.heap.size<=k;omega) λ_ _ _=>rfl
  .have bV:((ag:Int) !=s.size)=u:=yE
   have aL:R (wP s.data.toList=U):=Y (by
    have⟨sub,ai,aF,aB⟩:=az.1 rfl;exact SB ai λh=>aA (Lh aV h))
   go_wp2_with fail;rw[nX];have⟨e0,e1,e2,e3,hpost⟩:=ae.out w3 C.1 ⟨_,C.2.2.1,rfl⟩ aL.out;exact SC
end
section
open Go.RowKit Go.Maps
def um(c:nU)(rows:List Row)(id:Nat)(nm tx:An):Nat×Option Row:=
 if(rows.find? λy=>As (y.name=nm)).isSome=u\/rP nm.data.toList=M then(11,U)
 else if(rows.find? λy=>As (y.id=id)).isSome=u then(1,U)
 else match wP tx.data.toList with
  |none=>(3,U)
  |some t=>if c.fmt=1/\(mW.oI p0 t.sub&&pg t)=M then(12,U)else(0,O ⟨id,nm,tx,t⟩)
structure a8N(r bn bi:Nat)(c:nU)(L:List oJ)(aE:Nat×Option Row)(w w':K):Prop where
 kp:rF (λd=>d=bn\/d=bi) w w'
 rg:∀row,aE.2=O row->∃x:oJ,x.r=row/\pY r bn bi c (x::L) w'
def SE(L:List oJ)(nm:An):((L.map λx=>x.r).find? λy=>As (y.name=nm)).isSome=(L.find? λx=>As (x.r.name=nm)).isSome:=by
 rw[List.find?_map,Option.isSome_map];rfl
def a0S(L:List oJ)(id:Nat):((L.map λx=>x.r).find? λy=>As (y.id=id)).isSome=(L.find? λx=>As ((x.r.id:Int)=(id:Int))).isSome:=by
 rw[List.find?_map,Option.isSome_map];have:((λr:Row=>As (r.id=id))∘λx:oJ=>x.r)=λx:oJ=>As ((x.r.id:Int)=(id:Int)):=funext λx=>decide_eq_decide.2 (by show x.r.id=id<->(x.r.id:Int)=(id:Int);omega)
 rw[this]
def Ll{L:List oJ}{p:oJ->Bool}(h:(L.find? p).isSome=M):∀y,y∈L->p y=M:=by
 intro y hy;rw[Option.isSome_eq_false_iff,Option.isNone_iff_eq_none]at h;have:=List.find?_eq_none.1 h y hy;simpa using this
def a0T{r kt:Nat}{L:List oJ}{x:oJ}(h:RaB g r bn bi c L x.r.id x.r.name x.r.text w0 W)(A:mY W kt #[V X x.r.ty.lab.kind,V X x.r.ty.lab.size,G x.ou x.r.ty.sub.length x.cu,V X x.r.ty.lab.tail] Ju)(hs:nK.nA W (λk=>r<k) (G x.ou x.r.ty.sub.length x.cu) x.r.ty.sub)(ae:bn≠bi/\r≠bn/\r≠bi)(hk:g<kt)(C:∀y,y∈L->y.r.name≠x.r.name)(E:∀y,y∈L->y.r.id≠x.r.id)(J:x.r.name.size<=jd)(N:x.r.id<18446744073709551616)(aa:L.length<1000):Lf g r bn bi kt c L x w0 M M W:=by
 have l:=h.lt;refine⟨h.rg.rg,h.rg.nm,h.rg.id,λy hy=> ?_,h.en,A,rF.of (l.1.symm▸h.pV),⟨C,E,J,N,aa⟩,I⟩;rcases l5.1 hy with rfl|hy
 .exact hs
 .exact h.rg.sq y hy
def a6T{r kt:Nat}{L:List oJ}{x:oJ}(h:Lf g r bn bi kt c L x w0 u u W)(A:∀y,y∈x::L->pg y.r.ty=u/\(c.fmt=1->(mW.oI p0 y.r.ty.sub&&pg y.r.ty)=u)/\y.r.name.size<=12):pY r bn bi c (x::L) W:=
 ⟨h.rg,h.nm,h.id,h.sub,A⟩
def a0U{t:mW TL}(h:wP l=O t):pg t=u:=by
 unfold wP at h;split at h
 .split at h
  .rename_i A;cases h;exact A
  .cases h
 .cases h
def Vu(h:p:=by
 go_wp2;try go_returns
 exact⟨by rw[HE.out];rfl,rF.of (hg.symm▸HF.1.pV),by rw[HE.out];exact λ_ h=>by cases h⟩):p:=h
def a0V(h:p:=by
 intro vs8 W8 h8;have H8:=Y h8;clear h8;simp only[vG,iX,jg,jf];go_upto_region 13 with fail;refine a0H (g:=g) (r:=r) (bn:=bn) (bi:=bi) (kt:=kt) (c:=c) (L:=L) (x:=⟨⟨id,nm,tx,.node a sub⟩,o,cc⟩) (w0:=w) (ht0:=by rfl) (ht3:=by rfl) (Gy:=by rfl) (hsz:=by rfl) (hI0:=λ_=>H8.below (nN _)) ?_;intro vs9 W9 h9;have H9:=Y h9;clear h9;simp only[vG,iX,jg,jf];go_wp2;try go_returns
 exact⟨by rw[HE.out];rfl,H9.kp,by rw[HE.out];exact λrow h=>by cases h;exact⟨⟨⟨id,nm,tx,.node a sub⟩,o,cc⟩,rfl,a6T H9 a0W.out⟩⟩):p:=h
def a4b(r bn bi:Nat)(c:nU)(L:List oJ)(id:Nat)(nm tx:An)(w:K)(h:pY r bn bi c L w)(aX:bn≠bi/\r≠bn/\r≠bi)(av:nm.size<=jd)(aY:tx.size<=jd)(hid:id<18446744073709551616)(hL:L.length<1000)(aZ:qB w):
  iW iN 87 #[mG (O (Z r 0 U)),mI #[V mP id,H nm,H tx]] w λe w'=>e=mK (V X (um c (L.map λx=>x.r) id nm tx).1)/\a8N r bn bi c L (um c (L.map λx=>x.r) id nm tx) w w':=by
 obtain⟨g,hg⟩:=o7 w;have bU:=h.lt3;have bg:R (∀W,w.alloc (mM #[V mP id,H nm,H tx] Xx)=W->RaB g r bn bi c L id nm tx w W/\W.heap.size=g+1):=Y λW N=>by
  subst N;have a:=(iT w.heap.size w).alloc (iP _) (mM #[V mP id,H nm,H tx] Xx);exact⟨⟨h.below a,hg▸mY.new w _ _,hg▸a,hg,I⟩,by simp[hg]⟩
 have af:R (∀W,pY r bn bi c L W->_):=Y λW N=>N.look nm av
 have ag:R (∀W,pY r bn bi c L W->_):=Y λW N=>N.a4Z id hid
 have aV:=Y h;have aH:=Y (λ(W:K) (hb:iR g w W)=>aZ.below hb (hg▸aZ.lt));have J:=Y (iU aX (iU av (iU aY (iU hid hL))));have⟨bI,bq,_⟩:=yM L λx=>As (x.r.name=nm)
 have⟨bJ,bu,_⟩:=yM L λx=>As ((x.r.id:Int)=(id:Int))
 rw[bq]at af;rw[bu]at ag;unfold RC.cs at af ag;have⟨b1,ax⟩:=nE ((L.find? λx=>As (x.r.name=nm)).isSome);have⟨b4,ay⟩:=nE ((L.find? λx=>As ((x.r.id:Int)=(id:Int))).isSome);have⟨E,aI⟩:=nE (um c (L.map λx=>x.r) id nm tx)
 have ah:R (E=if b1=u\/rP nm.data.toList=M then(11,U)else if b4=u then(1,U)else match wP tx.data.toList with
  |none=>(3,U)
  |some t=>if c.fmt=1/\(mW.oI p0 t.sub&&pg t)=M then(12,U)else(0,O ⟨id,nm,tx,t⟩)):=Y (by rw[<-aI];unfold um;rw[SE,a0S,ax,ay]<;>rfl)
 have aJ:R (b1=M->∀y,y∈L->y.r.name≠nm):=Y λe y hy=>by have:=Ll (ax.trans e) y hy;simpa using this
 have aK:R (b4=M->∀y,y∈L->y.r.id≠id):=Y λe y hy=>by have:=Ll (ay.trans e) y hy;simp at this;omega
 rw[ax]at af;rw[ay]at ag;rw[aI];have bz:=Y (λW=>Ui nm W av);generalize bA:rP nm.data.toList=bm at*;have bB:=Y bA;go_in;go_upto_region 1 with fail;have⟨hI,bK⟩:=bg.out _ rfl;generalize w.alloc _=w1 at*;have aL:=Y (iU hI bK);refine a3V (g:=g) (r:=r) (bn:=bn) (bi:=bi) (c:=c) (L:=L) (JZ:=id) (nm:=nm) (tx:=tx) (w0:=w) (k:=g+1) (b:=b1) (x:=bI) (ht0:=by rfl) (ht3:=by rfl) (hl:=af.out) (h0:=aV.out) (hsz:=by rfl) (hI0:=λ_=>⟨aL.1.below (nN w1),by simpa using aL.2,(λh=>by cases h),I⟩) ?_;intro vs bL hF;have HF:=Y (iU hF.b (show bL.heap.size=g+2 by simpa using hF.sz));simp only[vG,iX,jg,jf];cases b1 with
 |true=>
  have HE:R (E=(11,U)):=Y (by rw[ah.out,Ax (.inl rfl)]);exact Vu
 |false=>
  cases bm with
  |false=>
   have HE:R (E=(11,U)):=Y (by rw[ah.out,Ax (.inr rfl)]);have c1:=HF.1.en.c1;go_wp2_with fail;refine(bz _).mono ?_;rintro e w3 ⟨rfl,rfl⟩;exact Vu
  |true=>
   have c1:=HF.1.en.c1;go_wp2_with fail;refine pG (bz _) λw3 bC=> ?_
   subst bC;go_upto_region 4 with fail;refine a3W (g:=g) (r:=r) (bn:=bn) (bi:=bi) (c:=c) (L:=L) (JZ:=id) (nm:=nm) (tx:=tx) (w0:=w) (k:=g+2) (b:=b4) (x:=bJ) (ht0:=by rfl) (ht3:=by rfl) (hl:=ag.out) (h0:=aV.out) (hsz:=by rfl) (hI0:=λ_=>⟨HF.1.below (nN w3),by simpa using HF.2,(λh=>by cases h),I⟩) ?_;intro vs az aM;have A:=Y (iU aM.b (show az.heap.size=g+3 by simpa using aM.sz));simp only[vG,iX,jg,jf];cases b4 with
   |true=>
    have HE:R (E=(1,U)):=Y (by rw[ah.out,At ny,Ax rfl]);go_wp2;try go_returns
    exact⟨by rw[HE.out];rfl,rF.of (hg.symm▸A.1.pV),by rw[HE.out];exact λ_ h=>by cases h⟩
   |false=>
    have ai:R (E=match wP tx.data.toList with
     |none=>(3,U)
     |some t=>if c.fmt=1/\(mW.oI p0 t.sub&&pg t)=M then(12,U)else(0,O ⟨id,nm,tx,t⟩)):=Y (by rw[ah.out,At ny,At ny])
    have c2:=A.1.en.c2;have bD:=Y (XE tx az J.2.2.1 (aH az A.1.pV));go_wp2_with fail;refine bD.mono ?_;unfold JA;rintro e w5 ⟨a,o,n,cc,er,sub,rfl,aA,bT,aa,C⟩;obtain⟨kt,aN⟩:=o7 w5;have⟨_,_,bE,_⟩:=(show nK.nA w5 (λk=>az.heap.size<=k) (G o n cc) sub from aa);have⟨bV,bM,rc⟩:o=o/\n=sub.length/\cc=cc:=⟨rfl,by injection bE,rfl⟩;subst bM;have aW:R (∀W,w5.alloc (mM #[V X a.kind,V X a.size,G o sub.length cc,V X a.tail] Ju)=W->RaB g r bn bi c L id nm tx w W/\mY W kt #[V X a.kind,V X a.size,G o sub.length cc,V X a.tail] Ju/\nK.nA W (λk=>r<k) (G o sub.length cc) sub/\g<kt):=Y λW N=>by
     subst N;have al:=(iT w5.heap.size w5).alloc (iP _) (mM #[V X a.kind,V X a.size,G o sub.length cc,V X a.tail] Ju);have:=aA.size;have:=A.2;exact⟨(A.1.below aA).below al,aN▸mY.new w5 _ _,(Shape.nA.below aa al).keep (iP _) (λk _ hk=>by have hk:az.heap.size<=k:=hk;have:=A.1.lt;have:=A.1.pV.size;show r<k;omega) λ_ _ _=>rfl,I⟩
    rcases C with⟨C,rfl⟩|⟨C,rfl,rfl,rfl⟩
    .have aj:=Y C
     go_upto_region 10 with fail;have⟨hB,aB,aO,aP⟩:=aW.out _ rfl;generalize w5.alloc _=au at*;have aD:=Y (iU hB (iU aB (iU aO aP)));have aQ:=Y (a0T (x:=⟨⟨id,nm,tx,.node a sub⟩,o,cc⟩) hB aB aO J.1 aP (by first|exact aJ rfl|exact aJ trivial) (by first|exact aK rfl|exact aK trivial) J.2.1 J.2.2.2.1 J.2.2.2.2);have c0:=hB.rg.rg.c0;have⟨bN,bO,bP,bQ⟩:=aB.a4;have a0W:∀ b:Bool,(c.fmt=1->b=u)->(mW.oI p0 sub&&pg (.node a sub))=b->∀y,y∈(⟨⟨id,nm,tx,.node a sub⟩,o,cc⟩:oJ)::L->pg y.r.ty=u/\(c.fmt=1->(mW.oI p0 y.r.ty.sub&&pg y.r.ty)=u)/\y.r.name.size<=12:=λb hb bF y hy=>by
      rcases l5.1 hy with rfl|hy
      .refine⟨a0U aj.out,λbR=>(bF.trans (hb bR):(mW.oI p0 sub&&pg (.node a sub))=u),?_⟩
       have:=bB.out;unfold rP at this;simp only[je,bb]at this;have e:nm.data.toList.length=nm.size:=jR;show nm.size<=12;omega
      .exact aV.may y hy
     have ak:=Y a0W;clear a0W;by_cases ae:c.fmt=1
     .have t1:(c.fmt==1)=u:=by simp[ae]
      have bS:=Y ae;have bG:=Y (K6 (.node a sub) au (G o sub.length cc) (aD.2.2.1.keep (iP _) (λ_ _ _=>trivial) λ_ _ _=>rfl) (aH au aD.1.pV));have⟨bH,aF⟩:=nE ((mW.oI p0 sub&&pg (.node a sub)));have aG:=Y aF;have aR:R (iW iN 122 #[mI #[V X a.kind,V X a.size,G o sub.length cc,V X a.tail]] au λe w'=>e=mK (mH bH)/\iR au.heap.size au w'):=Y (aF▸bG.out);clear ae bG aF;go_wp2_with fail;refine pG aR λbW aS=> ?_
      have aU:=Y aS;clear aS aR c0 bN bO bP bQ;cases bH with
      |false=>
       have HE:R (E=(12,U)):=Y (by rw[ai.out,aj.out];exact Ax ⟨bS.out,aG.out⟩);go_wp2;try go_returns
       exact⟨by rw[HE.out];rfl,rF.of (hg.symm▸(aD.1.below aU).pV),by rw[HE.out];exact λ_ h=>by cases h⟩
      |true=>
       have HE:R (E=(0,O ⟨id,nm,tx,.node a sub⟩)):=Y (by rw[ai.out,aj.out];exact At λh=>Bool.false_ne_true (h.2.symm.trans aG));have a0W:=Y (ak u (λ_=>rfl) aG);go_upto_region 12 with fail;refine Qb (g:=g) (r:=r) (bn:=bn) (bi:=bi) (kt:=kt) (c:=c) (L:=L) (x:=⟨⟨id,nm,tx,.node a sub⟩,o,cc⟩) (w0:=w) (ht0:=by rfl) (ht3:=by rfl) (Gy:=by rfl) (hsz:=by rfl) (hI0:=λ_=>(aQ.below aU).below (nN _)) ?_;exact a0V
     .have t1:(c.fmt==1)=M:=by simp[ae]
      have HE:R (E=(0,O ⟨id,nm,tx,.node a sub⟩)):=Y (by rw[ai.out,aj.out];exact At λh=>ae h.1);have a0W:=Y (ak _ (λh=>absurd h ae) rfl);clear ae;go_upto_region 12 with fail;refine Qb (g:=g) (r:=r) (bn:=bn) (bi:=bi) (kt:=kt) (c:=c) (L:=L) (x:=⟨⟨id,nm,tx,.node a sub⟩,o,cc⟩) (w0:=w) (ht0:=by rfl) (ht3:=by rfl) (Gy:=by rfl) (hsz:=by rfl) (hI0:=λ_=>aQ.below (nN _)) ?_;exact a0V
    .have HE:R (E=(3,U)):=Y (by rw[ai.out,C])
     clear aA aa C bD c2;go_upto_region 8 with fail;have⟨hB,_⟩:=aW.out _ rfl;generalize w5.alloc _=au at*;have aD:=Y hB;clear hB aW aN;go_wp2;try go_returns
     exact⟨by rw[HE.out];rfl,rF.of (hg.symm▸aD.pV),by rw[HE.out];exact λ_ h=>by cases h⟩
structure tV where
 id:Nat
 nm:An
 tx:An
def CJ(w:K)(v:iQ)(A:List tV):Prop:=
 ∃oa cap,v=G oa A.length cap/\A.length<=cap/\cap<=jd/\∀i e,A[i]? =O e->∃b off,oa=O (Z b off U)/\b<w.heap.size/\w.cell? (Z b (off+i*3) U)=O (V mP e.id)/\w.cell? (Z b (off+i*3+1) U)=O (H e.nm)/\w.cell? (Z b (off+i*3+2) U)=O (H e.tx)
def CJ.below{A:List tV}(h:CJ w v A)(hb:iR w.heap.size w w'):CJ w' v A:=by
 obtain⟨oa,cap,C,E,J,N⟩:=h;refine⟨oa,cap,C,E,J,λi e he=> ?_⟩;have⟨b,off,ho,hl,c0,c1,c2⟩:=N i e he;have q:∀o,w'.cell? (Z b o U)=w.cell? (Z b o U):=λo=>World.cell?_of_block (w:=w) (a:=(Z b o U)) (hb.block b hl)
 exact⟨b,off,ho,jy hl hb.size,by rw[q];exact c0,by rw[q];exact c1,by rw[q];exact c2⟩
def qQ(c:nU):List Row->List tV->Except Nat (List Row)
 |rows,[]=> .ok rows
 |rows,e::A=>match um c rows e.id e.nm e.tx with
  |(er,U)=> .error er
  |(_,O row)=>qQ c (row::rows) A
def wB(c:nU)(A:List tV):Except Nat (List Row):=if nV c=M then .error 1 else if 32<A.length then .error 4 else qQ c [] A
def Qi(c:nU)(rows:List Row)(id:Nat)(nm tx:An):(um c rows id nm tx).2=U/\(um c rows id nm tx).1≠0\/(um c rows id nm tx).1=0/\∃row,(um c rows id nm tx).2=O row:=by
 unfold um;split;.exact .inl ⟨rfl,mX⟩
 .split
  .exact .inl ⟨rfl,mX⟩
  .split
   .exact .inl ⟨rfl,mX⟩
   .split
    .exact .inl ⟨rfl,mX⟩
    .exact .inr ⟨rfl,_,rfl⟩
def Bq(c:nU)(A:List tV)(w:K)(e:kV)(w':K):Prop:=
 iR w.heap.size w w'/\match wB c A with
 | .error er=>e=mK (mJ #[mG U,V X er])/\er≠0
 | .ok rows=>∃r bn bi L,e=mK (mJ #[mG (O (Z r 0 U)),V X 0])/\pY r bn bi c L w'/\(L.map λx:oJ=>x.r)=rows/\(bn≠bi/\r≠bn/\r≠bi)/\w.heap.size<=r/\w.heap.size<=bn/\w.heap.size<=bi
abbrev XF:jl:=159
structure Vv(w0:K)(g r bn bi:Nat)(c:nU)(L:List oJ)(W:K):Prop where
 rg:pY r bn bi c L W
 pV:iR g w0 W
 lt:w0.heap.size=g/\g<bn/\g<bi/\g<r/\bn≠bi/\r≠bn/\r≠bi
def Vv.below{r:Nat}{L:List oJ}(h:Vv w0 g r bn bi c L W)(hb:iR W.heap.size W W'):Vv w0 g r bn bi c L W':=
 ⟨h.rg.below hb,h.pV.trans (hb.mono (by have:=h.lt;have:=h.pV.size;omega)),h.lt⟩
def Vv.add{r:Nat}{L A:List oJ}(h:Vv w0 g r bn bi c L W)(k:rF (λd=>d=bn\/d=bi) W W')(C:pY r bn bi c A W'):Vv w0 g r bn bi c A W':=
 ⟨C,h.pV.trans (k.below (λd hd E=>by have:=h.lt;omega) (by have:=h.lt;have:=h.pV.size;omega)),h.lt⟩
def Vv.kp{r:Nat}{L:List oJ}(h:Vv w0 g r bn bi c L W)(k:rF (λd=>d=bn\/d=bi) W W'):iR g w0 W':=
 h.pV.trans (k.below (λd hd A=>by have:=h.lt;omega) (by have:=h.lt;have:=h.pV.size;omega))
def a0X(c:nU)(bn bi:Nat)(pf gf:iQ):Array iQ:=#[V X c.fmt,V mQ c.mag,V X c.oL,V X c.pq,V X c.dep,V X c.oo,.map (O bn),.map (O bi),pf,gf]
def ptV(c:nU):iQ:=.func (.func 83) #[mI #[V X c.dep,V X c.oo]] #[]
def gtV(c:nU):iQ:=.func (.func 84) #[mI #[V X c.dep,V X c.oo]] #[]
structure NwM(w0:K)(g k:Nat)(c:nU)(pf gf:iQ)(W:K):Prop where
 cf:mY W g #[V X c.fmt,V mQ c.mag,V X c.oL,V X c.pq,V X c.dep,V X c.oo] rG
 cp:mY W k #[V X c.dep,V X c.oo] XF
 rg:mY W (k+3) (a0X c (k+1) (k+2) pf gf) RgT
 nm:q9 NmK tC W (k+1) 0 []
 id:q9 IdK tC W (k+2) 0 []
 pV:iR g w0 W
 lt:w0.heap.size=g/\g<k
def NwM.of(aa:iR g w0 W)(C:mY W g #[V X c.fmt,V mQ c.mag,V X c.oL,V X c.pq,V X c.dep,V X c.oo] rG)(E:mY W k #[V X c.dep,V X c.oo] XF)(A:W.heap.size=k+1)(hl:w0.heap.size=g/\g<k)(pf gf:iQ):
  NwM w0 g k c pf gf (((W.alloc (.map #[] 0)).alloc (.map #[] 0)).alloc (mM (a0X c (k+1) (k+2) pf gf) RgT)):=by
 have a1:=(iT W.heap.size W).alloc (iP _) (.map #[] 0);have a2:=a1.alloc ny (.map #[] 0);have a3:=a2.alloc nk (mM (a0X c (k+1) (k+2) pf gf) RgT);have J:=q9.made NmK tC W;have m2:=q9.made IdK tC (W.alloc (.map #[] 0));have N:=mY.new ((W.alloc (.map #[] 0)).alloc (.map #[] 0)) (a0X c (k+1) (k+2) pf gf) RgT;rw[A]at J;rw[jY,A]at m2;rw[jY,jY,A]at N;exact⟨a7 a3 C C.lt,a7 a3 E E.lt,N,(J.below ((iT _ _).alloc (iP _) _)).below (((iT _ _).alloc (iP _) _)),m2.below ((iT _ _).alloc (iP _) _),aa.trans (a3.mono I),hl⟩
def NwM.put{pf gf pf2 gf2:iQ}(h:NwM w0 g k c pf gf W):NwM w0 g k c pf2 gf2 ((W.setCell (Z (k+3) 8 U) pf2).setCell (Z (k+3) 9 U) gf2):=by
 have l:=h.lt;have A:∀d,d≠k+3->((W.setCell (Z (k+3) 8 U) pf2).setCell (Z (k+3) 9 U) gf2).heap[d]? =W.heap[d]? :=λd hd=>(jh _ (Z (k+3) 9 U) _ d hd).trans (jh _ (Z (k+3) 8 U) _ d hd)
 have q:∀{d:Nat}{cs:Array iQ}{t:jl},mY W d cs t->d≠k+3->mY ((W.setCell (Z (k+3) 8 U) pf2).setCell (Z (k+3) 9 U) gf2) d cs t:=λhB hd=>by unfold mY;rw[A _ hd];exact hB
 refine⟨q h.cf I,q h.cp I,(h.rg.set 8 pf2).set 9 gf2,h.nm.block (A _ I),h.id.block (A _ I),?_,l⟩;exact(h.pV.setCell (p:=(Z (k+3) 8 U)) (by show g<=k+3;omega) _).setCell (p:=(Z (k+3) 9 U)) (by show g<=k+3;omega) _
def NwM.i(h:NwM w0 g k c (Jb c) (K7 c) W):Vv w0 g (k+3) (k+1) (k+2) c [] W:=
 ⟨⟨h.rg,h.nm,h.id,(λy hy=>by cases hy),(λy hy=>by cases hy)⟩,h.pV,by have:=h.lt;omega⟩
def Fb{A:List tV}(h:wB c A=.error er)(hb:iR w.heap.size w w')(hn:er≠0):Bq c A w (mK (mJ #[mG U,V X er])) w':=⟨hb,by rw[h];exact⟨rfl,hn⟩⟩
def a6U{A:List tV}{r:Nat}{L:List oJ}(h:wB c A=.ok (L.map λx=>x.r))(hI:Vv w g r bn bi c L w'):Bq c A w (mK (mJ #[mG (O (Z r 0 U)),V X 0])) w':=by
 have l:=hI.lt;exact⟨l.1.symm▸hI.pV,by rw[h];exact⟨r,bn,bi,L,rfl,hI.rg,rfl,I,I,I,I⟩⟩
def Vw(h:p:=by
 subst hW;exact⟨hg▸(iT w.heap.size w).alloc (iP _) _,hg▸mY.new w _ _,by simp[hg]⟩):p:=h
def a5l(h:p:=by
 generalize hr0:kp+3=r at*;generalize hn0:kp+1=bn at*;generalize hi0:kp+2=bi at*;have⟨TOT,a6V⟩:=nE (qQ c [] es);have b0n:=Y a6V;have HE2:R (wB c es=TOT):=Y (HE.trans a6V);clear a6V HE hr0 hn0 hi0;go_loopw [45] (λkv wi=>∃k:Nat,kv=V X (k:Int)/\k<=n/\R (∃L:List oJ,Vv w g r bn bi c L wi/\L.length=k/\qQ c (L.map λx=>x.r) (es.drop k)=TOT)) (λkv _=>n -(jF kv).toNat);case atStart=>exact⟨0,rfl,jB _,Y ⟨[],U8.out,rfl,b0n.out⟩⟩
 case round=>
  obtain⟨k,rfl,hk,HJ⟩:=hrel;have⟨L,hI,hLk,hnl⟩:=HJ.out;clear HJ;have HI:=Y hI;have HLK:=Y hLk;have HNL:=Y hnl;clear hI hLk hnl;by_cases hkn:k<n
  .have tk:As (k<n)=u:=nk
   have hn32:n<=32:=by have:=H32.out;omega
   have⟨e,he⟩:∃e,es[k]? =O e:=⟨_,ja (by rw[HN.out];exact hkn)⟩;obtain⟨b,off,rfl,hbl,q0,q1,q2⟩:=HC.2.2.1 k e he;have hq:∀o,wr.cell? (Z b o U)=w.cell? (Z b o U):=λo=>World.cell?_of_block (w:=w) (a:=(Z b o U)) (HI.pV.block b I)
   have z0:=(hq _).trans q0;have z1:=(hq _).trans q1;have z2:=(hq _).trans q2;have HES:=Y (HC.2.2.2 e (jq he));have HDR:R (es.drop k=e::es.drop (k+1)):=Y (by
    have⟨h1,h2⟩:=jU.1 he;rw[lH h1,h2])
   clear hq q0 q1 q2 he hbl;have HAL:R (∀W,wr.alloc (mM #[V mP e.id,H e.nm,H e.tx] Xx)=W->Vv w g r bn bi c L W/\mY W wr.heap.size #[V mP e.id,H e.nm,H e.tx] Xx):=Y λW hW=>by
    subst hW;exact⟨HI.below ((iT _ _).alloc (iP _) _),mY.new wr _ _⟩
   go_upto_region 12 with fail;have⟨hI6,hB6⟩:=HAL.out _ rfl;generalize wr.alloc _=w6 at*;have HI6:=Y hI6;have⟨v0,v1,v2⟩:=hB6.a3;have CA:=Y (a4b r bn bi c L e.id e.nm e.tx w6 hI6.rg ⟨hI6.lt.2.2.2.2.1,hI6.lt.2.2.2.2.2⟩ HES.1 HES.2.1 HES.2.2 (by have:=HLK.out;have:=H32.out;omega) (HTT w6 hI6.pV));have⟨⟨er,ro⟩,hAE⟩:∃aE,um c (L.map λx=>x.r) e.id e.nm e.tx=aE:=⟨_,rfl⟩;have hcase:=Qi c (L.map λx=>x.r) e.id e.nm e.tx;rw[hAE]at CA hcase;have HAE:=Y hAE;dsimp only at CA hcase;clear hI6 hB6 HAL z0 z1 z2 hAE;go_wp2_with fail;refine pG CA λw7 hok=> ?_
   have BQ:=Y hok;clear hok CA v0 v1 v2;rcases hcase with⟨rfl,hne⟩|⟨rfl,row,rfl⟩
   .have te:((er:Int) !=0)=u:=nk
    have HER:R (wB c es=.error er):=Y (by rw[HE2.out,<-HNL.out,HDR.out,qQ,HAE.out]);have HNE:=Y hne;clear hne;go_wp2;try go_returns
    rw[<-HP.out];exact Fb HER (hg.symm▸HI6.kp BQ.kp) HNE.out
   .have te:(((0:Nat):Int) !=0)=M:=ny
    go_wp2;go_roundw;case rel=>
     have⟨x,hx,hr⟩:=BQ.rg row rfl;refine⟨k+1,ny,I,Y ⟨x::L,HI6.add BQ.kp hr,by simp[HLK.out],?_⟩⟩;have h9:=HNL.out;rw[HDR.out,qQ,HAE.out]at h9;rw[lg,hx];exact h9
    case measure=>simp[jF];omega
  .have tk:As (k<n)=M:=nk
   have HEN:R (wB c es=.ok (L.map λx=>x.r)):=Y (by
    have h9:=HNL.out;rw[ef (by rw[HN.out];omega),qQ]at h9;rw[HE2.out,<-h9])
   clear hkn;go_wp2;try go_returns
   rw[<-HP.out];exact a6U HEN HI.out):p:=h
def a4d(c:nU)(es:List tV)(v:iQ)(w:K)(aS:CJ w v es)(az:∀e,e∈es->e.nm.size<=jd/\e.tx.size<=jd/\e.id<18446744073709551616)(aI:qB w):
  iW iN 52 #[c.v,v] w (Bq c es w):=by
 have aV:=@run_makeMap iN;obtain⟨oa,cap,rfl,ae,af,N⟩:=aS;have⟨n,hn⟩:=nE es.length;obtain⟨g,hg⟩:=o7 w;have aA:R (∀W,w.alloc (mM #[V X c.fmt,V mQ c.mag,V X c.oL,V X c.pq,V X c.dep,V X c.oo] rG)=W->iR g w W/\mY W g #[V X c.fmt,V mQ c.mag,V X c.oL,V X c.pq,V X c.dep,V X c.oo] rG/\W.heap.size=g+1):=Y λW hW=>by
  exact Vw
 have aJ:=Y (λW=>Ci c W);have HTT:=Y (λ(W:K) (hb:iR g w W)=>aI.below hb (hg▸aI.lt));have HC:=Y (iU ae (iU af (iU N az)));have ai:R (wB c es=if nV c=M then .error 1 else if 32<n then .error 4 else qQ c [] es):=Y (by unfold wB;rw[hn]);have⟨aU,aK⟩:=nE (Bq c es w);have HP:=Y aK;have HN:=Y hn;rw[aK,hn];unfold nU.v nU.cs at aJ|-;generalize aW:nV c=rc at*;clear ae af N az aI aK hn;go_in;go_upto_region 1 with fail;have⟨aB,aj,aD⟩:=aA.out _ rfl;generalize w.alloc _=w1 at*;have E:=Y (iU aB (iU aj aD));have⟨c0,c1,c2,c3,c4,c5⟩:=aj.a6;clear aA aB aj aD;go_wp2_with fail;refine pG (aJ _) λw2 ag=> ?_
 have C:R (iR g w w2/\mY w2 g #[V X c.fmt,V mQ c.mag,V X c.oL,V X c.pq,V X c.dep,V X c.oo] rG/\g<w2.heap.size):=Y ⟨E.1.trans (ag.mono (by have:=E.2.2;omega)),a7 ag E.2.1 E.2.1.lt,by have:=E.2.2;have:=ag.size;omega⟩;clear E ag aJ c0 c1 c2 c3 c4 c5;cases rc with
 |false=>
  have HE:=Y (ai.trans (Ax rfl));go_wp2;try go_returns
  rw[<-HP.out];exact Fb HE (hg.symm▸C.1) mX
 |true=>
  by_cases aa:32<n
  .have t0:As ((n:Int)>32)=u:=nk
   have HE:=Y (ai.trans ((At ny).trans (Ax aa)));clear aa;go_wp2;try go_returns
   rw[<-HP.out];exact Fb HE (hg.symm▸C.1) mX
  .have t0:As ((n:Int)>32)=M:=nk
   have HE:=Y (ai.trans ((At ny).trans (At aa)));have H32:=Y aa;have aF:=C.2.1;have⟨c0,c1,c2,c3,c4,c5⟩:=aF.a6;clear aa aF;obtain⟨kp,ak⟩:=o7 w2;have aM:R (∀W,w2.alloc (mM #[V X c.dep,V X c.oo] XF)=W->iR g w W/\mY W g #[V X c.fmt,V mQ c.mag,V X c.oL,V X c.pq,V X c.dep,V X c.oo] rG/\mY W kp #[V X c.dep,V X c.oo] XF/\W.heap.size=kp+1/\g<kp):=Y λW hW=>by
    subst hW;have al:=(iT w2.heap.size w2).alloc (iP _) (mM #[V X c.dep,V X c.oo] XF);have:=C.2.2;exact⟨C.1.trans (al.mono I),a7 al C.2.1 C.2.1.lt,ak▸mY.new w2 _ _,by simp[ak],I⟩
   go_upto_region 6 with fail;have aN:=aM.out _ rfl;generalize w2.alloc _=w3 at*;clear c0 c1 c2 c3 c4 c5 aM;have A:=Y aN;clear aN;have⟨c0,c1,c2,c3,c4,c5⟩:=A.2.1.a6;have⟨au,av⟩:=A.2.2.1.a2;have aG:=A.2.2.2.1;have⟨z0,z1⟩:=((A.2.2.1.alloc (.map #[] 0)).alloc (.map #[] 0)).a2;have aO:R (∀W,((w3.alloc (.map #[] 0)).alloc (.map #[] 0)).alloc (mM #[V X c.fmt,V mQ c.mag,V X c.oL,V X c.pq,V X c.dep,V X c.oo,.map (O (kp+1)),.map (O (kp+2)),.func (.func 83) #[mI #[V X c.dep,V X c.oo]] #[],.func (.func 84) #[mI #[V X c.dep,V X c.oo]] #[]] RgT)=W->NwM w g kp c (ptV c) (gtV c) W):=Y λW hW=>by
    subst hW;exact NwM.of A.1 A.2.1 A.2.2.1 aG ⟨hg,A.2.2.2.2⟩ _ _
   go_upto_region 7 with fail;rw[show kp+1+1+1=kp+3 from rfl,show kp+1+1=kp+2 from rfl];have J:=aO.out _ rfl;generalize ((w3.alloc _).alloc _).alloc _=w4 at*;have ah:=Y J;have aL:=J.cf.cell 0;have ax:=J.rg.cell 8;have ay:=J.rg.cell 9;have aP:=J.rg.free 8;have aQ:=J.rg.free 9;have au:=J.cp.cell 0;have av:=J.cp.cell 1;simp only[a0X,ji,jb,jc]at aL ax ay au av;clear aO J z0 z1 c0 c1 c2 c3 c4 c5 aG A C ak;unfold ptV at ax;unfold gtV at ay;by_cases h1:c.fmt=1
   .have t1:(c.fmt==1)=u:=by simp[h1]
    have aR:=Y h1;clear h1;have U8:R (∀W,(w4.setCell (Z (kp+3) 8 U) (.func (.func 85) #[mI #[V X c.dep,V X c.oo]] #[])).setCell (Z (kp+3) 9 U) (.func (.func 86) #[mI #[V X c.dep,V X c.oo]] #[])=W->Vv w g (kp+3) (kp+1) (kp+2) c [] W):=Y λW hW=>by
     subst hW;have hp:=ah.put (pf2:=.func (.func 85) #[mI #[V X c.dep,V X c.oo]] #[]) (gf2:=.func (.func 86) #[mI #[V X c.dep,V X c.oo]] #[]);refine NwM.i ?_;unfold Jb K7;rw[Ax aR.out,Ax aR.out];exact hp
    go_upto_region 10 with fail;have aH:=U8.out _ rfl;generalize (w4.setCell (Z (kp+3) 8 U) _).setCell (Z (kp+3) 9 U) _=w5 at*;have U8:=Y aH;clear aH aL ax ay aP aQ au av ah;exact a5l
   .have t1:(c.fmt==1)=M:=by simp[h1]
    have U8:R (Vv w g (kp+3) (kp+1) (kp+2) c [] w4):=Y (NwM.i (by unfold Jb K7;rw[At h1,At h1];exact ah));clear h1 ax ay aP aQ au av ah;go_upto_region 10 with fail;clear aL;exact a5l
end
variable{A:List tV}{e:tV}
section
open Go.RowKit
def AJ:(rows.find? λy=>As (y.name=nm)).isSome=u<->∃r,r∈rows/\r.name=nm:=by
 rw[List.find?_isSome];simp
def Ef{id:Nat}:(rows.find? λy=>As (y.id=id)).isSome=u<->∃r,r∈rows/\r.id=id:=by
 rw[List.find?_isSome];simp
def xe{id:Nat}{tx:An}{row:Row}(h:um c rows id nm tx=(er,O row)):
  row.id=id/\row.name=nm/\wP tx.data.toList=O row.ty/\(∀r,r∈rows->r.name≠nm)/\er=0:=by
 unfold um at h;split at h;.cases h
 .rename_i A
  split at h;.cases h
  .split at h
   .cases h
   .rename_i t ht
    split at h;.cases h
    .simp only[cT,lS]at h
     obtain⟨h0,rfl⟩:=h;refine⟨rfl,rfl,ht,λr C hn=>A (.inl (AJ.2 ⟨r,C,hn⟩)),h0.symm⟩
def Fe:∀(A:List tV)(rows out:List Row),qQ c rows A=.ok out->∀nm,(∃r,r∈out/\r.name=nm)<->(∃r,r∈rows/\r.name=nm)\/∃e,e∈A/\e.nm=nm
 |[],rows,out,h,nm=>by
  unfold qQ at h;cases h;simp
 |e::A,rows,out,h,nm=>by
  unfold qQ at h;split at h;.cases h
  .rename_i er row N
   have⟨aa,J,ae,af,_⟩:=xe N;rw[Fe A (row::rows) out h nm];simp only[l5];constructor
   .rintro(⟨r,rfl|C,hn⟩|⟨E,he,hn⟩)
    .exact .inr ⟨e,.inl rfl,by rw[<-J];exact hn⟩
    .exact .inl ⟨r,C,hn⟩
    .exact .inr ⟨E,.inr he,hn⟩
   .rintro(⟨r,C,hn⟩|⟨E,rfl|he,hn⟩)
    .exact .inl ⟨r,.inr C,hn⟩
    .exact .inl ⟨row,.inl rfl,by rw[J];exact hn⟩
    .exact .inr ⟨E,he,hn⟩
def Nh:∀(A:List tV)(rows out:List Row),qQ c rows A=.ok out->∀i:Nat,(∃r,r∈out/\r.id=i)<->(∃r,r∈rows/\r.id=i)\/∃e,e∈A/\e.id=i
 |[],rows,out,h,nm=>by
  unfold qQ at h;cases h;simp
 |e::A,rows,out,h,nm=>by
  unfold qQ at h;split at h;.cases h
  .rename_i er row N
   have⟨J,aa,ae,af,_⟩:=xe N;rw[Nh A (row::rows) out h nm];simp only[l5];constructor
   .rintro(⟨r,rfl|C,hn⟩|⟨E,he,hn⟩)
    .exact .inr ⟨e,.inl rfl,by rw[<-J];exact hn⟩
    .exact .inl ⟨r,C,hn⟩
    .exact .inr ⟨E,.inr he,hn⟩
   .rintro(⟨r,C,hn⟩|⟨E,rfl|he,hn⟩)
    .exact .inl ⟨r,.inr C,hn⟩
    .exact .inl ⟨row,.inl rfl,by rw[J];exact hn⟩
    .exact .inr ⟨E,he,hn⟩
def XG(c:nU)(rows:List Row)(e:tV)(A:List tV):qQ c rows (e::A)=match um c rows e.id e.nm e.tx with
  |(er,U)=> .error er
  |(_,O row)=>qQ c (row::rows) A:=rfl
def Cy:∀(es:List tV)(i:Nat)(rows mid:List Row),qQ c rows (es.take i)=.ok mid->qQ c rows es=qQ c mid (es.drop i)
 |es,0,rows,mid,h=>by
  simp[qQ]at h;subst h;rfl
 |[],i+1,rows,mid,h=>by
  simp[qQ]at h;subst h;rfl
 |e::es,i+1,rows,mid,h=>by
  simp only[jm,kZ]at h|-;rw[XG]at h|-;cases A:um c rows e.id e.nm e.tx with
  |mk er o=>
   rw[A]at h;cases o with
   |none=>cases h
   |some row=>exact Cy es i (row::rows) mid h
def Lp{i:Nat}{row:Row}(h:qQ c [] (A.take i)=.ok mid)(he:A[i]? =O e)(C:um c mid e.id e.nm e.tx=(er,O row)):
  qQ c [] (A.take (i+1))=.ok (row::mid):=by
 have hl:=(jU.1 he).1;have e1:A.take (i+1)=A.take i++[e]:=by rw[du,he];rfl
 have e2:(A.take i).length=i:=by rw[jQ];omega
 have E:=Cy (c:=c) (A.take (i+1)) i [] mid (by rw[List.take_take,lZ I];exact h);rw[E,e1,List.drop_left' e2];unfold qQ;rw[C];rfl
def AL{i:Nat}(h:qQ c [] (A.take i)=.ok mid)(he:A[i]? =O e)(C:um c mid e.id e.nm e.tx=(er,U)):qQ c [] A=.error er:=by
 have hl:=(jU.1 he).1;rw[Cy A i [] mid h,lH hl];have:A[i]=e:=by rw[ja hl]at he;exact kU he
 rw[this];unfold qQ;rw[C]
def a0Z(h:p:=by
 constructor
 .rintro(⟨r,hr,_⟩|⟨e,he,hn⟩)
  .cases hr
  .have⟨k,hk⟩:=cw he
   by_cases hki:k<i
   .rw[cj hki]at hk
    exact⟨k,e,hki,hk,hn⟩
   .rw[lM,At hki]at hk;cases hk
 .rintro⟨k,e,hk,he,hn⟩
  exact .inr ⟨e,jq (i:=k) (by rw[cj hk];exact he),hn⟩):p:=h
def Lr{i:Nat}(h:qQ c [] (A.take i)=.ok mid)(nm:An):(mid.find? λy=>As (y.name=nm)).isSome=u<->∃(k:Nat) (e:tV),k<i/\A[k]? =O e/\e.nm=nm:=by
 rw[AJ,Fe _ _ _ h nm];exact a0Z
def Gb{i:Nat}(h:qQ c [] (A.take i)=.ok mid)(id:Nat):(mid.find? λy=>As (y.id=id)).isSome=u<->∃(k:Nat) (e:tV),k<i/\A[k]? =O e/\e.id=id:=by
 rw[Ef,Nh _ _ _ h id];exact a0Z
def Lt:∀(C:List tV)(rows:List Row),¬qQ c rows C=.error 0
 |[],rows=>by unfold qQ;intro h;cases h
 |e::C,rows=>by
  unfold qQ;have A:=Qi c rows e.id e.nm e.tx;split
  .rename_i er E
   intro h;cases h;rw[E]at A;rcases A with A|A
   .exact A.2 rfl
   .have⟨_,row,J⟩:=A;cases J
  .rename_i er row E
   exact Lt C (row::rows)
def GG(c:nU)(A:List tV):Int:=match wB c A with
 | .error er=>er
 | .ok _=>0
def AO(h:p:=by
 generalize nV ⟨f,m,fr,un,de,it⟩=aE at*;go_in;go_upto_region 1 with fail;generalize w.alloc _=w1 at*;have⟨hb1,c0,c1,c2,c3,c4,c5⟩:=HW.out _ rfl;have H1:=Y hb1;go_wp2;go_returns;exact⟨by rw[HE.out];rfl,H1.out⟩):p:=h
def Gc(c:nU)(w:K):iW iN 39 #[c.v] w λe w'=>e=mK (mH (nV c))/\iR w.heap.size w w':=by
 have HW:=Y (vS (w:=w) c (t:=rG));obtain⟨g,hg⟩:=o7 w;have A:R (nV c=(within c.fmt 3&&within c.oL 65536&&within c.pq 65536&&within c.dep 16&&within c.oo 1024)):=Y rfl;rw[hg]at HW|-;obtain⟨f,m,fr,un,de,it⟩:=c;unfold nU.v nU.cs;dsimp only at HW A|-;by_cases h0:1<=f;case neg=>
  have HE:R (nV ⟨f,m,fr,un,de,it⟩=M):=Y (by rw[A.out];unfold within;simp[h0]);exact AO
 by_cases C:f<=3;case neg=>
  have HE:R (nV ⟨f,m,fr,un,de,it⟩=M):=Y (by rw[A.out];unfold within;simp[C]);exact AO
 by_cases E:1<=fr;case neg=>
  have HE:R (nV ⟨f,m,fr,un,de,it⟩=M):=Y (by rw[A.out];unfold within;simp[E]);exact AO
 by_cases J:fr<=65536;case neg=>
  have HE:R (nV ⟨f,m,fr,un,de,it⟩=M):=Y (by rw[A.out];unfold within;simp[J]);exact AO
 by_cases N:1<=un;case neg=>
  have HE:R (nV ⟨f,m,fr,un,de,it⟩=M):=Y (by rw[A.out];unfold within;simp[N]);exact AO
 by_cases aa:un<=65536;case neg=>
  have HE:R (nV ⟨f,m,fr,un,de,it⟩=M):=Y (by rw[A.out];unfold within;simp[aa]);exact AO
 by_cases ae:1<=de;case neg=>
  have HE:R (nV ⟨f,m,fr,un,de,it⟩=M):=Y (by rw[A.out];unfold within;simp[ae]);exact AO
 by_cases af:de<=16;case neg=>
  have HE:R (nV ⟨f,m,fr,un,de,it⟩=M):=Y (by rw[A.out];unfold within;simp[af]);exact AO
 by_cases ag:1<=it;case neg=>
  have HE:R (nV ⟨f,m,fr,un,de,it⟩=M):=Y (by rw[A.out];unfold within;simp[ag]);exact AO
 by_cases ah:it<=1024;case neg=>
  have HE:R (nV ⟨f,m,fr,un,de,it⟩=M):=Y (by rw[A.out];unfold within;simp[ah]);exact AO
 have HE:R (nV ⟨f,m,fr,un,de,it⟩=u):=Y (by rw[A.out];unfold within;simp[h0,C,E,J,N,aa,ae,af,ag,ah]);exact AO
def Ff(ds:List AC)(b:AC):Ao (ds++[b])=if Ao ds<1000000 then 10*Ao ds+(b.toNat - 48)else Ao ds:=by unfold Ao;rw[List.foldl_append];rfl
def a4e:∀(k:Nat)(ds:List AC),ds.length=k->(∀b,b∈ds->vC b=u)->Ao ds<10000000:=by
 intro k;induction k with
 |zero=>intro ds h _;rw[j5.1 h];simp[Ao]
 |succ k C=>
  intro ds h hd;obtain⟨A,b,rfl⟩:∃A b,ds=A++[b]:=⟨ds.dropLast,ds.getLast (by intro e;simp[e]at h),(List.dropLast_concat_getLast _).symm⟩;have hb:=hd b ny;simp only[vC,je,bb]at hb;have:=C A (by simpa using h) λc hc=>hd c (by simp[hc])
  rw[Ff];split<;>omega
def Kt(l:List AC)(k:Nat):∀b,b∈(pM l).take k->vC b=u:=λb hb=>a0J l b (List.mem_of_mem_take hb)
def Eg(s:An)(p:Nat)(w:K)(e:kV)(w':K):Prop:=
 ∃(n:Nat) (z:Int),e=mK (mJ #[V X (n:Int),V X z])/\w'=w/\n<10000000/\
  ((∃q:Nat,yw (ng s p)=O (n,ng s q)/\z=q/\q<=s.size/\p<=q)\/(yw (ng s p)=U/\z= -1/\n=0))
def a00(h:p:=by
 rcases hend with rfl|⟨hlt,hb'⟩|⟨hlt,hb'⟩
 .have d0:As ((s.size:Int)<s.size)=M:=ny
  go_wp2_with fail;exact HP _ _ ⟨0,_,rfl,rfl,I,.inr ⟨BQ.out,rfl,rfl⟩⟩
 .have d0:As ((q:Int)<s.size)=u:=nk
  have d1:As ((48:Int)<=(s[q].toNat:Int))=M:=nk;clear hb';go_wp2_with fail;exact HP _ _ ⟨0,_,rfl,rfl,I,.inr ⟨BQ.out,rfl,rfl⟩⟩
 .have d0:As ((q:Int)<s.size)=u:=nk
  have d1:As ((48:Int)<=(s[q].toNat:Int))=u:=nk;have d2:As ((s[q].toNat:Int)<=57)=M:=nk;clear hb';go_wp2_with fail;exact HP _ _ ⟨0,_,rfl,rfl,I,.inr ⟨BQ.out,rfl,rfl⟩⟩):p:=h
def Fg(h:p:=by
 go_wp2_with fail;exact HP _ _ ⟨n,_,rfl,rfl,hn,.inl ⟨_,BQ.out,rfl,hq3,hq2⟩⟩):p:=h
def JB(s:An)(p:Nat)(w:K)(hs:s.size<=1000)(hp:p<=s.size):
  iW iN 78 #[H s,V X (p:Int)] w (Eg s p w):=by
 have⟨D,hD⟩:=nE ((pM (ng s p)).length);have aF:=Y hD;have av:p+D<=s.size:=by
  exact Vo
 have HG:R (∀k,k<D->∃h:p+k<s.size,vC s[p+k]=u/\(pM (ng s p)).take (k+1)=(pM (ng s p)).take k++[s[p+k]]):=Y λk hk=>by
  exact Vq
 have aG:R (∀h:p+D<s.size,vC s[p+D]=M):=Y λh=>by
  refine Fa (ng s p) _ ?_;rw[yV,hD,zB,rz h];rfl
 have aH:R (past (ng s p)=ng s (p+D)):=Y (by rw[yV,hD,zB]);have H0:R (0<D->∃h:p<s.size,(pM (ng s p)).head? =O s[p]):=Y λh=>by
  exact Vm
 have aQ:R (∀k,Ao ((pM (ng s p)).take k)<10000000):=Y λk=>a4e _ _ rfl (Kt _ _)
 generalize aI:Eg s p w=aA;have HP:R (∀e w',Eg s p w e w'->aA e w'):=Y λe w' h=>by rw[<-aI];exact h
 clear hD aI;go_in;go_wp2;go_loopw [1,6] (λiv aR aS=>∃(k q n:Nat),iv=V X q/\aR=V X n/\R (p+k=q)/\q<=p+D/\p<=q/\R (n=Ao ((pM (ng s p)).take k))/\n<10000000/\aS=w) (λiv _ _=>p+D -(jF iv).toNat);case atStart=>exact⟨0,p,0,rfl,rfl,Y rfl,I,I,by simp[R,Ao],I,rfl⟩
 case round=>
  obtain⟨k,q,n,rfl,rfl,ah,aJ,hq2,aB,hn,rfl⟩:=hrel;have aY:k<=D:=by have:=ah.out;omega
  have af:=Y (HG k);rw[ah.out]at af;by_cases c:q<p+D
  .have⟨hlt,ai,htake⟩:=af.out (by have:=ah.out;omega)
   simp only[vC,je,bb]at ai;have ax:=Y (iU ai htake);have d0:As ((q:Int)<s.size)=u:=nk;have d1:As ((48:Int)<=(s[q].toNat:Int))=u:=nk;have d2:As ((s[q].toNat:Int)<=57)=u:=nk;have aU:48<=(s[q].toNat:Int):=I;have aV:(s[q].toNat:Int)<=57:=I;have aK:=Y (aQ (k+1));clear htake ai af;by_cases aj:n<1000000
   .have aW:As ((n:Int)<1000000)=u:=nk
    have aD:=Y aj;clear aj;go_wp2_with fail;have ak:Ao ((pM (ng s p)).take (k+1))=10*n+(s[q].toNat - 48):=by rw[ax.2,Ff,<-aB.out,Ax aD.out]
    refine⟨⟨k+1,q+1,10*n+(s[q].toNat - 48),by go_num,congrArg (lL IntKind.i64) I,Y (by have:=ah.out;omega),I,I,Y ak.symm,by have:=aK.out;rw[ak]at this;exact this,by first|trivial|rfl⟩,by simp[jF];omega⟩
   .have aW:As ((n:Int)<1000000)=M:=nk
    have aD:=Y aj;clear aj;go_wp2_with fail;have ak:Ao ((pM (ng s p)).take (k+1))=n:=by rw[ax.2,Ff,<-aB.out,At aD.out]
    refine⟨⟨k+1,q+1,n,by go_num,rfl,Y (by have:=ah.out;omega),I,I,Y ak.symm,hn,by first|trivial|rfl⟩,by simp[jF];omega⟩
  .obtain rfl:q=p+D:=I
   obtain rfl:k=D:=by have:=ah.out;omega
   have⟨q,au⟩:=nE (p+k);rw[au]at af aJ hq2 c aH av|-;have ay:=Y aG.out;rw[au]at ay;have aL:=Y au;clear ah aG af au c;have aM:R (n=Ao (pM (ng s p))):=Y (by rw[aB.out,kK (by have:=aF.out;omega)]);have hend:q=s.size\/(∃h:q<s.size,s[q].toNat<48)\/(∃h:q<s.size,57<s[q].toNat):=by
    rcases jL q s.size with h|h
    .right
     have h2:=ay.out h;exact Vp
    .exact .inl I
   have hlen:k=0\/k=1\/(1<k/\∃h:p<s.size,R (s[p].toNat=48))\/(1<k/\∃h:p<s.size,R (s[p].toNat≠48)):=by
    exact Vn
   have C:R (Am (pM (ng s p))=(As (k=1)||(As (1<k)&&As ((pM (ng s p)).head?≠O 48)))):=Y (by rw[Qd,aF.out]);have A:R (Am (pM (ng s p))=u->yw (ng s p)=O (n,ng s q)):=Y λh=>by unfold yw;rw[Ax h,<-aM.out,aH.out]
   have ae:R (Am (pM (ng s p))=M->yw (ng s p)=U):=Y λh=>by unfold yw;rw[At (by rw[h];simp)]
   have hq3:q<=s.size:=av;have aN:(q:Int)=p+k:=by have:=aL.out;omega
   have aO:(∃e1:Bool,((q:Int)==p)=e1/\e1=As (k=0))/\∃e2:Bool,As ((p:Int)+1<q)=e2/\e2=As (1<k):=by
    refine⟨⟨_,rfl,?_⟩,_,rfl,?_⟩;.rw[ei];simp;omega
    .rw[bx];omega
   obtain⟨⟨e1,aZ,E⟩,e2,aP,J⟩:=aO;have N:k≠0->p<s.size:=I;clear aN HG;rcases hlen with aa|aa|⟨aa,az,ag⟩|⟨aa,az,ag⟩
   .obtain rfl:e1=u:=by rw[E];simp;omega
    have BQ:=Y (ae (by rw[C.out];simp;omega));clear E J aa C A ae aP N;exact a00
   .obtain rfl:e1=M:=by rw[E];simp;omega
    obtain rfl:e2=M:=by rw[J];simp;omega
    have az:p<s.size:=N I;have BQ:=Y (A (by rw[C.out];simp;omega));clear E J aa C A ae N;rcases Bool.eq_false_or_eq_true ((s[p].toNat:Int)==48)with d5|d5
    all_goals
     rcases hend with rfl|⟨hlt,hb'⟩|⟨hlt,hb'⟩
     .have d0:As ((s.size:Int)<s.size)=M:=ny
      exact Fg
     .have d0:As ((q:Int)<s.size)=u:=nk
      have d1:As ((48:Int)<=(s[q].toNat:Int))=M:=nk;clear hb';exact Fg
     .have d0:As ((q:Int)<s.size)=u:=nk
      have d1:As ((48:Int)<=(s[q].toNat:Int))=u:=nk;have d2:As ((s[q].toNat:Int)<=57)=M:=nk;clear hb';exact Fg
   .obtain rfl:e1=M:=by rw[E];simp;omega
    obtain rfl:e2=u:=by rw[J];simp;omega
    have d5:((s[p].toNat:Int)==48)=u:=by have:=ag.out;simp;omega
    have BQ:=Y (ae (by
     have⟨_,h5⟩:=H0.out I;rw[C.out,h5,show s[p]=48 from kH.1 ag.out];simp;omega))
    clear E J aa C A ae N;exact a00
   .obtain rfl:e1=M:=by rw[E];simp;omega
    obtain rfl:e2=u:=by rw[J];simp;omega
    have d5:((s[p].toNat:Int)==48)=M:=by have:=ag.out;simp;omega
    have BQ:=Y (A (by
     have⟨_,h5⟩:=H0.out I;have aX:s[p]≠48:=λh=>ag.out (by rw[h];rfl)
     rw[C.out,h5];simp[aX];omega))
    clear E J aa C A ae N;rcases hend with rfl|⟨hlt,hb'⟩|⟨hlt,hb'⟩
    .have d0:As ((s.size:Int)<s.size)=M:=ny
     exact Fg
    .have d0:As ((q:Int)<s.size)=u:=nk
     have d1:As ((48:Int)<=(s[q].toNat:Int))=M:=nk;clear hb';exact Fg
    .have d0:As ((q:Int)<s.size)=u:=nk
     have d1:As ((48:Int)<=(s[q].toNat:Int))=u:=nk;have d2:As ((s[q].toNat:Int)<=57)=M:=nk;clear hb';exact Fg
def BR(aE:Option (mW TL×List AC))(s:An)(w:K)(e:kV)(w':K):Prop:=
 ∃(a:TL) (o:Option j4) (n c:Nat) (z:Int),e=mK (mJ #[mI #[V X a.kind,V X a.size,G o n c,V X a.tail],V X z])/\iR w.heap.size w w'/\
  ((∃sub q,aE=O (.node a sub,ng s q)/\z=(q:Nat)/\q<=s.size/\TL.wf a/\nK.nA w' (λk=>w.heap.size<=k) (G o n c) sub)\/(aE=U/\z= -1))
def SF{k:Int}(h0:0<=k)(A:k<=100000000):(lN X k).wf=u:=by
 exact Vt
def JC{k z t:Int}(h:(0<=k/\k<=100000000)/\(0<=z/\z<=100000000)/\(0<=t/\t<=100000000)):TL.wf ⟨k,z,t⟩:=⟨SF h.1.1 h.1.2,SF h.2.1.1 h.2.1.2,SF h.2.2.1 h.2.2.2⟩
def Br(w:K)(Q:Nat->Prop):nK.nA w Q (G U 0 0) []:=⟨U,0,rfl,iP _,jB _,λh=>absurd h ny⟩
def Lu(s:An)(p:Nat):(ng s p).length=s.size - p:=by unfold ng;rw[jP];rfl
def He(hb:iR gr w0 w)(E:∃cs,mY w gr cs TT/\cs.size=4)(A B C D:iQ):
  (p9 w gr A B C D).cell? (Z gr 0 U)=O A/\(p9 w gr A B C D).cell? (Z gr 1 U)=O B/\(p9 w gr A B C D).cell? (Z gr 2 U)=O C/\(p9 w gr A B C D).cell? (Z gr 3 U)=O D/\iR gr w0 (p9 w gr A B C D):=by
 obtain⟨cs,J,N⟩:=E;have hB:=wZ (a:=A) (b:=B) (c:=C) (d:=D) J N;exact⟨hB.cell 0,hB.cell 1,hB.cell 2,hB.cell 3,hb.os,hb.tape,hb.output,jk hb.size (kP yX.symm),λk hk=>(Bo k I).trans (hb.block k hk)⟩
def yf{a:lY}{w1:K}{aE:Option (mW TL×List AC)}{A:kV->K->Prop}(hb:iR g w w1)(N:∃cs,mY w1 g cs TT/\cs.size=4)(t:TL)(o:Option j4)(n c:Nat)(z:Int)(aa:BR aE s w=A)(hg:w.heap.size=g)(C:a.tmps.getD 6 jw=mG (O (Z g 0 U)))(E:a.tmps.getD 7 jw=V X z)(hd:a.defers=[])(ae:(∃sub q,aE=O (.node t sub,ng s q)/\z=(q:Nat)/\q<=s.size/\TL.wf t/\nK.nA (p9 w1 g (V X t.kind) (V X t.size) (G o n c) (V X t.tail)) (λk=>w.heap.size<=k) (G o n c) sub)\/(aE=U/\z= -1)):
  bodyPost iN Tryz.f46 A .ret a (p9 w1 g (V X t.kind) (V X t.size) (G o n c) (V X t.tail)):=by
 have⟨af,e1,e2,e3,J⟩:=He hb N (V X t.kind) (V X t.size) (G o n c) (V X t.tail);refine iY (v:=mJ #[mI #[V X t.kind,V X t.size,G o n c,V X t.tail],V X z]) ?_ hd ?_
 .rw[jJ]at C E
  simp[jv,Tryz.results46,go_sem,af,e1,e2,e3,C,E]
 .rw[<-aa]
  exact⟨t,o,n,c,z,rfl,hg▸J,ae⟩
def vN(C:∃cs,mY w gr cs TT/\cs.size=4):(∃x,w.cell? (Z gr 0 U)=O x)/\(∃x,w.cell? (Z gr 1 U)=O x)/\(∃x,w.cell? (Z gr 2 U)=O x)/\(∃x,w.cell? (Z gr 3 U)=O x)/\
  w.frozen? (Z gr 0 U)=M/\w.frozen? (Z gr 1 U)=M/\w.frozen? (Z gr 2 U)=M/\w.frozen? (Z gr 3 U)=M:=by
 obtain⟨⟨l⟩,A,E⟩:=C
 match l,E with
 |[x,y,z,ar],_=>exact⟨⟨x,A.cell 0⟩,⟨y,A.cell 1⟩,⟨z,A.cell 2⟩,⟨ar,A.cell 3⟩,A.free 0,A.free 1,A.free 2,A.free 3⟩
structure N8(w0:K)(gr:Nat)(v:iQ)(L:List (pI TL))(t:Nat)(w:K):Prop where
 pV:iR gr w0 w
 res:∃cs,mY w gr cs TT/\cs.size=4
 st:Yz w (gr+1) v t
 own:wG nK TT w (gr+2) v L
 hlen:L.length<=2000
 ht:t<=2000
 hB:gr+2<=w.heap.size
def N8.sub(h:N8 w0 gr v L t w)(hb:iR w.heap.size w w'):N8 w0 gr v L t w':=by
 have⟨cs,A,C⟩:=h.res;exact⟨h.pV.trans (hb.mono (by have:=h.hB;omega)),⟨cs,a7 hb A A.lt,C⟩,a7 hb h.st (mY.lt h.st),h.own.below hb,h.hlen,h.ht,jk h.hB hb.size⟩
def N8.more(h:N8 w0 gr v L t w)(ht:t<2000):N8 w0 gr v L (t+1) (w.setCell (Z (gr+1) 3 U) (V X ((t:Int)+1))):=by
 have⟨cs,A,C⟩:=h.res;have E:oO (gr+1) w (w.setCell (Z (gr+1) 3 U) (V X ((t:Int)+1))):=(b9 _ _).set 3 _;exact⟨h.pV.setCell (p:=(Z (gr+1) 3 U)) ny _,⟨cs,A.setOther ny _,C⟩,h.st.more,h.own.upd E I,h.hlen,I,by simpa [jr]using h.hB⟩
def N8.grown(h:N8 w0 gr v L t w)(hL:L.length<2000)(ho:wG nK TT w' (gr+2) v' (L++[y]))(hb:iR (gr+2) w w')(hsz:w.heap.size<w'.heap.size):
  N8 w0 gr v' (L++[y]) t (w'.setCell (Z (gr+1) 2 U) v'):=by
 have⟨cs,C,E⟩:=h.res;have J:oO (gr+1) w' (w'.setCell (Z (gr+1) 2 U) v'):=(b9 _ _).set 2 _;have A:Yz w' (gr+1) v t:=a7 hb h.st I;exact⟨(h.pV.trans (hb.mono I)).setCell (p:=(Z (gr+1) 2 U)) ny _,⟨cs,(a7 hb C I).setOther ny _,E⟩,A.sub v',ho.upd J I,nk,h.ht,by simp[jr];have:=h.hB;omega⟩
def N8.c0(h:N8 w0 gr v L t w):w.cell? (Z (gr+1) 0 U)=O (V X 5)/\w.cell? (Z (gr+1) 1 U)=O (V X 0)/\
  w.cell? (Z (gr+1) 2 U)=O v/\w.cell? (Z (gr+1) 3 U)=O (V X (t:Int))/\w.frozen? (Z (gr+1) 2 U)=M/\w.frozen? (Z (gr+1) 3 U)=M:=by
 have:=h.st;exact⟨b5 this 0,b5 this 1,b5 this 2,b5 this 3,ec this 2,ec this 3⟩
def a6W{sub:List (mW TL)}:o5 pf (f+1) (125::r) sub t=O (.node ⟨5,0,t⟩ sub,r):=by simp[o5]
def a6X{sub:List (mW TL)}:o5 pf (f+1) [] sub t=U:=by simp[o5]
def a01{b:AC}{sub:List (mW TL)}(hb:b≠125)(hs:sub≠[])(hc:b≠44):o5 pf (f+1) (b::r) sub t=U:=by
 have:sub.isEmpty=M:=by cases sub<;>simp_all
 simp[o5,hb,this,hc]
def a02{b:AC}(hb:b≠125):o5 pf (f+1) (b::r) [] t=(mark (b::r) t).bind λq=>(pf q.1).bind λy=>o5 pf f y.2 ([]++[y.1]) q.2:=by
 simp[o5,hb]
def a4f{sub:List (mW TL)}(hs:sub≠[]):o5 pf (f+1) (44::r) sub t=(mark r t).bind λq=>(pf q.1).bind λy=>o5 pf f y.2 (sub++[y.1]) q.2:=by
 have:sub.isEmpty=M:=by cases sub<;>simp_all
 simp[o5,this]
def a4g(D:Nat)(s:An)(p:Nat)(hp:p<s.size)(b:AC)(hb:s[p]=b):ps (D+1) (ng s p)=
  if b=117 then(yw (ng s (p+1))).bind λq=>if q.1 % 8=0 then O (.node ⟨1,(q.1/8:Nat),0⟩ [],q.2)else U
  else if b=98 then(yw (ng s (p+1))).bind λq=>O (.node ⟨2,q.1,0⟩ [],q.2)
  else if b=115 then(yw (ng s (p+1))).bind λq=>O (.node ⟨3,q.1,0⟩ [],q.2)
  else if b=91 then(ps D (ng s (p+1))).bind λy=>match y.2 with
    |58::r2=>(yw r2).bind λq=>match q.2 with
     |93::r4=>O (.node ⟨4,q.1,0⟩ [y.1],r4)
     |_=>U
    |_=>U
  else if b=123 then o5 (ps D) (s.size - p) (ng s (p+1)) [] 0
  else U:=by
 rw[rz hp,hb];simp only[ps];rw[show(ng s (p+1)).length+1=s.size - p by rw[Lu];omega];rfl
def a6Y(D:Nat)(s:An)(p:Nat)(hp:s.size<=p):ps (D+1) (ng s p)=U:=by
 rw[sJ hp];rfl
def Eh(h:p:=by
 have:=EP _ _ _ h1;simp only[Lu]at this;omega):p:=h
def a03(h:p:=by
 have⟨c0,c1,c2,c3,z2,z3⟩:=F5.c0;have⟨q0,q1,q2,q3⟩:=G5.2.1.a4;have HS5:R (nK.nA w5 (λk=>g+2<=k/\(jM oa aw cap).ownBlock≠O k) (G o n c) sub):=Y (h4.keep G5.2.2.size (λk hk hq=>⟨I,λe=>by have:=(HOB k e).2;omega⟩) λk hk _=>G5.2.2.block k hk);have HWF:=Y h3;have hB5:g+2<=w5.heap.size:=F5.hB;have HOWN:=Y F5.own;have a6Z:aw<=1000:=I;clear h1 h3 h4 BG;go_upto_region 40 with(at_builtin;refine yc (S:=nK) Ed hi hz0 hz1 hz2 rfl mX Nb rfl (.tmp 181) (.tmp 183) rfl (g+2) (G oa aw cap) L ⟨a,G o n c,sub⟩ w5 _ rfl rfl HOWN rfl (by have:=HM.out;omega) mX hB5 HWF HS5 ?_;intro g2 cap2 w6 hown6 hb6 a04 a7a;have hcc:w6.cell? (Z (g+1) 2 U)=O (G oa aw cap):=(hb6.cell (p:=(Z (g+1) 2 U)) (show g+1<g+2 by omega)).trans c2;have hfz:w6.frozen? (Z (g+1) 2 U)=M:=(hb6.frozen (p:=(Z (g+1) 2 U)) (show g+1<g+2 by omega)).trans z2)
 have F7:=Y (F5.grown (by have:=HM.out;omega) hown6 hb6 a04);generalize w6.setCell (Z (g+1) 2 U) (G (O (Z g2 0 U)) (L.length+1) cap2)=w7 at*;have HTR:R ((L++[(⟨a,G o n c,sub⟩:pI TL)]).map pI.tree=L.map pI.tree++[.node a sub]):=Y (by simp[pI.tree]);have HLN:R ((L++[(⟨a,G o n c,sub⟩:pI TL)]).length=aw+1):=Y (by rw[jo,HM.out];rfl);have⟨L2,hL2⟩:∃L2,L++[(⟨a,G o n c,sub⟩:pI TL)]=L2:=⟨_,rfl⟩;rw[hL2]at HTR HLN F7;clear hcc hfz hown6 hb6 a04 a7a c0 c1 c2 c3 z2 z3 q0 q1 q2 q3 HOWN HS5 HWF hL2;go_wp2_with fail;have h3:=HLN.out;refine⟨⟨f,p2,t+1,_,L2,rfl,Y F7.out,I,Y (by rw[HST.out,Sy.out,jG,HPS.out,jG,HTR.out]),I,I,h2⟩,?_⟩;simp only[jF,cF];omega):p:=h
def a05(h:p:=by
 have⟨c0,c1,c2,c3,z2,z3⟩:=F5.c0;have⟨q0,q1,q2,q3⟩:=G5.2.1.a4;have HS5:R (nK.nA w5 (λk=>g+2<=k/\(jM oa aw cap).ownBlock≠O k) (G o n c) sub):=Y (h4.keep G5.2.2.size (λk hk hq=>⟨I,λe=>by have:=(HOB k e).2;omega⟩) λk hk _=>G5.2.2.block k hk);have HWF:=Y h3;have hB5:g+2<=w5.heap.size:=F5.hB;have HOWN:=Y F5.own;have a6Z:aw<=1000:=I;clear h1 h3 h4 BG;go_upto_region 40 with(at_builtin;refine yc (S:=nK) Ed hi hz0 hz1 hz2 rfl mX Nb rfl (.tmp 181) (.tmp 183) rfl (g+2) (G oa aw cap) L ⟨a,G o n c,sub⟩ w5 _ rfl rfl HOWN rfl (by have:=HM.out;omega) mX hB5 HWF HS5 ?_;intro g2 cap2 w6 hown6 hb6 a04 a7a;have hcc:w6.cell? (Z (g+1) 2 U)=O (G oa aw cap):=(hb6.cell (p:=(Z (g+1) 2 U)) (show g+1<g+2 by omega)).trans c2;have hfz:w6.frozen? (Z (g+1) 2 U)=M:=(hb6.frozen (p:=(Z (g+1) 2 U)) (show g+1<g+2 by omega)).trans z2)
 have F7:=Y (F5.grown (by have:=HM.out;omega) hown6 hb6 a04);generalize w6.setCell (Z (g+1) 2 U) (G (O (Z g2 0 U)) (L.length+1) cap2)=w7 at*;have HTR:R ((L++[(⟨a,G o n c,sub⟩:pI TL)]).map pI.tree=L.map pI.tree++[.node a sub]):=Y (by simp[pI.tree]);have HLN:R ((L++[(⟨a,G o n c,sub⟩:pI TL)]).length=aw+1):=Y (by rw[jo,HM.out];rfl);have⟨L2,hL2⟩:∃L2,L++[(⟨a,G o n c,sub⟩:pI TL)]=L2:=⟨_,rfl⟩;rw[hL2]at HTR HLN F7;clear hcc hfz hown6 hb6 a04 a7a c0 c1 c2 c3 z2 z3 q0 q1 q2 q3 HOWN HS5 HWF hL2;go_wp2_with fail;have h3:=HLN.out;refine⟨⟨f,p2,0,_,L2,rfl,Y F7.out,I,Y (by rw[HST.out,Sy.out,jG,HPS.out,jG,HTR.out]),I,I,h2⟩,?_⟩;simp only[jF,cF];omega):p:=h
def Vx(h:p:=by
 go_wp2_with fail;rw[nX];exact yf F.pV F.res ⟨0,0,0⟩ U 0 0 (-1) HP hg rfl rfl rfl (.inr ⟨HN.out,rfl⟩)):p:=h
def JD(h:p:=by
 have HN:R (aE=U):=Y (by rw[HST.out,Sy.out,jG,h1];rfl);have⟨⟨x0,r0⟩,⟨x1,r1⟩,⟨x2,r2⟩,⟨x3,r3⟩,y0,y1,y2,y3⟩:=vN F5.res;clear h1 BG;go_wp2_with fail;rw[nX];exact yf F5.pV F5.res ⟨0,0,0⟩ U 0 0 (-1) HP hg rfl rfl rfl (.inr ⟨HN.out,rfl⟩)):p:=h
def JE(h:p:=by
 subst h;have hal:=(iT w4.heap.size w4).alloc (iP _) (mM #[V X a.kind,V X a.size,G o n c,V X a.tail] TT);exact⟨(F3.sub HB4).sub hal,mY.new w4 _ _,hal⟩):p:=h
def SG(h:p:=by
 clear hout;go_in;go_upto_region 1 with fail;generalize w.alloc (mM #[V X 0,V X 0,G U 0 0,V X 0] TT)=w1 at*;have ao:=Y (HA _ rfl);clear HA;have⟨⟨x0,r0⟩,⟨x1,r1⟩,⟨x2,r2⟩,⟨x3,r3⟩,y0,y1,y2,y3⟩:=vN ao.2.1;go_wp2_with fail;rw[nX];exact yf ao.1 ao.2.1 ⟨0,0,0⟩ U 0 0 (-1) HP hg rfl rfl rfl (.inr ⟨HN.out,rfl⟩)):p:=h
def Fh(h:p:=by
 go_wp2_with fail;rw[nX];exact yf G3.1 G3.2.1 ⟨0,0,0⟩ U 0 0 (-1) HP hg rfl rfl rfl (.inr ⟨HN.out,rfl⟩)):p:=h
def SH(h:p:=by
 have d7:As (0<t)=u:=a8 ht0;have HN:R (aE=U):=Y (by rw[HST.out,Ni.out,Ax ht0];rfl);clear ht0;go_wp2_with fail;rw[nX];exact yf F.pV F.res ⟨0,0,0⟩ U 0 0 (-1) HP hg rfl rfl rfl (.inr ⟨HN.out,rfl⟩)):p:=h
def a06(h:p:=by
 subst h;have hal:=(iT w.heap.size w).alloc (iP _) (mM #[V X 0,V X 0,G U 0 0,V X 0] TT);have hb1:=mY.new w #[V X 0,V X 0,G U 0 0,V X 0] TT;rw[hg]at hal hb1;exact⟨hal,⟨_,hb1,rfl⟩,nk⟩):p:=h
def XH(s:An)(hs:s.size<=1000):∀(D dep p:Nat)(w:K),dep+D=9->p<=s.size->
  iW iN 46 #[H s,V X (p:Int),V X (dep:Int)] w (BR (ps D (ng s p)) s w):=by
 intro D;induction D with
 |zero=>
  intro dep p w hd hp;have dE:As (8<(dep:Int))=u:=nk;obtain⟨g,hg⟩:=o7 w;have HA:R (∀W,w.alloc (mM #[V X 0,V X 0,G U 0 0,V X 0] TT)=W->iR g w W/\(∃cs,mY W g cs TT/\cs.size=4)/\W.heap.size=g+1):=Y λW h=>by
   exact a06
  have⟨aE,aV⟩:=nE (ps (0) (ng s p));have bE:=Y aV;rw[aV];have⟨bR,aW⟩:=nE (BR aE s w);have HP:=Y aW;rw[aW];have aX:=Y hd;clear aV aW hd;have HN:R (aE=U):=Y (by rw[<-bE.out];rfl);by_cases hout:s.size<=p
  .have bS:As (s.size<=p)=u:=a8 I
   exact SG
  .have bS:As (s.size<=p)=M:=bh I
   exact SG
 |succ D bX=>
  intro dep p w hd hp;have dE:As (8<(dep:Int))=M:=nk;have dF:dep<=8:=I;obtain⟨g,hg⟩:=o7 w;have HA:R (∀W,w.alloc (mM #[V X 0,V X 0,G U 0 0,V X 0] TT)=W->iR g w W/\(∃cs,mY W g cs TT/\cs.size=4)/\W.heap.size=g+1):=Y λW h=>by
   exact a06
  have⟨aE,aV⟩:=nE (ps (D+1) (ng s p));have bE:=Y aV;rw[aV];have⟨bR,aW⟩:=nE (BR aE s w);have HP:=Y aW;rw[aW];have aX:=Y hd;clear aV aW hd;have bC:=Y bX;clear bX;by_cases hout:s.size<=p
  .have HN:R (aE=U):=Y (by rw[<-bE.out,a6Y D s p hout])
   have bS:As (s.size<=p)=u:=a8 I;exact SG
  .have bY:p<s.size:=I
   have bS:As (s.size<=p)=M:=bh I;have C:=Y (bE.symm.trans (a4g D s p bY s[p] rfl));clear hout bE;have hk:R (∀c:AC,s[p]≠c->((s[p].toNat:Int)==(c.toNat:Int))=M):=Y λc h=>by
    rw[bj];intro aY;exact h (kH.1 I)
   have aA:R (∀c:AC,s[p]≠c->((s[p].toNat:Int) !=(c.toNat:Int))=u):=Y λc h=>by
    rw[ce];intro aY;exact h (kH.1 I)
   go_in;go_upto_region 1 with fail;generalize w.alloc (mM #[V X 0,V X 0,G U 0 0,V X 0] TT)=w1 at*;have ao:=Y (HA _ rfl);clear HA;have⟨⟨x0,r0⟩,⟨x1,r1⟩,⟨x2,r2⟩,⟨x3,r3⟩,y0,y1,y2,y3⟩:=vN ao.2.1;have⟨q,hq⟩:=nE (p+1);have dG:=Y hq;have bF:q<=s.size:=I;rw[hq]at C;have e1:(p:Int)+1=q:=I;have bG:=Y e1;clear hq e1;have bZ:=Y (JB s q w1 hs bF);have aF:R (iW iN 78 #[H s,V X ((p:Int)+1)] w1 (Eg s q w1)):=Y (by rw[bG.out];exact bZ);clear bZ;by_cases ak:s[p]=117
   .have l0:((s[p].toNat:Int)==117)=u:=by rw[ak];rfl
    have E:=Y C.out;rw[Ax ak]at E;clear ak C hk aA;go_wp2_with fail;refine(aF).mono ?_;rintro e w2 ⟨n,z,rfl,rfl,hn,A⟩;have HN:=Y hn;rcases A with⟨q2,h1,rfl,h2,h3⟩|⟨h1,rfl,rfl⟩
    .by_cases bL:n % 8=0
     .have dm:((n:Int) % 8 !=0)=M:=nk
      have⟨nd,bO⟩:=nE (n/8);have dO:(n:Int)/8=nd:=I;have af:R (aE=O (.node ⟨1,(nd:Int),0⟩ [],ng s q2)):=Y (by rw[E.out,h1,jG,Ax bL,bO]);have bH:nd<=10000000:=I;have bD:=Y (iU h2 bH);have dH:(nd:Int)<=10000000:=I;clear h1 bL bO hn bH;go_wp2_with fail;rw[nX];exact yf ao.1 ao.2.1 ⟨1,(nd:Int),0⟩ U 0 0 (q2:Int) HP hg rfl rfl rfl (.inl ⟨[],q2,af.out,rfl,bD.1,JC (by have:=bD.2;omega),Br _ _⟩)
     .have dm:((n:Int) % 8 !=0)=u:=yE
      have af:R (aE=U):=Y (by rw[E.out,h1,jG,At bL]);clear h1 bL hn;go_wp2_with fail;rw[nX];exact yf ao.1 ao.2.1 ⟨0,0,0⟩ U 0 0 (-1) HP hg rfl rfl rfl (.inr ⟨af.out,rfl⟩)
    .have af:R (aE=U):=Y (by rw[E.out,h1];rfl)
     clear h1 hn;go_wp2_with fail;rw[nX];exact yf ao.1 ao.2.1 ⟨1,0,0⟩ U 0 0 (-1) HP hg rfl rfl rfl (.inr ⟨af.out,rfl⟩)
   have dI:((s[p].toNat:Int)==117)=M:=hk.out 117 ak;have aN:=Y C.out;rw[At ak]at aN;clear ak C;have C:=aN;clear aN;by_cases aG:s[p]=98
   .have l0:((s[p].toNat:Int)==98)=u:=by rw[aG];rfl
    have E:=Y C.out;rw[Ax aG]at E;clear aG C hk aA;go_wp2_with fail;refine(aF).mono ?_;rintro e w2 ⟨n,z,rfl,rfl,hn,A⟩;have HN:=Y hn;rcases A with⟨q2,h1,rfl,h2,h3⟩|⟨h1,rfl,rfl⟩
    .have af:R (aE=O (.node ⟨2,(n:Int),0⟩ [],ng s q2)):=Y (by rw[E.out,h1];rfl)
     have bD:=Y h2;clear h1 hn;go_wp2_with fail;rw[nX];exact yf ao.1 ao.2.1 ⟨2,(n:Int),0⟩ U 0 0 (q2:Int) HP hg rfl rfl rfl (.inl ⟨[],q2,af.out,rfl,bD.out,JC (by have:=HN.out;omega),Br _ _⟩)
    .have af:R (aE=U):=Y (by rw[E.out,h1];rfl)
     clear h1 hn;go_wp2_with fail;rw[nX];exact yf ao.1 ao.2.1 ⟨2,0,0⟩ U 0 0 (-1) HP hg rfl rfl rfl (.inr ⟨af.out,rfl⟩)
   have dP:((s[p].toNat:Int)==98)=M:=hk.out 98 aG;have aB:=Y C.out;rw[At aG]at aB;clear aG C;have C:=aB;clear aB;by_cases au:s[p]=115
   .have l0:((s[p].toNat:Int)==115)=u:=by rw[au];rfl
    have E:=Y C.out;rw[Ax au]at E;clear au C hk aA;go_wp2_with fail;refine(aF).mono ?_;rintro e w2 ⟨n,z,rfl,rfl,hn,A⟩;have HN:=Y hn;rcases A with⟨q2,h1,rfl,h2,h3⟩|⟨h1,rfl,rfl⟩
    .have af:R (aE=O (.node ⟨3,(n:Int),0⟩ [],ng s q2)):=Y (by rw[E.out,h1];rfl)
     have bD:=Y h2;clear h1 hn;go_wp2_with fail;rw[nX];exact yf ao.1 ao.2.1 ⟨3,(n:Int),0⟩ U 0 0 (q2:Int) HP hg rfl rfl rfl (.inl ⟨[],q2,af.out,rfl,bD.out,JC (by have:=HN.out;omega),Br _ _⟩)
    .have af:R (aE=U):=Y (by rw[E.out,h1];rfl)
     clear h1 hn;go_wp2_with fail;rw[nX];exact yf ao.1 ao.2.1 ⟨3,0,0⟩ U 0 0 (-1) HP hg rfl rfl rfl (.inr ⟨af.out,rfl⟩)
   have dJ:((s[p].toNat:Int)==115)=M:=hk.out 115 au;have aO:=Y C.out;rw[At au]at aO;clear au C;have C:=aO;clear aO;by_cases aH:s[p]=91
   .have l0:((s[p].toNat:Int)==91)=u:=by rw[aH];rfl
    have E:=Y C.out;rw[Ax aH]at E;have ag:R (iW iN 46 #[H s,V X ((p:Int)+1),V X ((dep:Int)+1)] w1 (BR (ps D (ng s q)) s w1)):=Y (by rw[bG.out];exact bC (dep+1) q w1 (by have:=aX.out;omega) bF);clear aH C hk aA aF;go_wp2_with fail;refine(ag).mono ?_;rintro e w2 ⟨a,o,n,c,z,rfl,ah,A⟩;have hz1:=ao.2.2;have aQ:R (∀W,w2.alloc (mM #[V X a.kind,V X a.size,G o n c,V X a.tail] TT)=W->iR g w W/\(∃cs,mY W g cs TT/\cs.size=4)/\mY W w2.heap.size #[V X a.kind,V X a.size,G o n c,V X a.tail] TT/\iR w2.heap.size w2 W):=Y λW h=>by
     subst h;have hal:=(iT w2.heap.size w2).alloc (iP _) (mM #[V X a.kind,V X a.size,G o n c,V X a.tail] TT);have⟨cs,h1,h2⟩:=ao.2.1;have h3:iR g w w2:=ao.1.trans (ah.mono I);exact⟨h3.trans (hal.mono (by have:=ah.size;omega)),⟨cs,a7 hal (a7 ah h1 I) (by have:=ah.size;omega),h2⟩,mY.new w2 _ _,hal⟩
    have BG:=Y A;have hz2:g+1<=w2.heap.size:=by have:=ah.size;omega
    clear A ah ag x0 r0 x1 r1 x2 r2 x3 r3 y0 y1 y2 y3;go_upto_region 17 with fail;generalize w2.alloc (mM #[V X a.kind,V X a.size,G o n c,V X a.tail] TT)=w3 at*;have G3:=Y (aQ _ rfl);have⟨⟨x0,r0⟩,⟨x1,r1⟩,⟨x2,r2⟩,⟨x3,r3⟩,y0,y1,y2,y3⟩:=vN G3.2.1;have⟨dU,dV,dW,dX⟩:=G3.2.2.1.a4;have dQ:g<w3.heap.size:=by have:=G3.2.2.2.size;omega
    clear aQ;rcases BG.out with⟨sub,q2,h1,rfl,h2,h3,h4⟩|⟨h1,rfl⟩
    .have aR:=Y h1
     have bI:R (TL.wf a/\nK.nA w3 (λk=>g+1<=k) (G o n c) sub):=Y ⟨h3,h4.keep G3.2.2.2.size (λk _ hk=>by omega) λk hk _=>G3.2.2.2.block k hk⟩;have dR:As ((q2:Int)<0)=M:=ny;clear h1 h3 h4 BG;by_cases he:s.size<=q2
     .have bT:As (s.size<=q2)=u:=a8 he
      have HN:R (aE=U):=Y (by rw[E.out,aR.out];simp only[jG,sJ he]);clear he;exact Fh
     .have hlt:q2<s.size:=I
      have bT:As (s.size<=q2)=M:=bh he;have bg:=Y (rz hlt);clear he;by_cases aI:s[q2]=58
      .have l2:((s[q2].toNat:Int) !=58)=M:=by rw[aI];rfl
       have aJ:R (aE=(yw (ng s (q2+1))).bind λq=>match q.2 with
         |93::r4=>O (.node ⟨4,q.1,0⟩ [.node a sub],r4)
         |_=>U):=Y (by rw[E.out,aR.out];simp only[jG,bg.out,aI]<;>rfl)
       have cz:R (iW iN 78 #[H s,V X ((q2:Int)+1)] w3 (Eg s (q2+1) w3)):=Y (JB s (q2+1) w3 hs I);clear aI E aR bg;go_wp2_with fail;refine(cz).mono ?_;rintro e w4 ⟨aZ,z2,rfl,rfl,aS,bM⟩;have cK:=Y aS;rcases bM with⟨q3,g1,rfl,g2,g3⟩|⟨g1,rfl,rfl⟩
       .have aU:=Y g1
        clear g1;by_cases he:s.size<=q3
        .have d4:As (s.size<=q3)=u:=a8 he
         have HN:R (aE=U):=Y (by rw[aJ.out,aU.out];simp only[jG,sJ he]);clear he aS;exact Fh
        .have bU:q3<s.size:=I
         have d4:As (s.size<=q3)=M:=bh he;have bq:=Y (rz bU);clear he;by_cases aK:s[q3]=93
         .have bJ:((s[q3].toNat:Int) !=93)=M:=by rw[aK];rfl
          have af:R (aE=O (.node ⟨4,(aZ:Int),0⟩ [.node a sub],ng s (q3+1))):=Y (by rw[aJ.out,aU.out];simp only[jG,bq.out,aK]);clear aK aJ bq aU aS;have dK:q3<=1000:=I;go_wp2_with fail;rw[nX];have⟨dL,e1,e2,e3,cZ⟩:=He G3.1 G3.2.1 (V X 4) (V X (aZ:Int)) (G (O (Z w4.heap.size 0 U)) 1 1) (V X 0);have aP:=wY (g:=g) (a:=V X 4) (b:=V X (aZ:Int)) (c:=G (O (Z w4.heap.size 0 U)) 1 1) (d:=V X 0) bI.2 (λk hk=>by omega);have df:=yX (w:=w4) (g:=g) (a:=V X 4) (b:=V X (aZ:Int)) (c:=G (O (Z w4.heap.size 0 U)) 1 1) (d:=V X 0);generalize p9 w4 g (V X 4) (V X (aZ:Int)) (G (O (Z w4.heap.size 0 U)) 1 1) (V X 0)=w5 at*;have hal:=(iT w5.heap.size w5).alloc (iP _) (mM #[V X a.kind,V X a.size,G o n c,V X a.tail] TT);have bP:=mY.new w5 #[V X a.kind,V X a.size,G o n c,V X a.tail] TT;rw[df]at bP;have bN:=aP.below hal;have dh:=(hal.cell (p:=(Z g 0 U)) (show g<w5.heap.size by omega)).trans dL;have i1:=(hal.cell (p:=(Z g 1 U)) (show g<w5.heap.size by omega)).trans e1;have i2:=(hal.cell (p:=(Z g 2 U)) (show g<w5.heap.size by omega)).trans e2;have i3:=(hal.cell (p:=(Z g 3 U)) (show g<w5.heap.size by omega)).trans e3;have bV:=cZ.trans (hal.mono I);generalize w5.alloc (mM #[V X a.kind,V X a.size,G o n c,V X a.tail] TT)=w6 at*;refine iY (v:=mJ #[mI #[V X 4,V X (aZ:Int),G (O (Z w4.heap.size 0 U)) 1 1,V X 0],V X ((q3:Int)+1)]) (by simp[jv,Tryz.results46,go_sem,dh,i1,i2,i3]) rfl ?_;rw[<-HP.out];exact⟨⟨4,(aZ:Int),0⟩,_,1,1,_,rfl,hg▸bV,.inl ⟨_,q3+1,af.out,ny,I,JC (by have:=cK.out;omega),(Qh (Q:=λk=>g+1<=k) bP bI.1 bN I).keep (iP _) (λk _ hk=>by omega) λ_ _ _=>rfl⟩⟩
         .have bJ:((s[q3].toNat:Int) !=93)=u:=by rw[ce];intro aY;exact aK (kH.1 (by have:(93:AC).toNat=93:=rfl;omega))
          have HN:R (aE=U):=Y (by
           rw[aJ.out,aU.out];simp only[jG,bq.out];split;.rename_i r4 e4;exact absurd (List.cons.inj e4).1 aK
           .rfl)
          clear aK aJ bq aU aS;exact Fh
       .have HN:R (aE=U):=Y (by rw[aJ.out,g1];rfl)
        clear g1 aS;exact Fh
      .have l2:((s[q2].toNat:Int) !=58)=u:=by rw[ce];intro aY;exact aI (kH.1 (by have:(58:AC).toNat=58:=rfl;omega))
       have HN:R (aE=U):=Y (by
        rw[E.out,aR.out];simp only[jG,bg.out];split;.rename_i r4 e4;exact absurd (List.cons.inj e4).1 aI
        .rfl)
       clear aI E aR bg;exact Fh
    .have HN:R (aE=U):=Y (by rw[E.out,h1];rfl)
     clear h1 BG;exact Fh
   have dS:((s[p].toNat:Int)==91)=M:=hk.out 91 aH;have aD:=Y C.out;rw[At aH]at aD;clear aH C;have C:=aD;clear aD;by_cases av:s[p]=123
   .have l0:((s[p].toNat:Int) !=123)=M:=by rw[av];rfl
    have E:=Y C.out;rw[Ax av]at E;clear av C hk aA aF;have⟨dh,hi,hz0,hz1,hz2⟩:=info_parts Vr;have aQ:R (∀W,w1.alloc (mM #[V X 5,V X 0,G U 0 0,V X 0] TT)=W->N8 w g (G U 0 0) [] 0 W):=Y λW h=>by
     subst h;have hz1:=ao.2.2;have hal:=(iT w1.heap.size w1).alloc (iP _) (mM #[V X 5,V X 0,G U 0 0,V X 0] TT);have ah:=mY.new w1 #[V X 5,V X 0,G U 0 0,V X 0] TT;have⟨cs,h1,h2⟩:=ao.2.1;rw[hz1]at ah;exact⟨ao.1.trans (hal.mono I),⟨cs,a7 hal h1 I,h2⟩,ah,wG.nil _ _ _ _,ny,I,nk⟩
    have hz1:=ao.2.2;clear x0 r0 x1 r1 x2 r2 x3 r3 y0 y1 y2 y3;go_wp2_with fail;have dw:=Y (aQ _ rfl);generalize w1.alloc (mM #[V X 5,V X 0,G U 0 0,V X 0] TT)=w2 at*;clear aQ ao hz1;go_loopw [1,16,17] (λiv _ _ dM=>∃(f k t:Nat) (v:iQ) (L:List (pI TL)),iv=V X (k:Nat)/\R (N8 w g v L t dM)/\s.size - k<f/\R (aE=o5 (ps D) f (ng s k) (L.map pI.tree) t)/\L.length<=k/\t<=L.length/\k<=s.size) (λiv _ _ _=>s.size -(jF iv).toNat);case atStart=>exact⟨s.size - p,q,0,G U 0 0,[],by rw[bG.out],Y dw.out,by have:=dG.out;omega,Y (by rw[E.out];rfl),ny,ny,bF⟩
    case round=>
     obtain⟨f,k,t,v,L,rfl,F,dY,ay,dx,dz,dA⟩:=hrel;obtain⟨f,rfl⟩:∃dN,f=dN+1:=⟨f - 1,I⟩;obtain⟨oa,cap,rfl⟩:=F.own.slice;have⟨c0,c1,c2,c3,z2,z3⟩:=F.c0;have⟨⟨x0,r0⟩,⟨x1,r1⟩,⟨x2,r2⟩,⟨x3,r3⟩,y0,y1,y2,y3⟩:=vN F.res;have⟨aw,bW⟩:=nE L.length;have HM:=Y bW;rw[bW]at dx dz F c2;clear bW dw E;by_cases he:s.size<=k
     .have bT:As (k<s.size)=M:=bh I
      have d4:As (s.size<=k)=u:=a8 he;have HN:R (aE=U):=Y (by rw[ay.out,sJ he,a6X]);clear he;exact Vx
     have hlt:k<s.size:=I;have bT:As (k<s.size)=u:=a8 hlt;have bu:=Y (rz hlt);by_cases ax:s[k]=125
     .have l1:((s[k].toNat:Int) !=125)=M:=by rw[ax];rfl
      have d4:As (s.size<=k)=M:=bh he;have af:R (aE=O (.node ⟨5,0,(t:Int)⟩ (L.map pI.tree),ng s (k+1))):=Y (by rw[ay.out,bu.out,ax,a6W]);clear he ax;have aP:=F.own.subs;have dB:=Y aP;clear aP;go_wp2_with fail;rw[nX];exact yf F.pV F.res ⟨5,0,(t:Int)⟩ oa aw cap ((k:Int)+1) HP hg rfl rfl rfl (.inl ⟨L.map pI.tree,k+1,af.out,ny,I,JC I,(wY dB (λk hk=>by omega)).keep (iP _) (λk _ hk=>by omega) λ_ _ _=>rfl⟩)
     have l1:((s[k].toNat:Int) !=125)=u:=by rw[ce];intro aY;exact ax (kH.1 (by have:(125:AC).toNat=125:=rfl;omega))
     have bQ:=Y ax;clear he ax;by_cases h0:aw=0
     .have d5:As (0<aw)=M:=bh I
      have HST:R (aE=(mark (ng s k) t).bind λq=>(ps D q.1).bind λy=>o5 (ps D) f y.2 (L.map pI.tree++[y.1]) q.2):=Y (by
       have e:L=[]:=j5.1 (HM.trans h0);subst e;rw[ay.out,bu.out];exact a02 bQ)
      have aL:k<=s.size:=dA;have dD:k<=k:=iP _;clear ay h0;have az:R (oF 63 (ng s (k))=u->mark (ng s (k)) t=O (ng s (k+1),t+1)):=Y λh=>Jw aL h
      have ai:R (oF 63 (ng s (k))=M->mark (ng s (k)) t=if 0<t then U else O (ng s (k),t)):=Y λh=>Na h
      have bK:(∃h:k<s.size,R (s[k]=63))\/(k=s.size)\/(∃h:k<s.size,R (s[k]≠63)):=by
       rcases jL (k) s.size with h|h
       .by_cases h2:s[k]=63
        .exact .inl ⟨h,h2⟩
        .exact .inr (.inr ⟨h,h2⟩)
       .exact .inr (.inl I)
      rcases bK with⟨ae,J⟩|ae|⟨ae,J⟩
      .have d6:As (k<s.size)=u:=a8 ae
       have bJ:((s[k].toNat:Int)==63)=u:=by rw[J.out];rfl
       have Sy:=Y (az (by rw[rz ae,J.out];rfl));have aj:k+1<=s.size:=I;clear az ai J;go_upto_region 33 with fail;have F3:=Y (F.more I);generalize wr.setCell (Z (g+1) 3 U) (V X ((t:Int)+1))=w3 at*;clear c0 c1 c2 c3 z2 z3 x0 r0 x1 r1 x2 r2 x3 r3 y0 y1 y2 y3 F;have ag:R (iW iN 46 #[H s,V X ((k:Int)+1),V X ((dep:Int)+1)] w3 (BR (ps D (ng s (k+1))) s w3)):=Y (bC (dep+1) (k+1) w3 (by have:=aX.out;omega) aj);go_wp2_with fail;refine(ag).mono ?_;rintro e w4 ⟨a,o,n,c,z,rfl,N,A⟩;have HB4:=Y N;have bz:g+2<=w3.heap.size:=F3.hB;have HOB:=Y F3.own.block;have aa:R (∀W,w4.alloc (mM #[V X a.kind,V X a.size,G o n c,V X a.tail] TT)=W->N8 w g (G oa aw cap) L (t+1) W/\mY W w4.heap.size #[V X a.kind,V X a.size,G o n c,V X a.tail] TT/\iR w4.heap.size w4 W):=Y λW h=>by
        exact JE
       have BG:=Y A;clear A N ag;go_upto_region 37 with fail;generalize w4.alloc (mM #[V X a.kind,V X a.size,G o n c,V X a.tail] TT)=w5 at*;have G5:=Y (aa _ rfl);have F5:=Y G5.1;clear aa;rcases BG.out with⟨sub,p2,h1,rfl,h2,h3,h4⟩|⟨h1,rfl⟩
       .have HPS:=Y h1
        have bA:k+1<p2:=by
         exact Eh
        exact a03
       .exact JD
      .omega
      .have d6:As (k<s.size)=u:=a8 ae
       have bJ:((s[k].toNat:Int)==63)=M:=by rw[bj];intro aY;exact J (kH.1 (by have:(63:AC).toNat=63:=rfl;omega))
       have Ni:=Y (ai (by rw[rz ae];simp[oF,J.out]));clear az ai J;by_cases ht0:0<t;.exact SH
       .obtain rfl:t=0:=I
        have Sy:R (mark (ng s (k)) 0=O (ng s (k),0)):=Y (by rw[Ni.out];rfl);have F3:=Y F.out;have aj:k<=s.size:=aL;clear ht0 Ni;go_upto_region 36 with fail;generalize wr=w3 at*;clear c0 c1 c2 c3 z2 z3 x0 r0 x1 r1 x2 r2 x3 r3 y0 y1 y2 y3 F;have ag:R (iW iN 46 #[H s,V X ((k:Int)),V X ((dep:Int)+1)] w3 (BR (ps D (ng s (k))) s w3)):=Y (bC (dep+1) (k) w3 (by have:=aX.out;omega) aj);go_wp2_with fail;refine(ag).mono ?_;rintro e w4 ⟨a,o,n,c,z,rfl,N,A⟩;have HB4:=Y N;have bz:g+2<=w3.heap.size:=F3.hB;have HOB:=Y F3.own.block;have aa:R (∀W,w4.alloc (mM #[V X a.kind,V X a.size,G o n c,V X a.tail] TT)=W->N8 w g (G oa aw cap) L (0) W/\mY W w4.heap.size #[V X a.kind,V X a.size,G o n c,V X a.tail] TT/\iR w4.heap.size w4 W):=Y λW h=>by
         exact JE
        have BG:=Y A;clear A N ag;go_upto_region 37 with fail;generalize w4.alloc (mM #[V X a.kind,V X a.size,G o n c,V X a.tail] TT)=w5 at*;have G5:=Y (aa _ rfl);have F5:=Y G5.1;clear aa;rcases BG.out with⟨sub,p2,h1,rfl,h2,h3,h4⟩|⟨h1,rfl⟩
        .have HPS:=Y h1
         have bA:k<p2:=by
          exact Eh
         exact a05
        .exact JD
     .have d5:As (0<aw)=u:=a8 I
      have bB:L.map pI.tree≠[]:=by
       intro e;have:=congrArg lQ e;rw[cX,HM.out]at this;exact h0 (by simpa using this)
      by_cases aM:s[k]=44
      .have l2:((s[k].toNat:Int) !=44)=M:=by rw[aM];rfl
       have HST:R (aE=(mark (ng s (k+1)) t).bind λq=>(ps D q.1).bind λy=>o5 (ps D) f y.2 (L.map pI.tree++[y.1]) q.2):=Y (by
        rw[ay.out,bu.out,aM];exact a4f bB)
       have aL:k+1<=s.size:=I;have dD:k<=k+1:=I;clear ay h0 aM bB;have az:R (oF 63 (ng s (k+1))=u->mark (ng s (k+1)) t=O (ng s (k+1+1),t+1)):=Y λh=>Jw aL h
       have ai:R (oF 63 (ng s (k+1))=M->mark (ng s (k+1)) t=if 0<t then U else O (ng s (k+1),t)):=Y λh=>Na h
       have bK:(∃h:k+1<s.size,R (s[k+1]=63))\/(k+1=s.size)\/(∃h:k+1<s.size,R (s[k+1]≠63)):=by
        rcases jL (k+1) s.size with h|h
        .by_cases h2:s[k+1]=63
         .exact .inl ⟨h,h2⟩
         .exact .inr (.inr ⟨h,h2⟩)
        .exact .inr (.inl I)
       rcases bK with⟨ae,J⟩|ae|⟨ae,J⟩
       .have d6:As (k+1<s.size)=u:=a8 ae
        have bJ:((s[k+1].toNat:Int)==63)=u:=by rw[J.out];rfl
        have Sy:=Y (az (by rw[rz ae,J.out];rfl));have aj:k+1+1<=s.size:=I;clear az ai J;go_upto_region 33 with fail;have F3:=Y (F.more I);generalize wr.setCell (Z (g+1) 3 U) (V X ((t:Int)+1))=w3 at*;clear c0 c1 c2 c3 z2 z3 x0 r0 x1 r1 x2 r2 x3 r3 y0 y1 y2 y3 F;have ag:R (iW iN 46 #[H s,V X (((k:Int)+1)+1),V X ((dep:Int)+1)] w3 (BR (ps D (ng s (k+1+1))) s w3)):=Y (bC (dep+1) (k+1+1) w3 (by have:=aX.out;omega) aj);go_wp2_with fail;refine(ag).mono ?_;rintro e w4 ⟨a,o,n,c,z,rfl,N,A⟩;have HB4:=Y N;have bz:g+2<=w3.heap.size:=F3.hB;have HOB:=Y F3.own.block;have aa:R (∀W,w4.alloc (mM #[V X a.kind,V X a.size,G o n c,V X a.tail] TT)=W->N8 w g (G oa aw cap) L (t+1) W/\mY W w4.heap.size #[V X a.kind,V X a.size,G o n c,V X a.tail] TT/\iR w4.heap.size w4 W):=Y λW h=>by
         exact JE
        have BG:=Y A;clear A N ag;go_upto_region 37 with fail;generalize w4.alloc (mM #[V X a.kind,V X a.size,G o n c,V X a.tail] TT)=w5 at*;have G5:=Y (aa _ rfl);have F5:=Y G5.1;clear aa;rcases BG.out with⟨sub,p2,h1,rfl,h2,h3,h4⟩|⟨h1,rfl⟩
        .have HPS:=Y h1
         have bA:k+1+1<p2:=by
          exact Eh
         exact a03
        .exact JD
       .have d6:As (k+1<s.size)=M:=bh I
        have Ni:=Y (ai (by rw[sJ I];rfl));clear az ai;by_cases ht0:0<t;.exact SH
        .obtain rfl:t=0:=I
         have Sy:R (mark (ng s (k+1)) 0=O (ng s (k+1),0)):=Y (by rw[Ni.out];rfl);have F3:=Y F.out;have aj:k+1<=s.size:=aL;clear ht0 Ni;go_upto_region 36 with fail;generalize wr=w3 at*;clear c0 c1 c2 c3 z2 z3 x0 r0 x1 r1 x2 r2 x3 r3 y0 y1 y2 y3 F;have ag:R (iW iN 46 #[H s,V X (((k:Int)+1)),V X ((dep:Int)+1)] w3 (BR (ps D (ng s (k+1))) s w3)):=Y (bC (dep+1) (k+1) w3 (by have:=aX.out;omega) aj);go_wp2_with fail;refine(ag).mono ?_;rintro e w4 ⟨a,o,n,c,z,rfl,N,A⟩;have HB4:=Y N;have bz:g+2<=w3.heap.size:=F3.hB;have HOB:=Y F3.own.block;have aa:R (∀W,w4.alloc (mM #[V X a.kind,V X a.size,G o n c,V X a.tail] TT)=W->N8 w g (G oa aw cap) L (0) W/\mY W w4.heap.size #[V X a.kind,V X a.size,G o n c,V X a.tail] TT/\iR w4.heap.size w4 W):=Y λW h=>by
          exact JE
         have BG:=Y A;clear A N ag;go_upto_region 37 with fail;generalize w4.alloc (mM #[V X a.kind,V X a.size,G o n c,V X a.tail] TT)=w5 at*;have G5:=Y (aa _ rfl);have F5:=Y G5.1;clear aa;rcases BG.out with⟨sub,p2,h1,rfl,h2,h3,h4⟩|⟨h1,rfl⟩
         .have HPS:=Y h1
          have bA:k+1<p2:=by
           exact Eh
          exfalso;omega
         .exact JD
       .have d6:As (k+1<s.size)=u:=a8 ae
        have bJ:((s[k+1].toNat:Int)==63)=M:=by rw[bj];intro aY;exact J (kH.1 (by have:(63:AC).toNat=63:=rfl;omega))
        have Ni:=Y (ai (by rw[rz ae];simp[oF,J.out]));clear az ai J;by_cases ht0:0<t;.exact SH
        .obtain rfl:t=0:=I
         have Sy:R (mark (ng s (k+1)) 0=O (ng s (k+1),0)):=Y (by rw[Ni.out];rfl);have F3:=Y F.out;have aj:k+1<=s.size:=aL;clear ht0 Ni;go_upto_region 36 with fail;generalize wr=w3 at*;clear c0 c1 c2 c3 z2 z3 x0 r0 x1 r1 x2 r2 x3 r3 y0 y1 y2 y3 F;have ag:R (iW iN 46 #[H s,V X (((k:Int)+1)),V X ((dep:Int)+1)] w3 (BR (ps D (ng s (k+1))) s w3)):=Y (bC (dep+1) (k+1) w3 (by have:=aX.out;omega) aj);go_wp2_with fail;refine(ag).mono ?_;rintro e w4 ⟨a,o,n,c,z,rfl,N,A⟩;have HB4:=Y N;have bz:g+2<=w3.heap.size:=F3.hB;have HOB:=Y F3.own.block;have aa:R (∀W,w4.alloc (mM #[V X a.kind,V X a.size,G o n c,V X a.tail] TT)=W->N8 w g (G oa aw cap) L (0) W/\mY W w4.heap.size #[V X a.kind,V X a.size,G o n c,V X a.tail] TT/\iR w4.heap.size w4 W):=Y λW h=>by
          exact JE
         have BG:=Y A;clear A N ag;go_upto_region 37 with fail;generalize w4.alloc (mM #[V X a.kind,V X a.size,G o n c,V X a.tail] TT)=w5 at*;have G5:=Y (aa _ rfl);have F5:=Y G5.1;clear aa;rcases BG.out with⟨sub,p2,h1,rfl,h2,h3,h4⟩|⟨h1,rfl⟩
         .have HPS:=Y h1
          have bA:k+1<p2:=by
           exact Eh
          exact a05
         .exact JD
      .have l2:((s[k].toNat:Int) !=44)=u:=by rw[ce];intro aY;exact aM (kH.1 (by have:(44:AC).toNat=44:=rfl;omega))
       have HN:R (aE=U):=Y (by rw[ay.out,bu.out,a01 bQ.out bB aM]);clear ay h0 aM bB;exact Vx
   .have l0:((s[p].toNat:Int) !=123)=u:=by
     have:=aA.out 123 av;exact this
    have E:=Y C.out;rw[At av]at E;clear av C hk aA aF;go_wp2_with fail;rw[nX];exact yf ao.1 ao.2.1 ⟨0,0,0⟩ U 0 0 (-1) HP hg rfl rfl rfl (.inr ⟨E.out,rfl⟩)
def JF(l:List AC)(w:K)(e:kV)(w':K):Prop:=
 ∃(a:TL) (o:Option j4) (n c:Nat) (er:Int) (sub:List (mW TL)),e=mK (mJ #[mI #[V X a.kind,V X a.size,G o n c,V X a.tail],V X er])/\iR w.heap.size w w'/\TL.wf a/\nZ w' (G o n c) sub/\
  (ER l=O (.node a sub)/\er=0\/ER l=U/\er=3/\a=⟨0,0,0⟩/\sub=[])
def SI(h:ps 8 l=U):ER l=U:=by unfold ER;rw[h]
def SK(h:ps 8 l=O (x,r))(A:r≠[]):ER l=U:=by
 unfold ER;rw[h];cases r with
 |nil=>exact absurd rfl A
 |cons _ _=>rfl
def XI(h:ps 8 l=O (x,[])):ER l=if pg x then O x else U:=by unfold ER;rw[h]
def Qj(h:∀l y,pf l=O y->y.1.count+y.2.length<=l.length):
  ∀(g:Nat)(l:List AC)(sub:List (mW TL))(tail:Nat)(y:mW TL×List AC),o5 pf g l sub tail=O y->y.1.count+y.2.length<=l.length+mW.nH sub:=by
 intro g;induction g with
 |zero=>intro l sub tail y hy;simp[o5]at hy
 |succ g C=>
  intro l sub tail y hy;cases l with
  |nil=>simp[o5]at hy
  |cons b r=>
   simp only[o5]at hy;split at hy
   .cases hy
    simp only[mW.count,jD];omega
   .simp only[jA]at hy
    obtain⟨l1,A,q,E,x,J,N⟩:=hy;have a1:=C _ _ _ _ N;have a2:=h _ _ J;have a3:=Ap E;have a4:l1.length<=(b::r).length:=by
     split at A;.cases A;exact iP _
     .split at A
      .cases A;simp
      .cases A
    simp only[mW.sI,mW.nH]at a1;omega
def Vy(h:p:=by
 simp only[jA]at h;obtain⟨q,h1,h2⟩:=h;have:=sW h1;cases h2;simp[mW.count,mW.nH];omega):p:=h
def a07:∀(d:Nat)(l:List AC)(y:mW TL×List AC),ps d l=O y->y.1.count+y.2.length<=l.length:=by
 intro d;induction d with
 |zero=>intro l y h;simp[ps]at h
 |succ d C=>
  intro l y h;cases l with
  |nil=>simp[ps]at h
  |cons b r=>
   simp only[ps]at h;split at h
   .simp only[jA]at h
    obtain⟨q,h1,h2⟩:=h;have:=sW h1;split at h2;.cases h2;simp[mW.count,mW.nH];omega
    .cases h2
   split at h;.exact Vy
   split at h;.exact Vy
   split at h
   .simp only[jA]at h
    obtain⟨x,h1,h2⟩:=h;have a1:=C _ _ h1;split at h2
    .rename_i r2 e
     simp only[jA]at h2;obtain⟨q,E,A⟩:=h2;have a2:=sW E;rw[e]at a1;split at A
     .rename_i r4 e4
      cases A;rw[e4]at a2;simp only[jD,mW.count,mW.nH]at a1 a2|-;omega
     .cases A
    .cases h2
   split at h
   .have:=Qj C _ _ _ _ _ h
    simp only[jD,mW.nH]at this|-;omega
   .cases h
def SL(h:p:=by
 refine iY (v:=mJ #[mI #[V X 0,V X 0,G U 0 0,V X 0],V X 3]) (by simp[jv,Tryz.results21,go_sem,e0,e1,e2,e3]) rfl ?_;exact hpost):p:=h
def Vz(s:An)(w:K)(hs:s.size<=1000):
  iW iN 21 #[H s] w (JF s.data.toList w):=by
 obtain⟨g,hg⟩:=o7 w;have aX:R (∀W,w.alloc (mM #[V X 0,V X 0,G U 0 0,V X 0] TT)=W->iR g w W/\mY W g #[V X 0,V X 0,G U 0 0,V X 0] TT/\W.heap.size=g+1):=Y λW h=>by
  subst h;have au:=(iT w.heap.size w).alloc (iP _) (mM #[V X 0,V X 0,G U 0 0,V X 0] TT);have av:=mY.new w #[V X 0,V X 0,G U 0 0,V X 0] TT;rw[hg]at au av;exact⟨au,av,nk⟩
 have⟨aA,aK⟩:=nE (JF s.data.toList w);have aL:=Y aK;rw[aK];go_in;go_upto_region 1 with fail;generalize w.alloc (mM #[V X 0,V X 0,G U 0 0,V X 0] TT)=w1 at*;have aa:=Y (aX _ rfl);have aY:=Y (XH s hs 8 1 0 w1 rfl (jB _));go_wp2_with fail;refine(aY).mono ?_;rintro e w2 ⟨a,o,n,c,z,rfl,af,aB⟩;have aZ:g+1<=w2.heap.size:=by have:=af.size;have:=aa.2.2;omega
 have ax:R (iR g w w2/\mY w2 g #[V X 0,V X 0,G U 0 0,V X 0] TT):=Y ⟨aa.1.trans (af.mono (by have:=aa.2.2;omega)),a7 af aa.2.1 aa.2.1.lt⟩;have aD:R ((∃sub q,ps 8 s.data.toList=O (.node a sub,ng s q)/\z=(q:Nat)/\q<=s.size/\TL.wf a/\nK.nA w2 (λk=>g+1<=k) (G o n c) sub)\/(ps 8 s.data.toList=U/\z= -1)):=Y (by
  rcases aB with⟨sub,q,ae,bg,aF,aG,aH⟩|h
  .exact .inl ⟨sub,q,ae,bg,aF,aG,aH.keep (iP _) (λk _ hk=>by have:=aa.2.2;omega) λ_ _ _=>rfl⟩
  .exact .inr h)
 have aM:R (∀W,w2.alloc (mM #[V X a.kind,V X a.size,G o n c,V X a.tail] TT)=W->iR w2.heap.size w2 W/\mY W w2.heap.size #[V X a.kind,V X a.size,G o n c,V X a.tail] TT/\W.heap.size=w2.heap.size+1):=Y λW h=>by
  subst h;exact⟨(iT w2.heap.size w2).alloc (iP _) _,mY.new w2 _ _,ny⟩
 go_upto_region 2 with fail;generalize w2.alloc (mM #[V X a.kind,V X a.size,G o n c,V X a.tail] TT)=w3 at*;have⟨J,aN,bH⟩:=aM.out _ rfl
 have A:R (iR g w w3/\mY w3 g #[V X 0,V X 0,G U 0 0,V X 0] TT/\mY w3 w2.heap.size #[V X a.kind,V X a.size,G o n c,V X a.tail] TT/\iR w2.heap.size w2 w3):=
  Y ⟨ax.1.trans (J.mono I),a7 J ax.2 I,aN,J⟩
 have aI:w2.heap.size<w3.heap.size:=I;have⟨bq,bu,bz,bA⟩:=A.2.2.1.a4;have⟨r0,r1,r2,r3,aO,aP,aQ,aR⟩:=A.2.1.b4
 have C:R (∀W,iR g w W->(∃cs,mY W g cs TT/\cs.size=4)->ER s.data.toList=U->(p9 W g (V X 0) (V X 0) (G U 0 0) (V X 0)).cell? (Z g 0 U)=O (V X 0)/\(p9 W g (V X 0) (V X 0) (G U 0 0) (V X 0)).cell? (Z g 1 U)=O (V X 0)/\
   (p9 W g (V X 0) (V X 0) (G U 0 0) (V X 0)).cell? (Z g 2 U)=O (G U 0 0)/\(p9 W g (V X 0) (V X 0) (G U 0 0) (V X 0)).cell? (Z g 3 U)=O (V X 0)/\
   aA (mK (mJ #[mI #[V X 0,V X 0,G U 0 0,V X 0],V X 3])) (p9 W g (V X 0) (V X 0) (G U 0 0) (V X 0))):=Y λW bB hB bC=>by
  have⟨e0,e1,e2,e3,ag⟩:=He bB hB (V X 0) (V X 0) (G U 0 0) (V X 0);refine⟨e0,e1,e2,e3,?_⟩;rw[<-aL.out];exact⟨⟨0,0,0⟩,U,0,0,3,[],rfl,hg▸ag,Lj I,Br _ _,.inr ⟨bC,rfl,rfl,rfl⟩⟩
 rcases aD.out with⟨sub,q,ae,rfl,aF,aG,aH⟩|⟨ae,rfl⟩
 .by_cases ah:q=s.size
  .have aS:((q:Int) !=s.size)=M:=by simp[ah]
   have ay:ps 8 s.data.toList=O (.node a sub,[]):=by rw[ae,sJ I]
   have N:=Y (XI ay);have aU:=Y aG;have az:=Y (aH.keep A.2.2.2.size (λ_ _ h=>h) λk hk _=>A.2.2.2.block k hk);have aV:=a07 _ _ _ ay;have bI:s.data.toList.length=s.size:=rfl;have ai:=Y (GL (.node a sub) w3 (G o n c) (az.keep (iP _) (λ_ _ _=>trivial) λ_ _ _=>rfl) (by simp only[dq]at aV;omega));simp only[mW.oW]at ai;have aj:R (∀W,iR w3.heap.size w3 W->iR g w W/\(∃cs,mY W g cs TT/\cs.size=4)/\nK.nA W (λk=>g+1<=k) (G o n c) sub/\mY W g #[V X 0,V X 0,G U 0 0,V X 0] TT/\mY W w2.heap.size #[V X a.kind,V X a.size,G o n c,V X a.tail] TT):=Y λW h=>
    ⟨A.1.trans (h.mono I),⟨_,a7 h A.2.1 I,rfl⟩,az.below h,a7 h A.2.1 I,a7 h A.2.2.1 aI⟩
   cases aW:pg (.node a sub)with
   |false=>
    rw[aW]at ai N;go_wp2_with fail;refine pG (ai) λw4 ak=> ?_
    have E:=Y (aj w4 ak);have⟨⟨bD,r0⟩,⟨bE,r1⟩,⟨bF,r2⟩,⟨bG,r3⟩,aO,aP,aQ,aR⟩:=vN E.2.1;go_wp2_with fail;rw[nX];have⟨e0,e1,e2,e3,hpost⟩:=C.out w4 E.1 E.2.1 (by rw[N.out];rfl);exact SL
   |true=>
    rw[aW]at ai N;go_wp2_with fail;refine pG (ai) λw4 ak=> ?_
    have E:=Y (aj w4 ak);have⟨⟨bD,r0⟩,⟨bE,r1⟩,⟨bF,r2⟩,⟨bG,r3⟩,aO,aP,aQ,aR⟩:=vN E.2.1;have⟨bq,bu,bz,bA⟩:=E.2.2.2.2.a4;go_wp2_with fail;rw[nX];have⟨e0,e1,e2,e3,ag⟩:=He E.1 E.2.1 (V X a.kind) (V X a.size) (G o n c) (V X a.tail);refine iY (v:=mJ #[mI #[V X a.kind,V X a.size,G o n c,V X a.tail],V X 0]) (by simp[jv,Tryz.results21,go_sem,e0,e1,e2,e3]) rfl ?_;rw[<-aL.out];exact⟨a,o,n,c,0,sub,rfl,hg▸ag,aU.out,(wY E.2.2.1 (λk hk=>by omega)).keep (iP _) (λ_ _ _=>trivial) (λ_ _ _=>rfl),.inl ⟨by rw[N.out];rfl,rfl⟩⟩
  .have aS:((q:Int) !=s.size)=u:=yE
   have aJ:=Y (SK ae λh=>ah (Lh aF h));go_wp2_with fail;rw[nX];have⟨e0,e1,e2,e3,hpost⟩:=C.out w3 A.1 ⟨_,A.2.1,rfl⟩ aJ.out;exact SL
 .have aS:((-1:Int) !=s.size)=u:=yE
  have aJ:=Y (SI ae);go_wp2_with fail;rw[nX];have⟨e0,e1,e2,e3,hpost⟩:=C.out w3 A.1 ⟨_,A.2.1,rfl⟩ aJ.out;exact SL
end
end Go.Proofs.YtamfcjmhnndbdaaGreatDoor


