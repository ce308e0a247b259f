/- Part 16 of the proof. -/
import Derived.Test.YtamfcjmhnndbdaaGreatDoorZk00
import Derived.Test.YtamfcjmhnndbdaaGreatDoorZk10
import Derived.Test.YtamfcjmhnndbdaaGreatDoorZk15
import Derived.RegionTactic
import Derived.BigRegion
import Derived.ChangeAlike
import Derived.Deep.QuietTactic
import Derived.BigQuiet
import Derived.Deep.RegionWith
import Derived.Deep.RegionHeld3
open Go.Value renaming agg→lC,bool→lu,int→lg,pointer→lq,slice→lh,string→ll,tuple→lD,slice→jD
open Go.Obj renaming cells→lG
open Go.IntKind renaming i64→lH
open Go.Ending renaming returned→lF
open Go.Lib renaming hid→iF
open Go.Proofs.Tryz renaming prog→iG
open Go renaming World→iH,Value→iJ,Calls→iU,bodyPost_ret→iV,maxLen→jb,TypeId→jg,results→jr,Addr→kr
open Nat renaming le_refl→iI,le_trans→je,lt_of_lt_of_le→jq,zero_le→jy,lt_or_ge→jG,le_of_eq→kX
open Go.RowKit renaming Below→iK,Hid→iW,intOf→jA
open Go.RowKit.Below renaming refl→iL,heap_setCell→iX
open And renaming intro→iQ
open Bool renaming and_eq_true→iY
open Go.World renaming setCell→jf,cell?→kZ
open Option renaming bind_some→jh
open List renaming take_succ_cons→ji,length_cons→jm,length_append→jv,take_zero→jC,getElem?_eq_some_iff→jH,length_drop→jS
open UInt8 renaming toNat_inj→jX
open Go.Act renaming put→jZ
open Go.Lit renaming int→kP
open Array renaming getElem?_eq_none→kW
namespace Go.Proofs.YtamfcjmhnndbdaaGreatDoor
set_option linter.unusedVariables false
set_option linter.unusedSimpArgs false
set_option maxRecDepth 100000
set_option maxHeartbeats 8000000
variable {w w' w0:iH}{b p l k most g t n gr B:Nat}{s:ByteArray}{x:lL TL}{a c d v:iJ}{cs:Array iJ}{Q:Nat->Prop}{DN:List UInt8->Nat->Option (lL TL×List UInt8×Nat)}{l1:List UInt8}{R:Option (lL TL×List UInt8×Nat)}{L:List (nJ TL)}
section
open Go.RowKit
def qz(w:iH)(b:Nat)(s:ByteArray)(p l:Nat):Prop:=lN w b #[ll s,lg lH (p:Int),lg lH (l:Int)] 208
theorem qz.c0(h:qz w b s p l):w.cell? ⟨b,0,none⟩=some (ll s):=h.cell 0
theorem qz.c1(h:qz w b s p l):w.cell? ⟨b,1,none⟩=some (lg lH p):=h.cell 1
theorem qz.c2(h:qz w b s p l):w.cell? ⟨b,2,none⟩=some (lg lH l):=h.cell 2
theorem qz.drewN(h:qz w b s p l)(n:Nat):qz (w.drewN n) b s p l:=lN.drewN h n
theorem qz.move(h:qz w b s p l)(q:Nat):qz (w.setCell ⟨b,1,none⟩ (lg lH (q:Int))) b s q l:=lN.set h 1 _
theorem qz.left(h:qz w b s p l)(q:Nat):qz (w.setCell ⟨b,2,none⟩ (lg lH (q:Int))) b s p q:=lN.set h 2 _
def lS(s:ByteArray)(p:Nat):List UInt8:=s.data.toList.drop p
theorem o7(h:p<s.size):lS s p=s[p]::lS s (p+1):=by
 unfold lS;rw[List.drop_eq_getElem_cons (by simpa using h)];rfl
theorem pY(h:s.size<=p):lS s p=[]:=by
 unfold lS;exact List.drop_eq_nil_of_le (by simpa using h)
theorem Gm(hp:p<=s.size)(h:lS s p=[]):p=s.size:=by
 rcases jG p s.size with A|A
 .rw[o7 A]at h;cases h
 .omega
def mM(c:UInt8)(l:List UInt8):Bool:=decide (l.head? =some c)
theorem Pk{p:Prop}(h:p:=by
 go_in;go_wp2_with fail;go_quiet (fail);go_wp2_with fail;go_returns;exact⟨rfl,(ng.refl b w).drewN _,HB.out.drewN _⟩):p:=h
theorem rA(b:Nat)(s:ByteArray)(p l:Nat)(c:UInt8)(w:iH)(hs:s.size<=jb)(hp:p<=s.size)(hb:qz w b s p l):
  iU iG 215 #[lq (some ⟨b,0,none⟩),lg .u8 (c.toNat:Int)] w λe w'=>e=lF (lu (mM c (lS s p)))/\ng b w w'/\
   qz w' b s (if mM c (lS s p)then p+1 else p) l:=by
 unfold jb at hs;obtain⟨c0,c1⟩:=hb.a2;have f1:=lN.free hb 1;have HB:=iF hb;clear hb;rcases jG p s.size with h|h
 .have hn:mM c (lS s p)=decide (s[p]=c):=by rw[o7 h];simp[mM]
  have C:((p:Int)==s.size)=false:=lW;rw[hn];by_cases hc:s[p]=c
  .have A:((s[p].toNat:Int) !=(c.toNat:Int))=false:=by rw[hc];simp
   rw[decide_eq_true hc];clear hn hc;go_in;go_wp2_with fail;go_quiet (fail);go_wp2_with fail;go_returns;exact⟨rfl,((ng.refl b w).drewN _).set 1 _,by simpa using(HB.out.drewN _).move (p+1)⟩
  .have A:((s[p].toNat:Int) !=(c.toNat:Int))=true:=by
    rw[bne_iff_ne];intro E;exact hc (jX.1 lK)
   rw[decide_eq_false hc];clear hn hc;exact Pk
 .obtain rfl:p=s.size:=lK
  have hn:mM c (lS s s.size)=false:=by rw[pY (iI _)];rfl
  rw[hn];clear hn;exact Pk
theorem KV:∀(l:List UInt8)(k:Nat),k<(nN l).length->∃b,l[k]? =some b/\rY b=true/\(nN l).take (k+1)=(nN l).take k++[b]
 |[],k,h=>by simp[nN]at h
 |c::r,k,h=>by
  by_cases hc:rY c=true
  .have e:nN (c::r)=c::nN r:=by simp[nN,hc]
   rw[e]at h⊢;cases k with
   |zero=>exact⟨c,rfl,hc,rfl⟩
   |succ k=>
    obtain⟨b,A,C,E⟩:=KV r k (by simpa using h);exact⟨b,by simpa using A,C,by rw[ji,E];rfl⟩
  .have e:nN (c::r)=[]:=by simp[nN,hc]
   rw[e]at h;simp at h
theorem vQ:∀ l:List UInt8,past l=l.drop (nN l).length
 |[]=>rfl
 |c::r=>by
  by_cases hc:rY c=true;.simp[nN,past,hc,vQ r]
  .simp[nN,past,hc]
theorem BA:∀(l:List UInt8)(b:UInt8),(past l).head? =some b->rY b=false
 |[],b,h=>by simp[past]at h
 |c::r,b,h=>by
  by_cases hc:rY c=true;.simp only[past,hc,if_true]at h;exact BA r b h
  .simp only[past,hc,if_false]at h
   simp at h;subst h;simpa using hc
theorem Iy(ds:List UInt8)(k:Nat):wh (ds.take k)<=wh ds:=by
 unfold wh;conv=>rhs;rw[<-List.take_append_drop k ds,List.foldl_append]
 exact J6 _ _
theorem Rb{b:UInt8}(h:(lS s p)[k]? =some b):∃h:p+k<s.size,s[p+k]=b:=by
 unfold lS at h;rw[List.getElem?_drop]at h;obtain⟨A,C⟩:=jH.1 h;exact⟨by simpa using A,C⟩
theorem wF(s:ByteArray)(p k:Nat):(lS s p).drop k=lS s (p+k):=by unfold lS;rw[List.drop_drop]
theorem KW(ds:List UInt8):xH ds=(decide (ds.length=1)||(decide (1<ds.length)&&decide (ds.head?≠some 48))):=by
 cases ds with
 |nil=>rfl
 |cons b r=>cases r with
  |nil=>rfl
  |cons c r=>
   simp only[xH,jm,List.head?_cons];have:(b.toNat≠48)<->(some b≠some (48:UInt8)):=by
    constructor;.intro h A;cases A;exact h rfl
    .intro h A;exact h (congrArg some (jX.1 A))
   simp[this]
theorem UZ{l:List UInt8}(h:most<wh (nN l)):num most l=none:=by
 unfold num;rw[if_neg];simp;intro _;omega
theorem U0{l:List UInt8}(h:xH (nN l)=false):num most l=none:=by
 unfold num;rw[if_neg];simp[h]
theorem U1{l:List UInt8}(h:xH (nN l)=true)(A:wh (nN l)<=most):num most l=some (wh (nN l),past l):=by
 unfold num;rw[if_pos];simp[h,A]
theorem XR{D q:Nat}(h:p+k=q)(c:k<D):D -(q+1 - p)<D -(q - p):=lK
def Iz(b:Nat)(s:ByteArray)(p l most:Nat)(w:iH)(e:Ending)(w':iH):Prop:=
 ∃(n:Nat) (ok:Bool) (A:Nat),e=lF (lD #[lg lH (n:Int),lu ok])/\ng b w w'/\qz w' b s A l/\A<=s.size/\n<=most/\
  (ok=true->num most (lS s p)=some (n,lS s A))/\(ok=false->num most (lS s p)=none)
theorem Pm{p:Prop}(h:p:=by
 rcases jG 1 k with h|h
 .obtain⟨h1,_⟩:=H0.out lK
  by_cases h2:s[p].toNat=48;.exact .inr (.inr (.inl ⟨h,h1,h2⟩))
  .exact .inr (.inr (.inr ⟨h,h1,h2⟩))
 .omega):p:=h
theorem Pn{p:Prop}(h:p:=by
 have h1:=congrArg List.length (Ra (lS s p));rw[jv,hD]at h1;have h0:(lS s p).length=s.size - p:=by unfold lS;rw[jS];rfl
 omega):p:=h
theorem Po{p:Prop}(h:p:=by
 simp only[rY,Bool.and_eq_false_iff,decide_eq_false_iff_not]at h2;rcases h2 with h2|h2
 .exact .inl ⟨h,lK⟩
 .exact .inr ⟨h,lK⟩):p:=h
theorem Pp{p:Prop}(h:p:=by
 obtain⟨b,h1,h2,h3⟩:=KV (lS s p) k lK;obtain⟨h4,h5⟩:=Rb h1;exact⟨h4,by rw[h5];exact h2,by rw[h5];exact h3⟩):p:=h
theorem U2{p:Prop}(h:p:=by
 clear he1 he2 hk1 fin Ns;rcases hend with rfl|⟨hlt,hb'⟩|⟨hlt,hb'⟩
 .have d0:decide ((s.size:Int)<s.size)=false:=lU
  go_wp2_with fail;go_quiet (fail);go_wp2_with fail;go_quiet (fail);go_wp2_with fail;exact HP.out _ _ ⟨n,false,_,rfl,(HU.out.drewN _).drewN _,(HR.out.drewN _).drewN _,hqs,hn,by have h:=Cj.out;simpa using h⟩
 .have d0:decide ((q:Int)<s.size)=true:=lW
  have d1:decide ((48:Int)<=(s[q].toNat:Int))=false:=lW;clear hb';go_wp2_with fail;go_quiet (fail);go_wp2_with fail;go_quiet (fail);go_wp2_with fail;exact HP.out _ _ ⟨n,false,_,rfl,(HU.out.drewN _).drewN _,(HR.out.drewN _).drewN _,hqs,hn,by have h:=Cj.out;simpa using h⟩
 .have d0:decide ((q:Int)<s.size)=true:=lW
  have d1:decide ((48:Int)<=(s[q].toNat:Int))=true:=lW;have d2:decide ((s[q].toNat:Int)<=57)=false:=lW;clear hb';go_wp2_with fail;go_quiet (fail);go_wp2_with fail;go_quiet (fail);go_wp2_with fail;exact HP.out _ _ ⟨n,false,_,rfl,(HU.out.drewN _).drewN _,(HR.out.drewN _).drewN _,hqs,hn,by have h:=Cj.out;simpa using h⟩):p:=h
theorem U3{p:Prop}(h:p:=by
 rcases hend with rfl|⟨hlt,hb'⟩|⟨hlt,hb'⟩
 .have d0:decide ((s.size:Int)<s.size)=false:=lU
  go_wp2_with fail;go_quiet (fail);go_wp2_with fail;go_quiet (fail);go_wp2_with fail;exact HP.out _ _ ⟨n,true,_,rfl,(HU.out.drewN _).drewN _,(HR.out.drewN _).drewN _,hqs,hn,by have h:=Cj.out;simpa using h⟩
 .have d0:decide ((q:Int)<s.size)=true:=lW
  have d1:decide ((48:Int)<=(s[q].toNat:Int))=false:=lW;clear hb';go_wp2_with fail;go_quiet (fail);go_wp2_with fail;go_quiet (fail);go_wp2_with fail;exact HP.out _ _ ⟨n,true,_,rfl,(HU.out.drewN _).drewN _,(HR.out.drewN _).drewN _,hqs,hn,by have h:=Cj.out;simpa using h⟩
 .have d0:decide ((q:Int)<s.size)=true:=lW
  have d1:decide ((48:Int)<=(s[q].toNat:Int))=true:=lW;have d2:decide ((s[q].toNat:Int)<=57)=false:=lW;clear hb';go_wp2_with fail;go_quiet (fail);go_wp2_with fail;go_quiet (fail);go_wp2_with fail;exact HP.out _ _ ⟨n,true,_,rfl,(HU.out.drewN _).drewN _,(HR.out.drewN _).drewN _,hqs,hn,by have h:=Cj.out;simpa using h⟩):p:=h
theorem U4{p:Prop}(h:p:=by
 obtain⟨h1,h2,h3⟩:=HG.out 0 h;refine⟨lK,?_⟩;have h4:=congrArg List.head? h3;simp only[Nat.zero_add,jC,List.nil_append,List.head?_cons,Nat.add_zero]at h4;rw[<-h4];cases nN (lS s p)<;>rfl):p:=h
theorem Rc(b:Nat)(s:ByteArray)(p l most:Nat)(w:iH)(hs:s.size<=jb)(hp:p<=s.size)(aG:most<=65536)(hb:qz w b s p l):
  iU iG 214 #[lq (some ⟨b,0,none⟩),lg lH (most:Int)] w (Iz b s p l most w):=by
 unfold jb at hs;have c1:=hb.c1;have au:=iF hb;obtain⟨D,hD⟩:=lV ((nN (lS s p)).length);have af:=iF hD;have aC:p+D<=s.size:=by
  exact Pn
 have HG:iW (∀k,k<D->∃h:p+k<s.size,rY s[p+k]=true/\(nN (lS s p)).take (k+1)=(nN (lS s p)).take k++[s[p+k]]):=iF λk hk=>by
  exact Pp
 have av:iW (∀h:p+D<s.size,rY s[p+D]=false):=iF λh=>by
  refine BA (lS s p) _ ?_;rw[vQ,hD,wF,o7 h];rfl
 have ax:iW (past (lS s p)=lS s (p+D)):=iF (by rw[vQ,hD,wF]);have H0:iW (0<D->∃h:p<s.size,(nN (lS s p)).head? =some s[p]):=iF λh=>by
  exact U4
 generalize ag:Iz b s p l most w=Z;have HP:iW (∀e w',Iz b s p l most w e w'->Z e w'):=iF λe w' h=>by rw[<-ag];exact h
 clear hb hD ag;go_in;go_wp2_with fail;clear c1;go_loopw [7] (λay J=>∃(k n:Nat),ay=lg lH n/\k<=D/\n<=most/\iW (n=wh ((nN (lS s p)).take k))/\iW (qz J b s (p+k) l)/\iW (ng b w J)) (λ_ J=>D -(match J.cell? ⟨b,1,none⟩with|some v=>(jA v).toNat - p|none=>0));case atStart=>exact⟨0,0,rfl,lK,lK,by simp[iW,wh],iF au.out,iF (ng.refl _ _)⟩
 case round=>
  obtain⟨k,n,rfl,hk,hn,aa,HR,HU⟩:=hrel;obtain⟨q,N⟩:=lV (p+k);have C:=iF N;rw[N]at HR;have hqs:q<=s.size:=lK;obtain⟨c0,c1⟩:=HR.out.a2;have f1:=lN.free HR.out 1;have E:=iF (HG.out k);rw[N]at E;clear N;by_cases c:k<D
  .obtain⟨hlt,A,htake⟩:=E.out c
   simp only[rY,iY,decide_eq_true_eq]at A;have Q:=iF (iQ A htake);have d0:decide ((q:Int)<s.size)=true:=lW;have d1:decide ((48:Int)<=(s[q].toNat:Int))=true:=lW;have d2:decide ((s[q].toNat:Int)<=57)=true:=lW;have az:48<=(s[q].toNat:Int):=lK;have aA:(s[q].toNat:Int)<=57:=lK;clear htake A;by_cases O:most<10*n+(s[q].toNat - 48)
   .have aB:decide ((most:Int)<10*(n:Int)+((s[q].toNat:Int) - 48))=true:=lW
    have ae:=iF O;clear O;go_wp2_with fail;go_quiet (fail);go_wp2_with fail;go_quiet (fail);go_wp2_with fail;refine HP.out _ _ ⟨0,false,q+1,rfl,(HU.out.drewN _).set 1 _,by simpa using(HR.out.drewN _).move (q+1),hlt,lK,(λh=>by cases h),λ_=>UZ ?_⟩;have h1:=ae.out;have h2:=Iy (nN (lS s p)) (k+1);rw[Q.out.2,Gl,<-aa.out]at h2;omega
   .have aB:decide ((most:Int)<10*(n:Int)+((s[q].toNat:Int) - 48))=false:=lW
    have ae:=iF O;clear O;go_wp2_with fail;go_quiet (fail);go_wp2_with fail;go_quiet (fail);go_wp2_with fail;have U:∀m,qz ((wr.drewN m).setCell ⟨b,1,none⟩ (lg lH ((q:Int)+1))) b s (q+1) l:=λm=>by simpa using(HR.out.drewN m).move (q+1)
    refine⟨⟨k+1,10*n+(s[q].toNat - 48),by congr 1;omega,lK,by have:=ae.out;omega,iF ?_,iF (by rw[show p+(k+1)=q+1 by have:=C.out;omega];exact U _),iF ((HU.out.drewN _).set 1 _)⟩,?_⟩;.rw[Q.out.2,Gl,<-aa.out]
    .have e1:=λm=>(U m).c1
     have h3:=C.out;simp only[e1,c1,jA,Int.toNat_natCast];exact XR h3 c
  .obtain rfl:k=D:=lK
   have V:iW (n=wh (nN (lS s p))):=iF (by rw[aa.out,List.take_of_length_le (by have:=af.out;omega)]);have ah:iW (past (lS s p)=lS s q):=iF (by rw[ax.out,C.out]);have hend:q=s.size\/(∃h:q<s.size,s[q].toNat<48)\/(∃h:q<s.size,57<s[q].toNat):=by
    rcases jG q s.size with h|h
    .right
     have h1:=av.out;rw[C.out]at h1;have h2:=h1 h;exact Po
    .exact .inl lK
   have hlen:k=0\/k=1\/(1<k/\∃h:p<s.size,iW (s[p].toNat=48))\/(1<k/\∃h:p<s.size,iW (s[p].toNat≠48)):=by
    exact Pm
   have Ns:iW (xH (nN (lS s p))=(decide (k=1)||(decide (1<k)&&decide ((nN (lS s p)).head?≠some 48)))):=iF (by rw[KW,af.out]);have fin:iW (∀ok:Bool,xH (nN (lS s p))=ok->(ok=true->num most (lS s p)=some (n,lS s q))/\(ok=false->num most (lS s p)=none)):=iF λok hok=>
    ⟨λh=>by rw[U1 (by rw[hok,h]) (by rw[<-V.out];omega),<-V.out,ah.out],λh=>U0 (by rw[hok,h])⟩
   have Y:(q:Int)=p+k:=by have:=C.out;omega
   have aD:=iF Y;have ai:(∃e1:Bool,((q:Int) - p==1)=e1/\e1=decide (k=1))/\∃e2:Bool,decide (1<(q:Int) - p)=e2/\e2=decide (1<k):=by
    refine⟨⟨_,rfl,?_⟩,_,rfl,?_⟩;.rw[Bool.eq_iff_iff];simp;omega
    .rw[decide_eq_decide];omega
   obtain⟨⟨e1,aF,he1⟩,e2,aj,he2⟩:=ai;clear Y E;rcases hlen with hk1|hk1|⟨hk1,ak,hk3⟩|⟨hk1,ak,hk3⟩
   .obtain rfl:e1=false:=by rw[he1];simp;omega
    obtain rfl:e2=false:=by rw[he2];simp;omega
    have Cj:=iF (fin.out false (by rw[Ns.out];simp;omega));exact U2
   .obtain rfl:e1=true:=by rw[he1];simp;omega
    have Cj:=iF (fin.out true (by rw[Ns.out];simp;omega));clear he1 he2 aj hk1 fin Ns;exact U3
   .obtain rfl:e1=false:=by rw[he1];simp;omega
    obtain rfl:e2=true:=by rw[he2];simp;omega
    have d5:((s[p].toNat:Int) !=48)=false:=by have:=hk3.out;simp;omega
    have Cj:=iF (fin.out false (by
     obtain⟨_,h5⟩:=H0.out lK;rw[Ns.out,h5,show s[p]=48 from jX.1 hk3.out];simp;omega))
    exact U2
   .obtain rfl:e1=false:=by rw[he1];simp;omega
    obtain rfl:e2=true:=by rw[he2];simp;omega
    have d5:((s[p].toNat:Int) !=48)=true:=by have:=hk3.out;simp;omega
    have Cj:=iF (fin.out true (by
     obtain⟨_,h5⟩:=H0.out lK;have h6:s[p]≠48:=λh=>hk3.out (by rw[h];rfl)
     rw[Ns.out,h5];simp[h6];omega))
    clear he1 he2 hk1 fin Ns;exact U3
theorem qz.below(h:qz w b s p l)(hb:iK w.heap.size w w'):qz w' b s p l:=Below.blk hb h (lN.lt h)
theorem qz.lt(h:qz w b s p l):b<w.heap.size:=lN.lt h
def nY(w:iH)(g:Nat)(a b c d:iJ):iH:=(((w.setCell ⟨g,0,none⟩ a).setCell ⟨g,1,none⟩ b).setCell ⟨g,2,none⟩ c).setCell ⟨g,3,none⟩ d
theorem mq(w:iH)(g:Nat)(a b c d:iJ):(((w.setCell ⟨g,0,none⟩ a).setCell ⟨g,1,none⟩ b).setCell ⟨g,2,none⟩ c).setCell ⟨g,3,none⟩ d=nY w g a b c d:=rfl
theorem KX{x y z u b:iJ}{t:jg}(h:lN w g #[x,y,z,u] t):lN (nY w g a b c d) g #[a,b,c,d] t:=by
 have:=(((h.set 0 a).set 1 b).set 2 c).set 3 d;simpa [nY]using this
theorem AA{b0:Nat}{u:iH}{b:iJ}(h:ng b0 u w)(hg:u.heap.size<=g):ng b0 u (nY w g a b c d):=
 ng.yZ (ng.yZ (ng.yZ (ng.yZ h (a:=⟨g,0,none⟩) hg a) (a:=⟨g,1,none⟩) hg b) (a:=⟨g,2,none⟩) hg c) (a:=⟨g,3,none⟩) hg d
theorem wG{h:Nat}{b:iJ}{t:jg}(hb:lN w h cs t)(A:h≠g):lN (nY w g a b c d) h cs t:=
 (((hb.setOther (a:=⟨g,0,none⟩) A a).setOther (a:=⟨g,1,none⟩) A b).setOther (a:=⟨g,2,none⟩) A c).setOther (a:=⟨g,3,none⟩) A d
theorem yC{b:iJ}(k:Nat)(h:k≠g):(nY w g a b c d).heap[k]? =w.heap[k]? :=by
 unfold nY;rw[iX _ _ _ _ h,iX _ _ _ _ h,iX _ _ _ _ h,iX _ _ _ _ h]
theorem vR{b:iJ}:(nY w g a b c d).heap.size=w.heap.size:=by simp[nY,jf]
theorem uk{b:iJ}{s:List (lL TL)}(h:l9.lY w Q v s)(A:∀k,Q k->k≠g):l9.lY (nY w g a b c d) Q v s:=
 h.keep (kX vR.symm) (λ_ _ h=>h) λk _ hk=>yC k (A k hk)
def vS(kind:Int)(b:Nat)(s:ByteArray)(p l most:Nat)(w:iH)(e:Ending)(w':iH):Prop:=
 ∃(n:Nat) (ok:Bool) (A:Nat),e=lF (lD #[lC #[lg lH kind,lg lH (n:Int),lh none 0 0,lg lH 0],lu ok])/\ng b w w'/\qz w' b s A l/\A<=s.size/\n<=most/\
  (ok=true->num most (lS s p)=some (n,lS s A))/\(ok=false->num most (lS s p)=none)
theorem AB(kind:Int)(b E:Nat)(s:ByteArray)(p l most:Nat)(w:iH)(hs:s.size<=jb)(hp:p<=s.size)(ak:most<=65536)(hb:qz w b s p l)(Z:w.cell? ⟨E,0,none⟩=some (lq (some ⟨b,0,none⟩))):
  iU iG 213 #[lg lH kind,lg lH (most:Int),lq (some ⟨E,0,none⟩)] w (vS kind b s p l most w):=by
 have C:E<w.heap.size:=by
  rcases jG E w.heap.size with h|h
  .exact h
  .simp[kZ,kW h]at Z
 obtain⟨g,hg⟩:=lV w.heap.size
 have aa:iW (∀W,w.alloc (lG #[lg lH 0,lg lH 0,lh none 0 0,lg lH 0] 63)=W->ng b w W/\qz W b s p l/\W.cell? ⟨E,0,none⟩=some (lq (some ⟨b,0,none⟩))/\
   lN W g #[lg lH 0,lg lH 0,lh none 0 0,lg lH 0] 63):=iF λW h=>by
  subst h;have J:=(iL w.heap.size w).alloc (iI _) (lG #[lg lH 0,lg lH 0,lh none 0 0,lg lH 0] 63);exact⟨ng.of J,hb.below J,(J.cell (p:=⟨E,0,none⟩) C).trans Z,hg▸lN.new w _ _⟩
 have aA:b<g:=hg▸hb.lt;have aC:=iF C;clear hb Z C;go_in;go_upto_region 1 with fail;generalize w.alloc (lG #[lg lH 0,lg lH 0,lh none 0 0,lg lH 0] 63)=w1 at*;obtain⟨O,Q,aB,U⟩:=aa.out _ rfl;have au:=iF (Rc b s p l most w1 hs hp ak Q);have ae:=iF O;have af:=iF U;clear aa O Q U;go_wp2_with fail;refine(au.out).mono ?_;rintro e w2 ⟨n,ok,av,rfl,N,V,ag,ah,hok,Y⟩;have A:lN w2 g #[lg lH 0,lg lH 0,lh none 0 0,lg lH 0] 63:=N.blk af.out lK;have aD:w2.cell? ⟨g,0,none⟩=some (lg lH 0):=A.cell 0;have aF:w2.cell? ⟨g,1,none⟩=some (lg lH 0):=A.cell 1;have aG:w2.cell? ⟨g,2,none⟩=some (lh none 0 0):=A.cell 2;have aH:w2.cell? ⟨g,3,none⟩=some (lg lH 0):=A.cell 3;obtain⟨z0,aI,aJ,z3⟩:=A.f4;have ax:=iF (iQ (ae.out.trans N) (iQ V (iQ ag (iQ ah (iQ hok Y)))));have ai:=iF A;clear N V hok Y A;go_wp2_with fail;rw[mq];obtain⟨ay,a2,a3,a4,a5,a6⟩:=ax.out;have aj:=KX (a:=lg lH kind) (b:=lg lH (n:Int)) (c:=lh none 0 0) (d:=lg lH 0) (show lN w2 g #[lg lH 0,lg lH 0,lh none 0 0,lg lH 0] 63 from ai.out);obtain⟨az,e1,e2,e3⟩:=aj.a4;refine iV (v:=lD #[lC #[lg lH kind,lg lH n,lh none 0 0,lg lH 0],lu ok]) (by simp[jr,Tryz.results213,go_sem,az,e1,e2,e3]) rfl ?_;exact⟨n,ok,av,rfl,AA ay lK,wG a2 lK,a3,a4,a5,a6⟩
abbrev TT:jg:=63
def qP(R:Option (lL TL×List UInt8×Nat))(b:Nat)(s:ByteArray)(w:iH)(e:Ending)(w':iH):Prop:=
 ∃(a:TL) (o:Option kr) (n c:Nat) (ok:Bool) (A C:Nat),e=lF (lD #[lC #[lg lH a.kind,lg lH a.size,lh o n c,lg lH a.tail],lu ok])/\ng b w w'/\qz w' b s A C/\A<=s.size/\C<=64/\
  (ok=true->∃sub,R=some (.node a sub,lS s A,C)/\TL.wf a/\l9.lY w' (λk=>w.heap.size<=k) (lh o n c) sub)/\(ok=false->R=none)
theorem oJ{c:UInt8}(hp:p<=s.size)(h:mM c (lS s p)=true):p<s.size/\lS s p=c::lS s (p+1):=by
 rcases jG p s.size with A|A
 .rw[o7 A]at h⊢
  simp[mM]at h;exact⟨A,by rw[h]⟩
 .rw[pY A]at h;simp[mM]at h
theorem qw{c:UInt8}{l r:List UInt8}(h:mM c l=false)(e:l=c::r):False:=by
 rw[e]at h;simp[mM]at h
theorem EH(hp:p<=s.size)(h:mM 63 (lS s p)=true):mark (lS s p) t=some (lS s (p+1),t+1):=by
 rw[(oJ hp h).2];rfl
theorem IA(h:mM 63 (lS s p)=false):mark (lS s p) t=if 0<t then none else some (lS s p,t):=by
 unfold mark;split;.rename_i r e;exact(qw h e).elim
 .rfl
theorem Nt{f:Nat}{l:List UInt8}{sub:List (lL TL)}(h:mark l t=none):uF DN (f+1) l n sub t=none:=by
 simp only[uF,h];rfl
theorem Nu{f A:Nat}{l:List UInt8}{sub:List (lL TL)}(h:mark l t=some (l1,A))(C:DN l1 n=none):uF DN (f+1) l n sub t=none:=by
 simp only[uF,h,jh,C];rfl
theorem KY{f A n2:Nat}{l r:List UInt8}{sub:List (lL TL)}(h:mark l t=some (l1,A))(C:DN l1 n=some (x,125::r,n2)):
  uF DN (f+1) l n sub t=some (.node ⟨5,0,A⟩ (sub++[x]),r,n2):=by
 simp only[uF,h,jh,C]
theorem Gn{f A n2:Nat}{l r:List UInt8}{sub:List (lL TL)}(h:mark l t=some (l1,A))(C:DN l1 n=some (x,44::r,n2)):
  uF DN (f+1) l n sub t=uF DN f r n2 (sub++[x]) A:=by
 simp only[uF,h,jh,C]
theorem Re{f A n2:Nat}{l l2:List UInt8}{sub:List (lL TL)}(h:mark l t=some (l1,A))(C:DN l1 n=some (x,l2,n2))(E:mM 125 l2=false)(J:mM 44 l2=false):uF DN (f+1) l n sub t=none:=by
 simp only[uF,h,jh,C];split;.exact(qw E rfl).elim
 .exact(qw J rfl).elim
 .rfl
theorem AJ:Tryz.prog.underlying 61=some (.slice TT):=Tryz.underlying61
theorem Pt:(Tryz.prog.info? TT).map (λi=>(i.zero,i.size,i.bytes))=some (some (lC #[lg lH 0,lg lH 0,lh none 0 0,lg lH 0]),4,48):=lQ
theorem IB:∀(a:TL)(o:Option kr)(n c:Nat),∀u∈l9.cells a (lh o n c),u.oneCell'=true:=by
 intro a o n c u A;simp[l9]at A;rcases A with rfl|rfl|rfl|rfl<;>rfl
def RO(w:iH)(g:Nat)(v:iJ)(t:Nat):Prop:=lN w g #[lg lH 5,lg lH 0,v,lg lH (t:Int)] TT
theorem RO.more(h:RO w g v t):RO (w.setCell ⟨g,3,none⟩ (lg lH ((t:Int)+1))) g v (t+1):=by
 have:=lN.set h 3 (lg lH ((t:Int)+1));simpa [RO]using this
theorem RO.sub(h:RO w g v t)(v':iJ):RO (w.setCell ⟨g,2,none⟩ v') g v' t:=by
 have:=lN.set h 2 v';simpa [RO]using this
structure EI(w0:iH)(b gr B:Nat)(s:ByteArray)(p l:Nat)(v:iJ)(L:List (nJ TL))(t:Nat)(w:iH):Prop where
 upd:ng b w0 w
 rd:qz w b s p l
 res:∃cs,lN w gr cs TT/\cs.size=4
 st:RO w (gr+1) v t
 own:tL l9 TT w B v L
 hp:p<=s.size
 hl:l<=64
 hlen:L.length<=64
 ht:t<=64
 hB:B<=w.heap.size
theorem um{b:iJ}{t:jg}(h:lN w g cs t)(hs:cs.size=4):lN (nY w g a b c d) g #[a,b,c,d] t:=by
 obtain⟨l⟩:=cs
 match l,hs with
 |[x,y,z,u],_=>exact KX h
theorem KZ(J:ng b w0 w)(N:qz w b s p l)(hp:p<=s.size)(hl:l<=64)(hg:∃cs,lN w gr cs TT/\cs.size=4)(A:w0.heap.size<=gr)(hb:b<w0.heap.size)(O:R=none):
  (nY w gr (lg lH 0) (lg lH 0) (lh none 0 0) (lg lH 0)).cell? ⟨gr,0,none⟩=some (lg lH 0)/\(nY w gr (lg lH 0) (lg lH 0) (lh none 0 0) (lg lH 0)).cell? ⟨gr,1,none⟩=some (lg lH 0)/\
   (nY w gr (lg lH 0) (lg lH 0) (lh none 0 0) (lg lH 0)).cell? ⟨gr,2,none⟩=some (lh none 0 0)/\(nY w gr (lg lH 0) (lg lH 0) (lh none 0 0) (lg lH 0)).cell? ⟨gr,3,none⟩=some (lg lH 0)/\
   qP R b s w0 (lF (lD #[lC #[lg lH 0,lg lH 0,lh none 0 0,lg lH 0],lu false])) (nY w gr (lg lH 0) (lg lH 0) (lh none 0 0) (lg lH 0)):=by
 obtain⟨cs,C,E⟩:=hg;have hB:=um (a:=lg lH 0) (b:=lg lH 0) (c:=lh none 0 0) (d:=lg lH 0) C E;exact⟨hB.cell 0,hB.cell 1,hB.cell 2,hB.cell 3,⟨0,0,0⟩,none,0,0,false,p,l,rfl,AA J A,wG N lK,hp,hl,(λh=>by cases h),λ_=>O⟩
theorem EI.sub(h:EI w0 b gr B s p l v L t w)(A:ng b w w')(J:b<gr)(U:gr+2<=B){C E:Nat}(N:qz w' b s C E)(hp:C<=s.size)(hl:E<=64):
  EI w0 b gr B s C E v L t w':=by
 obtain⟨cs,O,Q⟩:=h.res;exact⟨h.upd.trans A,N,⟨cs,A.blk O lK,Q⟩,A.blk h.st lK,h.own.upd A lK,hp,hl,h.hlen,h.ht,je h.hB A.size⟩
theorem EI.more(h:EI w0 b gr B s p l v L t w)(A:b<gr)(N:gr+2<=B)(O:w0.heap.size<=gr)(ht:t<64):
  EI w0 b gr B s p l v L (t+1) (w.setCell ⟨gr+1,3,none⟩ (lg lH ((t:Int)+1))):=by
 obtain⟨cs,C,E⟩:=h.res;have J:ng (gr+1) w (w.setCell ⟨gr+1,3,none⟩ (lg lH ((t:Int)+1))):=(ng.refl _ _).set 3 _;exact⟨h.upd.yZ (a:=⟨gr+1,3,none⟩) (show w0.heap.size<=gr+1 by omega) _,lN.setOther h.rd lW _,⟨cs,C.setOther lU _,E⟩,h.st.more,h.own.upd J lK,h.hp,h.hl,h.hlen,lK,by simpa [jf]using h.hB⟩
theorem EI.grown{v':iJ}{y:nJ TL}(h:EI w0 b gr B s p l v L t w)(J:b<gr)(V:gr+2<=B)(Y:w0.heap.size<=gr)(hL:L.length<64)(ho:tL l9 TT w' B v' (L++[y]))(hb:iK B w w')(hsz:w.heap.size<w'.heap.size)(hg:w.grownBy w' v.ownBlock):EI w0 b gr B s p l v' (L++[y]) t (w'.setCell ⟨gr+1,2,none⟩ v'):=by
 obtain⟨cs,N,O⟩:=h.res;have Q:ng (gr+1) w' (w'.setCell ⟨gr+1,2,none⟩ v'):=(ng.refl _ _).set 2 _;have U:qz w' b s p l:=Below.blk hb h.rd lK;have A:RO w' (gr+1) v t:=Below.blk hb h.st lK;have C:ng b w0 w':=⟨hg.os.trans h.upd.os,hg.tape.trans h.upd.tape,hg.output.trans h.upd.output,je h.upd.size hg.size,λk hk E=>by
  rw[<-h.upd.block k hk E];refine hg.block k (jq hk h.upd.size) λe=> ?_
  have:=(h.own.block k e.symm).1;omega⟩
 exact⟨C.yZ (a:=⟨gr+1,2,none⟩) (show w0.heap.size<=gr+1 by omega) _,lN.setOther U lW _,⟨cs,(Below.blk hb N lK).setOther lU _,O⟩,A.sub v',ho.upd Q lK,h.hp,h.hl,lW,h.ht,by simp[jf];have:=h.hB;omega⟩
theorem EI.c0(h:EI w0 b gr B s p l v L t w):w.cell? ⟨gr+1,0,none⟩=some (lg lH 5)/\w.cell? ⟨gr+1,1,none⟩=some (lg lH 0)/\
  w.cell? ⟨gr+1,2,none⟩=some v/\w.cell? ⟨gr+1,3,none⟩=some (lg lH (t:Int))/\w.frozen? ⟨gr+1,2,none⟩=false/\w.frozen? ⟨gr+1,3,none⟩=false:=by
 have:=h.st;exact⟨lN.cell this 0,lN.cell this 1,lN.cell this 2,lN.cell this 3,lN.free this 2,lN.free this 3⟩
theorem EI.r0(h:EI w0 b gr B s p l v L t w):(∃x,w.cell? ⟨gr,0,none⟩=some x)/\(∃x,w.cell? ⟨gr,1,none⟩=some x)/\(∃x,w.cell? ⟨gr,2,none⟩=some x)/\(∃x,w.cell? ⟨gr,3,none⟩=some x)/\
  w.frozen? ⟨gr,0,none⟩=false/\w.frozen? ⟨gr,1,none⟩=false/\w.frozen? ⟨gr,2,none⟩=false/\w.frozen? ⟨gr,3,none⟩=false:=by
 obtain⟨⟨l⟩,A,C⟩:=h.res
 match l,C with
 |[x,y,z,u],_=>exact⟨⟨x,A.cell 0⟩,⟨y,A.cell 1⟩,⟨z,A.cell 2⟩,⟨u,A.cell 3⟩,A.free 0,A.free 1,A.free 2,A.free 3⟩
theorem EI.IC(h:EI w0 b gr B s p l v L t w)(A:w0.heap.size<=gr)(hb:b<w0.heap.size):
  (nY w gr (lg lH 0) (lg lH 0) (lh none 0 0) (lg lH 0)).cell? ⟨gr,0,none⟩=some (lg lH 0)/\(nY w gr (lg lH 0) (lg lH 0) (lh none 0 0) (lg lH 0)).cell? ⟨gr,1,none⟩=some (lg lH 0)/\
   (nY w gr (lg lH 0) (lg lH 0) (lh none 0 0) (lg lH 0)).cell? ⟨gr,2,none⟩=some (lh none 0 0)/\(nY w gr (lg lH 0) (lg lH 0) (lh none 0 0) (lg lH 0)).cell? ⟨gr,3,none⟩=some (lg lH 0)/\
   qP none b s w0 (lF (lD #[lC #[lg lH 0,lg lH 0,lh none 0 0,lg lH 0],lu false])) (nY w gr (lg lH 0) (lg lH 0) (lh none 0 0) (lg lH 0)):=
 KZ h.upd h.rd h.hp h.hl h.res A hb rfl
theorem EI.IE{oa:Option kr}{cap:Nat}(h:EI w0 b gr B s p l (lh oa n cap) L t w)(E:w0.heap.size<=gr)(hb:b<w0.heap.size)(O:gr+2<=B):
  (nY w gr (lg lH 5) (lg lH 0) (lh oa n cap) (lg lH t)).cell? ⟨gr,0,none⟩=some (lg lH 5)/\(nY w gr (lg lH 5) (lg lH 0) (lh oa n cap) (lg lH t)).cell? ⟨gr,1,none⟩=some (lg lH 0)/\
   (nY w gr (lg lH 5) (lg lH 0) (lh oa n cap) (lg lH t)).cell? ⟨gr,2,none⟩=some (lh oa n cap)/\(nY w gr (lg lH 5) (lg lH 0) (lh oa n cap) (lg lH t)).cell? ⟨gr,3,none⟩=some (lg lH t)/\
   qP (some (.node ⟨5,0,t⟩ (L.map nJ.tree),lS s p,l)) b s w0 (lF (lD #[lC #[lg lH 5,lg lH 0,lh oa n cap,lg lH t],lu true])) (nY w gr (lg lH 5) (lg lH 0) (lh oa n cap) (lg lH t)):=by
 obtain⟨cs,A,C⟩:=h.res;have hB:=um (a:=lg lH 5) (b:=lg lH 0) (c:=lh oa n cap) (d:=lg lH t) A C;have ht:=h.ht;refine⟨hB.cell 0,hB.cell 1,hB.cell 2,hB.cell 3,⟨5,0,t⟩,oa,n,cap,true,p,l,rfl,AA h.upd E,wG h.rd lK,h.hp,h.hl,(λ_=>⟨L.map nJ.tree,rfl,⟨rfl,rfl,?_⟩,?_⟩),λh=>by cases h⟩
 .have J:IntKind.i64.min= -9223372036854775808:=rfl
  have N:IntKind.i64.max=9223372036854775807:=rfl;simp[Lit.wf,J,N];omega
 .exact(uk h.own.subs (λk hk=>by omega)).keep (iI _) (λk _ hk=>by omega) λ_ _ _=>rfl
theorem Pv{p:Prop}(h:p:=by
 have hal:=(iL w4.heap.size w4).alloc (iI _) o;exact F4.out.sub (ng.of hal) HC.out.1 (iI _) (F4.out.rd.below hal) Lr hl4):p:=h
theorem U5{p:Prop}(h:p:=by
 rw[hq2]at ZZ;have XT:=iF hq2;clear hq2;go_wp2_with fail;refine(ZZ.out).mono ?_;rintro e w9 ⟨rfl,Yz,Nn⟩;have F9:=iF (F8.out.sub Yz HC.out.1 (iI _) (show qz w9 b s p2 l2 from by simpa using Nn) Lr lK);clear Yz Nn;obtain⟨⟨x0,r0⟩,⟨x1,r1⟩,⟨x2,r2⟩,⟨x3,r3⟩,y0,y1,y2,y3⟩:=F9.out.r0;go_wp2_with fail;rw[mq];obtain⟨e0,e1,e2,e3,hpost⟩:=F9.out.IC HC.out.2.1 HC.out.2.2;refine iV (v:=lD #[lC #[lg lH 0,lg lH 0,lh none 0 0,lg lH 0],lu false]) (by simp[jr,Tryz.results216,go_sem,e0,e1,e2,e3]) rfl ?_;rw[<-HP.out,HR.out,Re Nv.out RP.out YA.out XT.out];exact hpost):p:=h
theorem U6{p:Prop}(h:p:=by
 go_upto_region 9 with fail;have F6:=iF (F5.out (lG #[lg lH a.kind,lg lH a.size,lh o n c,lg lH a.tail] TT));generalize w4.alloc (lG #[lg lH a.kind,lg lH a.size,lh o n c,lg lH a.tail] TT)=w5 at*;obtain⟨⟨x0,r0⟩,⟨x1,r1⟩,⟨x2,r2⟩,⟨x3,r3⟩,y0,y1,y2,y3⟩:=F6.out.r0;go_wp2_with fail;rw[mq];obtain⟨e0,e1,e2,e3,hpost⟩:=F6.out.IC HC.out.2.1 HC.out.2.2;refine iV (v:=lD #[lC #[lg lH 0,lg lH 0,lh none 0 0,lg lH 0],lu false]) (by simp[jr,Tryz.results216,go_sem,e0,e1,e2,e3]) rfl ?_;rw[<-HP.out,HR.out,Nu Nv.out HN.out];exact hpost):p:=h
theorem U7{p:Prop}(h:p:=by
 subst h;have hal:=(iL w4.heap.size w4).alloc (iI _) (lG #[lg lH a.kind,lg lH a.size,lh o n c,lg lH a.tail] TT);exact⟨F4.out.sub (ng.of hal) HC.out.1 (iI _) (F4.out.rd.below hal) Lr hl4,lN.new w4 _ _,hal⟩):p:=h
theorem Rf(D dep b:Nat)(s:ByteArray)(hs:s.size<=jb)(bV:dep<=8)(bM:∀(p l:Nat) (w:iH),p<=s.size->l<=64->qz w b s p l->iU iG 171 #[lq (some ⟨b,0,none⟩),lg lH ((dep:Int)+1)] w (qP (rd D (lS s p) l) b s w))(p l:Nat)(w:iH)(hp:p<=s.size)(hl:l<=63)(hb:qz w b s p l):
  iU iG 216 #[lq (some ⟨b,0,none⟩),lg lH (dep:Int)] w
   (qP (if mM 125 (lS s p)then some (.node ⟨5,0,0⟩ [],lS s (p+1),l)else uF (rd D) (l+2) (lS s p) l [] 0) b s w):=by
 obtain⟨g,hg⟩:=lV w.heap.size;have bN:b<g:=hg▸hb.lt;have bO:iW (∀W,(w.alloc (lG #[lg lH 0,lg lH 0,lh none 0 0,lg lH 0] TT)).alloc (lG #[lg lH 5,lg lH 0,lh none 0 0,lg lH 0] TT)=W->EI w b g (g+2) s p l (lh none 0 0) [] 0 W):=iF λW h=>by
  subst h;have hal:=(iL w.heap.size w).alloc (iI _) (lG #[lg lH 0,lg lH 0,lh none 0 0,lg lH 0] TT);have bu:=lN.new w #[lg lH 0,lg lH 0,lh none 0 0,lg lH 0] TT;have bP:=hb.below hal;have bQ:(w.alloc (lG #[lg lH 0,lg lH 0,lh none 0 0,lg lH 0] TT)).heap.size=g+1:=lW;generalize w.alloc (lG #[lg lH 0,lg lH 0,lh none 0 0,lg lH 0] TT)=w1 at*;have aM:=(iL w1.heap.size w1).alloc (iI _) (lG #[lg lH 5,lg lH 0,lh none 0 0,lg lH 0] TT);have bz:=lN.new w1 #[lg lH 5,lg lH 0,lh none 0 0,lg lH 0] TT;rw[bQ]at bz;rw[hg]at bu;refine⟨(ng.of hal).trans (ng.of aM),bP.below aM,⟨_,Below.blk aM bu lK,rfl⟩,bz,tL.nil _ _ _ _,hp,lK,lU,lU,lW⟩
 have hw0:w.heap.size<=g:=lK;have hb0:b<w.heap.size:=hb.lt;have bR:=iF bM;have aR:=iF hs;obtain⟨R,bE⟩:∃R,(if mM 125 (lS s p)then some (.node ⟨5,0,0⟩ [],lS s (p+1),l)else uF (rd D) (l+2) (lS s p) l [] 0)=R:=⟨_,rfl⟩;have HR:=iF bE;rw[bE];obtain⟨bW,bF⟩:=lV (qP R b s w);have HP:=iF bF;rw[bF];have HC:=iF (iQ bN (iQ hw0 hb0));clear bE bF bM hb hs hw0 hb0;obtain⟨bZ,hi,bA,bB,bC⟩:=info_parts Pt;go_in;go_upto_region 2 with fail;generalize (w.alloc (lG #[lg lH 0,lg lH 0,lh none 0 0,lg lH 0] TT)).alloc (lG #[lg lH 5,lg lH 0,lh none 0 0,lg lH 0] TT)=w1 at*;have bq:=iF (bO.out _ rfl)
 have aS:iW (iU iG 215 #[lq (some ⟨b,0,none⟩),lg .u8 125] w1 λe w'=>e=lF (lu (mM 125 (lS s p)))/\ng b w1 w'/\qz w' b s (if mM 125 (lS s p)then p+1 else p) l):=
  iF (rA b s p l 125 w1 aR.out hp bq.out.rd)
 clear bO;cases hq:mM 125 (lS s p)with
 |true=>
  rw[hq]at aS HR;have aB:=iF (oJ hp hq);clear hq;go_wp2_with fail;refine(aS.out).mono ?_;rintro e w2 ⟨rfl,A,C⟩;have J:=iF (bq.out.sub A HC.out.1 (iI _) (show qz w2 b s (p+1) l from by simpa using C) (by have:=aB.out.1;omega) lK);obtain⟨c0,c1,c2,c3,N,z3⟩:=J.out.c0;obtain⟨⟨x0,r0⟩,⟨x1,r1⟩,⟨x2,r2⟩,⟨x3,r3⟩,y0,y1,y2,y3⟩:=J.out.r0;clear A C;go_wp2_with fail;rw[mq];have O:=J.out.IE HC.out.2.1 HC.out.2.2 (iI _);simp only[show((0:Nat):Int)=0 from rfl]at O;obtain⟨e0,e1,e2,e3,hpost⟩:=O;refine iV (v:=lD #[lC #[lg lH 5,lg lH 0,lh none 0 0,lg lH 0],lu true]) (by
   simp[jr,Tryz.results216,go_sem,e0,e1,e2,e3]) rfl ?_
  rw[<-HP.out,<-HR.out];exact hpost
 |false=>
  rw[hq]at aS HR;clear hq;go_wp2_with fail;refine(aS.out).mono ?_;rintro e w2 ⟨rfl,A,C⟩;have J:=iF (bq.out.sub A HC.out.1 (iI _) (show qz w2 b s p l from by simpa using C) hp lK);clear A C aS bq;go_wp2_with fail
  go_loopw [7,8] (λ_ _ bG=>∃(f p l t:Nat) (v:iJ) (L:List (nJ TL)),iW (EI w b g (g+2) s p l v L t bG)/\l<f/\iW (R=uF (rd D) f (lS s p) l (L.map nJ.tree) t)/\L.length+l<=63/\t<=L.length/\p<=s.size)
   (λ_ _ bG=>match bG.cell? ⟨b,2,none⟩with|some v=>(jA v).toNat|none=>0)
  case atStart=>exact⟨l+2,p,l,0,lh none 0 0,[],iF J.out,lK,iF (by rw[<-HR.out];simp),lW,lU,hp⟩
  case round=>
   clear J HR hp hl;obtain⟨f,p,l,t,v,L,F,cz,HR,bS,bT,hp⟩:=hrel;obtain⟨f,rfl⟩:∃bX,f=bX+1:=⟨f - 1,lK⟩;have hl:l<=63:=lK;obtain⟨oa,cap,rfl⟩:=F.out.own.slice;obtain⟨c0,c1,c2,c3,N,z3⟩:=F.out.c0
   have aT:iW (iU iG 215 #[lq (some ⟨b,0,none⟩),lg .u8 63] wr λe w'=>e=lF (lu (mM 63 (lS s p)))/\ng b wr w'/\qz w' b s (if mM 63 (lS s p)then p+1 else p) l):=
    iF (rA b s p l 63 wr aR.out hp F.out.rd)
   have bD:iW (wr.cell? ⟨b,2,none⟩=some (lg lH (l:Int))):=iF F.out.rd.c2;obtain⟨M,bH⟩:=lV L.length;have aC:=iF bH;have aD:iW (mM 63 (lS s p)=true->mark (lS s p) t=some (lS s (p+1),t+1)/\p<s.size):=iF λh=>⟨EH hp h,(oJ hp h).1⟩
   have af:iW (mM 63 (lS s p)=false->mark (lS s p) t=if 0<t then none else some (lS s p,t)):=iF λh=>IA h
   rw[bH]at bS bT F c2;clear bH;cases hq:mM 63 (lS s p)with
   |true=>
    rw[hq]at aT;have aB:=iF (aD.out hq);clear hq aD af;go_wp2_with fail;refine(aT.out).mono ?_;rintro e w2 ⟨rfl,A,C⟩;have J:=iF (F.out.sub A HC.out.1 (iI _) (show qz w2 b s (p+1) l from by simpa using C) (by have:=aB.out.2;omega) lK);clear A C c0 c1 c2 c3 N z3 F;obtain⟨c0,c1,c2,c3,N,z3⟩:=J.out.c0;go_upto_region 8 with fail;have aF:=iF (J.out.more HC.out.1 (iI _) HC.out.2.1 lK);generalize w2.setCell ⟨g+1,3,none⟩ (lg lH ((t:Int)+1))=w3 at*;have Nv:=iF aB.out.1;have aU:p+1<=s.size:=by have:=aB.out.2;omega
    have ht1:t+1<=M+1:=lK;clear c0 c1 c2 c3 N z3 J aB;have aV:=iF (bR.out (p+1) l w3 aU lK aF.out.rd);go_wp2_with fail;refine(aV.out).mono ?_;rintro e w4 ⟨a,o,n,c,ok,p2,l2,rfl,ag,aG,Lr,hl4,hok,ah⟩;have F4:=iF (aF.out.sub ag HC.out.1 (iI _) aG Lr hl4);have HS3:=iF aF.out.own.block;have HB3:=iF aF.out.hB;have bU:=iF ag;clear ag aG aV;cases ok with
    |false=>
     have HN:=iF (ah rfl);clear hok ah;have F5:iW (∀o,EI w b g (g+2) s p2 l2 (lh oa M cap) L (t+1) (w4.alloc o)):=iF λo=>by
      exact Pv
     exact U6
    |true=>
     have Cj:=iF (hok rfl);clear hok ah;have F5:iW (∀W,w4.alloc (lG #[lg lH a.kind,lg lH a.size,lh o n c,lg lH a.tail] TT)=W->EI w b g (g+2) s p2 l2 (lh oa M cap) L (t+1) W/\lN W w4.heap.size #[lg lH a.kind,lg lH a.size,lh o n c,lg lH a.tail] TT/\iK w4.heap.size w4 W):=iF λW h=>by
      exact U7
     go_upto_region 9 with fail;generalize w4.alloc (lG #[lg lH a.kind,lg lH a.size,lh o n c,lg lH a.tail] TT)=w5 at*;obtain⟨aH,U,U9⟩:=F5.out _ rfl;have F6:=iF aH;obtain⟨c0,c1,c2,c3,N,z3⟩:=F6.out.c0;obtain⟨bI,bJ,bK,bL⟩:=U.a4;have ai:iW (∃sub,rd D (lS s (p+1)) l=some (.node a sub,lS s p2,l2)/\TL.wf a/\l9.lY w5 (λk=>g+2<=k/\(jD oa M cap).ownBlock≠some k) (lh o n c) sub):=iF (by
      obtain⟨sub,h1,h2,h3⟩:=Cj.out;refine⟨sub,h1,h2,h3.keep U9.size (λk hk hq=>⟨?_,λe=> ?_⟩) λk hk hq=>U9.block k hk⟩;.have:=HB3.out;omega
      .have:=(HS3.out k e).2;omega)
     clear F5 aH U U9 F4 Cj;obtain⟨sub,RP,aj,V⟩:=ai.out;have RP:=iF RP;have aI:=iF aj;have aJ:=iF V;have U:g+2<=w5.heap.size:=F6.out.hB;have ak:=iF F6.out.own;have au:=iF (Tm _ _ _ _ RP.out).2.1;clear ai aj V;go_upto_region 12 with(at_builtin;refine uX (S:=l9) AJ hi bA bB bC rfl lM IB rfl (.tmp 34) (.tmp 36) rfl (g+2) (lh oa M cap) L ⟨a,lh o n c,sub⟩ w5 _ rfl rfl ak.out rfl (by have:=aC.out;omega) lM U aI.out aJ.out ?_;intro g2 av aN Y Z ax ay;have aW:aN.cell? ⟨g+1,2,none⟩=some (lh oa M cap):=(Z.cell (p:=⟨g+1,2,none⟩) (show g+1<g+2 by omega)).trans c2;have aX:aN.frozen? ⟨g+1,2,none⟩=false:=(Z.frozen (p:=⟨g+1,2,none⟩) (show g+1<g+2 by omega)).trans N)
     have az:=iF (F6.out.grown HC.out.1 (iI _) HC.out.2.1 (by have:=aC.out;omega) Y Z ax ay);generalize aN.setCell ⟨g+1,2,none⟩ (lh (some ⟨g2,0,none⟩) (L.length+1) av)=aO at*;have aA:iW ((L++[(⟨a,lh o n c,sub⟩:nJ TL)]).map nJ.tree=L.map nJ.tree++[.node a sub]):=iF (by simp[nJ.tree]);have aK:iW ((L++[(⟨a,lh o n c,sub⟩:nJ TL)]).length=M+1):=iF (by rw[jv,aC.out];rfl);obtain⟨aP,aL⟩:∃aP,L++[(⟨a,lh o n c,sub⟩:nJ TL)]=aP:=⟨_,rfl⟩;rw[aL]at aA aK az;have aY:=lL.uj (lL.node a sub);have aZ:l2<l:=by have:=au.out;simp only at this;omega
     clear aW aX Y Z ax ay c0 c1 c2 c3 N z3 bI bJ bK bL ak aJ aI aL aY au;rw[aC.out]at az
     have aa:iW (iU iG 215 #[lq (some ⟨b,0,none⟩),lg .u8 125] aO λe w'=>e=lF (lu (mM 125 (lS s p2)))/\ng b aO w'/\qz w' b s (if mM 125 (lS s p2)then p2+1 else p2) l2):=
      iF (rA b s p2 l2 125 aO aR.out Lr az.out.rd)
     have bg:=iF (λh=>oJ (c:=125) (s:=s) (p:=p2) Lr h);have aQ:=iF (λh=>oJ (c:=44) (s:=s) (p:=p2) Lr h);cases E:mM 125 (lS s p2)with
     |true=>
      rw[E]at aa;have YA:=iF (bg.out E);clear E;go_wp2_with fail;refine(aa.out).mono ?_;rintro e ae ⟨rfl,Q,FB⟩;have F8:=iF (az.out.sub Q HC.out.1 (iI _) (show qz ae b s (p2+1) l2 from by simpa using FB) (by have:=YA.out.1;omega) lK);clear Q FB;obtain⟨c0,c1,c2,c3,N,z3⟩:=F8.out.c0;obtain⟨⟨x0,r0⟩,⟨x1,r1⟩,⟨x2,r2⟩,⟨x3,r3⟩,y0,y1,y2,y3⟩:=F8.out.r0;rw[aC.out];go_wp2_with fail;rw[mq];have O:=F8.out.IE HC.out.2.1 HC.out.2.2 (iI _);try simp only[show((0:Nat):Int)=0 from rfl]at O
      obtain⟨e0,e1,e2,e3,hpost⟩:=O;refine iV (v:=lD #[lC #[lg lH 5,lg lH 0,lh (some ⟨g2,0,none⟩) (M+1) av,lg lH ((t:Int)+1)],lu true]) (by simp[jr,Tryz.results216,go_sem]at e0 e1 e2 e3⊢;simp[go_sem,e0,e1,e2,e3]) rfl ?_;have h1:=RP.out;rw[YA.out.2]at h1;rw[<-HP.out,HR.out,KY Nv.out h1,<-aA.out];exact hpost
     |false=>
      rw[E]at aa;have YA:=iF E;clear E;go_wp2_with fail;refine(aa.out).mono ?_;rintro e ae ⟨rfl,Q,FB⟩;have F8:=iF (az.out.sub Q HC.out.1 (iI _) (show qz ae b s p2 l2 from by simpa using FB) Lr lK);clear Q FB
      have ZZ:iW (iU iG 215 #[lq (some ⟨b,0,none⟩),lg .u8 44] ae λe w'=>e=lF (lu (mM 44 (lS s p2)))/\ng b ae w'/\qz w' b s (if mM 44 (lS s p2)then p2+1 else p2) l2):=
       iF (rA b s p2 l2 44 ae aR.out Lr F8.out.rd)
      cases hq2:mM 44 (lS s p2)with
      |true=>
       rw[hq2]at ZZ;have XT:=iF (aQ.out hq2);clear hq2;go_wp2_with fail;refine(ZZ.out).mono ?_;rintro e w9 ⟨rfl,Yz,Nn⟩;have F9:=iF (F8.out.sub Yz HC.out.1 (iI _) (show qz w9 b s (p2+1) l2 from by simpa using Nn) (by have:=XT.out.1;omega) lK);clear Yz Nn;go_wp2_with fail;have h1:=RP.out;rw[XT.out.2]at h1;have h3:=aK.out;refine⟨⟨f,p2+1,l2,t+1,_,aP,iF F9.out,lK,iF (by rw[HR.out,Gn Nv.out h1,aA.out]),lK,lK,by have:=XT.out.1;omega⟩,?_⟩;have e1:=F9.out.rd.c2;have e2:=bD.out;simp only[e1,e2,jA,Int.toNat_natCast];exact aZ
      |false=>
       exact U5
   |false=>
    rw[hq]at aT;have aB:=iF (af.out hq);clear hq aD af;by_cases h0:0<t
    .have cB:decide (0<(t:Int))=true:=lW
     have bY:=iF h0;clear h0;go_wp2_with fail;refine(aT.out).mono ?_;rintro e w2 ⟨rfl,A,C⟩;have J:=iF (F.out.sub A HC.out.1 (iI _) (show qz w2 b s p l from by simpa using C) hp lK);clear A C c0 c1 c2 c3 N z3 F;obtain⟨c0,c1,c2,c3,N,z3⟩:=J.out.c0;obtain⟨⟨x0,r0⟩,⟨x1,r1⟩,⟨x2,r2⟩,⟨x3,r3⟩,y0,y1,y2,y3⟩:=J.out.r0;go_wp2_with fail;rw[mq];obtain⟨e0,e1,e2,e3,hpost⟩:=J.out.IC HC.out.2.1 HC.out.2.2;refine iV (v:=lD #[lC #[lg lH 0,lg lH 0,lh none 0 0,lg lH 0],lu false]) (by simp[jr,Tryz.results216,go_sem,e0,e1,e2,e3]) rfl ?_;rw[<-HP.out,HR.out,Nt (by rw[aB.out,if_pos bY.out])];exact hpost
    .obtain rfl:t=0:=lK
     clear h0;go_wp2_with fail;refine(aT.out).mono ?_;rintro e w2 ⟨rfl,A,C⟩;have J:=iF (F.out.sub A HC.out.1 (iI _) (show qz w2 b s p l from by simpa using C) hp lK);clear A C c0 c1 c2 c3 N z3 F;obtain⟨c0,c1,c2,c3,N,z3⟩:=J.out.c0;go_upto_region 8 with fail;have Nv:iW (mark (lS s p) 0=some (lS s p,0)):=iF (by rw[aB.out];simp);have aF:=iF J.out;generalize w2=w3 at*;have aU:p<=s.size:=hp;have ht1:0<=M+1:=lK;clear c0 c1 c2 c3 N z3 J aB;have aV:=iF (bR.out (p) l w3 aU lK aF.out.rd);go_wp2_with fail;refine(aV.out).mono ?_;rintro e w4 ⟨a,o,n,c,ok,p2,l2,rfl,ag,aG,Lr,hl4,hok,ah⟩;have F4:=iF (aF.out.sub ag HC.out.1 (iI _) aG Lr hl4);have HS3:=iF aF.out.own.block;have HB3:=iF aF.out.hB;have bU:=iF ag;clear ag aG aV;cases ok with
     |false=>
      have HN:=iF (ah rfl);clear hok ah;have F5:iW (∀o,EI w b g (g+2) s p2 l2 (lh oa M cap) L (0) (w4.alloc o)):=iF λo=>by
       exact Pv
      exact U6
     |true=>
      have Cj:=iF (hok rfl);clear hok ah;have F5:iW (∀W,w4.alloc (lG #[lg lH a.kind,lg lH a.size,lh o n c,lg lH a.tail] TT)=W->EI w b g (g+2) s p2 l2 (lh oa M cap) L (0) W/\lN W w4.heap.size #[lg lH a.kind,lg lH a.size,lh o n c,lg lH a.tail] TT/\iK w4.heap.size w4 W):=iF λW h=>by
       exact U7
      go_upto_region 9 with fail;generalize w4.alloc (lG #[lg lH a.kind,lg lH a.size,lh o n c,lg lH a.tail] TT)=w5 at*;obtain⟨aH,U,U9⟩:=F5.out _ rfl;have F6:=iF aH;obtain⟨c0,c1,c2,c3,N,z3⟩:=F6.out.c0;obtain⟨bI,bJ,bK,bL⟩:=U.a4;have ai:iW (∃sub,rd D (lS s (p)) l=some (.node a sub,lS s p2,l2)/\TL.wf a/\l9.lY w5 (λk=>g+2<=k/\(jD oa M cap).ownBlock≠some k) (lh o n c) sub):=iF (by
       obtain⟨sub,h1,h2,h3⟩:=Cj.out;refine⟨sub,h1,h2,h3.keep U9.size (λk hk hq=>⟨?_,λe=> ?_⟩) λk hk hq=>U9.block k hk⟩;.have:=HB3.out;omega
       .have:=(HS3.out k e).2;omega)
      clear F5 aH U U9 F4 Cj;obtain⟨sub,RP,aj,V⟩:=ai.out;have RP:=iF RP;have aI:=iF aj;have aJ:=iF V;have U:g+2<=w5.heap.size:=F6.out.hB;have ak:=iF F6.out.own;have au:=iF (Tm _ _ _ _ RP.out).2.1;clear ai aj V;go_upto_region 12 with(at_builtin;refine uX (S:=l9) AJ hi bA bB bC rfl lM IB rfl (.tmp 34) (.tmp 36) rfl (g+2) (lh oa M cap) L ⟨a,lh o n c,sub⟩ w5 _ rfl rfl ak.out rfl (by have:=aC.out;omega) lM U aI.out aJ.out ?_;intro g2 av aN Y Z ax ay;have aW:aN.cell? ⟨g+1,2,none⟩=some (lh oa M cap):=(Z.cell (p:=⟨g+1,2,none⟩) (show g+1<g+2 by omega)).trans c2;have aX:aN.frozen? ⟨g+1,2,none⟩=false:=(Z.frozen (p:=⟨g+1,2,none⟩) (show g+1<g+2 by omega)).trans N)
      have az:=iF (F6.out.grown HC.out.1 (iI _) HC.out.2.1 (by have:=aC.out;omega) Y Z ax ay);generalize aN.setCell ⟨g+1,2,none⟩ (lh (some ⟨g2,0,none⟩) (L.length+1) av)=aO at*;have aA:iW ((L++[(⟨a,lh o n c,sub⟩:nJ TL)]).map nJ.tree=L.map nJ.tree++[.node a sub]):=iF (by simp[nJ.tree]);have aK:iW ((L++[(⟨a,lh o n c,sub⟩:nJ TL)]).length=M+1):=iF (by rw[jv,aC.out];rfl);obtain⟨aP,aL⟩:∃aP,L++[(⟨a,lh o n c,sub⟩:nJ TL)]=aP:=⟨_,rfl⟩;rw[aL]at aA aK az;have aY:=lL.uj (lL.node a sub);have aZ:l2<l:=by have:=au.out;simp only at this;omega
      clear aW aX Y Z ax ay c0 c1 c2 c3 N z3 bI bJ bK bL ak aJ aI aL aY au;rw[aC.out]at az
      have aa:iW (iU iG 215 #[lq (some ⟨b,0,none⟩),lg .u8 125] aO λe w'=>e=lF (lu (mM 125 (lS s p2)))/\ng b aO w'/\qz w' b s (if mM 125 (lS s p2)then p2+1 else p2) l2):=
       iF (rA b s p2 l2 125 aO aR.out Lr az.out.rd)
      have bg:=iF (λh=>oJ (c:=125) (s:=s) (p:=p2) Lr h);have aQ:=iF (λh=>oJ (c:=44) (s:=s) (p:=p2) Lr h);cases E:mM 125 (lS s p2)with
      |true=>
       rw[E]at aa;have YA:=iF (bg.out E);clear E;go_wp2_with fail;refine(aa.out).mono ?_;rintro e ae ⟨rfl,Q,FB⟩;have F8:=iF (az.out.sub Q HC.out.1 (iI _) (show qz ae b s (p2+1) l2 from by simpa using FB) (by have:=YA.out.1;omega) lK);clear Q FB;obtain⟨c0,c1,c2,c3,N,z3⟩:=F8.out.c0;obtain⟨⟨x0,r0⟩,⟨x1,r1⟩,⟨x2,r2⟩,⟨x3,r3⟩,y0,y1,y2,y3⟩:=F8.out.r0;rw[aC.out];go_wp2_with fail;rw[mq];have O:=F8.out.IE HC.out.2.1 HC.out.2.2 (iI _);try simp only[show((0:Nat):Int)=0 from rfl]at O
       obtain⟨e0,e1,e2,e3,hpost⟩:=O;refine iV (v:=lD #[lC #[lg lH 5,lg lH 0,lh (some ⟨g2,0,none⟩) (M+1) av,lg lH 0],lu true]) (by simp[jr,Tryz.results216,go_sem]at e0 e1 e2 e3⊢;simp[go_sem,e0,e1,e2,e3]) rfl ?_;have h1:=RP.out;rw[YA.out.2]at h1;rw[<-HP.out,HR.out,KY Nv.out h1,<-aA.out];exact hpost
      |false=>
       rw[E]at aa;have YA:=iF E;clear E;go_wp2_with fail;refine(aa.out).mono ?_;rintro e ae ⟨rfl,Q,FB⟩;have F8:=iF (az.out.sub Q HC.out.1 (iI _) (show qz ae b s p2 l2 from by simpa using FB) Lr lK);clear Q FB
       have ZZ:iW (iU iG 215 #[lq (some ⟨b,0,none⟩),lg .u8 44] ae λe w'=>e=lF (lu (mM 44 (lS s p2)))/\ng b ae w'/\qz w' b s (if mM 44 (lS s p2)then p2+1 else p2) l2):=
        iF (rA b s p2 l2 44 ae aR.out Lr F8.out.rd)
       cases hq2:mM 44 (lS s p2)with
       |true=>
        rw[hq2]at ZZ;have XT:=iF (aQ.out hq2);clear hq2;go_wp2_with fail;refine(ZZ.out).mono ?_;rintro e w9 ⟨rfl,Yz,Nn⟩;have F9:=iF (F8.out.sub Yz HC.out.1 (iI _) (show qz w9 b s (p2+1) l2 from by simpa using Nn) (by have:=XT.out.1;omega) lK);clear Yz Nn;go_wp2_with fail;have h1:=RP.out;rw[XT.out.2]at h1;have h3:=aK.out;refine⟨⟨f,p2+1,l2,0,_,aP,iF F9.out,lK,iF (by rw[HR.out,Gn Nv.out h1,aA.out]),lK,lK,by have:=XT.out.1;omega⟩,?_⟩;have e1:=F9.out.rd.c2;have e2:=bD.out;simp only[e1,e2,jA,Int.toNat_natCast];exact aZ
       |false=>
        exact U5
structure yD(w0:iH)(b g:Nat)(s:ByteArray)(p l:Nat)(w:iH):Prop where
 upd:ng b w0 w
 rd:qz w b s p l
 box:w.cell? ⟨g,0,none⟩=some (lq (some ⟨b,0,none⟩))
 res:∃cs,lN w (g+1) cs TT/\cs.size=4
 hp:p<=s.size
 hl:l<=64
 hg:g+2<=w.heap.size
 h0:w0.heap.size=g
 hb:b<g
theorem yD.sub{C E:Nat}(h:yD w0 b g s p l w)(A:ng b w w')(J:qz w' b s C E)(hp:C<=s.size)(hl:E<=64):yD w0 b g s C E w':=by
 obtain⟨cs,N,O⟩:=h.res;have Q:=h.hb;have hg:=h.hg;refine⟨h.upd.trans A,J,?_,⟨cs,A.blk N lK,O⟩,hp,hl,je h.hg A.size,h.h0,h.hb⟩;rw[World.cell?_of_block (w:=w) (A.block g lK (by simpa using by omega))];exact h.box
theorem yD.drewN(h:yD w0 b g s p l w)(n:Nat):yD w0 b g s p l (w.drewN n):=h.sub ((ng.refl _ _).drewN n) (h.rd.drewN n) h.hp h.hl
theorem yD.less(h:yD w0 b g s p l w)(A:1<=l):yD w0 b g s p (l - 1) (w.setCell ⟨b,2,none⟩ (lg lH ((l:Int) - 1))):=by
 refine h.sub ((ng.refl _ _).set 2 _) ?_ h.hp (by have:=h.hl;omega);have:=h.rd.left (l - 1);rwa [show((l - 1:Nat):Int)=(l:Int) - 1 by omega]at this
theorem yD.next(h:yD w0 b g s p l w)(A:p<s.size):yD w0 b g s (p+1) l (w.setCell ⟨b,1,none⟩ (lg lH ((p:Int)+1))):=by
 refine h.sub ((ng.refl _ _).set 1 _) ?_ lK h.hl;have:=h.rd.move (p+1);rwa [show((p+1:Nat):Int)=(p:Int)+1 by omega]at this
theorem yD.r0(h:yD w0 b g s p l w):(∃x,w.cell? ⟨g+1,0,none⟩=some x)/\(∃x,w.cell? ⟨g+1,1,none⟩=some x)/\(∃x,w.cell? ⟨g+1,2,none⟩=some x)/\(∃x,w.cell? ⟨g+1,3,none⟩=some x)/\
  w.frozen? ⟨g+1,0,none⟩=false/\w.frozen? ⟨g+1,1,none⟩=false/\w.frozen? ⟨g+1,2,none⟩=false/\w.frozen? ⟨g+1,3,none⟩=false:=by
 obtain⟨⟨l⟩,A,C⟩:=h.res
 match l,C with
 |[x,y,z,u],_=>exact⟨⟨x,A.cell 0⟩,⟨y,A.cell 1⟩,⟨z,A.cell 2⟩,⟨u,A.cell 3⟩,A.free 0,A.free 1,A.free 2,A.free 3⟩
theorem yD.start(J:qz w b s p l)(hp:p<=s.size)(hl:l<=64):
  ∀W,(w.alloc (lG #[lq (some ⟨b,0,none⟩)] 206)).alloc (lG #[lg lH 0,lg lH 0,lh none 0 0,lg lH 0] TT)=W->yD w b w.heap.size s p l W:=by
 rintro W rfl;have C:=(iL w.heap.size w).alloc (iI _) (lG #[lq (some ⟨b,0,none⟩)] 206);have N:=lN.new w #[lq (some ⟨b,0,none⟩)] 206;have O:=J.below C;have Q:(w.alloc (lG #[lq (some ⟨b,0,none⟩)] 206)).heap.size=w.heap.size+1:=lU;generalize w.alloc (lG #[lq (some ⟨b,0,none⟩)] 206)=w1 at*;have A:=(iL w1.heap.size w1).alloc (iI _) (lG #[lg lH 0,lg lH 0,lh none 0 0,lg lH 0] TT);have E:=lN.new w1 #[lg lH 0,lg lH 0,lh none 0 0,lg lH 0] TT;rw[Q]at E;refine⟨(ng.of C).trans (ng.of A),O.below A,(Below.blk A N lK).cell 0,⟨_,E,rfl⟩,hp,hl,lW,rfl,J.lt⟩
theorem yD.far(h:yD w0 b g s p l w)(hk:g+2<=k)(i:Nat)(v:iJ):yD w0 b g s p l (w.setCell ⟨k,i,none⟩ v):=by
 obtain⟨cs,A,C⟩:=h.res;have J:=h.hb;have E:=h.h0;refine⟨h.upd.yZ (a:=⟨k,i,none⟩) (show w0.heap.size<=k by omega) v,lN.setOther h.rd lW v,?_,⟨cs,A.setOther lW v,C⟩,h.hp,h.hl,by simpa [jf]using h.hg,E,h.hb⟩;rw[World.cell?_of_block (w:=w) (iX _ _ _ _ lW)];exact h.box
theorem yD.alloc(h:yD w0 b g s p l w)(cs:Array iJ)(t:jg):∀W,w.alloc (lG cs t)=W->yD w0 b g s p l W/\lN W w.heap.size cs t/\iK w.heap.size w W:=by
 rintro W rfl;have A:=(iL w.heap.size w).alloc (iI _) (lG cs t);exact⟨h.sub (ng.of A) (h.rd.below A) h.hp h.hl,lN.new w _ _,A⟩
theorem yD.fin(h:yD w0 b g s p l w)(a:TL)(o:Option kr)(n c:Nat)(ok:Bool)(O:ok=true->∃sub,R=some (.node a sub,lS s p,l)/\TL.wf a/\l9.lY w (λk=>g+2<=k) (lh o n c) sub)(Q:ok=false->R=none){A B C D:iJ}(U:A=lg lH a.kind)(E:B=lg lH a.size)(V:C=lh o n c)(Y:D=lg lH a.tail):
  (nY w (g+1) A B C D).cell? ⟨g+1,0,none⟩=some A/\(nY w (g+1) A B C D).cell? ⟨g+1,1,none⟩=some B/\(nY w (g+1) A B C D).cell? ⟨g+1,2,none⟩=some C/\(nY w (g+1) A B C D).cell? ⟨g+1,3,none⟩=some D/\
   qP R b s w0 (lF (lD #[lC #[A,B,C,D],lu ok])) (nY w (g+1) A B C D):=by
 subst U E V Y;obtain⟨cs,J,N⟩:=h.res;have hB:=um (a:=lg lH a.kind) (b:=lg lH a.size) (c:=lh o n c) (d:=lg lH a.tail) J N;have ag:=h.h0;have af:=h.hb;refine⟨hB.cell 0,hB.cell 1,hB.cell 2,hB.cell 3,a,o,n,c,ok,p,l,rfl,AA h.upd lK,wG h.rd lK,h.hp,h.hl,λe=> ?_,Q⟩;obtain⟨sub,Z,aa,ae⟩:=O e;exact⟨sub,Z,aa,(uk ae (λk hk=>by omega)).keep (iI _) (λk _ hk=>by omega) λ_ _ _=>rfl⟩
theorem Pw{p:Prop}(h:p:=by
 have e1:IntKind.i64.min= -9223372036854775808:=rfl;have e2:IntKind.i64.max=9223372036854775807:=rfl;simp[Lit.wf,e1,e2];omega):p:=h
theorem EJ{k:Int}(h0:0<=k)(A:k<=65536):(kP lH k).wf=true:=by
 exact Pw
theorem Gp{k z t:Int}(h:(0<=k/\k<=65536)/\(0<=z/\z<=65536)/\(0<=t/\t<=65536)):TL.wf ⟨k,z,t⟩:=⟨EJ h.1.1 h.1.2,EJ h.2.1.1 h.2.1.2,EJ h.2.2.1 h.2.2.2⟩
theorem AL(S:Shape TL)(w:iH)(Q:Nat->Prop):S.lY w Q (lh none 0 0) []:=⟨none,0,rfl,iI _,jy _,λh=>absurd h lU⟩
theorem K3{a:TL}{o:Option kr}{c:Nat}{sub:List (lL TL)}(hB:lN w k #[lg lH a.kind,lg lH a.size,lh o n c,lg lH a.tail] TT)(A:TL.wf a)(hs:l9.lY w Q (lh o n c) sub)(C:Q k):l9.lY w Q (lh (some ⟨k,0,none⟩) 1 1) [.node a sub]:=by
 refine⟨some ⟨k,0,none⟩,1,rfl,iI _,by unfold jb;decide,λ_=>⟨k,0,rfl,hB.lt,C,?_⟩⟩;simp only[Shape.oM,Shape.qA,and_true];refine⟨A,lh o n c,λj E=> ?_,hs⟩;have J:j<4:=E;rw[hB.cell];have:j=0\/j=1\/j=2\/j=3:=lK;rcases this with rfl|rfl|rfl|rfl<;>rfl
theorem XU(D:Nat)(s:ByteArray)(p l:Nat)(hp:p<s.size)(hl:1<=l)(b:UInt8)(hb:s[p]=b):rd (D+1) (lS s p) l=
  if b=117 then(num 64 (lS s (p+1))).bind λq=>if q.1 % 8=0 then some (.node ⟨1,(q.1/8:Nat),0⟩ [],q.2,l - 1)else none
  else if b=98 then(num 65536 (lS s (p+1))).bind λq=>some (.node ⟨2,q.1,0⟩ [],q.2,l - 1)
  else if b=115 then(num 65536 (lS s (p+1))).bind λq=>some (.node ⟨3,q.1,0⟩ [],q.2,l - 1)
  else if b=91 then(rd D (lS s (p+1)) (l - 1)).bind λy=>match y.2.1 with
    |58::r2=>(num 1024 r2).bind λq=>match q.2 with
     |93::r4=>some (.node ⟨4,q.1,0⟩ [y.1],r4,y.2.2)
     |_=>none
    |_=>none
  else if b=123 then(if mM 125 (lS s (p+1))then some (.node ⟨5,0,0⟩ [],lS s (p+2),l - 1)else uF (rd D) (l+1) (lS s (p+1)) (l - 1) [] 0)
  else none:=by
 rw[o7 hp,hb];simp only[rd];rw[if_neg lK];split;.rfl
 split;.rfl
 split;.rfl
 split;.rfl
 split
 .cases A:mM 125 (lS s (p+1))with
  |true=>
   obtain⟨E,C⟩:=oJ lK A;rw[C];rfl
  |false=>
   split;.rename_i r e;exact(qw A e).elim
   .simp
 .rfl
theorem Z4(D:Nat)(s:ByteArray)(p l:Nat)(hp:p<=s.size)(h:l=0\/p=s.size):rd (D+1) (lS s p) l=none:=by
 simp only[rd];split;.rfl
 .rcases h with h|h
  .omega
  .rw[pY lK]
theorem IG{p:Prop}(h:p:=by
 refine iV (v:=lD #[lC #[lg lH 0,lg lH 0,lh none 0 0,lg lH 0],lu false]) (by simp[jr,Tryz.results171,go_sem,e0,e1,e2,e3]) rfl ?_;rw[<-HP.out];exact hpost):p:=h
theorem XV(b:Nat)(s:ByteArray)(hs:s.size<=jb):∀(D dep p l:Nat)(w:iH),dep+D=9->p<=s.size->l<=64->qz w b s p l->
  iU iG 171 #[lq (some ⟨b,0,none⟩),lg lH (dep:Int)] w (qP (rd D (lS s p) l) b s w):=by
 intro D;induction D with
 |zero=>
  intro dep p l w hd hp hl hb;have fP:decide (8<(dep:Int))=true:=lW;have bY:=iF (yD.start hb hp hl);have dB:iW (rd 0 (lS s p) l=none):=iF rfl;obtain⟨g,hg⟩:=lV w.heap.size;rw[hg]at bY;have dG:=iF hd;obtain⟨R,dC⟩:=lV (rd 0 (lS s p) l);rw[dC]at dB⊢;obtain⟨fQ,bZ⟩:=lV (qP R b s w);have HP:=iF bZ;rw[bZ];clear hb hd dC bZ;go_in;go_upto_region 1 with fail;generalize (w.alloc (lG #[lq (some ⟨b,0,none⟩)] 206)).alloc (lG #[lg lH 0,lg lH 0,lh none 0 0,lg lH 0] TT)=w1 at*;have G:=iF (bY.out _ rfl);obtain⟨⟨ag,r0⟩,⟨ah,r1⟩,⟨ai,r2⟩,⟨aj,r3⟩,ak,au,av,ax⟩:=G.out.r0;go_quiet (fail);go_wp2_with fail;rw[mq];obtain⟨e0,e1,e2,e3,hpost⟩:=(G.out.drewN nq).fin (A:=lg lH 0) (B:=lg lH 0) (C:=lh none 0 0) (D:=lg lH 0) ⟨0,0,0⟩ none 0 0 false (λh=>by cases h) (λ_=>dB.out) rfl rfl rfl rfl;exact IG
 |succ D gq=>
  intro dep p l w hd hp hl hb;have fP:decide (8<(dep:Int))=false:=lW;have bY:=iF (yD.start hb hp hl);obtain⟨g,hg⟩:=lV w.heap.size;rw[hg]at bY;have dG:=iF hd;have cz:dep<=8:=lK;have eD:=iF gq;have bH:=iF hs;obtain⟨R,dC⟩:=lV (rd (D+1) (lS s p) l);have dB:=iF dC;have cB:=iF (Z4 D s p l hp);rw[dC];obtain⟨fQ,bZ⟩:=lV (qP R b s w);have HP:=iF bZ;rw[bZ];have eU:s.size<=9223372036854775807:=by unfold jb at hs;omega
  clear hb hd dC bZ gq hs;by_cases bI:l=0\/p=s.size
  .have cK:iW (R=none):=iF (by rw[<-dB.out];exact cB.out bI)
   have e1:((l:Int)==0)=decide (l=0):=by rw[Bool.eq_iff_iff];simp
   have e2:((p:Int)==s.size)=decide (p=s.size):=by rw[Bool.eq_iff_iff];simp;omega
   have eF:(((l:Int)==0)=true)\/(((l:Int)==0)=false/\((p:Int)==s.size)=true):=by
    rcases bI with h|h
    .exact .inl (by rw[e1];simp[h])
    .by_cases h0:l=0
     .exact .inl (by rw[e1];simp[h0])
     .exact .inr ⟨by rw[e1];simp[h0],by rw[e2];simp[h]⟩
   clear bI cB e1 e2;go_in;go_upto_region 1 with fail;generalize (w.alloc (lG #[lq (some ⟨b,0,none⟩)] 206)).alloc (lG #[lg lH 0,lg lH 0,lh none 0 0,lg lH 0] TT)=w1 at*;have G:=iF (bY.out _ rfl);obtain⟨⟨ag,r0⟩,⟨ah,r1⟩,⟨ai,r2⟩,⟨aj,r3⟩,ak,au,av,ax⟩:=G.out.r0;have b0:=G.out.box;obtain⟨c0,c1,c2⟩:=G.out.rd.a3;rcases eF with fT|⟨fT,gu⟩
   all_goals
    go_quiet (fail);go_wp2_with fail;rw[mq];obtain⟨e0,e1,e2,e3,hpost⟩:=(G.out.drewN nq).fin (A:=lg lH 0) (B:=lg lH 0) (C:=lh none 0 0) (D:=lg lH 0) ⟨0,0,0⟩ none 0 0 false (λh=>by cases h) (λ_=>cK.out) rfl rfl rfl rfl;refine iV (v:=lD #[lC #[lg lH 0,lg lH 0,lh none 0 0,lg lH 0],lu false]) (by simp[jr,Tryz.results171,go_sem,e0,e1,e2,e3]) rfl ?_;rw[<-HP.out];exact hpost
  .have dw:1<=l:=lK
   have eX:p<s.size:=lK;have fT:((l:Int)==0)=false:=lW;have gu:((p:Int)==s.size)=false:=lW;have dx:=iF (XU D s p l eX dw s[p] rfl);clear bI cB;go_in;go_upto_region 1 with fail;generalize (w.alloc (lG #[lq (some ⟨b,0,none⟩)] 206)).alloc (lG #[lg lH 0,lg lH 0,lh none 0 0,lg lH 0] TT)=w1 at*;have G:=iF (bY.out _ rfl);have b0:=G.out.box;obtain⟨c0,c1,c2⟩:=G.out.rd.a3;have f2:=lN.free G.out.rd 2;clear bY;go_quiet (fail);go_upto_region 4 with fail;refine r9 (λW=>yD w b g s p (l - 1) W) ((G.out.drewN _).less dw) ?_;intro w2 eY;have dH:=iF eY;clear G b0 c0 c1 c2 f2 eY;have b0:=dH.out.box;obtain⟨c0,c1⟩:=dH.out.rd.a2;have f1:=lN.free dH.out.rd 1;go_quiet (fail);go_upto_region 7 with fail;refine r9 (λW=>yD w b g s (p+1) (l - 1) W) ((dH.out.drewN _).next eX) ?_;intro w3 eZ;have V:=iF eZ;obtain⟨q,aF⟩:=lV (p+1);obtain⟨m,eG⟩:=lV (l - 1);have fU:=iF aF;have fV:=iF eG;have dI:m<=63:=lK;have aR:q<=s.size:=lK;rw[aF,eG]at V;have J:=iF (dB.out.symm.trans dx.out);rw[aF,eG]at J;clear dH b0 c0 c1 f1 eZ aF eG dx dB fT gu;have b0:=V.out.box;obtain⟨⟨ag,r0⟩,⟨ah,r1⟩,⟨ai,r2⟩,⟨aj,r3⟩,ak,au,av,ax⟩:=V.out.r0;have hk:iW (∀c:UInt8,s[p]≠c->((s[p].toNat:Int)==(c.toNat:Int))=false):=iF λc h=>by
    rw[beq_eq_false_iff_ne];intro iE;exact h (jX.1 lK)
   by_cases aL:s[p]=117
   .have dD:((s[p].toNat:Int)==117)=true:=by rw[aL];rfl
    have Q:=iF J.out;rw[if_pos aL]at Q;have aS:iW (iU iG 213 #[lg lH 1,lg lH 64,lq (some ⟨g,0,none⟩)] w3 (vS 1 b s q m 64 w3)):=iF (AB 1 b g s q m 64 w3 bH.out aR lM V.out.rd V.out.box);clear aL J hk;go_wp2_with fail;refine(aS.out).mono ?_;rintro e w4 ⟨n,ok,Y,rfl,Z,aa,ae,fq,hok,U⟩;have aC:=iF (V.out.sub Z aa ae lK);have N:=iF (iQ hok U);have bq:=iF (aC.out.alloc #[lg lH 1,lg lH (n:Int),lh none 0 0,lg lH 0] TT);clear Z aa hok U aS V b0 ag r0 ah r1 ai r2 aj r3 ak au av ax;go_upto_region 10 with fail;generalize w4.alloc (lG #[lg lH 1,lg lH (n:Int),lh none 0 0,lg lH 0] TT)=w5 at*;obtain⟨bu,aB,_⟩:=bq.out _ rfl;have ay:=iF bu;have bz:=iF aB;obtain⟨⟨ag,r0⟩,⟨ah,r1⟩,⟨ai,r2⟩,⟨aj,r3⟩,ak,au,av,ax⟩:=ay.out.r0;have cO:=aB.c0;have bJ:=aB.c1;have cZ:=aB.c2;have df:=aB.c3;have gy:=aB.free 1;have aT:g+2<=w4.heap.size:=aC.out.hg;clear bu aB bq;cases ok with
    |true=>
     go_upto_region 12 with fail;refine r9 (λW=>yD w b g s Y m W/\lN W w4.heap.size #[lg lH 1,lg lH ((n/8:Nat):Int),lh none 0 0,lg lH 0] TT) ⟨ay.out.far aT _ _,by simpa using bz.out.set 1 (lg lH ((n/8:Nat):Int))⟩ ?_;rintro bK ⟨bQ,bR⟩;have aI:=iF bQ;clear cO bJ cZ df gy ag r0 ah r1 ai r2 aj r3 ak au av ax;obtain⟨⟨ag,r0⟩,⟨ah,r1⟩,⟨ai,r2⟩,⟨aj,r3⟩,ak,au,av,ax⟩:=aI.out.r0;obtain⟨cO,bJ,cZ,df⟩:=bR.a4;obtain⟨nd,aU⟩:=lV (n/8);rw[aU]at bJ;have fu:=iF aU;have fZ:nd<=64:=lK;clear bQ bR aU;go_wp2_with fail;have aG:((n:Int) % 8==0)=true->∃sub,R=some (.node ⟨1,(nd:Int),0⟩ sub,lS s Y,m)/\TL.wf ⟨1,(nd:Int),0⟩/\l9.lY bK (λk=>g+2<=k) (lh none 0 0) sub:=λh=>by
      have aD:=N.out.1 (by trivial);refine⟨[],?_,Gp lK,AL _ _ _⟩;rw[Q.out,aD,jh,if_pos (by simp at h;omega),fu.out]
     have E:((n:Int) % 8==0)=false->R=none:=λh=>by
      have aD:=N.out.1 (by trivial);rw[Q.out,aD,jh,if_neg (by simp at h;omega)]
     rw[mq];obtain⟨e0,e1,e2,e3,hpost⟩:=aI.out.fin (A:=lg lH 1) (B:=lg lH (nd:Int)) (C:=lh none 0 0) (D:=lg lH 0) ⟨1,(nd:Int),0⟩ none 0 0 ((n:Int) % 8==0) aG E rfl rfl rfl rfl;refine iV (v:=lD #[lC #[lg lH 1,lg lH (nd:Int),lh none 0 0,lg lH 0],lu ((n:Int) % 8==0)]) (by simp[jr,Tryz.results171,go_sem,e0,e1,e2,e3]) rfl ?_;rw[<-HP.out];exact hpost
    |false=>
     go_upto_region 12 with fail;refine r9 (λW=>yD w b g s Y m W/\lN W w4.heap.size #[lg lH 1,lg lH ((n/8:Nat):Int),lh none 0 0,lg lH 0] TT) ⟨ay.out.far aT _ _,by simpa using bz.out.set 1 (lg lH ((n/8:Nat):Int))⟩ ?_;rintro bK ⟨bQ,bR⟩;have aI:=iF bQ;clear cO bJ cZ df gy ag r0 ah r1 ai r2 aj r3 ak au av ax;obtain⟨⟨ag,r0⟩,⟨ah,r1⟩,⟨ai,r2⟩,⟨aj,r3⟩,ak,au,av,ax⟩:=aI.out.r0;obtain⟨cO,bJ,cZ,df⟩:=bR.a4;obtain⟨nd,aU⟩:=lV (n/8);rw[aU]at bJ;have fu:=iF aU;have fZ:nd<=64:=lK;clear bQ bR aU;go_wp2_with fail;have E:R=none:=by rw[Q.out,N.out.2 (by trivial)];rfl
     rw[mq];obtain⟨e0,e1,e2,e3,hpost⟩:=aI.out.fin (A:=lg lH 1) (B:=lg lH (nd:Int)) (C:=lh none 0 0) (D:=lg lH 0) ⟨1,(nd:Int),0⟩ none 0 0 false (λh=>by cases h) (λ_=>E) rfl rfl rfl rfl;refine iV (v:=lD #[lC #[lg lH 1,lg lH (nd:Int),lh none 0 0,lg lH 0],lu false]) (by simp[jr,Tryz.results171,go_sem,e0,e1,e2,e3]) rfl ?_;rw[<-HP.out];exact hpost
   have dJ:((s[p].toNat:Int)==117)=false:=hk.out 117 aL;have bL:=iF J.out;rw[if_neg aL]at bL;clear aL J;have J:=bL;clear bL;by_cases bA:s[p]=98
   .have dD:((s[p].toNat:Int)==98)=true:=by rw[bA];rfl
    have Q:=iF J.out;rw[if_pos bA]at Q;have aS:iW (iU iG 213 #[lg lH 2,lg lH 65536,lq (some ⟨g,0,none⟩)] w3 (vS 2 b s q m 65536 w3)):=iF (AB 2 b g s q m 65536 w3 bH.out aR lM V.out.rd V.out.box);clear bA J hk;go_wp2_with fail;refine(aS.out).mono ?_;rintro e w4 ⟨n,ok,Y,rfl,Z,aa,ae,fq,hok,U⟩;have aC:=iF (V.out.sub Z aa ae lK);have N:=iF (iQ hok U);clear Z aa hok U aS V b0 ag r0 ah r1 ai r2 aj r3 ak au av ax;obtain⟨⟨ag,r0⟩,⟨ah,r1⟩,⟨ai,r2⟩,⟨aj,r3⟩,ak,au,av,ax⟩:=aC.out.r0;go_wp2_with fail;have aG:ok=true->∃sub,R=some (.node ⟨2,(n:Int),0⟩ sub,lS s Y,m)/\TL.wf ⟨2,(n:Int),0⟩/\l9.lY w4 (λk=>g+2<=k) (lh none 0 0) sub:=λh=>by
     refine⟨[],?_,Gp lK,AL _ _ _⟩;rw[Q.out,N.out.1 h];rfl
    have E:ok=false->R=none:=λh=>by rw[Q.out,N.out.2 h];rfl
    rw[mq];obtain⟨e0,e1,e2,e3,hpost⟩:=aC.out.fin (A:=lg lH 2) (B:=lg lH (n:Int)) (C:=lh none 0 0) (D:=lg lH 0) ⟨2,(n:Int),0⟩ none 0 0 ok aG E rfl rfl rfl rfl;refine iV (v:=lD #[lC #[lg lH 2,lg lH (n:Int),lh none 0 0,lg lH 0],lu ok]) (by simp[jr,Tryz.results171,go_sem,e0,e1,e2,e3]) rfl ?_;rw[<-HP.out];exact hpost
   have fw:((s[p].toNat:Int)==98)=false:=hk.out 98 bA;have aV:=iF J.out;rw[if_neg bA]at aV;clear bA J;have J:=aV;clear aV;by_cases aM:s[p]=115
   .have dD:((s[p].toNat:Int)==115)=true:=by rw[aM];rfl
    have Q:=iF J.out;rw[if_pos aM]at Q;have aS:iW (iU iG 213 #[lg lH 3,lg lH 65536,lq (some ⟨g,0,none⟩)] w3 (vS 3 b s q m 65536 w3)):=iF (AB 3 b g s q m 65536 w3 bH.out aR lM V.out.rd V.out.box);clear aM J hk;go_wp2_with fail;refine(aS.out).mono ?_;rintro e w4 ⟨n,ok,Y,rfl,Z,aa,ae,fq,hok,U⟩;have aC:=iF (V.out.sub Z aa ae lK);have N:=iF (iQ hok U);clear Z aa hok U aS V b0 ag r0 ah r1 ai r2 aj r3 ak au av ax;obtain⟨⟨ag,r0⟩,⟨ah,r1⟩,⟨ai,r2⟩,⟨aj,r3⟩,ak,au,av,ax⟩:=aC.out.r0;go_wp2_with fail;have aG:ok=true->∃sub,R=some (.node ⟨3,(n:Int),0⟩ sub,lS s Y,m)/\TL.wf ⟨3,(n:Int),0⟩/\l9.lY w4 (λk=>g+2<=k) (lh none 0 0) sub:=λh=>by
     refine⟨[],?_,Gp lK,AL _ _ _⟩;rw[Q.out,N.out.1 h];rfl
    have E:ok=false->R=none:=λh=>by rw[Q.out,N.out.2 h];rfl
    rw[mq];obtain⟨e0,e1,e2,e3,hpost⟩:=aC.out.fin (A:=lg lH 3) (B:=lg lH (n:Int)) (C:=lh none 0 0) (D:=lg lH 0) ⟨3,(n:Int),0⟩ none 0 0 ok aG E rfl rfl rfl rfl;refine iV (v:=lD #[lC #[lg lH 3,lg lH (n:Int),lh none 0 0,lg lH 0],lu ok]) (by simp[jr,Tryz.results171,go_sem,e0,e1,e2,e3]) rfl ?_;rw[<-HP.out];exact hpost
   have dK:((s[p].toNat:Int)==115)=false:=hk.out 115 aM;have bM:=iF J.out;rw[if_neg aM]at bM;clear aM J;have J:=bM;clear bM;by_cases bB:s[p]=91
   .have dD:((s[p].toNat:Int)==91)=true:=by rw[bB];rfl
    have Q:=iF J.out;rw[if_pos bB]at Q;have gz:iW (iU iG 171 #[lq (some ⟨b,0,none⟩),lg lH ((dep:Int)+1)] w3 (qP (rd D (lS s q) m) b s w3)):=iF (eD.out (dep+1) q m w3 (by have:=dG.out;omega) aR lK V.out.rd);clear bB J hk;have bS:=iF V.out.hg;go_wp2_with fail;refine(gz.out).mono ?_;rintro e w4 ⟨a,o,n,c,ok,Y,az,rfl,Z,aa,ae,aJ,hok,U⟩;have aC:=iF (V.out.sub Z aa ae aJ);have N:=iF (iQ hok U);have bq:=iF (aC.out.alloc #[lg lH a.kind,lg lH a.size,lh o n c,lg lH a.tail] TT);clear Z aa hok U gz V b0 ag r0 ah r1 ai r2 aj r3 ak au av ax;go_upto_region 19 with fail;generalize w4.alloc (lG #[lg lH a.kind,lg lH a.size,lh o n c,lg lH a.tail] TT)=w5 at*;obtain⟨bu,aB,bN⟩:=bq.out _ rfl;have ay:=iF bu;have bz:=iF aB;have b0:=ay.out.box;have aT:g+2<=w4.heap.size:=aC.out.hg;cases ok with
    |false=>
     clear bu aB bq bN;obtain⟨⟨ag,r0⟩,⟨ah,r1⟩,⟨ai,r2⟩,⟨aj,r3⟩,ak,au,av,ax⟩:=ay.out.r0;have E:R=none:=by rw[Q.out,N.out.2 (by trivial)];rfl
     have cK:=iF E;clear E;go_wp2_with fail;rw[mq];obtain⟨e0,e1,e2,e3,hpost⟩:=ay.out.fin (A:=lg lH 0) (B:=lg lH 0) (C:=lh none 0 0) (D:=lg lH 0) ⟨0,0,0⟩ none 0 0 false (λh=>by cases h) (λ_=>cK.out) rfl rfl rfl rfl;exact IG
    |true=>
     have dL:iW (∃sub,rd D (lS s q) m=some (.node a sub,lS s Y,az)/\TL.wf a/\l9.lY w5 (λk=>g+2<=k/\k<w4.heap.size) (lh o n c) sub):=iF (by
      obtain⟨sub,aD,bT,bO⟩:=N.out.1 (by trivial);exact⟨sub,aD,bT,bO.keep bN.size (λk hk aF=>⟨je bS.out aF,hk⟩) λk hk aF=>bN.block k hk⟩)
     clear bu aB bq bN N;obtain⟨sub,aO,dM,dz⟩:=dL.out;have aO:=iF aO;have dN:=iF dM;have dO:=iF dz;clear dL dM dz
     have dE:iW (iU iG 215 #[lq (some ⟨b,0,none⟩),lg .u8 58] w5 λe w'=>e=lF (lu (mM 58 (lS s Y)))/\ng b w5 w'/\qz w' b s (if mM 58 (lS s Y)then Y+1 else Y) az):=
      iF (rA b s Y az 58 w5 bH.out ae ay.out.rd)
     have bC:=iF (λh=>oJ (c:=58) (s:=s) (p:=Y) ae h);cases bD:mM 58 (lS s Y)with
     |false=>
      rw[bD]at dE;have aP:=iF bD;clear bD;have E:R=none:=by
       rw[Q.out,aO.out];simp only[jh];split;.rename_i r2 e2;exact(qw aP.out e2).elim
       .rfl
      have cK:=iF E;clear E;go_wp2_with fail;refine(dE.out).mono ?_;rintro e bK ⟨rfl,aK,bU⟩;have aI:=iF (ay.out.sub aK (show qz bK b s Y az from by simpa using bU) ae aJ);clear aK bU dE b0;obtain⟨⟨ag,r0⟩,⟨ah,r1⟩,⟨ai,r2⟩,⟨aj,r3⟩,ak,au,av,ax⟩:=aI.out.r0;go_wp2_with fail;rw[mq];obtain⟨e0,e1,e2,e3,hpost⟩:=aI.out.fin (A:=lg lH 0) (B:=lg lH 0) (C:=lh none 0 0) (D:=lg lH 0) ⟨0,0,0⟩ none 0 0 false (λh=>by cases h) (λ_=>cK.out) rfl rfl rfl rfl;exact IG
     |true=>
      rw[bD]at dE;have aP:=iF (bC.out bD);clear bD bC;go_wp2_with fail;refine(dE.out).mono ?_;rintro e bK ⟨rfl,aK,bU⟩;have dA:Y+1<=s.size:=by have:=aP.out.1;omega
      have aI:=iF (ay.out.sub aK (show qz bK b s (Y+1) az from by simpa using bU) dA aJ);have dP:=iF (aK.blk bz.out (by have:=ay.out.hb;omega));have dQ:=iF (Shape.lY.keep dO.out aK.size (λ_ _ h=>h) λk hk aF=>aK.block k hk (by simpa using by have:=ay.out.hb;omega));have fA:=iF aK.size;have aS:iW (iU iG 213 #[lg lH 4,lg lH 1024,lq (some ⟨g,0,none⟩)] bK (vS 4 b s (Y+1) az 1024 bK)):=iF (AB 4 b g s (Y+1) az 1024 bK bH.out dA lM aI.out.rd aI.out.box);clear aK bU dE b0;go_wp2_with fail;refine(aS.out).mono ?_;rintro e aA ⟨af,gB,aW,rfl,bE,fB,bV,fC,hok,U⟩;have eH:=iF (aI.out.sub bE fB bV aJ);have N:=iF (iQ hok U);have bW:=iF (bE.blk dP.out (by have:=ay.out.hb;omega));have dR:=iF (Shape.lY.keep dQ.out bE.size (λ_ _ h=>h) λk hk aF=>bE.block k hk (by simpa using by have:=ay.out.hb;omega));have fD:=iF bE.size;have fE:=iF (eH.out.alloc #[lg lH 4,lg lH (af:Int),lh none 0 0,lg lH 0] TT);clear bE fB hok U aS;go_upto_region 22 with fail;generalize aA.alloc (lG #[lg lH 4,lg lH (af:Int),lh none 0 0,lg lH 0] TT)=O at*;obtain⟨fF,bX,bP⟩:=fE.out _ rfl;have fG:=iF (Below.blk bP bW.out bW.out.lt);have fH:=iF (Shape.lY.keep dR.out bP.size (λ_ _ h=>h) λk hk _=>bP.block k hk);have fI:=iF bX;have gD:=iF fF;have dS:aA.heap.size<O.heap.size:=bX.lt;have dU:w4.heap.size<aA.heap.size:=bW.out.lt;obtain⟨cO,bJ,cZ,df⟩:=fG.out.a4;have ik:=bX.c2;have il:=bX.free 2;have dV:g+2<=aA.heap.size:=eH.out.hg
      have fJ:iW (∀W,(O.setCell ⟨aA.heap.size,2,none⟩ (lh (some ⟨O.heap.size,0,none⟩) 1 1)).alloc (lG #[lg lH a.kind,lg lH a.size,lh o n c,lg lH a.tail] TT)=W->
        (yD w b g s aW az W/\lN W aA.heap.size #[lg lH 4,lg lH (af:Int),lh (some ⟨O.heap.size,0,none⟩) 1 1,lg lH 0] TT/\l9.lY W (λk=>g+2<=k) (lh (some ⟨O.heap.size,0,none⟩) 1 1) [.node a sub])):=iF λW h=>by
       have iq:=gD.out.far dV 2 (lh (some ⟨O.heap.size,0,none⟩) 1 1);have gF:lN (O.setCell ⟨aA.heap.size,2,none⟩ (lh (some ⟨O.heap.size,0,none⟩) 1 1)) aA.heap.size #[lg lH 4,lg lH (af:Int),lh (some ⟨O.heap.size,0,none⟩) 1 1,lg lH 0] TT:=by simpa using fI.out.set 2 (lh (some ⟨O.heap.size,0,none⟩) 1 1)
       have iw:=Shape.lY.keep (w':=O.setCell ⟨aA.heap.size,2,none⟩ (lh (some ⟨O.heap.size,0,none⟩) 1 1)) fH.out (by simp[jf]) (λ_ _ h=>h) λk hk aF=>iX _ _ _ _ lW
       have sz:(O.setCell ⟨aA.heap.size,2,none⟩ (lh (some ⟨O.heap.size,0,none⟩) 1 1)).heap.size=O.heap.size:=by simp[jf]
       obtain⟨aD,bT,bO⟩:=iq.alloc _ _ W h;rw[sz]at bT;have iy:=iw.keep (Q':=λk=>g+2<=k) bO.size (λk _ aF=>aF.1) λk hk _=>bO.block k hk
       exact⟨aD,Below.blk bO gF gF.lt,K3 bT dN.out iy lK⟩
      clear fF bX bP fE;go_upto_region 23 with fail;refine r9 (λW=>yD w b g s aW az W/\lN W aA.heap.size #[lg lH 4,lg lH (af:Int),lh (some ⟨O.heap.size,0,none⟩) 1 1,lg lH 0] TT/\l9.lY W (λk=>g+2<=k) (lh (some ⟨O.heap.size,0,none⟩) 1 1) [.node a sub]) (fJ.out _ rfl) ?_;rintro aQ ⟨fK,dW,fM⟩;have eO:=iF fK;have fO:=iF dW;have gG:=iF fM;have iA:aA.heap.size<aQ.heap.size:=dW.lt;clear cO bJ cZ df ik il fJ fK dW fM gD fG fH fI;have b0:=eO.out.box;obtain⟨⟨ag,r0⟩,⟨ah,r1⟩,⟨ai,r2⟩,⟨aj,r3⟩,ak,au,av,ax⟩:=eO.out.r0;obtain⟨cO,bJ,cZ,df⟩:=fO.out.a4;have dX:g+2<=aA.heap.size:=lK;cases gB with
      |false=>
       have E:R=none:=by
        rw[Q.out,aO.out];simp only[jh,aP.out.2,N.out.2 rfl];rfl
       have cK:=iF E;clear E;go_big_region;go_wp2_with fail;rw[mq,show∀A B C D,(nY aQ (g+1) A B C D).drew=nY (aQ.drewN 1) (g+1) A B C D from λ_ _ _ _=>rfl];obtain⟨e0,e1,e2,e3,hpost⟩:=(eO.out.drewN 1).fin (A:=lg lH 4) (B:=lg lH (af:Int)) (C:=lh (some ⟨O.heap.size,0,none⟩) 1 1) (D:=lg lH 0) ⟨4,(af:Int),0⟩ (some ⟨O.heap.size,0,none⟩) 1 1 false (λh=>by cases h) (λ_=>cK.out) rfl rfl rfl rfl;refine iV (v:=lD #[lC #[lg lH 4,lg lH (af:Int),lh (some ⟨O.heap.size,0,none⟩) 1 1,lg lH 0],lu false]) (by simp[jr,Tryz.results171,go_sem,e0,e1,e2,e3]) rfl ?_;rw[<-HP.out];exact hpost
      |true=>
       have eP:iW (yD w b g s aW az aQ.drew):=iF (by have:=eO.out.drewN 1;exact this);have dY:iW (lN aQ.drew aA.heap.size #[lg lH 4,lg lH (af:Int),lh (some ⟨O.heap.size,0,none⟩) 1 1,lg lH 0] TT):=iF fO.out;have dF:=iF (rA b s aW az 93 aQ.drew bH.out bV eP.out.rd);have bC:=iF (λh=>oJ (c:=93) (s:=s) (p:=aW) bV h)
       have gH:iW (∀W eQ,ng b aQ.drew W->qz W b s eQ az->eQ<=s.size->(W.cell? ⟨aA.heap.size,0,none⟩=some (lg lH 4)/\W.cell? ⟨aA.heap.size,1,none⟩=some (lg lH (af:Int))/\W.cell? ⟨aA.heap.size,2,none⟩=some (lh (some ⟨O.heap.size,0,none⟩) 1 1)/\W.cell? ⟨aA.heap.size,3,none⟩=some (lg lH 0))/\
         yD w b g s eQ az W/\l9.lY W (λk=>g+2<=k) (lh (some ⟨O.heap.size,0,none⟩) 1 1) [.node a sub]):=iF λW eQ eT iB gI=>by
        have aD:=eT.blk dY.out (by have:=ay.out.hb;omega);exact⟨⟨aD.cell 0,aD.cell 1,aD.cell 2,aD.cell 3⟩,eP.out.sub eT iB gI aJ,Shape.lY.keep (gG.out.keep (w':=aQ.drew) (iI _) (λ_ _ h=>h) λ_ _ _=>rfl) eT.size (λ_ _ h=>h) λk hk aF=>eT.block k hk (by have:=ay.out.hb;simp;omega)⟩
       cases bF:mM 93 (lS s aW)with
       |true=>
        rw[bF]at dF;have bG:=iF (bC.out bF);have dZ:iW (iU iG 215 #[lq (some ⟨b,0,none⟩),lg .u8 93] aQ.drew λe w'=>e=lF (lu true)/\ng b aQ.drew w'/\qz w' b s (aW+1) az):=iF (dF.out.mono λe w' h=>⟨h.1,h.2.1,by simpa using h.2.2⟩);clear bF dF;have ed:aW+1<=s.size:=by have:=bG.out.1;omega
        have dh:iW (R=some (.node ⟨4,(af:Int),0⟩ [.node a sub],lS s (aW+1),az)):=iF (by
         rw[Q.out,aO.out];simp only[jh,aP.out.2,N.out.1 rfl,bG.out.2])
        have gm:af<=65536:=lK;clear eD bH Q aO dN dO dQ dR bz dP bW aC ay aI eH fU fV aP bG N bC eP dY fA fD cz eU dw dI aR ae aJ dA bV fC aT dU dS dV dX bS hp hl dG fP dD dJ fw dK;go_region_with (refine(dZ.out).mono ?_;rintro e ek ⟨rfl,aX,aY⟩;obtain⟨⟨gJ,gK,gL,gM⟩,aH,aZ⟩:=gH.out ek _ aX aY ed;have eu:=iF aH;have eB:=iF aZ;obtain⟨⟨gN,gP⟩,⟨gQ,gT⟩,⟨gU,gV⟩,⟨gW,gX⟩,gY,gZ,ic,ig⟩:=aH.r0;clear aX aY aH aZ)
        all_goals
         go_wp2_with fail;rw[mq];obtain⟨e0,e1,e2,e3,hpost⟩:=eu.out.fin (A:=lg lH 4) (B:=lg lH (af:Int)) (C:=lh (some ⟨O.heap.size,0,none⟩) 1 1) (D:=lg lH 0) ⟨4,(af:Int),0⟩ (some ⟨O.heap.size,0,none⟩) 1 1 true (λ_=>⟨_,dh.out,Gp lK,eB.out⟩) (λh=>by cases h) rfl rfl rfl rfl;refine iV (v:=lD #[lC #[lg lH 4,lg lH (af:Int),lh (some ⟨O.heap.size,0,none⟩) 1 1,lg lH 0],lu true]) (by simp[jr,Tryz.results171,go_sem,jZ,e0,e1,e2,e3]) rfl ?_;rw[<-HP.out];exact hpost
       |false=>
        rw[bF]at dF;have bG:=iF bF;have dZ:iW (iU iG 215 #[lq (some ⟨b,0,none⟩),lg .u8 93] aQ.drew λe w'=>e=lF (lu false)/\ng b aQ.drew w'/\qz w' b s (aW) az):=iF (dF.out.mono λe w' h=>⟨h.1,h.2.1,by simpa using h.2.2⟩);clear bF dF;have ed:aW<=s.size:=lK;have dh:iW (R=none):=iF (by
         rw[Q.out,aO.out];simp only[jh,aP.out.2,N.out.1 rfl];split;.rename_i r4 e4;exact(qw bG.out e4).elim
         .rfl)
        have gm:af<=65536:=lK;clear eD bH Q aO dN dO dQ dR bz dP bW aC ay aI eH fU fV aP bG N bC eP dY fA fD cz eU dw dI aR ae aJ dA bV fC aT dU dS dV dX bS hp hl dG fP dD dJ fw dK;go_region_with (refine(dZ.out).mono ?_;rintro e ek ⟨rfl,aX,aY⟩;obtain⟨⟨gJ,gK,gL,gM⟩,aH,aZ⟩:=gH.out ek _ aX aY ed;have eu:=iF aH;have eB:=iF aZ;obtain⟨⟨gN,gP⟩,⟨gQ,gT⟩,⟨gU,gV⟩,⟨gW,gX⟩,gY,gZ,ic,ig⟩:=aH.r0;clear aX aY aH aZ)
        all_goals
         go_wp2_with fail;rw[mq];obtain⟨e0,e1,e2,e3,hpost⟩:=eu.out.fin (A:=lg lH 4) (B:=lg lH (af:Int)) (C:=lh (some ⟨O.heap.size,0,none⟩) 1 1) (D:=lg lH 0) ⟨4,(af:Int),0⟩ (some ⟨O.heap.size,0,none⟩) 1 1 false (λh=>by cases h) (λ_=>dh.out) rfl rfl rfl rfl;refine iV (v:=lD #[lC #[lg lH 4,lg lH (af:Int),lh (some ⟨O.heap.size,0,none⟩) 1 1,lg lH 0],lu false]) (by simp[jr,Tryz.results171,go_sem,jZ,e0,e1,e2,e3]) rfl ?_;rw[<-HP.out];exact hpost
   have iD:((s[p].toNat:Int)==91)=false:=hk.out 91 bB;have bg:=iF J.out;rw[if_neg bB]at bg;clear bB J;have J:=bg;clear bg;by_cases aN:s[p]=123
   .have dD:((s[p].toNat:Int)==123)=true:=by rw[aN];rfl
    have Q:=iF J.out;rw[if_pos aN,show p+2=q+1 by have:=fU.out;omega,show l+1=m+2 by have:=fV.out;omega]at Q;have gp:=iF (Rf D dep b s bH.out cz (λp l w aD bT bO=>eD.out (dep+1) p l w (by have:=dG.out;omega) aD bT bO) q m w3 aR dI V.out.rd);rw[<-Q.out]at gp;have bS:=iF V.out.hg;clear aN J hk;go_wp2_with fail;refine(gp.out).mono ?_;rintro e w4 ⟨a,o,n,c,ok,Y,az,rfl,Z,aa,ae,aJ,hok,U⟩;have aC:=iF (V.out.sub Z aa ae aJ);have N:=iF (iQ hok U);clear Z aa hok U gp V b0 ag r0 ah r1 ai r2 aj r3 ak au av ax;obtain⟨⟨ag,r0⟩,⟨ah,r1⟩,⟨ai,r2⟩,⟨aj,r3⟩,ak,au,av,ax⟩:=aC.out.r0;go_wp2_with fail;have aG:ok=true->∃sub,R=some (.node a sub,lS s Y,az)/\TL.wf a/\l9.lY w4 (λk=>g+2<=k) (lh o n c) sub:=λh=>by
     obtain⟨sub,aD,bT,bO⟩:=N.out.1 h;exact⟨sub,aD,bT,bO.keep (iI _) (λk _ aF=>je bS.out aF) λ_ _ _=>rfl⟩
    rw[mq];obtain⟨e0,e1,e2,e3,hpost⟩:=aC.out.fin (A:=lg lH a.kind) (B:=lg lH a.size) (C:=lh o n c) (D:=lg lH a.tail) a o n c ok aG N.out.2 rfl rfl rfl rfl;refine iV (v:=lD #[lC #[lg lH a.kind,lg lH a.size,lh o n c,lg lH a.tail],lu ok]) (by simp[jr,Tryz.results171,go_sem,e0,e1,e2,e3]) rfl ?_;rw[<-HP.out];exact hpost
   .have iC:((s[p].toNat:Int)==123)=false:=hk.out 123 aN
    have Q:=iF J.out;rw[if_neg aN]at Q;clear aN J hk;go_wp2_with fail;rw[mq];obtain⟨e0,e1,e2,e3,hpost⟩:=V.out.fin (A:=lg lH 0) (B:=lg lH 0) (C:=lh none 0 0) (D:=lg lH 0) ⟨0,0,0⟩ none 0 0 false (λh=>by cases h) (λ_=>Q.out) rfl rfl rfl rfl;exact IG
end
end Go.Proofs.YtamfcjmhnndbdaaGreatDoor


