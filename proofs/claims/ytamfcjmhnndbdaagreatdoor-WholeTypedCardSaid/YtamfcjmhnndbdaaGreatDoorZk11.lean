/- Part 11 of the proof. -/
import Derived.Test.YtamfcjmhnndbdaaGreatDoorZk00
import Derived.Test.YtamfcjmhnndbdaaGreatDoorZk09
import Derived.Test.YtamfcjmhnndbdaaGreatDoorZk06
import Derived.Test.YtamfcjmhnndbdaaGreatDoorZk07
import Derived.Test.YtamfcjmhnndbdaaGreatDoorZk10
open Go.Value renaming agg→lC,bool→lu,int→lg,pointer→lq,slice→lh,string→ll,tuple→lD,ownBlock→jw,slice→jD
open Go.Obj renaming cells→lG
open Go.IntKind renaming i64→lH
open Go.Ending renaming returned→lF,returned→jP
open Go.Lib renaming hid→iF
open Go.Proofs.Tryz renaming prog→iG,results173→jN
open Go renaming World→iH,Value→iJ,Calls→iU,bodyPost_ret→iV,maxLen→jb,TypeId→jg,undef→jo,results→jr,Program→kg,Addr→kr,Oper→kH
open Nat renaming le_refl→iI,le_trans→je,lt_of_lt_of_le→jq,zero_le→jy,lt_succ_self→jE
open Go.RowKit renaming Below→iK,Hid→iW
open Go.RowKit.Below renaming refl→iL,heap_setCell→iX
open List renaming getElem?_cons_succ→iM,getElem?_cons_zero→iO,getElem?_toArray→iP,getElem?_eq_getElem→iZ,take_succ_cons→ji,length_cons→jm,length_append→jv,take_zero→jC,length_drop→jS,getD_eq_getElem?_getD→ko,length_take→ky,length_eq_zero_iff→kR,map_cons→kY
open Bool renaming and_eq_true→iY,false_eq_true→j4
open ByteArray renaming size_extract→ja
open Go.World renaming setCell→jf,cell?→kZ
open Go.Code renaming region→jJ
open UInt8 renaming toNat_inj→jX
open Go.Act renaming put→jZ
open Option.some renaming injEq→kM
namespace Go.Proofs.YtamfcjmhnndbdaaGreatDoor
set_option linter.unusedVariables false
set_option linter.unusedSimpArgs false
set_option maxRecDepth 100000
set_option maxHeartbeats 8000000
variable {t:jg}{p:Prop}{x:Fr}
section
open Go.RowKit
def yX:Except Nat (Bool×Nat×Nat)->iJ
 | .error e=> lD #[lu false,lg lH 0,lg lH 0,lg lH (e:Nat)]
 | .ok q=> lD #[lu q.1,lg lH (q.2.1:Nat),lg lH (q.2.2:Nat),lg lH 0]
def zn(l:List UInt8)(deep A:Bool):Except Nat (Bool×Nat×Nat):=if l=[]then .error 2 else if deep then .error 6 else if A then .error 4 else hd l
theorem OW{l:List UInt8}{k m e:Nat}(h:zn l (decide (k=0)) (decide (m=0))=.error e):rU k l m=.error e:=by
 unfold zn at h;split at h;.rename_i h0;subst h0;cases h;exact HZ
 rename_i h0;split at h;.rename_i A;simp at A;subst A;cases h;exact Kw h0
 rename_i A;obtain⟨k,rfl⟩:∃E,k=E+1:=⟨k - 1,by simp at A;omega⟩;split at h;.rename_i C;simp at C;subst C;cases h;exact Ky h0
 rename_i C;obtain⟨m,rfl⟩:∃J,m=J+1:=⟨m - 1,by simp at C;omega⟩;exact Kz h0 h
theorem Ua{l:List UInt8}{k m:Nat}{q:Bool×Nat×Nat}(h:zn l (decide (k=0)) (decide (m=0))=.ok q):l≠[]/\0<k/\0<m/\hd l=.ok q:=by
 unfold zn at h;split at h;.cases h
 rename_i h0;split at h;.cases h
 rename_i A;split at h;.cases h
 rename_i C;exact⟨h0,by simp at A;omega,by simp at C;omega,h⟩
theorem Nf{s:ByteArray}(h0:0<s.size){by' t:Nat}{L:Bool}(hL:decide (192<=s[0].toNat)=L)(hb:by'=if L then 192 else 128)(ht:s[0].toNat=by'+t):
  (t<=55->hd s.data.toList=hd2 s.data.toList L 1 t)/\
  (∀k,t=55+k->0<k->(s.size<1+k->hd s.data.toList=.error 2)/\(1+k<=s.size->
   (s.extract 1 (1+k)).data.toList=(s.data.toList.drop 1).take k/\
   (((s.data.toList.drop 1).head? =some 0\/ql ((s.data.toList.drop 1).take k)<56)->hd s.data.toList=.error 3)/\
   (¬((s.data.toList.drop 1).head? =some 0\/ql ((s.data.toList.drop 1).take k)<56)->hd s.data.toList=hd2 s.data.toList L (1+k) (ql ((s.data.toList.drop 1).take k))))):=by
 have hl:=pQ s h0;have hlen:s.data.toList.length=s.size:=lU;have E:by'=if 192<=s[0].toNat then 192 else 128:=by rw[hb,<-hL];simp
 have A:¬s[0].toNat<128:=by
  rw[hb]at ht;split at ht<;>omega
 generalize J:s.data.toList.drop 1=r at*;have key:hd s.data.toList=if t<=55 then hd2 s.data.toList L 1 t else if s.data.toList.length<1+(t - 55)then .error 2 else if(r.head? =some 0\/ql (r.take (t - 55))<56)then .error 3 else hd2 s.data.toList L (1+(t - 55)) (ql (r.take (t - 55))):=by
  conv=>lhs;rw[hl]
  simp only[hd];rw[if_neg A,<-E,ht,hL.symm,ht,Nat.add_sub_cancel_left,<-hl]
 refine⟨λh=>by rw[key,if_pos h],?_⟩;rintro k rfl hk;rw[show 55+k - 55=k by omega,if_neg lK,hlen]at key;refine⟨λh=>by rw[key,if_pos h],λh=>⟨?_,λC=>by rw[key,if_neg lK,if_pos C],λC=>by rw[key,if_neg lK,if_neg C]⟩⟩;rw[<-J];simp only[ByteArray.data_extract,Array.toList_extract,List.extract];rw[show 1+k - 1=k by omega]
theorem Ng{l:List UInt8}{k:Nat}(hk:0<k)(J:k<=8)(hl:k<=l.length):
  ((l.head? =some 0\/ql (l.take k)<56)/\(oH (l.take k)=(0,3)\/∃v,v<=55/\oH (l.take k)=(v,0)))\/
   (¬(l.head? =some 0\/ql (l.take k)<56)/\oH (l.take k)=(ql (l.take k),0)/\56<=ql (l.take k)/\ql (l.take k)<18446744073709551616):=by
 cases l with
 |nil=>simp at hl;omega
 |cons b r=>
  obtain⟨j,rfl⟩:∃j,k=j+1:=⟨k - 1,lK⟩;rw[ji];have C:(r.take j).length=j:=by simp at hl⊢;omega
  have N:=CK (b::r.take j);rw[jm,C]at N;have hp:=zI (j+1) J;simp only[List.head?_cons,kM];by_cases hb:b=0
  .left
   refine⟨.inl hb,.inl ?_⟩;rw[oH,if_neg lK,if_pos (by rw[hb];rfl)]
  .have E:¬b.toNat=0:=λh=>hb (jX.1 h)
   have e:oH (b::r.take j)=(ql (b::r.take j),0):=by rw[oH,if_neg lK,if_neg E]
   by_cases A:ql (b::r.take j)<56;.exact .inl ⟨.inr A,.inr ⟨_,lK,e⟩⟩
   .exact .inr ⟨λh=>h.elim hb A,e,lK,lK⟩
theorem yw{l:List UInt8}{L:Bool}{z n:Nat}(h:l.length - z<n):hd2 l L z n=.error 2:=by unfold hd2;rw[if_pos h]
theorem OX(h:p:=by
 have hq:=iF (HT.out.1 c);go_wp2_with fail;go_meet;exact⟨1,t,by first|rfl|(simp;omega),rfl,by congr 1;have:=HE.out;omega,lK,lK,lK,hq,rfl⟩):p:=h
theorem Bu(h:p:=by
 go_wp2_with fail;go_returns;exact⟨by rw[hq.out,hE.out];rfl,rfl⟩):p:=h
theorem Yq(h:p:=by
 go_upto_region 16 with fail;simp only[show(1+(k:Int))=((1+k:Nat):Int)by omega];by_cases c2:s.size<1+k
 .have hR:=iF (HK.out.1 c2)
  have d3:decide (s.size<1+k)=true:=lW;go_wp2_with fail;go_returns;exact⟨by rw[hR.out];rfl,rfl⟩
 .have d3:decide (s.size<1+k)=false:=lW
  have hk1:1+k<=s.size:=lK;have CG:=iF (zX (s.extract 1 (1+k)) w (by simp[ja];unfold jb;omega));obtain⟨hx1,hx2,hx3⟩:=HK.out.2 hk1;rw[hx1]at CG;have RI:=iF hx2;have VW:=iF hx3;have hg:=HG.out k hk0 hk8 (by rw[jS,HL.out];omega);clear hx1 hx2 hx3 HK HG HT c2 c hk;generalize oH ((s.data.toList.drop 1).take k)=G at*;generalize (s.data.toList.drop 1).take k=tk at*;rcases hg with⟨hbad,hg⟩|⟨hgood,rfl,hv1,hv2⟩
  .have hR:=iF (RI.out hbad)
   clear RI VW hbad;rcases hg with rfl|⟨v,hv,rfl⟩
   .go_wp2_with fail
    refine CG.out.mono ?_;rintro e w1 ⟨rfl,rfl⟩;simp only[n2];go_wp2_with fail;go_returns;exact⟨by rw[hR.out];rfl,rfl⟩
   .have d4:decide (v<=55)=true:=lW
    go_wp2_with fail;refine CG.out.mono ?_;rintro e w1 ⟨rfl,rfl⟩;simp only[n2];go_wp2_with fail;go_returns;exact⟨by rw[hR.out];rfl,rfl⟩
  .have hR:=iF (VW.out hgood)
   clear RI VW hgood;generalize ql tk=v at*;have d4:decide (v<=55)=false:=lW;by_cases c5:s.size<v
   .have d5:decide (s.size<v)=true:=lW
    have hE:=iF (HS.out (1+k) v (by rw[HL.out];omega));go_wp2_with fail;refine CG.out.mono ?_;rintro e w1 ⟨rfl,rfl⟩;simp only[n2];go_wp2_with fail;go_returns;exact⟨by rw[hR.out,hE.out];rfl,rfl⟩
   .have d5:decide (s.size<v)=false:=lW
    have hvs:v<=100000:=lK;go_wp2_with fail;refine CG.out.mono ?_;rintro e w1 ⟨rfl,rfl⟩;simp only[n2];go_wp2_with fail;go_meet;exact⟨1+k,v,by first|rfl|(simp;omega),rfl,rfl,lK,hk1,hvs,hR,rfl⟩):p:=h
theorem H5(s:ByteArray)(w:iH)(hs:s.size<=100000)(h0:0<s.size)(hb:128<=s[0].toNat):
  iU iG 242 #[ll s,lu false,lu false] w λe w'=>e=lF (yX (hd s.data.toList))/\w'=w:=by
 have au:=pM s h0;have J:s[0].toNat<=255:=by have:=s[0].toNat_lt;omega
 have hlen:s.data.toList.length=s.size:=lU;obtain⟨L,hL⟩:=lV (decide (192<=s[0].toNat));obtain⟨R,hR⟩:=lV (hd s.data.toList);have U:=iF (λt by'=>Nf h0 (by':=by') (t:=t) hL);have HG:=iF (λk=>Ng (l:=s.data.toList.drop 1) (k:=k));have HS:=iF (λz n (h:s.data.toList.length - z<n)=>yw (l:=s.data.toList) (L:=L) (z:=z) (n:=n) h);have HL:=iF hlen;rw[hR]at U⊢;clear hR hlen;have ag:decide (s[0].toNat<128)=false:=lW;obtain⟨b,hb0⟩:=lV (s[0].toNat);rw[hb0]at ag;obtain⟨t,by',E,ht⟩:∃t by',(by'=if L then 192 else 128)/\b=by'+t:=by
  cases L with
  |true=>exact⟨b - 192,192,rfl,by simp at hL;omega⟩
  |false=>exact⟨b - 128,128,rfl,lK⟩
 have HT:=iF (U.out t by' E (hb0.trans ht));have HE:=iF ht;have O:=iF E;have ah:decide (192<=b)=L:=by rw[<-hL,hb0]
 clear U hL ht E;go_in;cases L with
 |true=>
  obtain rfl:by'=192:=O.out;have Y:192<=b:=by have:=HE.out;omega
  have Z:b<=255:=lK;clear J;go_upto_if 38 with(fail)
  go_cut [6,7,8] (λa b c V=>∃A N:Nat,a=lu true/\b=lg lH (A:Int)/\c=lg lH (N:Int)/\1<=A/\A<=s.size/\N<=100000/\iW (R=hd2 s.data.toList true A N)/\V=w);case first=>
   by_cases c:t<=55
   .have C:b<=247:=by have:=HE.out;omega
    exact OX
   .obtain⟨k,hk⟩:∃k,t=55+k:=⟨t - 55,lK⟩
    have hk0:0<k:=lK;have hk8:k<=8:=by have:=HE.out;omega
    have HK:=iF (HT.out.2 k hk hk0);have C:247<b:=by have:=HE.out;omega
    have ai:(1+((b:Int) - 192 - 55))=((1+k:Nat):Int):=by have:=HE.out;omega
    exact Yq
  case rest=>
   obtain⟨A,N,rfl,rfl,rfl,aa,aj,ak,hq,rfl⟩:=hcut;by_cases c1:s.size - A<N
   .have hE:=iF (HS.out A N (by rw[HL.out];omega))
    have C:decide ((s.size:Int) -(A:Int)<(N:Int))=true:=lW;clear c1;exact Bu
   .have C:decide ((s.size:Int) -(A:Int)<(N:Int))=false:=lW
    have ae:N<=s.size - A:=lK;clear c1;have hE:iW (hd2 s.data.toList true A N=.ok (true,A,N)):=iF (by unfold hd2;rw[if_neg (by rw[HL.out];omega),if_neg lU]);exact Bu
 |false=>
  obtain rfl:by'=128:=O.out;have Y:128<=b:=by have:=HE.out;omega
  have av:b<192:=by simpa using ah
  have Z:b<=255:=lK;clear J;go_upto_if 38 with(fail)
  go_cut [6,7,8] (λa b c V=>∃A N:Nat,a=lu false/\b=lg lH (A:Int)/\c=lg lH (N:Int)/\1<=A/\A<=s.size/\N<=100000/\iW (R=hd2 s.data.toList false A N)/\V=w);case first=>
   by_cases c:t<=55
   .have C:b<=183:=by have:=HE.out;omega
    exact OX
   .obtain⟨k,hk⟩:∃k,t=55+k:=⟨t - 55,lK⟩
    have hk0:0<k:=lK;have hk8:k<=8:=by have:=HE.out;omega
    have HK:=iF (HT.out.2 k hk hk0);have C:183<b:=by have:=HE.out;omega
    have ai:(1+((b:Int) - 128 - 55))=((1+k:Nat):Int):=by have:=HE.out;omega
    exact Yq
  case rest=>
   obtain⟨A,N,rfl,rfl,rfl,aa,aj,ak,hq,rfl⟩:=hcut;by_cases c1:s.size - A<N
   .have hE:=iF (HS.out A N (by rw[HL.out];omega))
    have C:decide ((s.size:Int) -(A:Int)<(N:Int))=true:=lW;clear c1;exact Bu
   .have C:decide ((s.size:Int) -(A:Int)<(N:Int))=false:=lW
    have ae:N<=s.size - A:=lK;clear c1;by_cases c2:N=1
    .subst c2
     have af:A<s.size:=lK;have Q:iW (s.data.toList.getD A 0=s[A]):=iF (by rw[ko,iZ (by rw[HL.out];exact af)];rfl);by_cases c3:s[A].toNat<128
     .have hE:iW (hd2 s.data.toList false A 1=.error 3):=iF (by unfold hd2;rw[if_neg (by rw[HL.out];omega),if_pos ⟨rfl,rfl,by rw[Q.out];exact c3⟩])
      have d3:decide (s[A].toNat<128)=true:=lW;exact Bu
     .have hE:iW (hd2 s.data.toList false A 1=.ok (false,A,1)):=iF (by unfold hd2;rw[if_neg (by rw[HL.out];omega),if_neg (by rw[Q.out];intro h;exact c3 h.2.2)])
      have d3:decide (s[A].toNat<128)=false:=lW;exact Bu
    .have hE:iW (hd2 s.data.toList false A N=.ok (false,A,N)):=iF (by unfold hd2;rw[if_neg (by rw[HL.out];omega),if_neg (λh=>c2 h.2.1)])
     have d3:((N:Int)==1)=false:=sQ;clear c2;exact Bu
theorem H6(h:p:=by
 go_in;go_wp2_with fail;go_returns;exact⟨by rw[hR.out];rfl,rfl⟩):p:=h
theorem KA(s:ByteArray)(deep A:Bool)(w:iH)(hs:s.size<=100000):
  iU iG 242 #[ll s,lu deep,lu A] w λe w'=>e=lF (yX (zn s.data.toList deep A))/\w'=w:=by
 by_cases h0:s.size=0
 .have e:s=⟨#[]⟩:=Hm (kR.1 (by simpa using h0))
  subst e;have hR:iW (zn (⟨#[]⟩:ByteArray).data.toList deep A=.error 2):=iF rfl;exact H6
 have hp:0<s.size:=lK;have C:s.data.toList≠[]:=λh=>h0 (by have:=congrArg List.length h;simpa using this)
 have J:=pM s hp;cases deep with
 |true=>
  have hR:iW (zn s.data.toList true A=.error 6):=iF (by simp[zn,C]);clear C;exact H6
 |false=>
  cases A with
  |true=>
   have hR:iW (zn s.data.toList false true=.error 4):=iF (by simp[zn,C]);clear C;exact H6
  |false=>
   have hR:iW (zn s.data.toList false false=hd s.data.toList):=iF (by simp[zn,C]);rw[hR.out];by_cases hb:s[0].toNat<128
   .have E:iW (hd s.data.toList=.ok (false,0,1)):=iF (by rw[pQ s hp];simp only[hd];rw[if_pos hb])
    have N:decide (s[0].toNat<128)=true:=by simpa using hb
    clear C hR;go_in;go_wp2_with fail;go_returns;exact⟨by rw[E.out];rfl,rfl⟩
   .exact H5 s w hs hp lK
def lvl(x:Fr):List (lL IL)×Nat:=(x.L.map nJ.tree,x.e)
def Ends:Nat->List Fr->Nat->Prop
 |p,[],S=>p<=S
 |p,x::A,S=>p<=x.e/\Ends x.e A S
theorem Ends.le:∀{st:List Fr}{p S:Nat},Ends p st S->p<=S
 |[],_,_,h=>h
 |x::A,_,_,h=>je h.1 (Ends.le h.2)
def oI:Array iJ:=#[ll ⟨#[]⟩,lu false,lh none 0 0]
abbrev VX:Type:=Except Nat (lL IL×Nat×Nat)
def a3c(s:List UInt8)(K M:Nat)(R:VX)(B bo bw:Nat)(vr:iJ)(w:iH)(p c:Nat):List Fr->Prop
 |[]=>∃(x:lL IL) (v:iJ) (A:Nat->Prop),R=.ok (x,p,M - c)/\lN w bw #[ll (txt x.lab),lu x.lab.list,v] IT/\lX w A v x.sub/\(∀c,A c->¬Lp B bo bw vr c)
 |x::C=>lN w bw oI IT/\R=cont s (x.L.map nJ.tree) x.e (C.map lvl) (K -(C.length+1)) p (M - c)
structure tN(s:List UInt8)(K M:Nat)(R:VX)(B bo bw:Nat)(w0 w:iH)(p c:Nat)(vr:iJ)(st:List Fr):Prop where
 yY:pJ w B bo bw vr st
 below:iK B w0 w
 hc:c<=M
 len:st.length<=K
 Ls:(st.map λx=>x.L.length).sum+st.length<=c
 ends:Ends p st s.length
 res:a3c s K M R B bo bw vr w p c st
theorem Ub:vL iG 275 RT 2:=⟨Tryz.underlying275,⟨.agg #[.slice none 0 0,.int .i64 0],32,by
 obtain⟨i,A,C,E,J⟩:=info_parts (show(Tryz.prog.info? RT).map (λi=>(i.zero,i.size,i.bytes))=some (some (lC #[lh none 0 0,lg lH 0]),2,32)by kernel_rfl);exact⟨i,A,C,E,J,lM,rfl⟩⟩,lM⟩
theorem KC{w w1 w2:iH}{B bo bw g cap:Nat}{vr:iJ}{st:List Fr}{f:Fr}(h:pJ w B bo bw vr st)(E:iK w.heap.size w w1)(U:f.v=lh none 0 0/\f.L=[])(hrow:nP Xl 2 w2 B RT (lh (some ⟨g,0,none⟩) (st.length+1) cap) (st.reverse++[f]))(hg:w1.grownBy w2 vr.ownBlock)(J:vr.ownBlock=some g\/g=w1.heap.size):
  pJ (w2.setCell ⟨bo,0,none⟩ (lh (some ⟨g,0,none⟩) (st.length+1) cap)) B bo bw (lh (some ⟨g,0,none⟩) (st.length+1) cap) (f::st)/\
   iK B w (w2.setCell ⟨bo,0,none⟩ (lh (some ⟨g,0,none⟩) (st.length+1) cap))/\
   ∀c,c<w.heap.size->c≠bo->vr.ownBlock≠some c->(w2.setCell ⟨bo,0,none⟩ (lh (some ⟨g,0,none⟩) (st.length+1) cap)).heap[c]? =w.heap[c]? :=by
 have Y:=E.size;have Z:=hg.size;have A:∀c,c<w.heap.size->c≠bo->vr.ownBlock≠some c->(w2.setCell ⟨bo,0,none⟩ (lh (some ⟨g,0,none⟩) (st.length+1) cap)).heap[c]? =w.heap[c]? :=λc hc hn aa=>
  (iX _ _ _ _ hn).trans ((hg.block c lK (λe=>aa e.symm)).trans (E.block c hc))
 have C:lN w1 bo #[vr] OT:=Below.blk E h.ho h.ho.lt;have O:lN w2 bo #[vr] OT:=by
  unfold lN;rw[hg.block bo C.lt (λe=>h.Xm e.symm)];exact C
 have N:g≠bo:=by
  rintro rfl;rcases J with e|e
  .exact h.Xm e
  .have:=C.lt;omega
 have Q:g≠bw:=by
  rintro rfl;rcases J with e|e
  .exact h.Yo e
  .have:=h.lt;omega
 have hsz:(w2.setCell ⟨bo,0,none⟩ (lh (some ⟨g,0,none⟩) (st.length+1) cap)).heap.size=w2.heap.size:=by simp[jf]
 refine⟨⟨O.set 0 _,?_,?_,?_,⟨λ_=>False,λc hc=>hc.elim,?_,?_⟩,h.Eo,h.hbw,h.ne,by rw[hsz];exact jq h.lt lK⟩,?_,A⟩
 .rw[List.reverse_cons]
  exact hrow.keep λb hb=>by
   simp[jw]at hb;exact iX _ _ _ _ (by show b≠bo;exact hb▸N)
 .intro e;simp[jw]at e;exact N e
 .intro e;simp[jw]at e;exact Q e
 .rw[U.1,U.2];exact qm.nil _ _
 .refine h.Yp.keep (by rw[hsz];omega) (λc hc hn=>A c hc (λe=>hn (.inr (.inl e))) λe=>hn (.inr (.inr (.inr e)))) λc hc hn=> ?_
  rcases hn with(hn|hn|hn|hn)|hn
  .exact .inl hn
  .exact .inr (.inl hn)
  .exact .inr (.inr (.inl hn))
  .simp[jw]at hn
   subst hn;rcases J with e|e
   .exact .inr (.inr (.inr e))
   .omega
  .exact hn.elim
 .refine⟨?_,?_,?_,by rw[hsz];omega,λc hc=> ?_⟩
  .exact hg.os.trans E.os
  .exact hg.tape.trans E.tape
  .exact hg.output.trans E.output
  .have V:c<w.heap.size:=by have:=h.Eo;have:=h.ho.lt;omega
   refine A c V (by have:=h.Eo;omega) λe=> ?_
   have:=(h.row.block c e).1;omega
theorem OY{w:iH}{B bo bw go A N:Nat}{E:List Fr}(h:pJ w B bo bw (lh (some ⟨go,0,none⟩) (N+1) A) (x::E))(U:E.length=N):
  ∃Q:Nat->Prop,pJ (w.setCell ⟨bo,0,none⟩ (lh (some ⟨go,0,none⟩) N A)) B bo bw (lh (some ⟨go,0,none⟩) N A) E/\qm (w.setCell ⟨bo,0,none⟩ (lh (some ⟨go,0,none⟩) N A)) Q x.v x.L/\
   (∀c,Q c->¬Lp B bo bw (lh (some ⟨go,0,none⟩) N A) c)/\Bt (w.setCell ⟨bo,0,none⟩ (lh (some ⟨go,0,none⟩) N A)) (λc=>Lp B bo bw (lh (some ⟨go,0,none⟩) N A) c\/Q c) E/\
   iK B w (w.setCell ⟨bo,0,none⟩ (lh (some ⟨go,0,none⟩) N A))/\(∀c,c≠bo->(w.setCell ⟨bo,0,none⟩ (lh (some ⟨go,0,none⟩) N A)).heap[c]? =w.heap[c]?):=by
 obtain⟨Q,O,Y,Z⟩:=h.Yp;have hsz:(w.setCell ⟨bo,0,none⟩ (lh (some ⟨go,0,none⟩) N A)).heap.size=w.heap.size:=by simp[jf]
 have C:∀c,c≠bo->(w.setCell ⟨bo,0,none⟩ (lh (some ⟨go,0,none⟩) N A)).heap[c]? =w.heap[c]? :=λc hn=>iX _ _ _ _ hn
 have ae:∀c,Lp B bo bw (lh (some ⟨go,0,none⟩) N A) c<->Lp B bo bw (lh (some ⟨go,0,none⟩) (N+1) A) c:=λc=>Iff.rfl
 have V:∀c,Q c->c≠bo:=λc hc e=>O c hc (.inr (.inl e))
 have J:Bt (w.setCell ⟨bo,0,none⟩ (lh (some ⟨go,0,none⟩) N A)) (λc=>Lp B bo bw (lh (some ⟨go,0,none⟩) N A) c\/Q c) E:=
  Z.keep (by rw[hsz];exact iI _) (λc _ hn=>C c λe=>hn (.inl (.inr (.inl e)))) λc _ hn=>hn
 have aa:go≠bo:=λe=>h.Xm (by subst e;rfl)
 refine⟨Q,⟨h.ho.set 0 _,?_,h.Xm,h.Yo,J.keep (iI _) (λ_ _ _=>rfl) λc _ hn=> .inl hn,h.Eo,h.hbw,h.ne,by rw[hsz];exact h.lt⟩,?_,λc hc=>O c hc,J,?_,C⟩
 .have:=(nP.cut h.row yu (m:=N) (by simp[U])).keep (w':=w.setCell ⟨bo,0,none⟩ (lh (some ⟨go,0,none⟩) N A)) λb hb=>by
   simp[jw]at hb;exact C b (by rw[<-hb];exact aa)
  have e:(x::E).reverse.take N=E.reverse:=by
   rw[List.reverse_cons,List.take_append_of_le_length (by simp[U]),List.take_of_length_le (by simp[U])]
  rwa [e]at this
 .exact Y.keep (by rw[hsz];exact iI _) (λc _ hc=>C c (V c hc)) λc _ hc=>hc
 .exact⟨rfl,rfl,rfl,by rw[hsz];exact iI _,λc hc=>C c (by have:=h.Eo;omega)⟩
theorem KD{w:iH}{Q:Nat->Prop}{o:Option kr}{n c:Nat}{s:List (lL IL)}(h:lX w Q (lh o n c) s):lX w Q (lh o n n) s:=by
 obtain⟨oa,cap,e,A,C,E⟩:=h;cases e;exact⟨_,_,rfl,iI _,je A C,E⟩
section
variable {s:List UInt8}{K M:Nat}{R:VX}{B bo bw:Nat}{w0 w w':iH}{p c:Nat}{vr:iJ}
theorem tN.err{A:List Fr}(h:tN s K M R B bo bw w0 w p c vr (x::A))(hp:p<x.e){er:Nat}(C:zn (wY s p x.e) (decide (K<=(x::A).length)) (decide (M<=c))=.error er):R=.error (if er=2 then 3 else er):=by
 rw[h.res.2];refine T9 hp (Ends.le h.ends.2) (OW ?_);rw[<-C];congr 1;.rw[decide_eq_decide];have:=h.len;simp at this⊢;omega
 .rw[decide_eq_decide];have:=h.hc;omega
theorem tN.head{A:List Fr}(h:tN s K M R B bo bw w0 w p c vr (x::A))(hp:p<x.e){q:Bool×Nat×Nat}(C:zn (wY s p x.e) (decide (K<=(x::A).length)) (decide (M<=c))=.ok q):
  (x::A).length<K/\c<M/\hd (wY s p x.e)=.ok q/\q.2.1+q.2.2<=x.e - p/\0<q.2.1+q.2.2/\x.e<=s.length:=by
 have he:=Ends.le h.ends.2;have e1:decide (K<=(x::A).length)=decide (K -(x::A).length=0):=by rw[decide_eq_decide];omega
 have e2:decide (M<=c)=decide (M - c=0):=by rw[decide_eq_decide];omega
 rw[e1,e2]at C;obtain⟨O,Q,U,E⟩:=Ua C;obtain⟨J,N,_⟩:=DR E;rw[seg_length s lK he]at J;exact⟨lK,lK,E,J,N,he⟩
theorem tN.text{A:List Fr}(h:tN s K M R B bo bw w0 w p c vr (x::A))(hp:p<x.e){z n:Nat}(C:zn (wY s p x.e) (decide (K<=(x::A).length)) (decide (M<=c))=.ok (false,z,n)){v':iJ}{y:nJ IL}(J:y.tree=.node ⟨wY s (p+z) (p+z+n),false⟩ [])(hs:pJ w' B bo bw vr (⟨v',x.L++[y],x.e⟩::A))(hb:lN w' bw oI IT)(N:iK B w w'):
  tN s K M R B bo bw w0 w' (p+z+n) (c+1) vr (⟨v',x.L++[y],x.e⟩::A):=by
 obtain⟨O,Z,Q,E,U,V⟩:=h.head hp C;simp only at E U;refine⟨hs,h.below.trans N,lK,h.len,by have:=h.Ls;simp at this⊢;omega,⟨by show p+z+n<=x.e;omega,h.ends.2⟩,hb,?_⟩
 .rw[h.res.2]
  simp only[jm]at O;obtain⟨k,hk⟩:∃k,K -(A.length+1)=k+1:=⟨K -(A.length+1) - 1,lK⟩;obtain⟨m,Y⟩:∃m,M - c=m+1:=⟨M - c - 1,lK⟩;rw[hk,Y,QU hp V Q E,show M -(c+1)=m by omega];simp[J]
theorem tN.list{A:List Fr}(h:tN s K M R B bo bw w0 w p c vr (x::A))(hp:p<x.e){z n:Nat}(E:zn (wY s p x.e) (decide (K<=(x::A).length)) (decide (M<=c))=.ok (true,z,n)){v' C:iJ}(hs:pJ w' B bo bw C (⟨v',[],p+z+n⟩::x::A))(hb:lN w' bw oI IT)(O:iK B w w'):
  tN s K M R B bo bw w0 w' (p+z) (c+1) C (⟨v',[],p+z+n⟩::x::A):=by
 obtain⟨J,Z,Q,N,U,V⟩:=h.head hp E;simp only at N U;refine⟨hs,h.below.trans O,lK,by simp only[jm]at J⊢;omega,by have:=h.Ls;simp at this⊢;omega,⟨by show p+z<=p+z+n;omega,by show p+z+n<=x.e;omega,h.ends.2⟩,hb,?_⟩
 .rw[h.res.2]
  simp only[jm]at J;obtain⟨k,hk⟩:∃k,K -(A.length+1)=k+1:=⟨K -(A.length+1) - 1,lK⟩;obtain⟨m,Y⟩:∃m,M - c=m+1:=⟨M - c - 1,lK⟩;rw[hk,Y,QV hp V Q N,show M -(c+1)=m by omega,show K -((x::A).length+1)=k by simp;omega];rfl
theorem tN.close{A:Fr}{C:List Fr}(h:tN s K M R B bo bw w0 w p c vr (x::A::C))(hp:x.e=p){v' E:iJ}{y:nJ IL}(J:y.tree=.node ⟨[],true⟩ (x.L.map nJ.tree))(hs:pJ w' B bo bw E (⟨v',A.L++[y],A.e⟩::C))(hb:lN w' bw oI IT)(N:iK B w w'):tN s K M R B bo bw w0 w' p c E (⟨v',A.L++[y],A.e⟩::C):=by
 subst hp;refine⟨hs,h.below.trans N,h.hc,by have:=h.len;simp at this⊢;omega,by have:=h.Ls;simp at this⊢;omega,⟨h.ends.2.1,h.ends.2.2⟩,hb,?_⟩
 .rw[h.res.2,Ep]
  show fin s ((A.L.map nJ.tree,A.e)::C.map lvl) _ _ _ _=_;rw[TY];have:=h.len;simp only[jm]at this⊢;rw[show K -(C.length+1+1)+1=K -(C.length+1)by omega];simp[J]
theorem tN.whole(h:tN s K M R B bo bw w0 w p c vr [x])(hp:x.e=p){A v:iJ}{C:Nat->Prop}(hs:pJ w' B bo bw A [])(hb:lN w' bw #[ll ⟨#[]⟩,lu true,v] IT)(E:lX w' C v (x.L.map nJ.tree))(J:∀c,C c->¬Lp B bo bw A c)(N:iK B w w'):tN s K M R B bo bw w0 w' p c A []:=by
 subst hp;refine⟨hs,h.below.trans N,h.hc,lU,lU,Ends.le h.ends.2,?_⟩;refine⟨lL.node ⟨[],true⟩ (x.L.map nJ.tree),v,C,?_,hb,E,J⟩;rw[h.res.2,Ep];rfl
end
theorem QW{s:List UInt8}{K M er:Nat}(h:zn s (decide (K<=0)) (decide (M<=0))=.error er):rU K s M=.error er:=by
 refine OW ?_;rw[<-h];congr 1<;>(rw[decide_eq_decide];omega)
theorem zx{s:List UInt8}{K M:Nat}{q:Bool×Nat×Nat}(h:zn s (decide (K<=0)) (decide (M<=0))=.ok q):s≠[]/\0<K/\0<M/\hd s=.ok q/\q.2.1+q.2.2<=s.length/\0<q.2.1+q.2.2:=by
 have e1:decide (K<=0)=decide (K=0):=by rw[decide_eq_decide];omega
 have e2:decide (M<=0)=decide (M=0):=by rw[decide_eq_decide];omega
 rw[e1,e2]at h;obtain⟨C,E,J,A⟩:=Ua h;obtain⟨N,O,_⟩:=DR A;exact⟨C,E,J,A,N,O⟩
theorem tN.Nh{s:List UInt8}{K M B bo bw:Nat}{w0 w w':iH}{vr v:iJ}{z n:Nat}{A:Nat->Prop}(h:zn s (decide (K<=0)) (decide (M<=0))=.ok (false,z,n))(hw0:iK B w0 w)(hs:pJ w' B bo bw vr [])(hb:lN w' bw #[ll (txt ⟨(s.drop z).take n,false⟩),lu false,v] IT)(C:lX w' A v [])(E:∀c,A c->¬Lp B bo bw vr c)(J:iK B w w'):
  tN s K M (rU K s M) B bo bw w0 w' (z+n) 1 vr []:=by
 obtain⟨N,V,O,Q,U,Y⟩:=zx h;refine⟨hs,hw0.trans J,O,lU,lU,U,?_⟩;obtain⟨k,rfl⟩:∃k,K=k+1:=⟨K - 1,lK⟩;obtain⟨m,rfl⟩:∃m,M=m+1:=⟨M - 1,lK⟩;exact⟨lL.node ⟨(s.drop z).take n,false⟩ [],v,A,Es N Q,hb,C,E⟩
theorem tN.zw{s:List UInt8}{K M B bo bw:Nat}{w0 w w':iH}{vr v':iJ}{z n:Nat}(h:zn s (decide (K<=0)) (decide (M<=0))=.ok (true,z,n))(hw0:iK B w0 w)(hs:pJ w' B bo bw vr [⟨v',[],z+n⟩])(hb:lN w' bw oI IT)(C:iK B w w'):tN s K M (rU K s M) B bo bw w0 w' z 1 vr [⟨v',[],z+n⟩]:=by
 obtain⟨E,O,J,N,A,Q⟩:=zx h;refine⟨hs,hw0.trans C,J,lW,lU,⟨by show z<=z+n;omega,A⟩,hb,?_⟩;obtain⟨k,rfl⟩:∃k,K=k+1:=⟨K - 1,lK⟩;obtain⟨m,rfl⟩:∃m,M=m+1:=⟨M - 1,lK⟩;exact Go.Proofs.YtamfcjmhnndbdaaGreatDoor.zw N E A
def KE(R:VX)(w:iH)(e:Ending)(w':iH):Prop:=match R with
 | .error er=>e=lF (lD #[lC oI,lg lH 0,lg lH (er:Nat)])/\iK w.heap.size w w'
 | .ok y=>∃v,e=lF (lD #[lC #[ll (txt y.1.lab),lu y.1.lab.list,v],lg lH (y.2.1:Nat),lg lH 0])/\lX w' (λc=>w.heap.size<=c) v y.1.sub/\iK w.heap.size w w'
def Opn(p:Nat):List Fr->Prop
 |[]=>True
 |x::_=>p<x.e
def Uc:iJ->Nat
 | lu true=>1
 |_=>0
def Bv(w:iH)(b:Nat):Nat:=match w.cell? ⟨b,0,none⟩with
 |some (lh _ n _)=>n
 |_=>0
theorem OZ{l:List UInt8}{er:Nat}(h:hd l=.error er):er=2\/er=3:=by
 have A:∀(L:Bool)(z n:Nat),hd2 l L z n=.error er->er=2\/er=3:=by
  intro L z n h;unfold hd2 at h;split at h;.cases h;exact .inl rfl
  split at h;.cases h;exact .inr rfl
  .cases h
 cases l with
 |nil=>simp only[hd]at h;cases h;exact .inl rfl
 |cons b r=>
  simp only[hd]at h;generalize (if 192<=b.toNat then(192:Nat)else 128)=by' at h;split at h;.cases h
  split at h;.exact A _ _ _ h
  split at h;.cases h;exact .inl rfl
  split at h;.cases h;exact .inr rfl
  .exact A _ _ _ h
theorem KF{l:List UInt8}{a b:Bool}{er:Nat}(h:zn l a b=.error er):2<=er/\er<=6:=by
 unfold zn at h;split at h;.cases h;decide
 split at h;.cases h;decide
 split at h;.cases h;decide
 .have:=OZ h;omega
theorem KG{l:List UInt8}{z n:Nat}(h:hd l=.ok (true,z,n)):0<z:=by
 obtain⟨_,_,_,C⟩:=DR h;rcases C with⟨A,_⟩|⟨_,_,A⟩
 .cases A
 .exact A
theorem Ia{s:ByteArray}{l:List UInt8}(h:s.data.toList=l)(p e:Nat):(s.extract p e).data.toList=wY l p e:=by
 subst h;simp only[ByteArray.data_extract,Array.toList_extract,List.extract,wY]
theorem pJ.fut{w w':iH}{B bo bw:Nat}{vr:iJ}{st:List Fr}(h:pJ w B bo bw vr st)(hb:iK w.heap.size w w'):pJ w' B bo bw vr st:=
 ⟨Below.blk hb h.ho h.ho.lt,h.row.below hb,h.Xm,h.Yo,h.Yp.below hb,h.Eo,h.hbw,h.ne,jq h.lt hb.size⟩
theorem tN.fut{s:List UInt8}{K M:Nat}{R:VX}{B bo bw:Nat}{w0 w w':iH}{p c:Nat}{vr:iJ}{st:List Fr}(h:tN s K M R B bo bw w0 w p c vr st)(hb:iK w.heap.size w w'):tN s K M R B bo bw w0 w' p c vr st:=by
 have hlt:=h.yY.lt;refine⟨h.yY.fut hb,h.below.trans (hb.mono (by have:=h.yY.hbw;omega)),h.hc,h.len,h.Ls,h.ends,?_⟩;cases st with
 |nil=>
  obtain⟨x,v,A,C,E,J,N⟩:=h.res;exact⟨x,v,A,C,Below.blk hb E hlt,Shape.lY.below J hb,N⟩
 |cons x O=>exact⟨Below.blk hb h.res.1 hlt,h.res.2⟩
theorem qN{A:Type}{f:A->List iJ}{k:Nat}{P:kg}{st:jg}(T:vL P st t k)(hk:∀y,(f y).length=k){ops:Array kH}{rest:List kH}{o:kH}{a:Act}{Q:Exit->Act->iH->Prop}(E:o.guard=none)(s x:Operand)(ho:o.op=.call {callee:=.builtin .append,args:=#[s,x],argTypes:=#[st,st]}){w:iH}{B b c:Nat}{v:iJ}{L:List A}{y:A}{cs:Array iJ}{N:jg}(hs:a.eval s=v)(C:nP f k w B t v L)(O:a.eval x=lh (some ⟨b,0,none⟩) 1 c)(hb:lN w b cs N)(J:cs.toList=f y)(U:∀u∈f y,u.oneCell'=true)(hlen:L.length<=1000000)(hB:B<=w.heap.size)(h:∀g cap w',nP f k w' B t (lh (some ⟨g,0,none⟩) (L.length+1) cap) (L++[y])->w.grownBy w' v.ownBlock->(v.ownBlock=some g\/g=w.heap.size)->g<w'.heap.size->wpList P ops Q rest (a.put o.dst (lh (some ⟨g,0,none⟩) (L.length+1) cap)) w'):
  wpList P ops Q (o::rest) a w:=by
 refine wpList_plain E λK V=> ?_
 obtain⟨g,cap,w',Y,Z,aa,ae,af,_⟩:=Ai (ty:=o.type) T hk C hb J U hlen hB;unfold Oper.wp execOp;simp only[ho,resolve,invoke,builtin,Sem.run_bind,Sem.run_pure,Result.andThen_ok,List.map_toArray,kY,List.map_nil,hs,O];rw[Y];exact V _ _ (h g cap w' Z aa ae af)
theorem KH{w w1 w2:iH}{B bo bw:Nat}{vr:iJ}{st:List Fr}(h:pJ w B bo bw vr st)(E:iK w.heap.size w w1)(hg:w1.grownBy w2 vr.ownBlock):w2.cell? ⟨bo,0,none⟩=some vr/\w2.frozen? ⟨bo,0,none⟩=false:=by
 have A:=Below.blk E h.ho h.ho.lt;have C:lN w2 bo #[vr] OT:=by
  unfold lN;rw[hg.block bo A.lt λe=>h.Xm e.symm];exact A
 exact⟨C.cell 0,C.free 0⟩
theorem O0{g:Nat}{wa w:iH}(h:lN wa g oI IT)(hb:iK (g+1) wa w):(w.cell? ⟨g,0,none⟩=some (ll ⟨#[]⟩)/\w.cell? ⟨g,1,none⟩=some (lu false)/\w.cell? ⟨g,2,none⟩=some (lh none 0 0))/\
  (w.frozen? ⟨g,0,none⟩=false/\w.frozen? ⟨g,1,none⟩=false/\w.frozen? ⟨g,2,none⟩=false)/\lN w g oI IT:=by
 have:=Below.blk hb h (jE g);exact⟨⟨this.cell 0,this.cell 1,this.cell 2⟩,⟨this.free 0,this.free 1,this.free 2⟩,this⟩
theorem Cg{g:Nat}{w0 wa w:iH}{a b c:iJ}(h0:iK g w0 wa)(E:g<wa.heap.size)(hb:iK (g+1) wa w)(A:lN w g oI IT):lN (tZ w g 0 a b c) g #[a,b,c] IT/\iK g w0 (tZ w g 0 a b c):=by
 refine⟨?_,?_⟩
 .have:=((A.set 0 a).set 1 b).set 2 c
  exact this
 .have C:iK g w0 w:=h0.trans (hb.mono lK)
  exact ng.below (Ku w g 0 a b c) C (iI _) (by have:=hb.size;omega)
structure a1k(l:List UInt8)(g:Nat)(w wa W:iH):Prop where
 yY:pJ W (g+1) (g+1) (g+2) (lh none 0 0) []
 whole:lN W (g+2) oI IT
 res:lN wa g oI IT
 ba:iK g w wa
 bw:iK (g+1) wa W
 o0:W.cell? ⟨g+1,0,none⟩=some (lh none 0 0)
theorem a1l{l:List UInt8}{g:Nat}{w wa A W:iH}(hg:w.heap.size=g)(E:w.alloc (lG #[ll ⟨#[]⟩,lu false,lh none 0 0] IT)=wa)(hb:wa.alloc (lG #[lh none 0 0] OT)=A)(hc:A.alloc (lG #[ll ⟨#[]⟩,lu false,lh none 0 0] IT)=W):a1k l g w wa W:=by
 have J:wa.heap.size=g+1:=by rw[<-E];simp;omega
 have N:A.heap.size=g+2:=by rw[<-hb];simp;omega
 have Y:W.heap.size=g+3:=by rw[<-hc];simp;omega
 have b1:iK g w wa:=by rw[<-E,<-hg];exact(iL _ w).alloc (iI _) _
 have O:iK (g+1) wa A:=by rw[<-hb,<-J];exact(iL _ wa).alloc (iI _) _
 have b3:iK (g+2) A W:=by rw[<-hc,<-N];exact(iL _ A).alloc (iI _) _
 have Q:lN wa g oI IT:=by have:=lN.new w #[ll ⟨#[]⟩,lu false,lh none 0 0] IT;rw[E,hg]at this;exact this
 have U:lN A (g+1) #[lh none 0 0] OT:=by have:=lN.new wa #[lh none 0 0] OT;rw[hb,J]at this;exact this
 have V:lN W (g+2) oI IT:=by have:=lN.new A #[ll ⟨#[]⟩,lu false,lh none 0 0] IT;rw[hc,N]at this;exact this
 have C:lN W (g+1) #[lh none 0 0] OT:=Below.blk b3 U lK;exact⟨⟨C,nP.nil _ _ _,by simp[jw],by simp[jw],trivial,lK,lK,lK,lK⟩,V,Q,b1,O.trans (b3.mono lK),C.cell 0⟩
theorem Ib{w:iH}{B bo bw:Nat}{vr:iJ}{st:List Fr}(h:pJ w B bo bw vr st):Bv w bo=st.length:=by
 obtain⟨oa,cap,A⟩:=h.row.slice;have:=h.ho.cell 0;rw[A]at this;unfold Bv;rw[this];simp
section
variable {l:List UInt8}{K M:Nat}{R:VX}{g:Nat}{wa w:iH}{p c:Nat}{vr:iJ}
theorem vN{J:List Fr}{N:Nat}(h:tN l K M R (g+1) (g+1) (g+2) wa w p c vr (x::J))(O:J.length=N):∃go C,vr=lh (some ⟨go,0,none⟩) (N+1) C/\
  w.cell? ⟨go,N*2,none⟩=some x.v/\w.cell? ⟨go,N*2+1,none⟩=some (lg lH (x.e:Nat))/\w.cell? ⟨g+1,0,none⟩=some (lh (some ⟨go,0,none⟩) (N+1) C)/\w.frozen? ⟨g+1,0,none⟩=false/\N+1<=C/\N+1<=K:=by
 obtain⟨oa,C,E⟩:=h.yY.row.slice;have U:(x::J).reverse.length=N+1:=by simp[O]
 rw[U]at E;subst E;obtain⟨go,rfl,_,_,_,Q,A,_⟩:=nP.at_ h.yY.row yu (i:=N) (y:=x) (by simp[<-O]);have:=h.len;rw[jm,O]at this;exact⟨go,C,rfl,A 0 lM,A 1 lM,h.yY.ho.cell 0,h.yY.ho.free 0,Q,this⟩
theorem Xp{J:List Fr}{A:Nat}(h:tN l K M R (g+1) (g+1) (g+2) wa w p c vr (x::J))(N:x.L.length=A):∃ov cv,x.v=lh ov A cv/\A<=cv/\A<=c:=by
 obtain⟨Q,_,O,_⟩:=h.yY.Yp;obtain⟨ov,cv,C,E,_⟩:=lX.slice O.subs;rw[List.length_map,N]at C E;have:=h.Ls;simp at this;exact⟨ov,cv,C,E,lK⟩
theorem O1{A:List Fr}(h:tN l K M R (g+1) (g+1) (g+2) wa w p c vr (x::A))(he:¬x.e=p):Opn p (x::A):=by
 have:=h.ends.1;show p<x.e;omega
theorem Fv{go C A cv:Nat}{ov:Option kr}(h:tN l K M R (g+1) (g+1) (g+2) wa w p c (lh (some ⟨go,0,none⟩) (0+1) C) [x])(he:x.e=p)(V:x.v=lh ov A cv)(ag:x.L.length=A):
  iU iG 241 #[lC #[ll ⟨#[]⟩,lu true,lh ov A A],lq (some ⟨g+1,0,none⟩),lq (some ⟨g+2,0,none⟩)] (w.setCell ⟨g+1,0,none⟩ (lh (some ⟨go,0,none⟩) 0 C))
   λe w'=>e=lF (lD #[])/\tN l K M R (g+1) (g+1) (g+2) wa w' p c (lh (some ⟨go,0,none⟩) 0 C) []:=by
 obtain⟨Q,Y,J,N,_,hb,E⟩:=OY h.yY rfl;rw[V]at J;have hs:=J.subs;have O:g+2≠g+1:=lK;have hbw:lN (w.setCell ⟨g+1,0,none⟩ (lh (some ⟨go,0,none⟩) 0 C)) (g+2) oI IT:=by
  unfold lN;rw[E _ O];exact h.res.1
 have:=xP (w.setCell ⟨g+1,0,none⟩ (lh (some ⟨go,0,none⟩) 0 C)) (g+1) (g+1) (g+2) _ ⟨⟨[],true⟩,lh ov A A,x.L.map nJ.tree⟩ Q _ _ _ Y hbw (KD hs) N;refine this.mono λe w' ⟨U,Z,aa,ae,af⟩=>⟨U,tN.whole h he Z aa ae N (hb.trans af)⟩
theorem KI{C:Fr}{J:List Fr}{go E A cv N:Nat}{ov:Option kr}(h:tN l K M R (g+1) (g+1) (g+2) wa w p c (lh (some ⟨go,0,none⟩) (N+1+1) E) (x::C::J))(he:x.e=p)(ae:x.v=lh ov A cv)(av:x.L.length=A)(U:(C::J).length=N+1)(ax:K<=16)(au:M<=1024):
  iU iG 241 #[lC #[ll ⟨#[]⟩,lu true,lh ov A A],lq (some ⟨g+1,0,none⟩),lq (some ⟨g+2,0,none⟩)] (w.setCell ⟨g+1,0,none⟩ (lh (some ⟨go,0,none⟩) (N+1) E))
   λe w'=>e=lF (lD #[])/\∃v',tN l K M R (g+1) (g+1) (g+2) wa w' p c (lh (some ⟨go,0,none⟩) (N+1) E) (⟨v',C.L++[⟨⟨[],true⟩,lh ov A A,x.L.map nJ.tree⟩],C.e⟩::J):=by
 obtain⟨Q,af,V,ag,ah,hb,O⟩:=OY h.yY U;rw[ae]at V;have hs:=V.subs;have Y:g+2≠g+1:=lK;have hbw:lN (w.setCell ⟨g+1,0,none⟩ (lh (some ⟨go,0,none⟩) (N+1) E)) (g+2) oI IT:=by
  unfold lN;rw[O _ Y];exact h.res.1
 have hlen:=h.len;have Z:=h.Ls;have hc:=h.hc;simp at hlen Z U;have:=Ak C J (w.setCell ⟨g+1,0,none⟩ (lh (some ⟨go,0,none⟩) (N+1) E)) (g+1) (g+1) (g+2) _ ⟨⟨[],true⟩,lh ov A A,x.L.map nJ.tree⟩ Q _ af lK lK hbw (KD hs) ag ah (jy _);refine this.mono λe w' ⟨aa,v',ai,aj,ak⟩=>⟨aa,v',tN.close h he rfl ai aj (hb.trans ak)⟩
theorem C9{s:ByteArray}(hl:s.data.toList=l)(p n:Nat):txt ⟨(l.drop p).take n,false⟩=s.extract p (p+n):=Hm (by
 rw[Ia hl];show(l.drop p).take n=(l.drop p).take (p+n - p);rw[show p+n - p=n by omega])
theorem Ic{s:ByteArray}{z n:Nat}(hl:s.data.toList=l)(E:rU K l M=R)(J:zn l (decide (K<=0)) (decide (M<=0))=.ok (false,z,n))(hs:pJ w (g+1) (g+1) (g+2) vr [])(hb:lN w (g+2) oI IT)(N:iK (g+1) wa w):
  iU iG 241 #[lC #[ll (s.extract z (z+n)),lu false,lh none 0 0],lq (some ⟨g+1,0,none⟩),lq (some ⟨g+2,0,none⟩)] w
   λe w'=>e=lF (lD #[])/\tN l K M R (g+1) (g+1) (g+2) wa w' (z+n) 1 vr []:=by
 have:=xP w (g+1) (g+1) (g+2) vr ⟨⟨(l.drop z).take n,false⟩,lh none 0 0,[]⟩ (λ_=>False) _ _ _ hs hb ⟨none,0,rfl,iI _,jy _,λh=>absurd h lU⟩ (λ_ h=>h.elim);rw[C9 hl]at this;refine this.mono λe w' ⟨A,O,C,Q,U⟩=>⟨A,?_⟩
 rw[<-E];rw[<-C9 hl]at C;exact tN.Nh J N O C Q (λ_ h=>h.elim) U
theorem ZA{s:ByteArray}{A:List Fr}{z n:Nat}(hl:s.data.toList=l)(hs:s.size<=100000)(h:tN l K M R (g+1) (g+1) (g+2) wa w p c vr (x::A))(hp:p<x.e)(Y:K<=16)(Z:M<=1024)(N:zn (wY l p x.e) (decide (K<=(x::A).length)) (decide (M<=c))=.ok (false,z,n)):
  iU iG 241 #[lC #[ll (s.extract (p+z) (p+z+n)),lu false,lh none 0 0],lq (some ⟨g+1,0,none⟩),lq (some ⟨g+2,0,none⟩)] w
   λe w'=>e=lF (lD #[])/\∃C,C.e=x.e/\tN l K M R (g+1) (g+1) (g+2) wa w' (p+z+n) (c+1) vr (C::A):=by
 have hlen:=h.len;have E:=h.Ls;have hc:=h.hc;simp at hlen E;have ht:txt ⟨wY l (p+z) (p+z+n),false⟩=s.extract (p+z) (p+z+n):=Hm (Ia hl _ _).symm;have V:l.length=s.size:=by rw[<-hl];simp
 have:=Ak x A w (g+1) (g+1) (g+2) vr ⟨⟨wY l (p+z) (p+z+n),false⟩,lh none 0 0,[]⟩ (λ_=>False) _ h.yY lK lK h.res.1 ⟨none,0,rfl,iI _,jy _,λh=>absurd h lU⟩ (λ_ h=>h.elim)
  (h.yY.Yp.keep (iI _) (λ_ _ _=>rfl) λc _ hc=>hc.elim id False.elim) (by
   show(wY l (p+z) (p+z+n)).length<=jb;unfold wY jb;simp;omega)
 rw[ht]at this;exact this.mono λe w' ⟨J,v',O,Q,U⟩=>⟨J,⟨v',_,x.e⟩,rfl,tN.text h hp N rfl O Q U⟩
theorem ZB{f:Fr}{A:List Fr}{w1 w2:iH}{z n C cap N:Nat}(h:tN l K M R (g+1) (g+1) (g+2) wa w p c vr (x::A))(hp:p<x.e)(J:A.length=N)(O:zn (wY l p x.e) (decide (K<=(x::A).length)) (decide (M<=c))=.ok (true,z,n))(Q:iK w.heap.size w w1)(U:f=⟨lh none 0 0,[],p+z+n⟩)(hrow:nP Xl 2 w2 (g+1) RT (lh (some ⟨C,0,none⟩) ((x::A).reverse.length+1) cap) ((x::A).reverse++[f]))(hg:w1.grownBy w2 vr.ownBlock)(E:vr.ownBlock=some C\/C=w1.heap.size):
  tN l K M R (g+1) (g+1) (g+2) wa (w2.setCell ⟨g+1,0,none⟩ (lh (some ⟨C,0,none⟩) (N+1+1) cap)) (p+z) (c+1) (lh (some ⟨C,0,none⟩) (N+1+1) cap) (f::x::A):=by
 subst U J;rw[List.length_reverse]at hrow;obtain⟨V,Y,Z⟩:=KC h.yY Q ⟨rfl,rfl⟩ hrow hg E;exact tN.list h hp O V ((Z _ h.yY.lt lK h.yY.Yo).trans h.res.1) Y
end
theorem Ud(a:IL)(s:List (lL IL)):enc (.node a s)=if a.list then hdr 192 (JR s).length++JR s else if single a.text then a.text else hdr 128 a.text.length++a.text:=by simp only[enc]
theorem Xq(y:lL IL)(h:y.all mO=true){n:Nat}(hn:(enc y).length<=n):y.lab.text.length<=n:=by
 cases y with
 |node a s=>
  simp only[lL.all,mO,oW,iY]at h;rw[Ud]at hn;simp only[lL.nk];cases hL:a.list with
  |true=>
   rw[hL]at h;simp only[if_true,List.isEmpty_iff]at h;rw[h.1];simp
  |false=>
   rw[hL,if_neg lU]at hn;split at hn;.exact hn
   .rw[jv]at hn;omega
abbrev GT:jg:=178
def KJ:Array iJ:=#[ll ⟨#[]⟩,lu false,lh none 0 0,lg lH 0,lg lH 0,lg lH 0]
def Ao(w:iH)(g:Nat)(a b c d e f:iJ):iH:=(((((w.setCell ⟨g,0,none⟩ a).setCell ⟨g,1,none⟩ b).setCell ⟨g,2,none⟩ c).setCell ⟨g,3,none⟩ d).setCell ⟨g,4,none⟩ e).setCell ⟨g,5,none⟩ f
theorem pG(w:iH)(g:Nat)(a b c d e f:iJ):(((((w.setCell ⟨g,0,none⟩ a).setCell ⟨g,1,none⟩ b).setCell ⟨g,2,none⟩ c).setCell ⟨g,3,none⟩ d).setCell ⟨g,4,none⟩ e).setCell ⟨g,5,none⟩ f=Ao w g a b c d e f:=rfl
theorem KL(w:iH)(g:Nat)(a b c d e f:iJ):ng g w (Ao w g a b c d e f):=((((((ng.refl g w).set 0 a).set 1 b).set 2 c).set 3 d).set 4 e).set 5 f
theorem Gg{w:iH}{g:Nat}{a b c d e f:iJ}(k:Nat)(h:k≠g):(Ao w g a b c d e f).heap[k]? =w.heap[k]? :=by
 unfold Ao;rw[iX _ _ _ _ h,iX _ _ _ _ h,iX _ _ _ _ h,iX _ _ _ _ h,iX _ _ _ _ h,iX _ _ _ _ h]
theorem Gh{w:iH}{g:Nat}{a b c d e f:iJ}:(Ao w g a b c d e f).heap.size=w.heap.size:=by simp[Ao,jf]
theorem rD{w:iH}{g:Nat}{a b c d e f:iJ}(h:lN w g #[a,b,c,d,e,f] t):
  w.cell? ⟨g,0,none⟩=some a/\w.cell? ⟨g,1,none⟩=some b/\w.cell? ⟨g,2,none⟩=some c/\w.cell? ⟨g,3,none⟩=some d/\w.cell? ⟨g,4,none⟩=some e/\w.cell? ⟨g,5,none⟩=some f:=
 ⟨h.cell 0,h.cell 1,h.cell 2,h.cell 3,h.cell 4,h.cell 5⟩
theorem Ap{w:iH}{g:Nat}{cs:Array iJ}(h:lN w g cs t):
  w.frozen? ⟨g,0,none⟩=false/\w.frozen? ⟨g,1,none⟩=false/\w.frozen? ⟨g,2,none⟩=false/\w.frozen? ⟨g,3,none⟩=false/\w.frozen? ⟨g,4,none⟩=false/\w.frozen? ⟨g,5,none⟩=false:=
 ⟨h.free 0,h.free 1,h.free 2,h.free 3,h.free 4,h.free 5⟩
theorem a1m(s:ByteArray)(h:1<s.size):(s.data.toList.drop 1).head? =some s[1]:=by
 rw[List.head?_drop];rw[iZ (by simpa using h)];rfl
theorem Uf{l:List UInt8}{k:Nat}(h:k<=8):ql (l.take k)<18446744073709551616:=by
 have A:=CK (l.take k);have C:(l.take k).length<=8:=by rw[ky];omega
 exact jq A (zI _ C)
theorem ZC(s:ByteArray)(h:0<s.size):s.extract 0 1=⟨(s.data.toList.take 1).toArray⟩:=Hm (by
 simp only[ByteArray.data_extract,Array.toList_extract,List.extract];simp)
theorem Ie(h:p:=by
 go_wp2_with fail;rw[pG];obtain⟨hblk6,nW⟩:=Ar.out (ll ⟨#[]⟩) (lu false) (lh none 0 0) (lg lH 0) (lg lH 0) (lg lH 2);obtain⟨d0,d1,d2,d3,d4,d5⟩:=rD hblk6;have yL:=iF nW;clear hblk6 nW;refine iV (v:=lC #[ll ⟨#[]⟩,lu false,lh none 0 0,lg lH 0,lg lH 0,lg lH 2]) (by simp[jr,jN,go_sem,d0,d1,d2,d3,d4,d5]) rfl ?_;rw[<-HP.out,yx.out];exact rR (hg.symm▸yL.out)):p:=h
theorem Ug(h:p:=by
 go_in;go_wp2_with fail;rw[pG];obtain⟨hblk6,nW⟩:=Ar.out (ll ⟨#[]⟩) (lu false) (lh none 0 0) (lg lH 0) (lg lH 0) (lg lH 6);obtain⟨d0,d1,d2,d3,d4,d5⟩:=rD hblk6;have yL:=iF nW;clear hblk6 nW;refine iV (v:=lC #[ll ⟨#[]⟩,lu false,lh none 0 0,lg lH 0,lg lH 0,lg lH 6]) (by simp[jr,jN,go_sem,d0,d1,d2,d3,d4,d5]) rfl ?_;rw[<-HP.out,yx.out];exact rR (hg.symm▸yL.out)):p:=h
theorem qm.Yr{w w1:iH}{Q J:Nat->Prop}{v:iJ}{L:List (nJ IL)}{x:nJ IL}{g cap:Nat}(h:qm w Q v L)(hrow:nP I9 3 w1 0 IT (lh (some ⟨g,0,none⟩) (L.length+1) cap) (L++[x]))(hg:w.grownBy w1 v.ownBlock)(C:v.ownBlock=some g\/w.heap.size<=g)(U:lX w J x.u x.sub)(hxv:∀c,J c->v.ownBlock≠some c)(O:x.lab.text.length<=jb):
  qm w1 (λc=>Q c\/J c\/c=g) (lh (some ⟨g,0,none⟩) (L.length+1) cap) (L++[x]):=by
 have hgn:∀c,c<w.heap.size->v.ownBlock≠some c->c≠g:=λc hc N e=>by
  rcases C with C|C
  .exact N (by rw[C,e])
  .omega
 have E:∀c,c<w.heap.size->v.ownBlock≠some c->w1.heap[c]? =w.heap[c]? :=λc hc N=>hg.block c hc (λe=>N e.symm)
 refine⟨hrow,λb hb=> ?_,λy A=> ?_⟩
 .simp[jw]at hb
  exact .inr (.inr hb.symm)
 .rcases List.mem_append.1 A with A|A
  .refine⟨(h.2.2 y A).1,Shape.lY.keep (h.2.2 y A).2 hg.size (λc hc hq=>⟨.inl hq.1,?_⟩) λc hc hq=>E c hc hq.2⟩
   intro e;simp[jw]at e;exact hgn c hc hq.2 e.symm
  .simp at A
   subst A;refine⟨O,Shape.lY.keep U hg.size (λc hc hq=>⟨.inr (.inl hq),?_⟩) λc hc hq=>E c hc (hxv c hq)⟩;exact Hz
theorem Uh{k:Nat}(h:∀l m er,rU k l m=.error er->2<=er):∀(f:Nat)(l:List UInt8)(m:Nat)(sub:List (lL IL))(er:Nat),l.length<f->JS (rU k) f l m sub=.error er->2<=er:=by
 intro f;induction f with
 |zero=>intro l m sub er h;omega
 |succ f A=>
  intro l m sub er hl he;simp only[JS]at he;split at he;.cases he
  .split at he
   .rename_i J C
    have:=h _ _ _ C;cases he;split<;>omega
   .rename_i y E
    obtain⟨N,O⟩:=Al E;exact A _ _ _ _ lW he
theorem xR:∀(k:Nat)(l:List UInt8)(m er:Nat),rU k l m=.error er->2<=er:=by
 intro k;induction k with
 |zero=>intro l m er h;simp only[rU]at h;split at h<;>cases h<;>decide
 |succ k A=>
  intro l m er h;simp only[rU]at h;split at h;.cases h;decide
  split at h;.cases h;decide
  split at h
  .rename_i C he
   cases h;have:=OZ he;omega
  .rename_i q E
   split at h
   .split at h
    .rename_i C he
     cases h;refine Uh A _ _ _ _ _ ?_ he;simp;omega
    .cases h
   .cases h
section
variable {g:Nat}{w0 w:iH}{l0:List UInt8}{k m:Nat}{tot:Int}{I:List UInt8}{v:iJ}{L:List (nJ IL)}{cnt:Nat}
end
def a3d:iJ->Nat
 | ll b=>b.size
 |_=>0
def QY(cb lb:Nat):Nat->Prop:=λc=>c≠cb/\c≠lb
def KO(cb lb fb:Nat)(y:WV)(w:iH)(e:Ending)(w':iH):Prop:=
 ∃ov cv,e=lF (lC #[ll (txt y.1.lab),lu y.1.lab.list,lh ov y.1.sub.length cv])/\yV cb lb fb y.2.1 y.2.2 w'/\lX w' (λc=>w.heap.size<=c) (lh ov y.1.sub.length cv) y.1.sub/\mH cb lb w w'
def Yt(cb lb fb:Nat)(y:List (lL IL)×RS×Nat)(w:iH)(e:Ending)(w':iH):Prop:=
 ∃ov cv,e=lF (lC #[ll ⟨#[]⟩,lu true,lh ov y.1.length cv])/\yV cb lb fb y.2.1 y.2.2 w'/\lX w' (λc=>w.heap.size<=c) (lh ov y.1.length cv) y.1/\mH cb lb w w'
structure L7(g cb lb fb kb wk:Nat)(r r2:RS)(l l2:Nat)(k z:Int)(ou:Option kr)(nu cu:Nat)(tl:Int)(ts:List (lL TL))(xo:Option kr)(xc:Nat)(L:List (nJ IL))(x:lL IL)(w0:iH)(d4 d5 d6 d8:Bool)(v4 v5 v6:iJ)(W:iH):Prop where
 ly:yV cb lb fb (if d4=true then r2 else r) (if d4=true then l2 else l) W
 rb:lN W g (Ce cb lb fb) Cw
 rs:lN W (g+1) #[ll ⟨#[]⟩,lu false,lh none 0 0] IT
 xb:lN W (g+2) #[ll ⟨#[]⟩,lu true,(if d8=true then v6 else lh xo L.length xc)] IT
 tb:d4=false->lN W kb #[lg lH k,lg lH z,lh ou nu cu,lg lH tl] pV/\wk<=W.heap.size/\l9.lY W (QY cb lb) (lh ou nu cu) ts
 own:d6=false->qm W (λc=>g+3<=c) (lh xo L.length xc) L/\∀b,(jD xo L.length xc).ownBlock=some b->b<wk
 sub:d4=true->d6=false->∃ov cv,v4=lC #[ll (txt x.lab),lu x.lab.list,lh ov x.sub.length cv]/\lX W (λc=>wk<=c) (lh ov x.sub.length cv) x.sub/\(d5=true->∃nb,v5=lh (some ⟨nb,0,none⟩) 1 1/\lN W nb #[ll (txt x.lab),lu x.lab.list,lh ov x.sub.length cv] IT)
 fin:d6=true->∃e:nJ IL,e.lab=x.lab/\e.sub=x.sub/\∃go gc,v6=lh (some ⟨go,0,none⟩) (L.length+1) gc/\qm W (λc=>g+3<=c) v6 (L++[e])
 up:mH cb lb w0 W
 lt:cb<g/\lb<g/\fb<g/\g+3<=wk/\L.length<=100000/\x.lab.text.length<=jb/\w0.heap.size=g/\0<g
section
variable {g cb lb fb kb wk:Nat}{r r2:RS}{l l2:Nat}{k z:Int}{ou:Option kr}{nu cu:Nat}{tl:Int}{ts:List (lL TL)}{xo:Option kr}{xc:Nat}{L:List (nJ IL)}{x:lL IL}{w0:iH}{d4 d5 d6 d8:Bool}{v4 v5 v6:iJ}{W W':iH}
theorem L7.call{ov:Option kr}{cv:Nat}(h:L7 g cb lb fb kb wk r r2 l l2 k z ou nu cu tl ts xo xc L x w0 false false false false v4 v5 v6 W)(hl:yV cb lb fb r2 l2 W')(hs:lX W' (λc=>W.heap.size<=c) (.slice ov x.sub.length cv) x.sub)(A:mH cb lb W W'):
  L7 g cb lb fb kb wk r r2 l l2 k z ou nu cu tl ts xo xc L x w0 true false false false (lC #[ll (txt x.lab),lu x.lab.list,lh ov x.sub.length cv]) v5 v6 W':=by
 obtain⟨N,O,t3⟩:=h.tb rfl;obtain⟨E,J⟩:=h.own rfl;have Q:=h.lt;refine⟨hl,A.blk h.rb lK lK,A.blk h.rs lK lK,A.blk h.xb lK lK,(λh=>by cases h),λ_=>⟨qm.keep E A.size (λc hc C=>A.block c hc (by have:g+3<=c:=C;omega) (by have:g+3<=c:=C;omega)) λ_ _ h=>h,J⟩,λ_ _=>⟨ov,cv,rfl,Shape.lY.keep hs (iI _) (λc _ hc=>by have:W.heap.size<=c:=hc;show wk<=c;omega) λ_ _ _=>rfl,λh=>by cases h⟩,(λh=>by cases h),h.up.trans A,h.lt⟩
theorem L7.box(h:L7 g cb lb fb kb wk r r2 l l2 k z ou nu cu tl ts xo xc L x w0 true false false false v4 v5 v6 W){ov:Option kr}{cv:Nat}(A:v4=lC #[ll (txt x.lab),lu x.lab.list,lh ov x.sub.length cv]):
  L7 g cb lb fb kb wk r r2 l l2 k z ou nu cu tl ts xo xc L x w0 true true false false v4 (lh (some ⟨W.heap.size,0,none⟩) 1 1) v6 (W.alloc (lG #[ll (txt x.lab),lu x.lab.list,lh ov x.sub.length cv] IT)):=by
 have hb:=(iL W.heap.size W).alloc (iI _) (lG #[ll (txt x.lab),lu x.lab.list,lh ov x.sub.length cv] IT);obtain⟨C,E⟩:=h.own rfl;obtain⟨N,O,e1,J,_⟩:=h.sub rfl rfl;rw[A]at e1;cases e1;refine⟨h.ly.below hb,Below.blk hb h.rb h.rb.lt,Below.blk hb h.rs h.rs.lt,Below.blk hb h.xb h.xb.lt,(λh=>by cases h),λ_=>⟨qm.keep C hb.size (λc hc Q=>hb.block c hc) λ_ _ h=>h,E⟩,λ_ _=>⟨ov,cv,A,Shape.lY.below J hb,λ_=>⟨_,rfl,lN.new W _ _⟩⟩,(λh=>by cases h),h.up.trans (mH.of hb),h.lt⟩
theorem L7.app(h:L7 g cb lb fb kb wk r r2 l l2 k z ou nu cu tl ts xo xc L x w0 true true false false v4 v5 v6 W){ov:Option kr}{cv go gc:Nat}(O:v4=lC #[ll (txt x.lab),lu x.lab.list,lh ov x.sub.length cv])(Q:nP I9 3 W' 0 IT (lh (some ⟨go,0,none⟩) (L.length+1) gc) (L++[⟨x.lab,lh ov x.sub.length cv,x.sub⟩]))(C:W.grownBy W' (jD xo L.length xc).ownBlock)(E:(jD xo L.length xc).ownBlock=some go\/go=W.heap.size):
  L7 g cb lb fb kb wk r r2 l l2 k z ou nu cu tl ts xo xc L x w0 true true true false v4 v5 (lh (some ⟨go,0,none⟩) (L.length+1) gc) W':=by
 obtain⟨J,U⟩:=h.own rfl;obtain⟨ae,af,e1,V,_⟩:=h.sub rfl rfl;rw[O]at e1;cases e1;have ah:=h.lt;have N:∀c,c<g+3->(jD xo L.length xc).ownBlock≠some c:=λc hc e=>by have:=J.2.1 c e;have:g+3<=c:=this;omega
 have k:∀{c:Nat}{cs:Array iJ}{t:jg},lN W c cs t->c<g+3->lN W' c cs t:=λhb hc=>mY hb C λy Y e=>N _ hc (by rw[Y,e])
 have A:=h.ly;have ag:mH cb lb W W'->yK W':=λu=>tu A.tab u A.ne.2.2.2.1 A.ne.2.2.2.2
 have hsz:g+3<=W.heap.size:=by have:=h.xb.lt;omega
 refine⟨⟨k A.rd lK,A.ok,k A.lf lK,k A.fr lK,?_,A.ne⟩,k h.rb lK,k h.rs lK,k h.xb lK,(λh=>by cases h),(λh=>by cases h),λ_ h=>(by cases h),λ_=>⟨⟨x.lab,lh ov x.sub.length cv,x.sub⟩,rfl,rfl,go,gc,rfl,?_⟩,?_,h.lt⟩
 .have ht:∀i,W'.cell? ⟨0,i,none⟩=W.cell? ⟨0,i,none⟩:=λi=>by
   have hb:=C.block 0 A.tab.lt (λe=>by
    have:=J.2.1 _ e.symm;have Z:g+3<=0:=this;exact absurd Z (by have:=h.lt.2.2.2.2.2.2.2;omega))
   simp only[kZ,hb]
  exact⟨(ht 0).trans A.tab.a,(ht 1).trans A.tab.b,(ht 2).trans A.tab.c⟩
 .have q:=qm.Yr (x:=⟨x.lab,lh ov x.sub.length cv,x.sub⟩) J Q C (E.imp id λe=>by omega) V (λc hc e=>by have:=U c e;have:wk<=c:=hc;omega) h.lt.2.2.2.2.2.1
  refine qm.keep q (iI _) (λ_ _ _=>rfl) λc _ hc=> ?_
  rcases hc with hc|hc|hc
  .exact hc
  .have:wk<=c:=hc;show g+3<=c;omega
  .show g+3<=c
   rcases E with E|E
   .have:=J.2.1 go E;have:g+3<=go:=this;omega
   .omega
 .refine⟨C.os.trans h.up.os,C.tape.trans h.up.tape,C.output.trans h.up.output,je h.up.size C.size,λc hc hb aa=>(C.block c (jq hc h.up.size) λe=>N c lK e.symm).trans (h.up.block c hc hb aa)⟩
theorem L7.put(h:L7 g cb lb fb kb wk r r2 l l2 k z ou nu cu tl ts xo xc L x w0 true true true false v4 v5 v6 W):L7 g cb lb fb kb wk r r2 l l2 k z ou nu cu tl ts xo xc L x w0 true true true true v4 v5 v6 (W.setCell ⟨g+2,2,none⟩ v6):=by
 have E:=h.lt;have o:∀{c:Nat}{cs:Array iJ}{t:jg},lN W c cs t->c≠g+2->lN (W.setCell ⟨g+2,2,none⟩ v6) c cs t:=λh hn=>h.setOther (a:=⟨g+2,2,none⟩) hn _
 have A:=h.ly;obtain⟨e,e1,e2,go,gc,e3,e4⟩:=h.fin rfl;have ht:0<g:=h.lt.2.2.2.2.2.2.2;have J:mH cb lb W W->True:=λ_=>trivial
 refine⟨⟨o A.rd lK,A.ok,o A.lf lK,o A.fr lK,?_,A.ne⟩,o h.rb lK,o h.rs lK,h.xb.set 2 v6,(λh=>by cases h),(λh=>by cases h),λ_ h=>(by cases h),λ_=>⟨e,e1,e2,go,gc,e3,qm.keep e4 (by simp[jf]) (λc hc C=> ?_) λ_ _ h=>h⟩,?_,h.lt⟩
 .have key:∀i,(W.setCell ⟨g+2,2,none⟩ v6).cell? ⟨0,i,none⟩=W.cell? ⟨0,i,none⟩:=λi=>by
   have hb:=iX W ⟨g+2,2,none⟩ v6 0 (by show 0≠g+2;omega);simp only[kZ,hb]
  exact⟨(key 0).trans A.tab.a,(key 1).trans A.tab.b,(key 2).trans A.tab.c⟩
 .have:g+3<=c:=C
  exact iX W ⟨g+2,2,none⟩ v6 c (by show c≠g+2;omega)
 .exact⟨h.up.os,h.up.tape,h.up.output,by simpa [jf]using h.up.size,λc hc hb C=>(iX W ⟨g+2,2,none⟩ v6 c (by show c≠g+2;omega)).trans (h.up.block c hc hb C)⟩
theorem L7.drew(h:L7 g cb lb fb kb wk r r2 l l2 k z ou nu cu tl ts xo xc L x w0 false false false false v4 v5 v6 W)(A C E:iJ):L7 g cb lb fb kb wk r r2 l l2 k z ou nu cu tl ts xo xc L x w0 false false false false A C E W.drew:=
 ⟨h.ly.below (mf W),h.rb,h.rs,h.xb,λ_=>⟨(h.tb rfl).1,(h.tb rfl).2.1,Shape.lY.below (h.tb rfl).2.2 (mf W)⟩,λ_=>⟨qm.keep (h.own rfl).1 (iI _) (λ_ _ _=>rfl) λ_ _ h=>h,(h.own rfl).2⟩,(λh=>by cases h),(λh=>by cases h),h.up.drew,h.lt⟩
end
def Ig:List kH:=[⟨some 30,.fieldAddr 47 (.tmp 7) 2,0,"layout.go:134",#[],none⟩,⟨some 31,.load 45 (.tmp 30),45,"layout.go:134",#[⟨0,.data⟩],none⟩,⟨some 32,.load 258 (.tmp 3),258,"layout.go:134",#[],none⟩,⟨some 33,.load 63 (.tmp 9),63,"layout.go:134",#[],none⟩,⟨some 34,.call {callee:=.value (.func 211),args:=#[.tmp 32,.tmp 33],argTypes:=#[258,63]},47,"layout.go:134",#[⟨2,.data⟩,⟨3,.data⟩],none⟩,⟨some 35,.buildSlice 45 1 #[(0,.tmp 34)],45,"layout.go:134",#[⟨4,.data⟩],none⟩,⟨some 36,.call {callee:=.builtin .append,args:=#[.tmp 31,.tmp 35],argTypes:=#[45,45]},45,"layout.go:134",#[⟨1,.data⟩,⟨5,.data⟩,⟨4,.chain⟩],none⟩,⟨some 37,.fieldAddr 47 (.tmp 7) 2,0,"layout.go:134",#[⟨0,.phase⟩,⟨1,.phase⟩,⟨2,.phase⟩,⟨3,.phase⟩,⟨4,.phase⟩,⟨5,.phase⟩,⟨6,.phase⟩],none⟩,⟨none,.store 45 (.tmp 37) (.tmp 36),0,"layout.go:134",#[⟨7,.data⟩,⟨6,.data⟩,⟨6,.chain⟩,⟨0,.phase⟩,⟨1,.phase⟩,⟨2,.phase⟩,⟨3,.phase⟩,⟨4,.phase⟩,⟨5,.phase⟩,⟨6,.phase⟩],none⟩]
section
variable (g cb lb fb kb wk:Nat)(r r2:RS)(l l2:Nat)(k z:Int)(ou:Option kr)(nu cu:Nat)(tl:Int)(ts:List (lL TL))(xo:Option kr)(xc:Nat)(L:List (nJ IL))(x:lL IL)(w0:iH)
def Eu:Nat->iJ
 |0=> lq (some ⟨g+2,2,none⟩)
 |1=> lh xo L.length xc
 |2=> lC #[yT cb,Ah cb,AU cb,zC cb,yU fb,lq (some ⟨lb,0,none⟩)]
 |3=> lC #[lg lH k,lg lH z,lh ou nu cu,lg lH tl]
 |7=> lq (some ⟨g+2,2,none⟩)
 |_=>jo
structure a3e(D:Nat->Bool)(vs:Nat->iJ)(w:iH):Prop where
 mh:L7 g cb lb fb kb wk r r2 l l2 k z ou nu cu tl ts xo xc L x w0 (D 4) (D 5) (D 6) (D 8) (vs 4) (vs 5) (vs 6) w
 val:∀j,(j !=4&&j !=5&&j !=6)=true->D j=true->vs j=Eu g cb lb fb k z ou nu cu tl xo xc L j
variable {g cb lb fb kb wk r r2 l l2 k z ou nu cu tl ts xo xc L x w0}
theorem ZG{id:Nat}{Q:Exit->Act->iH->Prop}{a0:Act}{aa:iH}(Ch:a0.tmps.getD 7 jo=lq (some ⟨g+2,0,none⟩))(ht3:a0.tmps.getD 3 jo=lq (some ⟨g,0,none⟩))(Gi:a0.tmps.getD 9 jo=lq (some ⟨kb,0,none⟩))(hval:∀W,yV cb lb fb r l W->mH cb lb w0 W->l9.lY W (QY cb lb) (lh ou nu cu) ts->iU iG 211 #[lC #[yT cb,Ah cb,AU cb,zC cb,yU fb,lq (some ⟨lb,0,none⟩)],lC #[lg lH k,lg lH z,lh ou nu cu,lg lH tl]] W (KO cb lb fb (x,r2,l2) W))(hsz:a0.tmps.size=40)(hI0:∀vs:Nat->iJ,(λw=>L7 g cb lb fb kb wk r r2 l l2 k z ou nu cu tl ts xo xc L x w0 false false false false (vs 4) (vs 5) (vs 6) w) aa.drew)(ae:∀(vs:Nat->iJ) (w:iH),L7 g cb lb fb kb wk r r2 l l2 k z ou nu cu tl ts xo xc L x w0 true true true true (vs 4) (vs 5) (vs 6) w->Q .normal {a0 with tmps:=((((((((a0.tmps.setIfInBounds 30 (lq (some ⟨g+2,2,none⟩))).setIfInBounds 31 (lh xo L.length xc)).setIfInBounds 32 (lC #[yT cb,Ah cb,AU cb,zC cb,yU fb,lq (some ⟨lb,0,none⟩)])).setIfInBounds 33 (lC #[lg lH k,lg lH z,lh ou nu cu,lg lH tl])).setIfInBounds 34 (vs 4)).setIfInBounds 35 (vs 5)).setIfInBounds 36 (vs 6)).setIfInBounds 37 (lq (some ⟨g+2,2,none⟩)))} w):
  (jJ id Ig.toArray true).wp iG Q a0 aa:=by
 refine l6 9 40 (a3e g cb lb fb kb wk r r2 l l2 k z ou nu cu tl ts xo xc L x w0) lQ hsz lQ (.inl rfl) lQ ?_ ?_ ?_;.exact oo
 .refine pO λA av=> ?_
  clear hI0 ae hsz;replace Ch:=iF Ch;replace ht3:=iF ht3;replace Gi:=iF Gi;replace hval:=iF hval;unfold Ig;simp only[ji,jC,o6];refine⟨?_,?_,?_,?_,?_,?_,?_,?_,?_,trivial⟩<;>(intro D vs a w K hI hd E hw2 J N;subst av;unfold Ig);have ax:=(J 7 lM).trans Ch.out;rotate_left;have af:=fe J hI.val E 30 0;simp only[Eu]at af;have C:=hI.mh;rw[hw2 8 lM lQ]at C;have c0:=C.xb.cell 2;simp only[j4,if_false,iP,iO,iM]at c0;clear C;rotate_left;have e3:=(J 3 lM).trans ht3.out;have hB:=hI.mh.rb;have c0:=hB.cell 0;have c1:=hB.cell 1;have c2:=hB.cell 2;have c3:=hB.cell 3;have c4:=hB.cell 4;have c5:=hB.cell 5;simp only[Ce,iP,iO,iM]at c0 c1 c2 c3 c4 c5;clear hB;rotate_left;have aG:=(J 9 lM).trans Gi.out;have hB:=(hI.mh.tb (hw2 4 lM lQ)).1;obtain⟨⟨c0,c1,c2,c3⟩,_⟩:=mg hB;clear hB;rotate_left
  .have hval:=hval.out
   have ag:=fe J hI.val E 32 2;have ah:=fe J hI.val E 33 3;simp only[Eu]at ag ah;have C:=hI.mh;rw[hd,hw2 5 lM lQ,hw2 6 lM lQ,hw2 8 lM lQ]at C;have ay:=hval w C.ly C.up (C.tb rfl).2.2;rw[if_pos (by rfl)];clear hval;go_simp;refine ay.mono ?_;rintro e az ⟨ov,cv,rfl,hl,hs,V⟩;refine N _ _ _ rfl ⟨?_,Ko rfl hI.val⟩;rw[l7,lT D (show 5≠4 by decide),lT D (show 6≠4 by decide),lT D (show 8≠4 by decide),nI,l8 vs _ (show 5≠4 by decide),l8 vs _ (show 6≠4 by decide),hw2 5 lM lQ,hw2 6 lM lQ,hw2 8 lM lQ];exact C.call hl hs V
  .have d4:=E 4 lM lQ
   have O:a.tmps.getD 34 jo=vs 4:=J 34 lM;have C:=hI.mh;rw[hd,d4,hw2 6 lM lQ,hw2 8 lM lQ]at C;obtain⟨ov,cv,e4,_⟩:=C.sub rfl rfl;have O:=O.trans e4;have aA:a.tmps[34]?.getD jo=lC #[ll (txt x.lab),lu x.lab.list,lh ov x.sub.length cv]:=by simpa using O
   go_simp;refine N (lh (some ⟨w.heap.size,0,none⟩) 1 1) _ _ rfl ⟨?_,Ko rfl hI.val⟩;rw[l7,lT D (show 4≠5 by decide),lT D (show 6≠5 by decide),lT D (show 8≠5 by decide),nI,l8 vs _ (show 4≠5 by decide),l8 vs _ (show 6≠5 by decide),d4,hw2 6 lM lQ,hw2 8 lM lQ];exact C.box e4
  .have Y:=fe J hI.val E 31 1
   have d5:=E 5 lM lQ;have ai:a.tmps.getD 35 jo=vs 5:=J 35 lM;simp only[Eu]at Y;have C:=hI.mh;rw[hd,E 4 lM lQ,d5,hw2 8 lM lQ]at C;obtain⟨ov,cv,e4,aH,aj⟩:=C.sub rfl rfl;obtain⟨nb,e5,hB⟩:=aj rfl;obtain⟨aB,aI⟩:=C.own rfl;have hlt:=C.lt;refine vM Nb rfl (.tmp 31) (.tmp 35) rfl (y:=⟨x.lab,lh ov x.sub.length cv,x.sub⟩) Y aB.1 (ai.trans e5) hB rfl (by intro u V;simp[I9]at V;rcases V with rfl|rfl|rfl<;>rfl) lK (jy _) ?_;intro go gc az aC aD aF aJ;refine N _ _ _ rfl ⟨?_,Ko rfl hI.val⟩;rw[l7,lT D (show 4≠6 by decide),lT D (show 5≠6 by decide),lT D (show 8≠6 by decide),nI,l8 vs _ (show 4≠6 by decide),l8 vs _ (show 5≠6 by decide),E 4 lM lQ,d5,hw2 8 lM lQ];exact C.app e4 aC aD aF
  have ax:=(J 7 lM).trans Ch.out;rotate_left
  .have d6:=E 6 lM lQ
   have Z:a.tmps.getD 36 jo=vs 6:=J 36 lM;have ak:=fe J hI.val E 37 7;simp only[Eu]at ak;have C:=hI.mh;rw[hd,E 4 lM lQ,E 5 lM lQ,d6]at C;have c0:=C.xb.cell 2;have aK:=C.xb.free 2;obtain⟨e,_,_,go,gc,au,_⟩:=C.fin rfl;have Z:=Z.trans au;simp only[j4,if_false,iP,iO,iM]at c0;go_simp;refine N jo _ _ rfl ⟨?_,ry hI.val⟩;rw[l7,lT D (show 4≠8 by decide),lT D (show 5≠8 by decide),lT D (show 6≠8 by decide),l8 vs _ (show 4≠8 by decide),l8 vs _ (show 5≠8 by decide),l8 vs _ (show 6≠8 by decide),E 4 lM lQ,E 5 lM lQ,d6];rw[<-au];exact C.put
  all_goals
   go_simp;exact N _ _ _ rfl ⟨hI.mh,ry hI.val⟩
 .intro D vs w U hI
  have E:=hI.mh;rw[U 4 lM]at E;rw[U 5 lM]at E;rw[U 6 lM]at E;rw[U 8 lM]at E;have q:=ae vs w E;rw[mQ hI.val U];unfold Ig;exact om
end
end
end Go.Proofs.YtamfcjmhnndbdaaGreatDoor


