/- Part 11 of the proof. -/
import Derived.Test.YtamfcjmhnndbdaaGreatDoorZu00
import Derived.Test.YtamfcjmhnndbdaaGreatDoorZu09
import Derived.Test.YtamfcjmhnndbdaaGreatDoorZu06
import Derived.Test.YtamfcjmhnndbdaaGreatDoorZu07
import Derived.Test.YtamfcjmhnndbdaaGreatDoorZu10
open Go.Value renaming agg→nC,bool→nA,int→ng,pointer→nz,slice→nk,string→ny,tuple→nD,ownBlock→kJ,slice→kM
open Go.Obj renaming cells→nG
open Go.IntKind renaming i64→nH,u64→nI
open Go.Ending renaming returned→nE
open Go.Lib renaming hid→jH
open Go.Proofs.Tryz renaming prog→jI
open Go renaming World→jJ,Value→jP,Calls→jV,bodyPost_ret→j4,maxLen→j5,TypeId→ko,undef→kH,results→kK,Oper→lX,Addr→l5,Program→mK
open List renaming setIfInBounds_toArray→jK,getElem?_cons_succ→jM,getElem?_cons_zero→jN,getElem?_toArray→jO,set_cons_zero→jQ,set_cons_succ→jR,getElem?_eq_getElem→jX,length_append→jY,take_succ_cons→ky,length_cons→kD,take_zero→kQ,length_drop→kS,mem_of_getElem?→kT,getElem?_eq_some_iff→ll,getD_eq_getElem?_getD→lN,length_eq_zero_iff→mf,map_cons→mH
open Nat renaming le_refl→jL,le_trans→kg,lt_of_lt_of_le→kG,zero_le→kI,lt_succ_self→lM,le_of_eq→mV
open Go.RowKit renaming Below→jS,Hid→jW,intOf→kW
open Go.RowKit.Below renaming refl→jT,heap_setCell→j6
open ByteArray renaming size_extract→kz
open Go.World renaming setCell→kC,cell?→mW
open Go.Act renaming put→kE
open Go.Code renaming region→lg
open Bool renaming false_eq_true→lF
open Array renaming getElem?_modify→lL
open UInt8 renaming toNat_inj→lU
open Option.some renaming injEq→mI
namespace Go.Proofs.YtamfcjmhnndbdaaGreatDoor
set_option linter.unusedVariables false
set_option linter.unusedSimpArgs false
set_option maxRecDepth 100000
set_option maxHeartbeats 8000000
variable {p:Prop}{x:Fr}
section
open Go.RowKit
def Bg:Except Nat (Bool×Nat×Nat)->jP
 | .error e=> nD #[nA false,ng nH 0,ng nH 0,ng nH (e:Nat)]
 | .ok q=> nD #[nA q.1,ng nH (q.2.1:Nat),ng nH (q.2.2:Nat),ng nH 0]
def BK(l:List UInt8)(deep A:Bool):Except Nat (Bool×Nat×Nat):=if l=[]then .error 2 else if deep then .error 6 else if A then .error 4 else hd l
theorem Sb{l:List UInt8}{k m e:Nat}(h:BK l (decide (k=0)) (decide (m=0))=.error e):vU k l m=.error e:=by
 unfold BK at h;split at h;.rename_i h0;subst h0;cases h;exact a1c
 rename_i h0;split at h;.rename_i A;simp at A;subst A;cases h;exact XO h0
 rename_i A;obtain⟨k,rfl⟩:∃E,k=E+1:=⟨k - 1,by simp at A;omega⟩;split at h;.rename_i C;simp at C;subst C;cases h;exact XP h0
 rename_i C;obtain⟨m,rfl⟩:∃I,m=I+1:=⟨m - 1,by simp at C;omega⟩;exact XQ h0 h
theorem XR{l:List UInt8}{k m:Nat}{q:Bool×Nat×Nat}(h:BK l (decide (k=0)) (decide (m=0))=.ok q):l≠[]/\0<k/\0<m/\hd l=.ok q:=by
 unfold BK at h;split at h;.cases h
 rename_i h0;split at h;.cases h
 rename_i A;split at h;.cases h
 rename_i C;exact⟨h0,by simp at A;omega,by simp at C;omega,h⟩
theorem a3M{s:ByteArray}(h0:0<s.size){by' t:Nat}{L:Bool}(hL:decide (192<=s[0].toNat)=L)(hb:by'=if L then 192 else 128)(ht:s[0].toNat=by'+t):
  (t<=55->hd s.data.toList=hd2 s.data.toList L 1 t)/\
  (∀k,t=55+k->0<k->(s.size<1+k->hd s.data.toList=.error 2)/\(1+k<=s.size->
   (s.extract 1 (1+k)).data.toList=(s.data.toList.drop 1).take k/\
   (((s.data.toList.drop 1).head? =some 0\/uE ((s.data.toList.drop 1).take k)<56)->hd s.data.toList=.error 3)/\
   (¬((s.data.toList.drop 1).head? =some 0\/uE ((s.data.toList.drop 1).take k)<56)->hd s.data.toList=hd2 s.data.toList L (1+k) (uE ((s.data.toList.drop 1).take k))))):=by
 have hl:=sP s h0;have hlen:s.data.toList.length=s.size:=nR;have E:by'=if 192<=s[0].toNat then 192 else 128:=by rw[hb,<-hL];simp
 have A:¬s[0].toNat<128:=by
  rw[hb]at ht;split at ht<;>omega
 generalize I:s.data.toList.drop 1=r at*;have key:hd s.data.toList=if t<=55 then hd2 s.data.toList L 1 t else if s.data.toList.length<1+(t - 55)then .error 2 else if(r.head? =some 0\/uE (r.take (t - 55))<56)then .error 3 else hd2 s.data.toList L (1+(t - 55)) (uE (r.take (t - 55))):=by
  conv=>lhs;rw[hl]
  simp only[hd];rw[if_neg A,<-E,ht,hL.symm,ht,Nat.add_sub_cancel_left,<-hl]
 refine⟨λh=>by rw[key,if_pos h],?_⟩;rintro k rfl hk;rw[show 55+k - 55=k by omega,if_neg nK,hlen]at key;refine⟨λh=>by rw[key,if_pos h],λh=>⟨?_,λC=>by rw[key,if_neg nK,if_pos C],λC=>by rw[key,if_neg nK,if_neg C]⟩⟩;rw[<-I];simp only[ByteArray.data_extract,Array.toList_extract,List.extract];rw[show 1+k - 1=k by omega]
theorem Qh{l:List UInt8}{k:Nat}(hk:0<k)(I:k<=8)(hl:k<=l.length):
  ((l.head? =some 0\/uE (l.take k)<56)/\(pG (l.take k)=(0,3)\/∃v,v<=55/\pG (l.take k)=(v,0)))\/
   (¬(l.head? =some 0\/uE (l.take k)<56)/\pG (l.take k)=(uE (l.take k),0)/\56<=uE (l.take k)/\uE (l.take k)<18446744073709551616):=by
 cases l with
 |nil=>simp at hl;omega
 |cons b r=>
  obtain⟨j,rfl⟩:∃j,k=j+1:=⟨k - 1,nK⟩;rw[ky];have C:(r.take j).length=j:=by simp at hl⊢;omega
  have J:=J8 (b::r.take j);rw[kD,C]at J;have hp:=Mi (j+1) I;simp only[List.head?_cons,mI];by_cases hb:b=0
  .left
   refine⟨.inl hb,.inl ?_⟩;rw[pG,if_neg nK,if_pos (by rw[hb];rfl)]
  .have E:¬b.toNat=0:=λh=>hb (lU.1 h)
   have e:pG (b::r.take j)=(uE (b::r.take j),0):=by rw[pG,if_neg nK,if_neg E]
   by_cases A:uE (b::r.take j)<56;.exact .inl ⟨.inr A,.inr ⟨_,nK,e⟩⟩
   .exact .inr ⟨λh=>h.elim hb A,e,nK,nK⟩
theorem UO{l:List UInt8}{L:Bool}{z n:Nat}(h:l.length - z<n):hd2 l L z n=.error 2:=by unfold hd2;rw[if_pos h]
theorem Sc(h:p:=by
 have hq:=jH (HT.1 c);go_wp2_with fail;go_meet;exact⟨1,t,by first|rfl|(simp;omega),rfl,by congr 1;have:=HE.out;omega,nK,nK,nK,hq,rfl⟩):p:=h
theorem Ec(h:p:=by
 go_wp2_with fail;go_returns;exact⟨by rw[hq.out,hE.out];rfl,rfl⟩):p:=h
theorem a2v(h:p:=by
 go_upto_region 16 with fail;simp only[show(1+(k:Int))=((1+k:Nat):Int)by omega];by_cases c2:s.size<1+k
 .have hR:=jH (HK.1 c2)
  have d3:decide (s.size<1+k)=true:=nQ;go_wp2_with fail;go_returns;exact⟨by rw[hR.out];rfl,rfl⟩
 .have d3:decide (s.size<1+k)=false:=nQ
  have hk1:1+k<=s.size:=nK;have CG:=jH (yO (s.extract 1 (1+k)) w (by simp[kz];unfold j5;omega));obtain⟨hx1,hx2,hx3⟩:=HK.2 hk1;rw[hx1]at CG;have Sd:=jH hx2;have Sg:=jH hx3;have hg:=HG.out k hk0 hk8 (by rw[kS,HL.out];omega);clear hx1 hx2 hx3 HK HG HT c2 c hk;generalize pG ((s.data.toList.drop 1).take k)=G at*;generalize (s.data.toList.drop 1).take k=tk at*;rcases hg with⟨hbad,hg⟩|⟨hgood,rfl,hv1,hv2⟩
  .have hR:=jH (Sd hbad)
   clear Sd Sg hbad;rcases hg with rfl|⟨v,hv,rfl⟩
   .go_wp2_with fail
    refine CG.mono ?_;rintro e w1 ⟨rfl,rfl⟩;simp only[n2];go_wp2_with fail;go_returns;exact⟨by rw[hR.out];rfl,rfl⟩
   .have d4:decide (v<=55)=true:=nQ
    go_wp2_with fail;refine CG.mono ?_;rintro e w1 ⟨rfl,rfl⟩;simp only[n2];go_wp2_with fail;go_returns;exact⟨by rw[hR.out];rfl,rfl⟩
  .have hR:=jH (Sg hgood)
   clear Sd Sg hgood;generalize uE tk=v at*;have d4:decide (v<=55)=false:=nQ;by_cases c5:s.size<v
   .have d5:decide (s.size<v)=true:=nQ
    have hE:=jH (HS (1+k) v (by rw[HL.out];omega));go_wp2_with fail;refine CG.mono ?_;rintro e w1 ⟨rfl,rfl⟩;simp only[n2];go_wp2_with fail;go_returns;exact⟨by rw[hR.out,hE.out];rfl,rfl⟩
   .have d5:decide (s.size<v)=false:=nQ
    have hvs:v<=100000:=nK;go_wp2_with fail;refine CG.mono ?_;rintro e w1 ⟨rfl,rfl⟩;simp only[n2];go_wp2_with fail;go_meet;exact⟨1+k,v,by first|rfl|(simp;omega),rfl,rfl,nK,hk1,hvs,hR,rfl⟩):p:=h
theorem KO(s:ByteArray)(w:jJ)(hs:s.size<=100000)(h0:0<s.size)(hb:128<=s[0].toNat):
  jV jI 242 #[ny s,nA false,nA false] w λe w'=>e=nE (Bg (hd s.data.toList))/\w'=w:=by
 have ak:=zS s h0;have I:s[0].toNat<=255:=by have:=s[0].toNat_lt;omega
 have hlen:s.data.toList.length=s.size:=nR;obtain⟨L,hL⟩:=nT (decide (192<=s[0].toNat));obtain⟨R,hR⟩:=nT (hd s.data.toList);have Q:=jH (λt by'=>a3M h0 (by':=by') (t:=t) hL);have HG:=jH (λk=>Qh (l:=s.data.toList.drop 1) (k:=k));have HS:=jH (λz n (h:s.data.toList.length - z<n)=>UO (l:=s.data.toList) (L:=L) (z:=z) (n:=n) h);have HL:=jH hlen;rw[hR]at Q⊢;clear hR hlen;have af:decide (s[0].toNat<128)=false:=nQ;obtain⟨b,hb0⟩:=nT (s[0].toNat);rw[hb0]at af;obtain⟨t,by',E,ht⟩:∃t by',(by'=if L then 192 else 128)/\b=by'+t:=by
  cases L with
  |true=>exact⟨b - 192,192,rfl,by simp at hL;omega⟩
  |false=>exact⟨b - 128,128,rfl,nK⟩
 have HT:=jH (Q t by' E (hb0.trans ht));have HE:=jH ht;have J:=jH E;have ag:decide (192<=b)=L:=by rw[<-hL,hb0]
 clear Q hL ht E;go_in;cases L with
 |true=>
  obtain rfl:by'=192:=J.out;have V:192<=b:=by have:=HE.out;omega
  have Y:b<=255:=nK;clear I;go_upto_if 38 with(fail)
  go_cut [6,7,8] (λa b c U=>∃A N:Nat,a=nA true/\b=ng nH (A:Int)/\c=ng nH (N:Int)/\1<=A/\A<=s.size/\N<=100000/\jW (R=hd2 s.data.toList true A N)/\U=w);case first=>
   by_cases c:t<=55
   .have C:b<=247:=by have:=HE.out;omega
    exact Sc
   .obtain⟨k,hk⟩:∃k,t=55+k:=⟨t - 55,nK⟩
    have hk0:0<k:=nK;have hk8:k<=8:=by have:=HE.out;omega
    have HK:=jH (HT.2 k hk hk0);have C:247<b:=by have:=HE.out;omega
    have ah:(1+((b:Int) - 192 - 55))=((1+k:Nat):Int):=by have:=HE.out;omega
    exact a2v
  case rest=>
   obtain⟨A,N,rfl,rfl,rfl,Z,ai,aj,hq,rfl⟩:=hcut;by_cases c1:s.size - A<N
   .have hE:=jH (HS A N (by rw[HL.out];omega))
    have C:decide ((s.size:Int) -(A:Int)<(N:Int))=true:=nQ;clear c1;exact Ec
   .have C:decide ((s.size:Int) -(A:Int)<(N:Int))=false:=nQ
    have aa:N<=s.size - A:=nK;clear c1;have hE:jW (hd2 s.data.toList true A N=.ok (true,A,N)):=jH (by unfold hd2;rw[if_neg (by rw[HL.out];omega),if_neg nR]);exact Ec
 |false=>
  obtain rfl:by'=128:=J.out;have V:128<=b:=by have:=HE.out;omega
  have au:b<192:=by simpa using ag
  have Y:b<=255:=nK;clear I;go_upto_if 38 with(fail)
  go_cut [6,7,8] (λa b c U=>∃A N:Nat,a=nA false/\b=ng nH (A:Int)/\c=ng nH (N:Int)/\1<=A/\A<=s.size/\N<=100000/\jW (R=hd2 s.data.toList false A N)/\U=w);case first=>
   by_cases c:t<=55
   .have C:b<=183:=by have:=HE.out;omega
    exact Sc
   .obtain⟨k,hk⟩:∃k,t=55+k:=⟨t - 55,nK⟩
    have hk0:0<k:=nK;have hk8:k<=8:=by have:=HE.out;omega
    have HK:=jH (HT.2 k hk hk0);have C:183<b:=by have:=HE.out;omega
    have ah:(1+((b:Int) - 128 - 55))=((1+k:Nat):Int):=by have:=HE.out;omega
    exact a2v
  case rest=>
   obtain⟨A,N,rfl,rfl,rfl,Z,ai,aj,hq,rfl⟩:=hcut;by_cases c1:s.size - A<N
   .have hE:=jH (HS A N (by rw[HL.out];omega))
    have C:decide ((s.size:Int) -(A:Int)<(N:Int))=true:=nQ;clear c1;exact Ec
   .have C:decide ((s.size:Int) -(A:Int)<(N:Int))=false:=nQ
    have aa:N<=s.size - A:=nK;clear c1;by_cases c2:N=1
    .subst c2
     have ae:A<s.size:=nK;have O:jW (s.data.toList.getD A 0=s[A]):=jH (by rw[lN,jX (by rw[HL.out];exact ae)];rfl);by_cases c3:s[A].toNat<128
     .have hE:jW (hd2 s.data.toList false A 1=.error 3):=jH (by unfold hd2;rw[if_neg (by rw[HL.out];omega),if_pos ⟨rfl,rfl,by rw[O.out];exact c3⟩])
      have d3:decide (s[A].toNat<128)=true:=nQ;exact Ec
     .have hE:jW (hd2 s.data.toList false A 1=.ok (false,A,1)):=jH (by unfold hd2;rw[if_neg (by rw[HL.out];omega),if_neg (by rw[O.out];intro h;exact c3 h.2.2)])
      have d3:decide (s[A].toNat<128)=false:=nQ;exact Ec
    .have hE:jW (hd2 s.data.toList false A N=.ok (false,A,N)):=jH (by unfold hd2;rw[if_neg (by rw[HL.out];omega),if_neg (λh=>c2 h.2.1)])
     have d3:((N:Int)==1)=false:=wL;clear c2;exact Ec
theorem KP(h:p:=by
 go_in;go_wp2_with fail;go_returns;exact⟨by rw[hR.out];rfl,rfl⟩):p:=h
theorem Nz(s:ByteArray)(deep A:Bool)(w:jJ)(hs:s.size<=100000):
  jV jI 242 #[ny s,nA deep,nA A] w λe w'=>e=nE (Bg (BK s.data.toList deep A))/\w'=w:=by
 by_cases h0:s.size=0
 .have e:s=⟨#[]⟩:=Uw (mf.1 (by simpa using h0))
  subst e;have hR:jW (BK (⟨#[]⟩:ByteArray).data.toList deep A=.error 2):=jH rfl;exact KP
 have hp:0<s.size:=nK;have C:s.data.toList≠[]:=λh=>h0 (by have:=congrArg List.length h;simpa using this)
 have I:=zS s hp;cases deep with
 |true=>
  have hR:jW (BK s.data.toList true A=.error 6):=jH (by simp[BK,C]);clear C;exact KP
 |false=>
  cases A with
  |true=>
   have hR:jW (BK s.data.toList false true=.error 4):=jH (by simp[BK,C]);clear C;exact KP
  |false=>
   have hR:jW (BK s.data.toList false false=hd s.data.toList):=jH (by simp[BK,C]);rw[hR.out];by_cases hb:s[0].toNat<128
   .have E:jW (hd s.data.toList=.ok (false,0,1)):=jH (by rw[sP s hp];simp only[hd];rw[if_pos hb])
    have J:decide (s[0].toNat<128)=true:=by simpa using hb
    clear C hR;go_in;go_wp2_with fail;go_returns;exact⟨by rw[E.out];rfl,rfl⟩
   .exact KO s w hs hp nK
def lvl(x:Fr):List (nL IL)×Nat:=(x.L.map qh.tree,x.e)
def Ends:Nat->List Fr->Nat->Prop
 |p,[],S=>p<=S
 |p,x::xs,S=>p<=x.e/\Ends x.e xs S
theorem Ends.le:∀{st:List Fr}{p S:Nat},Ends p st S->p<=S
 |[],_,_,h=>h
 |x::xs,_,_,h=>kg h.1 (Ends.le h.2)
def qR:Array jP:=#[ny ⟨#[]⟩,nA false,nk none 0 0]
abbrev RdR:Type:=Except Nat (nL IL×Nat×Nat)
def a8C(s:List UInt8)(K M:Nat)(R:RdR)(B bo bw:Nat)(vr:jP)(w:jJ)(p c:Nat):List Fr->Prop
 |[]=>∃(x:nL IL) (v:jP) (A:Nat->Prop),R=.ok (x,p,M - c)/\nO w bw #[ny (txt x.lab),nA x.lab.list,v] IT/\nV w A v x.sub/\(∀c,A c->¬OU B bo bw vr c)
 |x::xs=>nO w bw qR IT/\R=cont s (x.L.map qh.tree) x.e (xs.map lvl) (K -(xs.length+1)) p (M - c)
structure vW(s:List UInt8)(K M:Nat)(R:RdR)(B bo bw:Nat)(w0 w:jJ)(p c:Nat)(vr:jP)(st:List Fr):Prop where
 Bh:rE w B bo bw vr st
 below:jS B w0 w
 hc:c<=M
 len:st.length<=K
 Ls:(st.map λx=>x.L.length).sum+st.length<=c
 ends:Ends p st s.length
 res:a8C s K M R B bo bw vr w p c st
theorem XT:wY jI 275 RT 2:=⟨Tryz.underlying275,⟨.agg #[.slice none 0 0,.int .i64 0],32,by
 obtain⟨i,A,C,E,I⟩:=info_parts (show(Tryz.prog.info? RT).map (λi=>(i.zero,i.size,i.bytes))=some (some (nC #[nk none 0 0,ng nH 0]),2,32)by kernel_rfl);exact⟨i,A,C,E,I,nN,rfl⟩⟩,nN⟩
theorem NA{w w1 w2:jJ}{B bo bw g cap:Nat}{vr:jP}{st:List Fr}{f:Fr}(h:rE w B bo bw vr st)(E:jS w.heap.size w w1)(Q:f.v=nk none 0 0/\f.L=[])(hrow:pK rf2 2 w2 B RT (nk (some ⟨g,0,none⟩) (st.length+1) cap) (st.reverse++[f]))(hg:w1.grownBy w2 vr.ownBlock)(I:vr.ownBlock=some g\/g=w1.heap.size):
  rE (w2.setCell ⟨bo,0,none⟩ (nk (some ⟨g,0,none⟩) (st.length+1) cap)) B bo bw (nk (some ⟨g,0,none⟩) (st.length+1) cap) (f::st)/\
   jS B w (w2.setCell ⟨bo,0,none⟩ (nk (some ⟨g,0,none⟩) (st.length+1) cap))/\
   ∀c,c<w.heap.size->c≠bo->vr.ownBlock≠some c->(w2.setCell ⟨bo,0,none⟩ (nk (some ⟨g,0,none⟩) (st.length+1) cap)).heap[c]? =w.heap[c]? :=by
 have V:=E.size;have Y:=hg.size;have A:∀c,c<w.heap.size->c≠bo->vr.ownBlock≠some c->(w2.setCell ⟨bo,0,none⟩ (nk (some ⟨g,0,none⟩) (st.length+1) cap)).heap[c]? =w.heap[c]? :=λc hc hn Z=>
  (j6 _ _ _ _ hn).trans ((hg.block c nK (λe=>Z e.symm)).trans (E.block c hc))
 have C:nO w1 bo #[vr] OT:=Below.blk E h.ho h.ho.lt;have N:nO w2 bo #[vr] OT:=by
  unfold nO;rw[hg.block bo C.lt (λe=>h.nbo e.symm)];exact C
 have J:g≠bo:=by
  rintro rfl;rcases I with e|e
  .exact h.nbo e
  .have:=C.lt;omega
 have O:g≠bw:=by
  rintro rfl;rcases I with e|e
  .exact h.nbw e
  .have:=h.lt;omega
 have hsz:(w2.setCell ⟨bo,0,none⟩ (nk (some ⟨g,0,none⟩) (st.length+1) cap)).heap.size=w2.heap.size:=by simp[kC]
 refine⟨⟨N.set 0 _,?_,?_,?_,⟨λ_=>False,λc hc=>hc.elim,?_,?_⟩,h.Iw,h.hbw,h.ne,by rw[hsz];exact kG h.lt nK⟩,?_,A⟩
 .rw[List.reverse_cons]
  exact hrow.keep λb hb=>by
   simp[kJ]at hb;exact j6 _ _ _ _ (by show b≠bo;exact hb▸J)
 .intro e;simp[kJ]at e;exact J e
 .intro e;simp[kJ]at e;exact O e
 .rw[Q.1,Q.2];exact tZ.nil _ _
 .refine h.Iu.keep (by rw[hsz];omega) (λc hc hn=>A c hc (λe=>hn (.inr (.inl e))) λe=>hn (.inr (.inr (.inr e)))) λc hc hn=> ?_
  rcases hn with(hn|hn|hn|hn)|hn
  .exact .inl hn
  .exact .inr (.inl hn)
  .exact .inr (.inr (.inl hn))
  .simp[kJ]at hn
   subst hn;rcases I with e|e
   .exact .inr (.inr (.inr e))
   .omega
  .exact hn.elim
 .refine⟨?_,?_,?_,by rw[hsz];omega,λc hc=> ?_⟩
  .exact hg.os.trans E.os
  .exact hg.tape.trans E.tape
  .exact hg.output.trans E.output
  .have U:c<w.heap.size:=by have:=h.Iw;have:=h.ho.lt;omega
   refine A c U (by have:=h.Iw;omega) λe=> ?_
   have:=(h.row.block c e).1;omega
theorem Si(h:p:=by
 have e:(x::xs).reverse.take N=xs.reverse:=by
  rw[List.reverse_cons,List.take_append_of_le_length (by simp[hN]),List.take_of_length_le (by simp[hN])]
 rwa [e]at this):p:=h
theorem Sj{w:jJ}{B bo bw go A N:Nat}{xs:List Fr}(h:rE w B bo bw (nk (some ⟨go,0,none⟩) (N+1) A) (x::xs))(hN:xs.length=N):
  ∃Q:Nat->Prop,rE (w.setCell ⟨bo,0,none⟩ (nk (some ⟨go,0,none⟩) N A)) B bo bw (nk (some ⟨go,0,none⟩) N A) xs/\tZ (w.setCell ⟨bo,0,none⟩ (nk (some ⟨go,0,none⟩) N A)) Q x.v x.L/\
   (∀c,Q c->¬OU B bo bw (nk (some ⟨go,0,none⟩) N A) c)/\Eb (w.setCell ⟨bo,0,none⟩ (nk (some ⟨go,0,none⟩) N A)) (λc=>OU B bo bw (nk (some ⟨go,0,none⟩) N A) c\/Q c) xs/\
   jS B w (w.setCell ⟨bo,0,none⟩ (nk (some ⟨go,0,none⟩) N A))/\(∀c,c≠bo->(w.setCell ⟨bo,0,none⟩ (nk (some ⟨go,0,none⟩) N A)).heap[c]? =w.heap[c]?):=by
 obtain⟨Q,I,O,U⟩:=h.Iu;have hsz:(w.setCell ⟨bo,0,none⟩ (nk (some ⟨go,0,none⟩) N A)).heap.size=w.heap.size:=by simp[kC]
 have C:∀c,c≠bo->(w.setCell ⟨bo,0,none⟩ (nk (some ⟨go,0,none⟩) N A)).heap[c]? =w.heap[c]? :=λc hn=>j6 _ _ _ _ hn
 have Y:∀c,OU B bo bw (nk (some ⟨go,0,none⟩) N A) c<->OU B bo bw (nk (some ⟨go,0,none⟩) (N+1) A) c:=λc=>Iff.rfl
 have J:∀c,Q c->c≠bo:=λc hc e=>I c hc (.inr (.inl e))
 have E:Eb (w.setCell ⟨bo,0,none⟩ (nk (some ⟨go,0,none⟩) N A)) (λc=>OU B bo bw (nk (some ⟨go,0,none⟩) N A) c\/Q c) xs:=
  U.keep (by rw[hsz];exact jL _) (λc _ hn=>C c λe=>hn (.inl (.inr (.inl e)))) λc _ hn=>hn
 have V:go≠bo:=λe=>h.nbo (by subst e;rfl)
 refine⟨Q,⟨h.ho.set 0 _,?_,h.nbo,h.nbw,E.keep (jL _) (λ_ _ _=>rfl) λc _ hn=> .inl hn,h.Iw,h.hbw,h.ne,by rw[hsz];exact h.lt⟩,?_,λc hc=>I c hc,E,?_,C⟩
 .have:=(pK.cut h.row Av (m:=N) (by simp[hN])).keep (w':=w.setCell ⟨bo,0,none⟩ (nk (some ⟨go,0,none⟩) N A)) λb hb=>by
   simp[kJ]at hb;exact C b (by rw[<-hb];exact V)
  exact Si
 .exact O.keep (by rw[hsz];exact jL _) (λc _ hc=>C c (J c hc)) λc _ hc=>hc
 .exact⟨rfl,rfl,rfl,by rw[hsz];exact jL _,λc hc=>C c (by have:=h.Iw;omega)⟩
theorem NC{w:jJ}{Q:Nat->Prop}{o:Option l5}{n c:Nat}{s:List (nL IL)}(h:nV w Q (nk o n c) s):nV w Q (nk o n n) s:=by
 obtain⟨oa,cap,e,A,C,E⟩:=h;cases e;exact⟨_,_,rfl,jL _,kg A C,E⟩
section
variable {s:List UInt8}{K M:Nat}{R:RdR}{B bo bw:Nat}{w0 w w':jJ}{p c:Nat}{vr:jP}
theorem vW.err{xs:List Fr}(h:vW s K M R B bo bw w0 w p c vr (x::xs))(hp:p<x.e){er:Nat}(A:BK (zt s p x.e) (decide (K<=(x::xs).length)) (decide (M<=c))=.error er):R=.error (if er=2 then 3 else er):=by
 rw[h.res.2];refine XN hp (Ends.le h.ends.2) (Sb ?_);rw[<-A];congr 1;.rw[decide_eq_decide];have:=h.len;simp at this⊢;omega
 .rw[decide_eq_decide];have:=h.hc;omega
theorem vW.head{xs:List Fr}(h:vW s K M R B bo bw w0 w p c vr (x::xs))(hp:p<x.e){q:Bool×Nat×Nat}(A:BK (zt s p x.e) (decide (K<=(x::xs).length)) (decide (M<=c))=.ok q):
  (x::xs).length<K/\c<M/\hd (zt s p x.e)=.ok q/\q.2.1+q.2.2<=x.e - p/\0<q.2.1+q.2.2/\x.e<=s.length:=by
 have he:=Ends.le h.ends.2;have e1:decide (K<=(x::xs).length)=decide (K -(x::xs).length=0):=by rw[decide_eq_decide];omega
 have e2:decide (M<=c)=decide (M - c=0):=by rw[decide_eq_decide];omega
 rw[e1,e2]at A;obtain⟨J,N,O,C⟩:=XR A;obtain⟨E,I,_⟩:=Ky C;rw[seg_length s nK he]at E;exact⟨nK,nK,C,E,I,he⟩
theorem vW.text{xs:List Fr}(h:vW s K M R B bo bw w0 w p c vr (x::xs))(hp:p<x.e){z n:Nat}(A:BK (zt s p x.e) (decide (K<=(x::xs).length)) (decide (M<=c))=.ok (false,z,n)){v':jP}{y:qh IL}(E:y.tree=.node ⟨zt s (p+z) (p+z+n),false⟩ [])(hs:rE w' B bo bw vr (⟨v',x.L++[y],x.e⟩::xs))(hb:nO w' bw qR IT)(I:jS B w w'):
  vW s K M R B bo bw w0 w' (p+z+n) (c+1) vr (⟨v',x.L++[y],x.e⟩::xs):=by
 obtain⟨J,V,N,C,O,Q⟩:=h.head hp A;simp only at C O;refine⟨hs,h.below.trans I,nK,h.len,by have:=h.Ls;simp at this⊢;omega,⟨by show p+z+n<=x.e;omega,h.ends.2⟩,hb,?_⟩
 .rw[h.res.2]
  simp only[kD]at J;obtain⟨k,hk⟩:∃k,K -(xs.length+1)=k+1:=⟨K -(xs.length+1) - 1,nK⟩;obtain⟨m,U⟩:∃m,M - c=m+1:=⟨M - c - 1,nK⟩;rw[hk,U,UM hp Q N C,show M -(c+1)=m by omega];simp[E]
theorem vW.list{xs:List Fr}(h:vW s K M R B bo bw w0 w p c vr (x::xs))(hp:p<x.e){z n:Nat}(C:BK (zt s p x.e) (decide (K<=(x::xs).length)) (decide (M<=c))=.ok (true,z,n)){v' A:jP}(hs:rE w' B bo bw A (⟨v',[],p+z+n⟩::x::xs))(hb:nO w' bw qR IT)(J:jS B w w'):
  vW s K M R B bo bw w0 w' (p+z) (c+1) A (⟨v',[],p+z+n⟩::x::xs):=by
 obtain⟨E,V,N,I,O,Q⟩:=h.head hp C;simp only at I O;refine⟨hs,h.below.trans J,nK,by simp only[kD]at E⊢;omega,by have:=h.Ls;simp at this⊢;omega,⟨by show p+z<=p+z+n;omega,by show p+z+n<=x.e;omega,h.ends.2⟩,hb,?_⟩
 .rw[h.res.2]
  simp only[kD]at E;obtain⟨k,hk⟩:∃k,K -(xs.length+1)=k+1:=⟨K -(xs.length+1) - 1,nK⟩;obtain⟨m,U⟩:∃m,M - c=m+1:=⟨M - c - 1,nK⟩;rw[hk,U,UN hp Q N I,show M -(c+1)=m by omega,show K -((x::xs).length+1)=k by simp;omega];rfl
theorem vW.close{A:Fr}{xs:List Fr}(h:vW s K M R B bo bw w0 w p c vr (x::A::xs))(hp:x.e=p){v' C:jP}{y:qh IL}(E:y.tree=.node ⟨[],true⟩ (x.L.map qh.tree))(hs:rE w' B bo bw C (⟨v',A.L++[y],A.e⟩::xs))(hb:nO w' bw qR IT)(I:jS B w w'):vW s K M R B bo bw w0 w' p c C (⟨v',A.L++[y],A.e⟩::xs):=by
 subst hp;refine⟨hs,h.below.trans I,h.hc,by have:=h.len;simp at this⊢;omega,by have:=h.Ls;simp at this⊢;omega,⟨h.ends.2.1,h.ends.2.2⟩,hb,?_⟩
 .rw[h.res.2,GR]
  show fin s ((A.L.map qh.tree,A.e)::xs.map lvl) _ _ _ _=_;rw[XL];have:=h.len;simp only[kD]at this⊢;rw[show K -(xs.length+1+1)+1=K -(xs.length+1)by omega];simp[E]
theorem vW.whole(h:vW s K M R B bo bw w0 w p c vr [x])(hp:x.e=p){A v:jP}{C:Nat->Prop}(hs:rE w' B bo bw A [])(hb:nO w' bw #[ny ⟨#[]⟩,nA true,v] IT)(E:nV w' C v (x.L.map qh.tree))(I:∀c,C c->¬OU B bo bw A c)(J:jS B w w'):vW s K M R B bo bw w0 w' p c A []:=by
 subst hp;refine⟨hs,h.below.trans J,h.hc,nR,nR,Ends.le h.ends.2,?_⟩;refine⟨nL.node ⟨[],true⟩ (x.L.map qh.tree),v,C,?_,hb,E,I⟩;rw[h.res.2,GR];rfl
end
theorem UQ{s:List UInt8}{K M er:Nat}(h:BK s (decide (K<=0)) (decide (M<=0))=.error er):vU K s M=.error er:=by
 refine Sb ?_;rw[<-h];congr 1<;>(rw[decide_eq_decide];omega)
theorem BS{s:List UInt8}{K M:Nat}{q:Bool×Nat×Nat}(h:BK s (decide (K<=0)) (decide (M<=0))=.ok q):s≠[]/\0<K/\0<M/\hd s=.ok q/\q.2.1+q.2.2<=s.length/\0<q.2.1+q.2.2:=by
 have e1:decide (K<=0)=decide (K=0):=by rw[decide_eq_decide];omega
 have e2:decide (M<=0)=decide (M=0):=by rw[decide_eq_decide];omega
 rw[e1,e2]at h;obtain⟨C,E,I,A⟩:=XR h;obtain⟨J,N,_⟩:=Ky A;exact⟨C,E,I,A,J,N⟩
theorem vW.Qi{s:List UInt8}{K M B bo bw:Nat}{w0 w w':jJ}{vr v:jP}{z n:Nat}{A:Nat->Prop}(h:BK s (decide (K<=0)) (decide (M<=0))=.ok (false,z,n))(hw0:jS B w0 w)(hs:rE w' B bo bw vr [])(hb:nO w' bw #[ny (txt ⟨(s.drop z).take n,false⟩),nA false,v] IT)(C:nV w' A v [])(E:∀c,A c->¬OU B bo bw vr c)(I:jS B w w'):
  vW s K M (vU K s M) B bo bw w0 w' (z+n) 1 vr []:=by
 obtain⟨J,U,N,O,Q,V⟩:=BS h;refine⟨hs,hw0.trans I,N,nR,nR,Q,?_⟩;obtain⟨k,rfl⟩:∃k,K=k+1:=⟨K - 1,nK⟩;obtain⟨m,rfl⟩:∃m,M=m+1:=⟨M - 1,nK⟩;exact⟨nL.node ⟨(s.drop z).take n,false⟩ [],v,A,Nw J O,hb,C,E⟩
theorem vW.BR{s:List UInt8}{K M B bo bw:Nat}{w0 w w':jJ}{vr v':jP}{z n:Nat}(h:BK s (decide (K<=0)) (decide (M<=0))=.ok (true,z,n))(hw0:jS B w0 w)(hs:rE w' B bo bw vr [⟨v',[],z+n⟩])(hb:nO w' bw qR IT)(C:jS B w w'):vW s K M (vU K s M) B bo bw w0 w' z 1 vr [⟨v',[],z+n⟩]:=by
 obtain⟨E,N,I,J,A,O⟩:=BS h;refine⟨hs,hw0.trans C,I,nQ,nR,⟨by show z<=z+n;omega,A⟩,hb,?_⟩;obtain⟨k,rfl⟩:∃k,K=k+1:=⟨K - 1,nK⟩;obtain⟨m,rfl⟩:∃m,M=m+1:=⟨M - 1,nK⟩;exact Go.Proofs.YtamfcjmhnndbdaaGreatDoor.BR J E A
def ND(R:RdR)(w:jJ)(e:Ending)(w':jJ):Prop:=match R with
 | .error er=>e=nE (nD #[nC qR,ng nH 0,ng nH (er:Nat)])/\jS w.heap.size w w'
 | .ok y=>∃v,e=nE (nD #[nC #[ny (txt y.1.lab),nA y.1.lab.list,v],ng nH (y.2.1:Nat),ng nH 0])/\nV w' (λc=>w.heap.size<=c) v y.1.sub/\jS w.heap.size w w'
def Opn(p:Nat):List Fr->Prop
 |[]=>True
 |x::_=>p<x.e
def XU:jP->Nat
 | nA true=>1
 |_=>0
def Ed(w:jJ)(b:Nat):Nat:=match w.cell? ⟨b,0,none⟩with
 |some (nk _ n _)=>n
 |_=>0
theorem Sk{l:List UInt8}{er:Nat}(h:hd l=.error er):er=2\/er=3:=by
 have A:∀(L:Bool)(z n:Nat),hd2 l L z n=.error er->er=2\/er=3:=by
  intro L z n h;unfold hd2 at h;split at h;.cases h;exact .inl rfl
  split at h;.cases h;exact .inr rfl
  .cases h
 cases l with
 |nil=>simp only[hd]at h;cases h;exact .inl rfl
 |cons b r=>
  simp only[hd]at h;generalize (if 192<=b.toNat then(192:Nat)else 128)=by' at h;split at h;.cases h
  split at h;.exact A _ _ _ h
  split at h;.cases h;exact .inl rfl
  split at h;.cases h;exact .inr rfl
  .exact A _ _ _ h
theorem NF{l:List UInt8}{a b:Bool}{er:Nat}(h:BK l a b=.error er):2<=er/\er<=6:=by
 unfold BK at h;split at h;.cases h;decide
 split at h;.cases h;decide
 split at h;.cases h;decide
 .have:=Sk h;omega
theorem NG{l:List UInt8}{z n:Nat}(h:hd l=.ok (true,z,n)):0<z:=by
 obtain⟨_,_,_,C⟩:=Ky h;rcases C with⟨A,_⟩|⟨_,_,A⟩
 .cases A
 .exact A
theorem KQ{s:ByteArray}{l:List UInt8}(h:s.data.toList=l)(p e:Nat):(s.extract p e).data.toList=zt l p e:=by
 subst h;simp only[ByteArray.data_extract,Array.toList_extract,List.extract,zt]
theorem rE.fut{w w':jJ}{B bo bw:Nat}{vr:jP}{st:List Fr}(h:rE w B bo bw vr st)(hb:jS w.heap.size w w'):rE w' B bo bw vr st:=
 ⟨Below.blk hb h.ho h.ho.lt,h.row.below hb,h.nbo,h.nbw,h.Iu.below hb,h.Iw,h.hbw,h.ne,kG h.lt hb.size⟩
theorem vW.fut{s:List UInt8}{K M:Nat}{R:RdR}{B bo bw:Nat}{w0 w w':jJ}{p c:Nat}{vr:jP}{st:List Fr}(h:vW s K M R B bo bw w0 w p c vr st)(hb:jS w.heap.size w w'):vW s K M R B bo bw w0 w' p c vr st:=by
 have hlt:=h.Bh.lt;refine⟨h.Bh.fut hb,h.below.trans (hb.mono (by have:=h.Bh.hbw;omega)),h.hc,h.len,h.Ls,h.ends,?_⟩;cases st with
 |nil=>
  obtain⟨x,v,A,C,E,I,J⟩:=h.res;exact⟨x,v,A,C,Below.blk hb E hlt,Shape.nX.below I hb,J⟩
 |cons x xs=>exact⟨Below.blk hb h.res.1 hlt,h.res.2⟩
theorem tL{A:Type}{f:A->List jP}{k:Nat}{P:mK}{st t:ko}(T:wY P st t k)(hk:∀y,(f y).length=k){ops:Array lX}{rest:List lX}{o:lX}{a:Act}{Q:Exit->Act->jJ->Prop}(E:o.guard=none)(s x:Operand)(ho:o.op=.call {callee:=.builtin .append,args:=#[s,x],argTypes:=#[st,st]}){w:jJ}{B b c:Nat}{v:jP}{L:List A}{y:A}{cs:Array jP}{J:ko}(hs:a.eval s=v)(C:pK f k w B t v L)(N:a.eval x=nk (some ⟨b,0,none⟩) 1 c)(hb:nO w b cs J)(I:cs.toList=f y)(O:∀u∈f y,u.oneCell'=true)(hlen:L.length<=1000000)(hB:B<=w.heap.size)(h:∀g cap w',pK f k w' B t (nk (some ⟨g,0,none⟩) (L.length+1) cap) (L++[y])->w.grownBy w' v.ownBlock->(v.ownBlock=some g\/g=w.heap.size)->g<w'.heap.size->wpList P ops Q rest (a.put o.dst (nk (some ⟨g,0,none⟩) (L.length+1) cap)) w'):
  wpList P ops Q (o::rest) a w:=by
 refine wpList_plain E λK U=> ?_
 obtain⟨g,cap,w',V,Y,Z,aa,ae,_⟩:=Da (ty:=o.type) T hk C hb I O hlen hB;unfold Oper.wp execOp;simp only[ho,resolve,invoke,builtin,Sem.run_bind,Sem.run_pure,Result.andThen_ok,List.map_toArray,mH,List.map_nil,hs,N];rw[V];exact U _ _ (h g cap w' Y Z aa ae)
theorem NH{w w1 w2:jJ}{B bo bw:Nat}{vr:jP}{st:List Fr}(h:rE w B bo bw vr st)(E:jS w.heap.size w w1)(hg:w1.grownBy w2 vr.ownBlock):w2.cell? ⟨bo,0,none⟩=some vr/\w2.frozen? ⟨bo,0,none⟩=false:=by
 have A:=Below.blk E h.ho h.ho.lt;have C:nO w2 bo #[vr] OT:=by
  unfold nO;rw[hg.block bo A.lt λe=>h.nbo e.symm];exact A
 exact⟨C.cell 0,C.free 0⟩
theorem Sl{g:Nat}{wa w:jJ}(h:nO wa g qR IT)(hb:jS (g+1) wa w):(w.cell? ⟨g,0,none⟩=some (ny ⟨#[]⟩)/\w.cell? ⟨g,1,none⟩=some (nA false)/\w.cell? ⟨g,2,none⟩=some (nk none 0 0))/\
  (w.frozen? ⟨g,0,none⟩=false/\w.frozen? ⟨g,1,none⟩=false/\w.frozen? ⟨g,2,none⟩=false)/\nO w g qR IT:=by
 have:=Below.blk hb h (lM g);exact⟨⟨this.cell 0,this.cell 1,this.cell 2⟩,⟨this.free 0,this.free 1,this.free 2⟩,this⟩
theorem JA{g:Nat}{w0 wa w:jJ}{a b c:jP}(h0:jS g w0 wa)(E:g<wa.heap.size)(hb:jS (g+1) wa w)(A:nO w g qR IT):nO (wD w g 0 a b c) g #[a,b,c] IT/\jS g w0 (wD w g 0 a b c):=by
 refine⟨?_,?_⟩
 .have:=((A.set 0 a).set 1 b).set 2 c
  exact this
 .have C:jS g w0 w:=h0.trans (hb.mono nK)
  exact pE.below (Nu w g 0 a b c) C (jL _) (by have:=hb.size;omega)
structure a6a(l:List UInt8)(g:Nat)(w wa W:jJ):Prop where
 Bh:rE W (g+1) (g+1) (g+2) (nk none 0 0) []
 whole:nO W (g+2) qR IT
 res:nO wa g qR IT
 ba:jS g w wa
 bw:jS (g+1) wa W
 o0:W.cell? ⟨g+1,0,none⟩=some (nk none 0 0)
theorem a6b{l:List UInt8}{g:Nat}{w wa A W:jJ}(hg:w.heap.size=g)(E:w.alloc (nG #[ny ⟨#[]⟩,nA false,nk none 0 0] IT)=wa)(hb:wa.alloc (nG #[nk none 0 0] OT)=A)(hc:A.alloc (nG #[ny ⟨#[]⟩,nA false,nk none 0 0] IT)=W):a6a l g w wa W:=by
 have I:wa.heap.size=g+1:=by rw[<-E];simp;omega
 have J:A.heap.size=g+2:=by rw[<-hb];simp;omega
 have V:W.heap.size=g+3:=by rw[<-hc];simp;omega
 have b1:jS g w wa:=by rw[<-E,<-hg];exact(jT _ w).alloc (jL _) _
 have N:jS (g+1) wa A:=by rw[<-hb,<-I];exact(jT _ wa).alloc (jL _) _
 have b3:jS (g+2) A W:=by rw[<-hc,<-J];exact(jT _ A).alloc (jL _) _
 have O:nO wa g qR IT:=by have:=nO.new w #[ny ⟨#[]⟩,nA false,nk none 0 0] IT;rw[E,hg]at this;exact this
 have Q:nO A (g+1) #[nk none 0 0] OT:=by have:=nO.new wa #[nk none 0 0] OT;rw[hb,I]at this;exact this
 have U:nO W (g+2) qR IT:=by have:=nO.new A #[ny ⟨#[]⟩,nA false,nk none 0 0] IT;rw[hc,J]at this;exact this
 have C:nO W (g+1) #[nk none 0 0] OT:=Below.blk b3 Q nK;exact⟨⟨C,pK.nil _ _ _,by simp[kJ],by simp[kJ],trivial,nK,nK,nK,nK⟩,U,O,b1,N.trans (b3.mono nK),C.cell 0⟩
theorem KR{w:jJ}{B bo bw:Nat}{vr:jP}{st:List Fr}(h:rE w B bo bw vr st):Ed w bo=st.length:=by
 obtain⟨oa,cap,A⟩:=h.row.slice;have:=h.ho.cell 0;rw[A]at this;unfold Ed;rw[this];simp
section
variable {l:List UInt8}{K M:Nat}{R:RdR}{g:Nat}{wa w:jJ}{p c:Nat}{vr:jP}
theorem yw{xs:List Fr}{N:Nat}(h:vW l K M R (g+1) (g+1) (g+2) wa w p c vr (x::xs))(I:xs.length=N):∃go C,vr=nk (some ⟨go,0,none⟩) (N+1) C/\
  w.cell? ⟨go,N*2,none⟩=some x.v/\w.cell? ⟨go,N*2+1,none⟩=some (ng nH (x.e:Nat))/\w.cell? ⟨g+1,0,none⟩=some (nk (some ⟨go,0,none⟩) (N+1) C)/\w.frozen? ⟨g+1,0,none⟩=false/\N+1<=C/\N+1<=K:=by
 obtain⟨oa,C,E⟩:=h.Bh.row.slice;have O:(x::xs).reverse.length=N+1:=by simp[I]
 rw[O]at E;subst E;obtain⟨go,rfl,_,_,_,J,A,_⟩:=pK.at_ h.Bh.row Av (i:=N) (y:=x) (by simp[<-I]);have:=h.len;rw[kD,I]at this;exact⟨go,C,rfl,A 0 nN,A 1 nN,h.Bh.ho.cell 0,h.Bh.ho.free 0,J,this⟩
theorem a1d{xs:List Fr}{A:Nat}(h:vW l K M R (g+1) (g+1) (g+2) wa w p c vr (x::xs))(I:x.L.length=A):∃ov cv,x.v=nk ov A cv/\A<=cv/\A<=c:=by
 obtain⟨Q,_,J,_⟩:=h.Bh.Iu;obtain⟨ov,cv,C,E,_⟩:=nV.slice J.subs;rw[List.length_map,I]at C E;have:=h.Ls;simp at this;exact⟨ov,cv,C,E,nK⟩
theorem Sm{xs:List Fr}(h:vW l K M R (g+1) (g+1) (g+2) wa w p c vr (x::xs))(he:¬x.e=p):Opn p (x::xs):=by
 have:=h.ends.1;show p<x.e;omega
theorem IV{go C A cv:Nat}{ov:Option l5}(h:vW l K M R (g+1) (g+1) (g+2) wa w p c (nk (some ⟨go,0,none⟩) (0+1) C) [x])(he:x.e=p)(U:x.v=nk ov A cv)(af:x.L.length=A):
  jV jI 241 #[nC #[ny ⟨#[]⟩,nA true,nk ov A A],nz (some ⟨g+1,0,none⟩),nz (some ⟨g+2,0,none⟩)] (w.setCell ⟨g+1,0,none⟩ (nk (some ⟨go,0,none⟩) 0 C))
   λe w'=>e=nE (nD #[])/\vW l K M R (g+1) (g+1) (g+2) wa w' p c (nk (some ⟨go,0,none⟩) 0 C) []:=by
 obtain⟨Q,V,I,J,_,hb,E⟩:=Sj h.Bh rfl;rw[U]at I;have hs:=I.subs;have N:g+2≠g+1:=nK;have hbw:nO (w.setCell ⟨g+1,0,none⟩ (nk (some ⟨go,0,none⟩) 0 C)) (g+2) qR IT:=by
  unfold nO;rw[E _ N];exact h.res.1
 have:=zW (w.setCell ⟨g+1,0,none⟩ (nk (some ⟨go,0,none⟩) 0 C)) (g+1) (g+1) (g+2) _ ⟨⟨[],true⟩,nk ov A A,x.L.map qh.tree⟩ Q _ _ _ V hbw (NC hs) J;refine this.mono λe w' ⟨O,Y,Z,aa,ae⟩=>⟨O,vW.whole h he Y Z aa J (hb.trans ae)⟩
theorem NI{C:Fr}{xs:List Fr}{go E A cv N:Nat}{ov:Option l5}(h:vW l K M R (g+1) (g+1) (g+2) wa w p c (nk (some ⟨go,0,none⟩) (N+1+1) E) (x::C::xs))(he:x.e=p)(Z:x.v=nk ov A cv)(ak:x.L.length=A)(J:(C::xs).length=N+1)(au:K<=16)(aj:M<=1024):
  jV jI 241 #[nC #[ny ⟨#[]⟩,nA true,nk ov A A],nz (some ⟨g+1,0,none⟩),nz (some ⟨g+2,0,none⟩)] (w.setCell ⟨g+1,0,none⟩ (nk (some ⟨go,0,none⟩) (N+1) E))
   λe w'=>e=nE (nD #[])/\∃v',vW l K M R (g+1) (g+1) (g+2) wa w' p c (nk (some ⟨go,0,none⟩) (N+1) E) (⟨v',C.L++[⟨⟨[],true⟩,nk ov A A,x.L.map qh.tree⟩],C.e⟩::xs):=by
 obtain⟨Q,aa,O,ae,af,hb,I⟩:=Sj h.Bh J;rw[Z]at O;have hs:=O.subs;have U:g+2≠g+1:=nK;have hbw:nO (w.setCell ⟨g+1,0,none⟩ (nk (some ⟨go,0,none⟩) (N+1) E)) (g+2) qR IT:=by
  unfold nO;rw[I _ U];exact h.res.1
 have hlen:=h.len;have V:=h.Ls;have hc:=h.hc;simp at hlen V J;have:=Dc C xs (w.setCell ⟨g+1,0,none⟩ (nk (some ⟨go,0,none⟩) (N+1) E)) (g+1) (g+1) (g+2) _ ⟨⟨[],true⟩,nk ov A A,x.L.map qh.tree⟩ Q _ aa nK nK hbw (NC hs) ae af (kI _);refine this.mono λe w' ⟨Y,v',ag,ah,ai⟩=>⟨Y,v',vW.close h he rfl ag ah (hb.trans ai)⟩
theorem Sn{s:ByteArray}(hl:s.data.toList=l)(p n:Nat):txt ⟨(l.drop p).take n,false⟩=s.extract p (p+n):=Uw (by
 rw[KQ hl];show(l.drop p).take n=(l.drop p).take (p+n - p);rw[show p+n - p=n by omega])
theorem KS{s:ByteArray}{z n:Nat}(hl:s.data.toList=l)(E:vU K l M=R)(I:BK l (decide (K<=0)) (decide (M<=0))=.ok (false,z,n))(hs:rE w (g+1) (g+1) (g+2) vr [])(hb:nO w (g+2) qR IT)(J:jS (g+1) wa w):
  jV jI 241 #[nC #[ny (s.extract z (z+n)),nA false,nk none 0 0],nz (some ⟨g+1,0,none⟩),nz (some ⟨g+2,0,none⟩)] w
   λe w'=>e=nE (nD #[])/\vW l K M R (g+1) (g+1) (g+2) wa w' (z+n) 1 vr []:=by
 have:=zW w (g+1) (g+1) (g+2) vr ⟨⟨(l.drop z).take n,false⟩,nk none 0 0,[]⟩ (λ_=>False) _ _ _ hs hb ⟨none,0,rfl,jL _,kI _,λh=>absurd h nR⟩ (λ_ h=>h.elim);rw[Sn hl]at this;refine this.mono λe w' ⟨A,N,C,O,Q⟩=>⟨A,?_⟩
 rw[<-E];rw[<-Sn hl]at C;exact vW.Qi I J N C O (λ_ h=>h.elim) Q
theorem a3N{s:ByteArray}{xs:List Fr}{z n:Nat}(hl:s.data.toList=l)(hs:s.size<=100000)(h:vW l K M R (g+1) (g+1) (g+2) wa w p c vr (x::xs))(hp:p<x.e)(U:K<=16)(V:M<=1024)(I:BK (zt l p x.e) (decide (K<=(x::xs).length)) (decide (M<=c))=.ok (false,z,n)):
  jV jI 241 #[nC #[ny (s.extract (p+z) (p+z+n)),nA false,nk none 0 0],nz (some ⟨g+1,0,none⟩),nz (some ⟨g+2,0,none⟩)] w
   λe w'=>e=nE (nD #[])/\∃A,A.e=x.e/\vW l K M R (g+1) (g+1) (g+2) wa w' (p+z+n) (c+1) vr (A::xs):=by
 have hlen:=h.len;have C:=h.Ls;have hc:=h.hc;simp at hlen C;have ht:txt ⟨zt l (p+z) (p+z+n),false⟩=s.extract (p+z) (p+z+n):=Uw (KQ hl _ _).symm;have Q:l.length=s.size:=by rw[<-hl];simp
 have:=Dc x xs w (g+1) (g+1) (g+2) vr ⟨⟨zt l (p+z) (p+z+n),false⟩,nk none 0 0,[]⟩ (λ_=>False) _ h.Bh nK nK h.res.1 ⟨none,0,rfl,jL _,kI _,λh=>absurd h nR⟩ (λ_ h=>h.elim)
  (h.Bh.Iu.keep (jL _) (λ_ _ _=>rfl) λc _ hc=>hc.elim id False.elim) (by
   show(zt l (p+z) (p+z+n)).length<=j5;unfold zt j5;simp;omega)
 rw[ht]at this;exact this.mono λe w' ⟨E,v',J,N,O⟩=>⟨E,⟨v',_,x.e⟩,rfl,vW.text h hp I rfl J N O⟩
theorem a3O{f:Fr}{xs:List Fr}{w1 w2:jJ}{z n A cap N:Nat}(h:vW l K M R (g+1) (g+1) (g+2) wa w p c vr (x::xs))(hp:p<x.e)(E:xs.length=N)(I:BK (zt l p x.e) (decide (K<=(x::xs).length)) (decide (M<=c))=.ok (true,z,n))(J:jS w.heap.size w w1)(O:f=⟨nk none 0 0,[],p+z+n⟩)(hrow:pK rf2 2 w2 (g+1) RT (nk (some ⟨A,0,none⟩) ((x::xs).reverse.length+1) cap) ((x::xs).reverse++[f]))(hg:w1.grownBy w2 vr.ownBlock)(C:vr.ownBlock=some A\/A=w1.heap.size):
  vW l K M R (g+1) (g+1) (g+2) wa (w2.setCell ⟨g+1,0,none⟩ (nk (some ⟨A,0,none⟩) (N+1+1) cap)) (p+z) (c+1) (nk (some ⟨A,0,none⟩) (N+1+1) cap) (f::x::xs):=by
 subst O E;rw[List.length_reverse]at hrow;obtain⟨Q,U,V⟩:=NA h.Bh J ⟨rfl,rfl⟩ hrow hg C;exact vW.list h hp I Q ((V _ h.Bh.lt nK h.Bh.nbw).trans h.res.1) U
end
theorem GX(a:IL)(s:List (nL IL)):enc (.node a s)=if a.list then hdr 192 (q8 s).length++q8 s else if single a.text then a.text else hdr 128 a.text.length++a.text:=by simp only[enc]
theorem NJ{t:List UInt8}(h:t.length≠1):single t=false:=by
 cases t with
 |nil=>rfl
 |cons b r=>cases r with
  |nil=>simp at h
  |cons c r=>rfl
theorem Qj{a:IL}(h:(txt a).size=1):single a.text=decide ((txt a)[0].toNat<128):=by
 have A:a.text.length=1:=by rw[<-sH];exact h
 obtain⟨t,li⟩:=a
 match t,A with
 |[b],_=>rfl
theorem tZ.a6c{w w1:jJ}{Q I:Nat->Prop}{v:jP}{L:List (qh IL)}{x:qh IL}{g cap:Nat}(h:tZ w Q v L)(hrow:pK OQ 3 w1 0 IT (nk (some ⟨g,0,none⟩) (L.length+1) cap) (L++[x]))(hg:w.grownBy w1 v.ownBlock)(C:v.ownBlock=some g\/w.heap.size<=g)(O:nV w I x.u x.sub)(hxv:∀c,I c->v.ownBlock≠some c)(N:x.lab.text.length<=j5):
  tZ w1 (λc=>Q c\/I c\/c=g) (nk (some ⟨g,0,none⟩) (L.length+1) cap) (L++[x]):=by
 have hgn:∀c,c<w.heap.size->v.ownBlock≠some c->c≠g:=λc hc J e=>by
  rcases C with C|C
  .exact J (by rw[C,e])
  .omega
 have E:∀c,c<w.heap.size->v.ownBlock≠some c->w1.heap[c]? =w.heap[c]? :=λc hc J=>hg.block c hc (λe=>J e.symm)
 refine⟨hrow,λb hb=> ?_,λy A=> ?_⟩
 .simp[kJ]at hb
  exact .inr (.inr hb.symm)
 .rcases List.mem_append.1 A with A|A
  .refine⟨(h.2.2 y A).1,Shape.nX.keep (h.2.2 y A).2 hg.size (λc hc hq=>⟨.inl hq.1,?_⟩) λc hc hq=>E c hc hq.2⟩
   intro e;simp[kJ]at e;exact hgn c hc hq.2 e.symm
  .simp at A
   subst A;refine⟨N,Shape.nX.keep O hg.size (λc hc hq=>⟨.inr (.inl hq),?_⟩) λc hc hq=>E c hc (hxv c hq)⟩;exact KM
theorem XV{k:Nat}(h:∀l m er,vU k l m=.error er->2<=er):∀(f:Nat)(l:List UInt8)(m:Nat)(sub:List (nL IL))(er:Nat),l.length<f->Jm (vU k) f l m sub=.error er->2<=er:=by
 intro f;induction f with
 |zero=>intro l m sub er h;omega
 |succ f A=>
  intro l m sub er hl he;simp only[Jm]at he;split at he;.cases he
  .split at he
   .rename_i I C
    have:=h _ _ _ C;cases he;split<;>omega
   .rename_i y E
    obtain⟨J,N⟩:=Fs E;exact A _ _ _ _ nQ he
theorem GY:∀(k:Nat)(l:List UInt8)(m er:Nat),vU k l m=.error er->2<=er:=by
 intro k;induction k with
 |zero=>intro l m er h;simp only[vU]at h;split at h<;>cases h<;>decide
 |succ k A=>
  intro l m er h;simp only[vU]at h;split at h;.cases h;decide
  split at h;.cases h;decide
  split at h
  .rename_i C he
   cases h;have:=Sk he;omega
  .rename_i q E
   split at h
   .split at h
    .rename_i C he
     cases h;refine XV A _ _ _ _ _ ?_ he;simp;omega
    .cases h
   .cases h
section
variable {g:Nat}{w0 w:jJ}{l0:List UInt8}{k m:Nat}{tot:Int}{I:List UInt8}{v:jP}{L:List (qh IL)}{cnt:Nat}
end
def UR(cb lb:Nat):Nat->Prop:=λc=>c≠cb/\c≠lb
def NK(cb lb fb:Nat)(y:RdV)(w:jJ)(e:Ending)(w':jJ):Prop:=
 ∃ov cv,e=nE (nC #[ny (txt y.1.lab),nA y.1.lab.list,nk ov y.1.sub.length cv])/\Bf cb lb fb y.2.1 y.2.2 w'/\nV w' (λc=>w.heap.size<=c) (nk ov y.1.sub.length cv) y.1.sub/\oN cb lb w w'
def a2w(cb lb fb:Nat)(y:List (nL IL)×RS×Nat)(w:jJ)(e:Ending)(w':jJ):Prop:=
 ∃ov cv,e=nE (nC #[ny ⟨#[]⟩,nA true,nk ov y.1.length cv])/\Bf cb lb fb y.2.1 y.2.2 w'/\nV w' (λc=>w.heap.size<=c) (nk ov y.1.length cv) y.1/\oN cb lb w w'
structure L7(g cb lb fb kb wk:Nat)(r r2:RS)(l l2:Nat)(k z:Int)(ou:Option l5)(nu cu:Nat)(tl:Int)(ts:List (nL TL))(xo:Option l5)(xc:Nat)(L:List (qh IL))(x:nL IL)(w0:jJ)(d4 d5 d6 d8:Bool)(v4 v5 v6:jP)(W:jJ):Prop where
 ly:Bf cb lb fb (if d4=true then r2 else r) (if d4=true then l2 else l) W
 rb:nO W g (EJ cb lb fb) EZ
 rs:nO W (g+1) #[ny ⟨#[]⟩,nA false,nk none 0 0] IT
 xb:nO W (g+2) #[ny ⟨#[]⟩,nA true,(if d8=true then v6 else nk xo L.length xc)] IT
 tb:d4=false->nO W kb #[ng nH k,ng nH z,nk ou nu cu,ng nH tl] rW/\wk<=W.heap.size/\oh.nX W (UR cb lb) (nk ou nu cu) ts
 own:d6=false->tZ W (λc=>g+3<=c) (nk xo L.length xc) L/\∀b,(kM xo L.length xc).ownBlock=some b->b<wk
 sub:d4=true->d6=false->∃ov cv,v4=nC #[ny (txt x.lab),nA x.lab.list,nk ov x.sub.length cv]/\nV W (λc=>wk<=c) (nk ov x.sub.length cv) x.sub/\(d5=true->∃nb,v5=nk (some ⟨nb,0,none⟩) 1 1/\nO W nb #[ny (txt x.lab),nA x.lab.list,nk ov x.sub.length cv] IT)
 fin:d6=true->∃e:qh IL,e.lab=x.lab/\e.sub=x.sub/\∃go gc,v6=nk (some ⟨go,0,none⟩) (L.length+1) gc/\tZ W (λc=>g+3<=c) v6 (L++[e])
 up:oN cb lb w0 W
 lt:cb<g/\lb<g/\fb<g/\g+3<=wk/\L.length<=100000/\x.lab.text.length<=j5/\w0.heap.size=g/\0<g
section
variable {g cb lb fb kb wk:Nat}{r r2:RS}{l l2:Nat}{k z:Int}{ou:Option l5}{nu cu:Nat}{tl:Int}{ts:List (nL TL)}{xo:Option l5}{xc:Nat}{L:List (qh IL)}{x:nL IL}{w0:jJ}{d4 d5 d6 d8:Bool}{v4 v5 v6:jP}{W W':jJ}
theorem L7.call{ov:Option l5}{cv:Nat}(h:L7 g cb lb fb kb wk r r2 l l2 k z ou nu cu tl ts xo xc L x w0 false false false false v4 v5 v6 W)(hl:Bf cb lb fb r2 l2 W')(hs:nV W' (λc=>W.heap.size<=c) (.slice ov x.sub.length cv) x.sub)(A:oN cb lb W W'):
  L7 g cb lb fb kb wk r r2 l l2 k z ou nu cu tl ts xo xc L x w0 true false false false (nC #[ny (txt x.lab),nA x.lab.list,nk ov x.sub.length cv]) v5 v6 W':=by
 obtain⟨J,N,t3⟩:=h.tb rfl;obtain⟨E,I⟩:=h.own rfl;have O:=h.lt;refine⟨hl,A.blk h.rb nK nK,A.blk h.rs nK nK,A.blk h.xb nK nK,(λh=>by cases h),λ_=>⟨tZ.keep E A.size (λc hc C=>A.block c hc (by have:g+3<=c:=C;omega) (by have:g+3<=c:=C;omega)) λ_ _ h=>h,I⟩,λ_ _=>⟨ov,cv,rfl,Shape.nX.keep hs (jL _) (λc _ hc=>by have:W.heap.size<=c:=hc;show wk<=c;omega) λ_ _ _=>rfl,λh=>by cases h⟩,(λh=>by cases h),h.up.trans A,h.lt⟩
theorem L7.box(h:L7 g cb lb fb kb wk r r2 l l2 k z ou nu cu tl ts xo xc L x w0 true false false false v4 v5 v6 W){ov:Option l5}{cv:Nat}(A:v4=nC #[ny (txt x.lab),nA x.lab.list,nk ov x.sub.length cv]):
  L7 g cb lb fb kb wk r r2 l l2 k z ou nu cu tl ts xo xc L x w0 true true false false v4 (nk (some ⟨W.heap.size,0,none⟩) 1 1) v6 (W.alloc (nG #[ny (txt x.lab),nA x.lab.list,nk ov x.sub.length cv] IT)):=by
 have hb:=(jT W.heap.size W).alloc (jL _) (nG #[ny (txt x.lab),nA x.lab.list,nk ov x.sub.length cv] IT);obtain⟨C,E⟩:=h.own rfl;obtain⟨J,N,e1,I,_⟩:=h.sub rfl rfl;rw[A]at e1;cases e1;refine⟨h.ly.below hb,Below.blk hb h.rb h.rb.lt,Below.blk hb h.rs h.rs.lt,Below.blk hb h.xb h.xb.lt,(λh=>by cases h),λ_=>⟨tZ.keep C hb.size (λc hc O=>hb.block c hc) λ_ _ h=>h,E⟩,λ_ _=>⟨ov,cv,A,Shape.nX.below I hb,λ_=>⟨_,rfl,nO.new W _ _⟩⟩,(λh=>by cases h),h.up.trans (oN.of hb),h.lt⟩
theorem L7.app(h:L7 g cb lb fb kb wk r r2 l l2 k z ou nu cu tl ts xo xc L x w0 true true false false v4 v5 v6 W){ov:Option l5}{cv go gc:Nat}(N:v4=nC #[ny (txt x.lab),nA x.lab.list,nk ov x.sub.length cv])(O:pK OQ 3 W' 0 IT (nk (some ⟨go,0,none⟩) (L.length+1) gc) (L++[⟨x.lab,nk ov x.sub.length cv,x.sub⟩]))(C:W.grownBy W' (kM xo L.length xc).ownBlock)(E:(kM xo L.length xc).ownBlock=some go\/go=W.heap.size):
  L7 g cb lb fb kb wk r r2 l l2 k z ou nu cu tl ts xo xc L x w0 true true true false v4 v5 (nk (some ⟨go,0,none⟩) (L.length+1) gc) W':=by
 obtain⟨I,Q⟩:=h.own rfl;obtain⟨aa,ae,e1,U,_⟩:=h.sub rfl rfl;rw[N]at e1;cases e1;have ag:=h.lt;have J:∀c,c<g+3->(kM xo L.length xc).ownBlock≠some c:=λc hc e=>by have:=I.2.1 c e;have:g+3<=c:=this;omega
 have k:∀{c:Nat}{cs:Array jP}{t:ko},nO W c cs t->c<g+3->nO W' c cs t:=λhb hc=>o8 hb C λy V e=>J _ hc (by rw[V,e])
 have A:=h.ly;have af:oN cb lb W W'->xm W':=λu=>vP A.tab u A.ne.2.2.2.1 A.ne.2.2.2.2
 have hsz:g+3<=W.heap.size:=by have:=h.xb.lt;omega
 refine⟨⟨k A.rd nK,A.ok,k A.lf nK,k A.fr nK,?_,A.ne⟩,k h.rb nK,k h.rs nK,k h.xb nK,(λh=>by cases h),(λh=>by cases h),λ_ h=>(by cases h),λ_=>⟨⟨x.lab,nk ov x.sub.length cv,x.sub⟩,rfl,rfl,go,gc,rfl,?_⟩,?_,h.lt⟩
 .have ht:∀i,W'.cell? ⟨0,i,none⟩=W.cell? ⟨0,i,none⟩:=λi=>by
   have hb:=C.block 0 A.tab.lt (λe=>by
    have:=I.2.1 _ e.symm;have Y:g+3<=0:=this;exact absurd Y (by have:=h.lt.2.2.2.2.2.2.2;omega))
   simp only[mW,hb]
  exact⟨(ht 0).trans A.tab.a,(ht 1).trans A.tab.b,(ht 2).trans A.tab.c⟩
 .have q:=tZ.a6c (x:=⟨x.lab,nk ov x.sub.length cv,x.sub⟩) I O C (E.imp id λe=>by omega) U (λc hc e=>by have:=Q c e;have:wk<=c:=hc;omega) h.lt.2.2.2.2.2.1
  refine tZ.keep q (jL _) (λ_ _ _=>rfl) λc _ hc=> ?_
  rcases hc with hc|hc|hc
  .exact hc
  .have:wk<=c:=hc;show g+3<=c;omega
  .show g+3<=c
   rcases E with E|E
   .have:=I.2.1 go E;have:g+3<=go:=this;omega
   .omega
 .refine⟨C.os.trans h.up.os,C.tape.trans h.up.tape,C.output.trans h.up.output,kg h.up.size C.size,λc hc hb Z=>(C.block c (kG hc h.up.size) λe=>J c nK e.symm).trans (h.up.block c hc hb Z)⟩
theorem L7.put(h:L7 g cb lb fb kb wk r r2 l l2 k z ou nu cu tl ts xo xc L x w0 true true true false v4 v5 v6 W):L7 g cb lb fb kb wk r r2 l l2 k z ou nu cu tl ts xo xc L x w0 true true true true v4 v5 v6 (W.setCell ⟨g+2,2,none⟩ v6):=by
 have E:=h.lt;have o:∀{c:Nat}{cs:Array jP}{t:ko},nO W c cs t->c≠g+2->nO (W.setCell ⟨g+2,2,none⟩ v6) c cs t:=λh hn=>h.setOther (a:=⟨g+2,2,none⟩) hn _
 have A:=h.ly;obtain⟨e,e1,e2,go,gc,e3,e4⟩:=h.fin rfl;have ht:0<g:=h.lt.2.2.2.2.2.2.2;have I:oN cb lb W W->True:=λ_=>trivial
 refine⟨⟨o A.rd nK,A.ok,o A.lf nK,o A.fr nK,?_,A.ne⟩,o h.rb nK,o h.rs nK,h.xb.set 2 v6,(λh=>by cases h),(λh=>by cases h),λ_ h=>(by cases h),λ_=>⟨e,e1,e2,go,gc,e3,tZ.keep e4 (by simp[kC]) (λc hc C=> ?_) λ_ _ h=>h⟩,?_,h.lt⟩
 .have key:∀i,(W.setCell ⟨g+2,2,none⟩ v6).cell? ⟨0,i,none⟩=W.cell? ⟨0,i,none⟩:=λi=>by
   have hb:=j6 W ⟨g+2,2,none⟩ v6 0 (by show 0≠g+2;omega);simp only[mW,hb]
  exact⟨(key 0).trans A.tab.a,(key 1).trans A.tab.b,(key 2).trans A.tab.c⟩
 .have:g+3<=c:=C
  exact j6 W ⟨g+2,2,none⟩ v6 c (by show c≠g+2;omega)
 .exact⟨h.up.os,h.up.tape,h.up.output,by simpa [kC]using h.up.size,λc hc hb C=>(j6 W ⟨g+2,2,none⟩ v6 c (by show c≠g+2;omega)).trans (h.up.block c hc hb C)⟩
theorem L7.drew(h:L7 g cb lb fb kb wk r r2 l l2 k z ou nu cu tl ts xo xc L x w0 false false false false v4 v5 v6 W)(A C E:jP):L7 g cb lb fb kb wk r r2 l l2 k z ou nu cu tl ts xo xc L x w0 false false false false A C E W.drew:=
 ⟨h.ly.below (oz W),h.rb,h.rs,h.xb,λ_=>⟨(h.tb rfl).1,(h.tb rfl).2.1,Shape.nX.below (h.tb rfl).2.2 (oz W)⟩,λ_=>⟨tZ.keep (h.own rfl).1 (jL _) (λ_ _ _=>rfl) λ_ _ h=>h,(h.own rfl).2⟩,(λh=>by cases h),(λh=>by cases h),h.up.drew,h.lt⟩
end
noncomputable def KU:List lX:=cO (cR (cR (cR (cL (cL (cR (cR (cL (cL (cR (cL (cR (cR (cB Tryz.f249))))))))))))))
section
variable (g cb lb fb kb wk:Nat)(r r2:RS)(l l2:Nat)(k z:Int)(ou:Option l5)(nu cu:Nat)(tl:Int)(ts:List (nL TL))(xo:Option l5)(xc:Nat)(L:List (qh IL))(x:nL IL)(w0:jJ)
def GZ:Nat->jP
 |0=> nz (some ⟨g+2,2,none⟩)
 |1=> nk xo L.length xc
 |2=> nC #[Bd cb,C9 cb,Dz cb,Cc cb,Be fb,nz (some ⟨lb,0,none⟩)]
 |3=> nC #[ng nH k,ng nH z,nk ou nu cu,ng nH tl]
 |7=> nz (some ⟨g+2,2,none⟩)
 |_=>kH
structure a8D(D:Nat->Bool)(vs:Nat->jP)(w:jJ):Prop where
 oJ:L7 g cb lb fb kb wk r r2 l l2 k z ou nu cu tl ts xo xc L x w0 (D 4) (D 5) (D 6) (D 8) (vs 4) (vs 5) (vs 6) w
 val:∀j,(j !=4&&j !=5&&j !=6)=true->D j=true->vs j=GZ g cb lb fb k z ou nu cu tl xo xc L j
variable {g cb lb fb kb wk r r2 l l2 k z ou nu cu tl ts xo xc L x w0}
theorem a3P{id:Nat}{Q:Exit->Act->jJ->Prop}{a0:Act}{Z:jJ}(EK:a0.tmps.getD 7 kH=nz (some ⟨g+2,0,none⟩))(ht3:a0.tmps.getD 3 kH=nz (some ⟨g,0,none⟩))(JB:a0.tmps.getD 9 kH=nz (some ⟨kb,0,none⟩))(hval:∀W,Bf cb lb fb r l W->oN cb lb w0 W->oh.nX W (UR cb lb) (nk ou nu cu) ts->jV jI 211 #[nC #[Bd cb,C9 cb,Dz cb,Cc cb,Be fb,nz (some ⟨lb,0,none⟩)],nC #[ng nH k,ng nH z,nk ou nu cu,ng nH tl]] W (NK cb lb fb (x,r2,l2) W))(hsz:a0.tmps.size=40)(hI0:∀vs:Nat->jP,(λw=>L7 g cb lb fb kb wk r r2 l l2 k z ou nu cu tl ts xo xc L x w0 false false false false (vs 4) (vs 5) (vs 6) w) Z.drew)(aa:∀(vs:Nat->jP) (w:jJ),L7 g cb lb fb kb wk r r2 l l2 k z ou nu cu tl ts xo xc L x w0 true true true true (vs 4) (vs 5) (vs 6) w->Q .normal {a0 with tmps:=((((((((a0.tmps.setIfInBounds 30 (nz (some ⟨g+2,2,none⟩))).setIfInBounds 31 (nk xo L.length xc)).setIfInBounds 32 (nC #[Bd cb,C9 cb,Dz cb,Cc cb,Be fb,nz (some ⟨lb,0,none⟩)])).setIfInBounds 33 (nC #[ng nH k,ng nH z,nk ou nu cu,ng nH tl])).setIfInBounds 34 (vs 4)).setIfInBounds 35 (vs 5)).setIfInBounds 36 (vs 6)).setIfInBounds 37 (nz (some ⟨g+2,2,none⟩)))} w):
  (lg id KU.toArray true).wp jI Q a0 Z:=by
 refine og 9 40 (a8D g cb lb fb kb wk r r2 l l2 k z ou nu cu tl ts xo xc L x w0) nM hsz nM (.inl rfl) nM ?_ ?_ ?_;.exact qF
 .refine rV λA au=> ?_
  clear hI0 aa hsz;replace EK:=jH EK;replace ht3:=jH ht3;replace JB:=jH JB;replace hval:=jH hval;dsimp+instances only[KU,cO,cL,cR,cB,Tryz.f249];simp only[ky,kQ,rz];refine⟨?_,?_,?_,?_,?_,?_,?_,?_,?_,trivial⟩<;>(intro D vs a w K hI hd E hw2 I J;subst au;dsimp+instances only[KU,cO,cL,cR,cB,Tryz.f249]);have av:=(I 7 nN).trans EK.out;rotate_left;have ae:=fe I hI.val E 30 0;simp only[GZ]at ae;have C:=hI.oJ;rw[hw2 8 nN nM]at C;have c0:=C.xb.cell 2;simp only[lF,if_false,jO,jN,jM]at c0;clear C;rotate_left;have e3:=(I 3 nN).trans ht3.out;have hB:=hI.oJ.rb;have c0:=hB.cell 0;have c1:=hB.cell 1;have c2:=hB.cell 2;have c3:=hB.cell 3;have c4:=hB.cell 4;have c5:=hB.cell 5;simp only[EJ,jO,jN,jM]at c0 c1 c2 c3 c4 c5;clear hB;rotate_left;have aF:=(I 9 nN).trans JB.out;have hB:=(hI.oJ.tb (hw2 4 nN nM)).1;obtain⟨⟨c0,c1,c2,c3⟩,_⟩:=oF hB;clear hB;rotate_left
  .have hval:=hval.out
   have af:=fe I hI.val E 32 2;have ag:=fe I hI.val E 33 3;simp only[GZ]at af ag;have C:=hI.oJ;rw[hd,hw2 5 nN nM,hw2 6 nN nM,hw2 8 nN nM]at C;have ax:=hval w C.ly C.up (C.tb rfl).2.2;rw[if_pos (by rfl)];clear hval;go_simp;refine ax.mono ?_;rintro e ay ⟨ov,cv,rfl,hl,hs,U⟩;refine J _ _ _ rfl ⟨?_,OP rfl hI.val⟩;rw[ow,nS D (show 5≠4 by decide),nS D (show 6≠4 by decide),nS D (show 8≠4 by decide),p9,oo vs _ (show 5≠4 by decide),oo vs _ (show 6≠4 by decide),hw2 5 nN nM,hw2 6 nN nM,hw2 8 nN nM];exact C.call hl hs U
  .have d4:=E 4 nN nM
   have N:a.tmps.getD 34 kH=vs 4:=I 34 nN;have C:=hI.oJ;rw[hd,d4,hw2 6 nN nM,hw2 8 nN nM]at C;obtain⟨ov,cv,e4,_⟩:=C.sub rfl rfl;have N:=N.trans e4;have az:a.tmps[34]?.getD kH=nC #[ny (txt x.lab),nA x.lab.list,nk ov x.sub.length cv]:=by simpa using N
   go_simp;refine J (nk (some ⟨w.heap.size,0,none⟩) 1 1) _ _ rfl ⟨?_,OP rfl hI.val⟩;rw[ow,nS D (show 4≠5 by decide),nS D (show 6≠5 by decide),nS D (show 8≠5 by decide),p9,oo vs _ (show 4≠5 by decide),oo vs _ (show 6≠5 by decide),d4,hw2 6 nN nM,hw2 8 nN nM];exact C.box e4
  .have V:=fe I hI.val E 31 1
   have d5:=E 5 nN nM;have ah:a.tmps.getD 35 kH=vs 5:=I 35 nN;simp only[GZ]at V;have C:=hI.oJ;rw[hd,E 4 nN nM,d5,hw2 8 nN nM]at C;obtain⟨ov,cv,e4,aG,ai⟩:=C.sub rfl rfl;obtain⟨nb,e5,hB⟩:=ai rfl;obtain⟨aA,aH⟩:=C.own rfl;have hlt:=C.lt;refine yu XI rfl (.tmp 31) (.tmp 35) rfl (y:=⟨x.lab,nk ov x.sub.length cv,x.sub⟩) V aA.1 (ah.trans e5) hB rfl (by intro u U;simp[OQ]at U;rcases U with rfl|rfl|rfl<;>rfl) nK (kI _) ?_;intro go gc ay aB aC aD aI;refine J _ _ _ rfl ⟨?_,OP rfl hI.val⟩;rw[ow,nS D (show 4≠6 by decide),nS D (show 5≠6 by decide),nS D (show 8≠6 by decide),p9,oo vs _ (show 4≠6 by decide),oo vs _ (show 5≠6 by decide),E 4 nN nM,d5,hw2 8 nN nM];exact C.app e4 aB aC aD
  have av:=(I 7 nN).trans EK.out;rotate_left
  .have d6:=E 6 nN nM
   have Y:a.tmps.getD 36 kH=vs 6:=I 36 nN;have aj:=fe I hI.val E 37 7;simp only[GZ]at aj;have C:=hI.oJ;rw[hd,E 4 nN nM,E 5 nN nM,d6]at C;have c0:=C.xb.cell 2;have aJ:=C.xb.free 2;obtain⟨e,_,_,go,gc,ak,_⟩:=C.fin rfl;have Y:=Y.trans ak;simp only[lF,if_false,jO,jN,jM]at c0;go_simp;refine J kH _ _ rfl ⟨?_,uR hI.val⟩;rw[ow,nS D (show 4≠8 by decide),nS D (show 5≠8 by decide),nS D (show 6≠8 by decide),oo vs _ (show 4≠8 by decide),oo vs _ (show 5≠8 by decide),oo vs _ (show 6≠8 by decide),E 4 nN nM,E 5 nN nM,d6];rw[<-ak];exact C.put
  all_goals
   go_simp;exact J _ _ _ rfl ⟨hI.oJ,uR hI.val⟩
 .intro D vs w O hI
  have E:=hI.oJ;rw[O 4 nN]at E;rw[O 5 nN]at E;rw[O 6 nN]at E;rw[O 8 nN]at E;have q:=aa vs w E;rw[oW hI.val O];dsimp+instances only[KU,cO,cL,cR,cB,Tryz.f249];exact qD
end
structure UT(g cb lb fb:Nat)(r:RS)(l:Nat)(w0:jJ)(xo:Option l5)(xc:Nat)(L:List (qh IL))(W:jJ):Prop where
 ly:Bf cb lb fb r l W
 rb:nO W g (EJ cb lb fb) EZ
 rs:nO W (g+1) #[ny ⟨#[]⟩,nA false,nk none 0 0] IT
 xb:nO W (g+2) #[ny ⟨#[]⟩,nA true,nk xo L.length xc] IT
 own:tZ W (λc=>g+3<=c) (nk xo L.length xc) L
 up:oN cb lb w0 W
 lt:cb<g/\lb<g/\fb<g/\w0.heap.size=g/\0<g
section
variable {g cb lb fb:Nat}{r r':RS}{l l':Nat}{w0 W W':jJ}{xo:Option l5}{xc:Nat}{L:List (qh IL)}
theorem UT.below(h:UT g cb lb fb r l w0 xo xc L W)(hb:jS W.heap.size W W'):UT g cb lb fb r l w0 xo xc L W':=
 ⟨h.ly.below hb,Below.blk hb h.rb h.rb.lt,Below.blk hb h.rs h.rs.lt,Below.blk hb h.xb h.xb.lt,tZ.keep h.own hb.size (λc hc _=>hb.block c hc) λ_ _ h=>h,h.up.trans (oN.of hb),h.lt⟩
theorem Qk(h:UT g cb lb fb r l w0 xo xc L W):nO (pI W (g+1) (ny ⟨#[]⟩) (nA true) (nk xo L.length xc)) (g+1) #[ny ⟨#[]⟩,nA true,nk xo L.length xc] IT/\
  Bf cb lb fb r l (pI W (g+1) (ny ⟨#[]⟩) (nA true) (nk xo L.length xc))/\nV (pI W (g+1) (ny ⟨#[]⟩) (nA true) (nk xo L.length xc)) (λc=>g<=c) (nk xo L.length xc) (L.map qh.tree)/\
  oN cb lb w0 (pI W (g+1) (ny ⟨#[]⟩) (nA true) (nk xo L.length xc)):=by
 have I:=h.lt;have C:∀c,c≠g+1->(pI W (g+1) (ny ⟨#[]⟩) (nA true) (nk xo L.length xc)).heap[c]? =W.heap[c]? :=λc hc=>by
  simp[pI,kC,lL,Ne.symm hc]
 have hs:(pI W (g+1) (ny ⟨#[]⟩) (nA true) (nk xo L.length xc)).heap.size=W.heap.size:=by simp[pI,kC]
 have o:∀{c:Nat}{cs:Array jP}{t:ko},nO W c cs t->c≠g+1->nO (pI W (g+1) (ny ⟨#[]⟩) (nA true) (nk xo L.length xc)) c cs t:=λh hn=>by unfold nO at*;rw[C _ hn];exact h
 have A:=h.ly;refine⟨((h.rs.set 0 _).set 1 _).set 2 _,⟨o A.rd nK,A.ok,o A.lf nK,o A.fr nK,?_,A.ne⟩,?_,?_⟩
 .have key:∀i,(pI W (g+1) (ny ⟨#[]⟩) (nA true) (nk xo L.length xc)).cell? ⟨0,i,none⟩=W.cell? ⟨0,i,none⟩:=λi=>by
   simp only[mW,C 0 nK]
  exact⟨(key 0).trans A.tab.a,(key 1).trans A.tab.b,(key 2).trans A.tab.c⟩
 .have q:=tZ.subs h.own
  refine Shape.nX.keep (by simpa using q) (mV hs.symm) (λc _ hc=>by have:g+3<=c:=hc;show g<=c;omega) λc _ hc=>C c (by have:g+3<=c:=hc;omega)
 .exact⟨h.up.os,h.up.tape,h.up.output,by rw[hs];exact h.up.size,λc hc hb E=>(C c nK).trans (h.up.block c hc hb E)⟩
theorem UT.of7{kb wk:Nat}{r2:RS}{l2:Nat}{k z:Int}{ou:Option l5}{nu cu:Nat}{tl:Int}{ts:List (nL TL)}{x:nL IL}{v4 v5 v6:jP}(h:L7 g cb lb fb kb wk r r2 l l2 k z ou nu cu tl ts xo xc L x w0 true true true true v4 v5 v6 W):
  ∃(e:qh IL) (go:Option l5) (gc:Nat),e.tree=x/\UT g cb lb fb r2 l2 w0 go gc (L++[e]) W:=by
 obtain⟨e,e1,e2,go,gc,e3,e4⟩:=h.fin rfl;have A:=h.lt;subst e3;have hl:(L++[e]).length=L.length+1:=nR;refine⟨e,some ⟨go,0,none⟩,gc,by unfold qh.tree;rw[e1,e2];exact nL.eta x,⟨h.ly,h.rb,h.rs,?_,?_,h.up,nK⟩⟩;.rw[hl];exact h.xb
 .rw[hl];exact e4
theorem UT.to7(h:UT g cb lb fb r l w0 xo xc L W){wk:Nat}(r2:RS)(l2:Nat)(k z:Int)(ou:Option l5)(nu cu:Nat)(tl:Int)(ts:List (nL TL))(x:nL IL)(E:oh.nX W (UR cb lb) (nk ou nu cu) ts)(hL:L.length<=100000)(J:x.lab.text.length<=j5)(C:W.heap.size=wk)(v4 v5 v6:jP):
  L7 g cb lb fb wk wk r r2 l l2 k z ou nu cu tl ts xo xc L x w0 false false false false v4 v5 v6 (W.alloc (nG #[ng nH k,ng nH z,nk ou nu cu,ng nH tl] rW)):=by
 have hb:=(jT W.heap.size W).alloc (jL _) (nG #[ng nH k,ng nH z,nk ou nu cu,ng nH tl] rW);have A:=h.lt;have N:=h.xb.lt;have q:=h.below hb;have hn:=nO.new W #[ng nH k,ng nH z,nk ou nu cu,ng nH tl] rW;rw[C]at hn;exact⟨q.ly,q.rb,q.rs,q.xb,λ_=>⟨hn,nQ,Shape.nX.below E hb⟩,λ_=>⟨q.own,λb I=>C▸(h.own.1.block b I).2.1⟩,(λh=>by cases h),(λh=>by cases h),q.up,⟨A.1,A.2.1,A.2.2.1,nK,hL,J,A.2.2.2.1,A.2.2.2.2⟩⟩
end
theorem XW(h:p:=by
 subst hW;have a1:=(jT w.heap.size w).alloc (jL _) (nG (EJ cb lb fb) EZ);have a2:=a1.alloc nR (nG #[ny ⟨#[]⟩,nA false,nk none 0 0] IT);have a3:=a2.alloc nQ (nG #[ny ⟨#[]⟩,nA true,nk none 0 0] IT);have k1:=nO.new w (EJ cb lb fb) EZ;have k2:=nO.new (w.alloc (nG (EJ cb lb fb) EZ)) #[ny ⟨#[]⟩,nA false,nk none 0 0] IT;have k3:=nO.new ((w.alloc (nG (EJ cb lb fb) EZ)).alloc (nG #[ny ⟨#[]⟩,nA false,nk none 0 0] IT)) #[ny ⟨#[]⟩,nA true,nk none 0 0] IT;rw[show(w.alloc (nG (EJ cb lb fb) EZ)).heap.size=g+1 by simp[hg]]at k2;rw[show((w.alloc (nG (EJ cb lb fb) EZ)).alloc (nG #[ny ⟨#[]⟩,nA false,nk none 0 0] IT)).heap.size=g+2 by simp[hg]]at k3;rw[hg]at k1;exact⟨hI.below a3,(k1.alloc _).alloc _,k2.alloc _,k3,tZ.nil _ _,oN.of a3,⟨nK,nK,nK,hg,hg▸hI.tab.lt⟩⟩):p:=h
theorem a2x(h:p:=by
 obtain⟨k,r',l',xo,xc,L,rfl,hk,HJ⟩:=hrel;by_cases c:k<n
 .obtain⟨t,ht⟩:∃t,ts[k]? =some t:=⟨_,jX (by rw[HN.out];exact c)⟩
  have hdr:ts.drop k=t::ts.drop (k+1):=by
   obtain⟨h1,h2⟩:=ll.1 ht;rw[List.drop_eq_getElem_cons h1,h2]
  have HST:jW (qI f (ts.drop k) r' l'=if(t.2=true\/r'.p<r'.t.size)/\r'.f=0 then((f t.1 r' l').1::(qI f (ts.drop (k+1)) (f t.1 r' l').2.1 (f t.1 r' l').2.2).1,(qI f (ts.drop (k+1)) (f t.1 r' l').2.1 (f t.1 r' l').2.2).2)else([],r',l')):=jH (by rw[hdr];rfl);have CO:=jH (HOF wr r' l' HJ.1.up HJ.1.ly k t ht);have HM:jW (t∈ts):=jH (kT ht);clear ht hdr;have HJ1:=jH HJ.1;have HLY:=jH HJ.2;clear HJ;go_wp2_with fail;refine CO.mono ?_;rintro e w2 ⟨ou,cu,rfl,hs,hb⟩;have HJ2:=jH (HJ1.below hb);have HS:=jH hs;clear hb hs CO HJ1;have HFD:∀W,wo W cb r'->_:=λW h=>qc cb r' W h
  obtain⟨b,hbb⟩:=nT ((t.2||decide (r'.p<r'.t.size)));have HB:=jH hbb;rw[hbb];clear hbb;cases b with
  |false=>
   have P5:jW (Y=(L.map qh.tree,r',l')):=jH (by
    rw[HLY.2,HST.out,if_neg];.simp
    .intro h
     have h2:=HB.out;simp only[Bool.or_eq_false_iff,decide_eq_false_iff_not]at h2;rcases h.1 with h3|h3
     .rw[h3]at h2;cases h2.1
     .exact h2.2 h3)
   go_upto_region 6 with fail;have hJ3:=HJ2.below ((jT _ _).alloc (jL _) (nG #[ng nH t.1.lab.kind,ng nH t.1.lab.size,nk ou t.1.sub.length cu,ng nH t.1.lab.tail] rW));generalize w2.alloc _=w3 at*;have Ql:=jH hJ3;clear hJ3 HJ2 HS;obtain⟨x0,x1,x2⟩:=Ql.xb.a3;obtain⟨y0,y1,y2,z0,z1,z2⟩:=Ql.rs.b3;go_wp2_with fail;rw[p8];obtain⟨hb,hl,hs,hu⟩:=Qk Ql.out;obtain⟨d0,d1,d2⟩:=hb.a3;refine j4 (v:=nC #[ny ⟨#[]⟩,nA true,nk xo L.length xc]) (by simp[kK,Tryz.results249,go_sem,d0,d1,d2]) rfl ?_;rw[P5.out];exact⟨xo,xc,nR,hl,by rw[hg];simpa using hs,hu⟩
  |true=>
   go_upto_region 6 with fail;have hJ3:=HJ2.below ((jT _ _).alloc (jL _) (nG #[ng nH t.1.lab.kind,ng nH t.1.lab.size,nk ou t.1.sub.length cu,ng nH t.1.lab.tail] rW));have h7:=λr2 l2 x hx hL=>HJ2.to7 r2 l2 t.1.lab.kind t.1.lab.size ou t.1.sub.length cu t.1.lab.tail t.1.sub x HS hL hx rfl
   generalize w2.alloc _=w3 at*;generalize w2.heap.size=kb at*;have Ql:=jH hJ3;have H7:=jH h7;clear hJ3 HJ2 HS h7;have c2:=Ql.rb.cell 2;simp only[EJ,jO,jN,jM]at c2;unfold Dz at c2;go_wp2_with fail;refine(HFD _ Ql.ly.rd).mono ?_;rintro e w4 ⟨rfl,rfl⟩;by_cases hf:r'.f=0
   .have t0:(r'.f !=0)=false:=by simp[hf]
    have HF:=jH hf;clear hf HFD;go_upto_region 7 with fail;have hx:=HTX.out t.1 r' l' Ql.ly.ok.1.2;have HL:jW (L.length<=100000):=jH (by rw[HLY.1];omega);have HVC:=jH (a3Q t HM);have HY2:jW (Y=(L.map qh.tree++((f t.1 r' l').1::(qI f (ts.drop (k+1)) (f t.1 r' l').2.1 (f t.1 r' l').2.2).1),(qI f (ts.drop (k+1)) (f t.1 r' l').2.1 (f t.1 r' l').2.2).2)):=jH (by
     rw[HLY.2,HST.out,if_pos];refine⟨?_,HF.out⟩;have h2:=HB.out;simp only[Bool.or_eq_true,decide_eq_true_eq]at h2;exact h2)
    have HLK:=jH HLY.1;clear HLY HST HB HTX a3Q HOF;have a3R:jW (∀W ou cu,oN cb lb w W->Bf cb lb fb r' l' W->_->_):=jH λW ou cu=>HVC.out W r' l' ou cu
    clear HVC;obtain⟨⟨x,r2,l2⟩,hy⟩:∃y,f t.1 r' l'=y:=⟨_,rfl⟩;simp only[hy]at a3R HY2 hx;clear hy
    refine a3P (g:=g) (cb:=cb) (lb:=lb) (fb:=fb) (kb:=kb) (wk:=kb) (r:=r') (r2:=r2) (l:=l') (l2:=l2) (k:=t.1.lab.kind) (z:=t.1.lab.size) (ou:=ou) (nu:=t.1.sub.length) (cu:=cu) (tl:=t.1.lab.tail) (ts:=t.1.sub) (xo:=xo) (xc:=xc) (L:=L) (x:=x) (w0:=w)
     (EK:=by rfl) (ht3:=by rfl) (JB:=by rfl) (hsz:=by rfl) (hval:=λW hl hu hs=>a3R.out W ou cu hu hl hs) (hI0:=λvs=>(H7 r2 l2 x hx HL (vs 4) (vs 5) (vs 6)).drew _ _ _) ?_
    intro vs W hW;obtain⟨e,go,gc,he,hJ5⟩:=UT.of7 hW;have HJ5:=jH hJ5;clear hW hJ5 Ql H7 a3R;generalize vs 4=v4;generalize vs 5=v5;generalize vs 6=v6;simp only[jK,jQ,jR];have HXE:jW (e.tree=x):=jH he;clear he hx;go_wp2_with fail;go_roundw;case rel=>exact⟨k+1,r2,l2,go,gc,L++[e],by go_num,nK,jH ⟨HJ5.out,by rw[jY,HLK.out];rfl,by rw[HY2.out];simp[HXE.out]⟩⟩
    case measure=>simp[kW];omega
   .have t0:(r'.f !=0)=true:=by simp[hf]
    have P5:jW (Y=(L.map qh.tree,r',l')):=jH (by
     rw[HLY.2,HST.out,if_neg λh=>hf h.2];simp)
    clear hf HFD;obtain⟨x0,x1,x2⟩:=Ql.xb.a3;obtain⟨y0,y1,y2,z0,z1,z2⟩:=Ql.rs.b3;go_wp2_with fail;rw[p8];obtain⟨hb,hl,hs,hu⟩:=Qk Ql.out;obtain⟨d0,d1,d2⟩:=hb.a3;refine j4 (v:=nC #[ny ⟨#[]⟩,nA true,nk xo L.length xc]) (by simp[kK,Tryz.results249,go_sem,d0,d1,d2]) rfl ?_;rw[P5.out];exact⟨xo,xc,nR,hl,by rw[hg];simpa using hs,hu⟩
 .have P5:jW (Y=(L.map qh.tree,r',l')):=jH (by
   rw[HJ.2.2,List.drop_eq_nil_of_le (by rw[HN.out];omega)];simp[qI])
  have Ql:=jH HJ.1;clear HJ;obtain⟨x0,x1,x2⟩:=Ql.xb.a3;obtain⟨y0,y1,y2,z0,z1,z2⟩:=Ql.rs.b3;go_wp2_with fail;rw[p8];obtain⟨hb,hl,hs,hu⟩:=Qk Ql.out;obtain⟨d0,d1,d2⟩:=hb.a3;refine j4 (v:=nC #[ny ⟨#[]⟩,nA true,nk xo L.length xc]) (by simp[kK,Tryz.results249,go_sem,d0,d1,d2]) rfl ?_;rw[P5.out];exact⟨xo,xc,nR,hl,by rw[hg];simpa using hs,hu⟩):p:=h
theorem UU(cb lb fb tb rb:Nat)(r:RS)(l:Nat)(ts:List (nL TL×Bool))(f:nL TL->RS->Nat->RdV)(w:jJ)(hI:Bf cb lb fb r l w)(hn:ts.length<=65536)(O:cb<w.heap.size/\lb<w.heap.size/\fb<w.heap.size)(E:∀W r' l',oN cb lb w W->Bf cb lb fb r' l' W->∀(i:Nat) (t:nL TL×Bool),ts[i]? =some t->jV jI 250 #[ng nH (i:Nat),nz (some ⟨tb,0,none⟩)] W (Ea (UR cb lb) t.1 (t.2||decide (r'.p<r'.t.size)) W))(hval:∀t,t∈ts->∀W r' l' ou cu,oN cb lb w W->Bf cb lb fb r' l' W->oh.nX W (UR cb lb) (nk ou t.1.sub.length cu) t.1.sub->jV jI 211 #[nC #[Bd cb,C9 cb,Dz cb,Cc cb,Be fb,nz (some ⟨lb,0,none⟩)],nC #[ng nH t.1.lab.kind,ng nH t.1.lab.size,nk ou t.1.sub.length cu,ng nH t.1.lab.tail]] W (NK cb lb fb (f t.1 r' l') W))(I:∀t r l,r.t.size<=100000->(f t r l).1.lab.text.length<=j5):
  jV jI 249 #[nC #[Bd cb,C9 cb,Dz cb,Cc cb,Be fb,nz (some ⟨lb,0,none⟩)],ng nH (ts.length:Nat),.func (.func 250) #[] #[nz (some ⟨tb,0,none⟩)]] w (a2w cb lb fb (qI f ts r l) w):=by
 obtain⟨g,hg⟩:=nT w.heap.size;have A:jW (∀W,((w.alloc (nG #[Bd cb,C9 cb,Dz cb,Cc cb,Be fb,nz (some ⟨lb,0,none⟩)] EZ)).alloc (nG #[ny ⟨#[]⟩,nA false,nk none 0 0] IT)).alloc (nG #[ny ⟨#[]⟩,nA true,nk none 0 0] IT)=W->UT g cb lb fb r l w none 0 [] W):=jH λW hW=>by
  exact XW
 have HOF:=jH E;have a3Q:=jH hval;have HTX:=jH I;obtain⟨n,C⟩:=nT ts.length;have HN:=jH C;rw[C]at hn⊢;obtain⟨Y,N⟩:=nT (qI f ts r l);have U:=jH N;rw[N];clear hI E hval I C O N;unfold Bd C9 Dz Cc Be at A;unfold Bd C9 Dz Cc Be;go_in;go_upto_region 2 with fail;have J:=A.out _ rfl;generalize ((w.alloc _).alloc _).alloc _=w1 at*;have Q:=jH J;clear A J;go_wp2_with fail;go_loopw [13] (λkv V=>∃(k:Nat) (r':RS) (l':Nat) (xo:Option l5) (xc:Nat) (L:List (qh IL)),kv=ng nH k/\k<=n/\jW (UT g cb lb fb r' l' w xo xc L V/\L.length=k/\Y=(L.map qh.tree++(qI f (ts.drop k) r' l').1,(qI f (ts.drop k) r' l').2))) (λkv _=>n -(kW kv).toNat);case atStart=>exact⟨0,r,l,none,0,[],rfl,nK,jH ⟨Q.out,rfl,by rw[<-U.out];simp⟩⟩
 case round=>
  exact a2x
theorem UW(cb lb fb tb rb:Nat)(r:RS)(l:Nat)(ts:List (nL TL×Bool))(f:nL TL->RS->Nat->RdV)(w:jJ)(hI:Bf cb lb fb r l w)(hn:ts.length<=65536)(O:cb<w.heap.size/\lb<w.heap.size/\fb<w.heap.size)(E:∀W r' l',oN cb lb w W->Bf cb lb fb r' l' W->∀(i:Nat) (t:nL TL×Bool),ts[i]? =some t->jV jI 251 #[ng nH (i:Nat),nz (some ⟨tb,0,none⟩),nz (some ⟨rb,0,none⟩)] W (Ea (UR cb lb) t.1 (t.2||decide (r'.p<r'.t.size)) W))(hval:∀t,t∈ts->∀W r' l' ou cu,oN cb lb w W->Bf cb lb fb r' l' W->oh.nX W (UR cb lb) (nk ou t.1.sub.length cu) t.1.sub->jV jI 211 #[nC #[Bd cb,C9 cb,Dz cb,Cc cb,Be fb,nz (some ⟨lb,0,none⟩)],nC #[ng nH t.1.lab.kind,ng nH t.1.lab.size,nk ou t.1.sub.length cu,ng nH t.1.lab.tail]] W (NK cb lb fb (f t.1 r' l') W))(I:∀t r l,r.t.size<=100000->(f t r l).1.lab.text.length<=j5):
  jV jI 249 #[nC #[Bd cb,C9 cb,Dz cb,Cc cb,Be fb,nz (some ⟨lb,0,none⟩)],ng nH (ts.length:Nat),.func (.func 251) #[] #[nz (some ⟨tb,0,none⟩),nz (some ⟨rb,0,none⟩)]] w (a2w cb lb fb (qI f ts r l) w):=by
 obtain⟨g,hg⟩:=nT w.heap.size;have A:jW (∀W,((w.alloc (nG #[Bd cb,C9 cb,Dz cb,Cc cb,Be fb,nz (some ⟨lb,0,none⟩)] EZ)).alloc (nG #[ny ⟨#[]⟩,nA false,nk none 0 0] IT)).alloc (nG #[ny ⟨#[]⟩,nA true,nk none 0 0] IT)=W->UT g cb lb fb r l w none 0 [] W):=jH λW hW=>by
  exact XW
 have HOF:=jH E;have a3Q:=jH hval;have HTX:=jH I;obtain⟨n,C⟩:=nT ts.length;have HN:=jH C;rw[C]at hn⊢;obtain⟨Y,N⟩:=nT (qI f ts r l);have U:=jH N;rw[N];clear hI E hval I C O N;unfold Bd C9 Dz Cc Be at A;unfold Bd C9 Dz Cc Be;go_in;go_upto_region 2 with fail;have J:=A.out _ rfl;generalize ((w.alloc _).alloc _).alloc _=w1 at*;have Q:=jH J;clear A J;go_wp2_with fail;go_loopw [13] (λkv V=>∃(k:Nat) (r':RS) (l':Nat) (xo:Option l5) (xc:Nat) (L:List (qh IL)),kv=ng nH k/\k<=n/\jW (UT g cb lb fb r' l' w xo xc L V/\L.length=k/\Y=(L.map qh.tree++(qI f (ts.drop k) r' l').1,(qI f (ts.drop k) r' l').2))) (λkv _=>n -(kW kv).toNat);case atStart=>exact⟨0,r,l,none,0,[],rfl,nK,jH ⟨Q.out,rfl,by rw[<-U.out];simp⟩⟩
 case round=>
  exact a2x
structure EL(g cb lb fb:Nat)(r:RS)(l:Nat)(k z:Int)(ou:Option l5)(nu cu:Nat)(tl:Int)(s:List (nL TL))(w0:jJ)(rc:Array jP)(W:jJ):Prop where
 ly:Bf cb lb fb r l W
 rb:nO W g (EJ cb lb fb) EZ
 tb:nO W (g+1) #[ng nH k,ng nH z,nk ou nu cu,ng nH tl] rW
 rs:nO W (g+2) rc IT
 sub:oh.nX W (λc=>UR cb lb c/\c<g) (nk ou nu cu) s
 up:oN cb lb w0 W
 lt:cb<g/\lb<g/\fb<g/\w0.heap.size=g/\0<g
def AR:Array jP:=#[ny ⟨#[]⟩,nA false,nk none 0 0]
section
variable {g cb lb fb:Nat}{r r':RS}{l l':Nat}{k z:Int}{ou:Option l5}{nu cu:Nat}{tl:Int}{s:List (nL TL)}{w0 W W':jJ}{rc:Array jP}
theorem EL.Qm(h:EL g cb lb fb r l k z ou nu cu tl s w0 rc W)(hl:Bf cb lb fb r' l' W')(A:oN cb lb W W'):EL g cb lb fb r' l' k z ou nu cu tl s w0 rc W':=by
 have E:=h.lt;exact⟨hl,A.blk h.rb nK nK,A.blk h.tb nK nK,A.blk h.rs nK nK,Shape.nX.keep h.sub A.size (λ_ _ h=>h) λc hc C=>A.block c hc C.1.1 C.1.2,h.up.trans A,h.lt⟩
theorem EL.below(h:EL g cb lb fb r l k z ou nu cu tl s w0 rc W)(hb:jS W.heap.size W W'):EL g cb lb fb r l k z ou nu cu tl s w0 rc W':=h.Qm (h.ly.below hb) (oN.of hb)
theorem EL.turn(h:EL g cb lb fb r l k z ou nu cu tl s w0 rc W)(A:pE cb W W')(C:wo W' cb r')(hk:RdK r r'):EL g cb lb fb r' l k z ou nu cu tl s w0 rc W':=
 h.Qm (h.ly.turn A C ⟨hk.ok h.ly.ok.1.1,by rw[hk.t];exact h.ly.ok.1.2⟩) (xD A)
theorem EL.Bq(h:EL g cb lb fb r l k z ou nu cu tl s w0 rc W)(m:Nat)(A:m<=1024):EL g cb lb fb r m k z ou nu cu tl s w0 rc (W.setCell ⟨lb,0,none⟩ (ng nH (m:Nat))):=h.Qm (h.ly.Bq m A) ((oN.refl cb lb W).OX 0 _)
theorem EL.put(h:EL g cb lb fb r l k z ou nu cu tl s w0 AR W)(a b c:jP):EL g cb lb fb r l k z ou nu cu tl s w0 #[a,b,c] (pI W (g+2) a b c):=by
 have I:=h.lt;have C:∀d,d≠g+2->(pI W (g+2) a b c).heap[d]? =W.heap[d]? :=λd hd=>by simp[pI,kC,lL,Ne.symm hd]
 have hs:(pI W (g+2) a b c).heap.size=W.heap.size:=by simp[pI,kC]
 have o:∀{d:Nat}{cs:Array jP}{t:ko},nO W d cs t->d≠g+2->nO (pI W (g+2) a b c) d cs t:=λh hn=>by unfold nO at*;rw[C _ hn];exact h
 have A:=h.ly;have key:∀i,(pI W (g+2) a b c).cell? ⟨0,i,none⟩=W.cell? ⟨0,i,none⟩:=λi=>by
  simp only[mW,C 0 nK]
 refine⟨⟨o A.rd nK,A.ok,o A.lf nK,o A.fr nK,⟨(key 0).trans A.tab.a,(key 1).trans A.tab.b,(key 2).trans A.tab.c⟩,A.ne⟩,o h.rb nK,o h.tb nK,((h.rs.set 0 a).set 1 b).set 2 c,?_,?_,h.lt⟩;.exact Shape.nX.keep h.sub (mV hs.symm) (λ_ _ h=>h) λc _ E=>C c (by have:=E.2;omega)
 .exact⟨h.up.os,h.up.tape,h.up.output,by rw[hs];exact h.up.size,λd hd hb E=>(C d nK).trans (h.up.block d hd hb E)⟩
theorem EL.drew(h:EL g cb lb fb r l k z ou nu cu tl s w0 rc W):EL g cb lb fb r l k z ou nu cu tl s w0 rc W.drew:=h.below (oz W)
end
theorem a1e(s:ByteArray)(w:jJ):jV jI 93 #[ny s] w λe w'=>∃er:Int,e=nE (nD #[ng nI (GH s),ng nH er])/\w=w':=by
 unfold GH;by_cases h0:s.size=0
 .rw[if_neg nK]
  exact(wM s w h0).mono λe w' h=>⟨1,h⟩
 .by_cases A:s.size<=8
  .rw[if_pos nK]
   exact(tC s w nK A).mono λe w' h=>⟨0,h⟩
  .rw[if_neg nK]
   exact(Bv s w nK).mono λe w' h=>⟨5,h⟩
theorem a3S(b:ByteArray):(⟨b.data.toList.toArray⟩:ByteArray)=b:=by cases b;simp
noncomputable def Fu:List lX:=cO (cL (cL (cR (cR (cR (cR (cR (cL (cR (cL (cR (cR (cR (cB Tryz.f211))))))))))))))
section
variable (g cb lb fb:Nat)(r r1 r2:RS)(l:Nat)(k:Int)(m n1:Nat)(T:ByteArray)(ou:Option l5)(nu cu:Nat)(tl:Int)(s:List (nL TL))(w0:jJ)
def tN:Nat->jP
 |0=> nz (some ⟨g,0,none⟩)
 |1=>Bd cb
 |2=> nz (some ⟨g,4,none⟩)
 |3=>Be fb
 |4=> nz (some ⟨g+1,1,none⟩)
 |5=> ng nH m
 |6=> ng nH n1
 |7=> ny T
 |8=> nC #[ny T,nA false,nk none 0 0]
 |_=>kH
structure XX(D:Nat->Bool)(vs:Nat->jP)(w:jJ):Prop where
 oJ:EL g cb lb fb (if(D 7)=true then r2 else if(D 6)=true then r1 else r) l k m ou nu cu tl s w0 (if(D 9)=true then#[ny T,nA false,nk none 0 0]else AR) w
 val:∀j,(true)=true->D j=true->vs j=tN g cb fb m n1 T j
variable {g cb lb fb r r1 r2 l k m n1 T ou nu cu tl s w0}
theorem XY{D:Nat->Bool}{vs:Nat->jP}{w w':jJ}(h:XX g cb lb fb r r1 r2 l k m n1 T ou nu cu tl s w0 D vs w){i:Nat}(hi:i≠6/\i≠7/\i≠9)(A:EL g cb lb fb (if(D 7)=true then r2 else if(D 6)=true then r1 else r) l k m ou nu cu tl s w0 (if(D 9)=true then#[ny T,nA false,nk none 0 0]else AR) w->EL g cb lb fb (if(D 7)=true then r2 else if(D 6)=true then r1 else r) l k m ou nu cu tl s w0 (if(D 9)=true then#[ny T,nA false,nk none 0 0]else AR) w'):XX g cb lb fb r r1 r2 l k m n1 T ou nu cu tl s w0 (zm D i) (zn vs i (tN g cb fb m n1 T i)) w':=by
 refine⟨?_,uR h.val⟩;rw[nS D (show 6≠i by omega)];rw[nS D (show 7≠i by omega)];rw[nS D (show 9≠i by omega)];exact A h.oJ
theorem a1f{id:Nat}{Q:Exit->Act->jJ->Prop}{a0:Act}{Z:jJ}(ht2:a0.tmps.getD 2 kH=nz (some ⟨g,0,none⟩))(ht3:a0.tmps.getD 3 kH=nz (some ⟨g+1,0,none⟩))(Ee:∀W,Bf cb lb fb r l W->jV jI 209 #[ng nH m,nz (some ⟨fb,0,none⟩)] W λe w'=>e=nE (ng nH n1)/\Bf cb lb fb r1 l w'/\pE cb W w')(htake:∀W,wo W cb r1->jV jI 145 #[nz (some ⟨cb,0,none⟩),ng nH n1] W (zw cb W r2 (ny T)))(hk2:RdK r1 r2)(EU:a0.tmps.getD 4 kH=nz (some ⟨g+2,0,none⟩))(hsz:a0.tmps.size=74)(hI0:∀vs:Nat->jP,(λw=>EL g cb lb fb (if false=true then r2 else if false=true then r1 else r) l k m ou nu cu tl s w0 (if false=true then#[ny T,nA false,nk none 0 0]else AR) w) Z.drew)(aa:∀(vs:Nat->jP) (w:jJ),EL g cb lb fb (if true=true then r2 else if true=true then r1 else r) l k m ou nu cu tl s w0 (if true=true then#[ny T,nA false,nk none 0 0]else AR) w->Q .normal {a0 with tmps:=(((((((((a0.tmps.setIfInBounds 48 (nz (some ⟨g,0,none⟩))).setIfInBounds 49 (Bd cb)).setIfInBounds 50 (nz (some ⟨g,4,none⟩))).setIfInBounds 51 (Be fb)).setIfInBounds 52 (nz (some ⟨g+1,1,none⟩))).setIfInBounds 53 (ng nH m)).setIfInBounds 54 (ng nH n1)).setIfInBounds 55 (ny T)).setIfInBounds 56 (nC #[ny T,nA false,nk none 0 0]))} w):
  (lg id Fu.toArray true).wp jI Q a0 Z:=by
 refine og 10 74 (XX g cb lb fb r r1 r2 l k m n1 T ou nu cu tl s w0) nM hsz nM (.inl rfl) nM ?_ ?_ ?_;.exact qF
 .refine rV λA av=> ?_
  clear hI0 aa hsz;replace ht2:=jH ht2;replace ht3:=jH ht3;replace Ee:=jH Ee;replace htake:=jH htake;replace hk2:=jH hk2;replace EU:=jH EU;dsimp+instances only[Fu,cO,cL,cR,cB,Tryz.f211];simp only[ky,kQ,rz];refine⟨?_,?_,?_,?_,?_,?_,?_,?_,?_,?_,trivial⟩<;>(intro D vs a w K hI hd E hw2 C J;subst av;dsimp+instances only[Fu,cO,cL,cR,cB,Tryz.f211]);have e2:=(C 2 nN).trans ht2.out;rotate_left;have ae:=fe C hI.val E 48 0;simp only[tN]at ae;have hB:=hI.oJ.rb;have c0:=hB.cell 0;simp only[EJ,jO,jN,jM]at c0;clear hB;rotate_left;have e2:=(C 2 nN).trans ht2.out;rotate_left;have af:=fe C hI.val E 50 2;simp only[tN]at af;have hB:=hI.oJ.rb;have c0:=hB.cell 4;simp only[EJ,jO,jN,jM]at c0;clear hB;rotate_left;have e3:=(C 3 nN).trans ht3.out;rotate_left;have ag:=fe C hI.val E 52 4;simp only[tN]at ag;have hB:=hI.oJ.tb;have c0:=hB.c1;clear hB;rotate_left
  .have Ee:=Ee.out
   have O:=fe C hI.val E 51 3;have ah:=fe C hI.val E 53 5;simp only[tN]at O ah;have I:=hI.oJ;rw[hd,hw2 7 nN nM,hw2 9 nN nM]at I;have ax:=Ee w I.ly;clear Ee;unfold Be at O;rw[if_pos (by rfl)];go_simp;refine ax.mono ?_;rintro e ai ⟨rfl,hl,V⟩;refine J (tN g cb fb m n1 T 6) _ _ rfl ⟨?_,uR hI.val⟩;rw[ow,nS D (show 7≠6 by decide),nS D (show 9≠6 by decide),hw2 7 nN nM,hw2 9 nN nM];exact I.Qm hl (xD V)
  .have htake:=htake.out
   have hk2:=hk2.out;have U:=fe C hI.val E 49 1;have aj:=fe C hI.val E 54 6;simp only[tN]at U aj;have I:=hI.oJ;rw[hd,E 6 nN nM,hw2 9 nN nM]at I;have Y:=htake w I.ly.rd;clear htake;unfold Bd at U;rw[if_pos (by rfl)];go_simp;refine Y.mono ?_;rintro e ai ⟨rfl,V,ay⟩;refine J (tN g cb fb m n1 T 7) _ _ rfl ⟨?_,uR hI.val⟩;rw[ow,nS D (show 6≠7 by decide),nS D (show 9≠7 by decide),hw2 9 nN nM];exact I.turn V ay hk2
  .have ak:=fe C hI.val E 55 7
   simp only[tN]at ak;have Y:=D9 T w;rw[if_pos (by rfl)];go_simp;refine Y.mono ?_;rintro e ai ⟨rfl,hb⟩;exact J (tN g cb fb m n1 T 8) _ _ rfl (XY hI (i:=8) nN λh=>h.below hb)
  .have e4:=(C 4 nN).trans EU.out
   have au:=fe C hI.val E 56 8;simp only[tN]at au;have I:=hI.oJ;rw[hd,E 7 nN nM]at I;have hB:=I.rs;have z0:=hB.cell 0;have az:=hB.cell 1;have aA:=hB.cell 2;obtain⟨aB,f1,f2⟩:=hB.f3;simp only[AR,lF,if_false,jO,jN,jM]at z0 az aA;clear hB;go_simp;rw[p8];refine J kH _ _ rfl ⟨?_,uR hI.val⟩;rw[ow,nS D (show 6≠9 by decide),nS D (show 7≠9 by decide),E 7 nN nM];exact EL.put I _ _ _
  all_goals
   go_simp;exact J _ _ _ rfl ⟨hI.oJ,uR hI.val⟩
 .intro D vs w N hI
  have E:=hI.oJ;rw[N 6 nN]at E;rw[N 7 nN]at E;rw[N 9 nN]at E;have q:=aa vs w E;rw[oW hI.val N];dsimp+instances only[Fu,cO,cL,cR,cB,Tryz.f211];exact qD
end
end
end Go.Proofs.YtamfcjmhnndbdaaGreatDoor


