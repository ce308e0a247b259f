/- Part 13 of the proof. -/
import Derived.Test.YtamfcjmhnndbdaaGreatDoorZoA
import Derived.Test.YtamfcjmhnndbdaaGreatDoorZo00
import Derived.Test.YtamfcjmhnndbdaaGreatDoorZo02
import Derived.Test.YtamfcjmhnndbdaaGreatDoorZo03
import Derived.Test.YtamfcjmhnndbdaaGreatDoorZo04
import Derived.Test.YtamfcjmhnndbdaaGreatDoorZo05
import Derived.Test.YtamfcjmhnndbdaaGreatDoorZo09
import Derived.Test.YtamfcjmhnndbdaaGreatDoorZo10
import Derived.Test.YtamfcjmhnndbdaaGreatDoorZo11
import Derived.Test.YtamfcjmhnndbdaaGreatDoorZo12
import Derived.WalkKit
import Derived.Laws.Rows
import Derived.Laws.Tables
import Derived.Laws.CopyOwn
import Derived.Deep.WholeRow
import Derived.Deep.QuietTactic
import Derived.BigQuiet
import Derived.Test.YtamfcjmhnndbdaaGreatDoorRows
import Derived.LaidMore
import Derived.Stop.Joined
import Derived.Lib.LaidTab
open Go.Value renaming agg→nI,bool→nH,int→Y,pointer→nG,slice→u,string→G,tuple→nJ,int→lC
open Go.Obj renaming cells→nL
open Go.IntKind renaming i64→X,u32→nO,u64→nN
open Go.Ending renaming returned→nK
open Go.Lib renaming hid→H
open Go.Proofs.Tryz renaming prog→jy,underlying3→mG
open Go renaming World→M,Value→jC,Calls→jG,bodyPost_ret→jO,TypeId→jX,results→kF,Addr→kW,Oper→lJ,Program→lQ,maxLen→jN
open Nat renaming le_refl→jB,le_trans→jM,lt_of_lt_of_le→jZ,zero_le→ko,add_assoc→kK,lt_or_ge→kQ,pow_succ→kV,pow_le_pow_right→lG,add_mul→lT,le_of_eq→lZ,lt_of_le_of_lt→mi,min_eq_left→mr,zero_add→mU,add_zero→nk
open Go.RowKit renaming Below→jD,Hid→jI,intOf→kC
open Go.RowKit.Below renaming refl→jE
open And renaming intro→jF
open Bool renaming and_eq_true→jJ,true_and→mQ
open List renaming length_append→jK,getElem?_eq_getElem→jL,set_cons_succ→jR,take_succ_cons→jY,length_cons→j4,replicate→ky,length_take→kD,mem_of_getElem?→kE,length_drop→kG,take_zero→kJ,getD_eq_getElem?_getD→kL,take_of_length_le→kS,range→ll,getElem?_eq_some_iff→lu,take_length→lM,all_eq_true→lN,mem_cons→l5,getElem?_append_left→l6,map_cons→mf,length_eq_zero_iff→mh,mem_range→mJ,getElem?_take→mK,take_append_drop→mO,drop_succ_cons→mP,getElem?_append_right→mZ,map_nil→ng,drop_eq_getElem_cons→nA
open ByteArray renaming size_extract→jP
open UInt8 renaming toNat_inj→lX
open Option.some renaming inj→mg,injEq→mI
open Option renaming none→V,some→U
open Bool renaming true→R,false→O
open Go.Addr renaming mk→Z
open Decidable renaming decide→At
namespace Go.Proofs.YtamfcjmhnndbdaaGreatDoor
set_option linter.unusedVariables false
set_option linter.defProp false
set_option linter.unusedSimpArgs false
set_option maxRecDepth 100000
set_option maxHeartbeats 8000000
variable {n k B bk i x m T y whole Oo er:Nat}{t e:jX}{p:Prop}{l lr L:List Ax}{s:An}{o a ps:List Nat}{w W:M}{c:oO}{rows mid:List Row}{es:List yI}
section
open Go.RowKit
def RS.rest(r:RS):An:=r.t.extract r.p r.t.size
def KV(b:Nat)(s:An):Nat:=if 60<=b/4 then pQ (s.extract 1 (uz b)).data.toList+1 else b/4+1
def XO(b:Nat):Nat:=if b % 4=1 then 4+b/4 % 8 else b/4+1
def XP(b:Nat)(s:An):Nat:=if b % 4=1 then b/4/8*256+pQ (s.extract 1 (uz b)).data.toList else pQ (s.extract 1 (uz b)).data.toList
def ElS(b:Nat)(s:An)(l:List Ax)(size:Nat)(A:An)(C:List Ax):Prop:=
 uz b<=s.size/\(b % 4=0/\KV b s<=s.size - uz b/\l.length+KV b s<=size/\A=(s.extract (uz b) s.size).extract (KV b s) (s.size - uz b)/\C=l++((s.extract (uz b) s.size).extract 0 (KV b s)).data.toList\/
  b % 4≠0/\1<=XP b s/\XP b s<=l.length/\l.length+XO b<=size/\A=s.extract (uz b) s.size/\C=vz (XO b) (XO b) (XP b s) l)
def zD{r:RS}(h:r.Ok):r.rest.size=r.t.size - r.p:=by
 have:=h.1;unfold RS.rest;rw[jP];omega
def VI{r:RS}{n:Int}(h:(r.take n).1.f=0)(ho:r.Ok):r.f=0/\0<=n/\r.p+n.toNat<=r.t.size/\(r.take n).1=⟨r.t,r.p+n.toNat,0⟩/\(r.take n).2=r.t.extract r.p (r.p+n.toNat):=by
 obtain⟨C,E⟩:=ho;unfold RS.take at h|-;split at h
 .rename_i A
  rw[AC A];split at h;.simp at h
  .rename_i hn
   rw[As hn];split at h;.simp at h
   .rename_i hs
    rw[As hs];exact⟨A,K,K,rfl,rfl⟩
 .rename_i A;exact absurd h A
def Im(t:An)(p k:Nat)(f:Int)(h:p+k<=t.size):(⟨t,p+k,f⟩:RS).rest=(t.extract p t.size).extract k (t.size - p):=by
 show t.extract (p+k) t.size=_;rw[ByteArray.extract_extract];congr 1;omega
def a4W(t:An)(p k n:Nat)(h:p+k+n<=t.size):t.extract (p+k) (p+k+n)=(t.extract p t.size).extract k (k+n):=by
 rw[ByteArray.extract_extract];congr 1;omega
def a4X{t:An}{p b:Nat}(ho:(⟨t,p+1,0⟩:RS).Ok)(h:(rO (b % 4) (b/4) ⟨t,p+1,0⟩).1.f=0):
  p+uz b<=t.size/\rO (b % 4) (b/4) ⟨t,p+1,0⟩=(⟨t,p+uz b,0⟩,if b % 4=0 then KV b (t.extract p t.size)else XO b,if b % 4=0 then 0 else XP b (t.extract p t.size)):=by
 have key:∀n:Nat,((⟨t,p+1,0⟩:RS).take (n:Nat)).1.f=0->p+(1+n)<=t.size/\((⟨t,p+1,0⟩:RS).take (n:Nat)).1=⟨t,p+(1+n),0⟩/\uG ⟨t,p+1,0⟩ (n:Nat)=pQ ((t.extract p t.size).extract 1 (1+n)).data.toList:=λn hn=>by
  obtain⟨_,_,aa,ae,af⟩:=VI hn ho;have e:((n:Int)).toNat=n:=K;rw[e]at aa ae af;dsimp only at aa ae af;refine⟨K,by rw[ae,kK],?_⟩;unfold uG;rw[af,a4W t p 1 n aa]
 unfold rO at h|-;unfold KV XO XP uz;by_cases I:b % 4=0
 .rw[AC I]at h|-
  rw[AC I,AC I,AC I];by_cases c:60<=b/4
  .rw[AC c]at h|-
   have ag:((b/4:Nat):Int) - 59=((b/4 - 59:Nat):Int):=K;rw[ag]at h|-;obtain⟨J,A,C⟩:=key _ h;rw[AC c,A,C];have e2:1+(b/4 - 59)=b/4 - 58:=K;rw[e2]at J|-;exact⟨J,by rw[AC c]⟩
  .rw[As c]at h|-
   rw[As c];exact⟨ho.1,by rw[As c]⟩
 .rw[As I]at h|-
  rw[As I,As I,As I];by_cases E:b % 4=1
  .rw[AC E]at h|-
   rw[AC E,AC E];obtain⟨J,A,C⟩:=key 1 h;have A:((⟨t,p+1,0⟩:RS).take 1).1=⟨t,p+2,0⟩:=A;have C:uG ⟨t,p+1,0⟩ 1=pQ ((t.extract p t.size).extract 1 2).data.toList:=C;rw[A,C,AC E];exact⟨J,rfl⟩
  .rw[As E]at h|-
   rw[As E,As E];by_cases N:b % 4=2
   .rw[AC N]at h|-
    obtain⟨J,A,C⟩:=key 2 h;have A:((⟨t,p+1,0⟩:RS).take 2).1=⟨t,p+3,0⟩:=A;have C:uG ⟨t,p+1,0⟩ 2=pQ ((t.extract p t.size).extract 1 3).data.toList:=C;rw[A,C,As E,AC N];exact⟨J,rfl⟩
   .rw[As N]at h|-
    obtain⟨J,A,C⟩:=key 4 h;have A:((⟨t,p+1,0⟩:RS).take 4).1=⟨t,p+5,0⟩:=A;have C:uG ⟨t,p+1,0⟩ 4=pQ ((t.extract p t.size).extract 1 5).data.toList:=C;rw[A,C,As E,As N];exact⟨J,rfl⟩
def a4Y{ad:RS×Nat×Nat}{size:Nat}(h:(tK k ad l size).1.f=0):ad.1.f=0/\(k≠0->1<=ad.2.2/\ad.2.2<=l.length)/\ad.2.1<=size - l.length/\
  tK k ad l size=if k=0 then((ad.1.take (ad.2.1:Nat)).1,l++(ad.1.take (ad.2.1:Nat)).2.data.toList)else(ad.1,vz ad.2.1 ad.2.1 ad.2.2 l):=by
 unfold tK at h|-;by_cases h0:ad.1.f=0
 .rw[As (not_not_intro h0)]at h|-
  by_cases A:(k≠0/\(ad.2.2=0\/l.length<ad.2.2))\/size - l.length<ad.2.1
  .rw[AC A]at h
   unfold RS.fail at h;rw[AC h0]at h;cases h
  .rw[As A]
   exact⟨h0,λhk=>by omega,K,rfl⟩
 .rw[AC h0]at h;exact absurd h h0
def XQ{r:RS}{size:Nat}(ho:r.Ok)(h0:r.f=0)(J:r.p<r.t.size)(hl:l.length<=size)(h:(qQ r l size).1.f=0):
  ∃ae:0<r.rest.size,ElS (r.rest[0]'ae).toNat r.rest l size (qQ r l size).1.rest (qQ r l size).2:=by
 have C:=zD ho;refine⟨K,?_⟩;have hb:(r.rest[0]' K)=r.t[r.p]:=by
  unfold RS.rest;rw[ByteArray.getElem_extract];rfl
 rw[hb];have N:r.byte=(⟨r.t,r.p+1,0⟩,(r.t[r.p].toNat:Int)):=by
  unfold RS.byte;rw[AC h0,dif_pos J]
 unfold qQ at h|-;rw[N]at h|-;generalize r.t[r.p].toNat=b at*;obtain⟨t,p,f⟩:=r;dsimp only at*;have aa:(⟨t,p+1,0⟩:RS).Ok:=⟨J,ho.2⟩;have af:((b:Int)).toNat=b:=K;rw[af]at h|-;have ag:(⟨t,p,f⟩:RS).rest=t.extract p t.size:=rfl;rw[ag]at C|-;have C:(t.extract p t.size).size=t.size - p:=C;obtain⟨b1,I,b3,b4⟩:=a4Y h;obtain⟨E,g2⟩:=a4X aa b1;rw[b4]at h|-;rw[g2]at h b1 I b3|-;dsimp only at*;refine⟨K,?_⟩;by_cases A:b % 4=0
 .left
  rw[AC A]at h|-;rw[AC A]at h b3|-;have hok:(⟨t,p+uz b,0⟩:RS).Ok:=⟨E,ho.2⟩;obtain⟨_,_,t3,t4,t5⟩:=VI h hok;have e:((KV b (t.extract p t.size):Nat):Int).toNat=KV b (t.extract p t.size):=K;rw[e]at t3 t4 t5;dsimp only at t3 t4 t5;generalize KV b (t.extract p t.size)=n at*;rw[t4,t5,C];refine⟨A,K,K,?_,?_⟩
  .rw[Im t (p+uz b) n 0 t3]
   have:=Im t p (uz b) 0 E;have e3:(t.extract p t.size).extract (uz b) (t.size - p)=t.extract (p+uz b) t.size:=this.symm;rw[e3];congr 1;omega
  .show l++(t.extract (p+uz b) (p+uz b+n)).data.toList=l++_
   have:=Im t p (uz b) 0 E;have e3:(t.extract p t.size).extract (uz b) (t.size - p)=t.extract (p+uz b) t.size:=this.symm;rw[e3,ByteArray.extract_extract,nk,mr t3]
 .right
  simp only[As A]at h I b3|-;obtain⟨c1,c2⟩:=I A;refine⟨A,c1,c2,K,?_,by first|trivial|rfl⟩;rw[Im t p (uz b) 0 E,C]
def TE{P:lQ}{s:jX}(T:qj P t e s){ops:Array lJ}{rest:List lJ}{o:lJ}{a:Act}{Q:Exit->Act->M->Prop}(E:o.guard=V)(x y:Operand)(ho:o.op=.call {callee:=.builtin .append,args:=#[x,y],argTypes:=#[t,t]})(B:Nat)(v:jC)(l m:List Ax)(q c n:Nat)(w:M)(I:a.eval x=v)(C:qP w B e v l)(hn:n=m.length)(hy:a.eval y=u (U (Z q 0 V)) n c)(A:∀j ao,(oh m)[j]? =U ao->w.cell? (Z q j V)=U ao)(hlen:l.length+m.length<=140737488355328)(hB:B<=w.heap.size)(h:∀v' w',qP w' B e v' (l++m)->w.grownBy w' v.ownBlock->wpList P ops Q rest (a.put o.dst v') w'):
  wpList P ops Q (o::rest) a w:=by
 subst hn;obtain⟨v',w',J,N,aa,_⟩:=ED (w:=w) T o.type C m (Z q 0 V) c (λj ao ae=>by
  have e1:((Z q 0 V):kW).add j=(Z q j V):=GQ;rw[e1];exact A j ao ae) hlen hB
 refine wpList_plain E λam af=> ?_
 unfold Oper.wp execOp;simp only[ho,resolve,invoke,builtin,Sem.run_bind,Sem.run_pure,Result.andThen_ok,List.map_toArray,mf,ng,I,hy,J];exact af _ _ (h v' w' N aa)
def qP.ql{w':M}{v:jC}(h:qP w B e v l)(hg:w.grownBy w' v.ownBlock)(hB:B<=w.heap.size):jD B w w':=
 rF.below (F:=λd=>v.ownBlock=U d) (rF.grown hg λ_ e=>e) (λc hc A=>by have:=(h.blk c A).1;omega) hB
def qP.pos{oa:Option kW}{cap:Nat}(h:qP w B e (u oa n cap) l)(hl:0<l.length):∃q,oa=U (Z q 0 V):=by
 rcases h with⟨_,rfl⟩|⟨q,cap,E,I,A,_⟩
 .cases hl
 .injection A with C _ _
  exact⟨q,C⟩
structure EK(lr:List Ax)(bk i:Nat)(L:List Ax):Prop where
 len:L.length=lr.length+i
 pre:L.take lr.length=lr
 eq:∀q,q<i->L[lr.length - bk+q]? =L[lr.length+q]?
def EK.start(lr:List Ax)(bk:Nat):EK lr bk 0 lr:=⟨rfl,lM,λq h=>by omega⟩
def EK.step(h:EK lr bk i L)(hb:1<=bk)(hl:bk<=lr.length){x:Ax}(A:L[L.length - bk]? =U x):EK lr bk (i+1) (L++[x]):=by
 have hn:=h.len;refine⟨by rw[jK,hn];rfl,by rw[List.take_append_of_le_length K];exact h.pre,λq C=> ?_⟩;by_cases e:q=i
 .subst e
  rw[l6 K,show lr.length - bk+q=L.length - bk by omega,A,mZ K,show lr.length+q - L.length=0 by omega];rfl
 .rw[l6 K,l6 K]
  exact h.eq q K
def EK.fin(h:EK lr bk n L)(hb:1<=bk)(hl:bk<=lr.length):vz n n bk lr=L:=by
 have hn:=h.len;have:=JY (L:=L) n n lr.length (lr.length - bk) (jB _) K K h.eq;rw[show lr.length -(lr.length - bk)=bk by omega,h.pre,kS K]at this;exact this
structure EI(n:Nat)(ab:RS×List Ax)(s:An)(l:List Ax):Prop where
 le:l.length<=n
 run:∃(F:Nat) (r:RS),r.Ok/\r.f=0/\s=r.rest/\vg n F r l=ab/\r.t.size - r.p<F/\r.t.size<=100000
def EI.nil{ab:RS×List Ax}(h:EI n ab s l)(h0:s.size=0):ab.2=l:=by
 obtain⟨F,r,C,E,rfl,A,I,_⟩:=h.run;rw[zD C]at h0;cases F with
 |zero=>omega
 |succ F=>
  unfold vg at A;rw[As K]at A;rw[<-A]
def EI.size{ab:RS×List Ax}(h:EI n ab s l):s.size<=100000:=by
 obtain⟨F,r,A,C,rfl,E,I,J⟩:=h.run;rw[zD A];omega
def EI.step{ab:RS×List Ax}(h:EI n ab s l)(h0:0<s.size)(aa:ab.1.f=0):∃E ae,ElS s[0].toNat s l n E ae/\EI n ab E ae/\E.size<s.size:=by
 obtain⟨F,r,I,J,rfl,A,aj,ag⟩:=h.run;have ah:=zD I;have hp:r.p<r.t.size:=K;cases F with
 |zero=>omega
 |succ F=>
  unfold vg at A;rw[AC ⟨J,hp⟩]at A;have C:(qQ r l n).1.f=0:=by
   refine Classical.byContradiction λC=> ?_
   have:vg n F (qQ r l n).1 (qQ r l n).2=((qQ r l n).1,(qQ r l n).2):=by
    cases F with
    |zero=>rfl
    |succ F=>unfold vg;rw[As (λc=>C c.1)]
   rw[this]at A;rw[<-A]at aa;exact C aa
  obtain⟨e1,e2⟩:=XQ I J hp h.le C;obtain⟨N,ak,af,ai⟩:=yu I h.le J hp;refine⟨_,_,e2,⟨ai,F,(qQ r l n).1,af,C,rfl,A,by rw[N];omega,by rw[N];exact ag⟩,?_⟩;rw[zD af,ah,N];omega
def EI.start(hs:s.size<=100000):EI n (vg n (s.size+1) (RS.of s) []) s []:=
 ⟨ko _,s.size+1,RS.of s,RS.Ok.of K,rfl,by show s=s.extract 0 s.size;rw[ByteArray.extract_zero_size],rfl,by show s.size - 0<s.size+1;omega,hs⟩
def a1N(h:p:=by
 rintro e w3 ⟨rfl,rfl⟩;go_wp2_with (at_builtin;refine TE Cr rfl _ _ rfl g (u oa L cap) lr ac.data.toList _ cp NN w2 rfl HO2 HXS.2.symm rfl HCL (by have:=HL.out;have:=HXS.out;omega) HB2.2 ?_;intro v2 w4 h1 h2;have HF:=H (jF h1 h2);obtain⟨so,sc,rfl⟩:=h1.len;clear h1 h2);have KQ:jI (lr.length+ac.size=l'.length):=H (by rw[HL'.out,jK];congr 1);have HBX:jI (jD g w w4):=H (HB2.1.trans (qP.ql HO2 HF.2 HB2.2));have HOX:jI (qP w4 g 5 (u so l'.length sc) l'):=H (by have h:=HF.1;rw[<-HL'.out]at h;exact h);exact⟨⟨s',l',so,sc,by rw[HS'.out],by rw[KQ.out],HE2,HOX,HBX⟩,by rw[<-HS'.out];exact hlt⟩):p:=h
def a5H(h:p:=by
 go_wp2_with fail;refine(CH _ a1O).mono ?_;rintro e w3 ⟨rfl,rfl⟩;go_wp2_with fail;refine(CL _).mono ?_;rintro e w3 ⟨rfl,rfl⟩;go_wp2_with fail;go_loopw [6,14] (λov iv wi=>∃(i:Nat) (L1:List Ax) (oa1:Option kW) (a1P:Nat),ov=u oa1 L1.length a1P/\iv=Y X i/\i<=cn/\jI (qP wi g 5 (u oa1 L1.length a1P) L1)/\jI (EK lr bk i L1)/\jI (jD g w wi)) (λ_ iv _=>cn -(kC iv).toNat);case atStart=>exact⟨0,lr,oa,cap,by rw[HL.out],rfl,ko _,H (by rw[HL.out];exact HO),H (EK.start lr bk),HB⟩
 case round=>
  obtain⟨i,L1,oa1,a1P,rfl,rfl,hi,HO1,HC1,HB1⟩:=hrel;by_cases ci:i<cn
  .obtain⟨Ln,hLn⟩:=og L1.length
   have hl9:Ln=L+i:=by rw[<-hLn,HC1.len,HL.out]
   have hq:=HQ.out;obtain⟨x,hx⟩:∃x,L1[Ln - bk]? =U x:=⟨_,jL K⟩;obtain⟨dd,hdd⟩:=og (Ln - bk);have d7:(Ln:Int) -(bk:Int)=(dd:Int):=K;rw[hdd]at hx;rw[hLn]at HO1|-;obtain⟨q,rfl⟩:=HO1.pos K;have hcell:=HO1.cells (g:=q) rfl dd (Y .u8 (x.toNat:Int)) (by simp[oh,hx]);have HC2:=H (HC1.step hq.1 (by rw[HL.out];omega) (x:=x) (by rw[hLn,hdd];exact hx));have hdl:dd<Ln:=K;have b2j:Ln<=70000:=K;have b2k:dd<=70000:=K;have HGW:jI (g<=wr.heap.size/\Ln<=70000/\L1.length=Ln):=H ⟨by have:=HB1.size;have:=HG.out;omega,K,hLn⟩;clear hq hx hdd hl9 hLn HC1;go_wp2_with (at_builtin;refine vX Cr rfl _ _ rfl g (u (U (Z q 0 V)) Ln a1P) L1 [x] 1 rfl wr _ rfl rfl HO1 rfl (by have:=HGW.out;omega) HGW.1 ?_;intro v2 w4 h1 h2 _;have HF:=H (jF h1 h2);obtain⟨so,sc,rfl⟩:=h1.len;clear h1 h2);have HBX:jI (jD g w w4):=H (HB1.trans (qP.ql HO1 HF.2 HGW.1));go_roundw;case rel=>exact⟨i+1,L1++[x],so,sc,by rw[jK];rfl,by go_num,K,H HF.1,HC2,HBX⟩
   case measure=>simp[kC];omega
  .obtain rfl:i=cn:=K
   have HFN:jI (l'=L1):=H (by rw[HL'.out];exact HC1.fin HQ.1 (by rw[HL.out];exact HQ.2.1));have HE3:jI (EI n ab s' L1):=H (by rw[<-HFN.out];exact HE2);go_wp2_with fail;exact⟨⟨s',L1,oa1,a1P,by rw[HS'.out],rfl,HE3,HO1,HB1⟩,by rw[<-HS'.out];exact hlt⟩):p:=h
def N8(s:An)(n:Nat)(l:List Ax)(w:M)(hn:n<=65536)(hs:s.size<=100000)(h:y7 s n=.ok l):
  jG jy 115 #[G s,Y X n] w λe w'=>e=nK (nJ #[G ⟨l.toArray⟩,Y X 0])/\jD w.heap.size w w':=by
 obtain⟨ab,aJ⟩:=og (vg n (s.size+1) (RS.of s) []);have aP:jI (EI n ab s []):=H (aJ▸EI.start hs);have aA:jI (ab.1.f=0/\ab.2=l/\n<=ab.2.length):=H (by
  unfold y7 at h;rw[aJ]at h;dsimp only at h;by_cases hl:ab.2.length<n
  .rw[AC hl,AC (by unfold RS.fail;split<;>first|assumption|simp)]at h
   cases h
  .rw[As hl]at h
   by_cases aK:ab.1.f=0
   .rw[As (not_not_intro aK)]at h
    injection h with h
    exact⟨aK,h,K⟩
   .rw[AC aK]at h;cases h)
 obtain⟨g,hg⟩:=og w.heap.size;have HG:=H hg;rw[hg];clear h aJ hs hg;go_in;go_wp2_with fail;go_loopw [0,6] (λsv ov wi=>∃(A:An) (lr:List Ax) (oa:Option kW) (cap:Nat),sv=G A/\ov=u oa lr.length cap/\jI (EI n ab A lr)/\jI (qP wi g 5 (u oa lr.length cap) lr)/\jI (jD g w wi)) (λsv _ _=>match sv with| G t=>t.size|_=>0);case atStart=>exact⟨s,[],V,0,rfl,rfl,aP,H (.inl ⟨rfl,rfl⟩),H (jE _ _)⟩
 case round=>
  obtain⟨A,lr,oa,cap,rfl,rfl,ah,HO,HB⟩:=hrel;obtain⟨L,hL⟩:=og lr.length;have HL:=H hL;rw[hL]at HO|-;have hLn:L<=n:=hL▸ah.le;have hsz:=ah.size;clear hL;by_cases c:0<A.size
  .obtain⟨s',l',aQ,aG,hlt⟩:=ah.step c aA.1
   obtain⟨B,hB⟩:=og (A[0]);obtain⟨b,hb⟩:=og B.toNat;have a1O:b<=255:=by have:=B.toNat_lt;omega
   rw[hB,hb]at aQ;have HE2:=H aG;obtain⟨aW,I⟩:=aQ;obtain⟨k,hk⟩:=og (uz b);have bu:1<=k/\k<=5:=by rw[<-hk];unfold uz;(repeat' split)<;>omega
   rw[hk]at aW I;have CH:=QJ b;rw[hk]at CH;have CH:=H CH;obtain⟨v,aL⟩:∃v:Nat,b/4=v:=⟨_,rfl⟩;obtain⟨m,aM⟩:∃m:Nat,b % 4=m:=⟨_,rfl⟩;have e1:(b:Int).tdiv 4=(v:Int):=by rw[Int.tdiv_eq_ediv_of_nonneg K,<-aL];omega
   have e2:(b:Int).tmod 4=(m:Int):=by rw[Int.tmod_eq_emod_of_nonneg K,<-aM];omega
   have aX:v<=63:=K;have ae:(A.extract 1 k).size<=4:=by rw[jP];omega
   have CL:=H (λW=>N7 (A.extract 1 k) W ae);unfold KV XO XP at I;rw[hk,aL,aM]at I;clear aM aL hk ae aG;obtain⟨ai,ak⟩:=og (pQ (A.extract 1 k).data.toList);have bz:ai<4294967296:=by
    rw[<-ak];have h1:=sZ (A.extract 1 k).data.toList;have h2:(A.extract 1 k).data.toList.length<=4:=by simp[jP];omega
    exact ME
   rw[ak]at CL I;clear ak;have aH:(A.extract k A.size).size=A.size - k:=by rw[jP];omega
   obtain⟨rs,ae⟩:=og (A.extract 1 k);obtain⟨au,aR⟩:=og (A.extract k A.size);rw[ae]at CL;rw[aR]at I aH;rw[HL.out]at I;rcases I with⟨rfl,av,aB,aj,aa⟩|⟨I,av,aB,aj,aa,aC⟩
   .obtain⟨NN,J⟩:=og ((if 60<=v then ai+1 else v+1))
    rw[J]at av aB aj aa;rw[<-aH]at av;have af:(au.extract 0 NN).size=NN:=by rw[jP];omega
    obtain⟨cp,w2,ax,aD,N,aS,_,_⟩:=FP (P:=jy) (t:=86) (e:=5) (s:=9) Cr (au.extract 0 NN) K wr;rw[af]at ax aD;obtain⟨ac,aT⟩:=og (au.extract 0 NN);have aI:ac.data.toList.length=NN:=by rw[<-af,aT];simp
    rw[aT]at ax aD aa;have HCL:=H (aD.cells rfl);have HO2:=H (HO.below N);have bA:=H N;have HB2:jI (jD g w w2/\g<=w2.heap.size):=H ⟨HB.trans (N.mono (by have:=HB.size;have:=HG.out;omega)),by have:=HB.size;have:=HG.out;have:=N.size;omega⟩;have HS':=H aj;have HL':=H aa;have n1:At ((NN:Int)>(n:Int) -(L:Int))=O:=nY;have n3:At ((NN:Int)>(au.size:Int))=O:=nY;have aY:At ((au.size:Int)<(NN:Int))=O:=nY;have HXS:=H (jF af aI);clear aj aa aD N aS ah af aI;by_cases ag:60<=v
    .have aZ:At ((v:Int)>=60)=R:=nY
     rw[AC ag]at J;have bg:(ai:Int)+1=(NN:Int):=K;clear J ag;go_wp2_with fail;refine(CH _ a1O).mono ?_;rintro e w3 ⟨rfl,rfl⟩;go_wp2_with fail;refine(CL _).mono ?_;exact a1N
    .have aZ:At ((v:Int)>=60)=O:=nY
     rw[As ag]at J;have bg:(v:Int)+1=(NN:Int):=K;clear J ag;go_wp2_with fail;refine(CH _ a1O).mono ?_;exact a1N
   .obtain⟨cn,E⟩:=og ((if m=1 then 4+v % 8 else v+1))
    obtain⟨bk,C⟩:=og ((if m=1 then v/8*256+ai else ai));rw[E]at aj aC;rw[C]at av aB aC;have HS':=H aa;have HL':=H aC;have t0:((m:Int)==0)=O:=vo;have bC:((bk:Int)==0)=O:=vo;have n1:At ((bk:Int)>(L:Int))=O:=nY;have bD:At (L<bk)=O:=decide_eq_false K;have n3:At ((cn:Int)>(n:Int) -(L:Int))=O:=nY;have aY:At ((n:Int) -(L:Int)<(cn:Int))=O:=nY;have HQ:jI (1<=bk/\bk<=L/\L+cn<=n/\n<=65536):=H ⟨av,aB,aj,hn⟩;clear I aa aC ah;by_cases aF:m=1
    .have u1:((m:Int)==1)=R:=Ot
     rw[AC aF]at E C;obtain⟨aU,ay⟩:=og (v % 8);obtain⟨aN,az⟩:=og (v/8);have e3:(v:Int).tmod 8=(aU:Int):=by rw[Int.tmod_eq_emod_of_nonneg K,<-ay];omega
     have e4:(v:Int).tdiv 8=(aN:Int):=by rw[Int.tdiv_eq_ediv_of_nonneg K,<-az];omega
     rw[ay]at E;rw[az]at C;have d5:(4:Int)+(aU:Int)=(cn:Int):=K;have d6:(aN:Int)*256+(ai:Int)=(bk:Int):=K;have bq:aN<=7:=K;clear E C ay az aF;exact a5H
    .have u1:((m:Int)==1)=O:=vo
     rw[As aF]at E C;have d5:(v:Int)+1=(cn:Int):=K;rw[C]at CL;clear E C aF;exact a5H
  .have h0:=ah.nil K
   have aO:jI (n<=L/\lr=l):=H (by have:=aA.out;have:=HL.out;exact⟨by rw[<-HL.out,<-h0];exact aA.2.2,h0▸aA.2.1⟩);have bB:n<=L:=aO.1;have ax:(convert 86 9 (u oa L cap)).run jy wr=.ok (G ⟨lr.toArray⟩) wr:=qP.string Cr HO.out;clear h0;have aV:jI ((⟨lr.toArray⟩:An)=⟨l.toArray⟩):=H (by rw[aO.2]);generalize (⟨lr.toArray⟩:An)=T at*;clear aO hsz;go_wp2;go_returns;exact⟨by rw[<-aV.out];rfl,HB.out⟩
def BB(h:p:=by
 generalize oL ⟨f,m,fr,un,de,it⟩=ar at*;clear HR;go_in;go_upto_region 1 with fail;generalize w.alloc _=w1 at*;obtain⟨hb1,c0,c1,c2,c3,c4,c5⟩:=HW.out _ rfl;have H1:=H hb1;clear HW hb1;go_wp2;go_returns;exact⟨by rw[HE.out];rfl,H1.out⟩):p:=h
def GL(c:oO)(w:M):jG jy 39 #[c.v] w λe w'=>e=nK (nH (oL c))/\jD w.heap.size w w':=by
 have HW:=H (wu (w:=w) c (t:=uk));obtain⟨g,hg⟩:=og w.heap.size;have HR:jI (oL c=(within c.fmt 3&&within c.pV 65536&&within c.qH 65536&&within c.dep 16&&within c.pq 1024)):=H rfl;rw[hg]at HW|-;obtain⟨f,m,fr,un,de,it⟩:=c;unfold oO.v oO.cs;dsimp only at HW HR|-;by_cases h0:1<=f;case neg=>
  have HE:jI (oL ⟨f,m,fr,un,de,it⟩=O):=H (by rw[HR.out];unfold within;simp[h0]);exact BB
 by_cases A:f<=3;case neg=>
  have HE:jI (oL ⟨f,m,fr,un,de,it⟩=O):=H (by rw[HR.out];unfold within;simp[A]);exact BB
 by_cases C:1<=fr;case neg=>
  have HE:jI (oL ⟨f,m,fr,un,de,it⟩=O):=H (by rw[HR.out];unfold within;simp[C]);exact BB
 by_cases E:fr<=65536;case neg=>
  have HE:jI (oL ⟨f,m,fr,un,de,it⟩=O):=H (by rw[HR.out];unfold within;simp[E]);exact BB
 by_cases I:1<=un;case neg=>
  have HE:jI (oL ⟨f,m,fr,un,de,it⟩=O):=H (by rw[HR.out];unfold within;simp[I]);exact BB
 by_cases J:un<=65536;case neg=>
  have HE:jI (oL ⟨f,m,fr,un,de,it⟩=O):=H (by rw[HR.out];unfold within;simp[J]);exact BB
 by_cases N:1<=de;case neg=>
  have HE:jI (oL ⟨f,m,fr,un,de,it⟩=O):=H (by rw[HR.out];unfold within;simp[N]);exact BB
 by_cases aa:de<=16;case neg=>
  have HE:jI (oL ⟨f,m,fr,un,de,it⟩=O):=H (by rw[HR.out];unfold within;simp[aa]);exact BB
 by_cases ae:1<=it;case neg=>
  have HE:jI (oL ⟨f,m,fr,un,de,it⟩=O):=H (by rw[HR.out];unfold within;simp[ae]);exact BB
 by_cases af:it<=1024;case neg=>
  have HE:jI (oL ⟨f,m,fr,un,de,it⟩=O):=H (by rw[HR.out];unfold within;simp[af]);exact BB
 have HE:jI (oL ⟨f,m,fr,un,de,it⟩=R):=H (by rw[HR.out];unfold within;simp[h0,A,C,E,I,J,N,aa,ae,af]);exact BB
def N9(s:An)(most:Int)(n k:Nat)(l:List Ax)(w:M)(hs:s.size<=100000)(A:oC s.data.toList 0 0=(n,k,0))(E:(n:Int)<=most/\most<=65536)(hl:y7 (s.extract k s.size) n=.ok l):
  jG jy 77 #[G s,Y X most] w λe w'=>e=nK (nJ #[G ⟨l.toArray⟩,Y X 0])/\jD w.heap.size w w':=by
 obtain⟨I,_,_,J⟩:=qN A;have C:s.data.toList.length=s.size:=nX;have N:=H (Kb s n k w xe A K K);have aa:=H (N8 (s.extract k s.size) n l w K (by rw[jP];omega) hl);have af:At ((n:Int)>most)=O:=nY;have ae:k<=s.size:=K;generalize (⟨l.toArray⟩:An)=T at*;clear A hl E I J C;go_in;go_wp2_with fail;refine N.mono ?_;rintro e w2 ⟨rfl,rfl⟩;go_wp2_with fail;refine aa.mono ?_;rintro e w3 ⟨rfl,hb⟩;go_wp2;go_returns;exact⟨rfl,hb⟩
def TF{C:Int}{mt m2:Option (Nat×MS)}(h:ry s C mt=(.ok l,m2)):∃n k,oC s.data.toList 0 0=(n,k,0)/\n<=4294967295/\(n:Int)<=C/\y7 (s.extract k s.size) n=.ok l:=by
 unfold ry at h;rcases A:tJ s.data.toList with⟨n,k,e⟩
 rw[A]at h;dsimp only at h;split at h;.cases h
 .rename_i he
  obtain rfl:e=0:=Classical.not_not.1 he;split at h;.cases h
  .rename_i I
   split at h;.cases h
   .injection h with E _
    refine⟨n,k,?_,(K6 A).2,K,E⟩;unfold tJ at A;split at A
    .split at A
     .cases A
     .exact A
    .rename_i h0
     injection A with _ A
     injection A with _ A
     exact absurd A h0
def TG(most I:Int)(s pk:An)(id n:Nat)(l:List Ax)(mt m2:Option (Nat×MS))(w:M)(aA:0<=most/\most<=65536)(au:I<=65536)(hs:s.size<=100000)(hp:o5 most s=⟨id,pk,n,0⟩)(av:ry pk I mt=(.ok l,m2)):
  jG jy 42 #[Y X most,Y X I,G s] w λe w'=>∃z:Nat,e=nK (nJ #[nI #[Y nN id,G ⟨#[]⟩,G ⟨l.toArray⟩],Y X n,Y X z,Y X 0])/\jD w.heap.size w w':=by
 obtain⟨N,am,ae,aB,aC,ax⟩:=TF av;have af:pk.size<=100000:=by have:=Dk most s;rw[hp]at this;dsimp only at this;omega
 have aD:jI (∀W,jG jy 41 #[Y X most,G s] W λe w'=>e=nK (nJ #[nI #[Y nN id,G ⟨#[]⟩,G pk],Y X n,Y X 0])/\jD W.heap.size W w'):=H λW=>by
  have:=Rm most s W K xe;rw[hp]at this;exact this
 have aF:=H (λW=>Kb pk N am W xe ae aB (qN ae).2.2.2);have aG:=H (λW=>N9 pk I N am l W af ae ⟨aC,au⟩ ax);have aO:At ((N:Int)>I)=O:=nY;generalize (⟨l.toArray⟩:An)=T at*;obtain⟨g,hg⟩:=og w.heap.size;have ag:jI (∀W,w.alloc (nL #[Y nN 0,G ⟨#[]⟩,G ⟨#[]⟩] rq)=W->nU W g #[Y nN 0,G ⟨#[]⟩,G ⟨#[]⟩] rq/\jD g w W/\W.heap.size=g+1):=H λW aj=>by
  subst aj;exact⟨hg▸nU.new w _ _,hg▸(jE w.heap.size w).alloc (jB _) _,by simp[hg]⟩
 rw[hg];clear hp av ae ax aA af;go_in;go_upto_region 1 with fail;obtain⟨A,C,ah⟩:=ag.out _ rfl;generalize w.alloc _=w1 at*;have aH:=H (jF A (jF C ah));clear ag A C ah;go_wp2_with fail;refine(aD _).mono ?_;rintro e w2 ⟨rfl,hb⟩;obtain⟨f,aI⟩:=og w2.heap.size;have ai:jI (∀W,w2.alloc (nL #[Y nN id,G ⟨#[]⟩,G pk] rq)=W->nU W g #[Y nN 0,G ⟨#[]⟩,G ⟨#[]⟩] rq/\nU W f #[Y nN id,G ⟨#[]⟩,G pk] rq/\jD g w W):=H λW aj=>by
  subst aj;obtain⟨E,J,ak⟩:=aH.out;have aP:=hb.size;have kb:=(Below.blk hb E E.lt);have ay:=(jE w2.heap.size w2).alloc (jB _) (nL #[Y nN id,G ⟨#[]⟩,G pk] rq);exact⟨Below.blk ay kb kb.lt,aI▸nU.new w2 _ _,J.trans ((hb.mono K).trans (ay.mono K))⟩
 clear hb;go_upto_region 4 with fail;obtain⟨A,aa,C⟩:=ai.out _ rfl;generalize w2.alloc _=w3 at*;have az:=H (jF A (jF aa C));have f2:=aa.c2;clear ai A aa C;go_wp2_with fail;refine(aF _).mono ?_;rintro e w4 ⟨rfl,rfl⟩;go_wp2_with fail;refine(aG _).mono ?_;rintro e w5 ⟨rfl,hb⟩;obtain⟨E,J,ak⟩:=az.out;have r1:=Below.blk hb E E.lt;have r2:=Below.blk hb J J.lt;have aJ:jI (∀a b c,jD g w (((w5.setCell (Z g 0 V) a).setCell (Z g 1 V) b).setCell (Z g 2 V) c)):=H λa b c=>
  (((ak.trans (hb.mono (by have:=E.lt;omega))).setCell (p:=(Z g 0 V)) (jB g) a).setCell (p:=(Z g 1 V)) (jB g) b).setCell (p:=(Z g 2 V)) (jB g) c
 obtain⟨c0,c1,c2,aQ,e1,e2⟩:=r1.b3;have aR:=r2.c0;have aK:jI (∀a b c,nU (((w5.setCell (Z g 0 V) a).setCell (Z g 1 V) b).setCell (Z g 2 V) c) g #[a,b,c] rq):=H λa b c=>((r1.set 0 a).set 1 b).set 2 c
 clear hb E J ak r1 r2 f2 az;go_wp2_with fail;obtain⟨aL,aM,aN⟩:=(aK (Y nN id) (G ⟨#[]⟩) (G T)).a3;exact jO (v:=nJ #[nI #[Y nN id,G ⟨#[]⟩,G T],Y X n,Y X N,Y X 0]) (by simp[kF,Tryz.results42,go_sem,aL,aM,aN]) rfl ⟨N,rfl,aJ _ _ _⟩
abbrev TH:jX:=33
def GM(E:Array jC)(c:oO)(s pk:An)(id n:Nat)(l:List Ax)(mt m2:Option (Nat×MS))(w:M)(hc:oL c=R)(ah:c.fmt=3)(hs:s.size<=100000)(hp:o5 c.pV s=⟨id,pk,n,0⟩)(J:ry pk c.qH mt=(.ok l,m2)):
  jG jy 16 #[nI E,c.v,G s] w λe w'=>∃z:Nat,e=nK (nJ #[nI #[Y nN id,G ⟨#[]⟩,G ⟨l.toArray⟩],Y X n,Y X z,Y X 0])/\jD w.heap.size w w':=by
 obtain⟨_,⟨r1,r2⟩,⟨r3,r4⟩,_⟩:=p8 hc;have N:=H (λW=>GL c W);rw[hc]at N;have ai:=H (λW=>TG c.pV c.qH s pk id n l mt m2 W K K hs hp J);generalize (⟨l.toArray⟩:An)=T at*;obtain⟨g,hg⟩:=og w.heap.size;have I:jI (∀W,((w.alloc (nL E TH)).alloc (nL #[Y X c.fmt,Y nO c.mag,Y X c.pV,Y X c.qH,Y X c.dep,Y X c.pq] uk)).alloc (nL #[Y nN 0,G ⟨#[]⟩,G ⟨#[]⟩] rq)=W->nU W (g+2) #[Y nN 0,G ⟨#[]⟩,G ⟨#[]⟩] rq/\nU W (g+1) #[Y X c.fmt,Y nO c.mag,Y X c.pV,Y X c.qH,Y X c.dep,Y X c.pq] uk/\jD g w W):=H λW aj=>by
  subst aj;have ak:(w.alloc (nL E TH)).heap.size=g+1:=by simp[hg]
  have A:=nU.new (w.alloc (nL E TH)) #[Y X c.fmt,Y nO c.mag,Y X c.pV,Y X c.qH,Y X c.dep,Y X c.pq] uk;have au:((w.alloc (nL E TH)).alloc (nL #[Y X c.fmt,Y nO c.mag,Y X c.pV,Y X c.qH,Y X c.dep,Y X c.pq] uk)).heap.size=g+2:=by simp[hg]
  have aa:=nU.new ((w.alloc (nL E TH)).alloc (nL #[Y X c.fmt,Y nO c.mag,Y X c.pV,Y X c.qH,Y X c.dep,Y X c.pq] uk)) #[Y nN 0,G ⟨#[]⟩,G ⟨#[]⟩] rq;rw[ak]at A;rw[au]at aa;exact⟨aa,A.alloc _,hg▸(((jE w.heap.size w).alloc (jB _) _).alloc nX _).alloc nY _⟩
 have aB:(c.fmt==1)=O:=vo;have aC:(c.fmt==2)=O:=vo;unfold oO.v oO.cs at*;rw[hg];clear hp J hc ah r1 r2 r3 r4;go_in;go_upto_region 1 with fail;obtain⟨C,A,b1⟩:=I.out _ rfl;generalize ((w.alloc _).alloc _).alloc _=w1 at*;obtain⟨c0,c1,c2,c3,c4,c5⟩:=A.a6;have ae:=H (jF C (jF A b1));clear I C A b1;go_wp2_with fail;refine(N _).mono ?_;rintro e w2 ⟨rfl,hb⟩;obtain⟨C,A,b1⟩:=ae.out;have af:=H (jF (Below.blk hb C C.lt) (b1.trans (hb.mono (by have:=C.lt;omega))));have A:=Below.blk hb A A.lt;clear c0 c1 c2 c3 c4 c5 hb C b1 ae;have c0:=A.c0;have c2:=A.c2;have c3:=A.c3;clear A;go_wp2_with fail;refine(ai _).mono ?_;rintro e w5 ⟨z,rfl,hb⟩;obtain⟨A,ag⟩:=af.out;have r1:=Below.blk hb A A.lt;have av:jI (∀a b c,jD g w (((w5.setCell (Z (g+2) 0 V) a).setCell (Z (g+2) 1 V) b).setCell (Z (g+2) 2 V) c)):=H λa b c=>
  (((ag.trans (hb.mono (by have:=A.lt;omega))).setCell (p:=(Z (g+2) 0 V)) (by show g<=g+2;omega) a).setCell (p:=(Z (g+2) 1 V)) (by show g<=g+2;omega) b).setCell (p:=(Z (g+2) 2 V)) (by show g<=g+2;omega) c
 obtain⟨b0,b1,aD,aF,e1,e2⟩:=r1.b3;have ax:jI (∀a b c,nU (((w5.setCell (Z (g+2) 0 V) a).setCell (Z (g+2) 1 V) b).setCell (Z (g+2) 2 V) c) (g+2) #[a,b,c] rq):=H λa b c=>((r1.set 0 a).set 1 b).set 2 c
 clear hb A ag r1 c0 c2 c3 af;go_wp2_with fail;obtain⟨ay,az,aA⟩:=(ax (Y nN id) (G ⟨#[]⟩) (G T)).a3;exact jO (v:=nJ #[nI #[Y nN id,G ⟨#[]⟩,G T],Y X n,Y X z,Y X 0]) (by simp[kF,Tryz.results16,go_sem,ay,az,aA]) rfl ⟨z,rfl,av _ _ _⟩
end
section
def wV(f3 f2:Nat->Nat)(ps:List Nat):List Nat:=
 (ll 64).map (λi=>if i<ps.length then f3 (ps.getD i 0)else 0)++(ll 8).map (λi=>if i<ps.length then f2 (ps.getD i 0)else 0)
def tV(f3 f2:Nat->Nat)(ps:List Nat):(wV f3 f2 ps).length=72:=by simp[wV]
def Oa{p:Nat}(h:i<ps.length):(ps++[p]).getD i 0=ps.getD i 0:=by
 rw[kL,l6 h,kL]
def Ob{p:Nat}:(ps++[p]).getD ps.length 0=p:=by
 rw[kL,mZ (jB _)];simp
def EL(f:Nat->Nat)(ps:List Nat)(p i:Nat):(if i<(ps++[p]).length then f ((ps++[p]).getD i 0)else 0)=if i=ps.length then f p else if i<ps.length then f (ps.getD i 0)else 0:=by
 rw[jK,List.length_singleton];by_cases h:i=ps.length
 .subst h
  rw[AC K,AC rfl,Ob]
 .rw[As h]
  by_cases A:i<ps.length;.rw[AC K,AC A,Oa A]
  .rw[As K,As A]
def wD(f3 f2:Nat->Nat)(ps:List Nat)(i:Nat):(wV f3 f2 ps)[i]? =if i<64 then U (if i<ps.length then f3 (ps.getD i 0)else 0)else if i<72 then U (if i - 64<ps.length then f2 (ps.getD (i - 64) 0)else 0)else V:=by
 unfold wV;by_cases h:i<64;.rw[l6 (by simpa using h),List.getElem?_map,List.getElem?_range h,AC h];rfl
 .rw[mZ nY,List.getElem?_map,As h]
  simp only[List.length_map,List.length_range];by_cases A:i<72;.rw[List.getElem?_range K,AC A];rfl
  .rw[List.getElem?_eq_none nY,As A];rfl
def VJ(h:p:=by
 by_cases h2:i<64;.rw[AC h2,AC h2]
 .rw[As h2,As h2]
  by_cases h3:i<72;.rw[AC h3,AC h3,As (show¬i - 64=ps.length by omega)]
  .rw[As h3,As h3]):p:=h
def XR(f3 f2:Nat->Nat)(ps:List Nat)(p n:Nat)(hn:n=ps.length)(E:8<=n)(A:n<64):(wV f3 f2 ps).set n (f3 p)=wV f3 f2 (ps++[p]):=by
 subst hn;apply List.ext_getElem?;intro i;rw[List.getElem?_set,tV,wD,wD,EL,EL];by_cases C:ps.length=i
 .subst C
  rw[AC rfl,AC K,AC A,AC rfl]
 .rw[As C,As (show¬i=ps.length by omega)]
  exact VJ
def XT(f3 f2:Nat->Nat)(ps:List Nat)(p n:Nat)(hn:n=ps.length)(E:n<8):((wV f3 f2 ps).set n (f3 p)).set (64+n) (f2 p)=wV f3 f2 (ps++[p]):=by
 subst hn;apply List.ext_getElem?;intro i;rw[List.getElem?_set,List.getElem?_set,List.length_set,tV,wD,wD,EL,EL];by_cases A:64+ps.length=i
 .subst A
  rw[AC rfl,AC K,As K,AC K,AC K]
 .rw[As A]
  by_cases C:ps.length=i
  .subst C
   rw[AC rfl,AC K,AC K,AC rfl]
  .rw[As C,As (show¬i=ps.length by omega)]
   exact VJ
def TI(p d:Nat):Bool:=(ll (d - 2)).all λe=>At (0<p %(e+2))
def Mg(p d:Nat)(h:2<=d):TI p (d+1)=(TI p d&&At (0<p % d)):=by
 unfold TI;obtain⟨e,rfl⟩:∃e,d=e+2:=⟨d - 2,K⟩;rw[show e+2+1 - 2=e+1 by omega,show e+2 - 2=e by omega,List.range_succ,List.all_append];simp
def QK(p:Nat):TI p p=isP p:=rfl
def pK(p:Nat):List Nat:=((ll (p - 2)).map (.+2)).filter isP
def KW:pK 2=[]:=rfl
def EM(p:Nat)(h:2<=p):pK (p+1)=pK p++(if isP p then [p]else []):=by
 unfold pK;obtain⟨e,rfl⟩:∃e,p=e+2:=⟨p - 2,K⟩;rw[show e+2+1 - 2=e+1 by omega,show e+2 - 2=e by omega,List.range_succ,List.map_append,List.filter_append];congr 1;rw[mf,ng,List.filter_cons];rfl
def QL(p:Nat)(h:2<=p)(hp:TI p p=R):pK (p+1)=pK p++[p]:=by
 rw[EM p h,AC (by rw[<-QK];exact hp)]
def TJ(p:Nat)(h:2<=p)(hp:TI p p=O):pK (p+1)=pK p:=by
 rw[EM p h,As (by rw[<-QK,hp];decide),List.append_nil]
def QM:pK 312=Us:=Wh
def Kc:((ll 312).all λp=>At ((pK p).length<64))=R:=xH
def TK(p:Nat)(h:p<312):(pK p).length<64:=by
 have:=lN.1 Kc p (mJ.2 h);simpa using this
def QN:(pK 312).length=64:=by rw[QM];rfl
def XU:List Nat:=wV (λp=>Gm p 3) (λp=>Gm p 2) (pK 312)
def qR(l:List Nat):Nat:=l.foldr (λd acc=>d+65536*acc) 0
def vZ(d:Nat)(l:List Nat):qR (d::l)=d+65536*qR l:=rfl
def BC(l m:List Nat):qR (l++m)=qR l+65536^l.length*qR m:=by
 induction l with
 |nil=>simp[qR]
 |cons d r A=>rw[List.cons_append,vZ,A,vZ,j4,kV,Nat.mul_add,<-Nat.mul_assoc,Nat.mul_comm 65536 (65536^r.length),kK]
def Ke:∀(l:List Nat)(i x:Nat),i<l.length->qR (l.set i x)+65536^i*l.getD i 0=qR l+65536^i*x
 |[],i,x,h=>by simp at h
 |d::r,0,x,_=>by simp[vZ];omega
 |d::r,i+1,x,h=>by
  have A:=Ke r i x (by simpa using h);simp only[jR,vZ,List.getD_cons_succ,kV];have e:∀y,65536^i*65536*y=65536*(65536^i*y):=λy=>by rw[Nat.mul_comm (65536^i) 65536,Nat.mul_assoc]
  rw[e,e];omega
def EN:∀ l:List Nat,(∀d∈l,d<65536)->qR l<65536^l.length
 |[],_=>by simp[qR]
 |d::r,h=>by
  have C:=EN r λx A=>h x (by simp[A])
  have h0:=h d nX;rw[vZ,j4,kV];omega
def a1Q(h:qR o+65536^m*(x/65536)=T)(C:T<65536^o.length)(E:65536<=x):m<o.length:=by
 have A:1<=x/65536:=K;have I:65536^m*1<=65536^m*(x/65536):=Nat.mul_le_mul_left _ A;exact(Nat.pow_lt_pow_iff_right nT).1 (show 65536^m<65536^o.length by omega)
def TM(h:qR o+65536^m*(x/65536)=T)(A:m<o.length):
  qR (o.set m ((x/65536+o.getD m 0) % 65536))+65536^(m+1)*((x/65536+o.getD m 0)/65536)=T:=by
 have C:=Ke o m ((x/65536+o.getD m 0) % 65536) A;generalize o.getD m 0=d at*;generalize x/65536=q at*;have E:65536^m*((q+d) % 65536)+65536^(m+1)*((q+d)/65536)=65536^m*q+65536^m*d:=by
  rw[kV,Nat.mul_assoc,<-Nat.mul_add,<-Nat.mul_add];congr 1;omega
 omega
def a1R{j c:Nat}(A:j<o.length):
  qR (o.set j ((o.getD j 0+c) % 65536))+65536^(j+1)*((o.getD j 0+c)/65536)=qR o+65536^j*c:=by
 have C:=Ke o j ((o.getD j 0+c) % 65536) A;generalize o.getD j 0=d at*;have E:65536^j*((d+c) % 65536)+65536^(j+1)*((d+c)/65536)=65536^j*d+65536^j*c:=by
  rw[kV,Nat.mul_assoc,<-Nat.mul_add,<-Nat.mul_add];congr 1;omega
 omega
def BD(l:List Nat)(i:Nat)(h:i<l.length):qR (l.take (i+1))=qR (l.take i)+65536^i*l.getD i 0:=by
 rw[List.take_succ_eq_append_getElem h,BC,kD,mr K];congr 2;rw[kL,jL h];rfl
def TN(h:∀d∈o,d<65536)(i x:Nat):∀d∈o.set i (x % 65536),d<65536:=by
 intro d hd;rcases List.mem_or_eq_of_mem_set hd with A|A
 .exact h d A
 .rw[A];exact Nat.mod_lt _ nT
def prod_bound{b:List Nat}(C:∀d∈a,d<65536)(hb:∀d∈b,d<65536)(E:x<=qR a)(hy:y<=qR b):x*y<65536^(a.length+b.length):=by
 have I:=EN a C;have A:=EN b hb;rw[Nat.pow_add];have J:=Nat.mul_le_mul E hy;have N:qR a*qR b<65536^a.length*65536^b.length:=Nat.mul_lt_mul_of_lt_of_le I (Nat.le_of_lt A) (mi (ko _) A);omega
def EO(l:List Nat)(k:Nat):qR (l.take k)<=qR l:=by
 have h:=BC (l.take k) (l.drop k);rw[mO]at h;omega
def FY(a b:List Nat)(i k:Nat):Nat:=qR (a.take i)*qR b+65536^i*(a.getD i 0*qR (b.take k))
def XV(a b:List Nat)(i:Nat):FY a b i 0=qR (a.take i)*qR b:=by
 unfold FY;simp[qR]
def VK(a b:List Nat)(i:Nat)(h:i<a.length):FY a b i b.length=qR (a.take (i+1))*qR b:=by
 unfold FY;rw[lM,BD a i h,lT,Nat.mul_assoc]
def a1S(a b:List Nat)(i k:Nat)(h:k<b.length):FY a b i k+65536^(i+k)*(a.getD i 0*b.getD k 0)=FY a b i (k+1):=by
 unfold FY;rw[BD b k h,Nat.mul_add (a.getD i 0),Nat.mul_add (65536^i),Nat.pow_add,kK];congr 2;rw[Nat.mul_assoc];congr 1;exact Nat.mul_left_comm _ _ _
def a7F{b:List Nat}(A:∀d∈a,d<65536)(hb:∀d∈b,d<65536)(i k:Nat)(h:i<a.length):FY a b i k<65536^(a.length+b.length):=by
 refine mi ?_ (prod_bound A hb (EO a (i+1)) (jB (qR b)));rw[<-VK a b i h];unfold FY;exact Nat.add_le_add_left (Nat.mul_le_mul_left _ (Nat.mul_le_mul_left _ (by rw[lM];exact EO b k))) _
def getD_lt(A:∀d∈a,d<65536)(i:Nat):a.getD i 0<65536:=by
 rw[kL];by_cases h:i<a.length;.rw[jL h];exact A _ (List.getElem_mem h)
 .rw[List.getElem?_eq_none K];decide
def vK(o:List Nat)(m x T:Nat):Prop:=qR o+65536^m*(x/65536)=T
def vK.in_(h:vK o m x T)(A:T<65536^n)(ho:o.length=n)(C:65536<=x):m<n:=by
 subst ho;exact a1Q h A C
def vK.step{d:Nat}(h:vK o m x T)(A:m<o.length)(hd:d=o.getD m 0):vK (o.set m ((x/65536+d) % 65536)) (m+1) (x/65536+d) T:=by
 subst hd;exact TM h A
def vK.done(h:vK o m x T)(A:x<65536):qR o=T:=by
 have C:qR o+65536^m*(x/65536)=T:=h;rwa [Nat.div_eq_of_lt A,Nat.mul_zero,nk]at C
def vK.start{b:List Nat}{j z p:Nat}(A:j+k<o.length)(E:z=o.getD (j+k) 0)(hk:k<b.length)(ho:qR o=FY a b j k)(hp:p=a.getD j 0*b.getD k 0):
  vK (o.set (j+k) ((z+p) % 65536)) (j+k+1) (z+p) (FY a b j (k+1)):=by
 have C:=a1R (o:=o) (j:=j+k) (c:=p) A;subst E;rw[ho,hp,a1S a b j k hk]at C;rw[hp];exact C
def XW{z:Nat}(A:x<65536)(hy:y<65536)(C:z<65536):z+x*y<4294967296:=by
 have E:x*y<=65535*65535:=Nat.mul_le_mul K K;omega
def Mh(h:∀d∈o,d<65536)(k:Nat)(hk:k<=o.length):qR (o.drop k)=qR o/65536^k:=by
 have A:=BC (o.take k) (o.drop k);have C:=EN (o.take k) λd hd=>h d (List.mem_of_mem_take hd)
 rw[mO,kD,mr hk]at A;rw[kD,mr hk]at C;rw[A,Nat.add_mul_div_left _ _ (Nat.pow_pos nT),Nat.div_eq_of_lt C,mU]
def qB(o:List Nat)(k whole:Nat):Prop:=whole=qR (o.drop k)
def qB.start(o:List Nat)(n:Nat)(h:o.length=n):qB o n 0:=by
 unfold qB;rw[List.drop_of_length_le K];rfl
def qB.step{d:Nat}(h:qB o (k+1) whole)(hk:k<o.length)(hd:d=o.getD k 0):qB o k (whole*65536+d):=by
 unfold qB at*;rw[nA hk,vZ,<-h,hd,kL,jL hk];show whole*65536+o[k]=o[k]+65536*whole;omega
def qB.lt(h:qB o k whole)(ho:∀d∈o,d<65536)(hk:o.length<=k+2):whole<4294967296:=by
 unfold qB at h;have A:=EN (o.drop k) λd hd=>ho d (List.mem_of_mem_drop hd)
 rw[kG]at A;have C:65536^(o.length - k)<=65536^2:=lG nT K;omega
def b0Z:(65536:Nat)^4=2^(32*2):=nT
def b03:(65536:Nat)^6=2^(32*3):=nT
def qB.a9C(h:qB o 4 whole)(ho:∀d∈o,d<65536)(hl:o.length=6)(A:qR o=y*y):whole=y^2/2^(32*2):=by
 unfold qB at h;rw[h,Mh ho 4 K,A,b0Z,Nat.pow_two]
def qB.a9D(h:qB o 6 whole)(ho:∀d∈o,d<65536)(hl:o.length=9)(A:qR o=y*y*y):whole=y^3/2^(32*3):=by
 unfold qB at h;have e:y^3=y*y*y:=by rw[kV,Nat.pow_two]
 rw[h,Mh ho 6 K,A,b03,e]
def KX(y:Nat):List Nat:=[y % 65536,y/65536 % 65536,y/4294967296]
def QO(y:Nat):qR (KX y)=y:=by
 show y % 65536+65536*(y/65536 % 65536+65536*(y/4294967296+65536*0))=y;omega
def VL(y:Nat)(h:y<68719476736):∀d∈KX y,d<65536:=by
 intro d hd;unfold KX at hd;simp only[l5,List.not_mem_nil,or_false]at hd;rcases hd with rfl|rfl|rfl<;>omega
def rU(p Oo n A x ar:Nat):Prop:=Ff p Oo n A x=ar/\A=2^n/2
def rU.start(p Oo:Nat):rU p Oo 36 34359738368 0 (Ff p Oo 36 34359738368 0):=⟨rfl,nT⟩
def rU.step{p A ar:Nat}(h:rU p Oo n A x ar)(hb:0<A)(E:whole=(x+A)^Oo/2^(32*Oo)):
  ∃m,rU p Oo m (A/2) (if whole<p then x+A else x) ar:=by
 obtain⟨I,C⟩:=h;obtain⟨m,rfl⟩:∃m,n=m+1:=by
  cases n with
  |zero=>simp at C;omega
  |succ m=>exact⟨m,rfl⟩
 refine⟨m,?_,by rw[C,kV];omega⟩;rw[E];exact I
def rU.yes{p A ar:Nat}(h:rU p Oo n A x ar)(hb:0<A)(E:whole=(x+A)^Oo/2^(32*Oo))(hc:whole<p):∃m,rU p Oo m (A/2) (x+A) ar:=by
 obtain⟨m,C⟩:=h.step hb E;rw[AC hc]at C;exact⟨m,C⟩
def rU.no{p A ar:Nat}(h:rU p Oo n A x ar)(hb:0<A)(E:whole=(x+A)^Oo/2^(32*Oo))(hc:¬whole<p):∃m,rU p Oo m (A/2) x ar:=by
 obtain⟨m,C⟩:=h.step hb E;rw[As hc]at C;exact⟨m,C⟩
def rU.done{p ar:Nat}(h:rU p Oo n 0 x ar):x=ar:=by
 obtain⟨C,A⟩:=h;cases n with
 |zero=>exact C
 |succ m=>rw[kV,Nat.mul_div_cancel _ nT]at A;exact absurd A.symm (Nat.ne_of_gt (Nat.pow_pos nT))
end
section
open Go.RowKit Go.Shelf
def dC(l:List Nat):Array jC:=(l.map λd:Nat=>lC nN (d:Int)).toArray
def FZ(l:List Nat)(i:Nat)(h:i<l.length):(dC l)[i]? =U (Y nN ((l.getD i 0:Nat):Int)):=by
 unfold dC;simp[jL h]
def a7G(l:List Nat)(i x:Nat):(dC l).setIfInBounds i (Y nN (x:Int))=dC (l.set i x):=by
 unfold dC;simp[List.map_set]
def a1T:∃i,Tryz.prog.info? 50=U i/\i.zero=U (Y nN 0)/\i.size=1/\i.bytes=8:=by
 have h:(Tryz.prog.info? 50).map (λi=>(i.zero,i.size,i.bytes))=U (U (Y nN 0),1,8):=nV;obtain⟨i,hi,A⟩:=Option.map_eq_some_iff.1 h;simp only[Prod.mk.injEq]at A;exact⟨i,hi,A.1,A.2.1,A.2.2⟩
def QP(n:Nat)(L:Int)(hL:L=n)(hn:n<=1000)(w:M):(Instr.makeSlice 112 (Y X L) (Y X L)).run jy w=
  .ok (u (U (Z w.heap.size 0 V)) n n) (w.alloc (nL (dC (ky n 0)) 50)):=by
 subst hL;obtain⟨i,hi,A,hs,hb⟩:=a1T;have C:=run_make (P:=jy) w 112 50 i (.int .u64 0) Tryz.underlying112 hi A .i64 .i64 (n:Int) (n:Int) K K (by rw[hb];omega) K;have e:madeCells #[.int .u64 0] n=dC (ky n 0):=by
  apply Array.ext';rw[toList_madeCells_one];simp[dC]
 simpa [hs,Value.cells,e]using C
structure BG(W:M)(bo n v:Nat)(o:List Nat):Prop where
 blk:nU W bo (dC o) 50
 len:o.length=n
 Yr:∀d∈o,d<65536
 val:qR o=v
def BG.drewN{bo v:Nat}(h:BG W bo n v o)(k:Nat):BG (W.drewN k) bo n v o:=⟨h.blk,h.len,h.Yr,h.val⟩
def Below.drewN'{ao v:M}(h:jD B ao v)(n:Nat):jD B ao (v.drewN n):=⟨h.os,h.tape,h.output,h.size,h.block⟩
def BG.put{bo v:Nat}(h:BG W bo n v o)(i x:Nat)(y:Int)(hy:y=((x % 65536:Nat):Int)):BG (W.setCell (Z bo i V) (Y nN y)) bo n (qR (o.set i (x % 65536))) (o.set i (x % 65536)):=by
 subst hy;exact⟨by have:=h.blk.set i (Y nN ((x % 65536:Nat):Int));rwa [a7G]at this,by rw[List.length_set,h.len],TN h.Yr i x,rfl⟩
def BG.same{bo v:Nat}(h:BG W bo n v o){ao:Nat}(e:qR o=ao):BG W bo n ao o:=⟨h.blk,h.len,h.Yr,e⟩
def QQ(a b:List Nat)(ba J:Nat)(w:M)(az:nU w ba (dC a) 50)(hB:nU w J (dC b) 50)(aF:∀d∈a,d<65536)(hb:∀d∈b,d<65536)(bB:a.length<=8)(bC:b.length<=8):
  jG jy 55 #[u (U (Z ba 0 V)) a.length a.length,u (U (Z J 0 V)) b.length b.length] w λe w'=>
   ∃bo o,e=nK (u (U (Z bo 0 V)) (a.length+b.length) (a.length+b.length))/\w.heap.size<=bo/\BG w' bo (a.length+b.length) (qR a*qR b) o/\jD w.heap.size w w':=by
 have aG:=QP (a.length+b.length) ((a.length:Int)+(b.length:Int)) K K w
 have aH:BG (w.alloc (nL (dC (ky (a.length+b.length) 0)) 50)) w.heap.size (a.length+b.length) 0 (ky (a.length+b.length) 0):=
  ⟨nU.new w _ _,nX,by intro d hd;rw[List.eq_of_mem_replicate hd];decide,by
   generalize a.length+b.length=n;induction n with
   |zero=>rfl
   |succ n aZ=>rw[List.replicate_succ,vZ,aZ]⟩
 have aI:=az.lt;have aJ:=hB.lt;have aK:=H (nU.alloc az (nL (dC (ky (a.length+b.length) 0)) 50));have af:=H (nU.alloc hB (nL (dC (ky (a.length+b.length) 0)) 50));have ag:=H ((jE w.heap.size w).alloc (jB _) (nL (dC (ky (a.length+b.length) 0)) 50));have aL:=H aH;clear aH;go_in;go_wp2_with fail;obtain⟨n,hn⟩:=og (a.length+b.length);obtain⟨B,I⟩:=og w.heap.size;have aA:=H hn;have bg:n<=16:=K;have ah:=H I;have N:=jF aL.out (jF aK.out (jF af.out ag.out));rw[hn,I]at N;rw[I]at aI aJ;have N:=H N;rw[hn,I];clear aL aK af ag aG az hB hn I;go_loopw [6] (λi wr=>∃(j:Nat) (o:List Nat),i=Y X j/\j<=a.length/\jI (BG wr B n (qR (a.take j)*qR b) o)/\jI (nU wr ba (dC a) 50/\nU wr J (dC b) 50/\jD B w wr)) (λi _=>a.length -(kC i).toNat);case atStart=>exact⟨0,_,rfl,ko _,by have:=N.1;simpa [jI,qR]using this,N.2⟩
 case round=>
  obtain⟨j,o,rfl,bF,A,C⟩:=hrel;by_cases c:j<a.length
  .have aM:=H aF
   have aN:=H hb;clear aF hb;obtain⟨x,aB⟩:∃x,x=a.getD j 0:=⟨_,rfl⟩;have aO:x<65536:=aB▸getD_lt aM j;have ai:=H aB;clear aB;go_wp2_with fail;go_loopw [7] (λi wr=>∃(k:Nat) (o:List Nat),i=Y X k/\k<=b.length/\jI (BG wr B n (FY a b j k) o)/\jI (nU wr ba (dC a) 50/\nU wr J (dC b) 50/\jD B w wr)) (λi _=>b.length -(kC i).toNat);case atStart=>exact⟨0,o,rfl,ko _,by rw[XV];exact A,C⟩
   case round=>
    clear A C o;obtain⟨k,o,rfl,hk,A,C⟩:=hrel;by_cases aP:k<b.length
    .have aj:j+k<n:=by have:=aA.out;omega
     obtain⟨y,hy⟩:∃y,y=b.getD k 0:=⟨_,rfl⟩;obtain⟨z,aa⟩:∃z,z=o.getD (j+k) 0:=⟨_,rfl⟩;have aQ:y<65536:=hy▸getD_lt aN k;have aR:z<65536:=aa▸getD_lt A.Yr (j+k);have aS:wr.cell? (Z B (j+k) V)=U (Y nN (z:Int)):=by rw[A.blk.cell,FZ _ _ (by rw[A.len];exact aj),aa]
     have aT:wr.frozen? (Z B (j+k) V)=O:=A.blk.free _;have bq:wr.cell? (Z ba j V)=U (Y nN (x:Int)):=by rw[C.1.cell,FZ _ _ c,ai.out]
     have g2:wr.cell? (Z J k V)=U (Y nN (y:Int)):=by rw[C.2.1.cell,FZ _ _ aP,hy]
     have aU:=H hy;have ak:=H aa;clear hy aa;have au:=XW aO aQ aR;obtain⟨p,hp⟩:∃p,p=x*y:=⟨_,rfl⟩;rw[<-hp]at au;have bu:IntKind.u64.wrap ((x:Int)*(y:Int))=(p:Int):=by
      rw[IntKind.wrap_u64,hp];have e:((x:Int)*(y:Int))=((x*y:Nat):Int):=nX;rw[e,<-hp];omega
     have av:jI (p=a.getD j 0*b.getD k 0):=by rw[<-ai.out,<-aU.out];exact hp
     clear hp;go_wp2_with fail;go_quiet (fail);go_wp2_with fail;have aC:=a7F aM aN j (k+1) c;rw[aA.out]at aC;have bz:=H aC;clear aC aS aT bq g2;go_loopw [8,9] (λbA mv wr=>∃(m E:Nat) (o:List Nat),bA=Y nN E/\mv=Y X m/\m<=n/\E<4294967296/\jI (BG wr B n (qR o) o)/\jI (vK o m E (FY a b j (k+1)))/\jI (nU wr ba (dC a) 50/\nU wr J (dC b) 50/\jD B w wr)) (λ_ mv _=>n -(kC mv).toNat);case atStart=>
      have aV:=A.drewN nq;refine⟨j+k+1,z+p,o.set (j+k) ((z+p) % 65536),by go_num,by go_num,K,au,aV.put (j+k) (z+p) _ K,?_,nU.setOther (C.1.drewN nq) nY _,nU.setOther (C.2.1.drewN nq) nY _,?_⟩;.exact vK.start (by rw[A.len];exact aj) ak aP A.val av.out
      .exact(Below.drewN' C.2.2 nq).setCell (jB _) _
     case round=>
      clear A C ak av o;obtain⟨m,E,o,rfl,rfl,aG,bD,A,ae,C⟩:=hrel;by_cases aD:65536<=E
      .have ax:m<n:=by
        exact ae.in_ bz A.len aD
       obtain⟨d,hd⟩:∃d,d=o.getD m 0:=⟨_,rfl⟩;have bE:d<65536:=hd▸getD_lt A.Yr m;have aS:wr.cell? (Z B m V)=U (Y nN (d:Int)):=by rw[A.blk.cell,FZ _ _ (by rw[A.len];exact ax),hd]
       have aT:wr.frozen? (Z B m V)=O:=A.blk.free _;have aW:=H hd;clear hd;have ht:At ((65536:Int)<=(E:Int))=R:=nY;clear aD;go_wp2_with fail;refine⟨⟨m+1,E/65536+d,o.set m ((E/65536+d) % 65536),by go_num,by go_num,K,K,A.put m (E/65536+d) _ K,?_,nU.setOther C.1 nY _,nU.setOther C.2.1 nY _,C.2.2.setCell (jB _) _⟩,by simp[kC];omega⟩;exact ae.step (by rw[A.len];exact ax) aW.out
      .have ay:=ae.done K
       have aX:=H (A.same ay);have ht:At ((65536:Int)<=(E:Int))=O:=nY;clear ae ay A aD;go_wp2_with fail;exact⟨⟨k+1,o,by go_num,K,aX,C⟩,by simp[kC];omega⟩
    .obtain rfl:k=b.length:=K
     have aY:=VK a b j c;go_wp2_with fail;exact⟨⟨j+1,o,by go_num,K,aY▸A,C⟩,by simp[kC];omega⟩
  .obtain rfl:j=a.length:=K
   go_wp2;go_returns;have hd:=A.out;rw[lM]at hd;have hn:=aA.out;subst hn;exact⟨B,o,rfl,by rw[ah.out];exact jB _,hd,ah.out▸C.2.2⟩
def QR(y:Nat)(a b c:Int)(A:a=((y % 65536:Nat):Int))(hb:b=((y/65536 % 65536:Nat):Int))(hc:c=((y/4294967296:Nat):Int)):
  (#[Y nN a,Y nN b,Y nN c]:Array jC)=dC (KX y):=by
 subst A;subst hb;subst hc;rfl
def Ah(a b:List Nat)(la lb ba A:Nat)(w:M)(I:nU w ba (dC a) 50)(hB:nU w A (dC b) 50)(J:∀d∈a,d<65536)(hb:∀d∈b,d<65536)(C:a.length=la)(E:b.length=lb)(N:la<=8)(aa:lb<=8):
  jG jy 55 #[u (U (Z ba 0 V)) la la,u (U (Z A 0 V)) lb lb] w λe w'=>
   ∃bo o,e=nK (u (U (Z bo 0 V)) (la+lb) (la+lb))/\w.heap.size<=bo/\BG w' bo (la+lb) (qR a*qR b) o/\jD w.heap.size w w':=by
 subst C;subst E;exact QQ a b ba A w I hB J hb N aa
def a1U(h:p:=by
 clear hG CV;by_cases cp:whole<p
 .obtain⟨m,hm⟩:=hF.yes c hwh cp
  have HM:=H hm;clear hm hwh;go_wp2_with fail;exact⟨⟨m,x+bit,bit/2,by go_num,by go_num,K,HM,hb,hBw⟩,by simp[kC];omega⟩
 .obtain⟨m,hm⟩:=hF.no c hwh cp
  have HM:=H hm;clear hm hwh;go_wp2_with fail;exact⟨⟨m,x,bit/2,by go_num,by go_num,K,HM,hb,hBw⟩,by simp[kC];omega⟩):p:=h
def a1V(h:p:=by
 have HDE:=H hd;clear hd;have e1:((j+1:Nat):Int) - 1=(j:Int):=K;rw[e1];go_wp2_with fail;exact⟨⟨j,whole*65536+d,by go_num,by go_num,K,K,hG.step (by rw[CV.len];omega) HDE.out,CV,hb,hBw⟩,by simp[kC];omega⟩):p:=h
def XX(p:Nat)(hp:p<4294967296)(w:M):
  jG jy 30 #[Y nN p,Y X 2] w λe w'=>e=nK (Y nO (Gm p 2:Nat))/\jD w.heap.size w w':=by
 have aj:=rU.start p 2;obtain⟨ar,ak⟩:∃ar,ar=Ff p 2 36 34359738368 0:=⟨_,rfl⟩;have E:Gm p 2=ar % 4294967296:=by rw[ak];rfl
 rw[E];rw[<-ak]at aj;have au:=H aj;clear E ak aj;obtain⟨B,hB⟩:=og w.heap.size;have av:=H hB;rw[hB];clear hB;go_in;go_wp2_with fail;go_loopw [5,6] (λaC bv wr=>∃(n x bit:Nat),aC=Y nN x/\bv=Y nN bit/\x+2*bit<=68719476736/\jI (rU p 2 n bit x ar)/\jD B w wr/\B<=wr.heap.size) (λ_ bv _=>(kC bv).toNat);case atStart=>exact⟨36,0,34359738368,rfl,rfl,K,au,av.out▸jE _ _,lZ av.symm⟩
 case round=>
  obtain⟨n,x,bit,rfl,rfl,aK,hF,hb,ax⟩:=hrel;by_cases c:0<bit
  .go_upto_region 7 with fail
   have hy:x+bit<68719476736:=K;have I:=VL (x+bit) hy;have J:=QO (x+bit);rw[QR (x+bit) _ _ _ K K K];have N:(KX (x+bit)).length=3:=rfl;refine uj (λW=>nU W wr.heap.size (dC (KX (x+bit))) 50/\jD B w W) ⟨nU.new wr _ _,hb.alloc ax _⟩ ?_;obtain⟨D,ay⟩:∃D,D=KX (x+bit):=⟨_,rfl⟩;rw[<-ay]at I J N|-;have af:=H I;have az:=H J;have ag:=H N;generalize wr.heap.size=bd at*;clear ay hb I J N wr;rintro wr ⟨hk,hb⟩;have aA:=hk.lt;have ae:=H hk;have A:=H hb;clear hk hb;go_wp2_with fail;refine(Ah D D 3 3 bd bd _ ae ae af af ag ag nT nT).mono ?_;rintro e w1 ⟨aB,o,rfl,aF,CV,C⟩;have ah:=Below.blk C ae aA;have ai:=A.trans (C.mono K);rw[az.out]at CV;have aG:=C.size;have ae:=H ah;have A:=H ai;have aa:=H CV;clear ah ai CV C;go_wp2_with fail;go_loopw [10,11] (λaD iv wr=>∃(k whole:Nat),aD=Y nN whole/\iv=Y X ((k:Int) - 1)/\k<=6/\4<=k/\jI (qB o k whole)/\jI (BG wr aB 6 ((x+bit)*(x+bit)) o)/\jD B w wr/\B<=wr.heap.size) (λ_ iv _=>(kC iv).toNat);case atStart=>exact⟨6,0,rfl,by go_num,K,K,qB.start o 6 aa.len,aa,A.out,K⟩
   case round=>
    clear aa A;obtain⟨k,whole,rfl,rfl,hk,aH,hG,CV,hb,hBw⟩:=hrel;by_cases aL:4<k
    .obtain⟨j,rfl⟩:∃j,k=j+1:=⟨k - 1,K⟩
     have aI:=hG.lt CV.Yr (by rw[CV.len];omega);obtain⟨d,hd⟩:∃d,d=o.getD j 0:=⟨_,rfl⟩;have aJ:d<65536:=hd▸getD_lt CV.Yr j;have aM:wr.cell? (Z aB j V)=U (Y nN (d:Int)):=by rw[CV.blk.cell,FZ _ _ (by rw[CV.len];omega),hd]
     exact a1V
    .obtain rfl:k=4:=K
     have hwh:=hG.a9C CV.Yr CV.len CV.val;exact a1U
  .obtain rfl:bit=0:=K
   obtain rfl:=hF.done;go_wp2;go_returns;exact⟨nX,hb⟩
def XY(p:Nat)(hp:p<4294967296)(w:M):
  jG jy 30 #[Y nN p,Y X 3] w λe w'=>e=nK (Y nO (Gm p 3:Nat))/\jD w.heap.size w w':=by
 have ax:=rU.start p 3;obtain⟨ar,ay⟩:∃ar,ar=Ff p 3 36 34359738368 0:=⟨_,rfl⟩;have J:Gm p 3=ar % 4294967296:=by rw[ay];rfl
 rw[J];rw[<-ay]at ax;have az:=H ax;clear J ay ax;obtain⟨B,hB⟩:=og w.heap.size;have aA:=H hB;rw[hB];clear hB;go_in;go_wp2_with fail;go_loopw [5,6] (λaF bv wr=>∃(n x bit:Nat),aF=Y nN x/\bv=Y nN bit/\x+2*bit<=68719476736/\jI (rU p 3 n bit x ar)/\jD B w wr/\B<=wr.heap.size) (λ_ bv _=>(kC bv).toNat);case atStart=>exact⟨36,0,34359738368,rfl,rfl,K,az,aA.out▸jE _ _,lZ aA.symm⟩
 case round=>
  obtain⟨n,x,bit,rfl,rfl,aP,hF,hb,aB⟩:=hrel;by_cases c:0<bit
  .go_upto_region 7 with fail
   have hy:x+bit<68719476736:=K;have N:=VL (x+bit) hy;have aa:=QO (x+bit);rw[QR (x+bit) _ _ _ K K K];have ae:(KX (x+bit)).length=3:=rfl;refine uj (λW=>nU W wr.heap.size (dC (KX (x+bit))) 50/\jD B w W) ⟨nU.new wr _ _,hb.alloc aB _⟩ ?_;obtain⟨D,aC⟩:∃D,D=KX (x+bit):=⟨_,rfl⟩;rw[<-aC]at N aa ae|-;have af:=H N;have ak:=H aa;have ag:=H ae;generalize wr.heap.size=bd at*;clear aC hb N aa ae wr;rintro wr ⟨hk,hb⟩;have aD:=hk.lt;have ah:=H hk;have C:=H hb;clear hk hb;go_wp2_with fail;refine(Ah D D 3 3 bd bd _ ah ah af af ag ag nT nT).mono ?_;rintro e w1 ⟨aG,o,rfl,aI,CV,I⟩;have au:=Below.blk I ah aD;have E:=C.trans (I.mono K);rw[ak.out]at CV;have aJ:=I.size;have ah:=H au;have C:=H E;have A:=H CV;clear au E CV I;go_wp2_with fail;refine(Ah o D 6 3 aG bd _ A.blk ah A.Yr af A.len ag nT nT).mono ?_;rintro e w2 ⟨av,aj,rfl,aK,CV,ai⟩;have E:=C.trans (ai.mono K);rw[ak.out,A.val]at CV;have aL:=ai.size;have C:=H E;clear A;have A:=H CV;clear E CV ai;go_wp2_with fail;go_loopw [10,11] (λaH iv wr=>∃(k whole:Nat),aH=Y nN whole/\iv=Y X ((k:Int) - 1)/\k<=9/\6<=k/\jI (qB aj k whole)/\jI (BG wr av 9 ((x+bit)*(x+bit)*(x+bit)) aj)/\jD B w wr/\B<=wr.heap.size) (λ_ iv _=>(kC iv).toNat);case atStart=>exact⟨9,0,rfl,by go_num,K,K,qB.start aj 9 A.len,A,C.out,K⟩
   case round=>
    clear A C;obtain⟨k,whole,rfl,rfl,hk,aM,hG,CV,hb,hBw⟩:=hrel;by_cases aQ:6<k
    .obtain⟨j,rfl⟩:∃j,k=j+1:=⟨k - 1,K⟩
     have aN:=hG.lt CV.Yr (by rw[CV.len];omega);obtain⟨d,hd⟩:∃d,d=aj.getD j 0:=⟨_,rfl⟩;have aO:d<65536:=hd▸getD_lt CV.Yr j;have aR:wr.cell? (Z av j V)=U (Y nN (d:Int)):=by rw[CV.blk.cell,FZ _ _ (by rw[CV.len];omega),hd]
     exact a1V
    .obtain rfl:k=6:=K
     have hwh:=hG.a9D CV.Yr CV.len CV.val;exact a1U
  .obtain rfl:bit=0:=K
   obtain rfl:=hF.done;go_wp2;go_returns;exact⟨nX,hb⟩
end
section
open Go.RowKit
variable {P:lQ}
def nU.setRow{b:Nat}{cs:Array jC}(h:nU w b cs t)(A:Array jC):nU (w.setRow b A) b A t:=setRow_heap w b cs A t (0,0) h
def Below.setRow{g:Nat}{w0:M}(hb:jD B w0 w)(hBg:B<=g)(cs:Array jC):jD B w0 (w.setRow g cs):=below_setRow hb hBg cs
end
section
open Go.RowKit Go.Shelf
def kA(l:List Nat):Array jC:=(l.map λd:Nat=>lC nO (d:Int)).toArray
def Cg(l:List Nat):(kA l).size=l.length:=by simp[kA]
def a1W(l:List Nat)(i:Nat)(h:i<l.length):(kA l)[i]? =U (Y nO ((l.getD i 0:Nat):Int)):=by
 unfold kA;simp[jL h]
def a7H(l:List Nat)(i x:Nat):(kA l).setIfInBounds i (Y nO (x:Int))=kA (l.set i x):=by
 unfold kA;simp[List.map_set]
def a1X(l:List Nat):(kA l).all (·.oneCell')=R:=by
 rw[Array.all_eq_true_iff_forall_mem];intro v A;unfold kA at A;simp at A;obtain⟨d,_,rfl⟩:=A;rfl
def EP:(Tryz.prog.info? 33).map (λi=>(i.zero,i.size))=U (U (nI (kA (ky 72 0))),72):=nV
def a1Y(f3 f2:Nat->Nat):wV f3 f2 []=ky 72 0:=by
 unfold wV;simp;decide
structure a1Z(f3 f2:Nat->Nat):Prop where
 three:∀(p:Nat)(w:M),p<4294967296->jG jy 30 #[Y nN p,Y X 3] w λe w'=>e=nK (Y nO (f3 p:Nat))/\jD w.heap.size w w'
 two:∀(p:Nat)(w:M),p<4294967296->jG jy 30 #[Y nN p,Y X 2] w λe w'=>e=nK (Y nO (f2 p:Nat))/\jD w.heap.size w w'
def a4Z:a1Z (λp=>Gm p 3) (λp=>Gm p 2):=⟨λp w h=>XY p h w,λp w h=>XX p h w⟩
structure ER(B bk br:Nat)(w0 w:M)(L:List Nat):Prop where
 key:nU w bk (kA L) 33
 res:nU w br (kA (ky 72 0)) 33
 below:jD B w0 w
def ER.after{br:Nat}{w0 w':M}{L:List Nat}(h:ER B bk br w0 w L)(hb:jD w.heap.size w w')(hB:B<=w.heap.size):ER B bk br w0 w' L:=
 ⟨Below.blk hb h.key h.key.lt,Below.blk hb h.res h.res.lt,h.below.trans (hb.mono hB)⟩
def ER.put{br:Nat}{w0:M}{L:List Nat}(h:ER B bk br w0 w L)(hk:B<=bk)(A:br≠bk)(i x:Nat):ER B bk br w0 (w.setCell (Z bk i V) (Y nO (x:Int))) (L.set i x):=
 ⟨by have:=h.key.set i (Y nO (x:Int));rwa [a7H]at this,h.res.setOther A _,h.below.setCell hk _⟩
def a11(f3 f2:Nat->Nat)(aQ:a1Z f3 f2)(w:M):
  jG jy 11 #[] w λe w'=>e=nK (nI (kA (wV f3 f2 (pK 312))))/\jD w.heap.size w w':=by
 have aR:=H aQ;clear aQ;obtain⟨B,hB⟩:=og w.heap.size;have aS:=(zero_of_info (P:=jy) EP).1;obtain⟨aT,aM⟩:∃aT,aT=kA (ky 72 0):=⟨_,rfl⟩;rw[<-aM]at aS;have aU:=H aM;rw[hB];clear aM;go_in;go_upto_region 2 with fail;have J:ER B (B+1) B w ((w.alloc (nL aT 33)).alloc (nL aT 33)) (wV f3 f2 (pK 2)):=by
  rw[KW,a1Y];rw[aU.out,<-hB];refine⟨?_,(nU.new _ _ _).alloc _,((jE _ _).alloc (jB _) _).alloc nX _⟩;have:=nU.new (w.alloc (nL (kA (ky 72 0)) 33)) (kA (ky 72 0)) 33;rwa [World.size_alloc]at this
 refine uj (λW=>ER B (B+1) B w W (wV f3 f2 (pK 2))) J ?_;clear aS J hB aU aT;rintro w1 J;have aD:=H J;clear J;go_wp2_with fail;go_loopw [2,3] (λbA pv wr=>∃(p n:Nat),pv=Y nN p/\bA=Y X n/\2<=p/\p<=312/\n<=64/\jI (n=(pK p).length)/\jI (ER B (B+1) B w wr (wV f3 f2 (pK p)))) (λ_ pv _=>312 -(kC pv).toNat);case atStart=>exact⟨2,0,rfl,rfl,K,K,K,rfl,aD⟩
 case round=>
  clear aD w1;obtain⟨p,n,rfl,rfl,aF,bG,aN,hn,C⟩:=hrel;have E:n<64->p<312:=λh=>by
   have ay:=hn.out;rcases kQ p 312 with ag|ag
   .exact ag
   .obtain rfl:p=312:=K
    rw[QN]at ay;omega
  have bH:B+1<wr.heap.size:=C.key.lt;by_cases c:n<64
  .have bI:=E c
   clear E;go_wp2_with fail;go_loopw [4,5] (λbB aO aV=>∃(d:Nat) (ah:Bool),bB=nH ah/\aO=Y nN d/\2<=d/\d<=p/\jI (ah=TI p d)/\aV=wr) (λ_ aO _=>p -(kC aO).toNat);case atStart=>exact⟨2,R,rfl,rfl,K,K,rfl,rfl⟩
   case round=>
    obtain⟨d,ah,rfl,rfl,hd2,bJ,N,rfl⟩:=hrel;by_cases cd:d<p
    .cases ah with
     |true=>
      go_wp2_with fail;refine⟨⟨d+1,_,rfl,by go_num,K,K,?_,trivial⟩,by simp[kC];omega⟩;unfold jI;rw[Mg p d hd2,<-N.out,mQ];congr 1;exact propext ⟨λh=>by omega,λh=>by omega⟩
     |false=>
      go_wp2_with fail;refine⟨⟨d+1,_,rfl,by go_num,K,K,?_,trivial⟩,by simp[kC];omega⟩;unfold jI;rw[Mg p d hd2,<-N.out,Bool.false_and]
    .obtain rfl:d=p:=K
     cases ah with
     |false=>
      have aG:=TJ d aF N.symm;go_wp2_with fail;exact⟨⟨d+1,n,by go_num,rfl,K,K,aN,by rw[aG];exact hn,by rw[aG];exact C⟩,by simp[kC];omega⟩
     |true=>
      have ai:=QL d aF N.symm;have az:=H ai;clear ai;go_wp2_with fail;refine(aR.three d _ K).mono ?_;rintro e w2 ⟨rfl,aH⟩;have aa:=C.after aH K;have aA:w2.cell? (Z (B+1) n V)=U (Y nO (((wV f3 f2 (pK d)).getD n 0:Nat):Int)):=by
       rw[aa.key.cell,a1W _ _ (by rw[tV];omega)]
      generalize (wV f3 f2 (pK d)).getD n 0=aW at aA;have aX:w2.frozen? (Z (B+1) n V)=O:=aa.key.free _;have aj:=H aa;clear aa C aH;by_cases bC:n<8
      .go_upto_region 13 with fail
       have A:=aj.put K K n (f3 d);generalize w2.setCell (Z (B+1) n V) (Y nO (f3 d:Nat))=w3 at*;have bD:B+1<w3.heap.size:=A.key.lt;have aI:=H A;clear A aA aX aj;go_wp2_with fail;refine(aR.two d _ K).mono ?_;rintro e w4 ⟨rfl,aJ⟩;have ae:=aI.after aJ K;have aA:w4.cell? (Z (B+1) (64+n) V)=U (Y nO (((((wV f3 f2 (pK d)).set n (f3 d)).getD (64+n) 0:Nat):Nat):Int)):=by
        rw[ae.key.cell,a1W _ _ (by rw[List.length_set,tV];omega)]
       generalize ((wV f3 f2 (pK d)).set n (f3 d)).getD (64+n) 0=aW at aA;have aX:w4.frozen? (Z (B+1) (64+n) V)=O:=ae.key.free _;have I:=XT f3 f2 (pK d) d n hn bC;have ak:=ae.put K K (64+n) (f2 d);rw[I,<-az.out]at ak;have af:n+1=(pK (d+1)).length:=by rw[az.out,jK,List.length_singleton,<-hn.out]
       have aY:=H ak;have aZ:=H af;clear ae I ak af aI aJ;go_wp2_with fail;exact⟨⟨d+1,n+1,by go_num,by go_num,K,K,K,aZ,aY⟩,by simp[kC];omega⟩
      .go_wp2_with fail
       have I:=XR f3 f2 (pK d) d n hn K c;have A:=aj.put K K n (f3 d);rw[I,<-az.out]at A;have af:n+1=(pK (d+1)).length:=by rw[az.out,jK,List.length_singleton,<-hn.out]
       exact⟨⟨d+1,n+1,by go_num,by go_num,K,K,K,af,A⟩,by simp[kC];omega⟩
  .obtain rfl:n=64:=K
   have bg:p=312:=by
    rcases kQ p 312 with ag|ag
    .have:=TK p ag;rw[<-hn.out]at this;omega
    .omega
   subst bg;have au:=C.key;have av:=C.res;have ax:(kA (ky 72 0)).size=(kA (wV f3 f2 (pK 312))).size:=by rw[Cg,Cg,tV];rfl
   have ay:=a1X (wV f3 f2 (pK 312));have bq:=C.res.setRow (kA (wV f3 f2 (pK 312)));have aK:=Below.setRow C.below (jB _) (kA (wV f3 f2 (pK 312)));have hi:(Tryz.prog.info? 33).map (·.size)=U (kA (wV f3 f2 (pK 312))).size:=by rw[Cg,tV];exact(zero_of_info (P:=jy) EP).2
   clear E hn;generalize aL:kA (wV f3 f2 (pK 312))=aB at*;have bu:=H aL;clear aL;have bE:=H bq;have bz:=H aK;have aP:=H hi;generalize kA (ky 72 0)=bF at*;have aC:=H (jF au (jF av (jF ax ay)));clear bq aK C hi au av ax ay;go_wp2_with (first|(refine wpList_load_row rfl 33 (.tmp 1) rfl (B+1) rfl _ aB (0,0) _ aC.1 Tryz.underlying33 rfl aP ?_)|(refine wpList_store_row rfl 33 (.tmp 0) (.tmp 38) rfl B aB rfl rfl _ bF aC.2.1 aP aC.2.2.1 aC.2.2.2 ?_));exact jO (v:=.agg aB) (results_cell_row (P:=jy) Tryz.results11 _ _ B _ aB (0,0) _ rfl bE Tryz.underlying33 rfl aP) rfl ⟨by rw[bu.out],bz.out⟩
def a5a(w:M):jG jy 11 #[] w λe w'=>e=nK (nI (kA XU))/\jD w.heap.size w w':=
 a11 _ _ a4Z w
end
section
open Go.RowKit
def cA:oO:=⟨3,0,50,50,2,9⟩
def yj:An:=⟨#[112,105,110,103]⟩
def u8A:An:=⟨#[117,56]⟩
def eA:yI:=⟨5,yj,u8A⟩
def tyA:nS TL:=.node ⟨1,1,0⟩ []
def Co:Row:=⟨5,yj,u8A,tyA⟩
def xA:nS IL:=.node ⟨[7],O⟩ []
def yN:An:=⟨#[4,5,1,0,7]⟩
def b04:vV cA [eA]=.ok [Co]:=by rfl
def a9G:yM tyA xA 2 9=0:=by rfl
def b05:Cn xA=⟨#[7]⟩:=by rfl
def a9H:ve 5 ⟨#[1,0,7]⟩=yN:=by
 unfold ve;rw[rC 5 nT];show(⟨(ow 4).toArray⟩:An)++_++_=_;rw[rC 4 nT];rfl
def a9I:(Sr (uq 50 50 yN V).1).e=0:=by rfl
def a9J(mb:Nat):∃nd,sO cA [Co] mb [] 0 0 yN=([⟨yj,xA⟩],[],nd,0):=⟨_,by rfl⟩
def TP(w:M):qF w (u V 0 0) []:=⟨V,0,rfl,jB _,ko _,λh=>absurd h nX⟩
def wfA:cA.wf:=⟨rfl,rfl,rfl,rfl,rfl,rfl⟩
def a13:oL cA=R:=by rfl
def a7I:([Co]:List Row).find? (λr=>At (r.name=yj))=U Co:=by simp[Co]
def b06:vJ cA tyA xA=(⟨#[7]⟩,0):=by
 unfold vJ;rw[As nT,show yM tyA xA cA.dep cA.pq=0 from a9G,AC rfl,b05]
def a7J:rM ⟨#[7]⟩=⟨#[1,0,7]⟩:=by
 have h:sP [7] 1 (uZ [7])=⟨1,0,ow 1,[]⟩:=rfl;show(⟨((sP [7] 1 (uZ [7])).out++yo (([7]:List Ax).drop (sP [7] 1 (uZ [7])).pend)).toArray⟩:An)=_;rw[h,rC 1 nT];rfl
def a9K:vO cA [Co] yj xA=(yN,0):=by
 have he:FU cA [Co] yj xA=(⟨5,⟨#[]⟩,⟨#[7]⟩⟩,0):=by
  unfold FU;rw[a7I];show AA cA (U Co) (vJ cA tyA xA).1 (vJ cA tyA xA).2.toNat=_;rw[b06];rfl
 have hp:yg cA ⟨5,⟨#[]⟩,⟨#[7]⟩⟩=(yN,0):=by
  unfold yg;rw[As nT,As nT,As nT];show qC 5 (rM ⟨#[7]⟩)=_;rw[a7J];unfold qC;rw[AC (by rw[rC 5 nT];decide),a9H]
 have A:vI cA ⟨5,⟨#[]⟩,⟨#[7]⟩⟩=(yN,0):=by
  unfold vI;rw[hp];have hn:(Sr (pU cA yN V).1).e=0:=a9I;show EB _ yN 0 (Sr (pU cA yN V).1).e=_;rw[hn];rfl
 unfold vO;rw[he,A];rfl
def a7K(an sb r bn bi:Nat)(ou:Option kW)(cu:Nat)(w:M)(hs:x9 w an r sb [] 0 0)(hlt:an<=sb/\an<=w.heap.size)(A:∀W,jD an w W->qG r bn bi cA [⟨Co,ou,cu⟩] W/\qK W/\xW W):
  jG jy 15 #[nG (U (Z sb 0 V)),nI #[G yj,G ⟨#[7]⟩,nH O,u V 0 0]] w λe w'=>e=nK (nJ #[G yN,Y X 0])/\x9 w' an r sb [] 0 0/\jD an w w':=by
 have h:=a1H an sb r bn bi cA [⟨Co,ou,cu⟩] [] 0 0 yj xA V 0 w a13 wfA hs hlt A (λy hy=>by simp at hy;subst hy;show(5:Nat)<_;decide) nT (TP w) nT (λ_=>by decide);have C:vO cA (([⟨Co,ou,cu⟩]:List oV).map λy=>y.r) yj xA=(yN,0):=a9K;rw[C]at h;exact h
def XZ(w:M)(az:qK w)(aA:xW w):jG jy 8 #[] w λe w'=>e=nK (nH R)/\jD w.heap.size w w':=by
 obtain⟨g,hg⟩:=og w.heap.size;have aB:jI (∀W,w.alloc (nL #[Y nN 5,G yj,G u8A] 67)=W->Kq W (u (U (Z g 0 V)) 1 1) [eA]/\jD g w W/\W.heap.size=g+1):=H λW aK=>by
  subst aK;have hb:=nU.new w #[Y nN 5,G yj,G u8A] 67;rw[hg]at hb;refine⟨⟨U (Z g 0 V),1,rfl,jB _,nT,λi e he=> ?_⟩,hg▸(jE w.heap.size w).alloc (jB _) _,by simp[hg]⟩;have hi:i=0:=by
   have:=(lu.1 he).1;simpa using this
  subst hi;simp at he;subst he;exact⟨g,0,rfl,by simp[hg],hb.cell 0,hb.cell 1,hb.cell 2⟩
 have ag:1<g:=hg▸az.lt;have ah:0<g:=hg▸aA.lt;have I:jI (∀W,jD g w W->qK W/\xW W):=H λW h=>⟨az.below h ag,aA.below h ah⟩
 have aF:jI (∀W,Kq W (u (U (Z g 0 V)) 1 1) [eA]->qK W->jG jy 27 #[nI #[Y X 3,Y nO 0,Y X 50,Y X 50,Y X 2,Y X 9],u (U (Z g 0 V)) 1 1] W (Bt cA [eA] W)):=H λW aC E=>
  Vs cA [eA] _ W aC (λe he=>by simp at he;subst he;exact⟨nT,nT,nT⟩) E
 have aG:jI (∀an sb r bn bi ou cu w,x9 w an r sb [] 0 0->an<=sb/\an<=w.heap.size->(∀W,jD an w W->qG r bn bi cA [⟨Co,ou,cu⟩] W/\qK W/\xW W)->
   jG jy 15 #[nG (U (Z sb 0 V)),nI #[G ⟨#[112,105,110,103]⟩,G ⟨#[7]⟩,nH O,u V 0 0]] w λe w'=>e=nK (nJ #[G yN,Y X 0])/\x9 w' an r sb [] 0 0/\jD an w w'):=H λan sb r bn bi ou cu w aC E aD=>a7K an sb r bn bi ou cu w aC E aD
 clear az aA ag ah;unfold yj u8A at aB;go_in;go_wp2_with fail;obtain⟨ai,J,aP⟩:=aB.out _ rfl;have aj:=(I _ J).1;have ak:=H (aF _ ai aj);generalize w.alloc _=w1 at*;refine ak.mono ?_;rintro e w2 ⟨au,E⟩;rw[b04]at E;obtain⟨an,sb,r,bn,bi,L,rfl,hL,aH,hl,N⟩:=E;obtain⟨ou,cu,rfl⟩:∃ou cu,L=[⟨Co,ou,cu⟩]:=by
  cases L with
  |nil=>simp at hL
  |cons aL L=>
   cases L with
   |nil=>
    obtain⟨r0,ou,cu⟩:=aL;simp at hL;subst hL;exact⟨ou,cu,rfl⟩
   |cons _ _=>simp at hL
 have av:jI (jD g w w2):=H (J.trans (au.mono K));have aa:jI (∀W,jD an w2 W->qG r bn bi cA [⟨Co,ou,cu⟩] W/\qK W/\xW W):=H λW h=>by
  have aD:jD g w W:=av.trans (h.mono K);exact⟨N W h,I W aD⟩
 have ae:jI (an<=sb/\an<=w2.heap.size/\g<=an):=H K;have ax:=H (aG an sb r bn bi ou cu w2 aH ⟨ae.1,ae.2.1⟩ (λW h=>aa.out W h));clear J au hL aH hl N ai aj aF ak aG aB;go_wp2_with fail;refine ax.mono ?_;rintro e w3 ⟨rfl,ay,A⟩;have aI:jI (jD an w2 w3):=H A;have aJ:=H (a0Y an sb r bn bi cA [⟨Co,ou,cu⟩] [] 0 0 yN w3 a13 wfA ay ⟨ae.1,by have:=A.size;have:=ae.out;omega⟩ nT (λW h=>aa.out W (A.trans h)));clear ay A ax;go_wp2_with fail;refine aJ.mono ?_;rintro e w4 ⟨mb,lv,Lm,rfl,hF⟩;have hF:Qs cA [Co] an r sb mb [] 0 0 yN w3 lv Lm w4:=hF;obtain⟨nd,KF⟩:=a9J mb;obtain⟨f1,f2,f3,f4⟩:=hF;simp only[mf,ng];rw[KF]at f2 f3|-;dsimp only at f2 f3|-;obtain⟨y,rfl,hy⟩:∃y,Lm=[y]/\y.m=⟨yj,xA⟩:=by
  cases Lm with
  |nil=>simp at f2
  |cons y Lm=>
   cases Lm with
   |nil=>simp at f2;exact⟨y,rfl,f2⟩
   |cons _ _=>simp at f2
 obtain⟨oa,cap,rfl⟩:=f1.slice;obtain⟨b,rfl,_,hlt,_,_,C,_⟩:=qd.at_ f1.1 Nv (i:=0) (y:=y) rfl;have af:=C 0 nT;have aQ:w4.cell? (Z b 0 V)=U (G ⟨#[112,105,110,103]⟩):=by
  have:(mcl y)[0]? =U (G yj):=by unfold mcl;rw[hy];rfl
  rw[this]at af;have aM:w4.cell? (Z b 0 V)=U (G yj):=by simpa using af
  exact aM
 have aN:=H (Ez an r sb [] nd 0 w4 f3);have aO:jI (jD g w w4):=H (av.trans ((aI.trans f4).mono (by have:=ae.out;omega)));clear f1 f2 f3 f4 KF hy hlt C aJ af;simp only[j4,List.length_nil];go_wp2_with fail;refine aN.mono ?_;rintro e w5 ⟨rfl,rfl⟩;go_wp2;try go_returns
 exact⟨rfl,by rw[hg];exact aO.out⟩
def BH{P:lQ}{name:String}{k:IntKind}{zs:List Int}{g:Nat}(hg:P.globalNamed name=U g)(A:(P.globals[g]?).map (·.type)=U t)(ht:P.underlying t=U (.array n e))(he:P.underlying e=U (.int k))(C:P.cellsOf e=1)(E:P.cellsOf t=n):
  ∀{l:List (String×DataW Unit)}{ps:List MemPlace},DataW.LaidVars P W l ps->(name,Lib.tabData k zs)∈l->Lib.TabIs P W name k zs
 |[],_,_,h=>by cases h
 |(m,d)::l,ps,hl,h=>by
  obtain⟨ae,af,cs,fuel,p,q,J,N,I,hd,aa,_⟩:=hl;rcases l5.1 h with h|h
  .obtain⟨rfl,rfl⟩:=Prod.mk.inj h
   obtain rfl:=mg (hg.symm.trans J);obtain rfl:=mg (A.symm.trans N);unfold Lib.TabIs;rw[I,<-Lib.cells_of_tab ht he C E hd]
  .exact BH hg A ht he C E aa h
def a5I:Tryz.prog.globalNamed "hatchway/schema.uintSizes" =U 1:=nV
def X0:(Tryz.prog.globals[1]?).map (·.type)=U 312:=nV
def TQ:Tryz.prog.cellsOf 312=4:=nV
def Mi:Tryz.prog.cellsOf 3=1:=nV
def VM:Tryz.prog.globalNamed "hatchway/compact.behind" =U 0:=nV
def X3:(Tryz.prog.globals[0]?).map (·.type)=U 283:=nV
def TR:Tryz.prog.cellsOf 283=3:=nV
def a14(h:laidMetH jy [("unicode/utf8.acceptRanges",Rows.laid_unicode_utf8_acceptRanges),("hatchway/compact.behind",Rows.laid_hatchway_compact_behind),("hatchway/schema.uintSizes",Rows.laid_hatchway_schema_uintSizes),("unicode/utf8.first",Rows.laid_unicode_utf8_first)] W):qK W/\xW W:=by
 rw[MakeChecks.laidMetH_plain _ _ _ nV]at h;obtain⟨ps,C,_⟩:=h;have e1:(Rows.laid_hatchway_schema_uintSizes:DataW Unit)=Lib.tabData .i64 [1,2,4,8]:=rfl;have e2:(Rows.laid_hatchway_compact_behind:DataW Unit)=Lib.tabData .i64 [2,4,8]:=rfl;have E:=BH (zs:=[1,2,4,8]) a5I X0 Tryz.underlying312 mG Mi TQ C (by rw[<-e1];simp);have A:=BH (zs:=[2,4,8]) VM X3 Tryz.underlying283 mG Mi TR C (by rw[<-e2];simp);refine⟨?_,A.cell VM 0 nT,A.cell VM 1 nT,A.cell VM 2 nT⟩;intro i hi;have hc:=E.cell a5I i (by simpa using hi);rw[hc];have:i=0\/i=1\/i=2\/i=3:=K;rcases this with rfl|rfl|rfl|rfl<;>rfl
def BI{nm:An}:(rows.find? λy=>At (y.name=nm)).isSome=R<->∃r,r∈rows/\r.name=nm:=by
 rw[List.find?_isSome];simp
def Oc{id:Nat}:(rows.find? λy=>At (y.id=id)).isSome=R<->∃r,r∈rows/\r.id=id:=by
 rw[List.find?_isSome];simp
def Mj{id:Nat}{nm tx:An}{row:Row}(h:vH c rows id nm tx=(er,U row)):
  row.id=id/\row.name=nm/\yn tx.data.toList=U row.ty/\(∀r,r∈rows->r.name≠nm)/\er=0:=by
 unfold vH at h;split at h;.cases h
 .rename_i A
  split at h;.cases h
  .split at h
   .cases h
   .rename_i t ht
    split at h;.cases h
    .simp only[Prod.mk.injEq,mI]at h
     obtain⟨h0,rfl⟩:=h;refine⟨rfl,rfl,ht,λr C hn=>A (.inl (BI.2 ⟨r,C,hn⟩)),h0.symm⟩
def Mk:∀(es:List yI)(rows out:List Row),sD c rows es=.ok out->∀nm,(∃r,r∈out/\r.name=nm)<->(∃r,r∈rows/\r.name=nm)\/∃e,e∈es/\e.nm=nm
 |[],rows,out,h,nm=>by
  unfold sD at h;cases h;simp
 |e::es,rows,out,h,nm=>by
  unfold sD at h;split at h;.cases h
  .rename_i er row I
   obtain⟨J,E,N,aa,_⟩:=Mj I;rw[Mk es (row::rows) out h nm];simp only[l5];constructor
   .rintro(⟨r,rfl|A,hn⟩|⟨C,he,hn⟩)
    .exact .inr ⟨e,.inl rfl,by rw[<-E];exact hn⟩
    .exact .inl ⟨r,A,hn⟩
    .exact .inr ⟨C,.inr he,hn⟩
   .rintro(⟨r,A,hn⟩|⟨C,rfl|he,hn⟩)
    .exact .inl ⟨r,.inr A,hn⟩
    .exact .inl ⟨row,.inl rfl,by rw[E];exact hn⟩
    .exact .inr ⟨C,he,hn⟩
def Od:∀(es:List yI)(rows out:List Row),sD c rows es=.ok out->∀i:Nat,(∃r,r∈out/\r.id=i)<->(∃r,r∈rows/\r.id=i)\/∃e,e∈es/\e.id=i
 |[],rows,out,h,nm=>by
  unfold sD at h;cases h;simp
 |e::es,rows,out,h,nm=>by
  unfold sD at h;split at h;.cases h
  .rename_i er row I
   obtain⟨E,J,N,aa,_⟩:=Mj I;rw[Od es (row::rows) out h nm];simp only[l5];constructor
   .rintro(⟨r,rfl|A,hn⟩|⟨C,he,hn⟩)
    .exact .inr ⟨e,.inl rfl,by rw[<-E];exact hn⟩
    .exact .inl ⟨r,A,hn⟩
    .exact .inr ⟨C,.inr he,hn⟩
   .rintro(⟨r,A,hn⟩|⟨C,rfl|he,hn⟩)
    .exact .inl ⟨r,.inr A,hn⟩
    .exact .inl ⟨row,.inl rfl,by rw[E];exact hn⟩
    .exact .inr ⟨C,he,hn⟩
def X4(c:oO)(rows:List Row)(e:yI)(es:List yI):sD c rows (e::es)=match vH c rows e.id e.nm e.tx with
  |(er,V)=> .error er
  |(_,U row)=>sD c (row::rows) es:=rfl
def DI:∀(es:List yI)(i:Nat)(rows mid:List Row),sD c rows (es.take i)=.ok mid->sD c rows es=sD c mid (es.drop i)
 |es,0,rows,mid,h=>by
  simp[sD]at h;subst h;rfl
 |[],i+1,rows,mid,h=>by
  simp[sD]at h;subst h;rfl
 |e::es,i+1,rows,mid,h=>by
  simp only[jY,mP]at h|-;rw[X4]at h|-;cases A:vH c rows e.id e.nm e.tx with
  |mk er o=>
   rw[A]at h;cases o with
   |none=>cases h
   |some row=>exact DI es i (row::rows) mid h
def Ml{e:yI}{row:Row}(h:sD c [] (es.take i)=.ok mid)(he:es[i]? =U e)(A:vH c mid e.id e.nm e.tx=(er,U row)):
  sD c [] (es.take (i+1))=.ok (row::mid):=by
 have hl:=(lu.1 he).1;have e1:es.take (i+1)=es.take i++[e]:=by rw[List.take_add_one,he];rfl
 have e2:(es.take i).length=i:=by rw[kD];omega
 have C:=DI (c:=c) (es.take (i+1)) i [] mid (by rw[List.take_take,mr K];exact h);rw[C,e1,List.drop_left' e2];unfold sD;rw[A];rfl
def BJ{e:yI}(h:sD c [] (es.take i)=.ok mid)(he:es[i]? =U e)(A:vH c mid e.id e.nm e.tx=(er,V)):sD c [] es=.error er:=by
 have hl:=(lu.1 he).1;rw[DI es i [] mid h,nA hl];have:es[i]=e:=by rw[jL hl]at he;exact mg he
 rw[this];unfold sD;rw[A]
def a15(h:p:=by
 constructor
 .rintro(⟨r,hr,_⟩|⟨e,he,hn⟩)
  .cases hr
  .obtain⟨k,hk⟩:=List.getElem?_of_mem he
   by_cases hki:k<i
   .rw[List.getElem?_take_of_lt hki]at hk
    exact⟨k,e,hki,hk,hn⟩
   .rw[mK,As hki]at hk;cases hk
 .rintro⟨k,e,hk,he,hn⟩
  exact .inr ⟨e,kE (i:=k) (by rw[List.getElem?_take_of_lt hk];exact he),hn⟩):p:=h
def Mm(h:sD c [] (es.take i)=.ok mid)(nm:An):(mid.find? λy=>At (y.name=nm)).isSome=R<->∃(k:Nat) (e:yI),k<i/\es[k]? =U e/\e.nm=nm:=by
 rw[BI,Mk _ _ _ h nm];exact a15
def GN(h:sD c [] (es.take i)=.ok mid)(id:Nat):(mid.find? λy=>At (y.id=id)).isSome=R<->∃(k:Nat) (e:yI),k<i/\es[k]? =U e/\e.id=id:=by
 rw[Oc,Od _ _ _ h id];exact a15
def Mo:∀(es:List yI)(rows:List Row),¬sD c rows es=.error 0
 |[],rows=>by unfold sD;intro h;cases h
 |e::es,rows=>by
  unfold sD;have A:=Qo c rows e.id e.nm e.tx;split
  .rename_i er C
   intro h;cases h;rw[C]at A;rcases A with A|A
   .exact A.2 rfl
   .obtain⟨_,row,E⟩:=A;cases E
  .rename_i er row C
   exact Mo es (row::rows)
def Hf(c:oO)(es:List yI):Int:=match vV c es with
 | .error er=>er
 | .ok _=>0
def Ga(ds:List Ax)(b:Ax):Be (ds++[b])=if Be ds<1000000 then 10*Be ds+(b.toNat - 48)else Be ds:=by unfold Be;rw[List.foldl_append];rfl
def a5b:∀(k:Nat)(ds:List Ax),ds.length=k->(∀b,b∈ds->vN b=R)->Be ds<10000000:=by
 intro k;induction k with
 |zero=>intro ds h _;rw[mh.1 h];simp[Be]
 |succ k C=>
  intro ds h hd;obtain⟨A,b,rfl⟩:∃A b,ds=A++[b]:=⟨ds.dropLast,ds.getLast (by intro e;simp[e]at h),(List.dropLast_concat_getLast _).symm⟩;have hb:=hd b nX;simp only[vN,jJ,decide_eq_true_eq]at hb;have:=C A (by simpa using h) λc hc=>hd c (by simp[hc])
  rw[Ga];split<;>omega
def KY(l:List Ax)(k:Nat):∀b,b∈(qx l).take k->vN b=R:=λb hb=>a0B l b (List.mem_of_mem_take hb)
def ES(s:An)(p:Nat)(w:M)(e:Ending)(w':M):Prop:=
 ∃(n:Nat) (z:Int),e=nK (nJ #[Y X (n:Int),Y X z])/\w'=w/\n<10000000/\
  ((∃q:Nat,yU (nW s p)=U (n,nW s q)/\z=q/\q<=s.size/\p<=q)\/(yU (nW s p)=V/\z= -1/\n=0))
def a18(h:p:=by
 rcases hend with rfl|⟨hlt,hb'⟩|⟨hlt,hb'⟩
 .have d0:At ((s.size:Int)<s.size)=O:=nX
  go_wp2_with fail;exact HP _ _ ⟨0,_,rfl,rfl,K,.inr ⟨KN.out,rfl,rfl⟩⟩
 .have d0:At ((q:Int)<s.size)=R:=nY
  have d1:At ((48:Int)<=(s[q].toNat:Int))=O:=nY;clear hb';go_wp2_with fail;exact HP _ _ ⟨0,_,rfl,rfl,K,.inr ⟨KN.out,rfl,rfl⟩⟩
 .have d0:At ((q:Int)<s.size)=R:=nY
  have d1:At ((48:Int)<=(s[q].toNat:Int))=R:=nY;have d2:At ((s[q].toNat:Int)<=57)=O:=nY;clear hb';go_wp2_with fail;exact HP _ _ ⟨0,_,rfl,rfl,K,.inr ⟨KN.out,rfl,rfl⟩⟩):p:=h
def Gb(h:p:=by
 go_wp2_with fail;exact HP _ _ ⟨n,_,rfl,rfl,hn,.inl ⟨_,KN.out,rfl,hq3,hq2⟩⟩):p:=h
def Kg(s:An)(p:Nat)(w:M)(hs:s.size<=1000)(hp:p<=s.size):
  jG jy 78 #[G s,Y X (p:Int)] w (ES s p w):=by
 obtain⟨D,hD⟩:=og ((qx (nW s p)).length);have aC:=H hD;have au:p+D<=s.size:=by
  exact Vi
 have HG:jI (∀k,k<D->∃h:p+k<s.size,vN s[p+k]=R/\(qx (nW s p)).take (k+1)=(qx (nW s p)).take k++[s[p+k]]):=H λk hk=>by
  exact Vk
 have aD:jI (∀h:p+D<s.size,vN s[p+D]=O):=H λh=>by
  refine FL (nW s p) _ ?_;rw[zx,hD,Aa,rT h];rfl
 have aF:jI (past (nW s p)=nW s (p+D)):=H (by rw[zx,hD,Aa]);have H0:jI (0<D->∃h:p<s.size,(qx (nW s p)).head? =U s[p]):=H λh=>by
  exact a0H
 have aO:jI (∀k,Be ((qx (nW s p)).take k)<10000000):=H λk=>a5b _ _ rfl (KY _ _)
 generalize aG:ES s p w=az;have HP:jI (∀e w',ES s p w e w'->az e w'):=H λe w' h=>by rw[<-aG];exact h
 clear hD aG;go_in;go_wp2_with fail;go_loopw [1,6] (λiv aP aQ=>∃(k q n:Nat),iv=Y X q/\aP=Y X n/\jI (p+k=q)/\q<=p+D/\p<=q/\jI (n=Be ((qx (nW s p)).take k))/\n<10000000/\aQ=w) (λiv _ _=>p+D -(kC iv).toNat);case atStart=>exact⟨0,p,0,rfl,rfl,H rfl,K,K,by simp[jI,Be],K,rfl⟩
 case round=>
  obtain⟨k,q,n,rfl,rfl,ag,aH,hq2,aA,hn,rfl⟩:=hrel;have aV:k<=D:=by have:=ag.out;omega
  have ae:=H (HG k);rw[ag.out]at ae;by_cases c:q<p+D
  .obtain⟨hlt,ah,htake⟩:=ae.out (by have:=ag.out;omega)
   simp only[vN,jJ,decide_eq_true_eq]at ah;have av:=H (jF ah htake);have d0:At ((q:Int)<s.size)=R:=nY;have d1:At ((48:Int)<=(s[q].toNat:Int))=R:=nY;have d2:At ((s[q].toNat:Int)<=57)=R:=nY;have aR:48<=(s[q].toNat:Int):=K;have aS:(s[q].toNat:Int)<=57:=K;have aI:=H (aO (k+1));clear htake ah ae;by_cases ai:n<1000000
   .have aT:At ((n:Int)<1000000)=R:=nY
    have aB:=H ai;clear ai;go_wp2_with fail;have aj:Be ((qx (nW s p)).take (k+1))=10*n+(s[q].toNat - 48):=by rw[av.2,Ga,<-aA.out,AC aB.out]
    refine⟨⟨k+1,q+1,10*n+(s[q].toNat - 48),by go_num,congrArg (lC IntKind.i64) K,H (by have:=ag.out;omega),K,K,H aj.symm,by have:=aI.out;rw[aj]at this;exact this,by first|trivial|rfl⟩,by simp[kC];omega⟩
   .have aT:At ((n:Int)<1000000)=O:=nY
    have aB:=H ai;clear ai;go_wp2_with fail;have aj:Be ((qx (nW s p)).take (k+1))=n:=by rw[av.2,Ga,<-aA.out,As aB.out]
    refine⟨⟨k+1,q+1,n,by go_num,rfl,H (by have:=ag.out;omega),K,K,H aj.symm,hn,by first|trivial|rfl⟩,by simp[kC];omega⟩
  .obtain rfl:q=p+D:=K
   obtain rfl:k=D:=by have:=ag.out;omega
   obtain⟨q,ak⟩:=og (p+k);rw[ak]at ae aH hq2 c aF au|-;have ax:=H aD.out;rw[ak]at ax;have aJ:=H ak;clear ag aD ae ak c;have aK:jI (n=Be (qx (nW s p))):=H (by rw[aA.out,kS (by have:=aC.out;omega)]);have hend:q=s.size\/(∃h:q<s.size,s[q].toNat<48)\/(∃h:q<s.size,57<s[q].toNat):=by
    rcases kQ q s.size with h|h
    .right
     have h2:=ax.out h;exact Vj
    .exact .inl K
   have hlen:k=0\/k=1\/(1<k/\∃h:p<s.size,jI (s[p].toNat=48))\/(1<k/\∃h:p<s.size,jI (s[p].toNat≠48)):=by
    exact a0I
   have C:jI (Bd (qx (nW s p))=(At (k=1)||(At (1<k)&&At ((qx (nW s p)).head?≠U 48)))):=H (by rw[Qj,aC.out]);have A:jI (Bd (qx (nW s p))=R->yU (nW s p)=U (n,nW s q)):=H λh=>by unfold yU;rw[AC h,<-aK.out,aF.out]
   have aa:jI (Bd (qx (nW s p))=O->yU (nW s p)=V):=H λh=>by unfold yU;rw[As (by rw[h];simp)]
   have hq3:q<=s.size:=au;have aL:(q:Int)=p+k:=by have:=aJ.out;omega
   have aM:(∃e1:Bool,((q:Int)==p)=e1/\e1=At (k=0))/\∃e2:Bool,At ((p:Int)+1<q)=e2/\e2=At (1<k):=by
    refine⟨⟨_,rfl,?_⟩,_,rfl,?_⟩;.rw[Bool.eq_iff_iff];simp;omega
    .rw[decide_eq_decide];omega
   obtain⟨⟨e1,aW,E⟩,e2,aN,I⟩:=aM;have J:k≠0->p<s.size:=K;clear aL HG;rcases hlen with N|N|⟨N,ay,af⟩|⟨N,ay,af⟩
   .obtain rfl:e1=R:=by rw[E];simp;omega
    have KN:=H (aa (by rw[C.out];simp;omega));clear E I N C A aa aN J;exact a18
   .obtain rfl:e1=O:=by rw[E];simp;omega
    obtain rfl:e2=O:=by rw[I];simp;omega
    have ay:p<s.size:=J K;have KN:=H (A (by rw[C.out];simp;omega));clear E I N C A aa J;rcases Bool.eq_false_or_eq_true ((s[p].toNat:Int)==48)with d5|d5
    all_goals
     rcases hend with rfl|⟨hlt,hb'⟩|⟨hlt,hb'⟩
     .have d0:At ((s.size:Int)<s.size)=O:=nX
      exact Gb
     .have d0:At ((q:Int)<s.size)=R:=nY
      have d1:At ((48:Int)<=(s[q].toNat:Int))=O:=nY;clear hb';exact Gb
     .have d0:At ((q:Int)<s.size)=R:=nY
      have d1:At ((48:Int)<=(s[q].toNat:Int))=R:=nY;have d2:At ((s[q].toNat:Int)<=57)=O:=nY;clear hb';exact Gb
   .obtain rfl:e1=O:=by rw[E];simp;omega
    obtain rfl:e2=R:=by rw[I];simp;omega
    have d5:((s[p].toNat:Int)==48)=R:=by have:=af.out;simp;omega
    have KN:=H (aa (by
     obtain⟨_,h5⟩:=H0.out K;rw[C.out,h5,show s[p]=48 from lX.1 af.out];simp;omega))
    clear E I N C A aa J;exact a18
   .obtain rfl:e1=O:=by rw[E];simp;omega
    obtain rfl:e2=R:=by rw[I];simp;omega
    have d5:((s[p].toNat:Int)==48)=O:=by have:=af.out;simp;omega
    have KN:=H (A (by
     obtain⟨_,h5⟩:=H0.out K;have aU:s[p]≠48:=λh=>af.out (by rw[h];rfl)
     rw[C.out,h5];simp[aU];omega))
    clear E I N C A aa J;rcases hend with rfl|⟨hlt,hb'⟩|⟨hlt,hb'⟩
    .have d0:At ((s.size:Int)<s.size)=O:=nX
     exact Gb
    .have d0:At ((q:Int)<s.size)=R:=nY
     have d1:At ((48:Int)<=(s[q].toNat:Int))=O:=nY;clear hb';exact Gb
    .have d0:At ((q:Int)<s.size)=R:=nY
     have d1:At ((48:Int)<=(s[q].toNat:Int))=R:=nY;have d2:At ((s[q].toNat:Int)<=57)=O:=nY;clear hb';exact Gb
end
end Go.Proofs.YtamfcjmhnndbdaaGreatDoor


