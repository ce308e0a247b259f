/- Part 19 of the proof. -/
import Derived.Test.YtamfcjmhnndbdaaGreatDoorZu00
import Derived.Test.YtamfcjmhnndbdaaGreatDoorZu11
import Derived.Test.YtamfcjmhnndbdaaGreatDoorZu06
import Derived.Test.YtamfcjmhnndbdaaGreatDoorZu08
import Derived.Test.YtamfcjmhnndbdaaGreatDoorZu09
import Derived.Test.YtamfcjmhnndbdaaGreatDoorZu10
import Derived.Test.YtamfcjmhnndbdaaGreatDoorZu16
import Derived.Test.YtamfcjmhnndbdaaGreatDoorZu18
open Go.Value renaming agg→nC,bool→nA,int→ng,pointer→nz,slice→nk,string→ny,tuple→nD,ownBlock→kJ
open Go.Obj renaming cells→nG
open Go.IntKind renaming i64→nH
open Go.Ending renaming returned→nE
open Go.Lib renaming hid→jH
open Go.Proofs.Tryz renaming prog→jI
open Go renaming World→jJ,Value→jP,Calls→jV,maxLen→j5,TypeId→ko,Addr→l5
open Nat renaming le_refl→jL,le_trans→kg,lt_of_lt_of_le→kG,lt_or_ge→lh
open Go.RowKit renaming Below→jS,Hid→jW
open Go.RowKit.Below renaming refl→jT,heap_setCell→j6
open And renaming intro→jU
open List renaming length_append→jY,mem_cons→mD
open Bool renaming and_eq_true→j3
open Go.World renaming setCell→kC
open Go.Instr renaming makeFunc→mG
namespace Go.Proofs.YtamfcjmhnndbdaaGreatDoor
set_option linter.unusedVariables false
set_option linter.unusedSimpArgs false
set_option maxRecDepth 100000
set_option maxHeartbeats 8000000
variable {e:ko}{α:Type}
section
open Go.RowKit Go.Shelf
theorem QO(x:nL IL)(w:jJ)(o:Option l5)(c:Nat)(I:pM w (nk o x.sub.length c) x.sub)(J:x.all qb=true):
  jV jI 167 #[nC #[ny (txt x.lab),nA x.lab.list,nk o x.sub.length c]] w λe w'=>e=nE (ng nH (EG x))/\jS w.heap.size w w':=by
 have E:=jH (rU (T:=txt x.lab) (l:=x.lab.list) (t:=IT) I);have N:=jH (λ(W:jJ) (h:pM W (nk o x.sub.length c) x.sub)=>Gn 205 x W _ h (.inr ⟨rfl,J⟩));obtain⟨g,hg⟩:=nT w.heap.size;rw[hg]at E⊢;generalize EG x=sn at*;generalize M5 x=Y at*;generalize qZ x=Z at*;clear I J;go_in;go_upto_region 1 with fail;generalize w.alloc _=w1 at*;obtain⟨A,ht1,hsz,c0,c1,c2,_⟩:=E.out _ rfl;have O:=jH (N _ ht1);have U:=jH A;have V:=jH hsz;clear E ht1 A hsz N;go_wp2_with fail;refine O.mono ?_;rintro e w2 ⟨rfl,C⟩;have Q:=jH (U.trans (C.mono (by have:=V.out;omega)));clear C c0 c1 c2;go_wp2_with fail;go_returns;exact⟨rfl,Q.out⟩
def Te(t:nL TL):Bool:=nL.o7 p0 t.sub&&pX t
def Ae(t:nL TL)(x:nL IL)(items:Int):ByteArray×Int:=
 if Te t=true then if ru t x=0 then if items<(x.count:Int)then(⟨#[]⟩,4)else(⟨(Dv x t).toArray⟩,0)else(⟨#[]⟩,ru t x)else(⟨#[]⟩,1)
theorem Ic{t:nL TL}{x:nL IL}(h:ru t x=0):pX t=true/\qZ x=true/\uw x t=true:=by
 unfold ru at h;split at h
 .rename_i A
  split at h;.rename_i C;exact⟨A.1,A.2,C⟩
  .exact absurd h nN
 .exact absurd h nN
theorem Ot{t:nL TL}(h:t.all oG=true):t.lab.kind=1\/t.lab.kind=2\/t.lab.kind=3->t.lab.size<=65536:=by
 obtain⟨⟨A,C,tl⟩,ts⟩:=t;simp only[nL.all,j3,oG,qz,decide_eq_true_eq]at h;simp only[nL.oQ];obtain⟨h,_⟩:=h;omega
mutual
theorem LD:∀(x:nL IL)(t:nL TL),t.all oG=true->uw x t=true->(Dv x t).length<=70000*x.count
 | .node a s,t,O,Q=>by
  have C:(rC t a s.length&&sV s t 0)=true:=Q;rw[j3]at C;have Y:=Tf s t 0 O C.2;have Z:(Du t a s.length).length<=70000:=by
   have E:=Ot O;obtain⟨⟨A,U,tl⟩,ts⟩:=t;simp only[nL.oQ]at E;show(if A=1 then vJ U.toNat (pG a.text).1 else if A=2 then a.text else if A=3 then wC a.text.length++a.text else if A=4 then wC s.length else []).length<=70000;by_cases N:A=1;.rw[if_pos N,pF];have:=E (.inl N);omega
   rw[if_neg N];by_cases I:A=2;.rw[if_pos I];have:=(yG C.1 (.inr (.inl I))).1;have:=E (.inr (.inl I));omega
   rw[if_neg I];by_cases J:A=3;.rw[if_pos J,jY];have:=(yG C.1 (.inr (.inr J))).1;have:=E (.inr (.inr J));have:=RZ a.text.length;omega
   rw[if_neg J];split;.have:=RZ s.length;omega
   .simp
  have V:(nL.node a s).count=1+nL.nW s:=rfl;rw[Dv,jY,V];omega
theorem Tf:∀(s:List (nL IL))(t:nL TL)(i:Nat),t.all oG=true->sV s t i=true->(x8 s t i).length<=70000*nL.nW s
 |[],_,_,_,_=>by simp[x8]
 |x::xs,t,i,E,A=>by
  simp only[sV,j3]at A;have N:=Tf xs t (i+1) E A.2;have I:nL.nW (x::xs)=x.count+nL.nW xs:=rfl;rw[x8,jY,I];cases C:rP t i with
  |none=>rw[C]at A;exact absurd A.1 nR
  |some y=>
   rw[C]at A;have J:y.all oG=true:=by
    unfold rP at C;split at C;.exact El E C
    .exact El E C
   have O:=LD x y J A.1;dsimp only;omega
end
theorem lpB{g:Nat}{c1 c2:Array jP}{C E:ko}{w W A:jJ}(h:nO W g c1 C/\nO W (g+1) c2 E/\jS g w W)(hb:jS W.heap.size W A):nO A g c1 C/\nO A (g+1) c2 E/\jS g w A:=
 ⟨Below.blk hb h.1 h.1.lt,Below.blk hb h.2.1 h.2.1.lt,h.2.2.trans (hb.mono (Nat.le_of_lt h.1.lt))⟩
theorem a13(t:nL TL)(x:nL IL)(items:Int)(w:jJ)(ot oi:Option l5)(ct ci:Nat)(aA:oL w (nk ot t.sub.length ct) t.sub)(aB:pM w (nk oi x.sub.length ci) x.sub)(aC:x.lab.text.length<=j5)(aZ:qo w)(bg:xm w):
  jV jI 118 #[nC #[ng nH t.lab.kind,ng nH t.lab.size,nk ot t.sub.length ct,ng nH t.lab.tail],nC #[ny (txt x.lab),nA x.lab.list,nk oi x.sub.length ci],ng nH items] w (pR (Ae t x items).1 (Ae t x items).2 w):=by
 obtain⟨g,hg⟩:=nT w.heap.size;have aD:=aZ.lt;have aF:=bg.lt;have U:jW (∀W,(w.alloc (nG #[ng nH t.lab.kind,ng nH t.lab.size,nk ot t.sub.length ct,ng nH t.lab.tail] EW)).alloc (nG #[ny (txt x.lab),nA x.lab.list,nk oi x.sub.length ci] IT)=W->nO W g #[ng nH t.lab.kind,ng nH t.lab.size,nk ot t.sub.length ct,ng nH t.lab.tail] EW/\nO W (g+1) #[ny (txt x.lab),nA x.lab.list,nk oi x.sub.length ci] IT/\jS g w W):=jH λW O=>by
  subst O;have bM:=(jT w.heap.size w).alloc (jL _) (nG #[ng nH t.lab.kind,ng nH t.lab.size,nk ot t.sub.length ct,ng nH t.lab.tail] EW);have bB:=nO.new (w.alloc (nG #[ng nH t.lab.kind,ng nH t.lab.size,nk ot t.sub.length ct,ng nH t.lab.tail] EW)) #[ny (txt x.lab),nA x.lab.list,nk oi x.sub.length ci] IT;rw[show(w.alloc (nG #[ng nH t.lab.kind,ng nH t.lab.size,nk ot t.sub.length ct,ng nH t.lab.tail] EW)).heap.size=g+1 by simp[hg]]at bB;exact⟨(hg▸nO.new w _ _:nO _ g _ _).alloc _,bB,hg▸bM.alloc nR _⟩
 rw[hg]at aD aF;have ag:jW (∀W,jS g w W->oL W (nk ot t.sub.length ct) t.sub/\pM W (nk oi x.sub.length ci) x.sub/\qo W/\xm W/\∀B,g<=B->LA B W (nk ot t.sub.length ct) t.sub/\LB B W (nk oi x.sub.length ci) x.sub):=jH λW h=>by
  rw[<-hg]at h;exact⟨Shape.nX.below aA h,Shape.nX.below aB h,aZ.below h (hg▸aD),bg.below h (hg▸aF),λB hB=>⟨Shape.nX.keep aA h.size (λb hb _=>by show b<B;omega) (λb hb _=>h.block b hb),Shape.nX.keep aB h.size (λb hb _=>by show b<B;omega) (λb hb _=>h.block b hb)⟩⟩
 have az:=jH (λ(W:jJ) (h:jS g w W)=>D8 t W _ (ag W h).1 (ag W h).2.2.1);have aG:=jH (λ(W:jJ) (h:jS g w W)=>BP t x W _ _ (ag W h).1 (ag W h).2.1 aC (ag W h).2.2.1);have bC:=jH (λ(W:jJ) (h:jS g w W) (bq:x.all qb=true)=>QO x W oi ci (ag W h).2.1 bq);have bD:=jH (λ(W:jJ) (h:jS g w W) (B b:Nat) (hB:g<=B) (hbf:BF B b [] W) (bE:B<=W.heap.size) (bq:t.all oG=true) (bN:uw x t=true) (hl:(Dv x t).length<=100000000)=>
  a11 B b nK x t W ot oi ct ci [] ((ag W h).2.2.2.2 B hB).1 ((ag W h).2.2.2.2 B hB).2 hbf (ag W h).2.2.2.1 bq bN aC (by simpa using hl) bE)
 have aS:jW (Te t=(nL.o7 p0 t.sub&&pX t)):=jH rfl;obtain⟨bF,aH⟩:=nT (Ae t x items);have aO:=jH aH;rw[aH];have aT:∀(T:ByteArray)(er:Int) e bu,(e=nE (nD #[ny T,ng nH er])/\jS g w bu)->pR T er w e bu:=λT er e bu h=>by unfold pR;rw[hg];exact h
 have av:=jH aT;obtain⟨bO,bz⟩:=nT (pR bF.1 bF.2 w);have aP:=jH bz;rw[bz];clear aB aA aC aZ bg aD aF aH aT bz;cases af:(nL.o7 p0 t.sub&&pX t)with
 |false=>
  have ah:Te t=false:=aS.trans af;have ai:=jH ah;rw[af]at az;clear ah af;go_in;go_upto_region 1 with fail;generalize O:(w.alloc _).alloc _=w1;have A:=jH (U _ O);clear O U;obtain⟨c0,c1,c2,c3⟩:=A.1.a4;obtain⟨C,E,I⟩:=A.2.1.a3;have Z:=jH (az w1 A.2.2);go_wp2_with fail;refine(Z).mono ?_;rintro e w2 ⟨rfl,J⟩;have Q:=jH (lpB A J);clear c0 c1 c2 c3 C E I;clear J;go_wp2_with fail;try go_returns
  rw[<-aP.out,<-aO.out];unfold Ae;rw[if_neg (by rw[ai.out];decide)];exact av _ _ _ _ ⟨rfl,Q.2.2⟩
 |true=>
  have ah:Te t=true:=aS.trans af;have ai:=jH ah;rw[af]at az;clear ah af;by_cases V:ru t x=0
  .have aa:=jH (Ic V)
   have ax:=jH V;rw[V]at aG;have aU:EG x=(x.count:Int):=by unfold EG;rw[if_pos aa.2.1]
   have ay:=jH (λ(W:jJ) (h:jS g w W)=>bC.out W h (BO aa.2.1).1);rw[aU]at ay;clear V bC aU;obtain⟨N,bA⟩:∃n:Int,(x.count:Int)=n:=⟨_,rfl⟩;rw[bA]at ay;have bG:=jH bA;clear bA;by_cases hit:items<N
   .have bP:decide (items<N)=true:=nQ
    have bH:decide (N>items)=true:=nQ;have aI:=jH hit;clear hit;go_in;go_upto_region 1 with fail;generalize O:(w.alloc _).alloc _=w1;have A:=jH (U _ O);clear O U;obtain⟨c0,c1,c2,c3⟩:=A.1.a4;obtain⟨C,E,I⟩:=A.2.1.a3;have Z:=jH (az w1 A.2.2);go_wp2_with fail;refine(Z).mono ?_;rintro e w2 ⟨rfl,J⟩;have Q:=jH (lpB A J);clear c0 c1 c2 c3 C E I;clear J;obtain⟨c0,c1,c2,c3⟩:=Q.1.a4;obtain⟨C,E,I⟩:=Q.2.1.a3;have aj:=jH (aG w2 Q.2.2);go_wp2_with fail;refine(aj).mono ?_;rintro e w3 ⟨rfl,Y⟩;have ae:=jH (lpB Q Y);clear c0 c1 c2 c3 C E I;clear Y;obtain⟨c0,c1,c2,c3⟩:=ae.1.a4;obtain⟨C,E,I⟩:=ae.2.1.a3;have aJ:=jH (ay w3 ae.2.2);go_wp2_with fail;refine(aJ).mono ?_;rintro e w4 ⟨rfl,ak⟩;have aQ:=jH (lpB ae ak);clear c0 c1 c2 c3 C E I;clear ak;go_wp2_with fail;try go_returns
    rw[<-aP.out,<-aO.out];unfold Ae;rw[if_pos ai.out,if_pos ax.out,if_pos (by rw[bG.out];exact aI.out)];exact av _ _ _ _ ⟨rfl,aQ.2.2⟩
   .have bP:decide (items<N)=false:=nQ
    have bH:decide (N>items)=false:=nQ;have aI:=jH hit;clear hit;go_in;go_upto_region 1 with fail;generalize O:(w.alloc _).alloc _=w1;have A:=jH (U _ O);clear O U;obtain⟨c0,c1,c2,c3⟩:=A.1.a4;obtain⟨C,E,I⟩:=A.2.1.a3;have Z:=jH (az w1 A.2.2);go_wp2_with fail;refine(Z).mono ?_;rintro e w2 ⟨rfl,J⟩;have Q:=jH (lpB A J);clear c0 c1 c2 c3 C E I;clear J;obtain⟨c0,c1,c2,c3⟩:=Q.1.a4;obtain⟨C,E,I⟩:=Q.2.1.a3;have aj:=jH (aG w2 Q.2.2);go_wp2_with fail;refine(aj).mono ?_;rintro e w3 ⟨rfl,Y⟩;have ae:=jH (lpB Q Y);clear c0 c1 c2 c3 C E I;clear Y;obtain⟨c0,c1,c2,c3⟩:=ae.1.a4;obtain⟨C,E,I⟩:=ae.2.1.a3;have aJ:=jH (ay w3 ae.2.2);go_wp2_with fail;refine(aJ).mono ?_;rintro e w4 ⟨rfl,ak⟩;have aQ:=jH (lpB ae ak);clear c0 c1 c2 c3 C E I;clear ak;have bI:jW (∀W,w4.alloc (nG #[nz none,nk none 0 0] 204)=W->jS w4.heap.size w4 W/\BF w4.heap.size w4.heap.size [] W/\W.heap.size=w4.heap.size+1):=jH λW h=>by
     subst h;exact⟨(jT w4.heap.size w4).alloc (jL _) _,.inl ⟨jL _,nk none 0 0,nO.new w4 _ _,World.ownsRow_nil _ _ _ _,by simp[kJ]⟩,nR⟩
    go_upto_region 9 with fail;generalize O:w4.alloc _=w5;obtain⟨aV,hbf,aW⟩:=bI.out _ O;have aR:=jH (lpB aQ aV);have aK:g<=w4.heap.size:=Nat.le_of_lt aQ.1.lt;have bJ:jW ((Dv x t).length<=100000000):=jH (by have bT:=LD x t (CK aa.1) aa.2.2;have bU:x.count<=1024:=by{have:=aa.2.1;unfold qZ at this;simp only[j3,decide_eq_true_eq]at this;exact this.2};omega);have aX:=jH (bD w5 aR.2.2 w4.heap.size w4.heap.size aK hbf nK (CK aa.1) aa.2.2 bJ);have aL:=jH (jU aW aK);clear O bI aV hbf aW aK bD;obtain⟨c0,c1,c2,c3⟩:=aR.1.a4;obtain⟨C,E,I⟩:=aR.2.1.a3;go_wp2_with fail;refine aX.mono ?_;rintro e bK ⟨rfl,aM,aN,_⟩;have bQ:=jH (a1W w4.heap.size w4.heap.size (Dv x t) bK aM (by have:=aN.size;have:=aL.out;omega));have bR:jW (jS g w bK):=jH (aR.2.2.trans (aN.mono aL.2));clear aM aN aX;clear c0 c1 c2 c3 C E I;go_wp2_with fail;refine bQ.mono ?_;rintro e bV ⟨rfl,aY⟩;have bS:=jH (bR.trans (aY.mono aL.2));clear aY;go_wp2_with fail;try go_returns
    rw[<-aP.out,<-aO.out];unfold Ae;rw[if_pos ai.out,if_pos ax.out,if_neg (by rw[bG.out];have:=aI.out;omega)];exact av _ _ _ _ ⟨rfl,bS.out⟩
  .have ax:=jH V
   obtain⟨fe,au⟩:=nT (ru t x);have bL:=jH au;rw[au]at aG V;have bW:((fe:Int)==0)=false:=by rw[beq_eq_false_iff_ne];exact V
   clear V au;go_in;go_upto_region 1 with fail;generalize O:(w.alloc _).alloc _=w1;have A:=jH (U _ O);clear O U;obtain⟨c0,c1,c2,c3⟩:=A.1.a4;obtain⟨C,E,I⟩:=A.2.1.a3;have Z:=jH (az w1 A.2.2);go_wp2_with fail;refine(Z).mono ?_;rintro e w2 ⟨rfl,J⟩;have Q:=jH (lpB A J);clear c0 c1 c2 c3 C E I;clear J;obtain⟨c0,c1,c2,c3⟩:=Q.1.a4;obtain⟨C,E,I⟩:=Q.2.1.a3;have aj:=jH (aG w2 Q.2.2);go_wp2_with fail;refine(aj).mono ?_;rintro e w3 ⟨rfl,Y⟩;have ae:=jH (lpB Q Y);clear c0 c1 c2 c3 C E I;clear Y;go_wp2_with fail;try go_returns
   rw[<-aP.out,<-aO.out];unfold Ae;rw[if_pos ai.out,if_neg ax.out,bL.out];exact av _ _ _ _ ⟨rfl,ae.2.2⟩
end
section
open Go.RowKit
abbrev FnT:ko:=121
structure I5(g:Nat)(w:jJ)(t:TL)(tv:jP)(a:IL)(iv:jP)(deep most:Int)(s:ByteArray)(W:jJ):Prop where
 t:nO W g #[ng nH t.kind,ng nH t.size,tv,ng nH t.tail] 63
 x:nO W (g+1) #[ny (txt a),nA a.list,iv] IT
 d:nO W (g+2) #[ng nH deep] 3
 m:nO W (g+3) #[ng nH most] 3
 o:nO W (g+4) #[ny s] 9
 f:nO W (g+5) #[.func (.func 156) #[] #[nz (some ⟨g,0,none⟩),nz (some ⟨g+1,0,none⟩)],
  .func (.func 158) #[] #[nz (some ⟨g+1,0,none⟩),nz (some ⟨g+2,0,none⟩),nz (some ⟨g+3,0,none⟩)],
  .func (.func 160) #[] #[nz (some ⟨g+1,0,none⟩),nz (some ⟨g+4,0,none⟩)]] FnT
 b:jS g w W
section
variable {g:Nat}{w W W':jJ}{t:TL}{tv iv:jP}{a:IL}{deep most:Int}{s:ByteArray}
theorem I5.below(h:I5 g w t tv a iv deep most s W)(hb:jS W.heap.size W W'):I5 g w t tv a iv deep most s W':=
 ⟨Below.blk hb h.t h.t.lt,Below.blk hb h.x h.x.lt,Below.blk hb h.d h.d.lt,Below.blk hb h.m h.m.lt,Below.blk hb h.o h.o.lt,Below.blk hb h.f h.f.lt,h.b.trans (hb.mono (by have:=h.t.lt;omega))⟩
theorem I5.put(h:I5 g w t tv a iv deep most s W)(A:ByteArray):I5 g w t tv a iv deep most A (W.setCell ⟨g+4,0,none⟩ (ny A)):=
 have o:∀{n:Nat}{cs:Array jP}{t:ko},nO W n cs t->n≠g+4->nO (W.setCell ⟨g+4,0,none⟩ (ny A)) n cs t:=λh hn=>h.setOther (a:=⟨g+4,0,none⟩) hn _
 ⟨o h.t nK,o h.x nK,o h.d nK,o h.m nK,h.o.set 0 _,o h.f nK,h.b.setCell (p:=⟨g+4,0,none⟩) nR _⟩
end
theorem a4y(t:nL TL)(x:nL IL)(w:jJ)(tv iv:jP)(A:oL w tv t.sub)(C:pM w iv x.sub)(I:x.lab.text.length<=j5)(J:qo w)(deep most:Int)(s:ByteArray)(W:jJ)(h:I5 w.heap.size w t.lab tv x.lab iv deep most s W):
  jV jI 156 #[nz (some ⟨w.heap.size,0,none⟩),nz (some ⟨w.heap.size+1,0,none⟩)] W λe w'=>e=nE (ng nH (ru t x))/\I5 w.heap.size w t.lab tv x.lab iv deep most s w':=by
 have N:=jH (BP t x W tv iv (Shape.nX.below A h.b) (Shape.nX.below C h.b) I (J.below h.b J.lt));have H:=jH h;obtain⟨t0,Q,U,t3⟩:=h.t.a4;obtain⟨V,Y,Z⟩:=h.x.a3;clear h A C I J;generalize ru t x=E at*;generalize w.heap.size=g at*;go_in;go_wp2_with fail;refine N.mono ?_;rintro e w2 ⟨rfl,hb⟩;have O:=jH (H.below hb);clear hb;go_wp2_with fail;go_returns;exact⟨rfl,O.out⟩
theorem a4z(t:nL TL)(x:nL IL)(w:jJ)(tv iv:jP)(A:pM w iv x.sub)(deep most:Int)(s:ByteArray)(W:jJ)(h:I5 w.heap.size w t.lab tv x.lab iv deep most s W):
  jV jI 158 #[nz (some ⟨w.heap.size+1,0,none⟩),nz (some ⟨w.heap.size+2,0,none⟩),nz (some ⟨w.heap.size+3,0,none⟩)] W λe w'=>e=nE (ng nH (zN x deep most))/\I5 w.heap.size w t.lab tv x.lab iv deep most s w':=by
 have C:=jH (Un x deep most W iv (Shape.nX.below A h.b));have H:=jH h;obtain⟨J,N,O⟩:=h.x.a3;have Q:=h.d.c0;have U:=h.m.c0;clear h A;generalize zN x deep most=E at*;generalize w.heap.size=g at*;go_in;go_wp2_with fail;refine C.mono ?_;rintro e w2 ⟨rfl,hb⟩;have I:=jH (H.below hb);clear hb;go_wp2_with fail;go_returns;exact⟨rfl,I.out⟩
def BV(x:nL IL):ByteArray:=if qZ x=true then⟨(enc x).toArray⟩else⟨#[]⟩
def LF(x:nL IL):Int:=if qZ x=true then 0 else 1
theorem a4A(t:nL TL)(x:nL IL)(w:jJ)(tv iv:jP)(A:pM w iv x.sub)(C:x.lab.text.length<=j5)(I:∀W,jS w.heap.size w W->jV jI 161 #[nC #[ny (txt x.lab),nA x.lab.list,iv]] W λe w'=>e=nE (nD #[ny (BV x),ng nH (LF x)])/\jS W.heap.size W w')(deep most:Int)(s:ByteArray)(W:jJ)(h:I5 w.heap.size w t.lab tv x.lab iv deep most s W):
  jV jI 160 #[nz (some ⟨w.heap.size+1,0,none⟩),nz (some ⟨w.heap.size+4,0,none⟩)] W λe w'=>e=nE (ng nH (LF x))/\I5 w.heap.size w t.lab tv x.lab iv deep most (BV x) w':=by
 have N:=jH (I W h.b);have H:=jH h;obtain⟨O,Q,U⟩:=h.x.a3;clear h A C I;generalize LF x=E at*;generalize BV x=S at*;generalize w.heap.size=g at*;go_in;go_wp2_with fail;refine N.mono ?_;rintro e w2 ⟨rfl,hb⟩;have J:=jH (H.below hb);obtain⟨o0,V⟩:=J.o.b1;clear hb;go_wp2_with fail;go_returns;exact⟨rfl,J.put S⟩
def xM(t:nL TL)(x:nL IL)(deep most:Int):Int:=if ru t x≠0 then ru t x else if zN x deep most≠0 then zN x deep most else LF x
theorem a4B{w w1 w2 w3 w4 w5 W:jJ}{t:TL}{tv iv:jP}{a:IL}{deep most:Int}(e1:w.alloc (nG #[ng nH t.kind,ng nH t.size,tv,ng nH t.tail] 63)=w1)(e2:w1.alloc (nG #[ny (txt a),nA a.list,iv] IT)=w2)(e3:w2.alloc (nG #[ng nH deep] 3)=w3)(e4:w3.alloc (nG #[ng nH most] 3)=w4)(e5:w4.alloc (nG #[ny ⟨#[]⟩] 9)=w5)(N:w5.alloc (nG #[.func (.func 156) #[] #[nz (some ⟨w.heap.size,0,none⟩),nz (some ⟨w.heap.size+1,0,none⟩)],
  .func (.func 158) #[] #[nz (some ⟨w.heap.size+1,0,none⟩),nz (some ⟨w.heap.size+2,0,none⟩),nz (some ⟨w.heap.size+3,0,none⟩)],
  .func (.func 160) #[] #[nz (some ⟨w.heap.size+1,0,none⟩),nz (some ⟨w.heap.size+4,0,none⟩)]] FnT)=W):I5 w.heap.size w t tv a iv deep most ⟨#[]⟩ W/\w5.heap.size=w.heap.size+5:=by
 have O:w1.heap.size=w.heap.size+1:=by rw[<-e1];simp
 have Q:w2.heap.size=w.heap.size+2:=by rw[<-e2];simp[O]
 have z3:w3.heap.size=w.heap.size+3:=by rw[<-e3];simp[Q]
 have z4:w4.heap.size=w.heap.size+4:=by rw[<-e4];simp[z3]
 have z5:w5.heap.size=w.heap.size+5:=by rw[<-e5];simp[z4]
 have b1:jS w.heap.size w w1:=by rw[<-e1];exact(jT _ _).alloc (jL _) _
 have V:jS w1.heap.size w1 w2:=by rw[<-e2];exact(jT _ _).alloc (jL _) _
 have b3:jS w2.heap.size w2 w3:=by rw[<-e3];exact(jT _ _).alloc (jL _) _
 have b4:jS w3.heap.size w3 w4:=by rw[<-e4];exact(jT _ _).alloc (jL _) _
 have Y:jS w4.heap.size w4 w5:=by rw[<-e5];exact(jT _ _).alloc (jL _) _
 have b6:jS w5.heap.size w5 W:=by rw[<-N];exact(jT _ _).alloc (jL _) _
 have A:=nO.new w #[ng nH t.kind,ng nH t.size,tv,ng nH t.tail] 63;have C:=nO.new w1 #[ny (txt a),nA a.list,iv] IT;have E:=nO.new w2 #[ng nH deep] 3;have I:=nO.new w3 #[ng nH most] 3;have J:=nO.new w4 #[ny ⟨#[]⟩] 9
 have U:=nO.new w5 #[.func (.func 156) #[] #[nz (some ⟨w.heap.size,0,none⟩),nz (some ⟨w.heap.size+1,0,none⟩)],
  .func (.func 158) #[] #[nz (some ⟨w.heap.size+1,0,none⟩),nz (some ⟨w.heap.size+2,0,none⟩),nz (some ⟨w.heap.size+3,0,none⟩)],
  .func (.func 160) #[] #[nz (some ⟨w.heap.size+1,0,none⟩),nz (some ⟨w.heap.size+4,0,none⟩)]] FnT
 rw[e1]at A;rw[e2,O]at C;rw[e3,Q]at E;rw[e4,z3]at I;rw[e5,z4]at J;rw[N,z5]at U;have c5:jS w4.heap.size w4 W:=Y.trans (b6.mono nK);have c4:jS w3.heap.size w3 W:=b4.trans (c5.mono nK);have c3:jS w2.heap.size w2 W:=b3.trans (c4.mono nK);have c2:jS w1.heap.size w1 W:=V.trans (c3.mono nK);exact⟨⟨Below.blk c2 A A.lt,Below.blk c3 C C.lt,Below.blk c4 E E.lt,Below.blk c5 I I.lt,Below.blk b6 J J.lt,U,b1.trans (c2.mono nK)⟩,z5⟩
theorem Zu(t:nL TL)(x:nL IL)(w:jJ)(tv iv:jP)(E:oL w tv t.sub)(C:pM w iv x.sub)(O:x.lab.text.length<=j5)(af:∀W,jS w.heap.size w W->jV jI 161 #[nC #[ny (txt x.lab),nA x.lab.list,iv]] W λe w'=>e=nE (nD #[ny (BV x),ng nH (LF x)])/\jS W.heap.size W w')(ag:qo w)(deep most:Int):
  jV jI 116 #[nC #[ng nH t.lab.kind,ng nH t.lab.size,tv,ng nH t.lab.tail],nC #[ny (txt x.lab),nA x.lab.list,iv],ng nH deep,ng nH most] w
   λe w'=>e=nE (nD #[ny (if xM t x deep most=0 then BV x else⟨#[]⟩),ng nH (xM t x deep most)])/\jS w.heap.size w w':=by
 have aB:∀(fn:Fn)(first cap:Array jP)(w:jJ),(mG fn first cap).run jI w=.ok (.func fn first cap) w:=λ_ _ _ _=>rfl
 have V:jW (∀w5 W,(((((w.alloc (nG #[ng nH t.lab.kind,ng nH t.lab.size,tv,ng nH t.lab.tail] 63)).alloc (nG #[ny (txt x.lab),nA x.lab.list,iv] IT)).alloc (nG #[ng nH deep] 3)).alloc (nG #[ng nH most] 3)).alloc (nG #[ny ⟨#[]⟩] 9))=w5->
   w5.alloc (nG #[.func (.func 156) #[] #[nz (some ⟨w.heap.size,0,none⟩),nz (some ⟨w.heap.size+1,0,none⟩)],
  .func (.func 158) #[] #[nz (some ⟨w.heap.size+1,0,none⟩),nz (some ⟨w.heap.size+2,0,none⟩),nz (some ⟨w.heap.size+3,0,none⟩)],
  .func (.func 160) #[] #[nz (some ⟨w.heap.size+1,0,none⟩),nz (some ⟨w.heap.size+4,0,none⟩)]] FnT)=W->w5.heap.size=w.heap.size+5/\jV jI 155 #[nk (some ⟨w5.heap.size,0,none⟩) 3 3] W λe Y=>e=nE (ng nH (xM t x deep most))/\jS w.heap.size w Y/\
    (xM t x deep most=0->Y.cell? ⟨w.heap.size+4,0,none⟩=some (ny (BV x)))):=jH λw5 W av ax=>by
  obtain⟨hI,J⟩:=a4B (t:=t.lab) (tv:=tv) (iv:=iv) (a:=x.lab) (deep:=deep) (most:=most) rfl rfl rfl rfl av ax;refine⟨J,?_⟩;rw[J];obtain⟨A,Z,aa,ae,ah⟩:∃A:Nat->ByteArray,A 0=⟨#[]⟩/\A 1=⟨#[]⟩/\A 2=⟨#[]⟩/\A 3=BV x:=⟨λk=>if k=3 then BV x else⟨#[]⟩,if_neg nN,if_neg nN,if_neg nN,if_pos rfl⟩;have ay:∀W,I5 w.heap.size w t.lab tv x.lab iv deep most (A 0) W->jV jI 156 #[nz (some ⟨w.heap.size,0,none⟩),nz (some ⟨w.heap.size+1,0,none⟩)] W λe w'=>e=nE (ng nH (ru t x))/\I5 w.heap.size w t.lab tv x.lab iv deep most (A 1) w':=λW h=>by
   rw[Z]at h;rw[aa];exact a4y t x w tv iv E C O ag deep most _ W h
  have az:∀W,I5 w.heap.size w t.lab tv x.lab iv deep most (A 1) W->jV jI 158 #[nz (some ⟨w.heap.size+1,0,none⟩),nz (some ⟨w.heap.size+2,0,none⟩),nz (some ⟨w.heap.size+3,0,none⟩)] W λe w'=>e=nE (ng nH (zN x deep most))/\I5 w.heap.size w t.lab tv x.lab iv deep most (A 2) w':=λW h=>by
   rw[aa]at h;rw[ae];exact a4z t x w tv iv C deep most _ W h
  have aA:∀W,I5 w.heap.size w t.lab tv x.lab iv deep most (A 2) W->jV jI 160 #[nz (some ⟨w.heap.size+1,0,none⟩),nz (some ⟨w.heap.size+4,0,none⟩)] W λe w'=>e=nE (ng nH (LF x))/\I5 w.heap.size w t.lab tv x.lab iv deep most (A 3) w':=λW h=>by
   rw[ae]at h;rw[ah];exact a4A t x w tv iv C O af deep most _ W h
  rw[<-Z]at hI;clear Z aa ae;refine(M6 W _ _ _ (w.heap.size+5) FnT (ru t x) (zN x deep most) (LF x) (λk W=>I5 w.heap.size w t.lab tv x.lab iv deep most (A k) W) (λk W h=>I5.f h) hI ay (λ_=>az) (λ_ _=>aA)).mono ?_;rintro e Y ⟨rfl,N⟩;refine⟨rfl,N.b,λh0=> ?_⟩;unfold xM at h0;by_cases c1:ru t x≠0;.rw[if_pos c1]at h0;exact absurd h0 c1
  .by_cases c2:zN x deep most≠0
   .rw[if_neg c1,if_pos c2]at h0;exact absurd h0 c2
   .rw[if_neg c1,if_neg c2]at N
    rw[ah]at N;exact N.o.cell 0
 obtain⟨ot,ct,rfl,_,_⟩:=E.slice;obtain⟨oi,ci,rfl,_,_⟩:=nV.slice C;obtain⟨R,ai⟩:=nT (xM t x deep most);obtain⟨S,aj⟩:=nT (BV x);rw[ai,aj]at V⊢;clear ai aj E C af ag;go_in;go_upto_region 2 with fail;generalize Q:World.alloc (World.alloc _ _) _=w5;obtain⟨J,hcall⟩:=V.out w5 _ Q rfl;rw[J]at hcall;have ak:=jH hcall;clear hcall V Q;rw[show w.heap.size+1+1+1+1=w.heap.size+4 from rfl,show w.heap.size+1+1+1=w.heap.size+3 from rfl,show w.heap.size+1+1=w.heap.size+2 from rfl];go_wp2_with fail;refine ak.mono ?_;rintro e aC ⟨rfl,U,I⟩;have au:=jH U;clear U ak;by_cases c:R=0
 .have o0:=I c
  subst c;clear I;go_wp2_with fail;go_returns;exact⟨rfl,au.out⟩
 .have aD:(R !=0)=true:=by simp[c]
  have aF:=jH c;clear c I;go_wp2_with fail;go_returns;exact⟨rfl,au.out⟩
structure Af where
 iv:jP
 s:List (nL IL)
 bv:jP
 l:List UInt8
 B:Nat
def Lf(x:Af):List jP:=[x.iv,x.bv]
theorem AL(x:Af):(Lf x).length=2:=rfl
abbrev LT:ko:=244
abbrev U8:ko:=5
theorem Ou:LT≠U8:=nN
theorem a4C:wY jI 245 LT 2:=⟨Tryz.underlying245,⟨.agg #[.slice none 0 0,.slice none 0 0],48,by
 obtain⟨i,A,C,E,I⟩:=info_parts (show(Tryz.prog.info? LT).map (λi=>(i.zero,i.size,i.bytes))=some (some (nC #[nk none 0 0,nk none 0 0]),2,48)by kernel_rfl);exact⟨i,A,C,E,I,nN,rfl⟩⟩,nN⟩
theorem oD.Tg{w:jJ}{B:Nat}{v:jP}{l:List UInt8}(h:oD w B e v l):∀b,v.ownBlock=some b->B<=b/\∃cs,nO w b cs e:=by
 rcases h.2 with⟨rfl,_⟩|⟨g,cap,A,rfl,hb,hg,_⟩
 .intro b h;cases h
 .intro b h;cases h;exact⟨hb,A,hg⟩
theorem oD.keep{w w':jJ}{B:Nat}{v:jP}{l:List UInt8}(h:oD w B e v l)(hk:∀b cs,v.ownBlock=some b->nO w b cs e->w'.heap[b]? =w.heap[b]?):oD w' B e v l:=by
 refine⟨h.1,?_⟩;rcases h.2 with I|⟨g,cap,A,C,hg,E,r⟩
 .exact .inl I
 .refine .inr ⟨g,cap,A,C,hg,?_,r⟩
  rw[hk g A (by rw[C];rfl) E];exact E
theorem oD.slice{w:jJ}{B:Nat}{v:jP}{l:List UInt8}(h:oD w B e v l):∃oa cap,v=nk oa l.length cap:=by
 rcases h.2 with⟨rfl,h0⟩|⟨g,cap,A,rfl,_⟩
 .exact⟨none,0,by rw[h0]⟩
 .exact⟨_,cap,rfl⟩
theorem oD.far{w w':jJ}{B:Nat}{v:jP}{l:List UInt8}(h:oD w B U8 v l)(hg:w.grownBy w' v.ownBlock):∀c,c<w.heap.size->(c<B\/∃cs,nO w c cs LT)->w'.heap[c]? =w.heap[c]? :=λc hc A=>by
 refine hg.block c hc λe=> ?_
 obtain⟨I,cs,C⟩:=h.Tg c e.symm;rcases A with A|⟨E,A⟩
 .omega
 .unfold nO at C A
  rw[C]at A;injection A with A
  injection A with _ A _
  exact Ou A.symm
theorem oD.Zv{w w':jJ}{B:Nat}{v:jP}{l:List UInt8}(h:oD w B U8 v l)(hg:w.grownBy w' v.ownBlock){c:Nat}{cs:Array jP}{t:ko}(hb:nO w c cs t)(ht:t≠U8):w'.heap[c]? =w.heap[c]? :=by
 refine hg.block c hb.lt λe=> ?_
 obtain⟨_,C,A⟩:=h.Tg c e.symm;unfold nO at A hb;rw[A]at hb;injection hb with hb
 injection hb with _ hb _
 exact ht hb.symm
def JQ(w:jJ)(B1:Nat):Nat->List Af->Prop
 |_,[]=>True
 |hi,x::xs=>B1<=x.B/\x.B<=hi/\oD w x.B U8 x.bv x.l/\(∀b,x.bv.ownBlock=some b->b<hi)/\nV w (λc=>c<B1) x.iv x.s/\JQ w B1 x.B xs
theorem JQ.keep{w w':jJ}{B1:Nat}(hs:w.heap.size<=w'.heap.size)(C:∀c,c<w.heap.size->c<B1->w'.heap[c]? =w.heap[c]?):∀{st:List Af}{hi A:Nat},JQ w B1 hi st->hi<=A->
  (∀c cs,c<hi->nO w c cs U8->w'.heap[c]? =w.heap[c]?)->JQ w' B1 A st
 |[],_,_,_,_,_=>trivial
 |x::xs,hi,A,⟨E,a2,a3,a4,a5,a6⟩,J,hk=>
  ⟨E,nK,a3.keep λb cs hb hB=>hk b cs (a4 b hb) hB,λb hb=>by have:=a4 b hb;omega,Shape.nX.keep a5 hs (λ_ _ h=>h) λc hc I=>C c hc I,
   JQ.keep hs C a6 (jL _) λc cs hc hB=>hk c cs nK hB⟩
structure vR(w1 w:jJ)(B1:Nat)(vr:jP)(st:List Af):Prop where
 row:pK Lf 2 w B1 LT vr st.reverse
 Iu:JQ w B1 w.heap.size st
 qa:jS B1 w1 w
 hB:B1<=w.heap.size
theorem vw{w1 w:jJ}{B1:Nat}{vr:jP}{x:Af}{xs:List Af}{N:Nat}(h:vR w1 w B1 vr (x::xs))(O:xs.length=N):∃go C,vr=nk (some ⟨go,0,none⟩) (N+1) C/\
  w.cell? ⟨go,N*2,none⟩=some x.iv/\w.cell? ⟨go,N*2+1,none⟩=some x.bv/\w.frozen? ⟨go,N*2,none⟩=false/\w.frozen? ⟨go,N*2+1,none⟩=false/\N+1<=C:=by
 obtain⟨oa,C,E⟩:=h.row.slice;have Q:(x::xs).reverse.length=N+1:=by simp[O]
 rw[Q]at E;subst E;obtain⟨go,rfl,_,_,_,J,A,I⟩:=pK.at_ h.row AL (i:=N) (y:=x) (by simp[<-O]);exact⟨go,C,rfl,A 0 nN,A 1 nN,I _,I _,J⟩
theorem rev_at{x:α}{xs:List α}{N:Nat}(A:xs.length=N):(x::xs).reverse[N]? =some x:=by simp[<-A]
theorem Ti{x y:α}{xs:List α}{N:Nat}(A:xs.length=N):(x::xs).reverse.set N y=(y::xs).reverse:=by simp[<-A]
section
variable {w1 w w2:jJ}{B1:Nat}{x:Af}{xs:List Af}{N go cr:Nat}
theorem BX(h:pK Lf 2 w B1 LT (nk (some ⟨go,0,none⟩) (N+1) cr) (x::xs).reverse):B1<=go/\∃cs,nO w go cs LT:=by
 obtain⟨a,_,b⟩:=h.block go rfl;exact⟨a,b⟩
theorem Tj{go c:Nat}{cs A:Array jP}(h:nO w go cs LT)(C:nO w c A U8):c≠go:=by
 rintro rfl;unfold nO at h C;rw[C]at h;injection h with h
 injection h with _ h _
 exact Ou h.symm
theorem vR.items(h:vR w1 w B1 (nk (some ⟨go,0,none⟩) (N+1) cr) (x::xs))(E:xs.length=N){iv:jP}{s:List (nL IL)}(hs:nV w (λc=>c<B1) iv s):
  vR w1 (w.setCell ⟨go,N*2,none⟩ iv) B1 (nk (some ⟨go,0,none⟩) (N+1) cr) ({x with iv:=iv,s:=s}::xs):=by
 obtain⟨hg,cs,I⟩:=BX h.row;have hsz:(w.setCell ⟨go,N*2,none⟩ iv).heap.size=w.heap.size:=by simp[kC]
 have hrow:=h.row.set AL (rev_at E) (j:=0) (x:=iv) (z:={x with iv:=iv,s:=s}) nN rfl;rw[Ti E,Nat.add_zero]at hrow;have A:∀c,c≠go->(w.setCell ⟨go,N*2,none⟩ iv).heap[c]? =w.heap[c]? :=λc hc=>j6 _ _ _ _ hc
 have C:=h.Iu.keep (w':=w.setCell ⟨go,N*2,none⟩ iv) (by rw[hsz];exact jL _) (λc _ hc=>A c nK) (jL _) λc O _ hB=>A c (Tj I hB)
 rw[<-hsz]at C;obtain⟨J,a2,a3,a4,a5,a6⟩:=C;exact⟨hrow,⟨J,a2,a3,a4,Shape.nX.keep hs (by rw[hsz];exact jL _) (λ_ _ h=>h) λc _ hc=>A c nK,a6⟩,⟨h.qa.os,h.qa.tape,h.qa.output,by rw[hsz];exact h.qa.size,λc hc=>(A c nK).trans (h.qa.block c hc)⟩,by rw[hsz];exact h.hB⟩
theorem vR.bytes(h:vR w1 w B1 (nk (some ⟨go,0,none⟩) (N+1) cr) (x::xs))(V:xs.length=N){bv:jP}{l:List UInt8}(I:oD w2 x.B U8 bv l)(E:w.heap.size<=w2.heap.size)(J:w2.os=w.os/\w2.tape=w.tape/\w2.output=w.output)(hk:∀c,c<w.heap.size->(c<x.B\/∃cs,nO w c cs LT)->w2.heap[c]? =w.heap[c]?):
  vR w1 (w2.setCell ⟨go,N*2+1,none⟩ bv) B1 (nk (some ⟨go,0,none⟩) (N+1) cr) ({x with bv:=bv,l:=l}::xs):=by
 obtain⟨hg,cs,C⟩:=BX h.row;obtain⟨Y,a2,a3,a4,a5,a6⟩:=h.Iu;have U:nO w2 go cs LT:=by unfold nO;rw[hk go C.lt (.inr ⟨cs,C⟩)];exact C
 have O:pK Lf 2 w2 B1 LT (nk (some ⟨go,0,none⟩) (N+1) cr) (x::xs).reverse:=h.row.keep λb hb=>by
  simp[kJ]at hb;subst hb;exact hk _ C.lt (.inr ⟨cs,C⟩)
 have hsz:(w2.setCell ⟨go,N*2+1,none⟩ bv).heap.size=w2.heap.size:=by simp[kC]
 have hrow:=O.set AL (rev_at V) (j:=1) (x:=bv) (z:={x with bv:=bv,l:=l}) nN rfl;rw[Ti V]at hrow;have A:∀c,c≠go->(w2.setCell ⟨go,N*2+1,none⟩ bv).heap[c]? =w2.heap[c]? :=λc hc=>j6 _ _ _ _ hc
 refine⟨hrow,⟨Y,(by show x.B<=_;rw[hsz];omega),I.keep λb Q _ hB=>A b (Tj U hB),λb hb=> ?_,?_,?_⟩,?_,by rw[hsz];have:=h.hB;omega⟩
 .obtain⟨_,Q,hB⟩:=I.Tg b hb
  rw[hsz];exact hB.lt
 .exact Shape.nX.keep a5 (by rw[hsz];exact E) (λ_ _ h=>h) λc hc Z=>(A c nK).trans (hk c hc (.inl nK))
 .exact a6.keep (by rw[hsz];exact E) (λc hc Z=>(A c nK).trans (hk c hc (.inl nK))) (jL _) λc Q hc hB=>(A c (Tj C hB)).trans (hk c hB.lt (.inl hc))
 .refine⟨J.1.trans h.qa.os,J.2.1.trans h.qa.tape,J.2.2.trans h.qa.output,by rw[hsz];exact kg h.qa.size E,λc hc=>(A c nK).trans ((hk c (by have:=h.hB;omega) (.inl nK)).trans (h.qa.block c hc))⟩
theorem vR.push{vr:jP}{st:List Af}{J w':jJ}{g cap:Nat}{f:Af}(h:vR w1 w B1 vr st)(A:jS w.heap.size w J)(hrow:pK Lf 2 w' B1 LT (nk (some ⟨g,0,none⟩) (st.length+1) cap) (st.reverse++[f]))(hg:J.grownBy w' vr.ownBlock)(hs:nV w (λc=>c<B1) f.iv f.s)(C:f.bv=nk none 0 0/\f.l=[]/\f.B=w'.heap.size):vR w1 w' B1 (nk (some ⟨g,0,none⟩) (st.length+1) cap) (f::st):=by
 have hsz:w.heap.size<=w'.heap.size:=kg A.size hg.size;have E:∀b,vr.ownBlock=some b->B1<=b/\∃cs,nO w b cs LT:=λb hb=>by obtain⟨a,_,b⟩:=h.row.block b hb;exact⟨a,b⟩
 have hk:∀c,c<w.heap.size->vr.ownBlock≠some c->w'.heap[c]? =w.heap[c]? :=λc hc O=>(hg.block c (kG hc A.size) (λe=>O e.symm)).trans (A.block c hc)
 have I:∀c,c<w.heap.size->c<B1->w'.heap[c]? =w.heap[c]? :=λc hc U=>hk c hc λe=>by have:=(E c e).1;omega
 have hB:=h.hB;refine⟨by rw[List.reverse_cons];exact hrow,⟨by rw[C.2.2];omega,by rw[C.2.2];exact jL _,by rw[C.1,C.2.1];exact oD.nil _ _ _,λb hb=>by rw[C.1]at hb;simp[kJ]at hb,Shape.nX.keep hs hsz (λ_ _ h=>h) I,?_⟩,?_,nK⟩
 .rw[C.2.2]
  exact h.Iu.keep hsz I hsz λc Q hc N=>hk c hc λe=>by
   obtain⟨_,cs,hL⟩:=E c e;exact Tj hL N rfl
 .exact⟨hg.os.trans (A.os.trans h.qa.os),hg.tape.trans (A.tape.trans h.qa.tape),hg.output.trans (A.output.trans h.qa.output),kg h.qa.size hsz,λc hc=>(I c nK hc).trans (h.qa.block c hc)⟩
theorem vR.pop(h:vR w1 w B1 (nk (some ⟨go,0,none⟩) (N+1) cr) (x::xs))(hN:xs.length=N):vR w1 w B1 (nk (some ⟨go,0,none⟩) N cr) xs:=by
 obtain⟨A,a2,a3,a4,a5,a6⟩:=h.Iu;refine⟨?_,a6.keep (jL _) (λ_ _ _=>rfl) a2 λ_ _ _ _=>rfl,h.qa,h.hB⟩;have:=pK.cut h.row AL (m:=N) (by simp[hN]);exact Si
end
theorem vR.below{w1 w w':jJ}{B1:Nat}{vr:jP}{st:List Af}(h:vR w1 w B1 vr st)(hb:jS w.heap.size w w'):vR w1 w' B1 vr st:=
 ⟨h.row.below hb,h.Iu.keep hb.size (λc hc _=>hb.block c hc) hb.size (λc cs _ hB=>hb.block c hB.lt),h.qa.trans (hb.mono h.hB),kg h.hB hb.size⟩
def Tk:List Af->List UInt8->List UInt8
 |[],b=>b
 |x::xs,b=>Tk xs (x.l++(hdr 192 b.length++b)++q8 x.s)
def BZ:List Af->List UInt8
 |[]=>[]
 |x::xs=>Tk xs (x.l++q8 x.s)
theorem Zw:∀(st:List Af)(b:List UInt8),b.length<=(Tk st b).length/\∀x,x∈st->x.l.length<=(Tk st b).length
 |[],b=>⟨jL _,λx h=>by cases h⟩
 |x::xs,b=>by
  obtain⟨C,E⟩:=Zw xs (x.l++(hdr 192 b.length++b)++q8 x.s);simp only[jY]at C;refine⟨by simp only[Tk];omega,λy A=> ?_⟩;rcases mD.1 A with rfl|A
  .simp only[Tk];omega
  .exact E y A
theorem a14{x:Af}{xs:List Af}:x.l.length+(q8 x.s).length<=(BZ (x::xs)).length/\∀y,y∈xs->y.l.length<=(BZ (x::xs)).length:=by
 obtain⟨A,C⟩:=Zw xs (x.l++q8 x.s);simp only[jY]at A;exact⟨A,C⟩
def Bo(st:List Af):Nat:=(st.map λx=>2*nL.nW x.s).sum+st.length
theorem Zx{P:Nat->Prop}:∀n,P n->∃m,P m/\∀k,P k->m<=k:=by
 intro n;induction n using Nat.strongRecOn with
 |_ n C=>
  intro h;rcases Classical.em (∃k,k<n/\P k)with⟨k,hk,hp⟩|hn
  .exact C k hk hp
  .exact⟨n,h,λk hp=>by
    rcases lh k n with A|A
    .exact absurd ⟨k,A,hp⟩ hn
    .exact A⟩
theorem Zy(P:α->Nat->Prop):∃m:α->Nat,∀a n,P a n->P a (m a)/\m a<=n:=by
 have h:∀a,∃m,∀n,P a n->P a m/\m<=n:=λa=>by
  rcases Classical.em (∃n,P a n)with⟨n,hn⟩|hn
  .obtain⟨m,A,C⟩:=Zx n hn
   exact⟨m,λk hk=>⟨A,C k hk⟩⟩
  .exact⟨0,λk hk=>absurd ⟨k,hk⟩ hn⟩
 obtain⟨f,E⟩:=Classical.axiomOfChoice h;exact⟨f,E⟩
end
end Go.Proofs.YtamfcjmhnndbdaaGreatDoor


