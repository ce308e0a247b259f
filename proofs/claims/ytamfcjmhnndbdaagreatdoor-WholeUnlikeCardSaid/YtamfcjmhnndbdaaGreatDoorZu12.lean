/- Part 12 of the proof. -/
import Derived.Test.YtamfcjmhnndbdaaGreatDoorZu00
import Derived.Test.YtamfcjmhnndbdaaGreatDoorZu08
import Derived.Test.YtamfcjmhnndbdaaGreatDoorZu09
import Derived.Test.YtamfcjmhnndbdaaGreatDoorZu11
open Go.Value renaming agg→nC,bool→nA,int→ng,pointer→nz,slice→nk,string→ny,tuple→nD,ownBlock→kJ
open Go.Obj renaming cells→nG
open Go.IntKind renaming i64→nH
open Go.Ending renaming returned→nE,returned→lH
open Go.Lib renaming hid→jH
open Go.Proofs.Tryz renaming prog→jI
open Go renaming World→jJ,Value→jP,Calls→jV,bodyPost_ret→j4,maxLen→j5,TypeId→ko,undef→kH,results→kK,Oper→lX,Addr→l5,wpQuiet_nil→mJ
open List renaming setIfInBounds_toArray→jK,getElem?_cons_succ→jM,getElem?_cons_zero→jN,getElem?_toArray→jO,set_cons_zero→jQ,set_cons_succ→jR,take_succ_cons→ky,take_zero→kQ,length_drop→kS,mem_of_getElem?→kT,length_take→kY,replicate→lu
open Nat renaming le_refl→jL,le_trans→kg,lt_of_lt_of_le→kG,zero_le→kI,le_succ→kX,lt_succ_self→lM,le_of_eq→mV
open Go.RowKit renaming Below→jS,Hid→jW,intOf→kW
open Go.RowKit.Below renaming refl→jT
open And renaming intro→jU
open Bool renaming and_eq_true→j3,false_eq_true→lF
open ByteArray renaming size_extract→kz
open Go.World renaming setCell→kC
open Go.Act renaming put→kE
open Go.Code renaming region→lg
open Go.Lit renaming int→lJ
open Array renaming getElem?_modify→lL
open Go.Sem renaming run→mi
open Go.Instr renaming makeFunc→mG
open Int renaming toNat_of_nonneg→mZ
namespace Go.Proofs.YtamfcjmhnndbdaaGreatDoor
set_option linter.unusedVariables false
set_option linter.unusedSimpArgs false
set_option maxRecDepth 100000
set_option maxHeartbeats 8000000
variable {p:Prop}{e:Ending}
section
open Go.RowKit
theorem vQ(w:jJ)(Q:Nat->Prop):nV w Q (nk none 0 0) []:=⟨none,0,rfl,jL _,kI _,λh=>absurd h nR⟩
theorem Sq(r:RS)(n:Int):(r.take n).2.size<=r.t.size:=by
 unfold RS.take;split
 .split
  .exact kI _
  .split
   .exact kI _
   .simp only[kz];omega
 .exact kI _
theorem G6:∀(d:Nat)(t:nL TL)(r:RS)(l:Nat),r.t.size<=100000->(qd d t r l).1.lab.text.length<=j5
 |0,t,r,l,h=>by show([]:List UInt8).length<=j5;decide
 |d+1,.node a s,r,l,h=>by
  have A:(100000:Nat)<=j5:=nN;have ht:∀b:ByteArray,b.size<=100000->(yn b).lab.text.length<=j5:=λb hb=>by
   show b.data.toList.length<=j5;have:b.data.toList.length=b.size:=nR;omega
  have h0:(yn ⟨#[]⟩).lab.text.length<=j5:=nN;unfold qd;split;.exact h0
  .split
   .show(xh _).reverse.length<=j5
    have:=DF 8 _ (kG (R5 (r.take a.size).2) nN);rw[List.length_reverse];omega
   .split
    .exact ht _ (kg (Sq _ _) h)
    .split
     .exact ht _ (kg (Sq _ _) (by rw[Xr];exact h))
     .split
      .cases s with
       |nil=>exact h0
       |cons t ts=>show([]:List UInt8).length<=j5;decide
      .show([]:List UInt8).length<=j5;decide
theorem a1g(d:Nat)(a:TL)(s:List (nL TL))(r:RS):qd (d+1) (.node a s) r 0=(yn ⟨#[]⟩,r.fail 4,0):=by unfold qd;rw[if_pos rfl]
theorem a1h(d m:Nat)(a:TL)(s:List (nL TL))(r:RS)(h:a.kind=1):qd (d+1) (.node a s) r (m+1)=(KH (GH (r.take a.size).2),(r.take a.size).1,m):=by unfold qd;rw[if_neg nK,if_pos h];rfl
theorem a1i(d m:Nat)(a:TL)(s:List (nL TL))(r:RS)(h:a.kind=2):qd (d+1) (.node a s) r (m+1)=(yn (r.take a.size).2,(r.take a.size).1,m):=by unfold qd;rw[if_neg nK,if_neg nK,if_pos h];rfl
theorem a1j(d m:Nat)(a:TL)(s:List (nL TL))(r:RS)(h:a.kind=3):qd (d+1) (.node a s) r (m+1)=(yn ((r.comp a.size.toNat).1.take (r.comp a.size.toNat).2).2,((r.comp a.size.toNat).1.take (r.comp a.size.toNat).2).1,m):=by
 unfold qd;rw[if_neg nK,if_neg nK,if_neg nK,if_pos h];rfl
theorem a1k(d m:Nat)(a:TL)(t:nL TL)(r:RS)(h:a.kind=4):qd (d+1) (.node a [t]) r (m+1)=(Jq (qI (qd d) (lu (r.comp a.size.toNat).2 (t,true)) (r.comp a.size.toNat).1 m).1,(qI (qd d) (lu (r.comp a.size.toNat).2 (t,true)) (r.comp a.size.toNat).1 m).2):=by
 unfold qd;rw[if_neg nK,if_neg nK,if_neg nK,if_neg nK,if_pos h];rfl
theorem a1l(d m:Nat)(a:TL)(s:List (nL TL))(r:RS)(h:a.kind=5):qd (d+1) (.node a s) r (m+1)=(Jq (qI (qd d) (za s a.tail) r m).1,(qI (qd d) (za s a.tail) r m).2):=by
 unfold qd;rw[if_neg nK,if_neg nK,if_neg nK,if_neg nK,if_neg nK];rfl
theorem zX{g cb lb fb:Nat}{r:RS}{l:Nat}{k z:Int}{ou:Option l5}{nu cu:Nat}{tl:Int}{s:List (nL TL)}{w0 W:jJ}{a b c:jP}(h:EL g cb lb fb r l k z ou nu cu tl s w0 #[a,b,c] W):
  (W.cell? ⟨g+2,0,none⟩=some a/\W.cell? ⟨g+2,1,none⟩=some b/\W.cell? ⟨g+2,2,none⟩=some c)/\W.frozen? ⟨g+2,0,none⟩=false/\W.frozen? ⟨g+2,1,none⟩=false/\W.frozen? ⟨g+2,2,none⟩=false:=
 ⟨⟨h.rs.cell 0,h.rs.cell 1,h.rs.cell 2⟩,h.rs.free 0,h.rs.free 1,h.rs.free 2⟩
theorem a1m(r:RS)(m:Nat)(A:m<=65536):(r.comp m).2<=65536:=by
 by_cases hf:(r.comp m).1.f=0;.have:=Jr hf;omega
 .exact XA
theorem XZ(h:p:=by
 have a8H:=jH hs;clear hl hu hs CL;dsimp only at*;obtain⟨⟨y0,y1,y2⟩,f0,f1,f2⟩:=zX Sr.out;go_wp2_with fail;rw[p8];have hF:=Sr.put (ny ⟨#[]⟩) (nA true) (nk ov ys.length cv);obtain⟨⟨d0,d1,d2⟩,_⟩:=zX hF;refine j4 (v:=nC #[ny ⟨#[]⟩,nA true,nk ov ys.length cv]) (by simp[kK,Tryz.results211,go_sem,d0,d1,d2]) rfl ?_;rw[HYE.out];refine⟨ov,cv,rfl,hF.ly,?_,hF.up⟩;refine Shape.nX.keep a8H (by simp[pI,kC]) (λc _ hc=>by have:=HS.out c hc;show w.heap.size<=c;omega) λc _ hc=> ?_
 have:=HS.out c hc;simp[pI,kC,lL,show g+2≠c by omega,show¬g+2=c by omega]):p:=h
theorem X0(h:p:=by
 obtain⟨⟨d0,d1,d2⟩,_⟩:=zX hF;refine j4 (v:=nC #[ny T,nA false,nk none 0 0]) (by simp[kK,Tryz.results211,go_sem,d0,d1,d2]) rfl ?_;rw[HYE.out];exact⟨none,0,by show _=lH (nC #[ny (⟨T.data.toList.toArray⟩:ByteArray),nA false,nk none 0 0]);rw[a3S],hF.ly,vQ _ _,hF.up⟩):p:=h
theorem UX:∀(d:Nat)(t:nL TL)(cb lb fb:Nat)(r:RS)(l:Nat)(w:jJ)(ou:Option l5)(cu:Nat),t.deep<=d->t.all oG=true->Bf cb lb fb r l w->(cb<w.heap.size/\lb<w.heap.size/\fb<w.heap.size)->oh.nX w (UR cb lb) (nk ou t.sub.length cu) t.sub->
  jV jI 211 #[nC #[Bd cb,C9 cb,Dz cb,Cc cb,Be fb,nz (some ⟨lb,0,none⟩)],nC #[ng nH t.lab.kind,ng nH t.lab.size,nk ou t.sub.length cu,ng nH t.lab.tail]] w (NK cb lb fb (qd d t r l) w):=by
 intro d;induction d with
 |zero=>intro t cb lb fb r l w ou cu hd;exact absurd (nL.MW t) nK
 |succ d aU=>
  intro t cb lb fb r l w ou cu hd I hI aF ah;obtain⟨⟨k,z,tl⟩,s⟩:=t;simp only[nL.oQ,nL.qx]at*;have aG:nL.o6 s<=d:=by simp only[nL.deep]at hd;omega
  simp only[nL.all,j3]at I;obtain⟨aH,aI⟩:=I;unfold oG qz at aH;simp only[decide_eq_true_eq]at aH;obtain⟨g,hg⟩:=nT w.heap.size;have bJ:∀(fn:Fn)(first cap:Array jP)(w:jJ),(mG fn first cap).run jI w=.ok (.func fn first cap) w:=λ_ _ _ _=>rfl
  obtain⟨n,hn⟩:=nT s.length;have ai:jW (∀W,((w.alloc (nG #[Bd cb,C9 cb,Dz cb,Cc cb,Be fb,nz (some ⟨lb,0,none⟩)] EZ)).alloc (nG #[ng nH k,ng nH z,nk ou n cu,ng nH tl] rW)).alloc (nG #[ny ⟨#[]⟩,nA false,nk none 0 0] IT)=W->EL g cb lb fb r l k z ou n cu tl s w AR W):=jH λW bB=>by
   subst bB;have Y:=(jT w.heap.size w).alloc (jL _) (nG (EJ cb lb fb) EZ);have a2:=Y.alloc nR (nG #[ng nH k,ng nH z,nk ou n cu,ng nH tl] rW);have a3:=a2.alloc nQ (nG #[ny ⟨#[]⟩,nA false,nk none 0 0] IT);have aV:=nO.new w (EJ cb lb fb) EZ;have aW:=nO.new (w.alloc (nG (EJ cb lb fb) EZ)) #[ng nH k,ng nH z,nk ou n cu,ng nH tl] rW;have aX:=nO.new ((w.alloc (nG (EJ cb lb fb) EZ)).alloc (nG #[ng nH k,ng nH z,nk ou n cu,ng nH tl] rW)) #[ny ⟨#[]⟩,nA false,nk none 0 0] IT;rw[show(w.alloc (nG (EJ cb lb fb) EZ)).heap.size=g+1 by simp[hg]]at aW;rw[show((w.alloc (nG (EJ cb lb fb) EZ)).alloc (nG #[ng nH k,ng nH z,nk ou n cu,ng nH tl] rW)).heap.size=g+2 by simp[hg]]at aX;rw[hg]at aV;rw[hn]at ah;exact⟨hI.below a3,(aV.alloc _).alloc _,aW.alloc _,aX,Shape.nX.keep ah a3.size (λc hc Z=>⟨Z,hg▸hc⟩) λc hc _=>a3.block c hc,oN.of a3,⟨nK,nK,nK,hg,hg▸hI.tab.lt⟩⟩
  obtain⟨aJ,aS⟩:∃aJ,qd (d+1) (.node ⟨k,z,tl⟩ s) r l=aJ:=⟨_,rfl⟩;have J:=jH aS;rw[aS,hn];have aa:=jH aU;have aK:=jH aI;have aL:=jH aG;have aY:=jH hn;have bK:=jH aF;have aM:=jH (λW I=>ui cb r 4 W I);have bL:=hI.ok.2;clear hI ah aS aU hd aI aG aF;unfold Bd C9 Dz Cc Be at ai;unfold Bd C9 Dz Cc Be;obtain⟨af,U⟩:∃af:Int,(l:Int)=af:=⟨_,rfl⟩;go_in;go_upto_region 1 with fail;have Q:=ai.out _ rfl;generalize ((w.alloc _).alloc _).alloc _=w1 at*;have V:=jH Q;have c5:w1.cell? ⟨g,5,none⟩=some (nz (some ⟨lb,0,none⟩)):=Q.rb.cell 5;have c1:w1.cell? ⟨g,1,none⟩=some (C9 cb):=Q.rb.cell 1;have cl:w1.cell? ⟨lb,0,none⟩=some (ng nH af):=U▸Q.ly.lf.cell 0;have bC:=Q.ly.lf.free 0;unfold C9 at c1;clear ai Q;cases l with
  |zero=>
   have t0:decide (af<=0)=true:=by rw[<-U];rfl
   have HYE:jW (aJ=(yn ⟨#[]⟩,r.fail 4,0)):=jH (by rw[<-J.out];exact a1g _ _ _ _);clear U J;go_wp2_with fail;refine(aM _ V.ly.rd).mono ?_;rintro e w2 ⟨rfl,hu,I⟩;have A:=jH (V.turn hu I (Xt r 4));clear hu I V;obtain⟨⟨y0,y1,y2⟩,f0,f1,f2⟩:=zX A.out;go_wp2_with fail;rw[p8];have hF:=A.put (ny ⟨#[]⟩) (nA false) (nk none 0 0);obtain⟨⟨d0,d1,d2⟩,_⟩:=zX hF;refine j4 (v:=nC #[ny ⟨#[]⟩,nA false,nk none 0 0]) (by simp[kK,Tryz.results211,go_sem,d0,d1,d2]) rfl ?_;rw[HYE.out];exact⟨none,0,rfl,hF.ly,vQ _ _,hF.up⟩
  |succ m=>
   have t0:decide (af<=0)=false:=by rw[<-U];simp
   have aZ:IntKind.i64.wrap (af - 1)=(m:Int):=by rw[IntWalk.i64_in _ nK];omega
   clear U;go_upto_region 5 with fail;have aN:=V.Bq m nK;generalize w1.setCell _ _=w2 at*;have A:=jH aN;clear aN V t0 aZ c5 c1 cl bC aM;have b0:w2.cell? ⟨g,0,none⟩=some (Bd cb):=A.rb.cell 0;have b4:w2.cell? ⟨g,4,none⟩=some (Be fb):=A.rb.cell 4;have a0:w2.cell? ⟨g+1,0,none⟩=some (ng nH k):=A.tb.cell 0;have Y:w2.cell? ⟨g+1,1,none⟩=some (ng nH z):=A.tb.cell 1;unfold Bd at b0;unfold Be at b4;have hk:k=1\/k=2\/k=3\/k=4\/k=5:=nK;rcases hk with rfl|rfl|rfl|rfl|rfl
   .have HYE:jW (aJ=(KH (GH (r.take z).2),(r.take z).1,m)):=jH (by rw[<-J.out];exact a1h _ _ _ _ _ rfl)
    have aj:=jH (λW I=>qg cb r z W A.ly.ok.1.1 I);have ak:=jH (GI r z);have bg:=jH (R5 (r.take z).2);clear J;go_wp2_with fail;refine(aj _ A.ly.rd).mono ?_;rintro e w3 ⟨rfl,hu,I⟩;have C:=jH (A.turn hu I ak);clear hu I A aj ak b0 b4 a0 Y;generalize r.take z=y at*;obtain⟨r2,T⟩:=y;dsimp only at*;have bq:=jH (a1e T);go_wp2_with fail;refine(bq _).mono ?_;rintro e w4 ⟨er,rfl,rfl⟩;have au:=jH (λW=>KL (GH T) W ⟨(xh (GH T)).reverse.toArray⟩ λbD=>Jo (GH T) bD bg);clear bq;generalize GH T=bE at*;go_wp2_with fail;refine(au _).mono ?_;rintro e w5 ⟨rfl,hb⟩;have Sr:=jH (C.below hb);clear hb C au;obtain⟨aC,av⟩:∃aC,(⟨(xh bE).reverse.toArray⟩:ByteArray)=aC:=⟨_,rfl⟩;rw[av];have aO:=jH av;clear av;obtain⟨⟨y0,y1,y2⟩,f0,f1,f2⟩:=zX Sr.out;go_wp2_with fail;rw[p8];have hF:=Sr.put (ny aC) (nA false) (nk none 0 0);obtain⟨⟨d0,d1,d2⟩,_⟩:=zX hF;refine j4 (v:=nC #[ny aC,nA false,nk none 0 0]) (by simp[kK,Tryz.results211,go_sem,d0,d1,d2]) rfl ?_;rw[HYE.out];rw[<-aO.out];rw[<-aO.out]at hF;exact⟨none,0,rfl,hF.ly,vQ _ _,hF.up⟩
   .have HYE:jW (aJ=(yn (r.take z).2,(r.take z).1,m)):=jH (by rw[<-J.out];exact a1i _ _ _ _ _ rfl)
    have aj:=jH (λW I=>qg cb r z W A.ly.ok.1.1 I);have ak:=jH (GI r z);clear J;go_wp2_with fail;refine(aj _ A.ly.rd).mono ?_;rintro e w3 ⟨rfl,hu,I⟩;have C:=jH (A.turn hu I ak);clear hu I A aj ak b0 b4 a0 Y;generalize r.take z=y at*;obtain⟨r2,T⟩:=y;dsimp only at*;have au:=jH (D9 T);go_wp2_with fail;refine(au _).mono ?_;rintro e w5 ⟨rfl,hb⟩;have Sr:=jH (C.below hb);clear hb C au;obtain⟨⟨y0,y1,y2⟩,f0,f1,f2⟩:=zX Sr.out;go_wp2_with fail;rw[p8];have hF:=Sr.put (ny T) (nA false) (nk none 0 0);exact X0
   .obtain⟨E,rfl⟩:∃E:Nat,z=E:=⟨z.toNat,nK⟩
    have HYE:jW (aJ=(yn ((r.comp E).1.take (r.comp E).2).2,((r.comp E).1.take (r.comp E).2).1,m)):=jH (by rw[<-J.out];exact a1j _ _ _ _ _ rfl);have Ee:=λW h=>GN cb lb fb m r E W h nK
    have htake:=λW I=>qg cb (r.comp E).1 (r.comp E).2 W (A.ly.ok.1.1.comp E) I
    have hk2:=GI (r.comp E).1 (r.comp E).2;clear J b0 b4 a0 Y;generalize r.comp E=y1 at*;obtain⟨r1,n1⟩:=y1;dsimp only at*;generalize r1.take n1=y at*;obtain⟨r2,T⟩:=y;dsimp only at*;have N:=jH Ee;have ae:=jH htake;have aP:=jH hk2;clear Ee htake hk2;have a0:w2.cell? ⟨g+1,0,none⟩=some (ng nH 3):=A.tb.cell 0;go_upto_region 12 with fail;refine a1f (g:=g) (cb:=cb) (lb:=lb) (fb:=fb) (r:=r) (r1:=r1) (r2:=r2) (l:=m) (k:=3) (m:=E) (n1:=n1) (T:=T) (ou:=ou) (nu:=n) (cu:=cu) (tl:=tl) (s:=s) (w0:=w) (ht2:=by rfl) (ht3:=by rfl) (EU:=by rfl) (hsz:=by rfl) (Ee:=N.out) (htake:=ae.out) (hk2:=aP.out) (hI0:=λ_=>A.drew) ?_;intro vs W hF;simp only[if_true]at hF;simp only[jK,jQ,jR];have bF:=jH hF;clear hF A N ae aP a0;go_wp2_with fail;have hF:=bF.out;exact X0
   .have aQ:s.length=1:=nK
    obtain⟨O,rfl⟩:=List.length_eq_one_iff.1 aQ;clear aQ;obtain⟨E,rfl⟩:∃E:Nat,z=E:=⟨z.toNat,nK⟩;have HYE:jW (aJ=(Jq (qI (qd d) (lu (r.comp E).2 (O,true)) (r.comp E).1 m).1,(qI (qd d) (lu (r.comp E).2 (O,true)) (r.comp E).1 m).2)):=jH (by rw[<-J.out];exact a1k _ _ _ _ _ rfl);have Ee:=λW h=>GN cb lb fb m r E W h nK
    have N:=jH Ee;have aR:(r.comp E).2<=65536:=a1m r E nK;clear J Ee;generalize r.comp E=y1 at*;obtain⟨r1,n1⟩:=y1;dsimp only at*;have ht1:O.all oG=true/\O.deep<=d:=by
     have ag:=aK.out;have bG:=aL.out;simp only[nL.o7,Bool.and_true]at ag;simp only[nL.o6]at bG;exact⟨ag,nK⟩
    have bu:=jH aR;clear aR;go_wp2_with fail;refine(N _ A.ly).mono ?_;rintro e w3 ⟨rfl,hl,hu⟩;have C:=jH (A.Qm hl (xD hu));clear hl hu A N b0 b4 a0 Y;have aT:w3.cell? ⟨g,0,none⟩=some (Bd cb):=C.rb.cell 0;have e1:w3.cell? ⟨g,1,none⟩=some (C9 cb):=C.rb.cell 1;have e2:w3.cell? ⟨g,2,none⟩=some (Dz cb):=C.rb.cell 2;have e3:w3.cell? ⟨g,3,none⟩=some (Cc cb):=C.rb.cell 3;have e4:w3.cell? ⟨g,4,none⟩=some (Be fb):=C.rb.cell 4;have e5:w3.cell? ⟨g,5,none⟩=some (nz (some ⟨lb,0,none⟩)):=C.rb.cell 5;have hsz:g+3<=w3.heap.size:=C.rs.lt;have ag:=C.lt;have hlen:(lu n1 (O,true)).length=n1:=List.length_replicate
    have CL:=UU cb lb fb (g+1) 0 r1 m (lu n1 (O,true)) (qd d) w3 C.ly (by rw[hlen];exact bu) ⟨nK,nK,nK⟩
     (λW r' ax hu hl i t ht=>by
      obtain⟨_,rfl⟩:=List.mem_replicate.1 (kT ht);have hb:=hu.blk C.tb nK nK;have hs:oh.nX W (UR cb lb) (nk ou n cu) [O]:=Shape.nX.keep C.sub hu.size (λ_ _ h=>h.1) λc hc Z=>hu.block c hc Z.1.1 Z.1.2
      exact a02 (g+1) i ⟨4,E,tl⟩ O ou n cu [O] (UR cb lb) W hb hs rfl)
     (λt ht W r' ax ay az hu hl hs=>by
      obtain⟨_,rfl⟩:=List.mem_replicate.1 ht;exact aa O cb lb fb r' ax W ay az ht1.2 ht1.1 hl ⟨by have:=hu.size;omega,by have:=hu.size;omega,by have:=hu.size;omega⟩ hs)
     (λt r l h=>G6 d t r l h)
    rw[hlen]at CL;have CL:=jH CL;clear hlen ag hsz aa ht1;generalize qI (qd d) (lu n1 (O,true)) r1 m=y at*;obtain⟨ys,r2,l2⟩:=y;unfold Bd C9 Dz Cc Be at CL;unfold Bd at aT;unfold C9 at e1;unfold Dz at e2;unfold Cc at e3;unfold Be at e4;go_wp2_with fail;refine CL.mono ?_;rintro e w4 ⟨ov,cv,rfl,hl,hs,hu⟩;have Sr:=jH (C.Qm hl hu);have HS:jW (∀c,w3.heap.size<=c->g+3<=c):=jH λc hc=>by have:=C.rs.lt;omega
    exact XZ
   .have HYE:jW (aJ=(Jq (qI (qd d) (za s tl) r m).1,(qI (qd d) (za s tl) r m).2)):=jH (by rw[<-J.out];exact a1l _ _ _ _ _ rfl)
    clear J b0 b4 Y;have aT:w2.cell? ⟨g,0,none⟩=some (Bd cb):=A.rb.cell 0;have e1:w2.cell? ⟨g,1,none⟩=some (C9 cb):=A.rb.cell 1;have e2:w2.cell? ⟨g,2,none⟩=some (Dz cb):=A.rb.cell 2;have e3:w2.cell? ⟨g,3,none⟩=some (Cc cb):=A.rb.cell 3;have e4:w2.cell? ⟨g,4,none⟩=some (Be fb):=A.rb.cell 4;have e5:w2.cell? ⟨g,5,none⟩=some (nz (some ⟨lb,0,none⟩)):=A.rb.cell 5;have bM:w2.cell? ⟨g+1,2,none⟩=some (nk ou n cu):=A.tb.cell 2;have hsz:g+3<=w2.heap.size:=A.rs.lt;have ag:=A.lt;have hlen:(za s tl).length=n:=by simp[za,aY.out]
    have aA:∀{k:Nat}{aD:nL TL×Bool},(za s tl)[k]? =some aD->s[k]? =some aD.1/\aD.2=decide ((k:Int)<s.length - tl):=by
     intro k aD aB;unfold za at aB;rw[List.getElem?_mapIdx]at aB;obtain⟨t0,ht0,rfl⟩:=Option.map_eq_some_iff.1 aB;exact⟨ht0,rfl⟩
    have CL:=UW cb lb fb (g+1) g r m (za s tl) (qd d) w2 A.ly (by rw[hlen];omega) ⟨nK,nK,nK⟩
     (λW r' ax hu hl i t ht=>by
      obtain⟨bH,bI⟩:=aA ht;have hb:=hu.blk A.tb nK nK;have bz:=hu.blk A.rb nK nK;have hs:oh.nX W (UR cb lb) (nk ou n cu) s:=Shape.nX.keep A.sub hu.size (λ_ _ h=>h.1) λc hc Z=>hu.block c hc Z.1.1 Z.1.2
      rw[bI];exact a05 (g+1) g cb lb fb i r' ⟨5,z,tl⟩ t.1 ou n cu s (UR cb lb) W hb bz hl.rd hl.ok.1.1 hs bH (by have:=aY.out;omega) (by dsimp only;omega))
     (λt ht W r' ax ay az hu hl hs=>by
      obtain⟨i,hi⟩:=List.getElem?_of_mem ht;have bA:=kT (aA hi).1;exact aa t.1 cb lb fb r' ax W ay az (kg (Js bA) aL) (CJ aK bA) hl ⟨by have:=hu.size;omega,by have:=hu.size;omega,by have:=hu.size;omega⟩ hs)
     (λt r l h=>G6 d t r l h)
    rw[hlen]at CL;have CL:=jH CL;clear hlen ag hsz aa aA;generalize qI (qd d) (za s tl) r m=y at*;obtain⟨ys,r2,l2⟩:=y;unfold Bd C9 Dz Cc Be at CL;unfold Bd at aT;unfold C9 at e1;unfold Dz at e2;unfold Cc at e3;unfold Be at e4;go_wp2_with fail;refine CL.mono ?_;rintro e w4 ⟨ov,cv,rfl,hl,hs,hu⟩;have Sr:=jH (A.Qm hl hu);have HS:jW (∀c,w2.heap.size<=c->g+3<=c):=jH λc hc=>by have:=A.rs.lt;omega
    exact XZ
structure X3(g cb fb xb:Nat)(r:RS)(T:ByteArray)(li:Bool)(ov:Option l5)(n cv:Nat)(s:List (nL IL))(w0:jJ)(rc:Array jP)(W:jJ):Prop where
 rd:wo W cb r
 fr:nO W fb #[nz (some ⟨cb,0,none⟩)] 193
 xk:nO W xb #[ny T,nA li,nk ov n cv] IT
 rs:nO W (g+1) rc IT
 sub:nV W (λc=>g+2<=c) (nk ov n cv) s
 qa:jS g w0 W
 lt:g+1<cb/\g+1<fb/\g+1<xb
section
variable {g cb fb xb:Nat}{r:RS}{T:ByteArray}{li:Bool}{ov:Option l5}{n cv:Nat}{s:List (nL IL)}{w0 W W':jJ}{rc:Array jP}
theorem X3.drew(h:X3 g cb fb xb r T li ov n cv s w0 rc W):X3 g cb fb xb r T li ov n cv s w0 rc W.drew:=
 ⟨h.rd,h.fr,h.xk,h.rs,Shape.nX.below h.sub (oz W),h.qa.trans ((oz W).mono (by have:=h.rs.lt;omega)),h.lt⟩
theorem X3.put(h:X3 g cb fb xb r T li ov n cv s w0 AR W)(a b c:jP):X3 g cb fb xb r T li ov n cv s w0 #[a,b,c] (pI W (g+1) a b c):=by
 have C:=h.lt;have A:∀d,d≠g+1->(pI W (g+1) a b c).heap[d]? =W.heap[d]? :=λd hd=>by simp[pI,kC,lL,Ne.symm hd]
 have hs:(pI W (g+1) a b c).heap.size=W.heap.size:=by simp[pI,kC]
 have o:∀{d:Nat}{cs:Array jP}{t:ko},nO W d cs t->d≠g+1->nO (pI W (g+1) a b c) d cs t:=λh hn=>by unfold nO at*;rw[A _ hn];exact h
 exact⟨o h.rd nK,o h.fr nK,o h.xk nK,((h.rs.set 0 a).set 1 b).set 2 c,Shape.nX.keep h.sub (mV hs.symm) (λ_ _ h=>h) (λd _ hd=>A d (by have:g+2<=d:=hd;omega)),
  ((h.qa.setCell (p:=⟨g+1,0,none⟩) (kX g) _).setCell (p:=⟨g+1,1,none⟩) (kX g) _).setCell (p:=⟨g+1,2,none⟩) (kX g) _,h.lt⟩
end
noncomputable def Df:List lX:=cO (cL (cR (cR (cR (cR (cR (cR (cR (cB Tryz.f170)))))))))
section
variable (g cb fb xb:Nat)(r:RS)(T:ByteArray)(li:Bool)(ov:Option l5)(n cv:Nat)(s:List (nL IL))(w0:jJ)
def zY:Nat->jP
 |0=> nC #[ny T,nA li,nk ov n cv]
 |1=> nz (some ⟨cb,0,none⟩)
 |2=> ng nH r.p
 |4=> ng nH r.p
 |5=> ng nH 0
 |_=>kH
structure a3T(D:Nat->Bool)(vs:Nat->jP)(w:jJ):Prop where
 oJ:X3 g cb fb xb r T li ov n cv s w0 (if(D 3)=true then#[ny T,nA li,nk ov n cv]else AR) w
 val:∀j,(true)=true->D j=true->vs j=zY cb r T li ov n cv j
variable {g cb fb xb r T li ov n cv s w0}
theorem X4{id:Nat}{Q:Exit->Act->jJ->Prop}{a0:Act}{N:jJ}(a1o:a0.tmps.getD 12 kH=nz (some ⟨xb,0,none⟩))(JB:a0.tmps.getD 9 kH=nz (some ⟨fb,0,none⟩))(Aq:a0.tmps.getD 6 kH=nz (some ⟨g+1,0,none⟩))(hsz:a0.tmps.size=44)(hI0:∀vs:Nat->jP,(λw=>X3 g cb fb xb r T li ov n cv s w0 (if false=true then#[ny T,nA li,nk ov n cv]else AR) w) N.drew)(O:∀(vs:Nat->jP) (w:jJ),X3 g cb fb xb r T li ov n cv s w0 (if true=true then#[ny T,nA li,nk ov n cv]else AR) w->Q .normal {a0 with tmps:=(((((a0.tmps.setIfInBounds 41 (nC #[ny T,nA li,nk ov n cv])).setIfInBounds 42 (nz (some ⟨cb,0,none⟩))).setIfInBounds 43 (ng nH r.p)).setIfInBounds 7 (ng nH r.p)).setIfInBounds 8 (ng nH 0))} w):
  (lg id Df.toArray true).wp jI Q a0 N:=by
 refine og 6 44 (a3T g cb fb xb r T li ov n cv s w0) nM hsz nM (.inl rfl) nM ?_ ?_ ?_;.exact qF
 .refine rV λA Z=> ?_
  clear hI0 O hsz;replace a1o:=jH a1o;replace JB:=jH JB;replace Aq:=jH Aq;dsimp+instances only[Df,cO,cL,cR,cB,Tryz.f170];simp only[ky,kQ,rz];refine⟨?_,?_,?_,?_,?_,?_,trivial⟩<;>(intro D vs a w K hI hd E hw2 C I;subst Z;dsimp+instances only[Df,cO,cL,cR,cB,Tryz.f170]);have ag:=(C 12 nN).trans a1o.out;have hB:=hI.oJ.xk;obtain⟨c0,c1,c2⟩:=hB.a3;clear hB;rotate_left;have ai:=(C 9 nN).trans JB.out;have hB:=hI.oJ.fr;have c0:=hB.c0;clear hB;rotate_left
  .have U:=fe C hI.val E 42 1
   simp only[zY]at U;have aa:=TC cb r w hI.oJ.rd;rw[if_pos (by rfl)];go_simp;refine aa.mono ?_;rintro e aj ⟨rfl,rfl⟩;exact I (zY cb r T li ov n cv 2) _ _ rfl ⟨hI.oJ,uR hI.val⟩
  .have ak:=(C 6 nN).trans Aq.out
   have V:=fe C hI.val E 41 0;simp only[zY]at V;have J:=hI.oJ;rw[hd]at J;have hB:=J.rs;have z0:=hB.cell 0;have ae:=hB.cell 1;have af:=hB.cell 2;obtain⟨au,f1,f2⟩:=hB.f3;simp only[AR,lF,if_false,jO,jN,jM]at z0 ae af;clear hB;go_simp;rw[p8];refine I kH _ _ rfl ⟨?_,uR hI.val⟩;rw[ow];exact X3.put J _ _ _
  have ah:=fe C hI.val E 43 2;rotate_left;rotate_left
  all_goals
   try simp only[zY]at*
   go_simp;exact I _ _ _ rfl ⟨hI.oJ,uR hI.val⟩
 .intro D vs w Y hI
  have E:=hI.oJ;rw[Y 3 nN]at E;have q:=O vs w E;rw[oW hI.val Y];dsimp+instances only[Df,cO,cL,cR,cB,Tryz.f170];exact qD
end
theorem G7{B b q:Nat}{w0 w w':jJ}(h:jS B w0 w)(u:oN b q w w')(hb:B<=b)(A:B<=q)(hB:B<=w.heap.size):jS B w0 w':=
 ⟨u.os.trans h.os,u.tape.trans h.tape,u.output.trans h.output,kg h.size u.size,λk hk=>(u.block k nK nK nK).trans (h.block k hk)⟩
def KV(R:Except Nat (nL IL×Nat))(w:jJ)(e:Ending)(w':jJ):Prop:=jS w.heap.size w w'/\match R with
 | .error er=>e=nE (nD #[nC #[ny ⟨#[]⟩,nA false,nk none 0 0],ng nH 0,ng nH (er:Nat)])
 | .ok y=>∃ov cv,e=nE (nD #[nC #[ny (txt y.1.lab),nA y.1.lab.list,nk ov y.1.sub.length cv],ng nH (y.2:Nat),ng nH 0])/\nV w' (λc=>w.heap.size+2<=c) (nk ov y.1.sub.length cv) y.1.sub
theorem a2y{r r':RS}(h:0<=r.f):∀n x m,0<=(r.take n).1.f/\(0<=x->0<=(r.fail x).f)/\0<=(r.comp m).1.f:=by
 intro n x m;refine⟨RS.vE r n h,λA=>RS.yH r A h,?_⟩;unfold RS.comp;split
 .generalize ry (r.t.data.toList.drop r.p)=q
  dsimp only;split;.exact Int.le_refl _
  .exact Int.natCast_nonneg _
 .exact h
theorem G8{f:nL TL->RS->Nat->RdV}(A:∀t r l,0<=r.f->0<=(f t r l).2.1.f):∀(ts:List (nL TL×Bool))(r:RS)(l:Nat),0<=r.f->0<=(qI f ts r l).2.1.f
 |[],r,l,h=>h
 |t::ts,r,l,h=>by
  unfold qI;split;.exact G8 A ts _ _ (A _ _ _ h)
  .exact h
theorem zZ:∀(d:Nat)(t:nL TL)(r:RS)(l:Nat),0<=r.f->0<=(qd d t r l).2.1.f
 |0,_,r,l,h=>RS.yH r nN h
 |d+1,.node a s,r,l,h=>by
  unfold qd;split;.exact RS.yH r nN h
  .split
   .exact RS.vE _ _ h
   .split
    .exact RS.vE _ _ h
    .split
     .exact RS.vE _ _ (a2y (r':=r) h 0 0 _).2.2
     .split
      .cases s with
       |nil=>exact RS.yH r nN h
       |cons t ts=>exact G8 (zZ d) _ _ _ (a2y (r':=r) h 0 0 _).2.2
      .exact G8 (zZ d) _ _ _ h
theorem X5(h:p:=by
 subst hW;have a1:=(jT w.heap.size w).alloc (jL _) (nG #[ng nH t.lab.kind,ng nH t.lab.size,nk ou t.sub.length cu,ng nH t.lab.tail] rW);have a2:=a1.alloc nR (nG #[ny ⟨#[]⟩,nA false,nk none 0 0] IT);have k1:=nO.new w #[ng nH t.lab.kind,ng nH t.lab.size,nk ou t.sub.length cu,ng nH t.lab.tail] rW;have k2:=nO.new (w.alloc (nG #[ng nH t.lab.kind,ng nH t.lab.size,nk ou t.sub.length cu,ng nH t.lab.tail] rW)) #[ny ⟨#[]⟩,nA false,nk none 0 0] IT;rw[show(w.alloc (nG #[ng nH t.lab.kind,ng nH t.lab.size,nk ou t.sub.length cu,ng nH t.lab.tail] rW)).heap.size=g+1 by simp[hg]]at k2;rw[hg]at k1;exact⟨k1.alloc _,k2,hg▸a2,by simp[hg]⟩):p:=h
theorem X6(t:nL TL)(s:ByteArray)(items:Int)(w:jJ)(ou:Option l5)(cu:Nat)(ai:oL w (nk ou t.sub.length cu) t.sub)(aZ:qo w)(aj:xm w)(ae:(nL.o7 p0 t.sub&&pX t)=true)(hs:s.size<=100000)(hi:0<=items/\items<=1024):
  jV jI 170 #[nC #[ng nH t.lab.kind,ng nH t.lab.size,nk ou t.sub.length cu,ng nH t.lab.tail],ny s,ng nH items] w (KV (KI t s items) w):=by
 have bZ:∀(fn:Fn)(first cap:Array jP)(w:jJ),(mG fn first cap).run jI w=.ok (.func fn first cap) w:=λ_ _ _ _=>rfl
 have ak:pX t=true:=by simp only[j3]at ae;exact ae.2
 have A:=ak;unfold pX at A;simp only[j3,decide_eq_true_eq]at A;obtain⟨g,hg⟩:=nT w.heap.size;have aL:=aZ.lt;have bg:jW (∀W,jS g w W->_):=jH λW h=>D8 t W (nk ou t.sub.length cu) (Shape.nX.below ai (hg.symm▸h)) (aZ.below (hg.symm▸h) aL)
 rw[ae]at bg;obtain⟨left,af⟩:∃left:Nat,items=left:=⟨items.toNat,nK⟩;have au:(min items 1024).toNat=left:=nK;obtain⟨bq,aJ⟩:=nT (qd 8 t (RS.of s) left);have av:jW (KI t s items=if bq.2.1.f≠0 then .error bq.2.1.f.toNat else .ok (bq.1,bq.2.1.p)):=jH (by unfold KI;rw[au,aJ]);have bF:jW (0<=bq.2.1.f):=jH (aJ▸zZ 8 t (RS.of s) left (Int.le_refl _));have aM:jW (∀W cb lb fb,jS g w W->Bf cb lb fb (RS.of s) left W->(cb<W.heap.size/\lb<W.heap.size/\fb<W.heap.size)->g<=cb->g<=lb->jV jI 211 #[nC #[Bd cb,C9 cb,Dz cb,Cc cb,Be fb,nz (some ⟨lb,0,none⟩)],nC #[ng nH t.lab.kind,ng nH t.lab.size,nk ou t.sub.length cu,ng nH t.lab.tail]] W (NK cb lb fb bq W)):=jH λW cb lb fb hb hl hc aK ag=>by
  rw[<-aJ];exact UX 8 t cb lb fb (RS.of s) left W ou cu A.1.2 A.2 hl hc (Shape.nX.keep ai (hg▸hb.size:w.heap.size<=W.heap.size) (λc bG _=>⟨nK,nK⟩) λc bG _=>hb.block c nK)
 have aN:jW (∀W,jS g w W->xm W):=jH λW hb=>vP aj (oN.of (b:=g) (q:=g) (hg.symm▸hb)) (by have:=aj.lt;omega) (by have:=aj.lt;omega)
 have bH:jW (0<g):=jH (hg▸aj.lt);have aO:jW (∀W,(w.alloc (nG #[ng nH t.lab.kind,ng nH t.lab.size,nk ou t.sub.length cu,ng nH t.lab.tail] rW)).alloc (nG #[ny ⟨#[]⟩,nA false,nk none 0 0] IT)=W->nO W g #[ng nH t.lab.kind,ng nH t.lab.size,nk ou t.sub.length cu,ng nH t.lab.tail] rW/\nO W (g+1) AR IT/\jS g w W/\W.heap.size=g+2):=jH λW hW=>by
  exact X5
 have aP:jW (∀W,jV jI 144 #[ny s] W λe w'=>e=nE (nz (some ⟨W.heap.size,0,none⟩))/\jS W.heap.size W w'/\W.heap.size<w'.heap.size/\wo w' W.heap.size (RS.of s)):=jH (zx s);have aQ:jW (((RS.of s).Ok/\(RS.of s).t.size<=100000)/\left<=1024):=jH ⟨⟨RS.Ok.of nK,hs⟩,nK⟩;have cz:(if items<=1024 then items else 1024)=(left:Int):=by rw[if_pos hi.2,af]
 have bQ:min items 1024=(left:Int):=nK;obtain⟨bu,aR⟩:=nT (KI t s items);rw[aR]at av⊢;obtain⟨bR,bz⟩:=nT (KV bu w);have bI:=jH bz;rw[bz];clear bz;subst af;clear ai aZ aj ae hs hi ak A aL au aJ aR;generalize t.lab.kind=k at*;generalize t.lab.size=z at*;generalize t.lab.tail=tl at*;generalize t.sub.length=n at*;go_in;go_upto_region 1 with fail;obtain⟨ax,aS,aT,aU⟩:=aO.out _ rfl;generalize (w.alloc _).alloc _=w1 at*;obtain⟨⟨t0,bJ,bK,t3⟩,_⟩:=oF ax;have J:=jH (jU ax (jU aS (jU aT aU)));clear aO ax aS aT aU;go_wp2_with fail;refine(bg _ J.2.2.1).mono ?_;rintro e w2 ⟨rfl,O⟩;have C:jW (nO w2 g #[ng nH k,ng nH z,nk ou n cu,ng nH tl] rW/\nO w2 (g+1) AR IT/\jS g w w2/\g+2<=w2.heap.size):=jH ⟨Below.blk O J.1 J.1.lt,Below.blk O J.2.1 J.2.1.lt,J.2.2.1.trans (O.mono (by have:=J.2.2.2;omega)),by have:=O.size;have:=J.2.2.2;omega⟩;clear O J t0 bJ bK t3 bg;go_wp2_with fail;refine(aP _).mono ?_;rintro e w3 ⟨rfl,Q,Z,ay⟩;obtain⟨cb,U⟩:=nT w2.heap.size;rw[U]at Q Z ay⊢;have az:jW (nO w3 g #[ng nH k,ng nH z,nk ou n cu,ng nH tl] rW/\nO w3 (g+1) AR IT/\jS g w w3/\g+2<=cb/\cb<w3.heap.size/\wo w3 cb (RS.of s)):=jH ⟨Below.blk (U.symm▸Q) C.1 C.1.lt,Below.blk (U.symm▸Q) C.2.1 C.2.1.lt,C.2.2.1.trans (Q.mono (by have:=C.2.2.2;omega)),U▸C.2.2.2,Z,ay⟩;clear Q Z ay C U;obtain⟨q,V⟩:=nT w3.heap.size;have aA:jW (∀W,((w3.alloc (nG #[nz (some ⟨cb,0,none⟩)] 193)).alloc (nG #[ng nH (left:Nat)] 3)).alloc (nG #[.func (.func 145) #[nz (some ⟨cb,0,none⟩)] #[],.func (.func 191) #[nz (some ⟨cb,0,none⟩)] #[],.func (.func 146) #[nz (some ⟨cb,0,none⟩)] #[],.func (.func 189) #[nz (some ⟨cb,0,none⟩)] #[],.func (.func 209) #[] #[nz (some ⟨w3.heap.size,0,none⟩)],nz (some ⟨w3.heap.size+1,0,none⟩)] EZ)=W->Bf cb (q+1) q (RS.of s) left W/\nO W (q+2) (EJ cb (q+1) q) EZ/\nO W g #[ng nH k,ng nH z,nk ou n cu,ng nH tl] rW/\nO W (g+1) AR IT/\jS g w W/\W.heap.size=q+3):=jH λW hW=>by
  subst hW;rw[V];obtain⟨aK,ag,bA,bS,cZ,bL⟩:=az.out;have a1:=(jT w3.heap.size w3).alloc (jL _) (nG #[nz (some ⟨cb,0,none⟩)] 193);have a2:=a1.alloc nR (nG #[ng nH (left:Nat)] 3);have a3:=a2.alloc nQ (nG (EJ cb (q+1) q) EZ);have k1:=nO.new w3 #[nz (some ⟨cb,0,none⟩)] 193;have k2:=nO.new (w3.alloc (nG #[nz (some ⟨cb,0,none⟩)] 193)) #[ng nH (left:Nat)] 3;have bM:=nO.new ((w3.alloc (nG #[nz (some ⟨cb,0,none⟩)] 193)).alloc (nG #[ng nH (left:Nat)] 3)) (EJ cb (q+1) q) EZ;rw[show(w3.alloc (nG #[nz (some ⟨cb,0,none⟩)] 193)).heap.size=q+1 by simp[V]]at k2;rw[show((w3.alloc (nG #[nz (some ⟨cb,0,none⟩)] 193)).alloc (nG #[ng nH (left:Nat)] 3)).heap.size=q+2 by simp[V]]at bM;rw[V]at k1;have cK:=bH.out;have aB:jS g w (((w3.alloc (nG #[nz (some ⟨cb,0,none⟩)] 193)).alloc (nG #[ng nH (left:Nat)] 3)).alloc (nG (EJ cb (q+1) q) EZ)):=bA.trans (a3.mono nK);exact⟨⟨Below.blk a3 bL (nO.lt bL),aQ.out,(k2.alloc _),(k1.alloc _).alloc _,aN _ aB,nK⟩,bM,Below.blk a3 aK aK.lt,Below.blk a3 ag ag.lt,aB,by simp[V]⟩
 rw[V]at aA;go_upto_region 6 with fail;obtain⟨aC,E,aV,aD,aF,aW⟩:=aA.out _ rfl;generalize ((w3.alloc _).alloc _).alloc _=w4 at*;have aX:=az.out;rw[V]at aX;obtain⟨_,_,_,aG,aH,_⟩:=aX;obtain⟨⟨t0,bJ,bK,t3⟩,_⟩:=oF aV;have bT:w4.cell? ⟨q+2,0,none⟩=some (Bd cb):=E.cell 0;have e1:w4.cell? ⟨q+2,1,none⟩=some (C9 cb):=E.cell 1;have e2:w4.cell? ⟨q+2,2,none⟩=some (Dz cb):=E.cell 2;have e3:w4.cell? ⟨q+2,3,none⟩=some (Cc cb):=E.cell 3;have e4:w4.cell? ⟨q+2,4,none⟩=some (Be q):=E.cell 4;have e5:w4.cell? ⟨q+2,5,none⟩=some (nz (some ⟨q+1,0,none⟩)):=E.cell 5;have N:=aM.out w4 cb (q+1) q aF aC nK nK nK;unfold Bd at bT N;unfold C9 at e1 N;unfold Dz at e2 N;unfold Cc at e3 N;unfold Be at e4 N;have N:=jH N;have bN:=jH (jU aC (jU aD (jU aF aW)));have bO:jW (g+2<=cb/\cb<q):=jH ⟨aG,aH⟩;clear aA aM aN aQ az aP aC E aV aD aF aW V aG aH;obtain⟨x,r2,l2⟩:=bq;dsimp only at*;go_wp2_with fail;refine N.mono ?_;rintro e w5 ⟨ov,cv,rfl,I,aI,Y⟩;dsimp only at I aI;have aY:jW (∀W,w5.alloc (nG #[ny (txt x.lab),nA x.lab.list,nk ov x.sub.length cv] IT)=W->X3 g cb q w5.heap.size r2 (txt x.lab) x.lab.list ov x.sub.length cv x.sub w AR W):=jH λW hW=>by
  subst hW;obtain⟨aK,ag,bA,bS⟩:=bN.out;obtain⟨df,dh⟩:=bO.out;have a:=(jT w5.heap.size w5).alloc (jL _) (nG #[ny (txt x.lab),nA x.lab.list,nk ov x.sub.length cv] IT);have dw:=Y.size;refine⟨Below.blk a I.rd (nO.lt I.rd),Below.blk a I.fr I.fr.lt,nO.new w5 _ _,Below.blk a (Y.blk ag nK nK) (Y.blk ag nK nK).lt,Shape.nX.keep (Shape.nX.below aI a) (jL _) (λc _ hc=>by have:w4.heap.size<=c:=hc;show g+2<=c;omega) λ_ _ _=>rfl,(G7 bA Y nK nK nK).trans (a.mono nK),nK⟩
 clear I aI Y bN bO N;go_upto_region 7 with fail;have hL:=aY.out _ rfl;generalize w5.alloc _=bU at*;generalize w5.heap.size=xb at*;have aa:=jH hL;have dx:=hL.fr.c0;have bP:=jH (qc cb r2 bU hL.rd);clear hL aY;go_wp2_with fail;refine bP.mono ?_;rintro e dz ⟨rfl,rfl⟩;clear bP;by_cases ah:r2.f=0
 .have bV:(r2.f !=0)=false:=by simp[ah]
  have bB:jW (bu=.ok (x,r2.p)):=jH (by rw[av.out,if_neg (by simpa using ah)]);clear ah av;go_upto_region 10 with fail;refine X4 (g:=g) (cb:=cb) (fb:=q) (xb:=xb) (r:=r2) (T:=txt x.lab) (li:=x.lab.list) (ov:=ov) (n:=x.sub.length) (cv:=cv) (s:=x.sub) (w0:=w) (a1o:=by rfl) (JB:=by rfl) (Aq:=by rfl) (hsz:=by rfl) (hI0:=λ_=>aa.drew) ?_;intro vs W hF;simp only[if_true]at hF;simp only[jK,jQ,jR];have bW:=jH hF;clear hF aa;go_wp2_with fail;have hF:=bW.out;obtain⟨bC,bD,bE⟩:=hF.rs.a3;refine j4 (v:=nD #[nC #[ny (txt x.lab),nA x.lab.list,nk ov x.sub.length cv],ng nH (r2.p:Nat),ng nH 0]) (by simp[kK,Tryz.results170,go_sem,bC,bD,bE]) rfl ?_;rw[<-bI.out,bB.out];exact⟨hg.symm▸hF.qa,ov,cv,rfl,hg.symm▸hF.sub⟩
 .have bV:(r2.f !=0)=true:=by simp[ah]
  have bB:jW (bu=.error r2.f.toNat):=jH (by rw[av.out,if_pos ah]);clear ah av;have bX:=aa.rs.cell 0;have bY:=aa.rs.cell 1;have y2:=aa.rs.cell 2;obtain⟨z0,dA,dB⟩:=aa.rs.f3;simp only[AR,jO,jN,jM]at bX bY y2;go_wp2_with fail;rw[p8];have hF:=aa.put (ny ⟨#[]⟩) (nA false) (nk none 0 0);obtain⟨bC,bD,bE⟩:=hF.rs.a3;refine j4 (v:=nD #[nC #[ny ⟨#[]⟩,nA false,nk none 0 0],ng nH 0,ng nH r2.f]) (by simp[kK,Tryz.results170,go_sem,bC,bD,bE]) rfl ?_;rw[<-bI.out,bB.out];have:((r2.f.toNat:Nat):Int)=r2.f:=mZ bF.out;exact⟨hg.symm▸hF.qa,by show _=lH (nD #[nC #[ny ⟨#[]⟩,nA false,nk none 0 0],ng nH 0,ng nH ((r2.f.toNat:Nat):Int)]);rw[this]⟩
def a6d(R:Except Nat (nL IL×Nat))(n:Nat):Except Nat (nL IL):=match R with
 | .error er=> .error er
 | .ok y=>if y.2<n then .error 3 else .ok y.1
theorem a1p(t:nL TL)(s:ByteArray)(items:Int)(w:jJ)(ou:Option l5)(cu:Nat)(ay:oL w (nk ou t.sub.length cu) t.sub)(aH:qo w)(ak:xm w)(az:(nL.o7 p0 t.sub&&pX t)=true)(hs:s.size<=100000)(hi:0<=items/\items<=1024):
  jV jI 119 #[nC #[ng nH t.lab.kind,ng nH t.lab.size,nk ou t.sub.length cu,ng nH t.lab.tail],ny s,ng nH items] w (AQ (UC t s items) w):=by
 obtain⟨g,hg⟩:=nT w.heap.size;have aA:=aH.lt;have aI:jW (∀W,jS g w W->jV _ _ _ W (KV (KI t s items) W)):=jH λW h=>X6 t s items W ou cu (Shape.nX.below ay (hg.symm▸h)) (aH.below (hg.symm▸h) aA) (vP ak (oN.of (b:=g) (q:=g) (hg.symm▸h)) (by have:=ak.lt;omega) (by have:=ak.lt;omega)) az hs hi
 have aB:jW (∀W,(w.alloc (nG #[ng nH t.lab.kind,ng nH t.lab.size,nk ou t.sub.length cu,ng nH t.lab.tail] rW)).alloc (nG #[ny ⟨#[]⟩,nA false,nk none 0 0] IT)=W->nO W g #[ng nH t.lab.kind,ng nH t.lab.size,nk ou t.sub.length cu,ng nH t.lab.tail] rW/\nO W (g+1) AR IT/\jS g w W/\W.heap.size=g+2):=jH λW hW=>by
  exact X5
 obtain⟨R,au⟩:=nT (KI t s items);have U:jW (UC t s items=a6d R s.size):=jH (by rw[<-au];rfl);have V:jW (∀er,R=.error er->1<=er):=jH λer h=>by
  have aZ:=zZ 8 t (RS.of s) (min items 1024).toNat (Int.le_refl _);rw[<-au]at h;unfold KI at h;split at h;.cases h;omega
  .cases h
 rw[au]at aI;obtain⟨Y,aC⟩:=nT (UC t s items);rw[aC]at U⊢;obtain⟨aR,aJ⟩:=nT (AQ Y w);have aK:=jH aJ;rw[aJ];clear ay aH ak az hi aA au aC aJ;generalize t.lab.kind=k at*;generalize t.lab.size=z at*;generalize t.lab.tail=tl at*;generalize t.sub.length=n at*;go_in;go_upto_region 1 with fail;obtain⟨aD,aF,Z,aG⟩:=aB.out _ rfl;generalize (w.alloc _).alloc _=w1 at*;obtain⟨⟨t0,bg,bq,t3⟩,_⟩:=oF aD;have N:=jH (jU aF (jU Z aG));have aa:=jH (aI _ Z);clear aB aD aF Z aG aI;go_wp2_with fail;refine aa.mono ?_;intro e w2 A;unfold KV at A;have I:jW (∀(bu:Ending)(T:ByteArray)(li:Bool)(sv:jP),jS g w w2/\nO w2 (g+1) AR IT):=jH λ_ _ _ _=>⟨N.2.1.trans (A.1.mono (by have:=N.2.2;omega)),Below.blk A.1 N.1 N.1.lt⟩
 have aS:g+2<=w2.heap.size:=by have:=A.1.size;have:=N.2.2;omega
 cases R with
 |error er=>
  obtain⟨hb,rfl⟩:=A;have aP:=V.out er rfl;have aT:((er:Int) !=0)=true:=nQ;have O:jW (Y=.error er):=U;have ae:jW (∀W,w2.alloc (nG #[ny ⟨#[]⟩,nA false,nk none 0 0] IT)=W->nO W (g+1) AR IT/\jS g w W):=jH λW hW=>by
   subst hW;have al:=(jT w2.heap.size w2).alloc (jL _) (nG #[ny ⟨#[]⟩,nA false,nk none 0 0] IT);obtain⟨aL,af⟩:=I.out (nE (ng nH 0)) ⟨#[]⟩ false (ng nH 0);exact⟨Below.blk al af af.lt,aL.trans (al.mono nK)⟩
  clear hb N aa I aP V U;go_upto_region 2 with fail;obtain⟨hB,E⟩:=ae.out _ rfl;generalize w2.alloc _=w3 at*;have aM:=hB.cell 0;have aN:=hB.cell 1;have y2:=hB.cell 2;obtain⟨z0,aU,aV⟩:=hB.f3;simp only[AR,jO,jN,jM]at aM aN y2;have av:=jH hB;have J:=jH E;clear hB E ae;go_wp2_with fail;rw[p8];obtain⟨hB,hb⟩:=yP (a:=ny ⟨#[]⟩) (b:=nA false) (c:=nk none 0 0) ⟨_,_,_,av.out⟩ (g:=g+1) (w:=w3) (W:=w3) (jT _ _);obtain⟨ag,ah,ai⟩:=hB.a3;refine j4 (v:=nD #[nC #[ny ⟨#[]⟩,nA false,nk none 0 0],ng nH (er:Nat)]) (by simp[kK,Tryz.results119,go_sem,ag,ah,ai]) rfl ?_;rw[<-aK.out,O.out];exact⟨rfl,hg.symm▸J.trans (hb.mono (kX g))⟩
 |ok y=>
  obtain⟨x,m⟩:=y;obtain⟨hb,ov,cv,rfl,C⟩:=A;dsimp only at C;have O:jW (Y=if m<s.size then .error 3 else .ok x):=U;have ae:jW (∀W,w2.alloc (nG #[ny (txt x.lab),nA x.lab.list,nk ov x.sub.length cv] IT)=W->nO W (g+1) AR IT/\jS g w W/\nO W w2.heap.size #[ny (txt x.lab),nA x.lab.list,nk ov x.sub.length cv] IT/\nV W (λc=>g+2<=c) (nk ov x.sub.length cv) x.sub):=jH λW hW=>by
   subst hW;have al:=(jT w2.heap.size w2).alloc (jL _) (nG #[ny (txt x.lab),nA x.lab.list,nk ov x.sub.length cv] IT);obtain⟨aL,af⟩:=I.out (nE (ng nH 0)) ⟨#[]⟩ false (ng nH 0);exact⟨Below.blk al af af.lt,aL.trans (al.mono nK),nO.new w2 _ _,Shape.nX.keep (Shape.nX.below C al) (jL _) (λc _ hc=>by have:w1.heap.size+2<=c:=hc;have:=N.2.2;show g+2<=c;omega) λ_ _ _=>rfl⟩
  clear hb C aa I V U;go_upto_region 2 with fail;obtain⟨hB,E,ax,C⟩:=ae.out _ rfl;generalize w2.alloc _=w3 at*;generalize w2.heap.size=xb at*;have aM:=hB.cell 0;have aN:=hB.cell 1;have y2:=hB.cell 2;obtain⟨z0,aU,aV⟩:=hB.f3;have aW:=ax.cell 0;have aX:=ax.cell 1;have aY:=ax.cell 2;simp only[AR,jO,jN,jM]at aM aN y2 aW aX aY;have av:=jH hB;have J:=jH E;have aO:=jH C;clear hB E ae ax C N;by_cases Q:m<s.size
  .have t0:decide (m<s.size)=true:=by simp[Q]
   have aj:jW (Y=.error 3):=jH (by rw[O.out,if_pos Q]);have aQ:=hs;clear O Q;go_wp2_with fail;rw[p8];obtain⟨hB,hb⟩:=yP (a:=ny ⟨#[]⟩) (b:=nA false) (c:=nk none 0 0) ⟨_,_,_,av.out⟩ (g:=g+1) (w:=w3) (W:=w3) (jT _ _);obtain⟨ag,ah,ai⟩:=hB.a3;refine j4 (v:=nD #[nC #[ny ⟨#[]⟩,nA false,nk none 0 0],ng nH 3]) (by simp[kK,Tryz.results119,go_sem,ag,ah,ai]) rfl ?_;rw[<-aK.out,aj.out];exact⟨rfl,hg.symm▸J.trans (hb.mono (kX g))⟩
  .have t0:decide (m<s.size)=false:=by simp[Q]
   have aj:jW (Y=.ok x):=jH (by rw[O.out,if_neg Q]);have aQ:=hs;clear O Q;go_wp2_with fail;rw[p8];obtain⟨hB,hb⟩:=yP (a:=ny (txt x.lab)) (b:=nA x.lab.list) (c:=nk ov x.sub.length cv) ⟨_,_,_,av.out⟩ (g:=g+1) (w:=w3) (W:=w3) (jT _ _);obtain⟨ag,ah,ai⟩:=hB.a3;refine j4 (v:=nD #[nC #[ny (txt x.lab),nA x.lab.list,nk ov x.sub.length cv],ng nH 0]) (by simp[kK,Tryz.results119,go_sem,ag,ah,ai]) rfl ?_;rw[<-aK.out,aj.out];refine⟨_,rfl,Shape.nX.keep aO (by simp[pI,kC]) (λc _ hc=>by have:g+2<=c:=hc;show w.heap.size<=c;omega) λc _ hc=> ?_,hg.symm▸J.trans (hb.mono (kX g))⟩;have:g+2<=c:=hc;simp[pI,kC,lL,show g+1≠c by omega,show¬g+1=c by omega]
theorem Su(h:p:=by
 have e1:((x.e:Int)==(p2:Int))=true:=Ty;obtain⟨ML,hML⟩:=nT x.L.length;obtain⟨ov,cv,hv,b4A,a8J⟩:=a1d Fv hML;have b4B:ML<=1024:=by have:=Fv.hc;omega
 rw[hv]at r0;have HSL:=jH (KR Fv.Bh);have HE:=jH he;have HV:=jH hv;have HNN:=jH hN;have HML:=jH hML;clear he hv hN hML a8J;cases xs with
 |nil=>
  obtain rfl:N=0:=HNN.symm;have CA:=jH (IV Fv HE HV HML);go_upto_region 26 with fail;generalize wr.setCell ⟨g+1,0,none⟩ (nk (some ⟨go,0,none⟩) 0 cr)=w4 at*;clear Fv r0 r1 o0 zo;go_wp2_with fail;refine CA.mono ?_;rintro e w5 ⟨rfl,X7⟩;have HN5:=jH X7;clear X7 CA;go_wp2_with fail;go_roundw;case rel=>exact⟨_,_,HN5⟩
  case measure=>(rw[KR HN5.Bh,HSL.out];simp)
 |cons x2 xs=>
  obtain⟨N2,rfl⟩:∃N2,N=N2+1:=⟨xs.length,HNN.symm⟩;have CA:=jH (NI Fv HE HV HML HNN nK X8);go_upto_region 26 with fail;generalize wr.setCell ⟨g+1,0,none⟩ (nk (some ⟨go,0,none⟩) (N2+1) cr)=w4 at*;clear Fv r0 r1 o0 zo;go_wp2_with fail;refine CA.mono ?_;rintro e w5 ⟨rfl,v5,X7⟩;have HN5:=jH X7;clear X7 CA;go_wp2_with fail;go_roundw;case rel=>exact⟨_,_,HN5⟩
  case measure=>(rw[KR HN5.Bh,HSL.out];simp)):p:=h
theorem X9(h:p:=by
 have e1:((x.e:Int)==(p2:Int))=false:=wL;have HE:jW (Opn p2 (x::xs)):=jH (Sm Fv he);clear he;go_wp2_with fail;go_roundw;case rel=>exact .inr ⟨p2,c+1,_,x::xs,rfl,by go_num,rfl,jH ⟨Fv.out,HE.out⟩⟩
 case measure=>(have:=HMS.out;simp[kW,XU];omega)):p:=h
theorem Ya(h:p:=by
 have p0:=Fv.Bh.ho.c0;obtain⟨oa,cr,hv3⟩:∃oa cr,vr3=nk oa 0 cr:=Fv.Bh.row.slice;rw[hv3]at p0;go_wp2_with fail;go_roundw;case rel=>exact .inr ⟨p2,c+1,vr3,[],rfl,by go_num,rfl,jH ⟨Fv.out,trivial⟩⟩
 case measure=>(have:=HMS.out;simp[kW,XU];omega)):p:=h
theorem Yb(h:p:=by
 have e1:((x.e:Int)==(p2:Int))=false:=wL;have HE:jW (Opn p2 (x::xs)):=jH (Sm Fv he);clear he;go_wp2_with fail;go_roundw;case rel=>exact .inr ⟨p2,1,_,x::xs,rfl,rfl,rfl,jH ⟨Fv.out,HE.out⟩⟩
 case measure=>(have:=HMS.out;simp[kW,XU];omega)):p:=h
theorem Yc(h:p:=by
 have p0:=Fv.Bh.ho.c0;obtain⟨oa,cr,hv3⟩:∃oa cr,vr3=nk oa 0 cr:=Fv.Bh.row.slice;rw[hv3]at p0;go_wp2_with fail;go_roundw;case rel=>exact .inr ⟨p2,1,vr3,[],rfl,rfl,rfl,jH ⟨Fv.out,trivial⟩⟩
 case measure=>(have:=HMS.out;simp[kW,XU];omega)):p:=h
theorem Yd(s:ByteArray)(av items:Int)(w:jJ)(hs:s.size<=100000)(dw:(lJ nH av).wf=true)(hi1:(lJ nH items).wf=true):
  jV jI 204 #[ny s,ng nH av,ng nH items] w (ND (vU (min av 16).toNat s.data.toList (min items 1024).toNat) w):=by
 obtain⟨D,bU⟩:=nT (min av 16);obtain⟨bg,hI⟩:=nT (min items 1024);have bq:∀n:Nat,decide (D<=(n:Int))=decide (D.toNat<=n):=λn=>by rw[decide_eq_decide];omega
 have bu:∀n:Nat,decide (bg<=(n:Int))=decide (bg.toNat<=n):=λn=>by rw[decide_eq_decide];omega
 have bD:D.toNat<=16:=nK;have X8:bg.toNat<=1024:=nK;rw[bU,hI];have aL:=jH bq;have aC:=jH bu;obtain⟨K,bK⟩:=nT D.toNat;obtain⟨M,bL⟩:=nT bg.toNat;rw[bK]at aL bD⊢;rw[bL]at aC X8⊢;obtain⟨l,hl⟩:=nT s.data.toList;have bz:l.length=s.size:=by rw[<-hl];simp
 obtain⟨g,hg⟩:=nT w.heap.size;obtain⟨R,ah⟩:=nT (vU K l M);have bE:=jH ah;rw[hl,ah];obtain⟨dC,aP⟩:=nT (ND R w);have aM:=jH aP;rw[aP];obtain⟨wa,aQ⟩:∃wa,w.alloc (nG #[ny ⟨#[]⟩,nA false,nk none 0 0] IT)=wa:=⟨_,rfl⟩;obtain⟨bF,aR⟩:=nT (wa.alloc (nG #[nk none 0 0] OT));have aS:jW (∀W,bF.alloc (nG #[ny ⟨#[]⟩,nA false,nk none 0 0] IT)=W->a6a l g w wa W):=jH λW h=>a6b hg aQ aR h
 have aX:=jH hl;have bA:=jH bz;have bM:wa.heap.size=g+1:=by rw[<-aQ];simp;omega
 have bN:bF.heap.size=g+2:=by rw[<-aR];simp;omega
 clear ah bK bL bq bu aP hl bz;go_in;go_upto_region 3 with fail;generalize bF.alloc (nG #[ny ⟨#[]⟩,nA false,nk none 0 0] IT)=w1 at*;have C:=jH (aS _ rfl);clear aS aQ aR bM bN;go_upto_region 7 with fail
 go_loopw [12,13,14] (λak cv aY wr=>(ak=ng nH 0/\cv=ng nH 0/\aY=nA true/\wr=w1)\/(∃(p c:Nat) (vr:jP) (st:List Fr),ak=ng nH (p:Nat)/\cv=ng nH (c:Nat)/\aY=nA false/\jW (vW l K M R (g+1) (g+1) (g+2) wa wr p c vr st/\Opn p st)))
  (λak _ aY _=>s.size -(kW ak).toNat+XU aY)
 case atStart=>exact .inl ⟨rfl,rfl,rfl,rfl⟩
 case round=>
  rcases hrel with⟨rfl,rfl,rfl,rfl⟩|⟨p,c,vr,st,rfl,rfl,rfl,au⟩
  .have p0:=C.o0
   obtain⟨H,aF⟩:=nT (BK l (decide (K<=0)) (decide (M<=0)));have V:jW (∀x:sM wr,jV jI 242 #[ny s,nA (decide (D<=0)),nA (decide (bg<=0))] x.at_ λe w'=>e=nE (Bg H)/\jS x.at_.heap.size x.at_ w'):=jH λx=>by
    have h0:=Nz s (decide (D<=((0:Nat):Int))) (decide (bg<=((0:Nat):Int))) x.at_ hs;rw[aL.out,aC.out,aX.out,aF]at h0;have e1:=aL.out 0;have e2:=aC.out 0;simp only[Int.natCast_zero]at e1 e2;rw[e1,e2];exact h0.mono λe w' aT=>⟨aT.1,aT.2▸jT _ _⟩
   have ay:=jH aF;have aa:jW (∀x:sM wr,rE x.at_ (g+1) (g+1) (g+2) (nk none 0 0) []/\nO x.at_ (g+2) qR IT/\jS (g+1) wa x.at_):=jH λx=>⟨C.Bh.fut x.is,Below.blk x.is C.whole C.Bh.lt,C.bw.trans (x.is.mono (by have:=C.Bh.lt;omega))⟩
   have O:∀x:sM wr,x.at_.cell? ⟨g+1,0,none⟩=some (nk none 0 0):=λx=>(aa x).1.ho.cell 0
   clear aF;go_upto_region 12 with fail;cases H with
   |error er=>
    have ah:jW (R=.error er):=jH (by rw[<-bE.out];exact UQ ay);have he:=NF ay.out;have bV:((er:Int) !=0)=true:=nQ;simp only[Bg]at V;obtain⟨bO,e1⟩:=nT (((er:Int)==2));refine oC nM nM ?_;repeat(go_big_quiet_step (exact Calls.after (V _)))
    refine mJ ?_;intro x;obtain⟨ai,az,af⟩:=aa.out x;have aZ:=O x;obtain⟨⟨c0,c1,c2⟩,⟨z0,bG,bH⟩,E⟩:=Sl C.res af;have aA:=jH (JA (a:=ny ⟨#[]⟩) (b:=nA false) (c:=nk none 0 0) C.ba C.res.lt af E);clear ai az af E he O;cases bO
    all_goals
     go_wp2_with fail;rw[sQ];obtain⟨aG,aH,aI⟩:=aA.1.a3;refine j4 (v:=nD #[nC qR,ng nH 0,ng nH (er:Nat)]) (by simp[kK,Tryz.results204,go_sem,aG,aH,aI,qR]) rfl ?_;rw[<-aM.out,ah.out];exact⟨rfl,hg.symm▸aA.2⟩
   |ok q=>
    obtain⟨li,z,n⟩:=q;obtain⟨_,_,_,_,aU,aJ⟩:=BS ay.out;simp only[bA.out]at aU aJ;cases li with
    |true=>
     simp only[Bg]at V;refine oC nM nM ?_;repeat(go_big_quiet_step (exact Calls.after (V _)))
     refine mJ ?_;intro x;obtain⟨ai,az,af⟩:=aa.out x;have aZ:=O x;have aj:=jH ai;have bP:=jH az;have bQ:=jH af;have bR:g+1<=x.at_.heap.size:=by have:=ai.lt;omega
     clear ai az af V aa O p0;go_upto_if 75 with fail
     go_cut [12] (λak aK=>∃(p2:Nat) (I:jP) (J:List Fr),ak=ng nH (p2:Nat)/\p2<=s.size/\jW (vW l K M R (g+1) (g+1) (g+2) wa aK p2 1 I J));case first=>
      go_wp2_with (at_builtin;refine tL XT Av rfl _ _ rfl (B:=g+1) (v:=nk none 0 0) (L:=[]) (y:=⟨nk none 0 0,[],z+n⟩) rfl (pK.nil _ _ _) rfl (nO.new x.at_ #[nk none 0 0,ng nH ((z:Int)+(n:Int))] RT) (by simp[rf2]) (by simp[rf2,Value.oneCell']) nR nQ ?_;intro bW cap w2 ag Q aD hlt;obtain⟨bX,bY⟩:=NH aj ((jT _ x.at_).alloc (jL _) _) Q;have aV:=jH (jU ag (jU Q aD));clear ag Q aD hlt);go_meet;obtain⟨bZ,cz,cK⟩:=NA (f:=⟨nk none 0 0,[],z+n⟩) aj ((jT _ x.at_).alloc (jL _) _) ⟨rfl,rfl⟩ aV.1 aV.2.1 aV.2.2;have aW:=vW.BR ay bQ bZ (by unfold nO;rw[cK _ aj.lt nK (by simp[kJ])];exact bP) cz;rw[bE.out]at aW;exact⟨z,_,_,rfl,nK,jH aW⟩
     case rest=>
      obtain⟨p2,I,J,rfl,Y,Z⟩:=hcut;have HMS:=jH Y;go_wp2_with fail;go_loopw [20] (λ_ ae=>∃(vr:jP) (st:List Fr),jW (vW l K M R (g+1) (g+1) (g+2) wa ae p2 (1) vr st)) (λ_ ae=>Ed ae (g+1));case atStart=>exact⟨I,J,Z⟩
      case round=>
       obtain⟨vr3,aB,Fv⟩:=hrel;clear Z;cases aB with
       |nil=>
        exact Yc
       |cons x xs=>
        obtain⟨N,hN⟩:=nT xs.length;obtain⟨go,cr,hv3,r0,r1,o0,zo,aN,U⟩:=yw Fv hN;subst hv3;have ax:N+1<=16:=nK;clear U;by_cases he:x.e=p2;.exact Su
        .exact Yb
    |false=>
     simp only[Bg]at V;refine oC nM nM ?_;repeat(go_big_quiet_step (exact Calls.after (V _)))
     refine mJ ?_;intro x;obtain⟨ai,az,af⟩:=aa.out x;have aZ:=O x;have CA:=jH (KS aX bE ay ai az af);clear ai az af V aa O p0;go_upto_if 75 with fail
     go_cut [12] (λak aK=>∃(p2:Nat) (I:jP) (J:List Fr),ak=ng nH (p2:Nat)/\p2<=s.size/\jW (vW l K M R (g+1) (g+1) (g+2) wa aK p2 1 I J));case first=>
      go_wp2_with fail;refine CA.mono ?_;rintro e w5 ⟨rfl,X7⟩;have HN5:=jH X7;clear X7 CA;go_wp2_with fail;go_meet;exact⟨z+n,_,_,by go_num,nK,HN5⟩
     case rest=>
      obtain⟨p2,I,J,rfl,Y,Z⟩:=hcut;have HMS:=jH Y;go_wp2_with fail;go_loopw [20] (λ_ ae=>∃(vr:jP) (st:List Fr),jW (vW l K M R (g+1) (g+1) (g+2) wa ae p2 (1) vr st)) (λ_ ae=>Ed ae (g+1));case atStart=>exact⟨I,J,Z⟩
      case round=>
       obtain⟨vr3,aB,Fv⟩:=hrel;clear Z;cases aB with
       |nil=>
        exact Yc
       |cons x xs=>
        obtain⟨N,hN⟩:=nT xs.length;obtain⟨go,cr,hv3,r0,r1,o0,zo,aN,U⟩:=yw Fv hN;subst hv3;have ax:N+1<=16:=nK;clear U;by_cases he:x.e=p2;.exact Su
        .exact Yb
  .cases st with
   |nil=>
    have p0:=au.1.Bh.ho.c0;obtain⟨oa,cr,hv3⟩:∃oa cr,vr=nk oa 0 cr:=au.1.Bh.row.slice;rw[hv3]at p0;obtain⟨y,v,dD,ah,hb,hv,bI⟩:=au.1.res;obtain⟨ov,cv,rfl,_⟩:=nV.slice hv;obtain⟨⟨c0,c1,c2⟩,⟨z0,bG,bH⟩,E⟩:=Sl C.res au.1.below;have aA:=jH (JA (a:=ny (txt y.lab)) (b:=nA y.lab.list) (c:=nk ov y.sub.length cv) C.ba C.res.lt au.1.below E);have cZ:jW (nV (wD wr g 0 (ny (txt y.lab)) (nA y.lab.list) (nk ov y.sub.length cv)) (λc=>w.heap.size<=c) (nk ov y.sub.length cv) y.sub):=jH (Shape.nX.keep hv (by rw[vg];exact jL _) (λc _ hc=>by
      have df:=bI c hc;show w.heap.size<=c;have:¬c<g+1:=λh=>df (.inl h)
      omega) λc _ hc=>sS c λe=>bI c hc (.inl nK))
    obtain⟨dE,dF,y2⟩:=hb.a3;have bS:=jH ah;clear hb hv bI ah E;go_wp2_with fail;rw[sQ];obtain⟨aG,aH,aI⟩:=aA.1.a3;refine j4 (v:=nD #[nC #[ny (txt y.lab),nA y.lab.list,nk ov y.sub.length cv],ng nH (p:Nat),ng nH 0]) (by simp[kK,Tryz.results204,go_sem,aG,aH,aI]) rfl ?_;rw[<-aM.out,bS.out];exact⟨_,rfl,cZ.out,hg.symm▸aA.2⟩
   |cons x xs=>
    obtain⟨N,hN⟩:=nT xs.length;obtain⟨go,cr,hv3,r0,r1,o0,zo,aN,U⟩:=yw au.1 hN;subst hv3;have ax:N+1<=16:=nK;have aO:p<x.e:=au.2;have dx:x.e<=s.size:=by have:=Ends.le au.1.ends.2;rw[bA.out]at this;exact this
    have dz:c<=1024:=by have:=au.1.hc;omega
    obtain⟨H,aF⟩:=nT (BK (zt l p x.e) (decide (K<=(x::xs).length)) (decide (M<=c)));have V:jW (∀A:sM wr,jV jI 242 #[ny (s.extract p x.e),nA (decide (D<=(N:Int)+1)),nA (decide (bg<=(c:Int)))] A.at_ λe w'=>e=nE (Bg H)/\jS A.at_.heap.size A.at_ w'):=jH λA=>by
     have h0:=Nz (s.extract p x.e) (decide (D<=((N+1:Nat):Int))) (decide (bg<=(c:Int))) A.at_ (by simp[kz];omega);have e1:=aL.out (N+1);rw[e1,aC.out,KQ aX.out,show N+1=(x::xs).length by simp[hN],aF]at h0;rw[show((N:Int)+1)=((N+1:Nat):Int)by omega,e1,aC.out,show N+1=(x::xs).length by simp[hN]];exact h0.mono λe w' aT=>⟨aT.1,aT.2▸jT _ _⟩
    have ay:=jH aF;have aa:jW (∀A:sM wr,vW l K M R (g+1) (g+1) (g+2) wa A.at_ p c (nk (some ⟨go,0,none⟩) (N+1) cr) (x::xs)):=jH λA=>au.1.fut A.is
    have O:∀A:sM wr,A.at_.cell? ⟨g+1,0,none⟩=some (nk (some ⟨go,0,none⟩) (N+1) cr):=λA=>(aa A).Bh.ho.cell 0
    have HNN:=jH hN;have dh:=jH aO;clear aF hN r0 zo U;go_upto_region 12 with fail;cases H with
    |error er=>
     have ah:=jH (au.1.err aO ay);have he:=NF ay.out;simp only[Bg]at V;by_cases e2:er=2
     .have e1:((er:Int)==2)=true:=by simp[e2]
      rw[if_pos e2]at ah;clear e2;refine oC nM nM ?_;repeat(go_big_quiet_step (exact Calls.after (V _)))
      refine mJ ?_;intro A;obtain⟨⟨c0,c1,c2⟩,⟨z0,bG,bH⟩,E⟩:=Sl C.res (aa A).below;have aA:=jH (JA (a:=ny ⟨#[]⟩) (b:=nA false) (c:=nk none 0 0) C.ba C.res.lt (aa A).below E);clear E he O;go_wp2_with fail;rw[sQ];obtain⟨aG,aH,aI⟩:=aA.1.a3;refine j4 (v:=nD #[nC qR,ng nH 0,ng nH 3]) (by simp[kK,Tryz.results204,go_sem,aG,aH,aI,qR]) rfl ?_;rw[<-aM.out,ah.out];exact⟨rfl,hg.symm▸aA.2⟩
     .have e1:((er:Int)==2)=false:=wL
      have bV:((er:Int) !=0)=true:=nQ;rw[if_neg e2]at ah;clear e2;refine oC nM nM ?_;repeat(go_big_quiet_step (exact Calls.after (V _)))
      refine mJ ?_;intro A;obtain⟨⟨c0,c1,c2⟩,⟨z0,bG,bH⟩,E⟩:=Sl C.res (aa A).below;have aA:=jH (JA (a:=ny ⟨#[]⟩) (b:=nA false) (c:=nk none 0 0) C.ba C.res.lt (aa A).below E);clear E he O;go_wp2_with fail;rw[sQ];obtain⟨aG,aH,aI⟩:=aA.1.a3;refine j4 (v:=nD #[nC qR,ng nH 0,ng nH (er:Nat)]) (by simp[kK,Tryz.results204,go_sem,aG,aH,aI,qR]) rfl ?_;rw[<-aM.out,ah.out];exact⟨rfl,hg.symm▸aA.2⟩
    |ok q=>
     obtain⟨li,z,n⟩:=q;obtain⟨_,_,bB,aU,aJ,_⟩:=au.1.head aO ay.out;have bT:=jH bB;clear bB;simp only at aU aJ;cases li with
     |true=>
      have dA:=NG bT.out;simp only[Bg]at V;refine oC nM nM ?_;repeat(go_big_quiet_step (exact Calls.after (V _)))
      refine mJ ?_;intro A;have aZ:=O A;have aj:=jH (aa A);have bR:g+2<=A.at_.heap.size:=by have:=aj.Bh.lt;omega
      clear V aa O o0 r1;go_upto_if 75 with fail
      go_cut [12] (λak aK=>∃(p2:Nat) (I:jP) (J:List Fr),ak=ng nH (p2:Nat)/\(p<p2/\p2<=s.size)/\jW (vW l K M R (g+1) (g+1) (g+2) wa aK p2 (c+1) I J));case first=>
       have bC:jW ((x::xs).reverse.length=N+1):=jH (by simp[HNN.out]);go_wp2_with (at_builtin;go_loud (refine tL XT Av rfl _ _ rfl (B:=g+1) (v:=nk (some ⟨go,0,none⟩) (N+1) cr) (L:=(x::xs).reverse) (y:=⟨nk none 0 0,[],p+z+n⟩) rfl (aj.Bh.row.below ((jT _ A.at_).alloc (jL _) _)) rfl (nO.new A.at_ #[nk none 0 0,ng nH ((p:Int)+(z:Int)+(n:Int))] RT) (by simp[rf2]) (by simp[rf2,Value.oneCell']) (by rw[bC.out];omega) nQ ?_);intro bW cap w2 ag Q aD hlt;obtain⟨bX,bY⟩:=NH aj.Bh ((jT _ A.at_).alloc (jL _) _) Q;have aV:=jH (a3O aj dh HNN ay ((jT _ A.at_).alloc (jL _) _) rfl ag Q aD);rw[bC.out];clear ag Q aD hlt);go_meet;exact⟨p+z,_,_,by go_num,⟨nK,nK⟩,aV⟩
      case rest=>
       obtain⟨p2,I,J,rfl,Y,Z⟩:=hcut;have HMS:=jH Y;have bJ:=Y.2;clear Y;go_wp2_with fail;go_loopw [20] (λ_ ae=>∃(vr:jP) (st:List Fr),jW (vW l K M R (g+1) (g+1) (g+2) wa ae p2 (c+1) vr st)) (λ_ ae=>Ed ae (g+1));case atStart=>exact⟨I,J,Z⟩
       case round=>
        obtain⟨vr3,aB,Fv⟩:=hrel;clear Z;cases aB with
        |nil=>
         exact Ya
        |cons x xs=>
         obtain⟨N,hN⟩:=nT xs.length;obtain⟨go,cr,hv3,r0,r1,o0,zo,aN,U⟩:=yw Fv hN;subst hv3;have ax:N+1<=16:=nK;clear U;by_cases he:x.e=p2;.exact Su
         .exact X9
     |false=>
      simp only[Bg]at V;refine oC nM nM ?_;repeat(go_big_quiet_step (exact Calls.after (V _)))
      refine mJ ?_;intro A;have aZ:=O A;have CA:=jH (a3N aX hs (aa A) aO nK nK ay);clear V aa O o0 r1;go_upto_if 75 with fail
      go_cut [12] (λak aK=>∃(p2:Nat) (I:jP) (J:List Fr),ak=ng nH (p2:Nat)/\(p<p2/\p2<=s.size)/\jW (vW l K M R (g+1) (g+1) (g+2) wa aK p2 (c+1) I J));case first=>
       go_wp2_with fail;refine CA.mono ?_;rintro e w5 ⟨rfl,dG,dB,X7⟩;have HN5:=jH X7;clear X7 CA;go_wp2_with fail;go_meet;exact⟨p+z+n,_,_,by go_num,⟨nK,nK⟩,HN5⟩
      case rest=>
       obtain⟨p2,I,J,rfl,Y,Z⟩:=hcut;have HMS:=jH Y;have bJ:=Y.2;clear Y;go_wp2_with fail;go_loopw [20] (λ_ ae=>∃(vr:jP) (st:List Fr),jW (vW l K M R (g+1) (g+1) (g+2) wa ae p2 (c+1) vr st)) (λ_ ae=>Ed ae (g+1));case atStart=>exact⟨I,J,Z⟩
       case round=>
        obtain⟨vr3,aB,Fv⟩:=hrel;clear Z;cases aB with
        |nil=>
         exact Ya
        |cons x xs=>
         obtain⟨N,hN⟩:=nT xs.length;obtain⟨go,cr,hv3,r0,r1,o0,zo,aN,U⟩:=yw Fv hN;subst hv3;have ax:N+1<=16:=nK;clear U;by_cases he:x.e=p2;.exact Su
         .exact X9
def NL(R:Except Nat (nL IL))(w:jJ)(e:Ending)(w':jJ):Prop:=match R with
 | .error er=>e=nE (nD #[nC qR,ng nH (er:Nat)])/\jS w.heap.size w w'
 | .ok x=>∃v,e=nE (nD #[nC #[ny (txt x.lab),nA x.lab.list,v],ng nH 0])/\nV w' (λc=>w.heap.size<=c) v x.sub/\jS w.heap.size w w'
theorem a1r{w wa:jJ}{g:Nat}(hg:w.heap.size=g)(h:w.alloc (nG #[ny ⟨#[]⟩,nA false,nk none 0 0] IT)=wa):nO wa g qR IT/\jS g w wa/\wa.heap.size=g+1:=by
 subst h;exact⟨hg▸nO.new w _ _,hg▸(jT _ w).alloc (jL _) _,nQ⟩
theorem a1s(I items:Int)(K M:Nat)(aM:(min I 16).toNat=K)(aN:(min items 1024).toNat=M)(s:ByteArray)(w:jJ)(hs:s.size<=100000)(aD:(lJ nH I).wf=true)(hi1:(lJ nH items).wf=true):
  jV jI 165 #[ny s,ng nH I,ng nH items] w (NL (EY s.data.toList (vU K s.data.toList M)) w):=by
 obtain⟨R,au⟩:=nT (vU K s.data.toList M);obtain⟨g,hg⟩:=nT w.heap.size;obtain⟨wa,aF⟩:∃wa,w.alloc (nG #[ny ⟨#[]⟩,nA false,nk none 0 0] IT)=wa:=⟨_,rfl⟩;obtain⟨ax,ae,aU⟩:=a1r hg aF;have av:=Yd s I items wa hs aD hi1;rw[aM,aN,au]at av;have aG:jW (∀y,R=.ok y->y.2.1<=s.size/\0<y.2.1):=jH λy aH=>by
  rw[<-au]at aH;have h:=Fs aH;have hl:s.data.toList.length=s.size:=nR;omega
 have av:=jH av;have Z:=jH ax;have ay:=jH ae;have az:jW (s.data.toList.length=s.size):=jH nR;obtain⟨aO,aB⟩:=nT (NL (EY s.data.toList R) w);have aC:=jH aB;rw[au,aB];clear ax ae aB;go_in;go_wp2_with fail;refine av.mono ?_;intro e w2 aa;cases R with
 |error er=>
  have aV:=GY _ _ _ _ au;have V:jW (EY s.data.toList (.error er)=.error er):=jH rfl;obtain⟨rfl,J⟩:=aa;unfold qR;have aX:((er:Int) !=0)=true:=nQ;have e1:((er:Int)==0)=false:=wL;have af:jW (∀W,w2.alloc (nG #[ny ⟨#[]⟩,nA false,nk none 0 0] IT)=W->jS wa.heap.size wa W/\nO W w2.heap.size #[ny ⟨#[]⟩,nA false,nk none 0 0] IT/\jS w2.heap.size w2 W):=jH λW h=>by
   subst h;exact⟨J.alloc J.size _,nO.new w2 _ _,(jT _ w2).alloc (jL _) _⟩
  clear J;go_upto_region 2 with fail;generalize w2.alloc (nG #[ny ⟨#[]⟩,nA false,nk none 0 0] IT)=w3 at*;obtain⟨N,O,Q⟩:=af.out _ rfl;have A:=Below.blk (N.mono (show g+1<=wa.heap.size by omega)) Z (lM g);have c0:w3.cell? ⟨g,0,none⟩=some (ny ⟨#[]⟩):=A.cell 0;have c1:w3.cell? ⟨g,1,none⟩=some (nA false):=A.cell 1;have c2:w3.cell? ⟨g,2,none⟩=some (nk none 0 0):=A.cell 2;obtain⟨z0,aP,aQ⟩:=A.f3;have U:=jH (λa b c=>JA (a:=a) (b:=b) (c:=c) ay Z.lt (N.mono (show g+1<=wa.heap.size by omega)) A);obtain⟨aR,aS,y2⟩:=O.a3;clear N O Q A af;go_wp2_with fail;rw[sQ];obtain⟨C,E⟩:=U.out (ny ⟨#[]⟩) (nA false) (nk none 0 0);obtain⟨ag,ah,ai⟩:=C.a3;have Y:=jH E;clear C E;refine j4 (v:=nD #[nC #[ny ⟨#[]⟩,nA false,nk none 0 0],ng nH (er:Nat)]) (by simp[kK,Tryz.results165,go_sem,ag,ah,ai,qR]) rfl ?_;rw[<-aC.out,V.out];exact⟨rfl,hg.symm▸Y.out⟩
 |ok y=>
  obtain⟨aI,aJ⟩:=aG.out _ rfl;obtain⟨v,rfl,aj,J⟩:=aa;obtain⟨x,n,m⟩:=y;simp only at aj aI aJ⊢;obtain⟨o,c,aK,_⟩:=nV.slice aj;subst aK;obtain⟨sn,aA⟩:=nT x.sub.length;rw[aA]at aj⊢;have af:jW (∀W,w2.alloc (nG #[ny (txt x.lab),nA x.lab.list,nk o sn c] IT)=W->jS wa.heap.size wa W/\nO W w2.heap.size #[ny (txt x.lab),nA x.lab.list,nk o sn c] IT/\jS w2.heap.size w2 W):=jH λW h=>by
   subst h;exact⟨J.alloc J.size _,nO.new w2 _ _,(jT _ w2).alloc (jL _) _⟩
  have aL:=jH aj;clear J aj aA;go_upto_region 2 with fail;generalize w2.alloc (nG #[ny (txt x.lab),nA x.lab.list,nk o sn c] IT)=w3 at*;obtain⟨N,O,Q⟩:=af.out _ rfl;have A:=Below.blk (N.mono (show g+1<=wa.heap.size by omega)) Z (lM g);have c0:w3.cell? ⟨g,0,none⟩=some (ny ⟨#[]⟩):=A.cell 0;have c1:w3.cell? ⟨g,1,none⟩=some (nA false):=A.cell 1;have c2:w3.cell? ⟨g,2,none⟩=some (nk none 0 0):=A.cell 2;obtain⟨z0,aP,aQ⟩:=A.f3;have U:=jH (λa b c=>JA (a:=a) (b:=b) (c:=c) ay Z.lt (N.mono (show g+1<=wa.heap.size by omega)) A);obtain⟨aR,aS,y2⟩:=O.a3;have aT:jW (nV w3 (λc=>wa.heap.size<=c) (nk o sn c) x.sub):=jH (Shape.nX.below aL Q);clear N O Q A af;by_cases hlt:n<s.size
  .have V:jW (EY s.data.toList (.ok (x,n,m))=.error 3):=jH (by simp only[EY];rw[if_pos (by rw[az.out];exact hlt)])
   go_wp2_with fail;rw[sQ];obtain⟨C,E⟩:=U.out (ny ⟨#[]⟩) (nA false) (nk none 0 0);obtain⟨ag,ah,ai⟩:=C.a3;have Y:=jH E;clear C E;refine j4 (v:=nD #[nC #[ny ⟨#[]⟩,nA false,nk none 0 0],ng nH 3]) (by simp[kK,Tryz.results165,go_sem,ag,ah,ai,qR]) rfl ?_;rw[<-aC.out,V.out];exact⟨rfl,hg.symm▸Y.out⟩
  .have V:jW (EY s.data.toList (.ok (x,n,m))=.ok x):=jH (by simp only[EY];rw[if_neg (by rw[az.out];exact hlt)])
   have aW:s.size<=n:=nK;clear hlt;go_wp2_with fail;rw[sQ];obtain⟨C,E⟩:=U.out (ny (txt x.lab)) (nA x.lab.list) (nk o sn c);obtain⟨ag,ah,ai⟩:=C.a3;have Y:=jH E;clear C E;refine j4 (v:=nD #[nC #[ny (txt x.lab),nA x.lab.list,nk o sn c],ng nH 0]) (by simp[kK,Tryz.results165,go_sem,ag,ah,ai,qR]) rfl ?_;rw[<-aC.out,V.out];refine⟨nk o sn c,rfl,Shape.nX.keep aT (by rw[vg];exact jL _) (λak _ hc=> ?_) λak _ hc=>sS ak ?_,hg.symm▸Y.out⟩;.show w.heap.size<=ak;have:wa.heap.size<=ak:=hc;omega
   .have:wa.heap.size<=ak:=hc;omega
abbrev zq:ko:=49
def qT(R:Except Nat (nL IL)):ByteArray:=match R with| .error _=>⟨#[]⟩| .ok x=>txt x.lab
def qL(R:Except Nat (nL IL)):Bool:=match R with| .error _=>false| .ok x=>x.lab.list
def qS(R:Except Nat (nL IL)):List (nL IL):=match R with| .error _=>[]| .ok x=>x.sub
def qE(R:Except Nat (nL IL)):Nat:=match R with| .error er=>er| .ok _=>0
def qV(R:Except Nat (nL IL))(ov:Option l5)(cv:Nat):jP:=nD #[nC #[ny (qT R),nA (qL R),nk ov (qS R).length cv],ng nH (qE R:Nat)]
def Qn(R:Except Nat (nL IL))(w:jJ)(e:Ending)(w':jJ):Prop:=
 ∃ov cv,((∃er,R=.error er)->ov=none/\cv=0)/\e=nE (qV R ov cv)/\nV w' (λc=>w.heap.size<=c) (nk ov (qS R).length cv) (qS R)/\jS w.heap.size w w'
theorem KW{R:Except Nat (nL IL)}{w w':jJ}(h:AQ R w e w'):Qn R w e w':=by
 cases R with
 |error er=>exact⟨none,0,λ_=>⟨rfl,rfl⟩,h.1,vQ _ _,h.2⟩
 |ok x=>
  obtain⟨v,rfl,A,C⟩:=h;obtain⟨ov,cv,rfl,_⟩:=nV.slice A;exact⟨ov,cv,(λ⟨_,h⟩=>by cases h),rfl,A,C⟩
theorem Sv{R:Except Nat (nL IL)}{w w':jJ}(h:Qn R w e w'):AQ R w e w':=by
 obtain⟨ov,cv,h0,rfl,C,A⟩:=h;cases R with
 |error er=>
  obtain⟨rfl,rfl⟩:=h0 ⟨er,rfl⟩;exact⟨rfl,A⟩
 |ok x=>exact⟨_,rfl,C,A⟩
theorem Ye(h:p:=by
 subst hW;have a1:=(jT w.heap.size w).alloc (jL _) (nG #[ng nH dep,ng nH oZ] 159);have a2:=a1.alloc nR (nG #[ng nH t.lab.kind,ng nH t.lab.size,nk ou t.sub.length cu,ng nH t.lab.tail] rW);have a3:=a2.alloc nQ (nG #[ny ⟨#[]⟩,nA false,nk none 0 0] IT);have k1:=nO.new w #[ng nH dep,ng nH oZ] 159;have k2:=nO.new (w.alloc (nG #[ng nH dep,ng nH oZ] 159)) #[ng nH t.lab.kind,ng nH t.lab.size,nk ou t.sub.length cu,ng nH t.lab.tail] rW;have k3:=nO.new ((w.alloc (nG #[ng nH dep,ng nH oZ] 159)).alloc (nG #[ng nH t.lab.kind,ng nH t.lab.size,nk ou t.sub.length cu,ng nH t.lab.tail] rW)) #[ny ⟨#[]⟩,nA false,nk none 0 0] IT;rw[show(w.alloc (nG #[ng nH dep,ng nH oZ] 159)).heap.size=g+1 by simp[hg]]at k2;rw[show((w.alloc (nG #[ng nH dep,ng nH oZ] 159)).alloc (nG #[ng nH t.lab.kind,ng nH t.lab.size,nk ou t.sub.length cu,ng nH t.lab.tail] rW)).heap.size=g+2 by simp[hg]]at k3;rw[hg]at k1;exact⟨(k1.alloc _).alloc _,k2.alloc _,k3,hg▸a3,by simp[hg]⟩):p:=h
theorem NM(t:nL TL)(s:ByteArray)(dep oZ:Int)(w:jJ)(ou:Option l5)(cu:Nat)(R:Except Nat (nL IL))(af:oL w (nk ou t.sub.length cu) t.sub)(ag:∀W,jS w.heap.size w W->jV jI 117 #[nC #[ng nH t.lab.kind,ng nH t.lab.size,nk ou t.sub.length cu,ng nH t.lab.tail],ny s,ng nH dep,ng nH oZ] W (AQ R W)):
  jV jI 84 #[nC #[ng nH dep,ng nH oZ],nC #[ng nH t.lab.kind,ng nH t.lab.size,nk ou t.sub.length cu,ng nH t.lab.tail],ny s] w (AQ R w):=by
 obtain⟨g,hg⟩:=nT w.heap.size;have Q:=jH (λW h=>(ag W h).mono λe w' h=>KW h);have U:jW (∀W,((w.alloc (nG #[ng nH dep,ng nH oZ] 159)).alloc (nG #[ng nH t.lab.kind,ng nH t.lab.size,nk ou t.sub.length cu,ng nH t.lab.tail] rW)).alloc (nG #[ny ⟨#[]⟩,nA false,nk none 0 0] IT)=W->nO W g #[ng nH dep,ng nH oZ] 159/\nO W (g+1) #[ng nH t.lab.kind,ng nH t.lab.size,nk ou t.sub.length cu,ng nH t.lab.tail] rW/\nO W (g+2) AR IT/\jS g w W/\W.heap.size=g+3):=jH λW hW=>by
  exact Ye
 obtain⟨aj,aa⟩:=nT (AQ R w);have ak:=jH aa;rw[aa];unfold Qn qV at Q;have aC:=jH (rfl:(qS R)=qS R);obtain⟨T,ae⟩:=nT (qT R);obtain⟨li,C⟩:=nT (qL R);obtain⟨sn,E⟩:=nT ((qS R).length);obtain⟨er,I⟩:=nT (qE R);rw[ae,C,E,I]at Q;have au:=jH (jU ae (jU C (jU E I)));clear af ag aa ae C E I;generalize t.lab.kind=k at*;generalize t.lab.size=z at*;generalize t.lab.tail=tl at*;generalize t.sub.length=n at*;go_in;go_upto_region 1 with fail;obtain⟨J,V,hk2,N,Y⟩:=U.out _ rfl;generalize ((w.alloc _).alloc _).alloc _=w1 at*;obtain⟨⟨t0,aD,aF,t3⟩,_⟩:=oF V;have c0:w1.cell? ⟨g,0,none⟩=some (ng nH dep):=J.cell 0;have c1:w1.cell? ⟨g,1,none⟩=some (ng nH oZ):=J.cell 1;have A:=jH (jU hk2 (jU N Y));have Z:=jH (Q _ (hg.symm▸N));clear U J V hk2 N Y Q;go_wp2_with fail;refine Z.mono ?_;rintro e w2 ⟨ov,cv,h0,rfl,hs,hb⟩;have O:=jH (Below.blk hb A.1 A.1.lt);have av:=jH (jU h0 (jU hs (A.2.1.trans (hb.mono (by have:=A.2.2;omega)))));have ah:jW (∀c,w1.heap.size<=c->g+3<=c):=jH λc hc=>by have:=A.2.2;omega
 clear h0 hs hb A Z;have ax:=O.cell 0;have ay:=O.cell 1;have y2:=O.cell 2;obtain⟨z0,aG,aH⟩:=O.f3;simp only[AR,jO,jN,jM]at ax ay y2;go_wp2_with fail;rw[p8];obtain⟨hB,hb⟩:=yP (a:=ny T) (b:=nA li) (c:=nk ov sn cv) ⟨_,_,_,O.out⟩ (g:=g+2) (w:=w2) (W:=w2) (jT _ _);obtain⟨az,aA,aB⟩:=hB.a3;refine j4 (v:=nD #[nC #[ny T,nA li,nk ov sn cv],ng nH er]) (by simp[kK,Tryz.results84,go_sem,az,aA,aB]) rfl ?_;rw[<-ak.out];obtain⟨rfl,rfl,rfl,rfl⟩:=au.out;obtain⟨h0,hs,ai⟩:=av.out;refine Sv ⟨ov,cv,h0,rfl,Shape.nX.keep hs (by simp[pI,kC]) (λc _ hc=>by have:=ah.out c hc;show w.heap.size<=c;omega) λc _ hc=> ?_,hg.symm▸ai.trans (hb.mono nK)⟩;have:=ah.out c hc;simp[pI,kC,lL,show g+2≠c by omega,show¬g+2=c by omega]
theorem IW(t:nL TL)(s:ByteArray)(dep oZ:Int)(w:jJ)(ou:Option l5)(cu:Nat)(R:Except Nat (nL IL))(af:oL w (nk ou t.sub.length cu) t.sub)(ag:∀W,jS w.heap.size w W->jV jI 119 #[nC #[ng nH t.lab.kind,ng nH t.lab.size,nk ou t.sub.length cu,ng nH t.lab.tail],ny s,ng nH oZ] W (AQ R W)):
  jV jI 86 #[nC #[ng nH dep,ng nH oZ],nC #[ng nH t.lab.kind,ng nH t.lab.size,nk ou t.sub.length cu,ng nH t.lab.tail],ny s] w (AQ R w):=by
 obtain⟨g,hg⟩:=nT w.heap.size;have Q:=jH (λW h=>(ag W h).mono λe w' h=>KW h);have U:jW (∀W,((w.alloc (nG #[ng nH dep,ng nH oZ] 159)).alloc (nG #[ng nH t.lab.kind,ng nH t.lab.size,nk ou t.sub.length cu,ng nH t.lab.tail] rW)).alloc (nG #[ny ⟨#[]⟩,nA false,nk none 0 0] IT)=W->nO W g #[ng nH dep,ng nH oZ] 159/\nO W (g+1) #[ng nH t.lab.kind,ng nH t.lab.size,nk ou t.sub.length cu,ng nH t.lab.tail] rW/\nO W (g+2) AR IT/\jS g w W/\W.heap.size=g+3):=jH λW hW=>by
  exact Ye
 obtain⟨aj,aa⟩:=nT (AQ R w);have ak:=jH aa;rw[aa];unfold Qn qV at Q;have aC:=jH (rfl:(qS R)=qS R);obtain⟨T,ae⟩:=nT (qT R);obtain⟨li,C⟩:=nT (qL R);obtain⟨sn,E⟩:=nT ((qS R).length);obtain⟨er,I⟩:=nT (qE R);rw[ae,C,E,I]at Q;have au:=jH (jU ae (jU C (jU E I)));clear af ag aa ae C E I;generalize t.lab.kind=k at*;generalize t.lab.size=z at*;generalize t.lab.tail=tl at*;generalize t.sub.length=n at*;go_in;go_upto_region 1 with fail;obtain⟨J,V,hk2,N,Y⟩:=U.out _ rfl;generalize ((w.alloc _).alloc _).alloc _=w1 at*;obtain⟨⟨t0,aD,aF,t3⟩,_⟩:=oF V;have c0:w1.cell? ⟨g,0,none⟩=some (ng nH dep):=J.cell 0;have c1:w1.cell? ⟨g,1,none⟩=some (ng nH oZ):=J.cell 1;have A:=jH (jU hk2 (jU N Y));have Z:=jH (Q _ (hg.symm▸N));clear U J V hk2 N Y Q;go_wp2_with fail;refine Z.mono ?_;rintro e w2 ⟨ov,cv,h0,rfl,hs,hb⟩;have O:=jH (Below.blk hb A.1 A.1.lt);have av:=jH (jU h0 (jU hs (A.2.1.trans (hb.mono (by have:=A.2.2;omega)))));have ah:jW (∀c,w1.heap.size<=c->g+3<=c):=jH λc hc=>by have:=A.2.2;omega
 clear h0 hs hb A Z;have ax:=O.cell 0;have ay:=O.cell 1;have y2:=O.cell 2;obtain⟨z0,aG,aH⟩:=O.f3;simp only[AR,jO,jN,jM]at ax ay y2;go_wp2_with fail;rw[p8];obtain⟨hB,hb⟩:=yP (a:=ny T) (b:=nA li) (c:=nk ov sn cv) ⟨_,_,_,O.out⟩ (g:=g+2) (w:=w2) (W:=w2) (jT _ _);obtain⟨az,aA,aB⟩:=hB.a3;refine j4 (v:=nD #[nC #[ny T,nA li,nk ov sn cv],ng nH er]) (by simp[kK,Tryz.results86,go_sem,az,aA,aB]) rfl ?_;rw[<-ak.out];obtain⟨rfl,rfl,rfl,rfl⟩:=au.out;obtain⟨h0,hs,ai⟩:=av.out;refine Sv ⟨ov,cv,h0,rfl,Shape.nX.keep hs (by simp[pI,kC]) (λc _ hc=>by have:=ah.out c hc;show w.heap.size<=c;omega) λc _ hc=> ?_,hg.symm▸ai.trans (hb.mono nK)⟩;have:=ah.out c hc;simp[pI,kC,lL,show g+2≠c by omega,show¬g+2=c by omega]
theorem a1t:∀(k:Nat)(l:List UInt8)(m:Nat)(y:nL IL×Nat×Nat),vU k l m=.ok y->y.1.lab.text.length<=l.length
 |0,l,m,y,h=>by
  simp only[vU]at h;split at h<;>cases h
 |k+1,l,m,y,h=>by
  simp only[vU]at h;split at h;.cases h
  .split at h
   .cases h
   .split at h
    .cases h
    .split at h
     .split at h
      .cases h
      .cases h;exact kI _
     .cases h
      simp only[nL.oQ,kY,kS];omega
theorem Yf(c:oK)(hc:oM c=true)(N:c.wf):∃fn:FuncId,Jy c=.func (.func fn) #[nC #[ng nH c.dep,ng nH c.oZ]] #[]/\(∀a b d W,mi jI (callFunc fn #[a,b,d]) W=.ok (.enter fn #[a,b,d]) W)/\
  ∀(t:nL TL)(s:ByteArray)(w:jJ)(ou:Option l5)(cu:Nat),oL w (nk ou t.sub.length cu) t.sub->qo w->xm w->pX t=true->(c.fmt=1->(nL.o7 p0 t.sub&&pX t)=true)->s.size<=100000->
   jV jI fn #[nC #[ng nH c.dep,ng nH c.oZ],nC #[ng nH t.lab.kind,ng nH t.lab.size,nk ou t.sub.length cu,ng nH t.lab.tail],ny s] w (AQ (GJ c t s) w):=by
 obtain⟨_,_,_,⟨aa,hd2⟩,hi1,hi2⟩:=qH hc;obtain⟨_,_,_,_,O,Q⟩:=N;by_cases C:c.fmt=1
 .refine⟨86,if_pos C,λ_ _ _ _=>rfl,λt s w ou cu A E I U J hs=> ?_⟩
  have e:GJ c t s=UC t s c.oZ:=if_pos C;rw[e];refine IW t s c.dep c.oZ w ou cu _ A λW hb=> ?_
  exact a1p t s c.oZ W ou cu (Shape.nX.below A hb) (E.below hb E.lt) (vP I (oN.of (b:=w.heap.size) (q:=w.heap.size) hb) (by have:=I.lt;omega) (by have:=I.lt;omega)) (J C) hs ⟨nK,hi2⟩
 .refine⟨84,if_neg C,λ_ _ _ _=>rfl,λt s w ou cu A E I U J hs=> ?_⟩
  have e:GJ c t s=Bb t (EY s.data.toList (vU (min c.dep 16).toNat s.data.toList (min c.oZ 1024).toNat)):=if_neg C;rw[e];refine NM t s c.dep c.oZ w ou cu _ A λW hb=> ?_
  refine Xi t _ ?_ W _ (Shape.nX.below A hb) ?_ (E.below hb E.lt) s c.dep c.oZ λV=>a1s c.dep c.oZ _ _ rfl rfl s V hs O Q
  .intro er h
   unfold EY at h;split at h
   .rename_i Y
    have:=GY _ _ _ _ Y;cases h;omega
   .split at h
    .cases h;decide
    .cases h
  .intro x h
   unfold EY at h;split at h;.cases h
   .rename_i y Z
    split at h;.cases h
    .cases h
     have ae:=a1t _ _ _ _ Z;have af:s.data.toList.length=s.size:=nR;have ag:(100000:Nat)<=j5:=nN;omega
end
end Go.Proofs.YtamfcjmhnndbdaaGreatDoor


