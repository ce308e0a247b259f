/- Part 12 of the proof. -/
import Derived.Test.YtamfcjmhnndbdaaGreatDoorZoA
import Derived.Test.YtamfcjmhnndbdaaGreatDoorZo00
import Derived.Test.YtamfcjmhnndbdaaGreatDoorZo02
import Derived.Test.YtamfcjmhnndbdaaGreatDoorZo03
import Derived.Test.YtamfcjmhnndbdaaGreatDoorZo04
import Derived.Test.YtamfcjmhnndbdaaGreatDoorZo05
import Derived.Test.YtamfcjmhnndbdaaGreatDoorZo06
import Derived.Test.YtamfcjmhnndbdaaGreatDoorZo08
import Derived.Test.YtamfcjmhnndbdaaGreatDoorZo10
import Derived.Test.YtamfcjmhnndbdaaGreatDoorZo11
import Derived.Laws.OwnMore
import Derived.Laws.AppendOwnNone
open Go.Value renaming agg→nI,bool→nH,int→Y,pointer→nG,slice→u,string→G,tuple→nJ,ownBlock→kz,slice→kI
open Go.Obj renaming cells→nL
open Go.IntKind renaming i64→X,u64→nN
open Go.Ending renaming returned→nK
open Go.Lib renaming hid→H,trimRightB→kM,strCells→mD
open Go.Proofs.Tryz renaming prog→jy
open Go renaming World→M,Value→jC,Calls→jG,maxLen→jN,TypeId→jX,Addr→kW,Oper→lJ,Program→lQ,wpQuiet_nil→l7,wpAnyH_ready→l8
open Nat renaming le_refl→jB,le_trans→jM,lt_of_lt_of_le→jZ,zero_le→ko,add_assoc→kK,lt_or_ge→kQ,pow_le_pow_right→lG,le_of_eq→lZ,lt_of_le_of_lt→mi,zero_add→mU,add_zero→nk
open Go.RowKit renaming Below→jD,Hid→jI,intOf→kC
open Go.RowKit.Below renaming refl→jE,heap_setCell→jW
open And renaming intro→jF
open List renaming setIfInBounds_toArray→jH,length_append→jK,getElem?_eq_getElem→jL,set_cons_zero→jQ,set_cons_succ→jR,getElem?_cons_zero→jS,getElem?_cons_succ→jT,getElem?_toArray→jV,take_succ_cons→jY,length_cons→j4,replicate→ky,length_take→kD,mem_of_getElem?→kE,length_drop→kG,take_zero→kJ,take_of_length_le→kS,append_assoc→kX,getElem?_eq_some_iff→lu,size_toArray→lK,all_eq_true→lN,mem_cons→l5,map_cons→mf,length_eq_zero_iff→mh,drop_zero→mM,take_append_drop→mO,drop_succ_cons→mP,mem_of_find?_eq_some→mY,map_nil→ng
open Bool renaming and_eq_true→jJ
open ByteArray renaming size_extract→jP
open Go.World renaming setCell→j5,cell?_of_block→mX
open Array renaming length_toList→kH
open Go.AllReadyH renaming cons→lg,nil→lH
open Go.Region renaming ready→lI,wanted→ma
open Go.Act renaming put→mR
open Int renaming toNat_of_nonneg→ny
open Option renaming none→V,some→U
open Bool renaming true→R,false→O
open Go.Addr renaming mk→Z
open Decidable renaming decide→At
namespace Go.Proofs.YtamfcjmhnndbdaaGreatDoor
set_option linter.unusedVariables false
set_option linter.defProp false
set_option linter.unusedSimpArgs false
set_option maxRecDepth 100000
set_option maxHeartbeats 8000000
variable {α:Type}{oa:Option kW}{p:Prop}{e:jX}{c:oO}{P:lQ}{ops:Array lJ}{m:G8}{F:vS}
section
open Go.RowKit Go.Shelf
def XF(x:IL)(iv:jC)(w:M)(E:x.text.length<=jN)(hl:x.list=O):
  jG jy 206 #[nI #[G (txt x),nH x.list,iv]] w λe w'=>e=nK (nJ #[Y nN (pM x.text).1,Y X ((pM x.text).2:Nat)])/\jD w.heap.size w w':=by
 have hb:=nU.new w #[G (txt x),nH x.list,iv] IT;have A:=(jE w.heap.size w).alloc (jB _) (nL #[G (txt x),nH x.list,iv] IT);obtain⟨g,hg⟩:=og w.heap.size;rw[hg]at hb A|-;have C:=λW=>zP (txt x) W (by rw[uw];exact E)
 rw[D8]at C;unfold n2 at C;have C:=H C;have I:=H A;obtain⟨tx,li⟩:=x;dsimp only at*;subst hl;generalize txt ⟨tx,O⟩=J at*;generalize (pM tx).1=N at*;generalize (pM tx).2=ge at*;obtain⟨c0,c1⟩:=hb.a2;clear hb A E;go_in;go_upto_region 1 with fail;generalize w.alloc _=w1 at*;go_wp2_with fail;refine(C _).mono ?_;rintro e w2 ⟨rfl,rfl⟩;go_wp2;go_returns;exact⟨rfl,I.out⟩
abbrev NV(B:Nat)(w:M)(v:jC)(s:List (nS TL)):Prop:=oD.om w (λk=>k<B) v s
abbrev NW(B:Nat)(w:M)(v:jC)(s:List (nS IL)):Prop:=wO.om w (λk=>k<B) v s
def QD.below{S:Shape α}{B:Nat}{w w':M}{v:jC}{s:List (nS α)}(h:S.om w (λk=>k<B) v s)(hb:jD B w w'):S.om w' (λk=>k<B) v s:=h.keep hb.size (λ_ _ h=>h) λk _ hk=>hb.block k hk
def NV.at_{B:Nat}{w:M}{n cap:Nat}{s:List (nS TL)}(h:NV B w (u oa n cap) s){i:Nat}{x:nS TL}(A:s[i]? =U x):
  ∃b off ou cu,oa=U (Z b off V)/\b<B/\w.cell? (Z b (off+i*4) V)=U (Y X x.lab.kind)/\w.cell? (Z b (off+i*4+1) V)=U (Y X x.lab.size)/\
   w.cell? (Z b (off+i*4+2) V)=U (u ou x.sub.length cu)/\w.cell? (Z b (off+i*4+3) V)=U (Y X x.lab.tail)/\NV B w (u ou x.sub.length cu) x.sub:=by
 obtain⟨N,C,E,aa,ae,I⟩:=Shape.om.get h;cases E;obtain⟨b,off,ao,e,hb,J,ho,hc,hs⟩:=I i x A;obtain⟨ou,cu,rfl,_⟩:=Shape.om.get hs;exact⟨b,off,ou,cu,e,J,by simpa [oD,kK]using hc 0 nT,by simpa [oD,kK]using hc 1 nT,by simpa [oD,kK]using hc 2 nT,by simpa [oD,kK]using hc 3 nT,hs⟩
def NW.at_{B:Nat}{w:M}{n cap:Nat}{s:List (nS IL)}(h:NW B w (u oa n cap) s){i:Nat}{x:nS IL}(A:s[i]? =U x):
  ∃b off ou cu,oa=U (Z b off V)/\b<B/\w.cell? (Z b (off+i*3) V)=U (G (txt x.lab))/\w.cell? (Z b (off+i*3+1) V)=U (nH x.lab.list)/\
   w.cell? (Z b (off+i*3+2) V)=U (u ou x.sub.length cu)/\NW B w (u ou x.sub.length cu) x.sub/\x.lab.text.length<=jN:=by
 obtain⟨N,C,E,aa,ae,I⟩:=Shape.om.get h;cases E;obtain⟨b,off,ao,e,hb,J,ho,hc,hs⟩:=I i x A;obtain⟨ou,cu,rfl,_⟩:=Shape.om.get hs;exact⟨b,off,ou,cu,e,J,by simpa [wO,txt,kK]using hc 0 nT,by simpa [wO,kK]using hc 1 nT,by simpa [wO,kK]using hc 2 nT,hs,ho⟩
def NY(B b:Nat)(l:List Ax)(w:M)(e:Ending)(w':M):Prop:=e=nK (nJ #[])/\BF B b l w'/\jD B w w'/\KT w w'
structure L8(B b g:Nat)(t:nS TL)(x:IL)(tv iv:jC)(ts:List (nS TL))(xs:List (nS IL))(l:List Ax)(w W:M):Prop where
 be:jD B w W
 kt:KT w W
 bf:BF B b l W
 tt:NV B W tv ts
 ii:NW B W iv xs
 tb:xW W
 tc:W.heap[g]? =U (nL #[Y X t.lab.kind,Y X t.lab.size,tv,Y X t.lab.tail] G6 (0,0))
 ic:W.heap[g+1]? =U (nL #[G (txt x),nH x.list,iv] IT (0,0))
 lt:B<=g/\g+2<=W.heap.size
section
variable {B b g:Nat}{t:nS TL}{x:IL}{tv iv:jC}{ts:List (nS TL)}{xs:List (nS IL)}{l m:List Ax}{w W W':M}
def L8.new(hB:0<B)(ht:NV B w tv ts)(hi:NW B w iv xs)(hb:BF B b l w)(C:xW w)(A:B<=w.heap.size)(h:(w.alloc (nL #[Y X t.lab.kind,Y X t.lab.size,tv,Y X t.lab.tail] G6)).alloc (nL #[G (txt x),nH x.list,iv] IT)=W):
  L8 B b w.heap.size t x tv iv ts xs l w W:=by
 subst h;have E:=(jE w.heap.size w).alloc (jB _) (nL #[Y X t.lab.kind,Y X t.lab.size,tv,Y X t.lab.tail] G6);have a2:=E.alloc nX (nL #[G (txt x),nH x.list,iv] IT);have k:=nU.new (w.alloc (nL #[Y X t.lab.kind,Y X t.lab.size,tv,Y X t.lab.tail] G6)) #[G (txt x),nH x.list,iv] IT;rw[show(w.alloc (nL #[Y X t.lab.kind,Y X t.lab.size,tv,Y X t.lab.tail] G6)).heap.size=w.heap.size+1 by simp]at k;exact⟨a2.mono A,KT.of a2,hb.below a2,QD.below ht (a2.mono A),QD.below hi (a2.mono A),C.below (a2.mono A) hB,(nU.new w _ _).alloc _,k,A,nX⟩
def L8.below(hB:0<B)(h:L8 B b g t x tv iv ts xs l w W)(hb:jD W.heap.size W W'):L8 B b g t x tv iv ts xs l w W':=by
 have A:=h.lt;have q:=hb.mono (show B<=W.heap.size by omega);exact⟨h.be.trans q,h.kt.trans (KT.of hb),h.bf.below hb,QD.below h.tt q,QD.below h.ii q,h.tb.below q hB,by rw[hb.block g K];exact h.tc,by rw[hb.block (g+1) K];exact h.ic,A.1,jM A.2 hb.size⟩
def L8.wrote(hB:0<B)(h:L8 B b g t x tv iv ts xs l w W)(hb:jD B W W')(hk:KT W W')(A:BF B b m W'):L8 B b g t x tv iv ts xs m w W':=
 ⟨h.be.trans hb,h.kt.trans hk,A,QD.below h.tt hb,QD.below h.ii hb,h.tb.below hb hB,hk _ _ _ _ nT h.tc,hk _ _ _ _ nT h.ic,h.lt.1,jM h.lt.2 hb.size⟩
def L8.cells(h:L8 B b g t x tv iv ts xs l w W):W.cell? (Z g 0 V)=U (Y X t.lab.kind)/\W.cell? (Z g 1 V)=U (Y X t.lab.size)/\W.cell? (Z g 2 V)=U tv/\
  W.cell? (Z (g+1) 0 V)=U (G (txt x))/\W.cell? (Z (g+1) 1 V)=U (nH x.list)/\W.cell? (Z (g+1) 2 V)=U iv/\W.cell? (Z g 3 V)=U (Y X t.lab.tail):=by
 have A:nU W g _ _:=h.tc;have C:nU W (g+1) _ _:=h.ic;exact⟨A.cell 0,A.cell 1,A.cell 2,C.cell 0,C.cell 1,C.cell 2,A.cell 3⟩
def L8.put(hB:0<B)(h:L8 B b g t x tv iv ts xs l w W)(m:List Ax)(hlen:l.length+m.length<=100000000):
  jG jy 207 #[nG (U (Z b 0 V)),G ⟨m.toArray⟩] W λe W'=>(∃v,e=nK v)/\L8 B b g t x tv iv ts xs (l++m) w W':=
 (a1t B b l m W h.bf hlen (by have:=h.lt;omega)).mono λe W' ⟨A,C,E,I⟩=>⟨A,h.wrote hB E I C⟩
end
def VA(h:p:=by
 subst h;have hal:=(jE wr.heap.size wr).alloc (jB _) (nL #[G TX2,nH x.lab.list,u iou xn icu] IT);exact⟨HY.below hB hal,nU.new wr _ _,hal⟩):p:=h
def a1u(h:p:=by
 simp only[jY,kJ,mP,mM];repeat(go_big_quiet_step (fail))
 refine l7 ?_;intro kq;have hbd:jD wa.heap.size wa (wa.drewN kq):=⟨rfl,rfl,rfl,jB _,λ_ _=>rfl⟩;have HWB:=H (Q5.1.below hB hbd);have CZ:=H (CY _ HWB (Q5.2.2.trans (hbd.mono Q5.2.2.size)));clear hbd;go_wp2_with fail;refine(CZ).mono ?_;rintro e wz ⟨rfl,a9p,hbz,hkz⟩;have HZ:=H (HWB.wrote hB hbz hkz a9p);clear a9p hbz hkz;go_wp2;go_roundw;case rel=>exact⟨k+1,by go_num,K,H ⟨_,HZ.out,by rw[kX];exact HL2.out⟩⟩
 case measure=>simp[kC];omega):p:=h
def a1v(h:p:=by
 have q:=hb.mono (show B<=wr.heap.size by have:=HY.lt;omega);have h:=HIH.out x (kE hx) y W tou iou tcu icu l2 (QD.below hty q) (QD.below hix q) hW.bf hW.tb (FR HR hy2) hfy hxl (by have h1:=congrArg List.length hl2;have h2:=congrArg List.length Tp.out;have h3:=HL.out;simp only[jK]at h1 h2 h3;omega) (by have:=hW.lt;omega);rw[hyn,hxn,a4G]at h;exact h):p:=h
def a1w(h:p:=by
 obtain rfl:k=n:=K;obtain⟨l2,HY,hl2⟩:=HD.out;rw[List.drop_of_length_le (lZ HN.out)]at hl2;simp only[uM,List.append_nil]at hl2;have HQ:=H (jF HY hl2);clear HY hl2 HD;go_wp2_with fail;go_end0;rw[<-HP.out];exact⟨rfl,by rw[<-HQ.2];exact HQ.1.bf,HQ.1.be,HQ.1.kt⟩):p:=h
def Tq(h:p:=by
 obtain⟨y,hy,_⟩:=EF (k:=0) HFS rfl;simp[qm,mh.1 (HNT.trans h3)]at hy):p:=h
def a4H(B b:Nat)(hB:0<B)(x:nS IL):∀(t:nS TL)(w:M)(ot oi:Option kW)(ct ci:Nat)(l:List Ax),NV B w (u ot t.sub.length ct) t.sub->NW B w (u oi x.sub.length ci) x.sub->BF B b l w->xW w->
  t.all oJ=R->rH x t=R->x.lab.text.length<=jN->l.length+(wM x t).length<=100000000->B<=w.heap.size->
  jG jy 168 #[nG (U (Z b 0 V)),nI #[Y X t.lab.kind,Y X t.lab.size,u ot t.sub.length ct,Y X t.lab.tail],nI #[G (txt x.lab),nH x.lab.list,u oi x.sub.length ci]] w (NY B b (l++wM x t) w):=by
 induction x using nS.ind with
 |h a s bR=>
  intro t w ot oi ct ci l ht hi hbf aR bJ bS aV hlen bA;simp only[nS.rE,nS.o9]at hi aV|-;obtain⟨g,hg⟩:=og w.heap.size;have af:=H (λW=>L8.new (t:=t) (x:=a) (W:=W) hB ht hi hbf aR bA);rw[hg]at af;have bB:=bJ;have bT:rH (.node a s) t=(qX t a s.length&&sF s t 0):=rfl;rw[bT,jJ]at bS;obtain⟨hk,bC⟩:=bS;have HFS:=H bC;have HR:=H bJ;have bD:wM (.node a s) t=wU t a s.length++uM s t 0:=rfl;rw[bD]at hlen|-;have HIH:=H bR;obtain⟨⟨bU,aj,tl⟩,A⟩:=t;simp only[nS.all,jJ,oJ,qo,decide_eq_true_eq]at bB;obtain⟨bE,_⟩:=bB;have HL:=H hlen;have aW:=H hk;have dE:B<=g:=K;obtain⟨ag,aN⟩:=og (txt a);have hsz:ag.size=a.text.length:=by rw[<-aN,uw]
  have C:=H aN;have ay:=H hsz;obtain⟨aH,aX⟩:∃m,l++(wU (.node ⟨bU,aj,tl⟩ A) a s.length++uM s (.node ⟨bU,aj,tl⟩ A) 0)=m:=⟨_,rfl⟩;have Tp:=H aX;rw[aX,aN];obtain⟨n,hn⟩:=og s.length;obtain⟨az,aO⟩:=og A.length;simp only[nS.rE,nS.o9]at af|-;rw[hn,aO]at af|-;have HN:=H hn;have HNT:=H aO;obtain⟨cZ,bK⟩:=og (NY B b aH w);have HP:=H bK;rw[bK];have bV:=H aV;rw[aO]at bE;clear ht hi hbf aR bJ hk bC bT bD hlen bA aV bR aX aN hn aO bK hsz;rcases bE with⟨rfl,h2,h3,rfl⟩|⟨rfl,h2,aA,h3,rfl⟩|⟨rfl,h2,aA,h3,rfl⟩|⟨rfl,h2,aA,h3,rfl⟩|⟨rfl,rfl,h3,dF,dG⟩
  .have ah:=zB aW nT
   have aI:ag.size<=65536:=by have:=ay.out;omega
   have ax:=ah.2;obtain⟨sz,rfl⟩:∃sz:Nat,aj=sz:=⟨aj.toNat,K⟩;have aJ:1<=sz/\sz<=8:=K;have aP:=XE a.text sz K aJ.2;have hs:s=[]:=by
    cases s with
    |nil=>rfl
    |cons z s=>
     exact Tq
   subst hs;have Tp:jI (l++vL sz (pM a.text).1=aH):=H (by rw[<-Tp.out];simp[wU,uM]);have hlen:l.length+(vL sz (pM a.text).1).length<=100000000:=by have:=HL.out;simpa [wU,uM]using this
   have bz:=H (λW=>XF a (u oi n ci) W bV ax);rw[C.out]at bz;obtain⟨bL,bF⟩:=og ((pM a.text).1);obtain⟨ge,bG⟩:=og ((pM a.text).2);rw[bF]at aP hlen Tp bz;rw[bG]at bz;have bW:=H (λW=>vQ bL sz W aP.2 aJ.1 aJ.2 aP.1);obtain⟨df,aY⟩:∃m,(⟨(vL sz bL).toArray⟩:An)=m:=⟨_,rfl⟩;rw[aY]at bW;have bX:=H aY;clear h2 h3 ah bF bG aY aP aI ax;go_in;go_upto_region 1 with fail;generalize hW:(w.alloc _).alloc _=w1;rw[<-C.out]at hW;have J:=H (af _ hW);clear hW af;obtain⟨c0,c1,c2,E,N,aa,c3⟩:=J.cells;rw[C.out]at E;simp only[nS.o9]at c0 c1 c3;go_wp2_with fail;refine(bz _).mono ?_;rintro e w2 ⟨rfl,ai⟩;have ak:=H (J.below hB ai);clear ai c0 c1 c2 c3 E N aa;obtain⟨c0,c1,c2,E,N,aa,c3⟩:=ak.cells;rw[C.out]at E;simp only[nS.o9]at c0 c1 c3;go_wp2_with fail;refine(bW _).mono ?_;rintro e w3 ⟨rfl,bH⟩;have aK:=H (ak.below hB bH);clear bH c0 c1 c2 c3 E N aa;have au:jI (jG jy 207 #[nG (U (Z b 0 V)),G df] w3 _):=H (by rw[<-bX.out];exact aK.put hB (vL sz bL) hlen);go_wp2_with fail;refine(au).mono ?_;rintro e w4 ⟨⟨r,rfl⟩,aB⟩;have aL:=H aB;clear aB;go_wp2_with fail;go_end0;rw[<-HP.out];exact⟨rfl,by rw[<-Tp.out];exact aL.bf,aL.be,aL.kt⟩
  .have ah:=zB aW nT
   have aI:ag.size<=65536:=by have:=ay.out;omega
   have ax:=ah.2;have hs:s=[]:=by
    cases s with
    |nil=>rfl
    |cons z s=>
     exact Tq
   subst hs;have Tp:jI (l++a.text=aH):=H (by rw[<-Tp.out];simp[wU,uM]);have hlen:l.length+(a.text).length<=100000000:=by have:=HL.out;simpa [wU,uM]using this
   clear h2 aA h3 ah ax;go_in;go_upto_region 1 with fail;generalize hW:(w.alloc _).alloc _=w1;rw[<-C.out]at hW;have J:=H (af _ hW);clear hW af;obtain⟨c0,c1,c2,E,N,aa,c3⟩:=J.cells;rw[C.out]at E;simp only[nS.o9]at c0 c1 c3;have au:jI (jG jy 207 #[nG (U (Z b 0 V)),G ag] w1 _):=H (by rw[<-C.out];exact J.put hB a.text hlen);go_wp2_with fail;refine(au).mono ?_;rintro e w2 ⟨⟨r,rfl⟩,bI⟩;have ak:=H bI;clear bI;go_wp2_with fail;go_end0;rw[<-HP.out];exact⟨rfl,by rw[<-Tp.out];exact ak.bf,ak.be,ak.kt⟩
  .have ah:=zB aW nT
   have aI:ag.size<=65536:=by have:=ay.out;omega
   have ax:=ah.2;have hs:s=[]:=by
    cases s with
    |nil=>rfl
    |cons z s=>
     exact Tq
   subst hs;have Tp:jI (l++(vk ag.size++a.text)=aH):=H (by rw[<-Tp.out];rw[ay.out];simp[wU,uM]);have hlen:l.length+((vk ag.size++a.text)).length<=100000000:=by have:=HL.out;rw[ay.out];simpa [wU,uM]using this
   clear h2 aA h3 ah ax;have aQ:l.length+(vk ag.size).length<=100000000/\(l++vk ag.size).length+a.text.length<=100000000:=by simp only[jK]at hlen|-;omega
   obtain⟨bM,av⟩:∃m,(⟨(vk ag.size).toArray⟩:An)=m:=⟨_,rfl⟩;have aZ:=H av;have aM:=H (λW aR=>PH ag.size W K aR);rw[av]at aM;clear av hlen;go_in;go_upto_region 1 with fail;generalize hW:(w.alloc _).alloc _=w1;rw[<-C.out]at hW;have J:=H (af _ hW);clear hW af;obtain⟨c0,c1,c2,E,N,aa,c3⟩:=J.cells;rw[C.out]at E;simp only[nS.o9]at c0 c1 c3;have aC:=H (aM w1 J.tb);go_wp2_with fail;refine(aC).mono ?_;rintro e w2 ⟨rfl,ai⟩;have ak:=H (J.below hB ai);clear ai c0 c1 c2 c3 E N aa aM aC;have au:jI (jG jy 207 #[nG (U (Z b 0 V)),G bM] w2 _):=H (by rw[<-aZ.out];exact ak.put hB (vk ag.size) aQ.1);go_wp2_with fail;refine(au).mono ?_;rintro e w3 ⟨⟨r,rfl⟩,aD⟩;have aK:=H aD;clear aD;clear au;obtain⟨c0,c1,c2,E,N,aa,c3⟩:=aK.cells;rw[C.out]at E;simp only[nS.o9]at c0 c1 c3;have au:jI (jG jy 207 #[nG (U (Z b 0 V)),G ag] w3 _):=H (by rw[<-C.out];exact aK.put hB a.text aQ.2);go_wp2_with fail;refine(au).mono ?_;rintro e w4 ⟨⟨r,rfl⟩,aB⟩;have aL:=H aB;clear aB;go_wp2_with fail;go_end0;rw[<-HP.out];exact⟨rfl,by rw[<-Tp.out,<-kX];exact aL.bf,aL.be,aL.kt⟩
  .have bY:n<=1024:=by have:(s.length:Int)<=aj:=QC aW (.inl rfl);rw[HN.out]at this;omega
   have aQ:l.length+(vk n).length<=100000000:=by have:=HL.out;rw[HN.out]at this;simp[wU]at this;omega
   have Tp:jI (l++vk n++uM s (.node ⟨4,aj,0⟩ A) 0=aH):=H (by rw[<-Tp.out,HN.out];simp[wU]);have HL:jI (l.length+(vk n++uM s (.node ⟨4,aj,0⟩ A) 0).length<=100000000):=H (by have:=HL.out;rw[HN.out]at this;simpa [wU]using this);obtain⟨bM,av⟩:∃m,(⟨(vk n).toArray⟩:An)=m:=⟨_,rfl⟩;have aZ:=H av;have aM:=H (λW aR=>PH n W K aR);rw[av]at aM;clear av h2 aA h3;go_in;go_upto_region 1 with fail;generalize hW:(w.alloc _).alloc _=w1;rw[<-C.out]at hW;have J:=H (af _ hW);clear hW af;obtain⟨c0,c1,c2,E,N,aa,c3⟩:=J.cells;rw[C.out]at E;simp only[nS.o9]at c0 c1 c3;have aC:=H (aM w1 J.tb);go_wp2_with fail;refine(aC).mono ?_;rintro e w2 ⟨rfl,ai⟩;have ak:=H (J.below hB ai);clear ai c0 c1 c2 c3 E N aa aM aC;have au:jI (jG jy 207 #[nG (U (Z b 0 V)),G bM] w2 _):=H (by rw[<-aZ.out];exact ak.put hB (vk n) aQ);go_wp2_with fail;refine(au).mono ?_;rintro e w3 ⟨⟨r,rfl⟩,aD⟩;have aK:=H aD;clear aD;clear au;obtain⟨c0,c1,c2,E,N,aa,c3⟩:=aK.cells;rw[C.out]at E;simp only[nS.o9]at c0 c1 c3;go_wp2_with fail;clear c0 c1 c2 c3 E N aa J ak;go_loopw [64] (λiv bN=>∃k:Nat,iv=Y X k/\k<=n/\jI (∃l2,L8 B b g (.node ⟨4,aj,0⟩ A) a (u ot az ct) (u oi n ci) A s l2 w bN/\l2++uM (s.drop k) (.node ⟨4,aj,0⟩ A) k=aH)) (λiv _=>n -(kC iv).toNat);case atStart=>exact⟨0,rfl,K,H ⟨_,aK.out,by rw[mM];exact Tp.out⟩⟩
   case round=>
    obtain⟨k,rfl,hk,HD⟩:=hrel;by_cases c:k<n
    .obtain⟨x,hx⟩:∃x,s[k]? =U x:=⟨_,jL (by rw[HN.out];exact c)⟩
     obtain⟨y,hy,hfy⟩:=EF HFS hx;rw[mU]at hy;have hy2:A[0]? =U y:=hy;obtain⟨l2,HY,hl2⟩:=HD.out;rw[L6 hx hy]at hl2;obtain⟨tb,I,tou,tcu,rfl,bZ,aS,aT,y2,aU,hty⟩:=NV.at_ HY.tt hy2;simp only[Nat.zero_mul,nk]at aS aT y2 aU;obtain⟨bg,aF,iou,icu,rfl,cz,bq,bO,bu,hix,hxl⟩:=NW.at_ HY.ii hx;obtain⟨bP,hyn⟩:=og y.sub.length;obtain⟨xn,hxn⟩:=og x.sub.length;rw[hyn]at y2;rw[hxn]at bu;obtain⟨TX2,a4G⟩:=og (txt x.lab);rw[a4G]at bq;have aG:jI (∀W,wr.alloc (nL #[G TX2,nH x.lab.list,u iou xn icu] IT)=W->L8 B b g (.node ⟨4,aj,0⟩ A) a (u (U (Z tb I V)) az ct) (u (U (Z bg aF V)) n ci) A s l2 w W/\nU W wr.heap.size #[G TX2,nH x.lab.list,u iou xn icu] IT/\jD wr.heap.size wr W):=H λW h=>by
      exact VA
     have CY:jI (∀W,L8 B b g (.node ⟨4,aj,0⟩ A) a (u (U (Z tb I V)) az ct) (u (U (Z bg aF V)) n ci) A s l2 w W->jD wr.heap.size wr W->jG jy 168 #[nG (U (Z b 0 V)),nI #[Y X y.lab.kind,Y X y.lab.size,u tou bP tcu,Y X y.lab.tail],nI #[G TX2,nH x.lab.list,u iou xn icu]] W (NY B b (l2++wM x y) W)):=H λW hW hb=>by
      exact a1v
     have HL2:=H hl2;have cK:B<=wr.heap.size:=by have:=HY.lt;omega
     have ae:tb<wr.heap.size:=K;have bQ:0<az:=by rw[<-HNT.out];exact(lu.1 hy2).1
     clear HY hl2 hy hy2 hfy hix hty hx hxl;go_upto_region 16 with fail;generalize hW:wr.alloc _=wa;have Q5:=H (aG _ hW);clear hW aG;obtain⟨c0,c1,c2,E,N,aa,c3⟩:=Q5.1.cells;obtain⟨dh,dw,dx⟩:=Q5.2.1.a3;have dz:=(Q5.2.2.cell (p:=(Z tb I V)) ae).trans aS;have dA:=(Q5.2.2.cell (p:=(Z tb (I+1) V)) ae).trans aT;have dB:=(Q5.2.2.cell (p:=(Z tb (I+2) V)) ae).trans y2;have dD:=(Q5.2.2.cell (p:=(Z tb (I+3) V)) ae).trans aU;clear aS aT y2 aU bq bO bu;refine qh 6 nV nV ?_;exact a1u
    .exact a1w
  .have bY:n<=1024:=by have:s.length<=A.length:=QC aW (.inr rfl);rw[HNT.out,HN.out]at this;omega
   obtain⟨tl,rfl⟩:∃t:Nat,tl=t:=⟨tl.toNat,K⟩;go_in;go_upto_region 1 with fail;generalize hW:(w.alloc _).alloc _=w1;rw[<-C.out]at hW;have J:=H (af _ hW);clear hW af;obtain⟨c0,c1,c2,E,N,aa,c3⟩:=J.cells;rw[C.out]at E;simp only[nS.o9]at c0 c1 c3;go_wp2_with fail;clear c0 c1 c2 c3 E N aa;go_loopw [81] (λiv bN=>∃k:Nat,iv=Y X k/\k<=n/\jI (∃l2,L8 B b g (.node ⟨5,0,tl⟩ A) a (u ot az ct) (u oi n ci) A s l2 w bN/\l2++uM (s.drop k) (.node ⟨5,0,tl⟩ A) k=aH)) (λiv _=>n -(kC iv).toNat);case atStart=>exact⟨0,rfl,K,H ⟨_,J.out,by rw[<-Tp.out];simp[wU]⟩⟩
   case round=>
    obtain⟨k,rfl,hk,HD⟩:=hrel;by_cases c:k<n
    .obtain⟨x,hx⟩:∃x,s[k]? =U x:=⟨_,jL (by rw[HN.out];exact c)⟩
     obtain⟨y,hy,hfy⟩:=EF HFS hx;rw[mU]at hy;have hy2:A[k]? =U y:=hy;obtain⟨l2,HY,hl2⟩:=HD.out;rw[L6 hx hy]at hl2;obtain⟨tb,I,tou,tcu,rfl,bZ,aS,aT,y2,aU,hty⟩:=NV.at_ HY.tt hy2;obtain⟨bg,aF,iou,icu,rfl,cz,bq,bO,bu,hix,hxl⟩:=NW.at_ HY.ii hx;obtain⟨bP,hyn⟩:=og y.sub.length;obtain⟨xn,hxn⟩:=og x.sub.length;rw[hyn]at y2;rw[hxn]at bu;obtain⟨TX2,a4G⟩:=og (txt x.lab);rw[a4G]at bq;have aG:jI (∀W,wr.alloc (nL #[G TX2,nH x.lab.list,u iou xn icu] IT)=W->L8 B b g (.node ⟨5,0,tl⟩ A) a (u (U (Z tb I V)) az ct) (u (U (Z bg aF V)) n ci) A s l2 w W/\nU W wr.heap.size #[G TX2,nH x.lab.list,u iou xn icu] IT/\jD wr.heap.size wr W):=H λW h=>by
      exact VA
     have CY:jI (∀W,L8 B b g (.node ⟨5,0,tl⟩ A) a (u (U (Z tb I V)) az ct) (u (U (Z bg aF V)) n ci) A s l2 w W->jD wr.heap.size wr W->jG jy 168 #[nG (U (Z b 0 V)),nI #[Y X y.lab.kind,Y X y.lab.size,u tou bP tcu,Y X y.lab.tail],nI #[G TX2,nH x.lab.list,u iou xn icu]] W (NY B b (l2++wM x y) W)):=H λW hW hb=>by
      exact a1v
     have HL2:=H hl2;have cK:B<=wr.heap.size:=by have:=HY.lt;omega
     have ae:tb<wr.heap.size:=K;have bQ:k<az:=by rw[<-HNT.out];exact(lu.1 hy2).1
     clear HY hl2 hy hy2 hfy hix hty hx hxl;go_upto_region 22 with fail;generalize hW:wr.alloc _=wa;have Q5:=H (aG _ hW);clear hW aG;obtain⟨c0,c1,c2,E,N,aa,c3⟩:=Q5.1.cells;obtain⟨dh,dw,dx⟩:=Q5.2.1.a3;have dz:=(Q5.2.2.cell (p:=(Z tb (I+k*4) V)) ae).trans aS;have dA:=(Q5.2.2.cell (p:=(Z tb (I+k*4+1) V)) ae).trans aT;have dB:=(Q5.2.2.cell (p:=(Z tb (I+k*4+2) V)) ae).trans y2;have dD:=(Q5.2.2.cell (p:=(Z tb (I+k*4+3) V)) ae).trans aU;clear aS aT y2 aU bq bO bu;refine qh 7 nV nV ?_;exact a1u
    .exact a1w
def Tt(x:nS IL)(w:M)(o:Option kW)(c:Nat)(I:qF w (u o x.sub.length c) x.sub)(J:x.all p9=R):
  jG jy 167 #[nI #[G (txt x.lab),nH x.lab.list,u o x.sub.length c]] w λe w'=>e=nK (Y X (Gw x))/\jD w.heap.size w w':=by
 have E:=H (vF (T:=txt x.lab) (l:=x.lab.list) (t:=IT) I);have N:=H (λ(W:M) (h:qF W (u o x.sub.length c) x.sub)=>I1 205 x W _ h (.inr ⟨rfl,J⟩));obtain⟨g,hg⟩:=og w.heap.size;rw[hg]at E|-;generalize Gw x=sn at*;generalize Po x=ah at*;generalize si x=ai at*;clear I J;go_in;go_upto_region 1 with fail;generalize w.alloc _=w1 at*;obtain⟨A,ht1,hsz,c0,c1,c2,_⟩:=E.out _ rfl;have aa:=H (N _ ht1);have af:=H A;have ag:=H hsz;clear E ht1 A hsz N;go_wp2_with fail;refine aa.mono ?_;rintro e w2 ⟨rfl,C⟩;have ae:=H (af.trans (C.mono (by have:=ag.out;omega)));clear C c0 c1 c2;go_wp2;go_returns;exact⟨rfl,ae.out⟩
def GJ(t:nS TL):Bool:=nS.pF p0 t.sub&&qc t
def Aq(t:nS TL)(x:nS IL)(items:Int):An×Int:=
 if GJ t=R then if qY t x=0 then if items<(x.count:Int)then(⟨#[]⟩,4)else(⟨(wM x t).toArray⟩,0)else(⟨#[]⟩,qY t x)else(⟨#[]⟩,1)
def EG{t:nS TL}{x:nS IL}(h:qY t x=0):qc t=R/\si x=R/\rH x t=R:=by
 unfold qY at h;split at h
 .rename_i A
  split at h;.rename_i C;exact⟨A.1,A.2,C⟩
  .exact absurd h nT
 .exact absurd h nT
def QE{t:nS TL}(h:t.all oJ=R):t.lab.kind=1\/t.lab.kind=2\/t.lab.kind=3->t.lab.size<=65536:=by
 obtain⟨⟨A,C,tl⟩,ts⟩:=t;simp only[nS.all,jJ,oJ,qo,decide_eq_true_eq]at h;simp only[nS.o9];obtain⟨h,_⟩:=h;omega
mutual
def NZ:∀(x:nS IL)(t:nS TL),t.all oJ=R->rH x t=R->(wM x t).length<=70000*x.count
 | .node a s,t,aa,ae=>by
  have C:(qX t a s.length&&sF s t 0)=R:=ae;rw[jJ]at C;have ah:=VB s t 0 aa C.2;have ai:(wU t a s.length).length<=70000:=by
   have E:=QE aa;obtain⟨⟨A,af,tl⟩,ts⟩:=t;simp only[nS.o9]at E;show(if A=1 then vL af.toNat (pM a.text).1 else if A=2 then a.text else if A=3 then vk a.text.length++a.text else if A=4 then vk s.length else []).length<=70000;by_cases N:A=1;.rw[AC N,pY];have:=E (.inl N);omega
   rw[As N];by_cases I:A=2;.rw[AC I];have:=(zB C.1 (.inr (.inl I))).1;have:=E (.inr (.inl I));omega
   rw[As I];by_cases J:A=3;.rw[AC J,jK];have:=(zB C.1 (.inr (.inr J))).1;have:=E (.inr (.inr J));have:=UM a.text.length;omega
   rw[As J];split;.have:=UM s.length;omega
   .simp
  have ag:(nS.node a s).count=1+nS.oz s:=rfl;rw[wM,jK,ag];omega
def VB:∀(s:List (nS IL))(t:nS TL)(i:Nat),t.all oJ=R->sF s t i=R->(uM s t i).length<=70000*nS.oz s
 |[],_,_,_,_=>by simp[uM]
 |x::xs,t,i,E,A=>by
  simp only[sF,jJ]at A;have J:=VB xs t (i+1) E A.2;have I:nS.oz (x::xs)=x.count+nS.oz xs:=rfl;rw[uM,jK,I];cases C:qm t i with
  |none=>rw[C]at A;exact absurd A.1 nX
  |some y=>
   rw[C]at A;have hy:y.all oJ=R:=by
    unfold qm at C;split at C;.exact FR E C
    .exact FR E C
   have N:=NZ x y hy A.1;dsimp only;omega
end
def lpB{g:Nat}{c1 c2:Array jC}{C E:jX}{w W A:M}(h:nU W g c1 C/\nU W (g+1) c2 E/\jD g w W)(hb:jD W.heap.size W A):nU A g c1 C/\nU A (g+1) c2 E/\jD g w A:=
 ⟨Below.blk hb h.1 h.1.lt,Below.blk hb h.2.1 h.2.1.lt,h.2.2.trans (hb.mono (Nat.le_of_lt h.1.lt))⟩
def a4I(t:nS TL)(x:nS IL)(items:Int)(w:M)(ot oi:Option kW)(ct ci:Nat)(aH:o6 w (u ot t.sub.length ct) t.sub)(aI:qF w (u oi x.sub.length ci) x.sub)(aJ:x.lab.text.length<=jN)(bB:qK w)(bC:xW w):
  jG jy 118 #[nI #[Y X t.lab.kind,Y X t.lab.size,u ot t.sub.length ct,Y X t.lab.tail],nI #[G (txt x.lab),nH x.lab.list,u oi x.sub.length ci],Y X items] w (qi (Aq t x items).1 (Aq t x items).2 w):=by
 obtain⟨g,hg⟩:=og w.heap.size;have aK:=bB.lt;have aL:=bC.lt;have af:jI (∀W,(w.alloc (nL #[Y X t.lab.kind,Y X t.lab.size,u ot t.sub.length ct,Y X t.lab.tail] G6)).alloc (nL #[G (txt x.lab),nH x.lab.list,u oi x.sub.length ci] IT)=W->nU W g #[Y X t.lab.kind,Y X t.lab.size,u ot t.sub.length ct,Y X t.lab.tail] G6/\nU W (g+1) #[G (txt x.lab),nH x.lab.list,u oi x.sub.length ci] IT/\jD g w W):=H λW aa=>by
  subst aa;have bR:=(jE w.heap.size w).alloc (jB _) (nL #[Y X t.lab.kind,Y X t.lab.size,u ot t.sub.length ct,Y X t.lab.tail] G6);have bH:=nU.new (w.alloc (nL #[Y X t.lab.kind,Y X t.lab.size,u ot t.sub.length ct,Y X t.lab.tail] G6)) #[G (txt x.lab),nH x.lab.list,u oi x.sub.length ci] IT;rw[show(w.alloc (nL #[Y X t.lab.kind,Y X t.lab.size,u ot t.sub.length ct,Y X t.lab.tail] G6)).heap.size=g+1 by simp[hg]]at bH;exact⟨(hg▸nU.new w _ _:nU _ g _ _).alloc _,bH,hg▸bR.alloc nX _⟩
 rw[hg]at aK aL;have av:jI (∀W,jD g w W->o6 W (u ot t.sub.length ct) t.sub/\qF W (u oi x.sub.length ci) x.sub/\qK W/\xW W/\∀B,g<=B->NV B W (u ot t.sub.length ct) t.sub/\NW B W (u oi x.sub.length ci) x.sub):=H λW h=>by
  rw[<-hg]at h;exact⟨Shape.om.below aH h,Shape.om.below aI h,bB.below h (hg▸aK),bC.below h (hg▸aL),λB hB=>⟨Shape.om.keep aH h.size (λb hb _=>by show b<B;omega) (λb hb _=>h.block b hb),Shape.om.keep aI h.size (λb hb _=>by show b<B;omega) (λb hb _=>h.block b hb)⟩⟩
 have aG:=H (λ(W:M) (h:jD g w W)=>Fz t W _ (av W h).1 (av W h).2.2.1);have aM:=H (λ(W:M) (h:jD g w W)=>Du t x W _ _ (av W h).1 (av W h).2.1 aJ (av W h).2.2.1);have bI:=H (λ(W:M) (h:jD g w W) (bD:x.all p9=R)=>Tt x W oi ci (av W h).2.1 bD);have bJ:=H (λ(W:M) (h:jD g w W) (B b:Nat) (hB:g<=B) (hbf:BF B b [] W) (bK:B<=W.heap.size) (bD:t.all oJ=R) (bS:rH x t=R) (hl:(wM x t).length<=100000000)=>
  a4H B b K x t W ot oi ct ci [] ((av W h).2.2.2.2 B hB).1 ((av W h).2.2.2.2 B hB).2 hbf (av W h).2.2.2.1 bD bS aJ (by simpa using hl) bK)
 have aY:jI (GJ t=(nS.pF p0 t.sub&&qc t)):=H rfl;obtain⟨bL,aN⟩:=og (Aq t x items);have aU:=H aN;rw[aN];have aZ:∀(T:An)(er:Int) e bE,(e=nK (nJ #[G T,Y X er])/\jD g w bE)->qi T er w e bE:=λT er e bE h=>by unfold qi;rw[hg];exact h
 have aC:=H aZ;obtain⟨bT,bF⟩:=og (qi bL.1 bL.2 w);have aV:=H bF;rw[bF];clear aI aH aJ bB bC aK aL aN aZ bF;cases au:(nS.pF p0 t.sub&&qc t)with
 |false=>
  have ax:GJ t=O:=aY.trans au;have ay:=H ax;rw[au]at aG;clear ax au;go_in;go_upto_region 1 with fail;generalize aa:(w.alloc _).alloc _=w1;have A:=H (af _ aa);clear aa af;obtain⟨c0,c1,c2,c3⟩:=A.1.a4;obtain⟨C,E,I⟩:=A.2.1.a3;have ai:=H (aG w1 A.2.2);go_wp2_with fail;refine(ai).mono ?_;rintro e w2 ⟨rfl,J⟩;have ae:=H (lpB A J);clear c0 c1 c2 c3 C E I;clear J;go_wp2;try go_returns
  rw[<-aV.out,<-aU.out];unfold Aq;rw[As (by rw[ay.out];decide)];exact aC _ _ _ _ ⟨rfl,ae.2.2⟩
 |true=>
  have ax:GJ t=R:=aY.trans au;have ay:=H ax;rw[au]at aG;clear ax au;by_cases ag:qY t x=0
  .have aj:=H (EG ag)
   have aD:=H ag;rw[ag]at aM;have bg:Gw x=(x.count:Int):=by unfold Gw;rw[AC aj.2.1]
   have aF:=H (λ(W:M) (h:jD g w W)=>bI.out W h (zQ aj.2.1).1);rw[bg]at aF;clear ag bI bg;obtain⟨N,bG⟩:∃n:Int,(x.count:Int)=n:=⟨_,rfl⟩;rw[bG]at aF;have bM:=H bG;clear bG;by_cases hit:items<N
   .have bU:At (items<N)=R:=nY
    have aO:=H hit;clear hit;go_in;go_upto_region 1 with fail;generalize aa:(w.alloc _).alloc _=w1;have A:=H (af _ aa);clear aa af;obtain⟨c0,c1,c2,c3⟩:=A.1.a4;obtain⟨C,E,I⟩:=A.2.1.a3;have ai:=H (aG w1 A.2.2);go_wp2_with fail;refine(ai).mono ?_;rintro e w2 ⟨rfl,J⟩;have ae:=H (lpB A J);clear c0 c1 c2 c3 C E I;clear J;obtain⟨c0,c1,c2,c3⟩:=ae.1.a4;obtain⟨C,E,I⟩:=ae.2.1.a3;have az:=H (aM w2 ae.2.2);go_wp2_with fail;refine(az).mono ?_;rintro e w3 ⟨rfl,ah⟩;have ak:=H (lpB ae ah);clear c0 c1 c2 c3 C E I;clear ah;obtain⟨c0,c1,c2,c3⟩:=ak.1.a4;obtain⟨C,E,I⟩:=ak.2.1.a3;have aP:=H (aF w3 ak.2.2);go_wp2_with fail;refine(aP).mono ?_;rintro e w4 ⟨rfl,aA⟩;have aW:=H (lpB ak aA);clear c0 c1 c2 c3 C E I;clear aA;go_wp2;try go_returns
    rw[<-aV.out,<-aU.out];unfold Aq;rw[AC ay.out,AC aD.out,AC (by rw[bM.out];exact aO.out)];exact aC _ _ _ _ ⟨rfl,aW.2.2⟩
   .have bU:At (items<N)=O:=nY
    have aO:=H hit;clear hit;go_in;go_upto_region 1 with fail;generalize aa:(w.alloc _).alloc _=w1;have A:=H (af _ aa);clear aa af;obtain⟨c0,c1,c2,c3⟩:=A.1.a4;obtain⟨C,E,I⟩:=A.2.1.a3;have ai:=H (aG w1 A.2.2);go_wp2_with fail;refine(ai).mono ?_;rintro e w2 ⟨rfl,J⟩;have ae:=H (lpB A J);clear c0 c1 c2 c3 C E I;clear J;obtain⟨c0,c1,c2,c3⟩:=ae.1.a4;obtain⟨C,E,I⟩:=ae.2.1.a3;have az:=H (aM w2 ae.2.2);go_wp2_with fail;refine(az).mono ?_;rintro e w3 ⟨rfl,ah⟩;have ak:=H (lpB ae ah);clear c0 c1 c2 c3 C E I;clear ah;obtain⟨c0,c1,c2,c3⟩:=ak.1.a4;obtain⟨C,E,I⟩:=ak.2.1.a3;have aP:=H (aF w3 ak.2.2);go_wp2_with fail;refine(aP).mono ?_;rintro e w4 ⟨rfl,aA⟩;have aW:=H (lpB ak aA);clear c0 c1 c2 c3 C E I;clear aA;have bN:jI (∀W,w4.alloc (nL #[nG V,u V 0 0] 204)=W->jD w4.heap.size w4 W/\BF w4.heap.size w4.heap.size [] W/\W.heap.size=w4.heap.size+1):=H λW h=>by
     subst h;exact⟨(jE w4.heap.size w4).alloc (jB _) _,.inl ⟨jB _,u V 0 0,nU.new w4 _ _,World.ownsRow_nil _ _ _ _,by simp[kz]⟩,nX⟩
    go_upto_region 9 with fail;generalize aa:w4.alloc _=w5;obtain⟨bq,hbf,bu⟩:=bN.out _ aa;have aX:=H (lpB aW bq);have aQ:g<=w4.heap.size:=Nat.le_of_lt aW.1.lt;have bO:jI ((wM x t).length<=100000000):=H (by have bY:=NZ x t (zi aj.1) aj.2.2;have bZ:x.count<=1024:=by{have:=aj.2.1;unfold si at this;simp only[jJ,decide_eq_true_eq]at this;exact this.2};omega);have bz:=H (bJ w5 aX.2.2 w4.heap.size w4.heap.size aQ hbf K (zi aj.1) aj.2.2 bO);have aR:=H (jF bu aQ);clear aa bN bq hbf bu aQ bJ;obtain⟨c0,c1,c2,c3⟩:=aX.1.a4;obtain⟨C,E,I⟩:=aX.2.1.a3;go_wp2_with fail;refine bz.mono ?_;rintro e bP ⟨rfl,aS,aT,_⟩;have bV:=H (a4D w4.heap.size w4.heap.size (wM x t) bP aS (by have:=aT.size;have:=aR.out;omega));have bW:jI (jD g w bP):=H (aX.2.2.trans (aT.mono aR.2));clear aS aT bz;clear c0 c1 c2 c3 C E I;go_wp2_with fail;refine bV.mono ?_;rintro e cz ⟨rfl,bA⟩;have bX:=H (bW.trans (bA.mono aR.2));clear bA;go_wp2;try go_returns
    rw[<-aV.out,<-aU.out];unfold Aq;rw[AC ay.out,AC aD.out,As (by rw[bM.out];have:=aO.out;omega)];exact aC _ _ _ _ ⟨rfl,bX.out⟩
  .have aD:=H ag
   obtain⟨fe,aB⟩:=og (qY t x);have bQ:=H aB;rw[aB]at aM ag;have cK:((fe:Int)==0)=O:=by rw[beq_eq_false_iff_ne];exact ag
   clear ag aB;go_in;go_upto_region 1 with fail;generalize aa:(w.alloc _).alloc _=w1;have A:=H (af _ aa);clear aa af;obtain⟨c0,c1,c2,c3⟩:=A.1.a4;obtain⟨C,E,I⟩:=A.2.1.a3;have ai:=H (aG w1 A.2.2);go_wp2_with fail;refine(ai).mono ?_;rintro e w2 ⟨rfl,J⟩;have ae:=H (lpB A J);clear c0 c1 c2 c3 C E I;clear J;obtain⟨c0,c1,c2,c3⟩:=ae.1.a4;obtain⟨C,E,I⟩:=ae.2.1.a3;have az:=H (aM w2 ae.2.2);go_wp2_with fail;refine(az).mono ?_;rintro e w3 ⟨rfl,ah⟩;have ak:=H (lpB ae ah);clear c0 c1 c2 c3 C E I;clear ah;go_wp2;try go_returns
   rw[<-aV.out,<-aU.out];unfold Aq;rw[AC ay.out,As aD.out,bQ.out];exact aC _ _ _ _ ⟨rfl,ak.2.2⟩
end
section
open Go.RowKit
abbrev FnT:jX:=121
structure KS(g:Nat)(w:M)(t:TL)(tv:jC)(a:IL)(iv:jC)(deep most:Int)(s:An)(W:M):Prop where
 t:nU W g #[Y X t.kind,Y X t.size,tv,Y X t.tail] 63
 x:nU W (g+1) #[G (txt a),nH a.list,iv] IT
 d:nU W (g+2) #[Y X deep] 3
 m:nU W (g+3) #[Y X most] 3
 o:nU W (g+4) #[G s] 9
 f:nU W (g+5) #[.func (.func 156) #[] #[nG (U (Z g 0 V)),nG (U (Z (g+1) 0 V))],
  .func (.func 158) #[] #[nG (U (Z (g+1) 0 V)),nG (U (Z (g+2) 0 V)),nG (U (Z (g+3) 0 V))],
  .func (.func 160) #[] #[nG (U (Z (g+1) 0 V)),nG (U (Z (g+4) 0 V))]] FnT
 b:jD g w W
section
variable {g:Nat}{w W W':M}{t:TL}{tv iv:jC}{a:IL}{deep most:Int}{s:An}
def KS.below(h:KS g w t tv a iv deep most s W)(hb:jD W.heap.size W W'):KS g w t tv a iv deep most s W':=
 ⟨Below.blk hb h.t h.t.lt,Below.blk hb h.x h.x.lt,Below.blk hb h.d h.d.lt,Below.blk hb h.m h.m.lt,Below.blk hb h.o h.o.lt,Below.blk hb h.f h.f.lt,h.b.trans (hb.mono (by have:=h.t.lt;omega))⟩
def KS.put(h:KS g w t tv a iv deep most s W)(A:An):KS g w t tv a iv deep most A (W.setCell (Z (g+4) 0 V) (G A)):=
 have o:∀{n:Nat}{cs:Array jC}{t:jX},nU W n cs t->n≠g+4->nU (W.setCell (Z (g+4) 0 V) (G A)) n cs t:=λh hn=>h.setOther (a:=(Z (g+4) 0 V)) hn _
 ⟨o h.t K,o h.x K,o h.d K,o h.m K,h.o.set 0 _,o h.f K,h.b.setCell (p:=(Z (g+4) 0 V)) nX _⟩
end
def a7u(t:nS TL)(x:nS IL)(w:M)(tv iv:jC)(A:o6 w tv t.sub)(C:qF w iv x.sub)(I:x.lab.text.length<=jN)(J:qK w)(deep most:Int)(s:An)(W:M)(h:KS w.heap.size w t.lab tv x.lab iv deep most s W):
  jG jy 156 #[nG (U (Z w.heap.size 0 V)),nG (U (Z (w.heap.size+1) 0 V))] W λe w'=>e=nK (Y X (qY t x))/\KS w.heap.size w t.lab tv x.lab iv deep most s w':=by
 have N:=H (Du t x W tv iv (Shape.om.below A h.b) (Shape.om.below C h.b) I (J.below h.b J.lt));have ad:=H h;obtain⟨t0,ae,af,t3⟩:=h.t.a4;obtain⟨ag,ah,ai⟩:=h.x.a3;clear h A C I J;generalize qY t x=E at*;generalize w.heap.size=g at*;go_in;go_wp2_with fail;refine N.mono ?_;rintro e w2 ⟨rfl,hb⟩;have aa:=H (ad.below hb);clear hb;go_wp2;go_returns;exact⟨rfl,aa.out⟩
def a7v(t:nS TL)(x:nS IL)(w:M)(tv iv:jC)(A:qF w iv x.sub)(deep most:Int)(s:An)(W:M)(h:KS w.heap.size w t.lab tv x.lab iv deep most s W):
  jG jy 158 #[nG (U (Z (w.heap.size+1) 0 V)),nG (U (Z (w.heap.size+2) 0 V)),nG (U (Z (w.heap.size+3) 0 V))] W λe w'=>e=nK (Y X (wY x deep most))/\KS w.heap.size w t.lab tv x.lab iv deep most s w':=by
 have C:=H (WB x deep most W iv (Shape.om.below A h.b));have ad:=H h;obtain⟨J,N,aa⟩:=h.x.a3;have ae:=h.d.c0;have af:=h.m.c0;clear h A;generalize wY x deep most=E at*;generalize w.heap.size=g at*;go_in;go_wp2_with fail;refine C.mono ?_;rintro e w2 ⟨rfl,hb⟩;have I:=H (ad.below hb);clear hb;go_wp2;go_returns;exact⟨rfl,I.out⟩
def Cn(x:nS IL):An:=if si x=R then⟨(enc x).toArray⟩else⟨#[]⟩
def KU(x:nS IL):Int:=if si x=R then 0 else 1
def a7w(t:nS TL)(x:nS IL)(w:M)(tv iv:jC)(A:qF w iv x.sub)(C:x.lab.text.length<=jN)(I:∀W,jD w.heap.size w W->jG jy 161 #[nI #[G (txt x.lab),nH x.lab.list,iv]] W λe w'=>e=nK (nJ #[G (Cn x),Y X (KU x)])/\jD W.heap.size W w')(deep most:Int)(s:An)(W:M)(h:KS w.heap.size w t.lab tv x.lab iv deep most s W):
  jG jy 160 #[nG (U (Z (w.heap.size+1) 0 V)),nG (U (Z (w.heap.size+4) 0 V))] W λe w'=>e=nK (Y X (KU x))/\KS w.heap.size w t.lab tv x.lab iv deep most (Cn x) w':=by
 have N:=H (I W h.b);have ad:=H h;obtain⟨aa,ae,af⟩:=h.x.a3;clear h A C I;generalize KU x=E at*;generalize Cn x=S at*;generalize w.heap.size=g at*;go_in;go_wp2_with fail;refine N.mono ?_;rintro e w2 ⟨rfl,hb⟩;have J:=H (ad.below hb);obtain⟨o0,ag⟩:=J.o.b1;clear hb;go_wp2;go_returns;exact⟨rfl,J.put S⟩
def yM(t:nS TL)(x:nS IL)(deep most:Int):Int:=if qY t x≠0 then qY t x else if wY x deep most≠0 then wY x deep most else KU x
def a7x{w w1 w2 w3 w4 w5 W:M}{t:TL}{tv iv:jC}{a:IL}{deep most:Int}(e1:w.alloc (nL #[Y X t.kind,Y X t.size,tv,Y X t.tail] 63)=w1)(e2:w1.alloc (nL #[G (txt a),nH a.list,iv] IT)=w2)(e3:w2.alloc (nL #[Y X deep] 3)=w3)(e4:w3.alloc (nL #[Y X most] 3)=w4)(e5:w4.alloc (nL #[G ⟨#[]⟩] 9)=w5)(N:w5.alloc (nL #[.func (.func 156) #[] #[nG (U (Z w.heap.size 0 V)),nG (U (Z (w.heap.size+1) 0 V))],
  .func (.func 158) #[] #[nG (U (Z (w.heap.size+1) 0 V)),nG (U (Z (w.heap.size+2) 0 V)),nG (U (Z (w.heap.size+3) 0 V))],
  .func (.func 160) #[] #[nG (U (Z (w.heap.size+1) 0 V)),nG (U (Z (w.heap.size+4) 0 V))]] FnT)=W):KS w.heap.size w t tv a iv deep most ⟨#[]⟩ W/\w5.heap.size=w.heap.size+5:=by
 have aa:w1.heap.size=w.heap.size+1:=by rw[<-e1];simp
 have ae:w2.heap.size=w.heap.size+2:=by rw[<-e2];simp[aa]
 have z3:w3.heap.size=w.heap.size+3:=by rw[<-e3];simp[ae]
 have z4:w4.heap.size=w.heap.size+4:=by rw[<-e4];simp[z3]
 have z5:w5.heap.size=w.heap.size+5:=by rw[<-e5];simp[z4]
 have b1:jD w.heap.size w w1:=by rw[<-e1];exact(jE _ _).alloc (jB _) _
 have ag:jD w1.heap.size w1 w2:=by rw[<-e2];exact(jE _ _).alloc (jB _) _
 have b3:jD w2.heap.size w2 w3:=by rw[<-e3];exact(jE _ _).alloc (jB _) _
 have b4:jD w3.heap.size w3 w4:=by rw[<-e4];exact(jE _ _).alloc (jB _) _
 have ah:jD w4.heap.size w4 w5:=by rw[<-e5];exact(jE _ _).alloc (jB _) _
 have b6:jD w5.heap.size w5 W:=by rw[<-N];exact(jE _ _).alloc (jB _) _
 have A:=nU.new w #[Y X t.kind,Y X t.size,tv,Y X t.tail] 63;have C:=nU.new w1 #[G (txt a),nH a.list,iv] IT;have E:=nU.new w2 #[Y X deep] 3;have I:=nU.new w3 #[Y X most] 3;have J:=nU.new w4 #[G ⟨#[]⟩] 9
 have af:=nU.new w5 #[.func (.func 156) #[] #[nG (U (Z w.heap.size 0 V)),nG (U (Z (w.heap.size+1) 0 V))],
  .func (.func 158) #[] #[nG (U (Z (w.heap.size+1) 0 V)),nG (U (Z (w.heap.size+2) 0 V)),nG (U (Z (w.heap.size+3) 0 V))],
  .func (.func 160) #[] #[nG (U (Z (w.heap.size+1) 0 V)),nG (U (Z (w.heap.size+4) 0 V))]] FnT
 rw[e1]at A;rw[e2,aa]at C;rw[e3,ae]at E;rw[e4,z3]at I;rw[e5,z4]at J;rw[N,z5]at af;have c5:jD w4.heap.size w4 W:=ah.trans (b6.mono K);have c4:jD w3.heap.size w3 W:=b4.trans (c5.mono K);have c3:jD w2.heap.size w2 W:=b3.trans (c4.mono K);have c2:jD w1.heap.size w1 W:=ag.trans (c3.mono K);exact⟨⟨Below.blk c2 A A.lt,Below.blk c3 C C.lt,Below.blk c4 E E.lt,Below.blk c5 I I.lt,Below.blk b6 J J.lt,af,b1.trans (c2.mono K)⟩,z5⟩
def a1x(t:nS TL)(x:nS IL)(w:M)(tv iv:jC)(E:o6 w tv t.sub)(C:qF w iv x.sub)(aa:x.lab.text.length<=jN)(au:∀W,jD w.heap.size w W->jG jy 161 #[nI #[G (txt x.lab),nH x.lab.list,iv]] W λe w'=>e=nK (nJ #[G (Cn x),Y X (KU x)])/\jD W.heap.size W w')(av:qK w)(deep most:Int):
  jG jy 116 #[nI #[Y X t.lab.kind,Y X t.lab.size,tv,Y X t.lab.tail],nI #[G (txt x.lab),nH x.lab.list,iv],Y X deep,Y X most] w
   λe w'=>e=nK (nJ #[G (if yM t x deep most=0 then Cn x else⟨#[]⟩),Y X (yM t x deep most)])/\jD w.heap.size w w':=by
 have ag:jI (∀w5 W,(((((w.alloc (nL #[Y X t.lab.kind,Y X t.lab.size,tv,Y X t.lab.tail] 63)).alloc (nL #[G (txt x.lab),nH x.lab.list,iv] IT)).alloc (nL #[Y X deep] 3)).alloc (nL #[Y X most] 3)).alloc (nL #[G ⟨#[]⟩] 9))=w5->
   w5.alloc (nL #[.func (.func 156) #[] #[nG (U (Z w.heap.size 0 V)),nG (U (Z (w.heap.size+1) 0 V))],
  .func (.func 158) #[] #[nG (U (Z (w.heap.size+1) 0 V)),nG (U (Z (w.heap.size+2) 0 V)),nG (U (Z (w.heap.size+3) 0 V))],
  .func (.func 160) #[] #[nG (U (Z (w.heap.size+1) 0 V)),nG (U (Z (w.heap.size+4) 0 V))]] FnT)=W->w5.heap.size=w.heap.size+5/\jG jy 155 #[u (U (Z w5.heap.size 0 V)) 3 3] W λe ah=>e=nK (Y X (yM t x deep most))/\jD w.heap.size w ah/\
    (yM t x deep most=0->ah.cell? (Z (w.heap.size+4) 0 V)=U (G (Cn x)))):=H λw5 W aC aD=>by
  obtain⟨hI,J⟩:=a7x (t:=t.lab) (tv:=tv) (iv:=iv) (a:=x.lab) (deep:=deep) (most:=most) rfl rfl rfl rfl aC aD;refine⟨J,?_⟩;rw[J];obtain⟨A,ai,aj,ak,ax⟩:∃A:Nat->An,A 0=⟨#[]⟩/\A 1=⟨#[]⟩/\A 2=⟨#[]⟩/\A 3=Cn x:=⟨λk=>if k=3 then Cn x else⟨#[]⟩,As nT,As nT,As nT,AC rfl⟩;have aF:∀W,KS w.heap.size w t.lab tv x.lab iv deep most (A 0) W->jG jy 156 #[nG (U (Z w.heap.size 0 V)),nG (U (Z (w.heap.size+1) 0 V))] W λe w'=>e=nK (Y X (qY t x))/\KS w.heap.size w t.lab tv x.lab iv deep most (A 1) w':=λW h=>by
   rw[ai]at h;rw[aj];exact a7u t x w tv iv E C aa av deep most _ W h
  have aG:∀W,KS w.heap.size w t.lab tv x.lab iv deep most (A 1) W->jG jy 158 #[nG (U (Z (w.heap.size+1) 0 V)),nG (U (Z (w.heap.size+2) 0 V)),nG (U (Z (w.heap.size+3) 0 V))] W λe w'=>e=nK (Y X (wY x deep most))/\KS w.heap.size w t.lab tv x.lab iv deep most (A 2) w':=λW h=>by
   rw[aj]at h;rw[ak];exact a7v t x w tv iv C deep most _ W h
  have aH:∀W,KS w.heap.size w t.lab tv x.lab iv deep most (A 2) W->jG jy 160 #[nG (U (Z (w.heap.size+1) 0 V)),nG (U (Z (w.heap.size+4) 0 V))] W λe w'=>e=nK (Y X (KU x))/\KS w.heap.size w t.lab tv x.lab iv deep most (A 3) w':=λW h=>by
   rw[ak]at h;rw[ax];exact a7w t x w tv iv C aa au deep most _ W h
  rw[<-ai]at hI;clear ai aj ak;refine(Pp W _ _ _ (w.heap.size+5) FnT (qY t x) (wY x deep most) (KU x) (λk W=>KS w.heap.size w t.lab tv x.lab iv deep most (A k) W) (λk W h=>KS.f h) hI aF (λ_=>aG) (λ_ _=>aH)).mono ?_;rintro e ah ⟨rfl,N⟩;refine⟨rfl,N.b,λh0=> ?_⟩;unfold yM at h0;by_cases c1:qY t x≠0;.rw[AC c1]at h0;exact absurd h0 c1
  .by_cases c2:wY x deep most≠0
   .rw[As c1,AC c2]at h0;exact absurd h0 c2
   .rw[As c1,As c2]at N
    rw[ax]at N;exact N.o.cell 0
 obtain⟨ot,ct,rfl,_,_⟩:=E.slice;obtain⟨oi,ci,rfl,_,_⟩:=oo.slice C;obtain⟨ar,ay⟩:=og (yM t x deep most);obtain⟨S,az⟩:=og (Cn x);rw[ay,az]at ag|-;clear ay az E C au av;go_in;go_upto_region 2 with fail;generalize ae:World.alloc (World.alloc _ _) _=w5;obtain⟨J,hcall⟩:=ag.out w5 _ ae rfl;rw[J]at hcall;have aA:=H hcall;clear hcall ag ae;rw[show w.heap.size+1+1+1+1=w.heap.size+4 from rfl,show w.heap.size+1+1+1=w.heap.size+3 from rfl,show w.heap.size+1+1=w.heap.size+2 from rfl];go_wp2_with fail;refine aA.mono ?_;rintro e aI ⟨rfl,af,I⟩;have aB:=H af;clear af aA;by_cases c:ar=0
 .have o0:=I c
  subst c;clear I;go_wp2;go_returns;exact⟨rfl,aB.out⟩
 .have aJ:(ar !=0)=R:=by simp[c]
  have aK:=H c;clear c I;go_wp2;go_returns;exact⟨rfl,aB.out⟩
structure zF where
 iv:jC
 s:List (nS IL)
 bv:jC
 l:List Ax
 B:Nat
def NI(x:zF):List jC:=[x.iv,x.bv]
def Cf(x:zF):(NI x).length=2:=rfl
abbrev LT:jX:=244
abbrev U8:jX:=5
def QF:LT≠U8:=nT
def a7y:xZ jy 245 LT 2:=⟨Tryz.underlying245,⟨.agg #[.slice V 0 0,.slice V 0 0],48,by
 obtain⟨i,A,C,E,I⟩:=info_parts (show(Tryz.prog.info? LT).map (λi=>(i.zero,i.size,i.bytes))=U (U (nI #[u V 0 0,u V 0 0]),2,48)by kernel_rfl);exact⟨i,A,C,E,I,nT,rfl⟩⟩,nT⟩
def oI.VC{w:M}{B:Nat}{v:jC}{l:List Ax}(h:oI w B e v l):∀b,v.ownBlock=U b->B<=b/\∃cs,nU w b cs e:=by
 rcases h.2 with⟨rfl,_⟩|⟨g,cap,A,rfl,hb,hg,_⟩
 .intro b h;cases h
 .intro b h;cases h;exact⟨hb,A,hg⟩
def oI.keep{w w':M}{B:Nat}{v:jC}{l:List Ax}(h:oI w B e v l)(hk:∀b cs,v.ownBlock=U b->nU w b cs e->w'.heap[b]? =w.heap[b]?):oI w' B e v l:=by
 refine⟨h.1,?_⟩;rcases h.2 with I|⟨g,cap,A,C,hg,E,r⟩
 .exact .inl I
 .refine .inr ⟨g,cap,A,C,hg,?_,r⟩
  rw[hk g A (by rw[C];rfl) E];exact E
def oI.slice{w:M}{B:Nat}{v:jC}{l:List Ax}(h:oI w B e v l):∃oa cap,v=u oa l.length cap:=by
 rcases h.2 with⟨rfl,h0⟩|⟨g,cap,A,rfl,_⟩
 .exact⟨V,0,by rw[h0]⟩
 .exact⟨_,cap,rfl⟩
def oI.far{w w':M}{B:Nat}{v:jC}{l:List Ax}(h:oI w B U8 v l)(hg:w.grownBy w' v.ownBlock):∀c,c<w.heap.size->(c<B\/∃cs,nU w c cs LT)->w'.heap[c]? =w.heap[c]? :=λc hc A=>by
 refine hg.block c hc λe=> ?_
 obtain⟨I,cs,C⟩:=h.VC c e.symm;rcases A with A|⟨E,A⟩
 .omega
 .unfold nU at C A
  rw[C]at A;injection A with A
  injection A with _ A _
  exact QF A.symm
def oI.a7z{w w':M}{B:Nat}{v:jC}{l:List Ax}(h:oI w B U8 v l)(hg:w.grownBy w' v.ownBlock){c:Nat}{cs:Array jC}{t:jX}(hb:nU w c cs t)(ht:t≠U8):w'.heap[c]? =w.heap[c]? :=by
 refine hg.block c hb.lt λe=> ?_
 obtain⟨_,C,A⟩:=h.VC c e.symm;unfold nU at A hb;rw[A]at hb;injection hb with hb
 injection hb with _ hb _
 exact ht hb.symm
def L9(w:M)(B1:Nat):Nat->List zF->Prop
 |_,[]=>True
 |hi,x::xs=>B1<=x.B/\x.B<=hi/\oI w x.B U8 x.bv x.l/\(∀b,x.bv.ownBlock=U b->b<hi)/\oo w (λc=>c<B1) x.iv x.s/\L9 w B1 x.B xs
def L9.keep{w w':M}{B1:Nat}(hs:w.heap.size<=w'.heap.size)(C:∀c,c<w.heap.size->c<B1->w'.heap[c]? =w.heap[c]?):∀{st:List zF}{hi A:Nat},L9 w B1 hi st->hi<=A->
  (∀c cs,c<hi->nU w c cs U8->w'.heap[c]? =w.heap[c]?)->L9 w' B1 A st
 |[],_,_,_,_,_=>trivial
 |x::xs,hi,A,⟨E,a2,a3,a4,a5,a6⟩,J,hk=>
  ⟨E,K,a3.keep λb cs hb hB=>hk b cs (a4 b hb) hB,λb hb=>by have:=a4 b hb;omega,Shape.om.keep a5 hs (λ_ _ h=>h) λc hc I=>C c hc I,
   L9.keep hs C a6 (jB _) λc cs hc hB=>hk c cs K hB⟩
structure xy(w1 w:M)(B1:Nat)(vr:jC)(st:List zF):Prop where
 row:qd NI 2 w B1 LT vr st.reverse
 LC:L9 w B1 w.heap.size st
 ql:jD B1 w1 w
 hB:B1<=w.heap.size
def yh{w1 w:M}{B1:Nat}{vr:jC}{x:zF}{xs:List zF}{N:Nat}(h:xy w1 w B1 vr (x::xs))(aa:xs.length=N):∃go C,vr=u (U (Z go 0 V)) (N+1) C/\
  w.cell? (Z go (N*2) V)=U x.iv/\w.cell? (Z go (N*2+1) V)=U x.bv/\w.frozen? (Z go (N*2) V)=O/\w.frozen? (Z go (N*2+1) V)=O/\N+1<=C:=by
 obtain⟨oa,C,E⟩:=h.row.slice;have ae:(x::xs).reverse.length=N+1:=by simp[aa]
 rw[ae]at E;subst E;obtain⟨go,rfl,_,_,_,J,A,I⟩:=qd.at_ h.row Cf (i:=N) (y:=x) (by simp[<-aa]);exact⟨go,C,rfl,A 0 nT,A 1 nT,I _,I _,J⟩
def rev_at{x:α}{xs:List α}{N:Nat}(A:xs.length=N):(x::xs).reverse[N]? =U x:=by simp[<-A]
def VD{x y:α}{xs:List α}{N:Nat}(A:xs.length=N):(x::xs).reverse.set N y=(y::xs).reverse:=by simp[<-A]
section
variable {w1 w w2:M}{B1:Nat}{x:zF}{xs:List zF}{N go cr:Nat}
def FT(h:qd NI 2 w B1 LT (u (U (Z go 0 V)) (N+1) cr) (x::xs).reverse):B1<=go/\∃cs,nU w go cs LT:=by
 obtain⟨a,_,b⟩:=h.block go rfl;exact⟨a,b⟩
def VE{go c:Nat}{cs A:Array jC}(h:nU w go cs LT)(C:nU w c A U8):c≠go:=by
 rintro rfl;unfold nU at h C;rw[C]at h;injection h with h
 injection h with _ h _
 exact QF h.symm
def xy.items(h:xy w1 w B1 (u (U (Z go 0 V)) (N+1) cr) (x::xs))(E:xs.length=N){iv:jC}{s:List (nS IL)}(hs:oo w (λc=>c<B1) iv s):
  xy w1 (w.setCell (Z go (N*2) V) iv) B1 (u (U (Z go 0 V)) (N+1) cr) ({x with iv:=iv,s:=s}::xs):=by
 obtain⟨hg,cs,I⟩:=FT h.row;have hsz:(w.setCell (Z go (N*2) V) iv).heap.size=w.heap.size:=by simp[j5]
 have hrow:=h.row.set Cf (rev_at E) (j:=0) (x:=iv) (z:={x with iv:=iv,s:=s}) nT rfl;rw[VD E,nk]at hrow;have A:∀c,c≠go->(w.setCell (Z go (N*2) V) iv).heap[c]? =w.heap[c]? :=λc hc=>jW _ _ _ _ hc
 have C:=h.LC.keep (w':=w.setCell (Z go (N*2) V) iv) (by rw[hsz];exact jB _) (λc _ hc=>A c K) (jB _) λc aa _ hB=>A c (VE I hB)
 rw[<-hsz]at C;obtain⟨J,a2,a3,a4,a5,a6⟩:=C;exact⟨hrow,⟨J,a2,a3,a4,Shape.om.keep hs (by rw[hsz];exact jB _) (λ_ _ h=>h) λc _ hc=>A c K,a6⟩,⟨h.ql.os,h.ql.tape,h.ql.output,by rw[hsz];exact h.ql.size,λc hc=>(A c K).trans (h.ql.block c hc)⟩,by rw[hsz];exact h.hB⟩
def xy.bytes(h:xy w1 w B1 (u (U (Z go 0 V)) (N+1) cr) (x::xs))(ag:xs.length=N){bv:jC}{l:List Ax}(I:oI w2 x.B U8 bv l)(E:w.heap.size<=w2.heap.size)(J:w2.os=w.os/\w2.tape=w.tape/\w2.output=w.output)(hk:∀c,c<w.heap.size->(c<x.B\/∃cs,nU w c cs LT)->w2.heap[c]? =w.heap[c]?):
  xy w1 (w2.setCell (Z go (N*2+1) V) bv) B1 (u (U (Z go 0 V)) (N+1) cr) ({x with bv:=bv,l:=l}::xs):=by
 obtain⟨hg,cs,C⟩:=FT h.row;obtain⟨ah,a2,a3,a4,a5,a6⟩:=h.LC;have af:nU w2 go cs LT:=by unfold nU;rw[hk go C.lt (.inr ⟨cs,C⟩)];exact C
 have aa:qd NI 2 w2 B1 LT (u (U (Z go 0 V)) (N+1) cr) (x::xs).reverse:=h.row.keep λb hb=>by
  simp[kz]at hb;subst hb;exact hk _ C.lt (.inr ⟨cs,C⟩)
 have hsz:(w2.setCell (Z go (N*2+1) V) bv).heap.size=w2.heap.size:=by simp[j5]
 have hrow:=aa.set Cf (rev_at ag) (j:=1) (x:=bv) (z:={x with bv:=bv,l:=l}) nT rfl;rw[VD ag]at hrow;have A:∀c,c≠go->(w2.setCell (Z go (N*2+1) V) bv).heap[c]? =w2.heap[c]? :=λc hc=>jW _ _ _ _ hc
 refine⟨hrow,⟨ah,(by show x.B<=_;rw[hsz];omega),I.keep λb ae _ hB=>A b (VE af hB),λb hb=> ?_,?_,?_⟩,?_,by rw[hsz];have:=h.hB;omega⟩
 .obtain⟨_,ae,hB⟩:=I.VC b hb
  rw[hsz];exact hB.lt
 .exact Shape.om.keep a5 (by rw[hsz];exact E) (λ_ _ h=>h) λc hc ai=>(A c K).trans (hk c hc (.inl K))
 .exact a6.keep (by rw[hsz];exact E) (λc hc ai=>(A c K).trans (hk c hc (.inl K))) (jB _) λc ae hc hB=>(A c (VE C hB)).trans (hk c hB.lt (.inl hc))
 .refine⟨J.1.trans h.ql.os,J.2.1.trans h.ql.tape,J.2.2.trans h.ql.output,by rw[hsz];exact jM h.ql.size E,λc hc=>(A c K).trans ((hk c (by have:=h.hB;omega) (.inl K)).trans (h.ql.block c hc))⟩
def xy.push{vr:jC}{st:List zF}{J w':M}{g cap:Nat}{f:zF}(h:xy w1 w B1 vr st)(A:jD w.heap.size w J)(hrow:qd NI 2 w' B1 LT (u (U (Z g 0 V)) (st.length+1) cap) (st.reverse++[f]))(hg:J.grownBy w' vr.ownBlock)(hs:oo w (λc=>c<B1) f.iv f.s)(C:f.bv=u V 0 0/\f.l=[]/\f.B=w'.heap.size):xy w1 w' B1 (u (U (Z g 0 V)) (st.length+1) cap) (f::st):=by
 have hsz:w.heap.size<=w'.heap.size:=jM A.size hg.size;have E:∀b,vr.ownBlock=U b->B1<=b/\∃cs,nU w b cs LT:=λb hb=>by obtain⟨a,_,b⟩:=h.row.block b hb;exact⟨a,b⟩
 have hk:∀c,c<w.heap.size->vr.ownBlock≠U c->w'.heap[c]? =w.heap[c]? :=λc hc aa=>(hg.block c (jZ hc A.size) (λe=>aa e.symm)).trans (A.block c hc)
 have I:∀c,c<w.heap.size->c<B1->w'.heap[c]? =w.heap[c]? :=λc hc af=>hk c hc λe=>by have:=(E c e).1;omega
 have hB:=h.hB;refine⟨by rw[List.reverse_cons];exact hrow,⟨by rw[C.2.2];omega,by rw[C.2.2];exact jB _,by rw[C.1,C.2.1];exact oI.nil _ _ _,λb hb=>by rw[C.1]at hb;simp[kz]at hb,Shape.om.keep hs hsz (λ_ _ h=>h) I,?_⟩,?_,K⟩
 .rw[C.2.2]
  exact h.LC.keep hsz I hsz λc ae hc N=>hk c hc λe=>by
   obtain⟨_,cs,hL⟩:=E c e;exact VE hL N rfl
 .exact⟨hg.os.trans (A.os.trans h.ql.os),hg.tape.trans (A.tape.trans h.ql.tape),hg.output.trans (A.output.trans h.ql.output),jM h.ql.size hsz,λc hc=>(I c K hc).trans (h.ql.block c hc)⟩
def xy.pop(h:xy w1 w B1 (u (U (Z go 0 V)) (N+1) cr) (x::xs))(hN:xs.length=N):xy w1 w B1 (u (U (Z go 0 V)) N cr) xs:=by
 obtain⟨A,a2,a3,a4,a5,a6⟩:=h.LC;refine⟨?_,a6.keep (jB _) (λ_ _ _=>rfl) a2 λ_ _ _ _=>rfl,h.ql,h.hB⟩;have:=qd.cut h.row Cf (m:=N) (by simp[hN]);exact U0
end
def xy.below{w1 w w':M}{B1:Nat}{vr:jC}{st:List zF}(h:xy w1 w B1 vr st)(hb:jD w.heap.size w w'):xy w1 w' B1 vr st:=
 ⟨h.row.below hb,h.LC.keep hb.size (λc hc _=>hb.block c hc) hb.size (λc cs _ hB=>hb.block c hB.lt),h.ql.trans (hb.mono h.hB),jM h.hB hb.size⟩
def VF:List zF->List Ax->List Ax
 |[],b=>b
 |x::xs,b=>VF xs (x.l++(hdr 192 b.length++b)++zb x.s)
def DD:List zF->List Ax
 |[]=>[]
 |x::xs=>VF xs (x.l++zb x.s)
def a1y:∀(st:List zF)(b:List Ax),b.length<=(VF st b).length/\∀x,x∈st->x.l.length<=(VF st b).length
 |[],b=>⟨jB _,λx h=>by cases h⟩
 |x::xs,b=>by
  obtain⟨A,C⟩:=a1y xs (x.l++(hdr 192 b.length++b)++zb x.s);simp only[jK]at A;refine⟨by simp only[VF];omega,λy hy=> ?_⟩;rcases l5.1 hy with rfl|hy
  .simp only[VF];omega
  .exact C y hy
def a4J{x:zF}{xs:List zF}:x.l.length+(zb x.s).length<=(DD (x::xs)).length/\∀y,y∈xs->y.l.length<=(DD (x::xs)).length:=by
 obtain⟨A,C⟩:=a1y xs (x.l++zb x.s);simp only[jK]at A;exact⟨A,C⟩
def CU(st:List zF):Nat:=(st.map λx=>2*nS.oz x.s).sum+st.length
def a1z{P:Nat->Prop}:∀n,P n->∃m,P m/\∀k,P k->m<=k:=by
 intro n;induction n using Nat.strongRecOn with
 |_ n C=>
  intro h;rcases Classical.em (∃k,k<n/\P k)with⟨k,hk,hp⟩|hn
  .exact C k hk hp
  .exact⟨n,h,λk hp=>by
    rcases kQ k n with A|A
    .exact absurd ⟨k,A,hp⟩ hn
    .exact A⟩
def a1A(P:α->Nat->Prop):∃m:α->Nat,∀a n,P a n->P a (m a)/\m a<=n:=by
 have h:∀a,∃m,∀n,P a n->P a m/\m<=n:=λa=>by
  rcases Classical.em (∃n,P a n)with⟨n,hn⟩|hn
  .obtain⟨m,A,C⟩:=a1z n hn
   exact⟨m,λk hk=>⟨A,C k hk⟩⟩
  .exact⟨0,λk hk=>absurd ⟨k,hk⟩ hn⟩
 obtain⟨f,E⟩:=Classical.axiomOfChoice h;exact⟨f,E⟩
def J5(w4 w:M)(B1:Nat)(E:List Ax)(vr:jC)(st:List zF):Prop:=st≠[]/\xy w4 w B1 vr st/\DD st=E
def a4K{w w3 w4:M}{x:nS IL}{v:jC}{J:Nat}(ag:oo w (λc=>c<J) v x.sub)(ah:x.lab.text.length<=jN)(N:J<=w.heap.size)(E:w.alloc (nL #[G (txt x.lab),nH x.lab.list,v] IT)=w3)(C:w3.alloc (nL #[u (U (Z w.heap.size 0 V)) 1 1,u V 0 0] LT)=w4):
  J5 w4 w4 (w.heap.size+1) (enc x) (u (U (Z (w.heap.size+1) 0 V)) 1 1) [⟨u (U (Z w.heap.size 0 V)) 1 1,[x],u V 0 0,[],w.heap.size+2⟩]/\jD w.heap.size w w4:=by
 obtain⟨g,hg⟩:=og w.heap.size;rw[hg]at C N|-;have aa:w3.heap.size=g+1:=by rw[<-E];simp;omega
 have au:w4.heap.size=g+2:=by rw[<-C];simp;omega
 have b3:jD g w w3:=by rw[<-E,<-hg];exact(jE _ w).alloc (jB _) _
 have b4:jD (g+1) w3 w4:=by rw[<-C,<-aa];exact(jE _ w3).alloc (jB _) _
 have ai:nU w3 g #[G (txt x.lab),nH x.lab.list,v] IT:=by have:=nU.new w #[G (txt x.lab),nH x.lab.list,v] IT;rw[E,hg]at this;exact this
 have ae:=Below.blk b4 ai K;have aj:nU w4 (g+1) #[u (U (Z g 0 V)) 1 1,u V 0 0] LT:=by have:=nU.new w3 #[u (U (Z g 0 V)) 1 1,u V 0 0] LT;rw[C,aa]at this;exact this
 have A:jD g w w4:=b3.trans (b4.mono K);have af:oo w4 (λc=>c<g+1) v x.sub:=Shape.om.keep ag A.size (λc _ hc=>by show c<g+1;omega) λc hc av=>A.block c K
 have I:oo w4 (λc=>c<g+1) (u (U (Z g 0 V)) 1 1) [x]:=by
  refine⟨U (Z g 0 V),1,rfl,jB _,nT,λ_=>⟨g,0,rfl,K,K,?_⟩⟩;simp only[Shape.rz];refine⟨?_,trivial⟩;cases x with
  |node a s=>
   simp only[Shape.tO];refine⟨ah,v,λj ak=> ?_,af⟩;rw[ae.cell];have:j<3:=ak
   match j,this with
   |0,_=>rfl
   |1,_=>rfl
   |2,_=>rfl
 refine⟨⟨nX,⟨?_,⟨by show g+1<=g+2;omega,by show g+2<=_;omega,oI.nil _ _ _,λb hb=>by simp[kz]at hb,I,trivial⟩,jE _ _,K⟩,?_⟩,A⟩;.exact qd.of (f:=NI) (k:=2) (L:=[⟨u (U (Z g 0 V)) 1 1,[x],u V 0 0,[],g+2⟩]) K aj nX nT rfl Cf rfl
 .simp[DD,VF,zb]
def XG{x y:zF}{xs:List zF}{E:List Ax}(h:DD (x::y::xs)=E)(A:x.s=[]){bv:jC}:DD ({y with bv:=bv,l:=y.l++hdr 192 x.l.length++x.l}::xs)=E:=by
 rw[<-h];simp[DD,VF,A,zb]
def a1B{x:zF}{xs:List zF}{E:List Ax}{a:IL}{sub s:List (nS IL)}(h:DD (x::xs)=E)(A:x.s=.node a sub::s)(C:a.list=O){iv bv:jC}:
  DD (⟨iv,s,bv,x.l++(if single a.text then a.text else hdr 128 a.text.length++a.text),x.B⟩::xs)=E:=by
 rw[<-h];simp[DD,A,zb,JA,C]
def a1C{x:zF}{xs:List zF}{E:List Ax}{a:IL}{sub s:List (nS IL)}(h:DD (x::xs)=E)(A:x.s=.node a sub::s)(C:a.list=R){iv v2:jC}{B2:Nat}:
  DD (⟨v2,sub,u V 0 0,[],B2⟩::{x with iv:=iv,s:=s}::xs)=E:=by
 rw[<-h];simp[DD,VF,A,zb,JA,C]
def XH:∀(st:List zF)(b:List Ax),st.length<=(VF st b).length
 |[],b=>ko _
 |x::xs,b=>by
  have key:∀(st:List zF)(b:List Ax),b.length+st.length<=(VF st b).length:=by
   intro st;induction st with
   |nil=>intro b;simp[VF]
   |cons z zs A=>
    intro b;have C:=A (z.l++(hdr 192 b.length++b)++zb z.s);have E:=a3d 192 b.length;simp only[jK]at C;simp only[VF,j4];omega
  have:=key (x::xs) b;omega
def Tu{x:zF}{xs:List zF}:xs.length<=(DD (x::xs)).length:=XH xs _
def Tv{t s:jX}(T:qj P t e s){rest:List lJ}{o:lJ}{a:Act}{Q:Exit->Act->M->Prop}(C:o.guard=V)(x y:Operand)(ho:o.op=.call {callee:=.builtin .append,args:=#[x,y],argTypes:=#[t,t]})(B ah:Nat)(v ao:jC)(l m:List Ax)(w:M)(E:a.eval x=v)(A:oI w B e v l)(I:oI w ah e ao m)(hy:a.eval y=ao)(hlen:l.length+m.length<=140737488355328)(hB:B<=w.heap.size)(h:∀v' w',oI w' B e v' (l++m)->w.grownBy w' v.ownBlock->wpList P ops Q rest (a.put o.dst v') w'):
  wpList P ops Q (o::rest) a w:=by
 obtain⟨J,hi,N,aa,ae⟩:=info_parts T.hi;rcases I.2 with⟨hn,h0⟩|⟨g,cap,au,af,hb,hg,ai,av,hsz,htake⟩
 .have ag:m=[]:=mh.1 h0
  subst ag;refine wpList_append_own_none C x y t ho B e J 1 T.ht hi v l.length (oh l) E A (by rw[hy,hn]) ?_;exact h v w (by rw[List.append_nil];exact A) ⟨rfl,rfl,rfl,jB _,λ_ _ _=>rfl⟩
 .refine wpList_append_own _ C x y t ho B e J (Y .u8 0) 1 1 T.ht hi N aa ae rfl nT v l.length (oh l) E A (Z g 0 V) m.length cap (oh m) (by rw[hy,af]) nX
   (World.ownsRow.cells I (by rw[af];rfl)) (sH m) xe K hB ?_
  intro v' w' aj ak _;refine h v' w' ?_ ak;show w'.ownsRow B e 1 v' (l++m).length (oh (l++m));rw[jK,pI];exact aj
def a4L{w w5 A:M}{B:Nat}{v v':jC}{l J:List Ax}(h:oI w B U8 v l)(hg:w.grownBy w5 v.ownBlock)(N:oI w5 B U8 v' J)(C:w5.grownBy A v'.ownBlock):
  ∀c,c<w.heap.size->(c<B\/∃cs,nU w c cs LT)->A.heap[c]? =w.heap[c]? :=λc hc E=>by
 have I:=h.far hg c hc E;have aa:=N.far C c (jZ hc hg.size) (E.imp id λ⟨cs,hb⟩=>⟨cs,by unfold nU;rw[I];exact hb⟩);rw[aa,I]
def cell_of_heap{w w':M}{b:Nat}(h:w'.heap[b]? =w.heap[b]?)(i:Nat):w'.cell? (Z b i V)=w.cell? (Z b i V)/\w'.frozen? (Z b i V)=w.frozen? (Z b i V):=
 ⟨mX (w:=w) (a:=(Z b i V)) h,World.frozen?_of_block (w:=w) (a:=(Z b i V)) h⟩
def QG{y y2:zF}{zs:List zF}{bv:jC}{l:List Ax}:CU ({y2 with bv:=bv,l:=l}::zs)<CU (y::y2::zs):=by
 simp[CU];omega
def XI{w:M}{Q:Nat->Prop}{b off n c:Nat}{y:nS IL}{s:List (nS IL)}(h:oo w Q (u (U (Z b off V)) (n+1) c) (y::s)):oo w Q (u (U (Z b (off+3) V)) n (c - 1)) s:=by
 obtain⟨oa,cap,e,E,N,I⟩:=h;have hl:n=s.length:=by
  injection e with _ e _
  simpa using e
 subst hl;injection e with e1 _ e3
 subst e1 e3;obtain⟨b',aa,A,hb,J,C⟩:=I nX;injection A with A
 injection A with e4 e5
 subst e4 e5;simp only[Shape.rz]at C;exact⟨_,_,rfl,by simp at E;omega,K,λhn=>⟨_,_,rfl,hb,J,C.2⟩⟩
def a9r{w:M}{B:Nat}{v:jC}{L:List zF}{f A:zF}(h:qd NI 2 w B LT v (L++[f]))(C:f.iv=A.iv)(E:f.bv=A.bv):qd NI 2 w B LT v (L++[A]):=by
 unfold qd at*;have e:(L++[f]).flatMap NI=(L++[A]).flatMap NI:=by simp[NI,C,E]
 rw[e]at h;simpa using h
def Tw{y:zF}{ys:List zF}{a:IL}{sub s:List (nS IL)}(hy:y.s=.node a sub::s){v2 iv bv:jC}{l:List Ax}{B2:Nat}:CU (⟨v2,sub,bv,l,B2⟩::{y with iv:=iv,s:=s}::ys)<CU (y::ys):=by
 simp[CU,hy,nS.oz,nS.count];omega
def J6{y:zF}{ys:List zF}{a:IL}{sub s:List (nS IL)}(hy:y.s=.node a sub::s){iv bv:jC}{l:List Ax}{B2:Nat}:CU (⟨iv,s,bv,l,B2⟩::ys)<CU (y::ys):=by
 simp[CU,hy,nS.oz,nS.count];omega
def zC{t s:jX}(T:qj P t e s){o:lJ}{a:Act}{am:Act->M->Prop}{Q:Exit->Act->M->Prop}{E:Prop}(C:o.guard=V)(x y:Operand)(ho:o.op=.call {callee:=.builtin .append,args:=#[x,y],argTypes:=#[t,s]})(B:Nat)(v:jC)(l:List Ax)(S:An)(w:M)(aa:a.eval x=v)(A:oI w B e v l)(hy:a.eval y=G S)(hlen:l.length+S.size<=140737488355328)(hB:B<=w.heap.size)(h:∀v' w',oI w' B e v' (l++S.data.toList)->w.grownBy w' v.ownBlock->am (a.put o.dst v') w'):
  if ma o (yielded ops a.tmps)=R then Oper.wp P o a w am Q else E:=by
 have ae:ma o (yielded ops a.tmps)=R:=by simp[ma,C]
 rw[AC ae];obtain⟨af,hi,I,J,N⟩:=info_parts T.hi;obtain⟨v',w',ag,ah,ai,_⟩:=Lib.run_append_own_string (P:=P) w B t s o.type e af T.ht T.hs hi I J N v l.length (oh l) A S xe K hB;unfold Oper.wp execOp;simp only[ho,resolve,invoke,builtin,Sem.run_bind,Sem.run_pure,Result.andThen_ok,List.map_toArray,mf,ng,aa,hy];rw[ag];refine h v' w' ?_ ai;have e1:mD S=oh S.data.toList:=by simp[mD,oh]
 show w'.ownsRow B e 1 v' (l++S.data.toList).length (oh (l++S.data.toList));rw[jK,pI,<-e1];have e2:S.data.toList.length=S.size:=nX;rw[e2];exact ah
def Tx{w:M}{Q:Nat->Prop}{b off n c:Nat}{y:nS IL}{s:List (nS IL)}(h:oo w Q (u (U (Z b off V)) (n+1) c) (y::s)):
  oo w Q (u (if c=1 then U (Z b off V)else U (Z b (off+3) V)) n (c - 1)) s:=by
 by_cases A:c=1
 .rw[AC A]
  obtain⟨oa,cap,e,C,E,_⟩:=h;have hl:n=s.length:=by
   injection e with _ e _
   simpa using e
  injection e with _ _ e3
  subst e3 hl;have:s.length=0:=by simp at C;omega
  exact⟨_,_,rfl,K,K,λhn=>by omega⟩
 .rw[As A];exact XI h
def a5D(h:p:=by
 have CH:=H ch;clear ch;refine wB (S:=λw'=>w'.cell? (Z go (N*2+1) V)=U (u bo y.l.length bc)/\w'.cell? (Z wr.heap.size 0 V)=U (G (txt a))) 10 nV ⟨g1',m0'⟩ (λhHeld=> ?_);refine takeB 0 hHeld ?_;refine takeB 1 hHeld ?_;refine takeB 2 hHeld ?_;refine takeB 3 hHeld ?_;refine takeB 4 hHeld ?_;refine takeB 5 hHeld ?_;refine takeB 6 hHeld ?_;refine takeB 7 hHeld ?_;refine takeB 8 hHeld ?_;refine zW (i:=9) nV y8 (λam hK=> ?_);go_simp;go_at_call 201;refine CH.mono ?_;rintro e w7 ⟨v7,rfl,Ma,hg7⟩;obtain⟨so7,nl7,sc7,hv7⟩:∃so n sc,v7=u so n sc:=(by obtain⟨a,b,h⟩:=Ma.slice;exact⟨a,_,b,h⟩);subst hv7;have Ty:w6.grownBy w7 (kI bo y.l.length bc).ownBlock:=⟨hg7.os,hg7.tape,hg7.output,hg7.size,hg7.block⟩;have hk7:=He.far Ty;have h7:=cell_of_heap (hk7 go GK.2.lt (.inr ⟨_,GK.2⟩)) (N*2+1);have hm7:=He.a7z Ty a4M nT;have HN7:=H (xy.bytes HPX LH Ma Ty.size ⟨Ty.os,Ty.tape,Ty.output⟩ hk7);have j1:=h7.1.trans g1';have j3:=h7.2.trans g3';have HM7:jI (nU w7 wr.heap.size #[G (txt a),nH a.list,u uo un uc] IT):=H (by unfold nU;rw[hm7];exact a4M);clear hk7 h7 hm7 Ma hg7 Ty;refine hK _ _ ⟨j1,HM7.cell 0⟩ (λJ7=> ?_);clear hK am J7 CH;try simp only[mR,jH,jQ,jR]
 refine wJ _ _ _ _ nV (wpAny_of_held (S:=λ_=>True) _ _ _ _ ?_);have Bz:True:=trivial;refine sK 10 Bz ?_;refine sK 11 Bz ?_;refine l8 (rs:=[12]) nV nX ?_;refine lg y8 (λam hK=> ?_) lH;go_simp;refine hK _ _ trivial (λa1D=> ?_);clear hK am;try simp only[mR,jH,jQ,jR]
 refine wpAnyH_done nV ?_ _;have HM8:jI (nU (w7.setCell (Z go (N*2+1) V) (u so7 nl7 sc7)) wr.heap.size #[G (txt a),nH a.list,u uo un uc] IT):=H (HM7.setOther (a:=(Z go (N*2+1) V)) hne' _);generalize w7.setCell (Z go (N*2+1) V) (u so7 nl7 sc7)=w8 at*;clear He GK XJ g1' g3' m0' j1 j3;obtain⟨_,_,he,_,k1,_,k3,_⟩:=yh HN7 LH.out;injection he with he1 _ he2
 injection he1 with he1
 injection he1 with he1
 subst he1 he2;have He:jI (oI w8 y.B U8 (u so7 nl7 sc7) (y.l++hdr 128 a.text.length)):=H HN7.LC.2.2.1;have XJ:y.B<=w8.heap.size:=HN7.LC.2.1;obtain⟨a5E,cs8,a9t⟩:=FT HN7.row;have GK:jI (B1<=go/\nU w8 go cs8 LT):=H ⟨a5E,a9t⟩;have g1':=k1;have g3':=k3;have m0':w8.cell? (Z wr.heap.size 0 V)=U (G (txt a)):=HM8.cell 0;clear k1 k3 a5E a9t;go_upto_region 19 with fail;refine wB (S:=λw'=>w'.cell? (Z go (N*2+1) V)=U (u so7 nl7 sc7)/\w'.cell? (Z wr.heap.size 0 V)=U (G (txt a))) 8 nV ⟨g1',m0'⟩ (λhHeld=> ?_);refine takeB 0 hHeld ?_;refine takeB 1 hHeld ?_;refine takeB 2 hHeld ?_;refine takeB 3 hHeld ?_;refine takeB 4 hHeld ?_;refine takeB 5 hHeld ?_;refine takeB 6 hHeld ?_;refine zW (i:=7) nV y8 (λam hK=> ?_);refine zC Cr (by rfl) _ _ (by rfl) y.B (u so7 nl7 sc7) (y.l++hdr 128 a.text.length) (txt a) w8.drew (by rfl) He.drew (by rfl) (by rw[hts];rw[jK];omega) (by exact XJ) ?_;intro v9 w9 J8 XK;obtain⟨so9,nl9,sc9,hv9⟩:∃so n sc,v9=u so n sc:=(by obtain⟨a,b,h⟩:=J8.slice;exact⟨a,_,b,h⟩);subst hv9;have DF:w8.grownBy w9 (kI so7 nl7 sc7).ownBlock:=⟨XK.os,XK.tape,XK.output,XK.size,XK.block⟩;have hk9:=He.far DF;have h9:=cell_of_heap (hk9 go GK.2.lt (.inr ⟨_,GK.2⟩)) (N*2+1);have hm9:=cell_of_heap (He.a7z DF HM8 nT) 0;have HN9:=H (xy.bytes HN7 LH J8 DF.size ⟨DF.os,DF.tape,DF.output⟩ hk9);have j1:=h9.1.trans g1';have j3:=h9.2.trans g3';have HM9:=H (hm9.1.trans m0');clear hk9 h9 hm9 J8 XK DF;refine hK _ _ ⟨j1,HM9.out⟩ (λJ7=> ?_);clear hK am J7;try simp only[mR,jH,jQ,jR]
 refine wJ _ _ _ _ nV (wpAny_of_held (S:=λ_=>True) _ _ _ _ ?_);have Bz:True:=trivial;refine sK 8 Bz ?_;refine sK 9 Bz ?_;refine l8 (rs:=[10]) nV nX ?_;refine lg y8 (λam hK=> ?_) lH;go_simp;refine hK _ _ trivial (λa1D=> ?_);clear hK am;try simp only[mR,jH,jQ,jR]
 refine wpAnyH_done nV ?_ _;have hfin:=a9y.out (u oA ns (ic - 1)) (u so9 nl9 sc9);rw[show y.l++(if single a.text then a.text else hdr 128 a.text.length++a.text)=y.l++hdr 128 a.text.length++(txt a).data.toList by rw[VG.out,kX];rfl]at hfin;have J9:=H (show J5 w4 _ B1 E _ _ from⟨nX,HN9.out,hfin⟩);clear hfin;go_wp2;go_roundw;case rel=>exact⟨_,J9⟩
 case measure=>
  have h1:=(HME (_,_) _ ⟨_,J9.out,rfl⟩).2;have h3:=J6 (ys:=ys) HYS (iv:=u oA ns (ic - 1)) (bv:=u so9 nl9 sc9) (l:=(y.l++hdr 128 a.text.length)++(txt a).data.toList) (B2:=y.B);rw[a4N.out]at h3;exact mi h1 h3):p:=h
def Tz(x:nS IL)(w:M)(v:jC)(bE:qF w v x.sub)(dW:x.lab.text.length<=jN)(dX:si x=R)(fQ:(enc x).length<=100000):
  jG jy 161 #[nI #[G (txt x.lab),nH x.lab.list,v]] w λe w'=>e=nK (nJ #[G ⟨(enc x).toArray⟩,Y X 0])/\jD w.heap.size w w':=by
 have bF:=H (vF (T:=txt x.lab) (l:=x.lab.list) (t:=IT) bE);have dY:=H bE;obtain⟨oa,cap,rfl,dA,dZ⟩:=oo.slice bE;obtain⟨g,hg⟩:=og w.heap.size;have bG:=H (λ(W:M) (h:qF W (u oa x.sub.length cap) x.sub)=>I5 x W _ h);rw[dX]at bG;obtain⟨E,aS⟩:=og (enc x);rw[aS]at fQ|-;have fT:=H dW;have ed:=H aS;obtain⟨aq,ek⟩:=og x.sub.length;rw[hg]at bF|-;rw[ek]at bF bG dY|-;clear bE dA dZ dW dX aS ek;go_in;go_upto_region 1 with fail;generalize w.alloc (nL #[G (txt x.lab),nH x.lab.list,u oa aq cap] IT)=w1 at*;obtain⟨bL,ht1,hsz,c0,c1,c2,_⟩:=bF.out _ rfl;have eu:=H ht1;have eB:=H bL;have dB:w1.heap.size=g+1:=hsz;clear bF ht1 bL hsz;go_wp2_with fail;refine(bG _ eu).mono ?_;rintro e w2 ⟨rfl,af⟩;have gT:=(af.cell (p:=(Z g 0 V)) (show g<w1.heap.size by omega)).trans c0;have gU:=(af.cell (p:=(Z g 1 V)) (show g<w1.heap.size by omega)).trans c1;have gV:=(af.cell (p:=(Z g 2 V)) (show g<w1.heap.size by omega)).trans c2;have bM:jI (oo w2 (λc=>c<g) (u oa aq cap) x.sub):=H (by
  have aT:=eB.trans (af.mono (show g<=w1.heap.size by omega));exact Shape.om.keep dY aT.size (λc hc _=>by omega) λc hc _=>aT.block c K)
 have eD:=H (eB.trans (af.mono (show g<=w1.heap.size by omega)));have fU:g+1<=w2.heap.size:=by have:=af.size;omega
 clear af bG;have aD:jI (∀w3 w4,w2.alloc (nL #[G (txt x.lab),nH x.lab.list,u oa aq cap] IT)=w3->w3.alloc (nL #[u (U (Z w2.heap.size 0 V)) 1 1,u V 0 0] LT)=w4->_):=H λw3 w4 h3 fV=>a4K bM fT (by omega:g<=w2.heap.size) h3 fV
 rw[ed.out]at aD;clear c0 c1 c2;go_wp2_with fail;have dD:=aD.out _ _ rfl rfl;generalize (w2.alloc (nL #[G (txt x.lab),nH x.lab.list,u oa aq cap] IT)).alloc (nL #[u (U (Z w2.heap.size 0 V)) 1 1,u V 0 0] LT)=w4 at*;obtain⟨aU,aV⟩:=dD;have aF:=H aU;have dE:=H (eD.trans (aV.mono K));obtain⟨B1,aW⟩:=og (w2.heap.size+1);have dF:g<=B1:=K;rw[aW]at aF;have aX:=H aW;clear aW;clear aU aV aD bM eu;obtain⟨dG,aL⟩:=a1A (λ(z:jC×M) n=>∃st,J5 w4 z.2 B1 E z.1 st/\CU st=n);have HME:=H aL;clear aL;go_loopw [5] (λvr dH=>∃st,jI (J5 w4 dH B1 E vr st)) (λvr dH=>dG (vr,dH));case atStart=>exact⟨_,by rw[<-aX.out];rw[<-aX.out]at aF;exact aF⟩
 case round=>
  obtain⟨eF,bN⟩:=hrel;obtain⟨⟨st,J,aY⟩,_⟩:=HME.out (_,_) _ ⟨eF,bN.out,rfl⟩;simp only at J;have a4N:=H aY;clear aY bN;cases st with
  |nil=>exact absurd rfl J.1
  |cons y ys=>
   obtain⟨N,bH⟩:=og ys.length;obtain⟨go,dI,eG,r0,r1,z0,fZ,gG⟩:=yh J.2.1 bH;subst eG;have hlen:=a4J (x:=y) (xs:=ys);rw[J.2.2]at hlen;obtain⟨eH,a2,a3,a4,a5,a6⟩:=J.2.1.LC;obtain⟨gW,ic,aZ,eO,gm⟩:=oo.slice a5;obtain⟨bo,bc,bg⟩:=a3.slice;have aa:=H J;have LH:=H bH;have aG:=H hlen;have aH:=H a3;have eP:=H a5;have gp:=H (jF eH a2);have gq:N<=100000:=by have:=Tu (x:=y) (xs:=ys);rw[J.2.2,bH]at this;omega
   rw[aZ]at r0;rw[bg]at r1;have bO:=H aZ;have ak:=H bg;clear J bH hlen eH a2 a3 a4 a5 a6 aZ bg;cases ag:y.s with
   |nil=>
    rw[ag]at r0;simp only[List.length_nil]at r0;by_cases bP:N=0
    .subst bP
     have bq:ys=[]:=mh.1 LH.out;have bQ:y.l=E:=by
      have:=aa.2.2;rw[bq]at this;simpa [DD,VF,ag,zb]using this
     have dJ:=(aH.out).string Cr;rw[ak.out]at dJ;have eQ:=H bQ;have gu:jI (jD g w wr):=H (dE.trans (aa.2.1.ql.mono dF));clear bq bQ;go_wp2;go_returns;exact⟨by rw[<-eQ.out];rfl,gu.out⟩
    .obtain⟨y2,zs,rfl⟩:∃y2 zs,ys=y2::zs:=by
      cases ys with
      |nil=>exact absurd LH.symm bP
      |cons a b=>exact⟨a,b,rfl⟩
     obtain⟨bu,rfl⟩:∃bu,N=bu+1:=⟨N - 1,K⟩;have bR:zs.length=bu:=by have:=LH.out;simpa using this
     have au:=aa.2.1.pop LH.out;obtain⟨eT,eU,he,bI,bz,eX,z3,_⟩:=yh au bR;injection he with he1 _ he2
     injection he1 with he1
     injection he1 with he1
     subst he1 he2;obtain⟨b1,gy,b3,b4,_,_⟩:=aa.2.1.LC.2.2.2.2.2;have gH:y2.l.length<=100000:=by have:=aG.2 y2 (List.mem_cons_self ..);omega
     have gI:y.l.length<=100000:=by have:=aG.1;omega
     have bS:y2.B<=wr.heap.size:=by have:=gp.2;omega
     have CH:=H (JR 192 y.l.length y2.B y2.bv y2.l wr (.inr rfl) K b3 K bS);obtain⟨gJ,gK,av⟩:=b3.slice;have bT:=H b3;have eY:=H b4;have dK:=H au;have bU:∃cs,nU wr go cs LT:=by obtain⟨_,_,cs,h⟩:=au.row.block go rfl;exact⟨cs,h⟩
     have bV:=H bU;rw[av]at bz;have aI:=H av;rw[av]at CH;have eZ:=Y6 192 y.l.length K;clear au b1 gy b3 b4 av bU;go_upto_region 12 with fail;go_wp2_with fail;refine CH.mono ?_;rintro e w5 ⟨v5,rfl,aM,az⟩;obtain⟨cs,A⟩:=bV.out;have dL:=cell_of_heap (bT.far (by rw[aI.out];exact az) go A.lt (.inr ⟨cs,A⟩));have ah:oI w5 y.B U8 y.bv y.l:=aH.keep λb gL hb hB=>az.block b hB.lt λe=>by
      have h1:=eY.out b (by rw[aI.out];exact e.symm);have aT:=(aH.VC b hb).1;omega
     rw[ak.out]at ah;have fq:y2.B<=w5.heap.size:=jM bS az.size;have aN:=H (jF aM az);have dM:=H ah;clear aM az ah A dL;go_wp2_with (at_builtin;go_loud (refine Tv Cr rfl _ _ rfl y2.B y.B v5 (u bo y.l.length bc) (y2.l++hdr 192 y.l.length) y.l w5 rfl aN.1 dM rfl nY fq ?_);intro v6 w6 ax bA;obtain⟨bW,bX,bY,fu⟩:∃so n sc,v6=u so n sc:=(by obtain⟨a,b,h⟩:=ax.slice;exact⟨a,_,b,h⟩);subst fu;have bZ:=H (jF ax bA);obtain⟨cs,A⟩:=bV.out;have bB:=a4L bT (by rw[aI.out];exact aN.2) aN.1 bA;have dN:=cell_of_heap (bB go A.lt (.inr ⟨cs,A⟩)) (bu*2+1);have gX:=dN.1.trans bz;have k1:=dN.2.trans z3;have fw:=H bB;clear ax bA A bB dN);have aA:=aN.2;have aB:=bZ.2;have bJ:wr.heap.size<=w6.heap.size:=jM aA.size aB.size;have I:=xy.bytes (x:=y2) (xs:=zs) (N:=bu) dK bR (l:=y2.l++hdr 192 y.l.length++y.l) bZ.1 bJ ⟨aB.os.trans aA.os,aB.tape.trans aA.tape,aB.output.trans aA.output⟩ fw.out;have hfin:=XG (x:=y) (y:=y2) (xs:=zs) aa.2.2 ag (bv:=u bW bX bY);have J9:=H (show J5 w4 _ B1 E _ _ from⟨nX,I,hfin⟩);clear I hfin aA aB;go_roundw;case rel=>exact⟨_,J9⟩
     case measure=>
      have h1:=(HME (_,_) _ ⟨_,J9.out,rfl⟩).2;have aT:=a4N.out;have h3:=QG (y:=y) (y2:=y2) (zs:=zs) (bv:=u bW bX bY) (l:=y2.l++hdr 192 y.l.length++y.l);rw[aT]at h3;exact mi h1 h3
   |cons t aR=>
    rw[ag]at r0;simp only[j4]at r0;obtain⟨a,sub⟩:=t;have hit:=eP.out;rw[bO.out,ag]at hit;simp only[j4]at hit;obtain⟨b,off,ao,fA,gz,gM,fB,fC,fD,bK,aO⟩:=oo.at_ hit (i:=0) (x:=.node a sub) rfl;subst fA;simp only[Nat.zero_mul,nk,nS.o9,nS.rE]at fB fC fD bK aO;obtain⟨uo,uc,cz,fE,_⟩:=oo.slice bK;obtain⟨un,cK⟩:=og sub.length;rw[cK]at cz;subst cz;obtain⟨ns,bC⟩:=og aR.length;have fF:=H bC;rw[bC]at r0 hit;have aJ:=Tx hit;obtain⟨oA,fG⟩:∃oA,(if ic=1 then(U (Z b off V):Option kW)else U (Z b (off+3) V))=oA:=⟨_,rfl⟩;rw[fG]at aJ;have dO:=H aJ;clear aJ;have gB:=H bK;have HYS:=H ag;have cZ:jI (∀W,wr.alloc (nL #[G (txt a),nH a.list,u uo un uc] IT)=W->xy w4 W B1 (u (U (Z go 0 V)) (N+1) dI) (y::ys)/\nU W wr.heap.size #[G (txt a),nH a.list,u uo un uc] IT/\jD wr.heap.size wr W):=H λW h=>by
     subst h;have aO:=(jE _ wr).alloc (jB _) (nL #[G (txt a),nH a.list,u uo un uc] IT);exact⟨aa.2.1.below aO,nU.new wr _ _,aO⟩
    clear bK hit ag eO fE cK bC;go_upto_region 14 with fail;generalize wr.alloc (nL #[G (txt a),nH a.list,u uo un uc] IT)=w5 at*;obtain⟨aP,C,aK⟩:=cZ.out _ rfl;obtain⟨eT,eU,he,bI,bz,eX,z3,_⟩:=yh aP LH.out;injection he with he1 _ he2
    injection he1 with he1
    injection he1 with he1
    subst he1 he2;obtain⟨fH,gN,A⟩:=FT aP.row;have df:go≠wr.heap.size:=by
     rintro rfl;unfold nU at A C;rw[C]at A;injection A with A
     injection A with _ A _
     exact absurd A nT
    have hne':wr.heap.size≠go:=λh=>df h.symm
    have dP:jI (oo w5 (λc=>c<B1) (u oA ns (ic - 1)) aR):=H (Shape.om.below dO aK);have fI:jI (oo w5 (λc=>c<B1) (u uo un uc) sub):=H (Shape.om.below gB aK);have dh:=H aP;have fJ:=H C;have n1:=C.c1;rw[bO.out,HYS.out]at bI;simp only[j4,fF.out]at bI;rw[ak.out]at bz;clear aP C aK cZ A fH r0 r1 z0 fZ fB fC fD;have ae:=H (dh.items LH dP);have fK:(w5.setCell (Z go (N*2) V) (u oA ns (ic - 1))).cell? (Z go (N*2+1) V)=U (u bo y.l.length bc):=by
     obtain⟨_,_,e,_,e2,_⟩:=yh ae LH.out;injection e with e _ _
     injection e with e
     injection e with e
     subst e;rw[e2];exact congrArg U ak.out
    have a4M:jI (nU (w5.setCell (Z go (N*2) V) (u oA ns (ic - 1))) wr.heap.size #[G (txt a),nH a.list,u uo un uc] IT):=H (fJ.setOther (a:=(Z go (N*2) V)) hne' _);have fM:jI (oo (w5.setCell (Z go (N*2) V) (u oA ns (ic - 1))) (λc=>c<B1) (u uo un uc) sub):=H (Shape.om.keep fI (by simp[j5]) (λ_ _ h=>h) λc _ hc=>jW _ _ _ _ (λe=>by
     have h1:=(FT dh.row).1;have:c<B1:=hc;simp only at e;omega))
    go_upto_region 15 with fail;generalize w5.setCell (Z go (N*2) V) (u oA ns (ic - 1))=w6 at*;obtain⟨gD,fO,m2⟩:=a4M.a3;clear bI bz eX z3 n1;cases ai:a.list with
    |true=>
     rw[ai]at fO;have dw:jI (({y with iv:=u oA ns (ic - 1),s:=aR}::ys:List zF).reverse.length=N+1):=H (by simp[LH.out]);have gF:B1<=w6.heap.size:=ae.hB;go_wp2_with (at_builtin;go_loud (refine uD a7y Cf rfl _ _ rfl (B:=B1) (v:=u (U (Z go 0 V)) (N+1) dI) (L:=({y with iv:=u oA ns (ic - 1),s:=aR}::ys:List zF).reverse) (y:=⟨u uo un uc,sub,u V 0 0,[],0⟩) rfl (ae.row.below ((jE _ w6).alloc (jB _) _)) rfl (nU.new w6 #[u uo un uc,u V 0 0] LT) rfl (by simp[NI,Value.oneCell']) (by rw[dw.out];omega) nY ?_);intro gY cap w7 Ma aC dQ dR;have fP:=H (jF Ma aC);rw[dw.out];clear Ma aC dQ dR);have ay:=fP.1;rw[List.length_reverse]at ay;have I:=xy.push (f:=⟨u uo un uc,sub,u V 0 0,[],w7.heap.size⟩) ae ((jE _ w6).alloc (jB _) _) (a9r ay rfl rfl) fP.2 fM ⟨rfl,rfl,rfl⟩;have hfin:=a1C (x:=y) (xs:=ys) aa.2.2 HYS ai (iv:=u oA ns (ic - 1)) (v2:=u uo un uc) (B2:=w7.heap.size);have dx:({y with iv:=u oA ns (ic - 1),s:=aR}::ys:List zF).length=N+1:=by simp[LH.out]
     rw[dx]at I;have J9:=H (show J5 w4 _ B1 E _ _ from⟨nX,I,hfin⟩);clear I hfin ay dx;go_roundw;case rel=>exact⟨_,J9⟩
     case measure=>
      have h1:=(HME (_,_) _ ⟨_,J9.out,rfl⟩).2;have h3:=Tw (ys:=ys) HYS (v2:=u uo un uc) (iv:=u oA ns (ic - 1)) (bv:=u V 0 0) (l:=[]) (B2:=w7.heap.size);rw[a4N.out]at h3;exact mi h1 h3
    |false=>
     rw[ai]at fO;have aj:=aG.1;rw[HYS.out]at aj;simp only[zb,jK]at aj;have dz:enc (nS.node a sub)=(if single a.text then a.text else hdr 128 a.text.length++a.text):=by rw[JA,ai];simp
     rw[dz]at aj;have gP:a.text.length<=100000:=by
      revert aj;split;.intro h;omega
      .intro h;rw[jK]at h;omega
     have gQ:y.l.length<=100000:=K;have hts:=uw a;have dS:y.B<=w6.heap.size:=ae.LC.2.1;have eZ:=Y6 128 a.text.length K;have a9y:=H (λiv bv=>a1B (x:=y) (xs:=ys) aa.2.2 HYS ai (iv:=iv) (bv:=bv));clear aj dz;obtain⟨dU,dV,bD⟩:=FT ae.row;clear df;have He:jI (oI w6 y.B U8 (u bo y.l.length bc) y.l):=H (by have:=ae.LC.2.2.1;simp only at this;rw[ak.out]at this;exact this);have HPX:jI (xy w4 w6 B1 (u (U (Z go 0 V)) (N+1) dI) (⟨u oA ns (ic - 1),aR,u bo y.l.length bc,y.l,y.B⟩::ys)):=H (by have:=ae.out;rw[ak.out]at this;exact this);have GK:jI (B1<=go/\nU w6 go dV LT):=H ⟨dU,bD⟩;have XJ:=dS;have g1':=fK;have g3':w6.frozen? (Z go (N*2+1) V)=O:=bD.free _;have m0':=gD;by_cases h1:(txt a).size=1
     .have aQ:=SA h1
      have dB:0<(txt a).size:=K;by_cases hb:(txt a)[0].toNat<128
      .have VG:jI (single a.text=R):=H (by rw[aQ];simpa using hb)
       clear aQ;go_upto_region 19 with fail;refine wB (S:=λw'=>w'.cell? (Z go (N*2+1) V)=U (u bo y.l.length bc)/\w'.cell? (Z wr.heap.size 0 V)=U (G (txt a))) 8 nV ⟨g1',m0'⟩ (λhHeld=> ?_);refine takeB 0 hHeld ?_;refine takeB 1 hHeld ?_;refine takeB 2 hHeld ?_;refine takeB 3 hHeld ?_;refine takeB 4 hHeld ?_;refine takeB 5 hHeld ?_;refine takeB 6 hHeld ?_;refine zW (i:=7) nV y8 (λam hK=> ?_);refine zC Cr (by rfl) _ _ (by rfl) y.B (u bo y.l.length bc) y.l (txt a) w6.drew (by rfl) He.drew (by rfl) (by rw[hts];omega) (by exact XJ) ?_;intro v9 w9 J8 XK;obtain⟨so9,nl9,sc9,hv9⟩:∃so n sc,v9=u so n sc:=(by obtain⟨a,b,h⟩:=J8.slice;exact⟨a,_,b,h⟩);subst hv9;have DF:w6.grownBy w9 (kI bo y.l.length bc).ownBlock:=⟨XK.os,XK.tape,XK.output,XK.size,XK.block⟩;have hk9:=He.far DF;have h9:=cell_of_heap (hk9 go GK.2.lt (.inr ⟨_,GK.2⟩)) (N*2+1);have hm9:=cell_of_heap (He.a7z DF a4M nT) 0;have HN9:=H (xy.bytes HPX LH J8 DF.size ⟨DF.os,DF.tape,DF.output⟩ hk9);have j1:=h9.1.trans g1';have j3:=h9.2.trans g3';have HM9:=H (hm9.1.trans m0');clear hk9 h9 hm9 J8 XK DF;refine hK _ _ ⟨j1,HM9.out⟩ (λJ7=> ?_);clear hK am J7;try simp only[mR,jH,jQ,jR]
       refine wJ _ _ _ _ nV (wpAny_of_held (S:=λ_=>True) _ _ _ _ ?_);have Bz:True:=trivial;refine sK 8 Bz ?_;refine sK 9 Bz ?_;refine l8 (rs:=[10]) nV nX ?_;refine lg y8 (λam hK=> ?_) lH;go_simp;refine hK _ _ trivial (λa1D=> ?_);clear hK am;try simp only[mR,jH,jQ,jR]
       refine wpAnyH_done nV ?_ _;have hfin:=a9y.out (u oA ns (ic - 1)) (u so9 nl9 sc9);rw[show(if single a.text then a.text else hdr 128 a.text.length++a.text)=(txt a).data.toList by rw[VG.out];rfl]at hfin;have J9:=H (show J5 w4 _ B1 E _ _ from⟨nX,HN9.out,hfin⟩);clear hfin;go_wp2;go_roundw;case rel=>exact⟨_,J9⟩
       case measure=>
        have h1:=(HME (_,_) _ ⟨_,J9.out,rfl⟩).2;have h3:=J6 (ys:=ys) HYS (iv:=u oA ns (ic - 1)) (bv:=u so9 nl9 sc9) (l:=y.l++(txt a).data.toList) (B2:=y.B);rw[a4N.out]at h3;exact mi h1 h3
      .have VG:jI (single a.text=O):=H (by rw[aQ];simpa using hb)
       clear aQ;go_upto_region 18 with fail;have ch:=JR 128 a.text.length y.B (u bo y.l.length bc) y.l w6.drew (.inl rfl) K He.drew K (by exact XJ);rw[show((a.text.length:Nat):Int)=(1:Int)by rw[<-hts,h1];rfl]at ch;exact a5D
     .have VG:jI (single a.text=O):=H (Qa (by rw[<-uw];exact h1))
      go_upto_region 18 with fail;have ch:=JR 128 a.text.length y.B (u bo y.l.length bc) y.l w6.drew (.inl rfl) K He.drew K (by exact XJ);rw[show((a.text.length:Nat):Int)=((txt a).size:Int)by rw[hts]]at ch;exact a5D
def TA(x:nS IL)(w:M)(v:jC)(E:qF w v x.sub)(N:si x=O):
  jG jy 161 #[nI #[G (txt x.lab),nH x.lab.list,v]] w λe w'=>e=nK (nJ #[G ⟨#[]⟩,Y X 1])/\jD w.heap.size w w':=by
 have I:=H (vF (T:=txt x.lab) (l:=x.lab.list) (t:=IT) E);obtain⟨oa,cap,rfl,J,aa⟩:=oo.slice E;obtain⟨g,hg⟩:=og w.heap.size;have ae:=H (λ(W:M) (h:qF W (u oa x.sub.length cap) x.sub)=>I5 x W _ h);rw[N]at ae;rw[hg]at I|-;clear E J aa N;generalize x.sub.length=aq at*;go_in;go_upto_region 1 with fail;generalize w.alloc (nL #[G (txt x.lab),nH x.lab.list,u oa aq cap] IT)=w1 at*;obtain⟨A,ht1,hsz,c0,c1,c2,_⟩:=I.out _ rfl;have ag:=H ht1;have ah:=H A;have ai:w1.heap.size=g+1:=hsz;clear I ht1 A hsz;go_wp2_with fail;refine(ae _ ag).mono ?_;rintro e w2 ⟨rfl,C⟩;have af:=H (ah.trans (C.mono (show g<=w1.heap.size by omega)));clear C;go_wp2;go_returns;exact⟨rfl,af.out⟩
def a7C(x:nS IL):jC:=if si x then nJ #[G ⟨(enc x).toArray⟩,Y X 0]else nJ #[G ⟨#[]⟩,Y X 1]
def a4O(x:nS IL)(w:M)(v:jC)(C:qF w v x.sub)(E:x.lab.text.length<=jN)(I:si x=R->(enc x).length<=100000):
  jG jy 161 #[nI #[G (txt x.lab),nH x.lab.list,v]] w λe w'=>e=nK (a7C x)/\jD w.heap.size w w':=by
 unfold a7C;cases A:si x with
 |true=>rw[AC rfl];exact Tz x w v C E A (I A)
 |false=>rw[As nX];exact TA x w v C A
end
section
open Go.RowKit Go.Maps
def vJ(c:oO)(t:nS TL)(x:nS IL):An×Int:=if c.fmt=1 then Aq t x c.pq else(if yM t x c.dep c.pq=0 then Cn x else⟨#[]⟩,yM t x c.dep c.pq)
def FU(c:oO)(L:List Row)(nm:An)(x:nS IL):vS×Nat:=match L.find? λr=>At (r.name=nm)with
 |none=>AA c V ⟨#[]⟩ 0
 |some r=>AA c (U r) (vJ c r.ty x).1 (vJ c r.ty x).2.toNat
def vO(c:oO)(L:List Row)(nm:An)(x:nS IL):An×Int:=yc (FU c L nm x).2 (vI c (FU c L nm x).1).1 (vI c (FU c L nm x).1).2
def QH(t:nS TL)(x:nS IL):0<=qY t x:=by unfold qY;split;split;all_goals decide
def a1E(x:nS IL)(a b:Int):0<=wY x a b:=by
 unfold wY;split
 .split
  .decide
  .split<;>decide
 .decide
def a1F(c:oO)(t:nS TL)(x:nS IL):0<=(vJ c t x).2:=by
 unfold vJ;split
 .unfold Aq
  split
  .split
   .split
    .exact(by decide:(0:Int)<=4)
    .exact Int.le_refl _
   .exact QH t x
  .exact(by decide:(0:Int)<=1)
 .show 0<=yM t x c.dep c.pq
  unfold yM KU;split;.exact QH t x
  .split
   .exact a1E x _ _
   .split<;>decide
def TB(t:nS TL)(x:nS IL)(n:Int):(Aq t x n).1.size<=80000000:=by
 unfold Aq;split
 .split
  .rename_i h
   split;.exact ko _
   .have A:=EG h
    have C:=NZ x t (zi A.1) A.2.2;have E:x.count<=1024:=by
     have:=A.2.1;unfold si at this;simp only[jJ,decide_eq_true_eq]at this;exact this.2
    show(⟨(wM x t).toArray⟩:An).size<=_;rw[size_mk];omega
  .exact ko _
 .exact ko _
def XL(x:nS IL)(h:si x=R->(enc x).length<=100000):(Cn x).size<=100000:=by
 unfold Cn;split;.rename_i A;rw[size_mk];exact h A
 .exact ko _
def TC(c:oO)(t:nS TL)(x:nS IL)(h:c.fmt≠1->si x=R->(enc x).length<=100000):(vJ c t x).1.size<=80000000:=by
 unfold vJ;split;.exact TB t x _
 .show ByteArray.size (if _ then _ else _)<=_
  split;.rename_i A _;have:=XL x (h A);omega
  .exact ko _
def a4P(c:oO)(o:Option Row)(T:An)(er:Nat)(A:T.size<=1000000000)(ho:∀r,o=U r->r.id<18446744073709551616/\r.name.size<=jN):
  (AA c o T er).1.id<18446744073709551616/\(AA c o T er).1.name.size<=jN/\(AA c o T er).1.body.size<=1000000000:=by
 cases o with
 |none=>exact⟨(by decide:0<18446744073709551616),ko _,ko _⟩
 |some r=>
  obtain⟨C,E⟩:=ho r rfl;unfold AA;dsimp only;split;.exact⟨(by decide:0<18446744073709551616),ko _,ko _⟩
  .split
   .exact⟨(by decide:0<18446744073709551616),E,A⟩
   .exact⟨C,ko _,A⟩
def a1G(L:List oV)(nm:An):((L.map λx=>x.r).find? λr=>At (r.name=nm))=(L.find? λx=>At (x.r.name=nm)).map λx=>x.r:=by
 rw[List.find?_map];rfl
def a4Q(c:oO)(t:nS TL)(x:nS IL)(ot oi:Option kW)(ct ci:Nat)(w:M)(J:o6 w (u ot t.sub.length ct) t.sub)(N:qF w (u oi x.sub.length ci) x.sub)(C:x.lab.text.length<=jN)(ai:c.fmt≠1->si x=R->(enc x).length<=100000)(aa:qK w)(ae:xW w):
  jG jy (CQ c) #[nI #[Y X c.dep,Y X c.pq],nI #[Y X t.lab.kind,Y X t.lab.size,u ot t.sub.length ct,Y X t.lab.tail],nI #[G (txt x.lab),nH x.lab.list,u oi x.sub.length ci]] w (qi (vJ c t x).1 (vJ c t x).2 w):=by
 have af:=aa.lt;have ag:=ae.lt;have key:∀W,jD w.heap.size w W->o6 W (u ot t.sub.length ct) t.sub/\qF W (u oi x.sub.length ci) x.sub/\qK W/\xW W:=λW h=>⟨Shape.om.below J h,Shape.om.below N h,aa.below h af,ae.below h ag⟩
 unfold CQ vJ;by_cases E:c.fmt=1
 .rw[AC E,AC E]
  exact KO _ _ _ _ _ _ _ _ _ _ _ _ _ _ _ w λW A=>a4I t x c.pq W ot oi ct ci (key W A).1 (key W A).2.1 C (key W A).2.2.1 (key W A).2.2.2
 .rw[As E,As E]
  refine Qp _ _ _ _ _ _ _ _ _ _ _ _ _ _ _ w λW A=> ?_
  refine a1x t x W _ _ (key W A).1 (key W A).2.1 C (λaj ah=> ?_) (key W A).2.2.1 c.dep c.pq;have h:=a4O x aj _ (Shape.om.below (key W A).2.1 ah) C (ai E);unfold a7C at h;unfold Cn KU;split;.rename_i I;rw[AC I]at h;exact h
  .rename_i I;rw[As I]at h;exact h
def Mc(an:Nat->Prop)(sb r bn bi:Nat)(c:oO)(L:List oV)(buf:List Ax)(nd fa:Int)(nm:An)(x:nS IL)(oi:Option kW)(ci:Nat)(w:M)(hc:oL c=R)(aa:c.wf)(hs:Ac w an r sb buf nd fa)(A:∀W,jD w.heap.size w W->qG r bn bi c L W/\qK W/\xW W)(hid:∀y,y∈L->y.r.id<18446744073709551616)(hn:nm.size<=jN)(ae:qF w (u oi x.sub.length ci) x.sub)(af:x.lab.text.length<=jN)(ag:c.fmt≠1->si x=R->(enc x).length<=100000):
  jG jy 15 #[nG (U (Z sb 0 V)),nI #[G nm,G (txt x.lab),nH x.lab.list,u oi x.sub.length ci]] w λe w'=>e=nK (nJ #[G (vO c (L.map λy=>y.r) nm x).1,Y X (vO c (L.map λy=>y.r) nm x).2])/\Ac w' an r sb buf nd fa/\rF an w w':=by
 have J:=(A w (jE _ w)).1.may;obtain⟨o,ho⟩:=og ((L.find? λy=>At (y.r.name=nm)));have C:∀y,o=U y->y∈L:=λy hy=>by rw[hy]at ho;exact mY ho
 obtain⟨T,er,ah⟩:∃(T:An) (er:Nat),FU c (L.map λy=>y.r) nm x=AA c (o.map λy=>y.r) T er/\T.size<=1000000000/\∀y,o=U y->T=(vJ c y.r.ty x).1/\(er:Int)=(vJ c y.r.ty x).2:=by
  unfold FU;rw[a1G,ho];cases o with
  |none=>exact⟨⟨#[]⟩,0,rfl,ko _,λy h=>by cases h⟩
  |some y=>exact⟨_,_,rfl,jM (TC c y.r.ty x ag) nT,λz h=>by cases h;exact⟨rfl,ny (a1F c y.r.ty x)⟩⟩
 obtain⟨ay,ai,az⟩:=ah;have hF:=a4P c (o.map λy=>y.r) T er ai λr aA=>by
  obtain⟨y,hy,rfl⟩:=Option.map_eq_some_iff.1 aA;have:=(J y (C y hy)).2.2;exact⟨hid y (C y hy),xe⟩
 have henc:∀W,jD w.heap.size w W->_:=λW I=>Td r bn bi c L nm (txt x.lab) x.lab.list oi x.sub.length ci T er W (A W I).1 hn λy hy aj ak=>by
  rw[ho]at hy;obtain⟨aB,aC⟩:=az y hy;have hb:=I.trans (ak.mono I.size);have N:=A aj hb;have au:=a4Q c y.r.ty x y.ou oi y.cu ci aj (N.1.sub y (C y hy)) (Shape.om.below ae hb) af ag N.2.1 N.2.2;rw[<-aB,<-aC]at au;exact au
 rw[ho]at henc;rw[<-ay]at henc hF;unfold vO;obtain⟨E,av⟩:=og (FU c (L.map λy=>y.r) nm x);rw[av]at henc hF|-;obtain⟨F,ax⟩:=E;exact Xw an sb r bn bi c L buf nd fa nm (txt x.lab) x.lab.list oi x.sub.length ci F ax _ _ w hs (λW I=>(A W I).1) henc λ_ W _=>a1r c F W hc aa hF.1 hF.2.1 hF.2.2
def a1H(an sb r bn bi:Nat)(c:oO)(L:List oV)(buf:List Ax)(nd fa:Int)(nm:An)(x:nS IL)(oi:Option kW)(ci:Nat)(w:M)(hc:oL c=R)(C:c.wf)(hs:x9 w an r sb buf nd fa)(hlt:an<=sb/\an<=w.heap.size)(A:∀W,jD an w W->qG r bn bi c L W/\qK W/\xW W)(hid:∀y,y∈L->y.r.id<18446744073709551616)(hn:nm.size<=jN)(E:qF w (u oi x.sub.length ci) x.sub)(I:x.lab.text.length<=jN)(J:c.fmt≠1->si x=R->(enc x).length<=100000):
  jG jy 15 #[nG (U (Z sb 0 V)),nI #[G nm,G (txt x.lab),nH x.lab.list,u oi x.sub.length ci]] w λe w'=>e=nK (nJ #[G (vO c (L.map λy=>y.r) nm x).1,Y X (vO c (L.map λy=>y.r) nm x).2])/\x9 w' an r sb buf nd fa/\jD an w w':=by
 refine(Mc _ sb r bn bi c L buf nd fa nm x oi ci w hc C (hs.f hlt.1) (λW h=>A W (h.mono hlt.2)) hid hn E I J).mono ?_;rintro e w' ⟨N,aa,ae⟩;exact⟨N,aa.at_,EA ae hlt.2⟩
end
section
open Go.RowKit
structure Pass(r q:RS)(L:List Ax):Prop where
 t:q.t=r.t
 p:q.p=r.p+L.length/\q.p<=r.t.size
 b:(r.t.data.toList.drop r.p).take L.length=L
def Pass.nil(r:RS)(h:r.p<=r.t.size):Pass r r []:=⟨rfl,⟨rfl,h⟩,rfl⟩
def Pass.trans{a b c:RS}{L aq:List Ax}(h:Pass a b L)(k:Pass b c aq):Pass a c (L++aq):=by
 have e:=h.t;refine⟨k.t.trans e,⟨by rw[k.p.1,h.p.1,jK];omega,e▸k.p.2⟩,?_⟩;have kb:=k.b;rw[e,h.p.1,<-List.drop_drop]at kb;rw[jK,List.take_add,h.b,kb]
def FV{r:RS}{n:Int}(E:r.Ok)(h:(r.take n).1.f=0):Pass r (r.take n).1 (r.take n).2.data.toList:=by
 have A:=(xD E h).2;have hl:(r.take n).2.data.toList.length=(r.take n).2.size:=nX;obtain⟨I,J⟩:=E;unfold RS.take at h A hl|-;split at h
 .rename_i C
  rw[AC C]at A hl|-;rw[As K]at h A hl|-;split at h;.simp at h
  .rename_i hs
   rw[As hs]at A hl|-;dsimp only at A hl|-;have e:(r.t.extract r.p (r.p+n.toNat)).data.toList=(r.t.data.toList.drop r.p).take n.toNat:=by
    rw[ByteArray.data_extract,Array.toList_extract,List.extract_eq_take_drop,Nat.add_sub_cancel_left]
   refine⟨rfl,⟨by show r.p+n.toNat=_;omega,by show r.p+n.toNat<=_;omega⟩,?_⟩;rw[hl,e];congr 1;omega
 .rename_i C;exact absurd h C
def Md{r:RS}{n:Nat}(E:r.Ok)(h:(r.comp n).1.f=0):Pass r (r.comp n).1 (vk (r.comp n).2):=by
 unfold RS.comp at h|-;split at h
 .rename_i A
  rw[AC A];rcases hc:rQ (r.t.data.toList.drop r.p)with⟨N,am,e⟩
  rw[hc]at h;dsimp only at h|-;split at h
  .rename_i h0
   rw[AC h0];have he:e=0:=by
    unfold KG at h0;dsimp only at h0;split at h0;.cases h0
    .omega
   subst he;obtain⟨I,J,C,_⟩:=PG hc;have hk:=zR hc E.1;have hl:(vk N).length=am:=by rw[C,kD];omega
   refine⟨rfl,⟨by rw[hl],hk⟩,?_⟩;rw[hl,C]
  .rename_i h0;exact absurd (by simpa using h) h0
 .rename_i A;exact absurd h A
def EH(a:IL)(s:List (nS IL))(t:nS TL){L:List Ax}(h:wU t a s.length=L):wM (.node a s) t=L++uM s t 0:=by rw[wM,h]
def b0T{t:nS TL}(a:IL)(n:Nat)(h:t.lab.kind=1):wU t a n=vL t.lab.size.toNat (pM a.text).1:=by unfold wU;rw[AC h]
def b0U{t:nS TL}(a:IL)(n:Nat)(A:¬t.lab.kind=1)(h:t.lab.kind=2):wU t a n=a.text:=by unfold wU;rw[As A,AC h]
def b0V{t:nS TL}(a:IL)(n:Nat)(A:¬t.lab.kind=1)(C:¬t.lab.kind=2)(h:t.lab.kind=3):wU t a n=vk a.text.length++a.text:=by unfold wU;rw[As A,As C,AC h]
def b0W{t:nS TL}(a:IL)(n:Nat)(A:¬t.lab.kind=1)(C:¬t.lab.kind=2)(E:¬t.lab.kind=3)(h:t.lab.kind=4):wU t a n=vk n:=by unfold wU;rw[As A,As C,As E,AC h]
def b0X{t:nS TL}(a:IL)(n:Nat)(A:¬t.lab.kind=1)(C:¬t.lab.kind=2)(E:¬t.lab.kind=3)(h:¬t.lab.kind=4):wU t a n=[]:=by unfold wU;rw[As A,As C,As E,As h]
def a4R{t:nS TL}(i:Nat)(h:t.lab.kind=4):qm t i=t.sub[0]? :=by unfold qm;rw[AC h]
def a4S{t:nS TL}(i:Nat)(h:¬t.lab.kind=4):qm t i=t.sub[i]? :=by unfold qm;rw[As h]
def XM{x:nS IL}{xs:List (nS IL)}{t:nS TL}{i:Nat}{y:nS TL}(hy:qm t i=U y):uM (x::xs) t i=wM x y++uM xs t (i+1):=by rw[uM,hy]
def FW{f:nS TL->RS->Nat->RdV}(hk:∀t r l,QX r (f t r l).2.1)(T:nS TL):∀(ts:List (nS TL×Bool))(r:RS)(l i:Nat),r.Ok->(pR f ts r l).2.1.f=0->
  (∀e,e∈ts->∀r l,r.Ok->(f e.1 r l).2.1.f=0->Pass r (f e.1 r l).2.1 (wM (f e.1 r l).1 e.1))->(∀(j:Nat)(e:nS TL×Bool),ts[j]? =U e->qm T (i+j)=U e.1)->
  Pass r (pR f ts r l).2.1 (uM (pR f ts r l).1 T i)/\((∀e,e∈ts->e.2=R)->(pR f ts r l).1.length=ts.length)
 |[],r,l,i,ho,h,hs,A=>⟨Pass.nil r ho.1,λ_=>rfl⟩
 |t::ts,r,l,i,ho,h,hs,A=>by
  unfold pR at h|-;split at h
  .rename_i hc
   rw[AC hc];dsimp only at h|-;have I:=hk t.1 r l;have E:=(zT hk ts _ _).f h;have J:=hs t nX r l ho E;obtain⟨N,aa⟩:=FW hk T ts _ _ (i+1) (I.ok ho) h (λe he=>hs e (by simp[he])) λj e he=>by
    have:=A (j+1) e (by simpa using he);rw[<-this];congr 1;omega
   have hw0:qm T i=U t.1:=A 0 t rfl;rw[XM hw0];exact⟨J.trans N,λC=>by simp only[j4];rw[aa λe he=>C e (by simp[he])]⟩
  .rename_i hc
   rw[As hc];refine⟨Pass.nil r ho.1,λC=> ?_⟩;exact absurd ⟨.inl (C t nX),h⟩ hc
def FX:∀(d:Nat)(t:nS TL)(r:RS)(l:Nat),t.all oJ=R->r.Ok->(pJ d t r l).2.1.f=0->Pass r (pJ d t r l).2.1 (wM (pJ d t r l).1 t)
 |0,t,r,l,_,_,h=>by
  unfold pJ RS.fail at h;split at h;.simp at h
  .rename_i h0;exact absurd h h0
 |d+1,.node a s,r,l,J,ho,h=>by
  have E:∀{r:RS},(r.fail 4).f≠0:=by
   intro r h;unfold RS.fail at h;split at h;.simp at h
   .rename_i h0;exact h0 h
  simp only[nS.all,jJ]at J;obtain⟨af,ae⟩:=J;unfold oJ qo at af;simp only[decide_eq_true_eq]at af;unfold pJ at h|-;by_cases hl:l=0;.rw[AC hl]at h;exact absurd h E
  .rw[As hl]at h|-
   by_cases A:a.kind=1
   .rw[AC A]at h|-
    dsimp only at h|-;have hs:=FV ho h;have ai:=xD ho h;have ak:(r.take a.size).2.data.toList.length=(r.take a.size).2.size:=nX;have e:wM (zS (Bi (r.take a.size).2)) (.node a s)=(r.take a.size).2.data.toList:=by
     unfold zS;rw[EH _ _ _ (b0T (t:=.node a s) _ _ A),uM,List.append_nil];show vL a.size.toNat (pM (AB (Bi (r.take a.size).2)).reverse).1=_;rw[Jl _ (Ho _)];unfold Bi;rw[AC K];have C:a.size.toNat=(r.take a.size).2.data.toList.length:=K;rw[C];exact AU _
    rw[e];exact hs
   .rw[As A]at h|-
    by_cases N:a.kind=2
    .rw[AC N]at h|-
     dsimp only at h|-;have e:wM (uy (r.take a.size).2) (.node a s)=(r.take a.size).2.data.toList:=by
      unfold uy;rw[EH _ _ _ (b0U (t:=.node a s) _ _ A N),uM,List.append_nil]
     rw[e];exact FV ho h
    .rw[As N]at h|-
     by_cases C:a.kind=3
     .rw[AC C]at h|-
      dsimp only at h|-;have hc:=(wI _ _).f h;have I:=ho.comp a.size.toNat;have ai:=(xD I h).2;have e:wM (uy ((r.comp a.size.toNat).1.take (r.comp a.size.toNat).2).2) (.node a s)=vk (r.comp a.size.toNat).2++((r.comp a.size.toNat).1.take (r.comp a.size.toNat).2).2.data.toList:=by
       unfold uy;rw[EH _ _ _ (b0V (t:=.node a s) _ _ A N C),uM,List.append_nil];dsimp only;congr 2;have:((r.comp a.size.toNat).1.take (r.comp a.size.toNat).2).2.data.toList.length=((r.comp a.size.toNat).1.take (r.comp a.size.toNat).2).2.size:=nX;omega
      rw[e];exact(Md ho hc).trans (FV I h)
     .rw[As C]at h|-
      by_cases aa:a.kind=4
      .rw[AC aa]at h|-
       cases s with
       |nil=>exact absurd h E
       |cons t ts=>
        dsimp only at h|-;simp only[nS.pF,jJ]at ae;have hc:=(zT (yF d) _ _ _).f h;have I:=ho.comp a.size.toNat;obtain⟨ag,g2⟩:=FW (yF d) (.node a (t::ts)) _ _ _ 0 I h (λe he r l J ah=>by
         have:e=(t,R):=List.eq_of_mem_replicate he;subst this;exact FX d t r l ae.1 J ah) λj e he=>by
          have:e=(t,R):=List.eq_of_mem_replicate (kE he);subst this;exact a4R (t:=.node a (t::ts)) _ aa
        have hn:=g2 λe he=>by
         have:e=(t,R):=List.eq_of_mem_replicate he;rw[this]
        rw[List.length_replicate]at hn;have e:∀xs:List (nS IL),xs.length=(r.comp a.size.toNat).2->wM (sG xs) (.node a (t::ts))=vk (r.comp a.size.toNat).2++uM xs (.node a (t::ts)) 0:=λxs aj=>by
         unfold sG;rw[EH _ _ _ (b0W (t:=.node a (t::ts)) _ _ A N C aa),aj]
        rw[e _ hn];exact(Md ho hc).trans ag
      .rw[As aa]at h|-
       dsimp only at h|-;obtain⟨ag,_⟩:=FW (yF d) (.node a s) _ _ _ 0 ho h (λe he r l J ah=>by
        unfold uV at he;obtain⟨i,hi,rfl⟩:=List.mem_mapIdx.1 he;exact FX d _ r l (zh ae (List.getElem_mem hi)) J ah) λj e he=>by
         unfold uV at he;rw[List.getElem?_mapIdx]at he;obtain⟨y,hy,rfl⟩:=Option.map_eq_some_iff.1 he;exact(a4S (t:=.node a s) _ aa).trans (by rw[mU];exact hy)
       have e:∀xs:List (nS IL),wM (sG xs) (.node a s)=uM xs (.node a s) 0:=λxs=>by
        unfold sG;rw[EH _ _ _ (b0X (t:=.node a s) _ _ A N C aa),List.nil_append]
       rw[e];exact ag
def a1I{t:nS TL}{s:An}{items:Int}{x:nS IL}(ht:t.all oJ=R)(hs:s.size<=jN)(h:KH t s items=.ok x):(⟨(wM x t).toArray⟩:An)=s:=by
 unfold KH Jn at h;split at h;.cases h
 .rename_i y hy
  split at hy;.cases hy
  .rename_i C
   cases hy;split at h;.cases h
   .rename_i hp
    cases h;have A:(pJ 8 t (RS.of s) (min items 1024).toNat).2.1.f=0:=Classical.not_not.1 C;have g:=FX 8 t (RS.of s) (min items 1024).toNat ht (RS.Ok.of (by unfold jN at hs;omega)) A;dsimp only at hp|-;generalize wM (pJ 8 t (RS.of s) (min items 1024).toNat).1 t=L at*;have e1:=g.p;have e2:=g.b;have E:s.data.toList.length=s.size:=nX;have hL:L=s.data.toList:=by
     rw[<-e2];show(s.data.toList.drop 0).take L.length=s.data.toList;rw[mM];refine kS ?_;have:(RS.of s).p=0:=rfl;omega
    rw[hL]
def a1J(l:List Ax):kM l 0++ky (l.length -(kM l 0).length) 0=l:=by
 have h:=congrArg List.reverse (List.takeWhile_append_dropWhile (p:=λb=>b==(0:Ax)) (l:=l.reverse));rw[List.reverse_append,List.reverse_reverse]at h;have e:kM l 0=(l.reverse.dropWhile λb=>b==(0:Ax)).reverse:=rfl;have A:=congrArg List.length h;rw[jK,<-e]at A;have C:(l.reverse.takeWhile λb=>b==(0:Ax)).reverse=ky (l.length -(kM l 0).length) 0:=by
  refine List.eq_replicate_iff.2 ⟨K,λb hb=> ?_⟩;have:=lN.1 List.all_takeWhile b (List.mem_reverse.1 hb);simpa using this
 rw[<-C,e];exact h
def Ag(s:An)(a b:Nat):(s.extract a b).data.toList=(s.data.toList.drop a).take (b - a):=by
 rw[ByteArray.data_extract,Array.toList_extract,List.extract_eq_take_drop]
def EJ(l:List Ax)(a n:Nat):(l.drop a).take n++l.drop (a+n)=l.drop a:=by
 rw[<-List.drop_drop];exact mO n _
def a1K{s:An}{m most:Int}(h:uT s m most=.ok (F,s.size)):F.id=0/\sJ F.name.data.toList=R/\(F.body.size:Int)<=most/\EC m.toNat F.name F.body=s.data.toList:=by
 unfold uT at h;split at h
 .rename_i h0
  injection h with h
  injection h with hF hn
  have hc:=Jp 9 0 h0;have c1:=r9 nT (show zM s m most 1=0 from hc 1 nT);have c3:=r9 nT (show zM s m most 3=0 from hc 3 nT);have c5:=r9 nT (show zM s m most 5=0 from hc 5 nT);have A:=r9 nT (show zM s m most 8=0 from hc 8 nT);simp only[decide_eq_true_eq]at c5;subst hF;have hl:s.data.toList.length=s.size:=nX;have hb:(s.extract 24 (24+tN s)).size=tN s:=by rw[jP];omega
  have hg:(s.extract 4 16).size=12/\sJ (kM (s.extract 4 16).data.toList 0)=R/\vC s=⟨(kM (s.extract 4 16).data.toList 0).toArray⟩:=by
   unfold vC;unfold Dh at c3|-;split at c3
   .rename_i C
    rw[AC C];exact⟨C.1,C.2,rfl⟩
   .cases c3
  obtain⟨ag,g2,g3⟩:=hg;refine⟨rfl,by show sJ (vC s).data.toList=R;rw[g3];exact g2,by show(((s.extract 24 (24+tN s)).size:Nat):Int)<=most;rw[hb];exact c5,?_⟩;show EC m.toNat (vC s) (s.extract 24 (24+tN s))=s.data.toList;unfold EC;have e1:vL 4 m.toNat=(s.data.toList.drop 0).take 4:=by
   have ah:pQ (s.extract 0 4).data.toList=m.toNat:=by
    have:(pQ (s.extract 0 4).data.toList:Int)=m:=by simpa using c1
    omega
   have E:(s.extract 0 4).data.toList.length=4:=by rw[Ag,kD,kG];omega
   have:=AU (s.extract 0 4).data.toList;rw[E,ah]at this;rw[this,Ag]
  have e2:wZ (vC s)=(s.data.toList.drop 4).take 12:=by
   have ht:=a1J (s.extract 4 16).data.toList;have I:(s.extract 4 16).data.toList.length=12:=by rw[<-ag,kH];rfl
   rw[I]at ht;unfold wZ;rw[g3];have ai:(⟨(kM (s.extract 4 16).data.toList 0).toArray⟩:An).size=(kM (s.extract 4 16).data.toList 0).length:=lK;rw[ai];show kM (s.extract 4 16).data.toList 0++_=_;rw[ht,Ag]
  have e3:vL 4 (s.extract 24 (24+tN s)).size=(s.data.toList.drop 16).take 4:=by
   have E:(s.extract 16 20).data.toList.length=4:=by rw[Ag,kD,kG];omega
   have:=AU (s.extract 16 20).data.toList;rw[E]at this;rw[hb];show vL 4 (pQ (s.extract 16 20).data.toList)=_;rw[this,Ag]
  have e4:checkN (s.extract 24 (24+tN s)).data.toList=(s.data.toList.drop 20).take 4:=by
   have aj:s.extract 20 24=⟨(checkN (s.extract 24 (24+tN s)).data.toList).toArray⟩:=by
    unfold O8 at A;exact Classical.byContradiction λhn=>by rw[RL hn]at A;cases A
   have J:=congrArg (λb:An=>b.data.toList) aj;simp only[List.toList_toArray]at J;rw[<-J,Ag]
  have e5:(s.extract 24 (24+tN s)).data.toList=s.data.toList.drop 24:=by
   rw[Ag];exact kS (by rw[kG];omega)
  rw[e1,e2,e3,e4,e5];have N:=EJ s.data.toList 20 4;have aa:=EJ s.data.toList 16 4;have ae:=EJ s.data.toList 4 12;have af:=EJ s.data.toList 0 4;simp only[Nat.reduceAdd]at N aa ae af;simp only[kX];rw[N,aa,ae];exact af
 .cases h
def QI(hc:oL c=R){t:nS TL}(ht:qc t=R)(N:c.fmt=1->GJ t=R){s:An}(hs:s.size<=jN){x:nS IL}(h:Dv c t s=.ok x):vJ c t x=(s,0):=by
 obtain⟨E,A⟩:=Jo hc ht hs h;unfold Dv at h;unfold vJ;split at h
 .rename_i I
  rw[AC I]at A|-;unfold Aq;unfold wY at A;rw[AC (N I),AC E];have J:=(EG E).2.1;rw[AC J]at A;split at A;.cases A
  .split at A
   .cases A
   .rename_i hm2
    rw[As hm2,a1I (zi ht) hs h]
 .rename_i I
  rw[As I]at A|-;unfold Al at h;rw[AC ht]at h;split at h;.cases h
  .rename_i ae C
   split at h
   .cases h
    have J:=(EG E).2.1;have hp:yM t x c.dep c.pq=0:=by
     unfold yM KU;rw[As (not_not_intro E),As (not_not_intro A),AC J]
    rw[AC hp,hp];unfold Cn;rw[AC J];unfold Eg at C;split at C;.cases C
    .rename_i y hy
     split at C;.cases C
     .rename_i hlt
      cases C;obtain⟨_,af,_,_,_,aa⟩:=D7 _ _ _ _ hy;rw[<-aa,kS K]
   .cases h
def Me:∀{L:List Row}{r:Row},(L.map λr=>r.name).Nodup->r∈L->(L.find? λq=>At (q.name=r.name))=U r
 |x::L,r,h,C=>by
  simp only[mf,List.nodup_cons,List.mem_map,not_exists,not_and]at h;rw[List.find?_cons];rcases l5.1 C with A|A
  .subst A;simp
  .rw[decide_eq_false (λe=>h.1 r A e.symm)]
   exact Me h.2 A
def a5F{b:An}(h:b.size=0):b=⟨#[]⟩:=ByteArray.ext (Array.eq_empty_of_size_eq_zero h)
def a4T(hc:oL c=R){rows:List Row}(hn:(rows.map λr=>r.name).Nodup)(E:∀r,r∈rows->qc r.ty=R/\(c.fmt=1->GJ r.ty=R)){f:vS}(hs:f.body.size<=jN)(h:Dw c rows f=.ok m):
  FU c rows m.name m.val=(f,0)/\J4 c f=R:=by
 unfold Dw at h;split at h;.cases h
 .rename_i r A
  split at h;.cases h
  .rename_i x I
   cases h;have C:=Hq A;have J:=QI hc (E r C).1 (E r C).2 hs I;unfold FU;rw[Me hn C];dsimp only;rw[J];unfold AA J4;dsimp only;rw[As nT];obtain⟨N,fn,fb⟩:=f;unfold ofF at A;dsimp only at A|-;split at A
   .rename_i e1
    rw[AC e1,AC e1];split at A
    .rename_i e2
     have:=List.find?_some A;simp only[decide_eq_true_eq]at this;rw[this,e2];exact⟨rfl,rfl⟩
    .cases A
   .rename_i e1
    rw[As e1,As e1];split at A
    .rename_i e2
     have:=List.find?_some A;simp only[decide_eq_true_eq]at this;rw[this,a5F e2];exact⟨rfl,rfl⟩
    .cases A
def a4U(C:c.fmt≠1){t:nS TL}{x:nS IL}{s:An}(h:vJ c t x=(s,0))(E:si x=R):(enc x).length=s.size:=by
 unfold vJ at h;rw[As C]at h;injection h with A hb
 rw[AC hb]at A;unfold Cn at A;rw[AC E]at A;rw[<-A];exact List.size_toArray.symm
def a4V(hc:oL c=R){rows:List Row}(hn:(rows.map λr=>r.name).Nodup)(C:∀r,r∈rows->qc r.ty=R/\(c.fmt=1->GJ r.ty=R)){s:An}(hs:s.size<=1000){mt E:Option (Nat×MS)}{n:Nat}(h:ru c rows s mt=(.ok (m,n),E)):∃F,pU c s mt=(.ok (F,n),E)/\Dw c rows F=.ok m/\FU c rows m.name m.val=(F,0)/\J4 c F=R/\Typed c rows m/\(c.fmt≠1->si m.val=R->(enc m.val).length<=100000):=by
 unfold ru at h;split at h;.cases h
 .rename_i y m2 hy
  split at h;.cases h
  .rename_i ak hd
   injection h with I hb
   injection I with I
   injection I with ag N
   subst ag hb;obtain⟨F,au⟩:=y;dsimp only at hd N;subst N;have aa:F.body.size<=100000:=by
    have:=(zk hc (s:=s) K (mt:=mt) (by rw[hy])).2.2;exact this
   have A:F.body.size<=jN:=xe;obtain⟨he,J⟩:=a4T hc hn C A hd;refine⟨F,hy,hd,he,J,Sn hc (λr ae=>(C r ae).1) A hd,λf1 ah=> ?_⟩;unfold Dw at hd;split at hd;.cases hd
   .rename_i r af
    split at hd;.cases hd
    .rename_i x ai
     cases hd;have aj:=QI hc (C r (Hq af)).1 (C r (Hq af)).2 A ai;rw[a4U f1 aj ah];exact aa
def XN(hc:oL c=R){rows:List Row}{s:An}(hs:s.size<=1000){mt C:Option (Nat×MS)}(ag:c.fmt≠3)(hy:pU c s mt=(.ok (F,s.size),C))(he:FU c rows m.name m.val=(F,0))(A:J4 c F=R):vO c rows m.name m.val=(s,0):=by
 have af:=(p8 hc).2.1;unfold vO;rw[he];have E:vI c F=(s,0):=by
  have key:yg c F=(s,0)/\(Sr (pU c s V).1).e=0:=by
   by_cases f1:c.fmt=1
   .unfold pU at hy|-
    unfold yg;rw[AC f1]at hy|-;rw[AC f1];injection hy with a _
    obtain⟨ah,I,ai,J⟩:=a1K a;rw[a];unfold vW;rw[AC I,AC K,J];exact⟨rfl,rfl⟩
   .have f2:c.fmt=2:=by have:=(p8 hc).1;omega
    unfold pU at hy|-;unfold yg;rw[As f1,AC f2]at hy|-;rw[As f1,AC f2];injection hy with a _
    rw[a];refine⟨?_,rfl⟩;unfold wX at a;split at a;.cases a
    .rename_i N
     injection a with a
     injection a with aa a2
     have hp:o5 c.pV s=⟨F.id,F.body,s.size,0⟩:=by
      rw[<-aa,<-a2];exact congrArg (PF.mk _ _ _) (Classical.not_not.1 N)
     obtain⟨aj,ak,au,ae⟩:=K4 hp;unfold qC;rw[AC K,ae];refine Prod.ext ?_ rfl;show s.extract 0 s.size=s;exact ByteArray.extract_zero_size
  unfold vI;rw[key.1,key.2,A];rfl
 rw[E];rfl
def TD{most:Int}{id:Nat}{b:An}(hid:id<18446744073709551616)(hb:most<(((ow id).length+b.size:Nat):Int))(A:b.size<=9223372036854775807):o5 most (ve id b)=.bad 5:=by
 have hl:=sQ 10 id (jZ hid nT);have hn:=yt ((ow id).length+b.size) (ow id++b.data.toList) K;rw[<-EY]at hn;have hs:o8 most (ve id b).data.toList=(0,0,5):=by
  unfold o8;rw[hn,AC rfl,AC (.inr hb)]
 have:=AR (most:=most) (s:=ve id b) (by rw[hs];decide);rw[this,hs]
def a5G(hc:oL c=R)(ae:c.fmt=3){s:An}(hs:s.size<=100000){mt m2:Option (Nat×MS)}{n:Nat}(h:pU c s mt=(.ok (F,n),m2)):
  ∃pk,o5 c.pV s=⟨F.id,pk,n,0⟩/\F.id<18446744073709551616/\F.name=⟨#[]⟩/\ry pk c.qH mt=(.ok F.body.data.toList,m2)/\(F.body.size:Int)<=c.qH:=by
 unfold pU uq at h;rw[As K,As K]at h;split at h;.cases h
 .rename_i E
  split at h;.cases h
  .rename_i l N C
   injection h with A hb
   injection A with A
   injection A with I J
   subst I J hb;have hp:o5 c.pV s=⟨(o5 c.pV s).id,(o5 c.pV s).body,(o5 c.pV s).n,0⟩:=congrArg (PF.mk _ _ _) (Classical.not_not.1 E);have aa:=Jq (by have:=Dk c.pV s;unfold jN;omega) C;refine⟨_,hp,(K4 hp).2.1,rfl,C,?_⟩;show(((⟨l.toArray⟩:An).size:Nat):Int)<=c.qH;have:((⟨l.toArray⟩:An)).size=l.length:=lK;omega
def a9A(hc:oL c=R)(af:c.fmt=3)(hid:F.id<18446744073709551616)(hn:F.name=⟨#[]⟩)(ag:(F.body.size:Int)<=c.qH):
  (vI c F).2=5\/((vI c F).2=0/\(vI c F).1.size<=66000/\∀mt,xL F.body.size mt=0->pU c (vI c F).1 mt=(.ok (F,(vI c F).1.size),rD F.body.size mt)):=by
 obtain⟨_,⟨_,ah⟩,⟨_,aa⟩,_⟩:=p8 hc;have C:J4 c F=R:=by
  unfold J4;rw[As K,hn];rfl
 have hput:yg c F=qC F.id (rM F.body):=by
  unfold yg;rw[As K,As K,As K]
 unfold vI;rw[C,hput];unfold EB;rw[As nT];have ae:=J3 F.body K;by_cases E:(ow F.id).length+(rM F.body).size<=65536
 .have e:qC F.id (rM F.body)=(ve F.id (rM F.body),0):=by unfold qC;rw[AC E]
  have I:=Af F.id (rM F.body) hid;rw[e]at I|-;rw[As (not_not_intro rfl)];by_cases N:(((ow F.id).length+(rM F.body).size:Nat):Int)<=c.pV
  .have hp:o5 c.pV (ve F.id (rM F.body))=⟨F.id,rM F.body,(ve F.id (rM F.body)).size,0⟩:=by
    have:=VY c.pV F.id (rM F.body) ⟨#[]⟩ hid N K;rwa [show ve F.id (rM F.body)++(⟨#[]⟩:An)=ve F.id (rM F.body)from ByteArray.append_empty]at this
   have key:∀mt,xL F.body.size mt=0->pU c (ve F.id (rM F.body)) mt=(.ok (F,(ve F.id (rM F.body)).size),rD F.body.size mt):=λmt J=>by
    have hl:F.body.data.toList.length=F.body.size:=nX;have A:=unpack_pack F.body.data.toList K c.qH K mt (by rw[hl];exact J);rw[hl]at A;unfold pU uq;rw[As K,As K,hp];rw[As (not_not_intro rfl)];dsimp only;unfold rM;rw[A];obtain⟨ai,fn,fb⟩:=F;dsimp only at hn|-;rw[hn]
   right;rw[key V rfl];exact⟨rfl,I,key⟩
  .left
   have hb:(Sr (pU c (ve F.id (rM F.body)) V).1).e=5:=by
    unfold pU uq;rw[As K,As K,TD hid K K];rfl
   dsimp only;rw[hb];rfl
 .left
  have e:qC F.id (rM F.body)=(⟨#[]⟩,5):=by unfold qC;rw[As E]
  rw[e];rfl
def a7D(hc:oL c=R)(A:c.fmt=3){rows:List Row}{nm:An}{x:nS IL}(he:FU c rows nm x=(F,0))(hid:F.id<18446744073709551616)(hn:F.name=⟨#[]⟩)(C:(F.body.size:Int)<=c.qH):
  (vO c rows nm x).2=5\/((vO c rows nm x).2=0/\(vO c rows nm x).1.size<=66000/\∀mt,xL F.body.size mt=0->pU c (vO c rows nm x).1 mt=(.ok (F,(vO c rows nm x).1.size),rD F.body.size mt)):=by
 unfold vO;rw[he];rcases a9A hc A hid hn C with h|⟨E,I,J⟩
 .left
  show(yc 0 (vI c F).1 (vI c F).2).2=5;unfold yc;rw[As (not_not_intro rfl),h];rfl
 .right
  have e:yc 0 (vI c F).1 (vI c F).2=((vI c F).1,0):=by
   unfold yc;rw[As (not_not_intro rfl),E,As (not_not_intro rfl)]
  show(yc 0 _ _).2=0/\(yc 0 _ _).1.size<=66000/\∀mt,xL F.body.size mt=0->pU c (yc 0 _ _).1 mt=(.ok (F,(yc 0 _ _).1.size),_);rw[e];exact⟨rfl,I,J⟩
def Yq(mb:Nat)(ch:An):Option (Nat×MS):=U (mb,((MS.new 9223372036854775807).take ch.size).1)
def Mf(s:An):s.extract 0 s.size=s:=ByteArray.extract_zero_size
def VH(c:oO)(rows:List Row)(mb:Nat)(nd:Int)(ch:An)(h:¬(ch.size:Int)<nd):sO c rows mb [] nd 0 ch=
  (λar:ZA=>(ar.told,ch.data.toList.drop ar.at_,if ar.err=2 then(CK c (ch.extract ar.at_ ch.size):Int)else nd,if ar.err=2 then 0 else(ar.err:Int))) (wP c rows ch (ch.size+1) 0 (Yq mb ch)):=by
 have hl:ch.data.toList.length=ch.size:=kH;have e:(⟨ch.data.toList.toArray⟩:An)=ch:=ByteArray.ext nX;unfold sO;rw[As (not_not_intro rfl),List.nil_append,hl,As h,e];rfl
def a1L(hc:oL c=R){rows:List Row}{mb:Nat}{ch:An}(hs:ch.size<=100000)(C:(sO c rows mb [] 0 0 ch).1=[m])(E:(sO c rows mb [] 0 0 ch).2.1=[]):
  ∃m2,ru c rows ch (Yq mb ch)=(.ok (m,ch.size),m2):=by
 rw[VH c rows mb 0 ch K]at C E;dsimp only at C E;have hl:ch.data.toList.length=ch.size:=kH;rcases A:ru c rows ch (Yq mb ch)with⟨ar,m2⟩
 have I:ru c rows (ch.extract 0 ch.size) (Yq mb ch)=(ar,m2):=by rw[Mf];exact A
 cases ar with
 |error er=>rw[Bq c rows ch ch.size 0 _ I]at C;cases C
 |ok y=>
  rw[zt c rows ch ch.size 0 _ I]at C E;dsimp only at C E;obtain⟨af,y2⟩:=y;injection C with a b
  dsimp only at a b E;have hy:y2<=ch.size:=by
   unfold ru at A;split at A;.cases A
   .rename_i q ag aa
    have:=zk hc hs (mt:=Yq mb ch) (y:=q) (by rw[aa]);split at A;.cases A
    .injection A with e1 _
     injection e1 with e1
     injection e1 with _ e2
     omega
  have J:(wP c rows ch ch.size (0+y2) m2).at_=y2:=by
   rw[mU]at b|-;cases ae:ch.size with
   |zero=>rfl
   |succ n=>
    rw[ae]at b;rcases N:ru c rows (ch.extract y2 ch.size) m2 with⟨ar,ah⟩
    cases ar with
    |error er=>rw[Bq c rows ch n y2 _ N]
    |ok z=>rw[zt c rows ch n y2 _ N]at b;cases b
  rw[J]at E;have:=List.drop_eq_nil_iff.1 E;have e:y2=ch.size:=K;subst a;rw[e];exact⟨m2,rfl⟩
def a7E(mb:Nat)(ch:An)(n:Nat)(hs:ch.size<=1000000)(hn:n<=1000000):xL n (Yq mb ch)=0:=by
 have A:(MS.new 9223372036854775807).take ch.size=(⟨9223372036854775807,ch.size,ch.size,Rf 0 ch.size⟩,0):=by
  have e:MS.new 9223372036854775807=⟨9223372036854775807,0,0,0⟩:=rfl;rw[e];unfold MS.take;dsimp only;rw[As K,As K];simp
 unfold Yq xL;rw[A];unfold MS.take;dsimp only;rw[As K,As K]
def a1M(hc:oL c=R)(A:c.fmt=3)(mt:Option (Nat×MS)):(pU c ⟨#[]⟩ mt).1=.error 2:=by
 unfold pU uq;rw[As K,As K];rfl
def Ka(hc:oL c=R)(E:c.fmt=3){rows:List Row}{mb:Nat}{ch:An}{m2:Option (Nat×MS)}(h:ru c rows ch (Yq mb ch)=(.ok (m,ch.size),m2))(hp:0<ch.size):
  sO c rows mb [] 0 0 ch=([m],[],0,0):=by
 rw[VH c rows mb 0 ch K];have C:ru c rows (ch.extract 0 ch.size) (Yq mb ch)=(.ok (m,ch.size),m2):=by rw[Mf];exact h
 rw[zt c rows ch ch.size 0 _ C];obtain⟨n,hn⟩:∃n,ch.size=n+1:=⟨ch.size - 1,K⟩;have he:ch.extract ch.size ch.size=⟨#[]⟩:=a5F nX;have A:=a1M hc E m2;have I:ru c rows (ch.extract ch.size ch.size) m2=(.error 2,(pU c ⟨#[]⟩ m2).2):=by
  rw[he];unfold ru;rcases J:pU c ⟨#[]⟩ m2 with⟨ar,N⟩
  rw[J]at A;dsimp only at A;subst A;rfl
 have hl:ch.data.toList.length=ch.size:=kH;have hcut:wP c rows ch ch.size (0+ch.size) m2=⟨[],ch.size,2,(pU c ⟨#[]⟩ m2).2⟩:=by
  rw[mU];conv=>lhs;arg 4;rw[hn]
  exact Bq c rows ch n ch.size _ I
 dsimp only;rw[hcut];dsimp only;rw[AC rfl,AC rfl,he,List.drop_of_length_le K];have:CK c ⟨#[]⟩=0:=by
  unfold CK;rw[As K];rfl
 rw[this];rfl
end
section
open Go.RowKit Go.Maps
def Ac.kp{w w':M}{F F':Nat->Prop}{r sb:Nat}{buf:List Ax}{nd fa:Int}(h:Ac w F r sb buf nd fa)(k:rF F' w w')(hF:∀b,b<w.heap.size->F b->¬F' b):Ac w' F r sb buf nd fa:=by
 obtain⟨bv,la,tt,se,A,C,E,I⟩:=h;exact⟨bv,la,tt,se,k.blk A (hF _ A.lt E),C.kp k λb hb=>hF b (oI.blk C b hb).2 (I b hb),E,I⟩
end
section
open Go.RowKit
def uz(b:Nat):Nat:=if b % 4=0 then(if 60<=b/4 then b/4 - 58 else 1)else if b % 4=1 then 2 else if b % 4=2 then 3 else 5
def Il(h:p:=by
 go_in;go_wp2;go_returns;exact⟨by rw[HQ.out];rfl,rfl⟩):p:=h
def QJ(b:Nat)(w:M)(hb:b<=255):jG jy 153 #[Y X b] w λe w'=>e=nK (Y X (uz b:Nat))/\w'=w:=by
 obtain⟨ar,E⟩:=og (uz b);have C:=H E;rw[E];clear E;obtain⟨v,I⟩:∃v:Nat,b/4=v:=⟨_,rfl⟩;obtain⟨m,J⟩:∃m:Nat,b % 4=m:=⟨_,rfl⟩;have A:jI (b/4=v/\b % 4=m):=H ⟨I,J⟩;have e1:(b:Int).tdiv 4=(v:Int):=by rw[Int.tdiv_eq_ediv_of_nonneg K,<-I];omega
 have e2:(b:Int).tmod 4=(m:Int):=by rw[Int.tmod_eq_emod_of_nonneg K,<-J];omega
 have N:v<=63:=K;have aa:m<=3:=K;clear I J;rcases m with _|_|_|_|m
 .by_cases c:60<=v
  .have HQ:jI (ar=v - 58):=H (by rw[<-C.out];unfold uz;rw[A.1,A.2,AC rfl,AC c])
   go_in;go_wp2;go_returns;have e3:((v - 58:Nat):Int)=1+(v:Int) - 59:=K;exact⟨by rw[HQ.out,e3];rfl,rfl⟩
  .have HQ:jI (ar=1):=H (by rw[<-C.out];unfold uz;rw[A.1,A.2,AC rfl,As c])
   exact Il
 .have HQ:jI (ar=2):=H (by rw[<-C.out];unfold uz;rw[A.2];rfl)
  exact Il
 .have HQ:jI (ar=3):=H (by rw[<-C.out];unfold uz;rw[A.2];rfl)
  exact Il
 .have HQ:jI (ar=5):=H (by rw[<-C.out];unfold uz;rw[A.2];rfl)
  exact Il
 .omega
def N7(s:An)(w:M)(J:s.size<=4):jG jy 154 #[G s] w λe w'=>e=nK (Y X (pQ s.data.toList:Nat))/\w'=w:=by
 have aa:=H (R6 s w xe);have A:(⟨s.data.toList.reverse.toArray⟩:An).size<=8:=by
  have:(⟨s.data.toList.reverse.toArray⟩:An).size=s.data.toList.reverse.length:=lK;rw[this,List.length_reverse];simp;omega
 have C:=H (R7 ⟨s.data.toList.reverse.toArray⟩ w A);have E:tX (⟨s.data.toList.reverse.toArray⟩:An).data.toList=pQ s.data.toList:=by
  unfold tX;show pQ (s.data.toList.reverse.toArray.toList.reverse)=_;rw[List.toList_toArray,List.reverse_reverse]
 rw[E]at C;have hlt:pQ s.data.toList<4294967296:=by
  have I:=sZ s.data.toList;have ae:s.data.toList.length=s.size:=nX;rw[ae]at I;exact jZ I (jM (lG nT J) nT)
 generalize pQ s.data.toList=N at*;generalize (⟨s.data.toList.reverse.toArray⟩:An)=T at*;clear A E;go_in;go_wp2_with fail;refine aa.mono ?_;rintro e w2 ⟨rfl,rfl⟩;go_wp2_with fail;refine C.mono ?_;rintro e w3 ⟨rfl,rfl⟩;exact zG
def Kb(s:An)(n k:Nat)(w:M)(hs:s.size<=jN)(h:oC s.data.toList 0 0=(n,k,0))(hn:n<=4294967295)(hk:k<=10):jG jy 76 #[G s] w λe w'=>e=nK (nJ #[Y X (n:Nat),Y X (k:Nat),Y X 0])/\w'=w:=by
 have A:=xm s w hs;rw[h]at A;unfold Mv at A;dsimp only at A;have A:=H A;have e1:At ((n:Int)>4294967295)=O:=nY;clear h;go_in;go_wp2_with fail;refine A.mono ?_;rintro e w2 ⟨rfl,rfl⟩;exact zG
end
end Go.Proofs.YtamfcjmhnndbdaaGreatDoor


