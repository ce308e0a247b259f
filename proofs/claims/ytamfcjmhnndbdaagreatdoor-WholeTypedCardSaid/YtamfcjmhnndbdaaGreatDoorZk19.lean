/- Part 19 of the proof. -/
import Derived.Test.YtamfcjmhnndbdaaGreatDoorZk00
import Derived.Test.YtamfcjmhnndbdaaGreatDoorZk09
import Derived.Test.YtamfcjmhnndbdaaGreatDoorZk06
import Derived.Test.YtamfcjmhnndbdaaGreatDoorZk07
import Derived.Test.YtamfcjmhnndbdaaGreatDoorZk08
import Derived.Test.YtamfcjmhnndbdaaGreatDoorZk13
import Derived.Test.YtamfcjmhnndbdaaGreatDoorZk15
import Derived.Test.YtamfcjmhnndbdaaGreatDoorZk17
import Derived.Test.YtamfcjmhnndbdaaGreatDoorZk18
open Go.Value renaming agg→lC,bool→lu,int→lg,pointer→lq,slice→lh,string→ll,tuple→lD,slice→jD
open Go.Obj renaming cells→lG
open Go.IntKind renaming i64→lH,u32→lJ
open Go.Ending renaming returned→lF
open Go.Lib renaming hid→iF
open Go.Proofs.Tryz renaming prog→iG
open Go renaming World→iH,Value→iJ,Calls→iU,maxLen→jb,TypeId→jg,undef→jo,Addr→kr,Oper→kH,wpQuiet_nil→kS
open Nat renaming le_refl→iI,lt_succ_self→jE,le_add_right→ku
open Go.RowKit renaming Below→iK,Hid→iW,intOf→jA
open Go.RowKit.Below renaming refl→iL,heap_setCell→iX
open List renaming getElem?_cons_succ→iM,setIfInBounds_toArray→iN,getElem?_cons_zero→iO,getElem?_toArray→iP,set_cons_zero→iR,set_cons_succ→iT,getElem?_eq_getElem→iZ,mem_of_getElem?→jc,take_succ_cons→ji,length_append→jv,take_zero→jC,getElem?_eq_some_iff→jH,length_drop→jS,getD_eq_getElem?_getD→ko,take_length→kz
open And renaming intro→iQ
open Bool renaming and_eq_true→iY
open Go.World renaming setCell→jf
open Go.Code renaming region→jJ
open Array renaming length_toList→jM
open Go.Act renaming put→jZ
open ByteArray renaming empty→kE
open Option.some renaming inj→kK,injEq→kM
open Go.Instr renaming makeFunc→kL
namespace Go.Proofs.YtamfcjmhnndbdaaGreatDoor
set_option linter.unusedVariables false
set_option linter.unusedSimpArgs false
set_option maxRecDepth 100000
set_option maxHeartbeats 8000000
variable {c:mU}
section
open Go.RowKit
def tF(c:mU)(rows:List Row)(mb:Nat)(buf:List UInt8)(nd fa:Int)(ch:ByteArray):List Cb×List UInt8×Int×Int:=
 if fa≠0 then([],buf,nd,fa)
 else if(((buf++ch.data.toList).length:Nat):Int)<nd then([],buf++ch.data.toList,nd,fa)
 else(λR:WW=>(R.told,(buf++ch.data.toList).drop R.at_,if R.err=2 then(EC c ((⟨(buf++ch.data.toList).toArray⟩:ByteArray).extract R.at_ (⟨(buf++ch.data.toList).toArray⟩:ByteArray).size):Int)else nd,if R.err=2 then fa else(R.err:Int)))
  (tK c rows ⟨(buf++ch.data.toList).toArray⟩ ((buf++ch.data.toList).length+1) 0 (some (mb,((MS.new 9223372036854775807).take ch.size).1)))
def tH(w:iH)(G r sb:Nat)(buf:List UInt8)(nd fa:Int):Prop:=∃bv la tt se,lN w sb (Cy r bv nd fa la tt se) Ir/\mI w G uq bv buf
structure La(c:mU)(rows:List Row)(G r sb mb:Nat)(buf:List UInt8)(nd fa:Int)(ch:ByteArray)(w:iH)(lv:iJ)(Lm:List Cx)(w':iH):Prop where
 own:oh w' (λd=>w.heap.size<=d) lv Lm
 told:Lm.map (λy=>y.m)=(tF c rows mb buf nd fa ch).1
 ses:tH w' G r sb (tF c rows mb buf nd fa ch).2.1 (tF c rows mb buf nd fa ch).2.2.1 (tF c rows mb buf nd fa ch).2.2.2
 nV:iK G w w'
structure wQ(w0:iH)(G sb r:Nat)(bv:iJ)(buf:List UInt8)(nd fa la tt se:Int)(W:iH):Prop where
 ss:lN W sb (Cy r bv nd fa la tt se) Ir
 ob:mI W G uq bv buf
 bw:iK G w0 W
 lt:G<=sb/\sb<w0.heap.size/\G<=w0.heap.size
section
variable {w0:iH}{G sb r:Nat}{bv bv2:iJ}{buf a1D:List UInt8}{nd fa la tt se:Int}{W W':iH}
theorem wQ.below(h:wQ w0 G sb r bv buf nd fa la tt se W)(hb:iK W.heap.size W W'):wQ w0 G sb r bv buf nd fa la tt se W':=
 ⟨Below.blk hb h.ss h.ss.lt,h.ob.kp (qp.of (F:=λ_=>False) hb) (λ_ _ h=>h),h.bw.trans (hb.mono (by have:=h.lt;have:=h.bw.size;omega)),h.lt⟩
theorem wQ.ne(h:wQ w0 G sb r bv buf nd fa la tt se W):∀b,bv.ownBlock=some b->b≠sb:=λb hb=>EE h.ob hb h.ss
theorem wQ.kp(h:wQ w0 G sb r bv buf nd fa la tt se W)(i:Nat)(v:iJ):mI (W.setCell ⟨sb,i,none⟩ v) G uq bv buf:=
 h.ob.kp (qp.set (F:=λd=>d=sb) (p:=⟨sb,i,none⟩) (qp.refl _ W) (λ_=>rfl) v) λb hb e=>h.ne b hb e
theorem wQ.bwp(h:wQ w0 G sb r bv buf nd fa la tt se W)(i:Nat)(v:iJ):iK G w0 (W.setCell ⟨sb,i,none⟩ v):=h.bw.setCell (p:=⟨sb,i,none⟩) h.lt.1 v
theorem wQ.nY(h:wQ w0 G sb r bv buf nd fa la tt se W)(x:Int):wQ w0 G sb r bv buf nd fa x tt se (W.setCell ⟨sb,4,none⟩ (lg lH x)):=⟨h.ss.set 4 _,h.kp 4 _,h.bwp 4 _,h.lt⟩
theorem wQ.a3B(h:wQ w0 G sb r bv buf nd fa la tt se W)(x:Int):wQ w0 G sb r bv buf nd fa la x se (W.setCell ⟨sb,5,none⟩ (lg lH x)):=⟨h.ss.set 5 _,h.kp 5 _,h.bwp 5 _,h.lt⟩
theorem wQ.grow(h:wQ w0 G sb r bv buf nd fa la tt se W)(hg:W.grownBy W' bv.ownBlock)(ho:mI W' G uq bv2 a1D):wQ w0 G sb r bv2 a1D nd fa la tt se (W'.setCell ⟨sb,1,none⟩ bv2):=by
 have A:=mY h.ss hg h.ne;have C:=mI.blk h.ob;refine⟨A.set 1 _,ho.kp (qp.set (F:=λd=>d=sb) (p:=⟨sb,1,none⟩) (qp.refl _ W') (λ_=>rfl) bv2) (λb hb e=>EE ho hb A e),(h.bw.trans (qp.below (F:=λd=>bv.ownBlock=some d) (qp.grown hg λ_ e=>e) (λc hc E=>by have:=C c E;omega) (by have:=h.lt;have:=h.bw.size;omega))).setCell (p:=⟨sb,1,none⟩) h.lt.1 bv2,h.lt⟩
theorem wQ.upd(h:wQ w0 G sb r bv buf nd fa la tt se W){b:Nat}(A:ng b W W')(hb:sb<b)(ho:∀d,bv.ownBlock=some d->d≠b)(J:G<=b):wQ w0 G sb r bv buf nd fa la tt se W':=by
 have k:qp (λd=>d=b) W W':=qp.mono (qp.of2 (F:=λd=>d=b) (b:=b) (q:=b) ⟨A.os,A.tape,A.output,A.size,λk hk E _=>A.block k hk λe=>E (kK e)⟩ (λ_=>rfl) (λ_=>rfl)) λ_ _ h=>h
 exact⟨k.blk h.ss (by show sb≠b;omega),h.ob.kp k ho,h.bw.trans (k.below (λc hc C=>by have C:c=b:=C;omega) (by have:=h.lt;have:=h.bw.size;omega)),h.lt⟩
end
theorem Lb(c:mU)(rows:List Row)(s:ByteArray):∀(n p:Nat)(mt:Option (Nat×MS)),mr (tK c rows s n p mt).mt=mr mt
 |0,p,mt=>rfl
 |n+1,p,mt=>by
  have h:=Bp c rows (s.extract p s.size) mt;rcases hs:qG c rows (s.extract p s.size) mt with⟨R,m2⟩
  rw[hs]at h;cases R with
  |error er=>rw[KT c rows s n p mt hs];exact h
  |ok y=>rw[Gj c rows s n p mt hs];exact(Lb c rows s n _ m2).trans h
theorem a0e{rows:List Row}{G r sb mb:Nat}{buf A:List UInt8}{nd:Int}{ch:ByteArray}{w w5 N:iH}{C:MS}{Q:Option kr}{U:Nat}{la tt se:Int}{e:Ending}(h:wE G sb r mb c rows C Q U A nd 0 la tt se w5 e N)(ae:buf++ch.data.toList=A)(af:((MS.new 9223372036854775807).take ch.size).1=C)(hI:wQ w G sb r (lh Q A.length U) A nd 0 la tt se w5)(ag:Wh w5 mb C)(av:w.heap.size<=mb)(ay:G<=mb):
  ∃(oa:Option kr) (cap:Nat) (Lm:List Cx) (ah:iJ) (b6:List UInt8) (V Y:Int) (E:MS),e=lF (lh oa Lm.length cap)/\wQ w G sb r ah b6 V Y la tt se N/\Wh N mb E/\oh N (λd=>w.heap.size<=d) (lh oa Lm.length cap) Lm/\tF c rows mb buf nd 0 ch=(Lm.map (λy=>y.m),b6,V,Y):=by
 unfold tF;rw[if_neg lU,ae,af];unfold wE at h;by_cases Z:(A.length:Int)<nd
 .rw[if_pos Z]at h⊢
  obtain⟨rfl,hb⟩:=h;exact⟨none,0,[],_,A,nd,0,C,rfl,hI.below hb,Below.blk hb ag ag.lt,oh.nil _ _,rfl⟩
 .rw[if_neg Z]at h⊢
  obtain⟨lv,rfl,hk⟩:=h;have hrow:=Lb c rows ⟨A.toArray⟩ (A.length+1) 0 (some (mb,C));generalize tK c rows ⟨A.toArray⟩ (A.length+1) 0 (some (mb,C))=R at*;obtain⟨Lm,⟨oa,cap,rfl⟩,aa,O⟩:=hk.msgs;obtain⟨bo',bc',ai,aj,ax⟩:=hk.ses;obtain⟨told,at_,err,mt⟩:=R;obtain⟨E,rfl⟩:∃E,mt=some (mb,E):=by
   cases mt with
   |none=>cases hrow
   |some q=>obtain⟨az,au⟩:=q;cases hrow;exact⟨au,rfl⟩
  have aA:=hI.bw.size;have hlt:=hI.lt;have ak:=mI.blk hI.ob;refine⟨oa,cap,Lm,_,_,_,_,E,rfl,⟨ai,aj,hI.bw.trans (hk.kp.below (λd hd J=> ?_) lK),hlt⟩,hk.mt.1,oh.keep aa (iI _) (λ_ _ _=>rfl) (λd _ hd=>by have hd:w5.heap.size<=d:=hd;omega),?_⟩
  .rcases J with J|J|J
   .omega
   .omega
   .have:=ak d J;omega
  .rw[O]
def IQ:List kH:=[⟨some 18,.move (.tmp 0),28,"session.go:43",#[⟨4,.gcOnly .lateStores⟩],none⟩,⟨some 19,.nilCheck (.tmp 18),0,"session.go:43",#[⟨0,.data⟩,⟨4,.gcOnly .lateStores⟩],none⟩,⟨some 20,.fieldAddr 88 (.tmp 19) 3,0,"session.go:43",#[⟨1,.data⟩,⟨4,.gcOnly .lateStores⟩],none⟩,⟨some 21,.load 36 (.tmp 20),36,"session.go:43",#[⟨2,.data⟩,⟨4,.gcOnly .lateStores⟩],none⟩,⟨some 4,.assign (.const (.slice none 0 0)),35,"session.go:43",#[⟨0,.textOnly .lateStores⟩,⟨1,.textOnly .lateStores⟩,⟨2,.textOnly .lateStores⟩,⟨3,.textOnly .lateStores⟩],none⟩,⟨some 5,.assign (.tmp 21),36,"session.go:43",#[⟨3,.data⟩,⟨4,.chain⟩,⟨0,.phase⟩,⟨1,.phase⟩,⟨2,.phase⟩,⟨3,.phase⟩,⟨4,.phase⟩],none⟩]
section
variable (w0:iH)(G sb r:Nat)(bv:iJ)(buf:List UInt8)(nd fa la tt se:Int)(Bs:iH->Prop)
def NM:Nat->iJ
 |0=> lq (some ⟨sb,0,none⟩)
 |1=> lq (some ⟨sb,0,none⟩)
 |2=> lq (some ⟨sb,3,none⟩)
 |3=> lg lH fa
 |4=> lh none 0 0
 |5=> lg lH fa
 |_=>jo
structure a3C(D:Nat->Bool)(vs:Nat->iJ)(w:iH):Prop where
 mh:wQ w0 G sb r bv buf nd fa la tt se w/\Bs w
 val:∀j,(true)=true->D j=true->vs j=NM sb fa j
variable {w0 G sb r bv buf nd fa la tt se Bs}
theorem a0f{id:Nat}{Q:Exit->Act->iH->Prop}{a0:Act}{J:iH}(ht0:a0.tmps.getD 0 jo=lq (some ⟨sb,0,none⟩))(hsz:a0.tmps.size=58)(hI0:∀vs:Nat->iJ,(λw=>wQ w0 G sb r bv buf nd fa la tt se w/\Bs w) J.drew)(N:∀(vs:Nat->iJ) (w:iH),wQ w0 G sb r bv buf nd fa la tt se w/\Bs w->Q .normal {a0 with tmps:=((((((a0.tmps.setIfInBounds 18 (lq (some ⟨sb,0,none⟩))).setIfInBounds 19 (lq (some ⟨sb,0,none⟩))).setIfInBounds 20 (lq (some ⟨sb,3,none⟩))).setIfInBounds 21 (lg lH fa)).setIfInBounds 4 (lh none 0 0)).setIfInBounds 5 (lg lH fa))} w):
  (jJ id IQ.toArray true).wp iG Q a0 J:=by
 refine l6 6 58 (a3C w0 G sb r bv buf nd fa la tt se Bs) lQ hsz lQ (.inl rfl) lQ ?_ ?_ ?_;.exact oo
 .refine pO λA U=> ?_
  clear hI0 N hsz;replace ht0:=iF ht0;unfold IQ;simp only[ji,jC,o6];refine⟨?_,?_,?_,?_,?_,?_,trivial⟩<;>(intro D vs a w K hI hd E hw2 C V;subst U;unfold IQ);have af:=(C 0 lM).trans ht0.out;rotate_left;have Z:=fe C hI.val E 18 0;rotate_left;have aa:=fe C hI.val E 19 1;rotate_left;have O:=fe C hI.val E 20 2;simp only[NM]at O;have hB:=hI.mh.1.ss;have c0:=hB.cell 3;simp only[Cy,iP,iO,iM]at c0;clear hB;rotate_left;rotate_left;have ae:=fe C hI.val E 21 3;rotate_left
  all_goals
   try simp only[NM]at*
   go_simp;exact V _ _ _ rfl ⟨hI.mh,ry hI.val⟩
 .intro D vs w Y hI
  have E:=hI.mh;have q:=N vs w E;rw[mQ hI.val Y];unfold IQ;exact om
end
def Dl:List kH:=[⟨some 53,.move (.tmp 7),35,"session.go:51",#[],none⟩,⟨some 54,.move (.tmp 0),28,"session.go:51",#[⟨5,.gcOnly .lateStores⟩],none⟩,⟨some 55,.nilCheck (.tmp 54),0,"session.go:51",#[⟨1,.data⟩,⟨5,.gcOnly .lateStores⟩],none⟩,⟨some 56,.fieldAddr 88 (.tmp 55) 3,0,"session.go:51",#[⟨2,.data⟩,⟨5,.gcOnly .lateStores⟩],none⟩,⟨some 57,.load 36 (.tmp 56),36,"session.go:51",#[⟨3,.data⟩,⟨5,.gcOnly .lateStores⟩],none⟩,⟨some 4,.assign (.tmp 53),35,"session.go:51",#[⟨0,.data⟩,⟨0,.phase⟩,⟨1,.textOnly .lateStores⟩,⟨2,.textOnly .lateStores⟩,⟨3,.textOnly .lateStores⟩,⟨4,.textOnly .lateStores⟩],none⟩,⟨some 5,.assign (.tmp 57),36,"session.go:51",#[⟨4,.data⟩,⟨5,.chain⟩,⟨0,.phase⟩,⟨1,.phase⟩,⟨2,.phase⟩,⟨3,.phase⟩,⟨4,.phase⟩,⟨5,.phase⟩],none⟩]
section
variable (w0:iH)(G sb r:Nat)(bv:iJ)(buf:List UInt8)(nd fa la tt se:Int)(Bs:iH->Prop)(lv:iJ)
def IU:Nat->iJ
 |0=>lv
 |1=> lq (some ⟨sb,0,none⟩)
 |2=> lq (some ⟨sb,0,none⟩)
 |3=> lq (some ⟨sb,3,none⟩)
 |4=> lg lH fa
 |5=>lv
 |6=> lg lH fa
 |_=>jo
structure a1E(D:Nat->Bool)(vs:Nat->iJ)(w:iH):Prop where
 mh:wQ w0 G sb r bv buf nd fa la tt se w/\Bs w
 val:∀j,(true)=true->D j=true->vs j=IU sb fa lv j
variable {w0 G sb r bv buf nd fa la tt se Bs lv}
theorem X5{id:Nat}{Q:Exit->Act->iH->Prop}{a0:Act}{J:iH}(Ch:a0.tmps.getD 7 jo=lv)(ht0:a0.tmps.getD 0 jo=lq (some ⟨sb,0,none⟩))(hsz:a0.tmps.size=58)(hI0:∀vs:Nat->iJ,(λw=>wQ w0 G sb r bv buf nd fa la tt se w/\Bs w) J.drew)(N:∀(vs:Nat->iJ) (w:iH),wQ w0 G sb r bv buf nd fa la tt se w/\Bs w->Q .normal {a0 with tmps:=(((((((a0.tmps.setIfInBounds 53 (lv)).setIfInBounds 54 (lq (some ⟨sb,0,none⟩))).setIfInBounds 55 (lq (some ⟨sb,0,none⟩))).setIfInBounds 56 (lq (some ⟨sb,3,none⟩))).setIfInBounds 57 (lg lH fa)).setIfInBounds 4 (lv)).setIfInBounds 5 (lg lH fa))} w):
  (jJ id Dl.toArray true).wp iG Q a0 J:=by
 refine l6 7 58 (a1E w0 G sb r bv buf nd fa la tt se Bs lv) lQ hsz lQ (.inl rfl) lQ ?_ ?_ ?_;.exact oo
 .refine pO λA U=> ?_
  clear hI0 N hsz;replace Ch:=iF Ch;replace ht0:=iF ht0;unfold Dl;simp only[ji,jC,o6];refine⟨?_,?_,?_,?_,?_,?_,?_,trivial⟩<;>(intro D vs a w K hI hd E hw2 C V;subst U;unfold Dl);have ag:=(C 7 lM).trans Ch.out;rotate_left;have ah:=(C 0 lM).trans ht0.out;rotate_left;have Z:=fe C hI.val E 54 1;rotate_left;have aa:=fe C hI.val E 55 2;rotate_left;have O:=fe C hI.val E 56 3;simp only[IU]at O;have hB:=hI.mh.1.ss;have c0:=hB.cell 3;simp only[Cy,iP,iO,iM]at c0;clear hB;rotate_left;have ae:=fe C hI.val E 53 0;rotate_left;have af:=fe C hI.val E 57 4;rotate_left
  all_goals
   try simp only[IU]at*
   go_simp;exact V _ _ _ rfl ⟨hI.mh,ry hI.val⟩
 .intro D vs w Y hI
  have E:=hI.mh;have q:=N vs w E;rw[mQ hI.val Y];unfold Dl;exact om
end
theorem Lc(G sb r bn bi:Nat)(c:mU)(L:List mW)(buf:List UInt8)(nd fa:Int)(ch:ByteArray)(w:iH)(hc:mK c=true)(aM:c.wf)(hs:tH w G r sb buf nd fa)(hlt:G<=sb/\G<=w.heap.size)(hlen:buf.length+ch.size<=100000)(ak:∀W,iK G w W->ow r bn bi c L W/\oG W/\yK W):
  iU iG 13 #[lq (some ⟨sb,0,none⟩),ll ch] w λe w'=>∃mb lv Lm,e=lF (lD #[lv,lg lH (tF c (L.map λx=>x.r) mb buf nd fa ch).2.2.2])/\La c (L.map λx=>x.r) G r sb mb buf nd fa ch w lv Lm w':=by
 obtain⟨bv,la,tt,se,O,au⟩:=hs;obtain⟨bo,bc,rfl⟩:=mI.form au;obtain⟨g,hg⟩:=lV w.heap.size;have aJ:=iF (show wQ w G sb r (lh bo buf.length bc) buf nd fa la tt se w from⟨O,au,iL G w,hlt.1,O.lt,hlt.2⟩);have av:=iF ak;have bE:=iF (iQ hc aM);have bF:=iF hlen;have c4:=O.cell 4;have c3:=O.cell 3;have f4:=O.free 4;simp only[Cy,iP,iO,iM]at c3 c4;clear O au hlt hlen ak hc aM;by_cases aK:fa=0
 .have t0:(fa !=0)=false:=by simp[aK]
  have bz:=iF aK;have E:=aJ.out.nY 0;go_in;go_upto_region 6 with fail;generalize w.setCell ⟨sb,4,none⟩ (lg lH 0)=w1 at*;have Z:=iF E;clear E c4 c3 f4 aJ;have bG:=iF (LM 9223372036854775807 w1);go_wp2_with fail;refine bG.out.mono ?_;rintro e w2 ⟨rfl,J,V,ax⟩;obtain⟨mb,ay⟩:=lV w1.heap.size;rw[ay]at ax V J⊢;have bH:=iF (Du mb (MS.new 9223372036854775807) ch.size w2 (MS.Ok.new _ lM) ax);have U:iW (wQ w G sb r (lh bo buf.length bc) buf nd fa 0 tt se w2/\mb<w2.heap.size/\G<=mb/\sb<mb/\w.heap.size<=mb/\∀b,(jD bo buf.length bc).ownBlock=some b->b<mb):=iF (by
   have E:=Z.out;have l:=E.lt;have bW:=E.bw.size;refine⟨E.below (ay.symm▸J),V,lK,lK,lK,λb hb=>ay▸(mI.blk E.ob b hb).2⟩)
  clear J V ax Z bG;have bT:(ch.size:Int)<=9223372036854775807:=by have:=bF.out;omega
  go_wp2_with fail;refine bH.out.mono ?_;unfold Yf;rintro e w3 ⟨rfl,aN,Y⟩;obtain⟨az,aa⟩:=lV (((MS.new 9223372036854775807).take ch.size).1);obtain⟨e4,aO⟩:=lV (((MS.new 9223372036854775807).take ch.size).2);rw[aa]at Y;rw[aO];have aP:=iF aa;have aQ:iW az.Ok:=iF (aa▸MS.Ok.take (MS.Ok.new _ lM) _);have A:iW (wQ w G sb r (lh bo buf.length bc) buf nd fa 0 tt se w3/\Wh w3 mb az):=iF (by
   obtain⟨bO,a2,a3,a4,a5,a6⟩:=U.out;exact⟨bO.upd aN a4 (λd hd=>Nat.ne_of_lt (a6 d hd)) a3,Y⟩)
  clear aa aO aN Y bH;have c1:=A.out.1.ss.cell 1;simp only[Cy,iP,iO,iM]at c1;have bU:=bF.out;have aA:=A.out.1.ob;have aR:G<=w3.heap.size:=by have:=A.out.1.lt;have:=A.out.1.bw.size;omega
  have aS:ch.data.toList.length=ch.size:=jM;have f1:∀w',w3.grownBy w' (jD bo buf.length bc).ownBlock->∃cs,lN w' sb cs Ir:=λw' hg=>⟨_,mY A.out.1.ss hg A.out.1.ne⟩
  have bI:=iF f1;clear f1;go_upto_region 9 with(at_builtin;go_loud (refine K9 RD rfl _ _ rfl G (lh bo buf.length bc) buf ch w3 rfl aA rfl lK aR ?_);intro v' w4 E aj;obtain⟨ae,af,rfl⟩:=mI.form E;have ag:=iF (iQ E aj);have f1:=(mY A.out.1.ss aj A.out.1.ne).free 1;have bJ:=(mY A.out.1.ss aj A.out.1.ne).cell 1;simp only[Cy,iP,iO,iM]at bJ;clear E aj)
  have N:buf.length+ch.size=(buf++ch.data.toList).length:=by rw[jv,aS]
  rw[N];have bA:=A.out.1.grow ag.out.2 ag.out.1;have aT:Wh (w4.setCell ⟨sb,1,none⟩ (lh ae (buf++ch.data.toList).length af)) mb az:=(mY A.out.2 ag.out.2 λd hd=>Nat.ne_of_lt (U.out.2.2.2.2.2 d hd)).setOther (a:=⟨sb,1,none⟩) (by show mb≠sb;have:=U.out.2.2.2.1;omega) _;generalize w4.setCell ⟨sb,1,none⟩ (lh ae (buf++ch.data.toList).length af)=w5 at*;obtain⟨bB,J⟩:=lV (buf++ch.data.toList);have bC:bB.length<=100000:=by rw[<-J,<-N];omega
  rw[J]at bA N⊢;have aU:=iF J;have C:=iF (iQ bA aT);clear N aA aR aS bI f1 bJ c1 A ag J bA aT;have aV:∀d,(jD ae bB.length af).ownBlock=some d->d≠sb/\d≠mb:=λd hd=>⟨C.out.1.ne d hd,λe=>by
   subst e;rcases C.out.1.ob.2 with⟨e,_⟩|⟨q,cap,bV,e,_,aB,_⟩
   .rw[e]at hd;cases hd
   .rw[e]at hd;cases hd
    have aj:w5.heap[q]? =some (lG az.cs 119 (0,0)):=C.out.2;rw[aj]at aB;have:(119:jg)=uq:=by
     injection aB with e
     injection e
    exact absurd this lM⟩
  have bK:=iF (XO G sb r mb bn bi c L az ae af bB nd fa 0 tt se w5 bE.out.1 bE.out.2 C.out.1.ss C.out.1.ob ⟨C.out.2,aQ.out⟩ aV ⟨by have:=U.out.2.2.2.1;omega,C.out.1.lt.1,U.out.2.2.1⟩ bC λW bP=>av.out W (C.out.1.bw.trans bP));clear aV;go_wp2_with fail;refine bK.out.mono ?_;rintro e aC hcut;have bL:=bz.out;subst bL;obtain⟨oa,cap,Lm,aW,b6,aX,aY,Q,rfl,aD,aZ,aF,ah⟩:=a0e hcut aU.out aP.out C.out.1 C.out.2 U.out.2.2.2.2.1 U.out.2.2.1;have bQ:=iF (Sc mb Q aC aZ);have aG:=iF (iQ aD (iQ aF ah));obtain⟨n,hn⟩:=lV Lm.length;have bR:=iF hn;rw[hn];have aH:=aD.nY Q.ta;have a4:=aD.ss.cell 4;have f4:=aD.ss.free 4;have a5:=aH.ss.cell 5;have bS:=aH.ss.free 5;simp only[Cy,iP,iO,iM]at a4 a5;clear hcut aD aZ aF ah bK C aU aP aQ U av aH hn;go_wp2_with fail;refine bQ.out.mono ?_;rintro e bX ⟨rfl,rfl⟩;go_upto_region 12 with fail;have bM:iW (∀tv,wQ w G sb r aW b6 aX aY Q.ta tv se ((aC.setCell ⟨sb,4,none⟩ (lg lH Q.ta)).setCell ⟨sb,5,none⟩ (lg lH tv))/\oh ((aC.setCell ⟨sb,4,none⟩ (lg lH Q.ta)).setCell ⟨sb,5,none⟩ (lg lH tv)) (λd=>w.heap.size<=d) (lh oa n cap) Lm):=iF λtv=>by
   have bN:=(aG.out.1.nY Q.ta).a3B tv;have hl:=bN.lt;refine⟨bN,oh.keep (bR.out▸aG.out.2.1) (by simp[jf]) (λd hd aB=> ?_) λ_ _ h=>h⟩;have aB:w.heap.size<=d:=aB;exact(iX _ ⟨sb,5,none⟩ _ d (by show d≠sb;omega)).trans (iX _ ⟨sb,4,none⟩ _ d (by show d≠sb;omega))
  generalize bg:(aC.setCell ⟨sb,4,none⟩ (lg lH Q.ta)).setCell ⟨sb,5,none⟩ _=aL at*;obtain⟨tv,bq⟩:∃tv,(aC.setCell ⟨sb,4,none⟩ (lg lH Q.ta)).setCell ⟨sb,5,none⟩ (lg lH tv)=aL:=⟨_,bg⟩;have bD:=bM.out tv;rw[bq]at bD;have bu:=iF bD;clear bD bM bg bq a4 f4 a5 bS;refine X5 (w0:=w) (G:=G) (sb:=sb) (r:=r) (bv:=aW) (buf:=b6) (nd:=aX) (fa:=aY) (la:=Q.ta) (tt:=tv) (se:=se) (Bs:=λW=>oh W (λd=>w.heap.size<=d) (lh oa n cap) Lm) (lv:=lh oa n cap) (ht0:=by rfl) (Ch:=by rfl) (hsz:=by rfl) (hI0:=λ_=>⟨bu.out.1.below (mf aL),oh.keep bu.out.2 (mf aL).size (λd hd _=>(mf aL).block d hd) λ_ _ h=>h⟩) ?_;intro vs bY hF;have ai:=iF hF;clear hF;simp only[iN,iR,iT];go_wp2_with fail;try go_returns
  have FX:=aG.out.2.2;refine⟨mb,lh oa n cap,Lm,by rw[FX];rfl,⟨ai.out.2,by rw[FX],?_,ai.out.1.bw⟩⟩;rw[FX];exact⟨_,_,_,_,ai.out.1.ss,ai.out.1.ob⟩
 .have t0:(fa !=0)=true:=by simp[aK]
  have bz:=iF aK;have E:=aJ.out.nY 0;go_in;go_upto_region 5 with fail;generalize w.setCell ⟨sb,4,none⟩ (lg lH 0)=w1 at*;have Z:=iF E;clear E c4 c3 f4 aJ;refine a0f (w0:=w) (G:=G) (sb:=sb) (r:=r) (bv:=lh bo buf.length bc) (buf:=buf) (nd:=nd) (fa:=fa) (la:=0) (tt:=tt) (se:=se) (Bs:=λ_=>True) (ht0:=by rfl) (hsz:=by rfl) (hI0:=λ_=>⟨Z.out.below (mf w1),trivial⟩) ?_;intro vs w2 hF;have aI:=iF hF.1;clear hF;simp only[iN,iR,iT];go_wp2_with fail;try go_returns
  have hp:∀mb,tF c (L.map λx=>x.r) mb buf nd fa ch=([],buf,nd,fa):=λmb=>by unfold tF;rw[if_pos bz.out]
  refine⟨0,lh none 0 0,[],by rw[hp];rfl,⟨oh.nil _ _,by rw[hp];rfl,?_,aI.out.bw⟩⟩;rw[hp];exact⟨_,_,_,_,aI.out.ss,aI.out.ob⟩
end
section
open Go.RowKit Go.Maps
def x8(c:mU)(A:List sP)(w:iH)(e:Ending)(w':iH):Prop:=
 iK w.heap.size w w'/\match sI c A with
 | .error er=>e=lF (lD #[lq none,lg lH er])/\er≠0
 | .ok rows=>∃G sb r bn bi L,e=lF (lD #[lq (some ⟨sb,0,none⟩),lg lH 0])/\(L.map λx:mW=>x.r)=rows/\tH w' G r sb [] 0 0/\(w.heap.size<=G/\G<=sb/\G<=w'.heap.size/\bn≠bi/\r≠bn/\r≠bi)/\∀W,iK G w' W->ow r bn bi c L W
theorem Vw{C:List sP}{w w2:iH}{r bn bi sb:Nat}{L:List mW}(h:sI c C=.ok (L.map λx=>x.r))(hb:iK w.heap.size w w2)(J:ow r bn bi c L w2)(E:bn≠bi/\r≠bn/\r≠bi)(A:w2.heap.size=sb):
  x8 c C w (lF (lD #[lq (some ⟨sb,0,none⟩),lg lH 0])) (w2.alloc (lG #[lq (some ⟨r,0,none⟩),lh none 0 0,lg lH 0,lg lH 0,lg lH 0,lg lH 0,lg lH 0] Ir)):=by
 have a:=(iL w2.heap.size w2).alloc (iI _) (lG #[lq (some ⟨r,0,none⟩),lh none 0 0,lg lH 0,lg lH 0,lg lH 0,lg lH 0,lg lH 0] Ir);have N:=hb.size;refine⟨hb.trans (a.mono N),?_⟩;rw[h];refine⟨sb,sb,r,bn,bi,L,rfl,rfl,⟨lh none 0 0,0,0,0,A▸lN.new w2 _ _,mI.nil _ _ _⟩,⟨lK,iI _,lW,E⟩,λW O=> ?_⟩;exact J.below (a.trans (A.symm▸O))
theorem PM(c:mU)(C:List sP)(v:iJ)(w:iH)(au:BB w v C)(O:∀e,e∈C->e.nm.size<=jb/\e.tx.size<=jb/\e.id<18446744073709551616)(ah:oG w):
  iU iG 27 #[c.v,v] w (x8 c C w):=by
 obtain⟨g,hg⟩:=lV w.heap.size;have Q:iW (∀W,w.alloc (lG #[lg lH c.fmt,lg lJ c.mag,lg lH c.nK,lg lH c.oF,lg lH c.dep,lg lH c.mX] rC)=W->iK w.heap.size w W/\lN W g #[lg lH c.fmt,lg lJ c.mag,lg lH c.nK,lg lH c.oF,lg lH c.dep,lg lH c.mX] rC/\W.heap.size=g+1):=iF λW N=>by
  subst N;exact⟨(iL w.heap.size w).alloc (iI _) _,hg▸lN.new w _ _,by simp[hg]⟩
 have av:iW (∀W,iK w.heap.size w W->iU iG 52 #[lC #[lg lH c.fmt,lg lJ c.mag,lg lH c.nK,lg lH c.oF,lg lH c.dep,lg lH c.mX],v] W (yE c C W)):=iF λW N=>XX c C v W (au.below N) O (ah.below N ah.lt)
 obtain⟨aC,ai⟩:=lV (x8 c C w);have ax:=iF ai;obtain⟨oa,cap,rfl,_⟩:=au;rw[ai];unfold mU.v mU.cs;clear O ah ai;go_in;go_upto_region 1 with fail;obtain⟨E,U,V⟩:=Q.out _ rfl;generalize w.alloc _=w1 at*;have Y:=iF (iQ E V);obtain⟨c0,c1,c2,c3,c4,c5⟩:=U.a6;have Z:=iF (av.out w1 E);clear Q E U V av;go_wp2_with fail;refine Z.out.mono ?_;unfold yE;rintro e w2 ⟨aa,aj⟩;have ae:iK w.heap.size w w2:=Y.out.1.trans (aa.mono (by have:=Y.out.2;omega));have af:=iF ae;obtain⟨aD,J⟩:=lV (sI c C);have ag:=iF J;rw[J]at aj;clear aa ae Z J;cases aD with
 |error er=>
  obtain⟨rfl,A⟩:=aj;have aF:((er:Int) !=0)=true:=lW;have ay:=iF A;clear A;go_wp2_with fail;try go_returns
  rw[<-ax.out];exact⟨af.out,by rw[ag.out];exact⟨rfl,ay.out⟩⟩
 |ok rows=>
  obtain⟨r,bn,bi,L,rfl,az,rfl,A,_⟩:=aj;have aA:=iF (iQ az A);clear az A;obtain⟨sb,aB⟩:=lV w2.heap.size;have ak:=iF (Vw ag.out af.out aA.out.1 aA.out.2 aB);go_wp2_with fail;try go_returns
  rw[<-ax.out];exact ak.out
theorem IV(G r sb:Nat)(buf:List UInt8)(nd fa:Int)(w:iH)(h:tH w G r sb buf nd fa):
  iU iG 14 #[lq (some ⟨sb,0,none⟩)] w λe w'=>e=lF (lg lH (buf.length:Nat))/\w'=w:=by
 obtain⟨bv,la,tt,se,A,C⟩:=h;obtain⟨bo,bc,rfl⟩:=mI.form C;have c1:=A.cell 1;simp only[Cy,iP,iO,iM]at c1;clear A C;go_in;go_wp2_with fail;go_returns;exact⟨rfl,rfl⟩
end
section
open Go.RowKit
theorem NN(E:List sP)(nm:ByteArray)(v:iJ)(w:iH)(O:BB w v E)(hn:E.length<=100)(j:Nat)(e:sP)(he:E[j]? =some e)(U:e.nm=nm)(N:∀k J,k<j->E[k]? =some J->J.nm≠nm):
  iU iG 20 #[v,ll nm] w λe w'=>e=lF (lg lH (j:Nat))/\w'=w:=by
 obtain⟨oa,cap,rfl,Q,ae,_⟩:=id O;obtain⟨n,C⟩:=lV E.length;have ak:j<n:=by rw[<-C];exact(jH.1 he).1
 obtain⟨b,off,rfl,hlt,_,e1,_⟩:=BB.at_ O he;have Y:=iF O;have af:=iF C;have ag:=iF he;have Z:=iF U;have V:=iF N;rw[C]at Y hn Q⊢;clear O C he U N e1;go_in;go_wp2_with fail;go_loopw [5] (λiv ah=>∃i:Nat,iv=lg lH i/\i<=j/\ah=w) (λiv _=>j -(jA iv).toNat);case atStart=>exact⟨0,rfl,lK,rfl⟩
 case round=>
  obtain⟨i,rfl,hi,rfl⟩:=hrel;have hin:i<n:=lK;obtain⟨J,A⟩:∃J,E[i]? =some J:=⟨_,iZ (by rw[af.out];exact hin)⟩;obtain⟨bk,ok,Eo,ai,au,av,ax⟩:=BB.at_ Y.out A;simp only[kM,Addr.mk.injEq]at Eo;obtain⟨rfl,rfl,_⟩:=Eo;by_cases c:i<j
  .have aj:=SV (V.out i J c A)
   clear A;go_wp2_with fail;go_roundw;case rel=>exact⟨i+1,by go_num,lK,trivial⟩
   case measure=>simp[jA];omega
  .obtain rfl:i=j:=lK
   have aa:=ag.out;rw[A]at aa;cases aa;have aj:=str_eq Z.out;clear A;go_wp2_with fail;go_returns;exact⟨rfl,rfl⟩
def qB(es:List sP):Bool:=decide (40<es.length)||es.any λe=>decide (100<e.nm.size)||decide (500<e.tx.size)
theorem wH{A:List sP}(h:qB A=false):A.length<=40/\∀e,e∈A->e.nm.size<=100/\e.tx.size<=500:=by
 unfold qB at h;simp only[Bool.or_eq_false_iff,decide_eq_false_iff_not,List.any_eq_false]at h;refine⟨lK,λe he=> ?_⟩;have:=h.2 e he;simp only[Bool.or_eq_true,decide_eq_true_eq]at this;omega
theorem Gx{A:List sP}{i:Nat}{e:sP}(he:A[i]? =some e)(h:100<e.nm.size\/500<e.tx.size):qB A=true:=by
 unfold qB;rw[Bool.or_eq_true,List.any_eq_true];exact .inr ⟨e,jc he,by simp only[Bool.or_eq_true,decide_eq_true_eq];exact h⟩
theorem Ld{A:List sP}(h:A.length<=40)(C:∀i e,i<A.length->A[i]? =some e->e.nm.size<=100/\e.tx.size<=500):qB A=false:=by
 unfold qB;simp only[Bool.or_eq_false_iff,decide_eq_false_iff_not,List.any_eq_false];refine⟨lK,λe he=> ?_⟩;obtain⟨i,hi⟩:=List.getElem?_of_mem he;have:=C i e (jH.1 hi).1 hi;simp only[Bool.or_eq_true,decide_eq_true_eq];omega
theorem EP{p:Prop}(h:p:=by
 go_wp2_with fail;go_returns;exact⟨by rw[HX.out];rfl,rfl⟩):p:=h
theorem NP(A:List sP)(v:iJ)(w:iH)(Q:BB w v A)(O:∀e,e∈A->e.nm.size<=jb/\e.tx.size<=jb):
  iU iG 28 #[v] w λe w'=>e=lF (lu (qB A))/\w'=w:=by
 obtain⟨oa,cap,rfl,E,J,_⟩:=id Q;obtain⟨n,C⟩:=lV A.length;have av:n<=9223372036854775807:=by unfold jb at J;omega
 obtain⟨R,U⟩:=lV (qB A);have N:=iF U;have Z:=iF Q;have V:=iF C;have aa:=iF O;rw[U];rw[C]at Z E⊢;clear Q U O;by_cases ae:40<n
 .have HX:iW (R=true):=iF (by rw[<-N.out];unfold qB;rw[C];simp[ae])
  clear C;go_in;exact EP
 clear C;go_in;go_wp2_with fail;go_loopw [3] (λiv aj=>∃i:Nat,iv=lg lH i/\i<=n/\iW (∀k e,k<i->A[k]? =some e->e.nm.size<=100/\e.tx.size<=500)/\aj=w) (λiv _=>n -(jA iv).toNat);case atStart=>exact⟨0,rfl,lK,iF (λk e h=>by omega),rfl⟩
 case round=>
  obtain⟨i,rfl,hi,af,rfl⟩:=hrel;by_cases c:i<n
  .obtain⟨e,he⟩:∃ak,A[i]? =some ak:=⟨_,iZ (by rw[V.out];exact c)⟩
   obtain⟨b,off,rfl,hlt,az,aA,aB⟩:=BB.at_ Z.out he;obtain⟨ag,ah⟩:=aa.out e (jc he);have ax:e.nm.size<=9223372036854775807:=by unfold jb at ag;omega
   have ay:e.tx.size<=9223372036854775807:=by unfold jb at ah;omega
   clear ag ah;by_cases c1:100<e.nm.size
   .have HX:iW (R=true):=iF (by rw[<-N.out];exact Gx he (.inl c1))
    clear he;exact EP
   .by_cases c2:500<e.tx.size
    .have HX:iW (R=true):=iF (by rw[<-N.out];exact Gx he (.inr c2))
     clear he;exact EP
    .have ai:iW (∀k e,k<i+1->A[k]? =some e->e.nm.size<=100/\e.tx.size<=500):=iF λk e2 hk Y=>by
      by_cases au:k=i;.subst au;rw[he]at Y;cases Y;omega
      .exact af.out k e2 lK Y
     clear he;go_wp2_with fail;go_roundw;case rel=>exact⟨i+1,by go_num,lK,ai,trivial⟩
     case measure=>simp[jA];omega
  .obtain rfl:i=n:=lK
   have HX:iW (R=false):=iF (by rw[<-N.out];exact Ld (by rw[V.out];omega) (λk e hk he=>af.out k e (by rw[<-V.out];exact hk) he));exact EP
def zA(ss:List ByteArray):Nat:=(ss.map λs=>s.size).sum
def zB(ss:List ByteArray):Bool:=decide (300<ss.length)||decide (1500<min (zA ss) 10000)
theorem Gy{ss:List ByteArray}{i:Nat}{s:ByteArray}(h:ss[i]? =some s):zA (ss.take (i+1))=zA (ss.take i)+s.size:=by
 unfold zA;rw[List.take_add_one,h];simp
theorem Rq(a:Option kr)(n cap:Nat)(ss:List ByteArray)(w:iH)(hs:IP w a n ss):
  iU iG 19 #[lh a n cap] w λe w'=>e=lF (lu (zB ss))/\w'=w:=by
 obtain⟨Y,Z,aa⟩:=hs;have ay:n<=9223372036854775807:=by unfold jb at Y;omega
 obtain⟨R,U⟩:=lV (zB ss);have V:=iF U;have Q:=iF Z;have aj:=iF aa;rw[U];clear U Y Z aa;by_cases E:300<n
 .have HX:iW (R=true):=iF (by rw[<-V.out];unfold zB;rw[Q.out];simp[E])
  go_in;exact EP
 have ae:iW (R=decide (1500<min (zA ss) 10000)):=iF (by rw[<-V.out];unfold zB;rw[Q.out,decide_eq_false E,Bool.false_or]);clear V;go_in;go_wp2_with fail;go_loopw [3,4] (λak iv au=>∃i A:Nat,iv=lg lH i/\ak=lg lH A/\i<=n/\A<=10000/\iW (A=min (zA (ss.take i)) 10000)/\au=w) (λ_ iv _=>n -(jA iv).toNat);case atStart=>exact⟨0,0,rfl,rfl,lK,lK,iF (by simp[zA]),rfl⟩
 case round=>
  obtain⟨i,A,rfl,rfl,hi,aA,af,rfl⟩:=hrel;by_cases c:i<n
  .obtain⟨b,off,rfl,hlt,aB,ag⟩:=aj.out i c
   have hg:ss[i]? =some (ss.getD i kE):=by rw[ko,iZ (by rw[Q.out];exact c)];rfl
   have J:=Gy hg;generalize ss.getD i kE=s at*;have az:s.size<=9223372036854775807:=by unfold jb at ag;omega
   obtain⟨N,ah⟩:∃m:Nat,m=min s.size 10000:=⟨_,rfl⟩;obtain⟨m2,hm2⟩:∃m:Nat,m=min (A+N) 10000:=⟨_,rfl⟩;have ai:iW (m2=min (zA (ss.take (i+1))) 10000):=iF (by have:=af.out;rw[J];omega);have av:N<=10000:=lK;have ax:m2<=10000:=lK;have e1:(if(10000:Int)<(s.size:Int)then(10000:Int)else(s.size:Int))=(N:Int):=by split<;>omega
   have e2:(if(10000:Int)<(A:Int)+(N:Int)then(10000:Int)else(A:Int)+(N:Int))=(m2:Int):=by split<;>omega
   clear hg J ag ah hm2;go_wp2_with fail;go_roundw;case rel=>exact⟨i+1,m2,by go_num,by go_num,lK,lK,ai,trivial⟩
   case measure=>simp[jA];omega
  .obtain rfl:i=n:=lK
   have HX:iW (R=decide (1500<A)):=iF (by rw[ae.out,af.out,<-Q.out,kz]);by_cases C:1500<A
   .have O:iW (R=decide ((1500:Int)<(A:Int))):=iF (by rw[HX.out,decide_eq_true C,decide_eq_true lK])
    clear C;go_wp2_with fail;go_returns;exact⟨by rw[O.out];rfl,rfl⟩
   .have O:iW (R=decide ((1500:Int)<(A:Int))):=iF (by rw[HX.out,decide_eq_false C,decide_eq_false lK])
    clear C;go_wp2_with fail;go_returns;exact⟨by rw[O.out];rfl,rfl⟩
def BI(c:mU)(A:List sP):Bool:= !qB A&&decide (CE c A=0)
theorem Vx{p:Prop}(h:p:=by
 go_wp2_with fail;refine(CN2.out _ H1.out).mono ?_;rintro e w3 ⟨rfl,hb3⟩;have HB3:=iF (H1.out.trans (hb3.mono lK));clear hb3;go_wp2_with fail;go_returns;exact⟨by rw[RI.out];rfl,HB3.out⟩):p:=h
theorem Rs(c:mU)(A:List sP)(v:iJ)(w:iH)(aa:BB w v A)(E:∀e,e∈A->e.nm.size<=jb/\e.tx.size<=jb):
  iU iG 9 #[c.v,v] w λe w'=>e=lF (lu (BI c A))/\iK w.heap.size w w':=by
 have ae:=iF (sN (w:=w) c (t:=rC));obtain⟨g,hg⟩:=lV w.heap.size;have N:iW (∀W,iK w.heap.size w W->iU iG 28 #[v] W λe w'=>e=lF (lu (qB A))/\w'=W):=iF λW h=>NP A v W (aa.below h) E
 have J:iW (qB A=false->∀W,iK w.heap.size w W->iU iG 29 #[lC #[lg lH c.fmt,lg lJ c.mag,lg lH c.nK,lg lH c.oF,lg lH c.dep,lg lH c.mX],v] W λe w'=>e=lF (lg lH (CE c A))/\iK W.heap.size W w'):=iF λh W ah=>by
  obtain⟨ak,ai⟩:=wH h;exact X4 c A v W (aa.below ah) (λe he=>⟨(E e he).1,by have:=(ai e he).2;omega⟩) lK
 have U:iW (∀W,w.alloc (lG #[lg lH c.fmt,lg lJ c.mag,lg lH c.nK,lg lH c.oF,lg lH c.dep,lg lH c.mX] rC)=W->W.heap.size=g+1):=iF λW h=>by subst h;simp[hg]
 obtain⟨R,af⟩:=lV (BI c A);have O:iW (R=(!qB A&&decide (CE c A=0))):=iF af.symm;obtain⟨oa,cap,rfl,_⟩:=aa;unfold mU.v mU.cs;rw[hg]at ae N J⊢;rw[af];obtain⟨GE,V⟩:=lV (qB A);obtain⟨ag,Y⟩:=lV (CE c A);rw[V]at N J O;rw[Y]at J O;clear af V Y E;go_in;go_upto_region 1 with fail;obtain⟨Z,c0,c1,c2,c3,c4,c5⟩:=ae.out _ rfl;have aj:=U.out _ rfl;generalize w.alloc _=w1 at*;have H1:=iF Z;clear ae U Z;cases GE with
 |true=>
  have Q:iW (R=false):=iF (by rw[O.out];rfl);go_wp2_with fail;refine(N.out _ H1.out).mono ?_;rintro e w2 ⟨rfl,rfl⟩;go_wp2_with fail;go_returns;exact⟨by rw[Q.out];rfl,H1.out⟩
 |false=>
  have CN2:=iF (J.out rfl);clear J;have Q:iW (R=decide (ag=0)):=iF (by rw[O.out];rfl);go_wp2_with fail;refine(N.out _ H1.out).mono ?_;rintro e w2 ⟨rfl,rfl⟩;by_cases C:ag=0
  .have RI:iW (R=true):=iF (by rw[Q.out,decide_eq_true C])
   subst C;exact Vx
  .have RI:iW (R=false):=iF (by rw[Q.out,decide_eq_false C])
   have au:(ag==0)=false:=by rw[beq_eq_false_iff_ne];exact C
   clear C;exact Vx
theorem X6{A:List sP}(h:CE c A=0):∃rows,sI c A=.ok rows:=by
 unfold CE at h;cases hp:sI c A with
 |ok rows=>exact⟨rows,rfl⟩
 |error er=>
  rw[hp]at h;dsimp only at h;exfalso;have h0:er=0:=lK;subst h0;unfold sI at hp;split at hp;.cases hp
  .split at hp
   .cases hp
   .exact Gv A [] hp
def NQ(c:mU)(rows:List Row)(w:iH)(e:Ending)(w':iH):Prop:=
 iK w.heap.size w w'/\∃G sb r bn bi L,e=lF (lq (some ⟨sb,0,none⟩))/\(L.map λx:mW=>x.r)=rows/\tH w' G r sb [] 0 0/\(w.heap.size<=G/\G<=sb/\G<=w'.heap.size/\bn≠bi/\r≠bn/\r≠bi)/\∀W,iK G w' W->ow r bn bi c L W
theorem NR(c:mU)(A:List sP)(v:iJ)(w:iH)(rows:List Row)(hp:sI c A=.ok rows)(Z:BB w v A)(N:∀e,e∈A->e.nm.size<=jb/\e.tx.size<=jb/\e.id<18446744073709551616)(Q:oG w):
  iU iG 10 #[c.v,v] w (NQ c rows w):=by
 have U:=iF (sN (w:=w) c (t:=rC));obtain⟨g,hg⟩:=lV w.heap.size;have V:iW (∀W,iK w.heap.size w W->iU iG 27 #[lC #[lg lH c.fmt,lg lJ c.mag,lg lH c.nK,lg lH c.oF,lg lH c.dep,lg lH c.mX],v] W (x8 c A W)):=iF λW h=>PM c A v W (Z.below h) N (Q.below h Q.lt)
 have ai:=iF hp;obtain⟨Y,C⟩:=lV (NQ c rows w);have aa:=iF C;obtain⟨oa,cap,rfl,_⟩:=Z;unfold mU.v mU.cs;rw[hg]at U V;rw[C];clear C hp Q N;go_in;go_upto_region 1 with fail;obtain⟨E,c0,c1,c2,c3,c4,c5⟩:=U.out _ rfl;generalize w.alloc _=w1 at*;have ae:=iF E;have af:=iF (V.out w1 E);clear U E V;go_wp2_with fail;refine af.out.mono ?_;rintro e w2 ⟨O,ag⟩;rw[ai.out]at ag;obtain⟨G,sb,r,bn,bi,L,rfl,hL,ah,hl,J⟩:=ag;have aj:iW (Y (lF (lq (some ⟨sb,0,none⟩))) w2):=iF (by
  rw[<-aa.out];have ak:=ae.out.size;exact⟨(hg▸ae.out).trans (O.mono lK),G,sb,r,bn,bi,L,rfl,hL,ah,⟨lK,hl.2⟩,J⟩)
 clear O hL ah hl J;go_wp2_with fail;try go_returns
 exact aj.out
end
section
open Go.RowKit Go.Maps
theorem Le{t:lL TL}{x:lL IL}:∀{s:List (lL IL)}{k i:Nat},qb s t i=true->s[k]? =some x->∃y,pE t (i+k)=some y/\oK x y=true
 |[],k,i,_,h=>by simp at h
 |z::zs,0,i,A,h=>by
  simp at h;subst h;simp only[qb,iY]at A;have C:=A.1;split at C
  .rename_i y E
   exact⟨y,E,C⟩
  .cases C
 |z::zs,k+1,i,A,h=>by
  simp only[qb,iY]at A;obtain⟨y,C,J⟩:=Le (k:=k) A.2 (by simpa using h);exact⟨y,by rw[<-C];congr 1;omega,J⟩
theorem Gz{t:lL TL}{a:IL}{m:Nat}(C:mi t.lab t.sub=true)(h:qx t a m=true):
  (t.lab.kind=1/\a.list=false/\(a.text.length:Int)<=t.lab.size/\(a.text=[]\/∃b r,a.text=b::r/\b.toNat≠0))\/
  (t.lab.kind=2/\a.list=false/\(a.text.length:Int)=t.lab.size)\/
  (t.lab.kind=3/\a.list=false/\(a.text.length:Int)<=t.lab.size)\/
  (t.lab.kind=4/\a.list=true/\(m:Int)<=t.lab.size/\t.sub.length=1)\/
  (t.lab.kind=5/\a.list=true/\m<=t.sub.length/\(t.sub.length:Int) - t.lab.tail<=m/\t.sub.length<=16/\0<=t.lab.tail/\t.lab.tail<=t.sub.length):=by
 unfold mi nX at C;simp only[decide_eq_true_eq]at C;unfold qx at h;split at h
 .rename_i hk
  simp only[wN,iY,Bool.not_eq_true',decide_eq_true_eq]at h;obtain⟨⟨E,A⟩,J⟩:=h;refine .inl ⟨hk,E,J,?_⟩;unfold okL oH at A;split at A;.rename_i e;exact .inl e
  .rename_i b r e
   split at A;.cases A
   .split at A
    .cases A
    .rename_i hb
     exact .inr ⟨b,r,e,hb⟩
 .split at h
  .rename_i hk
   simp only[xL,iY,Bool.not_eq_true',decide_eq_true_eq]at h;exact .inr (.inl ⟨hk,h⟩)
  .split at h
   .rename_i hk
    simp only[xM,iY,Bool.not_eq_true',decide_eq_true_eq]at h;exact .inr (.inr (.inl ⟨hk,h⟩))
   .split at h
    .rename_i hk
     simp only[yR,iY,decide_eq_true_eq]at h;exact .inr (.inr (.inr (.inl ⟨hk,h.1,h.2,lK⟩)))
    .split at h
     .rename_i hk
      simp only[wO,iY,decide_eq_true_eq]at h;exact .inr (.inr (.inr (.inr ⟨hk,h.1.1,h.1.2,h.2,lK,lK,lK⟩)))
     .cases h
theorem Dm{p:Prop}(h:p:=by
 go_wp2_with fail;go_returns;exact⟨rfl,H1.out.1⟩):p:=h
theorem Vy{p:Prop}(h:p:=by
 refine mF lQ lQ ?_;repeat(go_big_quiet_step (exact Calls.after (CY.out _)))
 refine kS ?_;intro x;go_wp2_with fail;exact⟨⟨k+1,by go_num,lK,iF (hbk.out x)⟩,by simp[jA];omega⟩):p:=h
theorem a0g(x:lL IL):∀(t:lL TL)(w:iH)(tv iv:iJ),mD w tv t.sub->oZ w iv x.sub->t.all mi=true->x.all mO=true->x.count<=100000->x.lab.text.length<=jb->oK x t=true->
  iU iG 49 #[lC #[lg lH t.lab.kind,lg lH t.lab.size,tv,lg lH t.lab.tail],lC #[ll (txt x.lab),lu x.lab.list,iv]] w
   λe w'=>e=lF (lu true)/\iK w.heap.size w w':=by
 induction x using lL.ind with
 |h a s bN=>
  intro t w tv iv ax ay Y az aA bq ag;simp only[lL.nk,lL.oD]at*;obtain⟨ot,ct,rfl,_,_⟩:=ax.slice;obtain⟨oi,ci,rfl,_,_⟩:=lX.slice ay;obtain⟨m,aX⟩:=lV s.length;have cZ:m<=100000:=by
   have V:=lL.og s;simp only[lL.count]at aA;omega
  have aB:mi t.lab t.sub=true:=by
   obtain⟨ta,ts⟩:=t;simp only[lL.all,iY]at Y;exact Y.1
  have bu:iW (∀y,y∈t.sub->y.all mi=true):=iF λy C=>by
   obtain⟨ta,ts⟩:=t;simp only[lL.all,iY]at Y;exact uH Y.2 C
  simp only[lL.all,iY]at az;have bz:iW (∀y,y∈s->y.all mO=true):=iF λy C=>uH az.2 C
  have bA:iW (∀y:lL IL,y∈s->y.count<=100000):=iF λy C=>by
   have:=lL.uC C;simp only[lL.count]at aA;omega
  have aC:qx t a m=true/\qb s t 0=true:=by
   have:oK (.node a s) t=(qx t a s.length&&qb s t 0):=rfl;rw[this,aX]at ag;simpa using ag
  have aj:=Gz aB aC.1;have ak:iW (∀k y,s[k]? =some y->∃z,pE t k=some z/\z∈t.sub/\oK y z=true):=iF λk y C=>by
   obtain⟨z,V,av⟩:=Le (i:=0) aC.2 C;rw[Nat.zero_add]at V;refine⟨z,V,?_,av⟩;unfold pE at V;split at V<;>exact jc V
  have bB:=vG a;have htl:=JU a;obtain⟨g,hg⟩:=lV w.heap.size;have aD:=iF (wm (w:=w) t.lab.kind t.lab.size t.lab.tail (lh ot t.sub.length ct) (txt a) a.list (lh oi m ci));have bO:=iF aX;have bP:=iF bN;have aF:=iF ax;have aG:=iF ay;have bQ:a.text.length<=9223372036854775807:=by unfold jb at bq;omega
  rw[hg]at aD⊢;rw[aX]at aG⊢;obtain⟨ta,ts⟩:=t;obtain⟨dh,aH,kt⟩:=ta;obtain⟨tx,li⟩:=a;simp only[lL.nk,lL.oD]at*;obtain⟨O,bC⟩:=lV ts.length;rw[bC]at aD aF aj⊢;obtain⟨N,bD⟩:∃T,txt ⟨tx,li⟩=T:=⟨_,rfl⟩;rw[bD]at aD bB htl⊢;clear bD ax ay Y az aA bq ag aB aC bN aX bC;obtain⟨tl,aI⟩:=lV tx.length;rw[aI]at aj bB bQ;have ah:iW (∀h:N.size≠0,∃b r,tx=b::r/\N[0]'(Nat.pos_of_ne_zero h)=b):=iF λh=>by
   have e:N.data.toList.length=N.size:=jM;cases tx with
   |nil=>rw[htl]at e;simp at e;omega
   |cons b r=>exact⟨b,r,rfl,by
     have V:N.data.toList[0]? =some b:=by rw[htl];rfl
     rw[iZ lK]at V;exact kK V⟩
  clear aI htl;go_in;go_upto_region 1 with fail;obtain⟨au,⟨t0,bR,aY,t3⟩,⟨bS,bT,aZ⟩,hsz⟩:=aD.out _ rfl;generalize (w.alloc _).alloc _=w1 at*;have H1:=iF (iQ au (iQ (Shape.lY.below aF.out (hg.symm▸au)) (Shape.lY.below aG.out (hg.symm▸au))));have U:=iF hsz;clear aD au aF aG hsz;rcases aj with⟨rfl,rfl,av,Q⟩|⟨rfl,rfl,av⟩|⟨rfl,rfl,av⟩|⟨rfl,rfl,av,Q⟩|⟨rfl,rfl,av,Q,bW,dw,dx⟩
  .have bg:decide ((N.size:Int)<=aH)=true:=lW
   by_cases h0:N.size=0
   .have bX:(N.toList==([]:List UInt8))=true:=by rw[uU];simp[h0]
    clear ah Q;exact Dm
   .have bX:(N.toList==([]:List UInt8))=false:=by rw[uU];simp[h0]
    obtain⟨b,r,e1,e2⟩:=ah.out h0;have aJ:0<N.size:=Nat.pos_of_ne_zero h0;have hb0:((N[0]'aJ).toNat:Int)≠0:=by
     rcases Q with Q|⟨b',r',Q,bW⟩
     .rw[e1]at Q;cases Q
     .rw[e1]at Q
      cases Q;rw[e2];omega
    have df:(((N[0]'aJ).toNat:Int) !=0)=true:=by rw[bne_iff_ne];exact hb0
    clear Q e1 e2 hb0 ah;exact Dm
  .have bg:((N.size:Int)==aH)=true:=Lt
   clear ah;exact Dm
  .have bg:decide ((N.size:Int)<=aH)=true:=lW
   clear ah;exact Dm
  .have bg:decide ((m:Int)>aH)=false:=lW
   have bU:decide (aH<(m:Int))=false:=lW;have aK:iW (True/\w1.cell? ⟨g,2,none⟩=some (lh ot O ct)/\w1.cell? ⟨g+1,2,none⟩=some (lh oi m ci)):=iF ⟨trivial,aY,aZ⟩;have aL:iW (∀k y,s[k]? =some y->∃z,ts[0]? =some z/\z∈ts/\oK y z=true):=iF λk y C=>by
    obtain⟨z,bI,bJ,bK⟩:=ak.out k y C;exact⟨z,by simpa [pE]using bI,bJ,bK⟩
   have bY:0<O:=lK;have bZ:O<=16:=lK;clear ah ak Q;go_wp2_with fail;clear t0 bR aY t3 bS bT aZ;go_loopw [5] (λiv bL=>∃k:Nat,iv=lg lH k/\k<=m/\iW (iK (g+2) w1 bL)) (λiv _=>m -(jA iv).toNat);case atStart=>exact⟨0,rfl,lK,iF (iL _ _)⟩
   case round=>
    obtain⟨k,rfl,hk,E⟩:=hrel;have aM:g+2<=wr.heap.size:=by have:=E.out.size;have:=U.out;omega
    have aN:wr.cell? ⟨g+1,2,none⟩=some (lh oi m ci):=(E.out.cell (p:=⟨g+1,2,none⟩) (show g+1<g+2 by omega)).trans aK.out.2.2;have aO:wr.cell? ⟨g,2,none⟩=some (lh ot O ct):=(E.out.cell (p:=⟨g,2,none⟩) (show g<g+2 by omega)).trans aK.out.2.1;have bM:iW (iK g w wr):=iF (H1.out.1.trans (E.out.mono lK));by_cases c:k<m
    .obtain⟨y,C⟩:∃y,s[k]? =some y:=⟨_,iZ (by rw[bO.out];exact c)⟩
     obtain⟨z,aP,Z,aa⟩:=aL.out k y C;obtain⟨b,off,u,rfl,hlt,_,aQ,aR,aS,aT,ae⟩:=lX.at_ (Shape.lY.below H1.out.2.2 (U.out▸E.out)) C;obtain⟨b',A,aU,rfl,J,z0,aV,aW,z3,af,ai⟩:=mD.at_ (Shape.lY.below H1.out.2.1 (U.out▸E.out)) aP;have cz:∀x:oO wr,x.at_.cell? ⟨g+1,2,none⟩=some (lh (some ⟨b,off,none⟩) m ci):=λx=>(x.is.cell (p:=⟨g+1,2,none⟩) (show g+1<wr.heap.size by omega)).trans aN
     have bV:∀x:oO wr,x.at_.cell? ⟨g,2,none⟩=some (lh (some ⟨b',A,none⟩) O ct):=λx=>(x.is.cell (p:=⟨g,2,none⟩) (show g<wr.heap.size by omega)).trans aO
     have cB:∀x:oO wr,x.at_.cell? ⟨b,off+k*3,none⟩=some (ll (txt y.lab)):=λx=>(x.is.cell (p:=⟨b,off+k*3,none⟩) hlt).trans aQ
     have cK:∀x:oO wr,x.at_.cell? ⟨b,off+k*3+1,none⟩=some (lu y.lab.list):=λx=>(x.is.cell (p:=⟨b,off+k*3+1,none⟩) hlt).trans aR
     have cO:∀x:oO wr,x.at_.cell? ⟨b,off+k*3+2,none⟩=some u:=λx=>(x.is.cell (p:=⟨b,off+k*3+2,none⟩) hlt).trans aS
     have bE:∀x:oO wr,x.at_.cell? ⟨b',A+0*4,none⟩=some (lg lH z.lab.kind):=λx=>(x.is.cell (p:=⟨b',A+0*4,none⟩) J).trans z0
     have bF:∀x:oO wr,x.at_.cell? ⟨b',A+0*4+1,none⟩=some (lg lH z.lab.size):=λx=>(x.is.cell (p:=⟨b',A+0*4+1,none⟩) J).trans aV
     have bG:∀x:oO wr,x.at_.cell? ⟨b',A+0*4+2,none⟩=some aU:=λx=>(x.is.cell (p:=⟨b',A+0*4+2,none⟩) J).trans aW
     have bH:∀x:oO wr,x.at_.cell? ⟨b',A+0*4+3,none⟩=some (lg lH z.lab.tail):=λx=>(x.is.cell (p:=⟨b',A+0*4+3,none⟩) J).trans z3
     have CY:=iF (λx:oO wr=>bP.out y (jc C) z x.at_ aU u (Shape.lY.below af x.is) (Shape.lY.below aT x.is) (bu.out z Z) (bz.out y (jc C)) (bA.out y (jc C)) ae aa);have hbk:iW (∀x:oO wr,iK (g+2) w1 x.at_):=iF λx=>E.out.trans (x.is.mono aM)
     clear aT ae af ai aQ aR aS z0 aV aW z3 aP Z aa;simp only[Nat.zero_mul,Nat.add_zero]at bE bF bG bH;go_upto_region 14 with fail;exact Vy
    .obtain rfl:k=m:=lK
     go_wp2_with fail;go_returns;exact⟨rfl,bM.out⟩
  .have bg:decide ((m:Int)>(O:Int))=false:=lW
   have bU:decide ((O:Int)<(m:Int))=false:=lW;have dz:decide ((m:Int)<(O:Int) - kt)=false:=lW;have aK:iW (True/\w1.cell? ⟨g,2,none⟩=some (lh ot O ct)/\w1.cell? ⟨g+1,2,none⟩=some (lh oi m ci)):=iF ⟨trivial,aY,aZ⟩;have aL:iW (∀k y,s[k]? =some y->∃z,ts[k]? =some z/\z∈ts/\oK y z=true):=iF λk y C=>by
    obtain⟨z,bI,bJ,bK⟩:=ak.out k y C;exact⟨z,by simpa [pE]using bI,bJ,bK⟩
   clear ah ak;go_wp2_with fail;clear t0 bR aY t3 bS bT aZ;go_loopw [6] (λiv bL=>∃k:Nat,iv=lg lH k/\k<=m/\iW (iK (g+2) w1 bL)) (λiv _=>m -(jA iv).toNat);case atStart=>exact⟨0,rfl,lK,iF (iL _ _)⟩
   case round=>
    obtain⟨k,rfl,hk,E⟩:=hrel;have aM:g+2<=wr.heap.size:=by have:=E.out.size;have:=U.out;omega
    have aN:wr.cell? ⟨g+1,2,none⟩=some (lh oi m ci):=(E.out.cell (p:=⟨g+1,2,none⟩) (show g+1<g+2 by omega)).trans aK.out.2.2;have aO:wr.cell? ⟨g,2,none⟩=some (lh ot O ct):=(E.out.cell (p:=⟨g,2,none⟩) (show g<g+2 by omega)).trans aK.out.2.1;have bM:iW (iK g w wr):=iF (H1.out.1.trans (E.out.mono lK));by_cases c:k<m
    .obtain⟨y,C⟩:∃y,s[k]? =some y:=⟨_,iZ (by rw[bO.out];exact c)⟩
     obtain⟨z,aP,Z,aa⟩:=aL.out k y C;obtain⟨b,off,u,rfl,hlt,_,aQ,aR,aS,aT,ae⟩:=lX.at_ (Shape.lY.below H1.out.2.2 (U.out▸E.out)) C;obtain⟨b',A,aU,rfl,J,z0,aV,aW,z3,af,ai⟩:=mD.at_ (Shape.lY.below H1.out.2.1 (U.out▸E.out)) aP;have cz:∀x:oO wr,x.at_.cell? ⟨g+1,2,none⟩=some (lh (some ⟨b,off,none⟩) m ci):=λx=>(x.is.cell (p:=⟨g+1,2,none⟩) (show g+1<wr.heap.size by omega)).trans aN
     have bV:∀x:oO wr,x.at_.cell? ⟨g,2,none⟩=some (lh (some ⟨b',A,none⟩) O ct):=λx=>(x.is.cell (p:=⟨g,2,none⟩) (show g<wr.heap.size by omega)).trans aO
     have cB:∀x:oO wr,x.at_.cell? ⟨b,off+k*3,none⟩=some (ll (txt y.lab)):=λx=>(x.is.cell (p:=⟨b,off+k*3,none⟩) hlt).trans aQ
     have cK:∀x:oO wr,x.at_.cell? ⟨b,off+k*3+1,none⟩=some (lu y.lab.list):=λx=>(x.is.cell (p:=⟨b,off+k*3+1,none⟩) hlt).trans aR
     have cO:∀x:oO wr,x.at_.cell? ⟨b,off+k*3+2,none⟩=some u:=λx=>(x.is.cell (p:=⟨b,off+k*3+2,none⟩) hlt).trans aS
     have bE:∀x:oO wr,x.at_.cell? ⟨b',A+k*4,none⟩=some (lg lH z.lab.kind):=λx=>(x.is.cell (p:=⟨b',A+k*4,none⟩) J).trans z0
     have bF:∀x:oO wr,x.at_.cell? ⟨b',A+k*4+1,none⟩=some (lg lH z.lab.size):=λx=>(x.is.cell (p:=⟨b',A+k*4+1,none⟩) J).trans aV
     have bG:∀x:oO wr,x.at_.cell? ⟨b',A+k*4+2,none⟩=some aU:=λx=>(x.is.cell (p:=⟨b',A+k*4+2,none⟩) J).trans aW
     have bH:∀x:oO wr,x.at_.cell? ⟨b',A+k*4+3,none⟩=some (lg lH z.lab.tail):=λx=>(x.is.cell (p:=⟨b',A+k*4+3,none⟩) J).trans z3
     have CY:=iF (λx:oO wr=>bP.out y (jc C) z x.at_ aU u (Shape.lY.below af x.is) (Shape.lY.below aT x.is) (bu.out z Z) (bz.out y (jc C)) (bA.out y (jc C)) ae aa);have hbk:iW (∀x:oO wr,iK (g+2) w1 x.at_):=iF λx=>E.out.trans (x.is.mono aM)
     clear aT ae af ai aQ aR aS z0 aV aW z3 aP Z aa;have aj:k<O:=lK;go_upto_region 22 with fail;exact Vy
    .obtain rfl:k=m:=lK
     go_wp2_with fail;go_returns;exact⟨rfl,bM.out⟩
theorem Vz(t:lL TL)(x:lL IL)(w:iH)(tv iv:iJ)(C:mD w tv t.sub)(E:oZ w iv x.sub)(aj:x.lab.text.length<=jb)(N:o5 t x=0):
  iU iG 22 #[lC #[lg lH t.lab.kind,lg lH t.lab.size,tv,lg lH t.lab.tail],lC #[ll (txt x.lab),lu x.lab.list,iv]] w λe w'=>e=lF (lg lH 0)/\iK w.heap.size w w':=by
 have aQ:nG t=true/\rO x=true/\oK x t=true:=by
  unfold o5 at N;split at N
  .rename_i h
   split at N;.rename_i aR;exact⟨h.1,h.2,aR⟩
   .cases N
  .cases N
 obtain⟨A,O,ak⟩:=aQ;have au:t.count<=1000:=by
  unfold nG at A;simp only[iY,decide_eq_true_eq]at A;omega
 obtain⟨av,Q⟩:=uI O;have ax:=D8 A;obtain⟨ot,ct,rfl,_,_⟩:=C.slice;obtain⟨oi,ci,rfl,_,_⟩:=lX.slice E;have aK:=iF (λW (h:iK w.heap.size w W)=>by have:=Hf t W (lh ot t.sub.length ct) (Shape.lY.below C h) au;rw[A]at this;exact this);have aL:=iF (λW (h:iK w.heap.size w W)=>by have:=JY x W (lh oi x.sub.length ci) (Shape.lY.below E h) Q;rw[O]at this;exact this);have aM:=iF (λW (h:iK w.heap.size w W)=>a0g x t W (lh ot t.sub.length ct) (lh oi x.sub.length ci) (Shape.lY.below C h) (Shape.lY.below E h) ax av Q aj ak);obtain⟨g,hg⟩:=lV w.heap.size;have ai:=iF (wm (w:=w) t.lab.kind t.lab.size t.lab.tail (lh ot t.sub.length ct) (txt x.lab) x.lab.list (lh oi x.sub.length ci));rw[hg]at ai aK aL aM⊢;obtain⟨aS,ay⟩:=lV t.sub.length;obtain⟨aT,az⟩:=lV x.sub.length;obtain⟨aU,aA⟩:=lV t.lab.kind;obtain⟨ts,aB⟩:=lV t.lab.size;obtain⟨tt,aC⟩:=lV t.lab.tail;obtain⟨aV,aD⟩:=lV (txt x.lab);obtain⟨aW,U⟩:=lV x.lab.list;simp only[ay,az,aA,aB,aC,aD,U]at ai aK aL aM⊢;clear C E aj N A O ak au av Q ax ay az aA aB aC aD U;go_in;go_upto_region 1 with fail;obtain⟨aF,⟨t0,V,Y,t3⟩,⟨Z,aa,ae⟩,hsz⟩:=ai.out _ rfl;generalize (w.alloc _).alloc _=w1 at*;have af:=iF aF;have ag:=iF hsz
 have aN:iW (∀W,iK (g+2) w1 W->(W.cell? ⟨g,0,none⟩=some (lg lH aU)/\W.cell? ⟨g,1,none⟩=some (lg lH ts)/\W.cell? ⟨g,2,none⟩=some (lh ot aS ct)/\W.cell? ⟨g,3,none⟩=some (lg lH tt))/\
   (W.cell? ⟨g+1,0,none⟩=some (ll aV)/\W.cell? ⟨g+1,1,none⟩=some (lu aW)/\W.cell? ⟨g+1,2,none⟩=some (lh oi aT ci))):=iF λW h=>
  have q:∀b i,b<g+2->W.cell? ⟨b,i,none⟩=w1.cell? ⟨b,i,none⟩:=λb i hb=>h.cell (p:=⟨b,i,none⟩) hb
  ⟨⟨(q g 0 lK).trans t0,(q g 1 lK).trans V,(q g 2 lK).trans Y,(q g 3 lK).trans t3⟩,(q (g+1) 0 lK).trans Z,(q (g+1) 1 lK).trans aa,(q (g+1) 2 lK).trans ae⟩
 clear ai aF hsz;go_wp2_with fail;refine(aK.out _ af.out).mono ?_;rintro e w2 ⟨rfl,aG⟩;have J:iW (iK (g+2) w1 w2):=iF (ag.out▸aG);have aO:iW (iK g w w2):=iF (af.out.trans (J.out.mono lK));clear aG t0 V Y t3 Z aa ae;obtain⟨⟨t0,V,Y,t3⟩,Z,aa,ae⟩:=aN.out _ J.out;go_wp2_with fail;refine(aL.out _ aO.out).mono ?_;rintro e w3 ⟨rfl,aH⟩;have ah:iW (iK (g+2) w1 w3):=iF (J.out.trans (aH.mono (by have:=J.out.size;have:=ag.out;omega)));have aI:iW (iK g w w3):=iF (af.out.trans (ah.out.mono lK));clear aH t0 V Y t3 Z aa ae;obtain⟨⟨t0,V,Y,t3⟩,Z,aa,ae⟩:=aN.out _ ah.out;go_wp2_with fail;refine(aM.out _ aI.out).mono ?_;rintro e w4 ⟨rfl,aJ⟩;have aP:iW (iK g w w4):=iF (aI.out.trans (aJ.mono (by have:=ah.out.size;have:=ag.out;omega)));clear aJ;go_wp2_with fail;go_returns;exact⟨rfl,aP.out⟩
theorem Lf(x:lL IL)(deep most:Int)(w:iH)(iv:iJ)(A:oZ w iv x.sub)(C:rX x deep most=0):
  iU iG 23 #[lC #[ll (txt x.lab),lu x.lab.list,iv],lg lH deep,lg lH most] w λe w'=>e=lF (lg lH 0)/\iK w.heap.size w w':=by
 have aH:rO x=true/\(x.deep:Int)<=deep/\(x.count:Int)<=most:=by
  unfold rX at C;split at C
  .rename_i h
   split at C;.cases C
   .split at C
    .cases C
    .exact⟨h,lK,lK⟩
  .cases C
 obtain⟨N,hd,hc⟩:=aH;obtain⟨aB,E⟩:=uI N;obtain⟨oi,ci,rfl,_,_⟩:=lX.slice A;have ay:=iF (λW (h:iK w.heap.size w W)=>by have:=JY x W (lh oi x.sub.length ci) (Shape.lY.below A h) E;rw[N]at this;exact this);have az:=iF (λW (h:iK w.heap.size w W)=>FW x W (lh oi x.sub.length ci) (Shape.lY.below A h) E);have aA:=iF (λW (h:iK w.heap.size w W)=>DT x W (lh oi x.sub.length ci) (Shape.lY.below A h) E);have ae:=iF (qD (T:=txt x.lab) (l:=x.lab.list) (t:=IT) A);obtain⟨g,hg⟩:=lV w.heap.size;rw[hg]at ae ay az aA⊢;obtain⟨aI,af⟩:=lV x.sub.length;obtain⟨aJ,ag⟩:=lV (txt x.lab);obtain⟨aK,O⟩:=lV x.lab.list;obtain⟨dn,ah⟩:=lV x.deep;obtain⟨aC,ai⟩:=lV x.count;simp only[af,ag,O,ah,ai]at ae ay az aA hd hc⊢;clear A C N aB E af ag O ah ai;have aN:decide ((dn:Int)>deep)=false:=lW;have aL:decide (deep<(dn:Int))=false:=lW;have aO:decide ((aC:Int)>most)=false:=lW;have aM:decide (most<(aC:Int))=false:=lW;go_in;go_upto_region 1 with fail;obtain⟨aj,_,hsz,Q,U,V,_⟩:=ae.out _ rfl;generalize w.alloc _=w1 at*;have Y:=iF aj;have Z:=iF hsz;have aD:iW (∀W,iK (g+1) w1 W->W.cell? ⟨g,0,none⟩=some (ll aJ)/\W.cell? ⟨g,1,none⟩=some (lu aK)/\W.cell? ⟨g,2,none⟩=some (lh oi aI ci)):=iF λW h=>
  have q:∀i,W.cell? ⟨g,i,none⟩=w1.cell? ⟨g,i,none⟩:=λi=>h.cell (p:=⟨g,i,none⟩) (jE g)
  ⟨(q 0).trans Q,(q 1).trans U,(q 2).trans V⟩
 clear ae aj hsz;go_wp2_with fail;refine(ay.out _ Y.out).mono ?_;rintro e w2 ⟨rfl,ak⟩;have J:iW (iK (g+1) w1 w2):=iF (Z.out▸ak);have aF:iW (iK g w w2):=iF (Y.out.trans (J.out.mono lK));clear ak Q U V;obtain⟨Q,U,V⟩:=aD.out _ J.out;go_wp2_with fail;refine(az.out _ aF.out).mono ?_;rintro e w3 ⟨rfl,au⟩;have aa:iW (iK (g+1) w1 w3):=iF (J.out.trans (au.mono (by have:=J.out.size;have:=Z.out;omega)));have av:iW (iK g w w3):=iF (Y.out.trans (aa.out.mono lK));clear au Q U V;obtain⟨Q,U,V⟩:=aD.out _ aa.out;go_wp2_with fail;refine(aA.out _ av.out).mono ?_;rintro e w4 ⟨rfl,ax⟩;have aG:iW (iK g w w4):=iF (av.out.trans (ax.mono (by have:=aa.out.size;have:=Z.out;omega)));clear ax;go_wp2_with fail;go_returns;exact⟨rfl,aG.out⟩
end
section
open Go.RowKit
theorem Rt(c:mU)(rows:List Row)(mb:Nat)(buf:List UInt8)(nd fa:Int)(ch:ByteArray):(tF c rows mb buf nd fa ch).2.1.length<=buf.length+ch.size:=by
 have A:ch.data.toList.length=ch.size:=jM;unfold tF;split;.exact ku _ _
 .split
  .simp only[jv];omega
  .dsimp only
   rw[jS,jv];omega
theorem Lg(hc:mK c=true){rows:List Row}(A:∀r,r∈rows->nG r.ty=true){mb:Nat}{buf:List UInt8}{nd fa:Int}{ch:ByteArray}(hl:buf.length+ch.size<=100000){m:Cb}(h:m∈(tF c rows mb buf nd fa ch).1):Typed c rows m:=by
 have C:ch.data.toList.length=ch.size:=jM;unfold tF at h;split at h;.simp at h
 .split at h
  .simp at h
  .exact Eh hc A (by rw[size_mk,jv];omega) _ _ _ m h
theorem NS{t:lL TL}{x:lL IL}(h:o5 t x=0):x.lab.text.length<=65536:=by
 unfold o5 at h;split at h
 .rename_i O
  split at h
  .rename_i J
   have ht:=D8 O.1;have Q:=(uI O.2).1;obtain⟨a,s⟩:=x;have N:mi t.lab t.sub=true:=by
    obtain⟨ta,ts⟩:=t;simp only[lL.all,iY]at ht;exact ht.1
   have U:qx t a s.length=true:=by
    have:oK (.node a s) t=(qx t a s.length&&qb s t 0):=rfl;rw[this]at J;simp only[iY]at J;exact J.1
   simp only[lL.all,iY]at Q;have hi:=Q.1;unfold mO oW at hi;unfold mi nX at N;simp only[decide_eq_true_eq]at N;show a.text.length<=65536;rcases Gz (by unfold mi nX;simp only[decide_eq_true_eq];exact N) U with⟨C,A,E,_⟩|⟨C,A,E⟩|⟨C,A,E⟩|⟨C,A,E,_⟩|⟨C,A,E⟩
   .omega
   .omega
   .omega
   .rw[if_pos A]at hi
    have:a.text=[]:=by simpa using hi
    rw[this];simp
   .rw[if_pos A]at hi
    have:a.text=[]:=by simpa using hi
    rw[this];simp
  .cases h
 .cases h
theorem Ru{C:List sP}(h:BI c C=true):qB C=false/\mK c=true/\∃rows,sI c C=.ok rows:=by
 unfold BI at h;simp only[iY,Bool.not_eq_true',decide_eq_true_eq]at h;obtain⟨rows,A⟩:=X6 h.2;refine⟨h.1,?_,rows,A⟩;cases hc:mK c with
 |true=>rfl
 |false=>
  unfold sI at A;rw[if_pos hc]at A;cases A
theorem Rv{A:List sP}{rows:List Row}(h:sI c A=.ok rows):pz c [] A=.ok rows:=by
 unfold sI at h;split at h;.cases h
 .split at h
  .cases h
  .exact h
theorem VA{A:List sP}{rows:List Row}{m:Cb}(h:sI c A=.ok rows)(hg:qB A=false)(ht:Typed c rows m):
  ∃(j:Nat) (e:sP) (a:TL) (sub:List (lL TL)),A[j]? =some e/\e.nm=m.name/\(∀(k:Nat)(C:sP),k<j->A[k]? =some C->C.nm≠m.name)/\yH e.tx.data.toList=some (.node a sub)/\o5 (.node a sub) m.val=0/\rX m.val (if c.fmt=1 then 16 else c.dep) c.mX=0/\e.tx.size<=1000:=by
 obtain⟨r,V,hn,J,N⟩:=ht;rcases Gr A [] rows (Rv h) r V with E|⟨j,e,E,Y,O,Z,_⟩
 .cases E
 .cases Q:r.ty with
  |node a sub=>
   rw[Q]at J O;have:=((wH hg).2 e (jc E)).2;exact⟨j,e,a,sub,E,by rw[Y,hn],λk C hk U=>by rw[hn];exact Z k C hk U,by rw[<-Bj];exact O,J,N,lK⟩
theorem tH.below{w w':iH}{G r sb:Nat}{buf:List UInt8}{nd fa:Int}(h:tH w G r sb buf nd fa)(hb:iK w.heap.size w w'):tH w' G r sb buf nd fa:=by
 obtain⟨bv,la,tt,se,A,C⟩:=h;exact⟨bv,la,tt,se,Below.blk hb A A.lt,C.below hb⟩
theorem X7(ss:List ByteArray)(i:Nat):zA (ss.take i)<=zA ss:=by
 unfold zA;conv=>rhs;rw[<-List.take_append_drop i ss,List.map_append,List.sum_append]
 exact ku _ _
abbrev FnT:jg:=121
structure FD(g:Nat)(w:iH)(t:TL)(tv:iJ)(a:IL)(iv:iJ)(deep most:Int)(s:ByteArray)(W:iH):Prop where
 t:lN W g #[lg lH t.kind,lg lH t.size,tv,lg lH t.tail] 63
 x:lN W (g+1) #[ll (txt a),lu a.list,iv] IT
 d:lN W (g+2) #[lg lH deep] 3
 m:lN W (g+3) #[lg lH most] 3
 o:lN W (g+4) #[ll s] 9
 f:lN W (g+5) #[.func (.func 156) #[] #[lq (some ⟨g,0,none⟩),lq (some ⟨g+1,0,none⟩)],
  .func (.func 158) #[] #[lq (some ⟨g+1,0,none⟩),lq (some ⟨g+2,0,none⟩),lq (some ⟨g+3,0,none⟩)],
  .func (.func 160) #[] #[lq (some ⟨g+1,0,none⟩),lq (some ⟨g+4,0,none⟩)]] FnT
 b:iK g w W
section
variable {g:Nat}{w W W':iH}{t:TL}{tv iv:iJ}{a:IL}{deep most:Int}{s:ByteArray}
theorem FD.below(h:FD g w t tv a iv deep most s W)(hb:iK W.heap.size W W'):FD g w t tv a iv deep most s W':=
 ⟨Below.blk hb h.t h.t.lt,Below.blk hb h.x h.x.lt,Below.blk hb h.d h.d.lt,Below.blk hb h.m h.m.lt,Below.blk hb h.o h.o.lt,Below.blk hb h.f h.f.lt,h.b.trans (hb.mono (by have:=h.t.lt;omega))⟩
theorem FD.put(h:FD g w t tv a iv deep most s W)(A:ByteArray):FD g w t tv a iv deep most A (W.setCell ⟨g+4,0,none⟩ (ll A)):=
 have o:∀{n:Nat}{cs:Array iJ}{t:jg},lN W n cs t->n≠g+4->lN (W.setCell ⟨g+4,0,none⟩ (ll A)) n cs t:=λh hn=>h.setOther (a:=⟨g+4,0,none⟩) hn _
 ⟨o h.t lK,o h.x lK,o h.d lK,o h.m lK,h.o.set 0 _,o h.f lK,h.b.setCell (p:=⟨g+4,0,none⟩) lU _⟩
end
theorem a0h(t:lL TL)(x:lL IL)(w:iH)(tv iv:iJ)(A:mD w tv t.sub)(C:oZ w iv x.sub)(J:x.lab.text.length<=jb)(N:oG w)(deep most:Int)(s:ByteArray)(W:iH)(h:FD w.heap.size w t.lab tv x.lab iv deep most s W):
  iU iG 156 #[lq (some ⟨w.heap.size,0,none⟩),lq (some ⟨w.heap.size+1,0,none⟩)] W λe w'=>e=lF (lg lH (o5 t x))/\FD w.heap.size w t.lab tv x.lab iv deep most s w':=by
 have O:=iF (D9 t x W tv iv (Shape.lY.below A h.b) (Shape.lY.below C h.b) J (N.below h.b N.lt));have H:=iF h;obtain⟨t0,U,V,t3⟩:=h.t.a4;obtain⟨Y,Z,aa⟩:=h.x.a3;clear h A C J N;generalize o5 t x=E at*;generalize w.heap.size=g at*;go_in;go_wp2_with fail;refine O.out.mono ?_;rintro e w2 ⟨rfl,hb⟩;have Q:=iF (H.out.below hb);clear hb;go_wp2_with fail;go_returns;exact⟨rfl,Q.out⟩
theorem a0i(t:lL TL)(x:lL IL)(w:iH)(tv iv:iJ)(A:oZ w iv x.sub)(deep most:Int)(s:ByteArray)(W:iH)(h:FD w.heap.size w t.lab tv x.lab iv deep most s W):
  iU iG 158 #[lq (some ⟨w.heap.size+1,0,none⟩),lq (some ⟨w.heap.size+2,0,none⟩),lq (some ⟨w.heap.size+3,0,none⟩)] W λe w'=>e=lF (lg lH (rX x deep most))/\FD w.heap.size w t.lab tv x.lab iv deep most s w':=by
 have C:=iF (Qx x deep most W iv (Shape.lY.below A h.b));have H:=iF h;obtain⟨N,O,Q⟩:=h.x.a3;have U:=h.d.c0;have V:=h.m.c0;clear h A;generalize rX x deep most=E at*;generalize w.heap.size=g at*;go_in;go_wp2_with fail;refine C.out.mono ?_;rintro e w2 ⟨rfl,hb⟩;have J:=iF (H.out.below hb);clear hb;go_wp2_with fail;go_returns;exact⟨rfl,J.out⟩
def FE(x:lL IL):ByteArray:=if rO x=true then⟨(enc x).toArray⟩else⟨#[]⟩
def NT(x:lL IL):Int:=if rO x=true then 0 else 1
theorem a0j(t:lL TL)(x:lL IL)(w:iH)(tv iv:iJ)(A:oZ w iv x.sub)(C:x.lab.text.length<=jb)(J:∀W,iK w.heap.size w W->iU iG 161 #[lC #[ll (txt x.lab),lu x.lab.list,iv]] W λe w'=>e=lF (lD #[ll (FE x),lg lH (NT x)])/\iK W.heap.size W w')(deep most:Int)(s:ByteArray)(W:iH)(h:FD w.heap.size w t.lab tv x.lab iv deep most s W):
  iU iG 160 #[lq (some ⟨w.heap.size+1,0,none⟩),lq (some ⟨w.heap.size+4,0,none⟩)] W λe w'=>e=lF (lg lH (NT x))/\FD w.heap.size w t.lab tv x.lab iv deep most (FE x) w':=by
 have O:=iF (J W h.b);have H:=iF h;obtain⟨Q,U,V⟩:=h.x.a3;clear h A C J;generalize NT x=E at*;generalize FE x=S at*;generalize w.heap.size=g at*;go_in;go_wp2_with fail;refine O.out.mono ?_;rintro e w2 ⟨rfl,hb⟩;have N:=iF (H.out.below hb);obtain⟨o0,Y⟩:=N.out.o.b1;clear hb;go_wp2_with fail;go_returns;exact⟨rfl,N.out.put S⟩
def ER(t:lL TL)(x:lL IL)(deep most:Int):Int:=if o5 t x≠0 then o5 t x else if rX x deep most≠0 then rX x deep most else NT x
theorem a0k{w w1 w2 w3 w4 w5 W:iH}{t:TL}{tv iv:iJ}{a:IL}{deep most:Int}(e1:w.alloc (lG #[lg lH t.kind,lg lH t.size,tv,lg lH t.tail] 63)=w1)(e2:w1.alloc (lG #[ll (txt a),lu a.list,iv] IT)=w2)(e3:w2.alloc (lG #[lg lH deep] 3)=w3)(e4:w3.alloc (lG #[lg lH most] 3)=w4)(e5:w4.alloc (lG #[ll ⟨#[]⟩] 9)=w5)(O:w5.alloc (lG #[.func (.func 156) #[] #[lq (some ⟨w.heap.size,0,none⟩),lq (some ⟨w.heap.size+1,0,none⟩)],
  .func (.func 158) #[] #[lq (some ⟨w.heap.size+1,0,none⟩),lq (some ⟨w.heap.size+2,0,none⟩),lq (some ⟨w.heap.size+3,0,none⟩)],
  .func (.func 160) #[] #[lq (some ⟨w.heap.size+1,0,none⟩),lq (some ⟨w.heap.size+4,0,none⟩)]] FnT)=W):FD w.heap.size w t tv a iv deep most ⟨#[]⟩ W/\w5.heap.size=w.heap.size+5:=by
 have Q:w1.heap.size=w.heap.size+1:=by rw[<-e1];simp
 have U:w2.heap.size=w.heap.size+2:=by rw[<-e2];simp[Q]
 have z3:w3.heap.size=w.heap.size+3:=by rw[<-e3];simp[U]
 have z4:w4.heap.size=w.heap.size+4:=by rw[<-e4];simp[z3]
 have z5:w5.heap.size=w.heap.size+5:=by rw[<-e5];simp[z4]
 have b1:iK w.heap.size w w1:=by rw[<-e1];exact(iL _ _).alloc (iI _) _
 have Y:iK w1.heap.size w1 w2:=by rw[<-e2];exact(iL _ _).alloc (iI _) _
 have b3:iK w2.heap.size w2 w3:=by rw[<-e3];exact(iL _ _).alloc (iI _) _
 have b4:iK w3.heap.size w3 w4:=by rw[<-e4];exact(iL _ _).alloc (iI _) _
 have Z:iK w4.heap.size w4 w5:=by rw[<-e5];exact(iL _ _).alloc (iI _) _
 have b6:iK w5.heap.size w5 W:=by rw[<-O];exact(iL _ _).alloc (iI _) _
 have A:=lN.new w #[lg lH t.kind,lg lH t.size,tv,lg lH t.tail] 63;have C:=lN.new w1 #[ll (txt a),lu a.list,iv] IT;have E:=lN.new w2 #[lg lH deep] 3;have J:=lN.new w3 #[lg lH most] 3;have N:=lN.new w4 #[ll ⟨#[]⟩] 9
 have V:=lN.new w5 #[.func (.func 156) #[] #[lq (some ⟨w.heap.size,0,none⟩),lq (some ⟨w.heap.size+1,0,none⟩)],
  .func (.func 158) #[] #[lq (some ⟨w.heap.size+1,0,none⟩),lq (some ⟨w.heap.size+2,0,none⟩),lq (some ⟨w.heap.size+3,0,none⟩)],
  .func (.func 160) #[] #[lq (some ⟨w.heap.size+1,0,none⟩),lq (some ⟨w.heap.size+4,0,none⟩)]] FnT
 rw[e1]at A;rw[e2,Q]at C;rw[e3,U]at E;rw[e4,z3]at J;rw[e5,z4]at N;rw[O,z5]at V;have c5:iK w4.heap.size w4 W:=Z.trans (b6.mono lK);have c4:iK w3.heap.size w3 W:=b4.trans (c5.mono lK);have c3:iK w2.heap.size w2 W:=b3.trans (c4.mono lK);have c2:iK w1.heap.size w1 W:=Y.trans (c3.mono lK);exact⟨⟨Below.blk c2 A A.lt,Below.blk c3 C C.lt,Below.blk c4 E E.lt,Below.blk c5 J J.lt,Below.blk b6 N N.lt,V,b1.trans (c2.mono lK)⟩,z5⟩
theorem VB(t:lL TL)(x:lL IL)(w:iH)(tv iv:iJ)(E:mD w tv t.sub)(C:oZ w iv x.sub)(Q:x.lab.text.length<=jb)(ag:∀W,iK w.heap.size w W->iU iG 161 #[lC #[ll (txt x.lab),lu x.lab.list,iv]] W λe w'=>e=lF (lD #[ll (FE x),lg lH (NT x)])/\iK W.heap.size W w')(ah:oG w)(deep most:Int):
  iU iG 116 #[lC #[lg lH t.lab.kind,lg lH t.lab.size,tv,lg lH t.lab.tail],lC #[ll (txt x.lab),lu x.lab.list,iv],lg lH deep,lg lH most] w
   λe w'=>e=lF (lD #[ll (if ER t x deep most=0 then FE x else⟨#[]⟩),lg lH (ER t x deep most)])/\iK w.heap.size w w':=by
 have aC:∀(fn:Fn)(first cap:Array iJ)(w:iH),(kL fn first cap).run iG w=.ok (.func fn first cap) w:=λ_ _ _ _=>rfl
 have Y:iW (∀w5 W,(((((w.alloc (lG #[lg lH t.lab.kind,lg lH t.lab.size,tv,lg lH t.lab.tail] 63)).alloc (lG #[ll (txt x.lab),lu x.lab.list,iv] IT)).alloc (lG #[lg lH deep] 3)).alloc (lG #[lg lH most] 3)).alloc (lG #[ll ⟨#[]⟩] 9))=w5->
   w5.alloc (lG #[.func (.func 156) #[] #[lq (some ⟨w.heap.size,0,none⟩),lq (some ⟨w.heap.size+1,0,none⟩)],
  .func (.func 158) #[] #[lq (some ⟨w.heap.size+1,0,none⟩),lq (some ⟨w.heap.size+2,0,none⟩),lq (some ⟨w.heap.size+3,0,none⟩)],
  .func (.func 160) #[] #[lq (some ⟨w.heap.size+1,0,none⟩),lq (some ⟨w.heap.size+4,0,none⟩)]] FnT)=W->w5.heap.size=w.heap.size+5/\iU iG 155 #[lh (some ⟨w5.heap.size,0,none⟩) 3 3] W λe Z=>e=lF (lg lH (ER t x deep most))/\iK w.heap.size w Z/\
    (ER t x deep most=0->Z.cell? ⟨w.heap.size+4,0,none⟩=some (ll (FE x)))):=iF λw5 W ax ay=>by
  obtain⟨hI,N⟩:=a0k (t:=t.lab) (tv:=tv) (iv:=iv) (a:=x.lab) (deep:=deep) (most:=most) rfl rfl rfl rfl ax ay;refine⟨N,?_⟩;rw[N];obtain⟨A,aa,ae,af,ai⟩:∃A:Nat->ByteArray,A 0=⟨#[]⟩/\A 1=⟨#[]⟩/\A 2=⟨#[]⟩/\A 3=FE x:=⟨λk=>if k=3 then FE x else⟨#[]⟩,if_neg lM,if_neg lM,if_neg lM,if_pos rfl⟩;have az:∀W,FD w.heap.size w t.lab tv x.lab iv deep most (A 0) W->iU iG 156 #[lq (some ⟨w.heap.size,0,none⟩),lq (some ⟨w.heap.size+1,0,none⟩)] W λe w'=>e=lF (lg lH (o5 t x))/\FD w.heap.size w t.lab tv x.lab iv deep most (A 1) w':=λW h=>by
   rw[aa]at h;rw[ae];exact a0h t x w tv iv E C Q ah deep most _ W h
  have aA:∀W,FD w.heap.size w t.lab tv x.lab iv deep most (A 1) W->iU iG 158 #[lq (some ⟨w.heap.size+1,0,none⟩),lq (some ⟨w.heap.size+2,0,none⟩),lq (some ⟨w.heap.size+3,0,none⟩)] W λe w'=>e=lF (lg lH (rX x deep most))/\FD w.heap.size w t.lab tv x.lab iv deep most (A 2) w':=λW h=>by
   rw[ae]at h;rw[af];exact a0i t x w tv iv C deep most _ W h
  have aB:∀W,FD w.heap.size w t.lab tv x.lab iv deep most (A 2) W->iU iG 160 #[lq (some ⟨w.heap.size+1,0,none⟩),lq (some ⟨w.heap.size+4,0,none⟩)] W λe w'=>e=lF (lg lH (NT x))/\FD w.heap.size w t.lab tv x.lab iv deep most (A 3) w':=λW h=>by
   rw[af]at h;rw[ai];exact a0j t x w tv iv C Q ag deep most _ W h
  rw[<-aa]at hI;clear aa ae af;refine(J3 W _ _ _ (w.heap.size+5) FnT (o5 t x) (rX x deep most) (NT x) (λk W=>FD w.heap.size w t.lab tv x.lab iv deep most (A k) W) (λk W h=>FD.f h) hI az (λ_=>aA) (λ_ _=>aB)).mono ?_;rintro e Z ⟨rfl,O⟩;refine⟨rfl,O.b,λh0=> ?_⟩;unfold ER at h0;by_cases c1:o5 t x≠0;.rw[if_pos c1]at h0;exact absurd h0 c1
  .by_cases c2:rX x deep most≠0
   .rw[if_neg c1,if_pos c2]at h0;exact absurd h0 c2
   .rw[if_neg c1,if_neg c2]at O
    rw[ai]at O;exact O.o.cell 0
 obtain⟨ot,ct,rfl,_,_⟩:=E.slice;obtain⟨oi,ci,rfl,_,_⟩:=lX.slice C;obtain⟨R,aj⟩:=lV (ER t x deep most);obtain⟨S,ak⟩:=lV (FE x);rw[aj,ak]at Y⊢;clear aj ak E C ag ah;go_in;go_upto_region 2 with fail;generalize U:World.alloc (World.alloc _ _) _=w5;obtain⟨N,hcall⟩:=Y.out w5 _ U rfl;rw[N]at hcall;have au:=iF hcall;clear hcall Y U;rw[show w.heap.size+1+1+1+1=w.heap.size+4 from rfl,show w.heap.size+1+1+1=w.heap.size+3 from rfl,show w.heap.size+1+1=w.heap.size+2 from rfl];go_wp2_with fail;refine au.out.mono ?_;rintro e aD ⟨rfl,V,J⟩;have av:=iF V;clear V au;by_cases c:R=0
 .have o0:=J c
  subst c;clear J;go_wp2_with fail;go_returns;exact⟨rfl,av.out⟩
 .have aF:(R !=0)=true:=by simp[c]
  have aG:=iF c;clear c J;go_wp2_with fail;go_returns;exact⟨rfl,av.out⟩
end
section
open Go.RowKit Go.Maps
def p9(T:ByteArray)(er:Int)(w:iH)(e:Ending)(w':iH):Prop:=e=lF (lD #[ll T,lg lH er])/\iK w.heap.size w w'
theorem Lh(k z tl:Int)(ou:Option kr)(n cu:Nat)(tx:ByteArray)(li:Bool)(oi:Option kr)(ni ci:Nat)(dep mX:Int)(T:ByteArray)(er:Int)(w:iH)(U:∀W,iK w.heap.size w W->iU iG 116 #[lC #[lg lH k,lg lH z,lh ou n cu,lg lH tl],lC #[ll tx,lu li,lh oi ni ci],lg lH dep,lg lH mX] W (p9 T er W)):
  iU iG 83 #[lC #[lg lH dep,lg lH mX],lC #[lg lH k,lg lH z,lh ou n cu,lg lH tl],lC #[ll tx,lu li,lh oi ni ci]] w (p9 T er w):=by
 obtain⟨g,hg⟩:=lV w.heap.size;have C:iW (∀W,((w.alloc (lG #[lg lH dep,lg lH mX] Ri)).alloc (lG #[lg lH k,lg lH z,lh ou n cu,lg lH tl] EF)).alloc (lG #[ll tx,lu li,lh oi ni ci] IT)=W->lN W g #[lg lH dep,lg lH mX] Ri/\lN W (g+1) #[lg lH k,lg lH z,lh ou n cu,lg lH tl] EF/\lN W (g+2) #[ll tx,lu li,lh oi ni ci] IT/\iK w.heap.size w W/\W.heap.size=g+3):=iF λW ag=>by
  subst ag;have ah:=(iL w.heap.size w).alloc (iI _) (lG #[lg lH dep,lg lH mX] Ri);have a2:=ah.alloc lU (lG #[lg lH k,lg lH z,lh ou n cu,lg lH tl] EF);have a3:=a2.alloc lW (lG #[ll tx,lu li,lh oi ni ci] IT);have V:=lN.new w #[lg lH dep,lg lH mX] Ri;have Y:=lN.new (w.alloc (lG #[lg lH dep,lg lH mX] Ri)) #[lg lH k,lg lH z,lh ou n cu,lg lH tl] EF;have Z:=lN.new ((w.alloc (lG #[lg lH dep,lg lH mX] Ri)).alloc (lG #[lg lH k,lg lH z,lh ou n cu,lg lH tl] EF)) #[ll tx,lu li,lh oi ni ci] IT;rw[show(w.alloc (lG #[lg lH dep,lg lH mX] Ri)).heap.size=g+1 by simp[hg]]at Y;rw[show((w.alloc (lG #[lg lH dep,lg lH mX] Ri)).alloc (lG #[lg lH k,lg lH z,lh ou n cu,lg lH tl] EF)).heap.size=g+2 by simp[hg]]at Z;rw[hg]at V;exact⟨(V.alloc _).alloc _,Y.alloc _,Z,a3,by simp[hg]⟩
 have aa:=iF U;obtain⟨ai,Q⟩:=lV (p9 T er w);have aj:=iF Q;rw[Q];clear U Q;go_in;go_upto_region 1 with fail;obtain⟨E,J,hk2,A,N⟩:=C.out _ rfl;generalize ((w.alloc _).alloc _).alloc _=w1 at*;obtain⟨c0,c1⟩:=E.a2;obtain⟨t0,ak,au,t3⟩:=J.a4;obtain⟨av,ax,ay⟩:=hk2.a3;have ae:=iF (iQ A N);have O:=iF (aa.out _ A);clear C E J hk2 A N aa;go_wp2_with fail;refine O.out.mono ?_;rintro e w2 ⟨rfl,hb⟩;have af:=iF hb;clear hb O c0 c1 t0 ak au t3 av ax ay;go_wp2_with fail;try go_returns
 rw[<-aj.out];exact⟨rfl,ae.out.1.trans (af.out.mono (by have:=ae.out.2;omega))⟩
end
end Go.Proofs.YtamfcjmhnndbdaaGreatDoor


