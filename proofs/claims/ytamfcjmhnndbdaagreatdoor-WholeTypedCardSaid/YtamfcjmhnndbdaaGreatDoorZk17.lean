/- Part 17 of the proof. -/
import Derived.Test.YtamfcjmhnndbdaaGreatDoorZk00
import Derived.Test.YtamfcjmhnndbdaaGreatDoorZk05
import Derived.Test.YtamfcjmhnndbdaaGreatDoorZk15
import Derived.Test.YtamfcjmhnndbdaaGreatDoorZk16
open Go.Value renaming agg→lC,bool→lu,int→lg,pointer→lq,slice→lh,string→ll,tuple→lD
open Go.Obj renaming cells→lG
open Go.IntKind renaming i64→lH,u32→lJ,u64→lI
open Go.Ending renaming returned→lF
open Go.Lib renaming hid→iF
open Go.Proofs.Tryz renaming prog→iG
open Go renaming World→iH,Value→iJ,Calls→iU,bodyPost_ret→iV,maxLen→jb,TypeId→jg,results→jr,Addr→kr
open Nat renaming le_refl→iI,le_trans→je,lt_of_lt_of_le→jq,zero_le→jy,lt_or_ge→jG,le_of_eq→kX
open Go.RowKit renaming Below→iK,Hid→iW,intOf→jA
open Go.RowKit.Below renaming refl→iL,heap_setCell→iX
open List renaming getElem?_cons_succ→iM,setIfInBounds_toArray→iN,getElem?_cons_zero→iO,getElem?_toArray→iP,set_cons_zero→iR,set_cons_succ→iT,getElem?_eq_getElem→iZ,mem_of_getElem?→jc,take_succ_cons→ji,length_append→jv,take_zero→jC,getElem?_eq_some_iff→jH,length_drop→jS,length_take→ky,mem_cons→kD,length_eq_zero_iff→kR,drop_succ_cons→kU,map_cons→kY
open And renaming intro→iQ
open Bool renaming and_eq_true→iY
open Array renaming length_toList→jM
open UInt8 renaming toNat_inj→jX
open Option.some renaming inj→kK,injEq→kM
namespace Go.Proofs.YtamfcjmhnndbdaaGreatDoor
set_option linter.unusedVariables false
set_option linter.unusedSimpArgs false
set_option maxRecDepth 100000
set_option maxHeartbeats 8000000
variable {l:List UInt8}{r g bn bi er:Nat}{x:lL TL}{p:Prop}{L:List mW}{c:mU}{w0 W w' W':iH}{rows mid:List Row}
section
open Go.RowKit
def II(l:List UInt8)(w:iH)(e:Ending)(w':iH):Prop:=
 ∃(a:TL) (o:Option kr) (n c:Nat) (er:Int) (sub:List (lL TL)),e=lF (lD #[lC #[lg lH a.kind,lg lH a.size,lh o n c,lg lH a.tail],lg lH er])/\iK w.heap.size w w'/\TL.wf a/\mD w' (lh o n c) sub/\
  (uG l=some (.node a sub)/\er=0\/uG l=none/\er=3/\a=⟨0,0,0⟩/\sub=[])
theorem Nw(s:ByteArray):lS s 0=s.data.toList:=rfl
theorem Ny(h:rd 8 l 64=none):uG l=none:=by unfold uG;rw[h]
theorem Nz{r:List UInt8}{n:Nat}(h:rd 8 l 64=some (x,r,n))(A:r≠[]):uG l=none:=by
 unfold uG;rw[h];cases r with
 |nil=>exact absurd rfl A
 |cons _ _=>rfl
theorem Rh{n:Nat}(h:rd 8 l 64=some (x,[],n)):uG l=if nG x then some x else none:=by unfold uG;rw[h]
theorem NA(h:p:=by
 refine iV (v:=lD #[lC #[lg lH 0,lg lH 0,lh none 0 0,lg lH 0],lg lH 3]) (by simp[jr,Tryz.results121,go_sem,e0,e1,e2,e3]) rfl ?_;exact hpost):p:=h
theorem Va(s:ByteArray)(w:iH)(hs:s.size<=jb)(aP:oG w):
  iU iG 121 #[ll s] w (II s.data.toList w):=by
 have aG:=aP.lt;obtain⟨g,hg⟩:=lV w.heap.size
 have aX:iW (∀W,(w.alloc (lG #[lg lH 0,lg lH 0,lh none 0 0,lg lH 0] TT)).alloc (lG #[ll s,lg lH 0,lg lH 64] 208)=W->iK g w W/\qz W (g+1) s 0 64/\
   lN W g #[lg lH 0,lg lH 0,lh none 0 0,lg lH 0] TT/\W.heap.size=g+2):=iF λW h=>by
  subst h;have aH:=(iL w.heap.size w).alloc (iI _) (lG #[lg lH 0,lg lH 0,lh none 0 0,lg lH 0] TT);have aI:=lN.new w #[lg lH 0,lg lH 0,lh none 0 0,lg lH 0] TT;have Z:(w.alloc (lG #[lg lH 0,lg lH 0,lh none 0 0,lg lH 0] TT)).heap.size=g+1:=lW;rw[hg]at aH aI;generalize w.alloc (lG #[lg lH 0,lg lH 0,lh none 0 0,lg lH 0] TT)=w1 at*;have ak:=(iL w1.heap.size w1).alloc (iI _) (lG #[ll s,lg lH 0,lg lH 64] 208);have aJ:=lN.new w1 #[ll s,lg lH 0,lg lH 64] 208;rw[Z]at aJ;exact⟨aH.trans (ak.mono lK),aJ,Below.blk ak aI lK,lW⟩
 have bL:=iF aP;have aY:1<g:=hg▸aG;obtain⟨aQ,aR⟩:=lV (II s.data.toList w);have aZ:=iF aR;rw[aR];clear aP aG aR;go_in;go_upto_region 2 with fail;generalize (w.alloc (lG #[lg lH 0,lg lH 0,lh none 0 0,lg lH 0] TT)).alloc (lG #[ll s,lg lH 0,lg lH 64] 208)=w1 at*;obtain⟨au,aK,aa,Z⟩:=aX.out _ rfl;have bg:iW (iU iG 171 #[lq (some ⟨g+1,0,none⟩),lg lH 1] w1 (qP (rd 8 (lS s 0) 64) (g+1) s w1)):=iF (XV (g+1) s hs 8 1 0 64 w1 rfl (jy _) (iI _) aK);have ag:=iF (iQ au (iQ aa Z));clear aX au aK aa Z;go_wp2_with fail;refine(bg.out).mono ?_;rintro e w2 ⟨a,o,n,c,ok,ah,l2,rfl,ae,aL,bq,bQ,hok,aM⟩;have bM:g+2<=w2.heap.size:=by have:=ae.size;have:=ag.out.2.2;omega
 have av:iW (iK g w w2/\qz w2 (g+1) s ah l2/\lN w2 g #[lg lH 0,lg lH 0,lh none 0 0,lg lH 0] TT):=iF ⟨ae.below ag.out.1 lK (by have:=ag.out.2.2;omega),aL,ae.blk ag.out.2.1 lK⟩;have V:=iF (iQ hok aM);have aN:iW (∀W,w2.alloc (lG #[lg lH a.kind,lg lH a.size,lh o n c,lg lH a.tail] TT)=W->iK w2.heap.size w2 W/\lN W w2.heap.size #[lg lH a.kind,lg lH a.size,lh o n c,lg lH a.tail] TT/\W.heap.size=w2.heap.size+1):=iF λW h=>by
  subst h;exact⟨(iL w2.heap.size w2).alloc (iI _) _,lN.new w2 _ _,lU⟩
 have bu:=iF ag.out.2.2;clear ae aL hok aM bg ag;go_upto_region 3 with fail;generalize w2.alloc (lG #[lg lH a.kind,lg lH a.size,lh o n c,lg lH a.tail] TT)=w3 at*;obtain⟨E,aO,bz⟩:=aN.out _ rfl
 have C:iW (iK g w w3/\qz w3 (g+1) s ah l2/\lN w3 g #[lg lH 0,lg lH 0,lh none 0 0,lg lH 0] TT/\lN w3 w2.heap.size #[lg lH a.kind,lg lH a.size,lh o n c,lg lH a.tail] TT/\iK w2.heap.size w2 w3):=
  iF ⟨av.out.1.trans (E.mono lK),qz.below av.out.2.1 E,Below.blk E av.out.2.2 lK,aO,E⟩
 have Q:w2.heap.size<w3.heap.size:=lK;clear aN E aO bz;obtain⟨aS,aT,aU,aV⟩:=C.out.2.2.2.1.a4;obtain⟨r0,r1,r2,r3,aA,aB,aC,aD⟩:=C.out.2.2.1.b4;obtain⟨c0,c1⟩:=C.out.2.1.a2
 have U:iW (∀W,iK g w W->(∃cs,lN W g cs TT/\cs.size=4)->uG s.data.toList=none->(nY W g (lg lH 0) (lg lH 0) (lh none 0 0) (lg lH 0)).cell? ⟨g,0,none⟩=some (lg lH 0)/\(nY W g (lg lH 0) (lg lH 0) (lh none 0 0) (lg lH 0)).cell? ⟨g,1,none⟩=some (lg lH 0)/\
   (nY W g (lg lH 0) (lg lH 0) (lh none 0 0) (lg lH 0)).cell? ⟨g,2,none⟩=some (lh none 0 0)/\(nY W g (lg lH 0) (lg lH 0) (lh none 0 0) (lg lH 0)).cell? ⟨g,3,none⟩=some (lg lH 0)/\
   aQ (lF (lD #[lC #[lg lH 0,lg lH 0,lh none 0 0,lg lH 0],lg lH 3])) (nY W g (lg lH 0) (lg lH 0) (lh none 0 0) (lg lH 0))):=iF λW J hB bN=>by
  obtain⟨cs,aa,bA⟩:=hB;have ai:=um (a:=lg lH 0) (b:=lg lH 0) (c:=lh none 0 0) (d:=lg lH 0) aa bA;refine⟨ai.cell 0,ai.cell 1,ai.cell 2,ai.cell 3,?_⟩;rw[<-aZ.out];refine⟨⟨0,0,0⟩,none,0,0,3,[],rfl,?_,Gp lK,AL _ _ _,.inr ⟨bN,rfl,rfl,rfl⟩⟩;rw[hg];exact⟨J.os,J.tape,J.output,je J.size (kX vR.symm),λk hk=>(yC k lK).trans (J.block k hk)⟩
 cases ok with
 |false=>
  have aW:=iF (Ny (V.out.2 rfl));clear V;go_wp2_with fail;rw[mq];obtain⟨e0,e1,e2,e3,hpost⟩:=U.out w3 C.out.1 ⟨_,C.out.2.2.1,rfl⟩ aW.out;exact NA
 |true=>
  by_cases N:ah=s.size
  .have bO:((ah:Int) !=s.size)=false:=by simp[N]
   have ax:iW (∃sub,rd 8 s.data.toList 64=some (.node a sub,[],l2)/\TL.wf a/\l9.lY w3 (λk=>g+2<=k) (lh o n c) sub):=iF (by
    obtain⟨sub,Y,ay,aj⟩:=V.out.1 rfl;rw[Nw,pY (s:=s) (p:=ah) lK]at Y;exact⟨sub,Y,ay,aj.keep C.out.2.2.2.2.size (λk _ hk=>by have:=bu.out;omega) λk hk _=>C.out.2.2.2.2.block k hk⟩)
   obtain⟨sub,Y,ay,aj⟩:=ax.out;have af:=iF (Rh Y);have bB:=iF ay;have bC:=iF aj;have az:=iF (zV (.node a sub) w3 (lh o n c) (aj.keep (iI _) (λ_ _ _=>trivial) λ_ _ _=>rfl) (bL.out.below C.out.1 aY));have bP:=iF N;clear Y ay aj ax N;simp only[lL.nk]at az;cases aF:nG (.node a sub)with
   |false=>
    rw[aF]at az af;clear aF;go_wp2_with fail;refine(az.out).mono ?_;rintro e w4 ⟨rfl,A⟩;have O:=iF A;have bD:=(A.cell (p:=⟨g,0,none⟩) (show g<w3.heap.size by omega)).trans r0;have bE:=(A.cell (p:=⟨g,1,none⟩) (show g<w3.heap.size by omega)).trans r1;have bF:=(A.cell (p:=⟨g,2,none⟩) (show g<w3.heap.size by omega)).trans r2;have bG:=(A.cell (p:=⟨g,3,none⟩) (show g<w3.heap.size by omega)).trans r3;have bH:=(A.frozen (p:=⟨g,0,none⟩) (show g<w3.heap.size by omega)).trans aA;have bI:=(A.frozen (p:=⟨g,1,none⟩) (show g<w3.heap.size by omega)).trans aB;have bJ:=(A.frozen (p:=⟨g,2,none⟩) (show g<w3.heap.size by omega)).trans aC;have bK:=(A.frozen (p:=⟨g,3,none⟩) (show g<w3.heap.size by omega)).trans aD;clear A r0 r1 r2 r3 aA aB aC aD aS aT aU aV c0 c1;go_wp2_with fail;rw[mq];obtain⟨e0,e1,e2,e3,hpost⟩:=U.out w4 (C.out.1.trans (O.out.mono lK)) ⟨_,Below.blk O.out C.out.2.2.1 lK,rfl⟩ (by rw[af.out];rfl);exact NA
   |true=>
    rw[aF]at az af;clear aF;go_wp2_with fail;refine(az.out).mono ?_;rintro e w4 ⟨rfl,A⟩;have O:=iF A;have bD:=(A.cell (p:=⟨g,0,none⟩) (show g<w3.heap.size by omega)).trans r0;have bE:=(A.cell (p:=⟨g,1,none⟩) (show g<w3.heap.size by omega)).trans r1;have bF:=(A.cell (p:=⟨g,2,none⟩) (show g<w3.heap.size by omega)).trans r2;have bG:=(A.cell (p:=⟨g,3,none⟩) (show g<w3.heap.size by omega)).trans r3;have bH:=(A.frozen (p:=⟨g,0,none⟩) (show g<w3.heap.size by omega)).trans aA;have bI:=(A.frozen (p:=⟨g,1,none⟩) (show g<w3.heap.size by omega)).trans aB;have bJ:=(A.frozen (p:=⟨g,2,none⟩) (show g<w3.heap.size by omega)).trans aC;have bK:=(A.frozen (p:=⟨g,3,none⟩) (show g<w3.heap.size by omega)).trans aD;have bR:=(A.cell (p:=⟨w2.heap.size,0,none⟩) Q).trans aS;have bS:=(A.cell (p:=⟨w2.heap.size,1,none⟩) Q).trans aT;have bT:=(A.cell (p:=⟨w2.heap.size,2,none⟩) Q).trans aU;have bU:=(A.cell (p:=⟨w2.heap.size,3,none⟩) Q).trans aV;clear A r0 r1 r2 r3 aA aB aC aD aS aT aU aV c0 c1;go_wp2_with fail;rw[mq];have ai:=um (a:=lg lH a.kind) (b:=lg lH a.size) (c:=lh o n c) (d:=lg lH a.tail) (Below.blk O.out C.out.2.2.1 lK) rfl;obtain⟨e0,e1,e2,e3⟩:=ai.a4;refine iV (v:=lD #[lC #[lg lH a.kind,lg lH a.size,lh o n c,lg lH a.tail],lg lH 0]) (by simp[jr,Tryz.results121,go_sem,e0,e1,e2,e3]) rfl ?_;rw[<-aZ.out];have J:iK g w w4:=C.out.1.trans (O.out.mono lK);refine⟨a,o,n,c,0,sub,rfl,?_,bB.out,?_,.inl ⟨by rw[af.out];rfl,rfl⟩⟩
    .rw[hg]
     exact⟨J.os,J.tape,J.output,je J.size (kX vR.symm),λk hk=>(yC k lK).trans (J.block k hk)⟩
    .exact(uk (Shape.lY.below bC.out O.out) (λk hk=>by omega)).keep (iI _) (λ_ _ _=>trivial) λ_ _ _=>rfl
  .have bO:((ah:Int) !=s.size)=true:=EY
   have aW:iW (uG s.data.toList=none):=iF (by
    obtain⟨sub,Y,ay,aj⟩:=V.out.1 rfl;exact Nz Y λh=>N (Gm bq h))
   clear N V;go_wp2_with fail;rw[mq];obtain⟨e0,e1,e2,e3,hpost⟩:=U.out w3 C.out.1 ⟨_,C.out.2.2.1,rfl⟩ aW.out;exact NA
end
section
open Go.RowKit Go.Maps
def rT(c:mU)(rows:List Row)(id:Nat)(nm tx:ByteArray):Nat×Option Row:=
 if(rows.find? λy=>decide (y.name=nm)).isSome=true\/rV nm.data.toList=false then(11,none)
 else if(rows.find? λy=>decide (y.id=id)).isSome=true then(1,none)
 else match uG tx.data.toList with
  |none=>(3,none)
  |some t=>if c.fmt=1/\(lL.mR p0 t.sub&&nG t)=false then(12,none)else(0,some ⟨id,nm,tx,t⟩)
structure a1w(r bn bi:Nat)(c:mU)(L:List mW)(R:Nat×Option Row)(w w':iH):Prop where
 kp:qp (λd=>d=bn\/d=bi) w w'
 rg:∀row,R.2=some row->∃x:mW,x.r=row/\ow r bn bi c (x::L) w'
theorem NC(L:List mW)(nm:ByteArray):((L.map λx=>x.r).find? λy=>decide (y.name=nm)).isSome=(L.find? λx=>decide (x.r.name=nm)).isSome:=by
 rw[List.find?_map,Option.isSome_map];rfl
theorem Vb(L:List mW)(id:Nat):((L.map λx=>x.r).find? λy=>decide (y.id=id)).isSome=(L.find? λx=>decide ((x.r.id:Int)=(id:Int))).isSome:=by
 rw[List.find?_map,Option.isSome_map];have:((λr:Row=>decide (r.id=id))∘λx:mW=>x.r)=λx:mW=>decide ((x.r.id:Int)=(id:Int)):=funext λx=>decide_eq_decide.2 (by show x.r.id=id<->(x.r.id:Int)=(id:Int);omega)
 rw[this]
theorem Gq{p:mW->Bool}(h:(L.find? p).isSome=false):∀y,y∈L->p y=false:=by
 intro y A;rw[Option.isSome_eq_false_iff,Option.isNone_iff_eq_none]at h;have:=List.find?_eq_none.1 h y A;simpa using this
theorem Vd{kt:Nat}{x:mW}(h:ZV g r bn bi c L x.r.id x.r.name x.r.text w0 W)(C:lN W kt #[lg lH x.r.ty.lab.kind,lg lH x.r.ty.lab.size,lh x.ou x.r.ty.sub.length x.cu,lg lH x.r.ty.lab.tail] EF)(hs:mD W (lh x.ou x.r.ty.sub.length x.cu) x.r.ty.sub)(U:bn≠bi/\r≠bn/\r≠bi)(hk:g<kt)(E:∀y,y∈L->y.r.name≠x.r.name)(J:∀y,y∈L->y.r.id≠x.r.id)(N:x.r.name.size<=jb)(O:x.r.id<18446744073709551616)(Q:L.length<1000):Fz g r bn bi kt c L x w0 false false W:=by
 have l:=h.lt;refine⟨h.rg.rg,h.rg.nm,h.rg.id,λy A=> ?_,h.en,C,qp.of (l.1.symm▸h.nV),⟨E,J,N,O,Q⟩,lK⟩;rcases kD.1 A with rfl|A
 .exact hs
 .exact h.rg.sub y A
theorem Z5{kt:Nat}{x:mW}(h:Fz g r bn bi kt c L x w0 true true W)(A:∀y,y∈x::L->nG y.r.ty=true/\(c.fmt=1->(lL.mR p0 y.r.ty.sub&&nG y.r.ty)=true)/\y.r.name.size<=12):ow r bn bi c (x::L) W:=
 ⟨h.rg,h.nm,h.id,h.sub,A⟩
theorem Ve{t:lL TL}(h:uG l=some t):nG t=true:=by
 unfold uG at h;split at h
 .split at h
  .rename_i A;cases h;exact A
  .cases h
 .cases h
theorem Px(h:p:=by
 go_wp2_with fail;try go_returns
 exact⟨by rw[HE.out];rfl,qp.of (hg.symm▸HF.out.1.nV),by rw[HE.out];exact λ_ h=>by cases h⟩):p:=h
theorem Vf(h:p:=by
 intro vs8 W8 h8;have H8:=iF h8;clear h8;simp only[iN,iR,iT];go_upto_region 13 with fail;refine UW (g:=g) (r:=r) (bn:=bn) (bi:=bi) (kt:=kt) (c:=c) (L:=L) (x:=⟨⟨id,nm,tx,.node a sub⟩,o,cc⟩) (w0:=w) (ht0:=by rfl) (ht3:=by rfl) (Gi:=by rfl) (hsz:=by rfl) (hI0:=λ_=>H8.out.below (mf _)) ?_;intro vs9 W9 h9;have H9:=iF h9;clear h9;simp only[iN,iR,iT];go_wp2_with fail;try go_returns
 exact⟨by rw[HE.out];rfl,H9.out.kp,by rw[HE.out];exact λrow h=>by cases h;exact⟨⟨⟨id,nm,tx,.node a sub⟩,o,cc⟩,rfl,Z5 H9.out Vg.out⟩⟩):p:=h
theorem XW(r bn bi:Nat)(c:mU)(L:List mW)(id:Nat)(nm tx:ByteArray)(w:iH)(h:ow r bn bi c L w)(aH:bn≠bi/\r≠bn/\r≠bi)(ae:nm.size<=jb)(aI:tx.size<=jb)(hid:id<18446744073709551616)(hL:L.length<1000)(aV:oG w):
  iU iG 87 #[lq (some ⟨r,0,none⟩),lC #[lg lI id,ll nm,ll tx]] w λe w'=>e=lF (lg lH (rT c (L.map λx=>x.r) id nm tx).1)/\a1w r bn bi c L (rT c (L.map λx=>x.r) id nm tx) w w':=by
 obtain⟨g,hg⟩:=lV w.heap.size;have bB:=h.lt3;have aJ:iW (∀W,w.alloc (lG #[lg lI id,ll nm,ll tx] Q9)=W->ZV g r bn bi c L id nm tx w W/\W.heap.size=g+1):=iF λW V=>by
  subst V;have a:=(iL w.heap.size w).alloc (iI _) (lG #[lg lI id,ll nm,ll tx] Q9);exact⟨⟨h.below a,hg▸lN.new w _ _,hg▸a,hg,lK⟩,by simp[hg]⟩
 have J:iW (∀W,ow r bn bi c L W->_):=iF λW V=>V.look nm ae
 have N:iW (∀W,ow r bn bi c L W->_):=iF λW V=>V.Yn id hid
 have aW:=iF h;have aK:=iF (λ(W:iH) (hb:iK g w W)=>aV.below hb (hg▸aV.lt));have O:=iF (iQ aH (iQ ae (iQ aI (iQ hid hL))));obtain⟨bC,aL,_⟩:=vK L λx=>decide (x.r.name=nm)
 obtain⟨bD,aM,_⟩:=vK L λx=>decide ((x.r.id:Int)=(id:Int))
 rw[aL]at J;rw[aM]at N;unfold RC.cs at J N;obtain⟨b1,af⟩:=lV ((L.find? λx=>decide (x.r.name=nm)).isSome);obtain⟨b4,ag⟩:=lV ((L.find? λx=>decide ((x.r.id:Int)=(id:Int))).isSome);obtain⟨C,av⟩:=lV (rT c (L.map λx=>x.r) id nm tx)
 have Q:iW (C=if b1=true\/rV nm.data.toList=false then(11,none)else if b4=true then(1,none)else match uG tx.data.toList with
  |none=>(3,none)
  |some t=>if c.fmt=1/\(lL.mR p0 t.sub&&nG t)=false then(12,none)else(0,some ⟨id,nm,tx,t⟩)):=iF (by rw[<-av];unfold rT;rw[NC,Vb,af,ag])
 have aN:iW (b1=false->∀y,y∈L->y.r.name≠nm):=iF λe y Y=>by have:=Gq (af.trans e) y Y;simpa using this
 have aO:iW (b4=false->∀y,y∈L->y.r.id≠id):=iF λe y Y=>by have:=Gq (ag.trans e) y Y;simp at this;omega
 rw[af]at J;rw[ag]at N;rw[av];have aX:=iF (λW=>Oo nm W ae);generalize aP:rV nm.data.toList=bm at*;have bg:=iF aP;clear h aH ae aI hid hL aV aL aM af ag av bB aP;go_in;go_upto_region 1 with fail;obtain⟨hI,bq⟩:=aJ.out _ rfl;generalize w.alloc _=w1 at*;have ax:=iF (iQ hI bq);clear aJ hI bq;refine XP (g:=g) (r:=r) (bn:=bn) (bi:=bi) (c:=c) (L:=L) (EX:=id) (nm:=nm) (tx:=tx) (w0:=w) (k:=g+1) (b:=b1) (x:=bC) (ht0:=by rfl) (ht3:=by rfl) (hl:=J.out) (h0:=aW.out) (hsz:=by rfl) (hI0:=λ_=>⟨ax.out.1.below (mf w1),by simpa using ax.out.2,(λh=>by cases h),lK⟩) ?_;intro vs bE hF;have HF:=iF (iQ hF.b (show bE.heap.size=g+2 by simpa using hF.sz));clear hF ax J;simp only[iN,iR,iT];cases b1 with
 |true=>
  have HE:iW (C=(11,none)):=iF (by rw[Q.out,if_pos (.inl rfl)]);exact Px
 |false=>
  cases bm with
  |false=>
   have HE:iW (C=(11,none)):=iF (by rw[Q.out,if_pos (.inr rfl)]);have c1:=HF.out.1.en.c1;go_wp2_with fail;refine(aX.out _).mono ?_;rintro e w3 ⟨rfl,rfl⟩;exact Px
  |true=>
   have c1:=HF.out.1.en.c1;go_wp2_with fail;refine(aX.out _).mono ?_;rintro e w3 ⟨rfl,hw3⟩;subst hw3;clear aX c1;go_upto_region 4 with fail;refine XQ (g:=g) (r:=r) (bn:=bn) (bi:=bi) (c:=c) (L:=L) (EX:=id) (nm:=nm) (tx:=tx) (w0:=w) (k:=g+2) (b:=b4) (x:=bD) (ht0:=by rfl) (ht3:=by rfl) (hl:=N.out) (h0:=aW.out) (hsz:=by rfl) (hI0:=λ_=>⟨HF.out.1.below (mf w3),by simpa using HF.out.2,(λh=>by cases h),lK⟩) ?_;intro vs aY ay;have U:=iF (iQ ay.b (show aY.heap.size=g+3 by simpa using ay.sz));clear ay HF N;simp only[iN,iR,iT];cases b4 with
   |true=>
    have HE:iW (C=(1,none)):=iF (by rw[Q.out,if_neg lU,if_pos rfl]);go_wp2_with fail;try go_returns
    exact⟨by rw[HE.out];rfl,qp.of (hg.symm▸U.out.1.nV),by rw[HE.out];exact λ_ h=>by cases h⟩
   |false=>
    have ah:iW (C=match uG tx.data.toList with
     |none=>(3,none)
     |some t=>if c.fmt=1/\(lL.mR p0 t.sub&&nG t)=false then(12,none)else(0,some ⟨id,nm,tx,t⟩)):=iF (by rw[Q.out,if_neg lU,if_neg lU])
    clear Q;have c2:=U.out.1.en.c2;have aZ:=iF (Va tx aY O.out.2.2.1 (aK.out aY U.out.1.nV));go_wp2_with fail;refine aZ.out.mono ?_;unfold II;rintro e w5 ⟨a,o,n,cc,er,sub,rfl,ai,bO,E,A⟩;obtain⟨kt,az⟩:=lV w5.heap.size;obtain⟨_,_,aQ,_,_⟩:=E.slice;obtain⟨bF,bG,rc⟩:o=o/\n=sub.length/\cc=cc:=⟨rfl,by injection aQ,rfl⟩;subst bG;clear aQ bF rc;have aG:iW (∀W,w5.alloc (lG #[lg lH a.kind,lg lH a.size,lh o sub.length cc,lg lH a.tail] EF)=W->ZV g r bn bi c L id nm tx w W/\lN W kt #[lg lH a.kind,lg lH a.size,lh o sub.length cc,lg lH a.tail] EF/\mD W (lh o sub.length cc) sub/\g<kt):=iF λW V=>by
     subst V;have al:=(iL w5.heap.size w5).alloc (iI _) (lG #[lg lH a.kind,lg lH a.size,lh o sub.length cc,lg lH a.tail] EF);have:=ai.size;have:=U.out.2;exact⟨(U.out.1.below ai).below al,az▸lN.new w5 _ _,Shape.lY.below E al,lK⟩
    rcases A with⟨A,rfl⟩|⟨A,rfl,rfl,rfl⟩
    .have aj:=iF A
     clear ai E A aZ c2;go_upto_region 10 with fail;obtain⟨hB,ak,aA,aB⟩:=aG.out _ rfl;generalize w5.alloc _=Z at*;have aC:=iF (iQ hB (iQ ak (iQ aA aB)));have aR:iW (Fz g r bn bi kt c L ⟨⟨id,nm,tx,.node a sub⟩,o,cc⟩ w false false Z):=iF (Vd (x:=⟨⟨id,nm,tx,.node a sub⟩,o,cc⟩) hB ak aA O.out.1 aB (by first|exact aN.out rfl|exact aN.out trivial) (by first|exact aO.out rfl|exact aO.out trivial) O.out.2.1 O.out.2.2.2.1 O.out.2.2.2.2);have c0:=hB.rg.rg.c0;obtain⟨bH,bI,bJ,bK⟩:=ak.a4;clear hB ak aA aB aG az;have Vg:∀ b:Bool,(c.fmt=1->b=true)->(lL.mR p0 sub&&nG (.node a sub))=b->∀y,y∈(⟨⟨id,nm,tx,.node a sub⟩,o,cc⟩:mW)::L->nG y.r.ty=true/\(c.fmt=1->(lL.mR p0 y.r.ty.sub&&nG y.r.ty)=true)/\y.r.name.size<=12:=λb hb bu y Y=>by
      rcases kD.1 Y with rfl|Y
      .refine⟨Ve aj.out,λbL=>(bu.trans (hb bL):(lL.mR p0 sub&&nG (.node a sub))=true),?_⟩
       have:=bg.out;unfold rV at this;simp only[iY,decide_eq_true_eq]at this;have bP:=this.1.2;have e:nm.data.toList.length=nm.size:=jM;show nm.size<=12;omega
      .exact aW.out.may y Y
     have au:=iF Vg;clear Vg;by_cases aa:c.fmt=1
     .have bM:(c.fmt==1)=true:=by simp[aa]
      have bN:=iF aa;have bz:=iF (Gc (.node a sub) Z (lh o sub.length cc) aC.out.2.2.1 (aK.out Z aC.out.1.nV));obtain⟨bA,aD⟩:=lV ((lL.mR p0 sub&&nG (.node a sub)));have aF:=iF aD;have aS:iW (iU iG 122 #[lC #[lg lH a.kind,lg lH a.size,lh o sub.length cc,lg lH a.tail]] Z λe w'=>e=lF (lu bA)/\iK Z.heap.size Z w'):=iF (aD▸bz.out);clear aa bz aD;go_wp2_with fail;refine aS.out.mono ?_;rintro e bQ ⟨rfl,aT⟩;have aU:=iF aT;clear aT aS c0 bH bI bJ bK;cases bA with
      |false=>
       have HE:iW (C=(12,none)):=iF (by rw[ah.out,aj.out];exact if_pos ⟨bN.out,aF.out⟩);go_wp2_with fail;try go_returns
       exact⟨by rw[HE.out];rfl,qp.of (hg.symm▸(aC.out.1.below aU.out).nV),by rw[HE.out];exact λ_ h=>by cases h⟩
      |true=>
       have HE:iW (C=(0,some ⟨id,nm,tx,.node a sub⟩)):=iF (by rw[ah.out,aj.out];exact if_neg λh=>Bool.false_ne_true (h.2.symm.trans aF.out));have Vg:=iF (au.out true (λ_=>rfl) aF.out);go_upto_region 12 with fail;refine KU (g:=g) (r:=r) (bn:=bn) (bi:=bi) (kt:=kt) (c:=c) (L:=L) (x:=⟨⟨id,nm,tx,.node a sub⟩,o,cc⟩) (w0:=w) (ht0:=by rfl) (ht3:=by rfl) (Gi:=by rfl) (hsz:=by rfl) (hI0:=λ_=>(aR.out.below aU.out).below (mf _)) ?_;exact Vf
     .have bM:(c.fmt==1)=false:=by simp[aa]
      have HE:iW (C=(0,some ⟨id,nm,tx,.node a sub⟩)):=iF (by rw[ah.out,aj.out];exact if_neg λh=>aa h.1);have Vg:=iF (au.out _ (λh=>absurd h aa) rfl);clear aa;go_upto_region 12 with fail;refine KU (g:=g) (r:=r) (bn:=bn) (bi:=bi) (kt:=kt) (c:=c) (L:=L) (x:=⟨⟨id,nm,tx,.node a sub⟩,o,cc⟩) (w0:=w) (ht0:=by rfl) (ht3:=by rfl) (Gi:=by rfl) (hsz:=by rfl) (hI0:=λ_=>aR.out.below (mf _)) ?_;exact Vf
    .have HE:iW (C=(3,none)):=iF (by rw[ah.out,A])
     clear ai E A aZ c2;go_upto_region 8 with fail;obtain⟨hB,_⟩:=aG.out _ rfl;generalize w5.alloc _=Z at*;have aC:=iF hB;clear hB aG az;go_wp2_with fail;try go_returns
     exact⟨by rw[HE.out];rfl,qp.of (hg.symm▸aC.out.nV),by rw[HE.out];exact λ_ h=>by cases h⟩
structure sP where
 id:Nat
 nm:ByteArray
 tx:ByteArray
def BB(w:iH)(v:iJ)(A:List sP):Prop:=
 ∃oa cap,v=lh oa A.length cap/\A.length<=cap/\cap<=jb/\∀i e,A[i]? =some e->∃b off,oa=some ⟨b,off,none⟩/\b<w.heap.size/\w.cell? ⟨b,off+i*3,none⟩=some (lg lI e.id)/\w.cell? ⟨b,off+i*3+1,none⟩=some (ll e.nm)/\w.cell? ⟨b,off+i*3+2,none⟩=some (ll e.tx)
theorem BB.below{w:iH}{v:iJ}{A:List sP}(h:BB w v A)(hb:iK w.heap.size w w'):BB w' v A:=by
 obtain⟨oa,cap,C,E,J,N⟩:=h;refine⟨oa,cap,C,E,J,λi e he=> ?_⟩;obtain⟨b,off,ho,hl,c0,c1,c2⟩:=N i e he;have q:∀o,w'.cell? ⟨b,o,none⟩=w.cell? ⟨b,o,none⟩:=λo=>World.cell?_of_block (w:=w) (a:=⟨b,o,none⟩) (hb.block b hl)
 exact⟨b,off,ho,jq hl hb.size,by rw[q];exact c0,by rw[q];exact c1,by rw[q];exact c2⟩
def pz(c:mU):List Row->List sP->Except Nat (List Row)
 |rows,[]=> .ok rows
 |rows,e::A=>match rT c rows e.id e.nm e.tx with
  |(er,none)=> .error er
  |(_,some row)=>pz c (row::rows) A
def sI(c:mU)(A:List sP):Except Nat (List Row):=if mK c=false then .error 1 else if 32<A.length then .error 4 else pz c [] A
theorem K4(c:mU)(rows:List Row)(id:Nat)(nm tx:ByteArray):(rT c rows id nm tx).2=none/\(rT c rows id nm tx).1≠0\/(rT c rows id nm tx).1=0/\∃row,(rT c rows id nm tx).2=some row:=by
 unfold rT;split;.exact .inl ⟨rfl,lM⟩
 .split
  .exact .inl ⟨rfl,lM⟩
  .split
   .exact .inl ⟨rfl,lM⟩
   .split
    .exact .inl ⟨rfl,lM⟩
    .exact .inr ⟨rfl,_,rfl⟩
def yE(c:mU)(A:List sP)(w:iH)(e:Ending)(w':iH):Prop:=
 iK w.heap.size w w'/\match sI c A with
 | .error er=>e=lF (lD #[lq none,lg lH er])/\er≠0
 | .ok rows=>∃r bn bi L,e=lF (lD #[lq (some ⟨r,0,none⟩),lg lH 0])/\ow r bn bi c L w'/\(L.map λx:mW=>x.r)=rows/\(bn≠bi/\r≠bn/\r≠bi)/\w.heap.size<=r/\w.heap.size<=bn/\w.heap.size<=bi
abbrev Ri:jg:=159
structure Py(w0:iH)(g r bn bi:Nat)(c:mU)(L:List mW)(W:iH):Prop where
 rg:ow r bn bi c L W
 nV:iK g w0 W
 lt:w0.heap.size=g/\g<bn/\g<bi/\g<r/\bn≠bi/\r≠bn/\r≠bi
theorem Py.below(h:Py w0 g r bn bi c L W)(hb:iK W.heap.size W W'):Py w0 g r bn bi c L W':=
 ⟨h.rg.below hb,h.nV.trans (hb.mono (by have:=h.lt;have:=h.nV.size;omega)),h.lt⟩
theorem Py.add{A:List mW}(h:Py w0 g r bn bi c L W)(k:qp (λd=>d=bn\/d=bi) W W')(C:ow r bn bi c A W'):Py w0 g r bn bi c A W':=
 ⟨C,h.nV.trans (k.below (λd hd E=>by have:=h.lt;omega) (by have:=h.lt;have:=h.nV.size;omega)),h.lt⟩
theorem Py.kp(h:Py w0 g r bn bi c L W)(k:qp (λd=>d=bn\/d=bi) W W'):iK g w0 W':=
 h.nV.trans (k.below (λd hd A=>by have:=h.lt;omega) (by have:=h.lt;have:=h.nV.size;omega))
def Vh(c:mU)(bn bi:Nat)(pf gf:iJ):Array iJ:=#[lg lH c.fmt,lg lJ c.mag,lg lH c.nK,lg lH c.oF,lg lH c.dep,lg lH c.mX,.map (some bn),.map (some bi),pf,gf]
def ptV(c:mU):iJ:=.func (.func 83) #[lC #[lg lH c.dep,lg lH c.mX]] #[]
def gtV(c:mU):iJ:=.func (.func 84) #[lC #[lg lH c.dep,lg lH c.mX]] #[]
structure Vi(w0:iH)(g k:Nat)(c:mU)(pf gf:iJ)(W:iH):Prop where
 cf:lN W g #[lg lH c.fmt,lg lJ c.mag,lg lH c.nK,lg lH c.oF,lg lH c.dep,lg lH c.mX] rC
 cp:lN W k #[lg lH c.dep,lg lH c.mX] Ri
 rg:lN W (k+3) (Vh c (k+1) (k+2) pf gf) Zv
 nm:oU NmK qj W (k+1) 0 []
 id:oU IdK qj W (k+2) 0 []
 nV:iK g w0 W
 lt:w0.heap.size=g/\g<k
theorem Vi.of{k:Nat}(O:iK g w0 W)(C:lN W g #[lg lH c.fmt,lg lJ c.mag,lg lH c.nK,lg lH c.oF,lg lH c.dep,lg lH c.mX] rC)(E:lN W k #[lg lH c.dep,lg lH c.mX] Ri)(A:W.heap.size=k+1)(hl:w0.heap.size=g/\g<k)(pf gf:iJ):
  Vi w0 g k c pf gf (((W.alloc (.map #[] 0)).alloc (.map #[] 0)).alloc (lG (Vh c (k+1) (k+2) pf gf) Zv)):=by
 have Q:=(iL W.heap.size W).alloc (iI _) (.map #[] 0);have a2:=Q.alloc lU (.map #[] 0);have a3:=a2.alloc lW (lG (Vh c (k+1) (k+2) pf gf) Zv);have J:=oU.made NmK qj W;have m2:=oU.made IdK qj (W.alloc (.map #[] 0));have N:=lN.new ((W.alloc (.map #[] 0)).alloc (.map #[] 0)) (Vh c (k+1) (k+2) pf gf) Zv;rw[A]at J;rw[World.size_alloc,A]at m2;rw[World.size_alloc,World.size_alloc,A]at N;exact⟨Below.blk a3 C C.lt,Below.blk a3 E E.lt,N,(J.below ((iL _ _).alloc (iI _) _)).below (((iL _ _).alloc (iI _) _)),m2.below ((iL _ _).alloc (iI _) _),O.trans (a3.mono lK),hl⟩
theorem Vi.put{k:Nat}{pf gf pf2 gf2:iJ}(h:Vi w0 g k c pf gf W):Vi w0 g k c pf2 gf2 ((W.setCell ⟨k+3,8,none⟩ pf2).setCell ⟨k+3,9,none⟩ gf2):=by
 have l:=h.lt;have A:∀d,d≠k+3->((W.setCell ⟨k+3,8,none⟩ pf2).setCell ⟨k+3,9,none⟩ gf2).heap[d]? =W.heap[d]? :=λd hd=>(iX _ ⟨k+3,9,none⟩ _ d hd).trans (iX _ ⟨k+3,8,none⟩ _ d hd)
 have q:∀{d:Nat}{cs:Array iJ}{t:jg},lN W d cs t->d≠k+3->lN ((W.setCell ⟨k+3,8,none⟩ pf2).setCell ⟨k+3,9,none⟩ gf2) d cs t:=λhB hd=>by unfold lN;rw[A _ hd];exact hB
 refine⟨q h.cf lK,q h.cp lK,(h.rg.set 8 pf2).set 9 gf2,h.nm.block (A _ lK),h.id.block (A _ lK),?_,l⟩;exact(h.nV.setCell (p:=⟨k+3,8,none⟩) (by show g<=k+3;omega) _).setCell (p:=⟨k+3,9,none⟩) (by show g<=k+3;omega) _
theorem Vi.i{k:Nat}(h:Vi w0 g k c (El c) (Gd c) W):Py w0 g (k+3) (k+1) (k+2) c [] W:=
 ⟨⟨h.rg,h.nm,h.id,(λy A=>by cases A),(λy A=>by cases A)⟩,h.nV,by have:=h.lt;omega⟩
theorem BC{A:List sP}{w:iH}(h:sI c A=.error er)(hb:iK w.heap.size w w')(hn:er≠0):yE c A w (lF (lD #[lq none,lg lH er])) w':=⟨hb,by rw[h];exact⟨rfl,hn⟩⟩
theorem Z6{A:List sP}{w:iH}(h:sI c A=.ok (L.map λx=>x.r))(hI:Py w g r bn bi c L w'):yE c A w (lF (lD #[lq (some ⟨r,0,none⟩),lg lH 0])) w':=by
 have l:=hI.lt;exact⟨l.1.symm▸hI.nV,by rw[h];exact⟨r,bn,bi,L,rfl,hI.rg,rfl,lK,lK,lK,lK⟩⟩
theorem Pz(h:p:=by
 subst hW;exact⟨hg▸(iL w.heap.size w).alloc (iI _) _,hg▸lN.new w _ _,by simp[hg]⟩):p:=h
theorem YB(h:p:=by
 generalize hr0:kp+3=r at*;generalize hn0:kp+1=bn at*;generalize hi0:kp+2=bi at*;obtain⟨TOT,Z7⟩:=lV (pz c [] es);have a3v:=iF Z7;have HE2:iW (sI c es=TOT):=iF (HE.out.trans Z7);clear Z7 HE hr0 hn0 hi0;go_loopw [45] (λkv wi=>∃k:Nat,kv=lg lH (k:Int)/\k<=n/\iW (∃L:List mW,Py w g r bn bi c L wi/\L.length=k/\pz c (L.map λx=>x.r) (es.drop k)=TOT)) (λkv _=>n -(jA kv).toNat);case atStart=>exact⟨0,rfl,jy _,iF ⟨[],O4.out,rfl,a3v.out⟩⟩
 case round=>
  obtain⟨k,rfl,hk,HJ⟩:=hrel;obtain⟨L,hI,hLk,hnl⟩:=HJ.out;clear HJ;have HI:=iF hI;have HLK:=iF hLk;have HNL:=iF hnl;clear hI hLk hnl;by_cases hkn:k<n
  .have tk:decide (k<n)=true:=lW
   have hn32:n<=32:=by have:=H32.out;omega
   obtain⟨e,he⟩:∃e,es[k]? =some e:=⟨_,iZ (by rw[HN.out];exact hkn)⟩;obtain⟨b,off,rfl,hbl,q0,q1,q2⟩:=HC.out.2.2.1 k e he;have hq:∀o,wr.cell? ⟨b,o,none⟩=w.cell? ⟨b,o,none⟩:=λo=>World.cell?_of_block (w:=w) (a:=⟨b,o,none⟩) (HI.out.nV.block b lK)
   have z0:=(hq _).trans q0;have z1:=(hq _).trans q1;have z2:=(hq _).trans q2;have HES:=iF (HC.out.2.2.2 e (jc he));have HDR:iW (es.drop k=e::es.drop (k+1)):=iF (by
    obtain⟨h1,h2⟩:=jH.1 he;rw[List.drop_eq_getElem_cons h1,h2])
   have hfit:k<n:=hkn;clear hq q0 q1 q2 he hbl;have HAL:iW (∀W,wr.alloc (lG #[lg lI e.id,ll e.nm,ll e.tx] Q9)=W->Py w g r bn bi c L W/\lN W wr.heap.size #[lg lI e.id,ll e.nm,ll e.tx] Q9):=iF λW hW=>by
    subst hW;exact⟨HI.out.below ((iL _ _).alloc (iI _) _),lN.new wr _ _⟩
   go_upto_region 12 with fail;obtain⟨hI6,hB6⟩:=HAL.out _ rfl;generalize wr.alloc _=w6 at*;have HI6:=iF hI6;obtain⟨v0,v1,v2⟩:=hB6.a3;have CA:=iF (XW r bn bi c L e.id e.nm e.tx w6 hI6.rg ⟨hI6.lt.2.2.2.2.1,hI6.lt.2.2.2.2.2⟩ HES.out.1 HES.out.2.1 HES.out.2.2 (by have:=HLK.out;have:=H32.out;omega) (HTT.out w6 hI6.nV));obtain⟨⟨er,ro⟩,hAE⟩:∃R,rT c (L.map λx=>x.r) e.id e.nm e.tx=R:=⟨_,rfl⟩;have hcase:=K4 c (L.map λx=>x.r) e.id e.nm e.tx;rw[hAE]at CA hcase;have HAE:=iF hAE;dsimp only at CA hcase;clear hI6 hB6 HAL z0 z1 z2 hAE;go_wp2_with fail;refine CA.out.mono ?_;rintro e7 w7 ⟨rfl,hok⟩;have Cj:=iF hok;clear hok CA v0 v1 v2;rcases hcase with⟨rfl,hne⟩|⟨rfl,row,rfl⟩
   .have te:((er:Int) !=0)=true:=lW
    have HER:iW (sI c es=.error er):=iF (by rw[HE2.out,<-HNL.out,HDR.out,pz,HAE.out]);have HNE:=iF hne;clear hne;go_wp2_with fail;try go_returns
    rw[<-HP.out];exact BC HER.out (hg.symm▸HI6.out.kp Cj.out.kp) HNE.out
   .have te:(((0:Nat):Int) !=0)=false:=lU
    go_wp2_with fail;go_roundw;case rel=>
     obtain⟨x,hx,hr⟩:=Cj.out.rg row rfl;refine⟨k+1,lU,lK,iF ⟨x::L,HI6.out.add Cj.out.kp hr,by simp[HLK.out],?_⟩⟩;have h9:=HNL.out;rw[HDR.out,pz,HAE.out]at h9;rw[kY,hx];exact h9
    case measure=>simp[jA];omega
  .have tk:decide (k<n)=false:=lW
   have HEN:iW (sI c es=.ok (L.map λx=>x.r)):=iF (by
    have h9:=HNL.out;rw[List.drop_eq_nil_of_le (by rw[HN.out];omega),pz]at h9;rw[HE2.out,<-h9])
   clear hkn;go_wp2_with fail;try go_returns
   rw[<-HP.out];exact Z6 HEN.out HI.out):p:=h
theorem XX(c:mU)(es:List sP)(v:iJ)(w:iH)(aL:BB w v es)(aj:∀e,e∈es->e.nm.size<=jb/\e.tx.size<=jb/\e.id<18446744073709551616)(aA:oG w):
  iU iG 52 #[c.v,v] w (yE c es w):=by
 have aO:=@run_makeMap iG;obtain⟨oa,cap,rfl,Q,U,N⟩:=aL;obtain⟨n,hn⟩:=lV es.length;obtain⟨g,hg⟩:=lV w.heap.size;have ak:iW (∀W,w.alloc (lG #[lg lH c.fmt,lg lJ c.mag,lg lH c.nK,lg lH c.oF,lg lH c.dep,lg lH c.mX] rC)=W->iK g w W/\lN W g #[lg lH c.fmt,lg lJ c.mag,lg lH c.nK,lg lH c.oF,lg lH c.dep,lg lH c.mX] rC/\W.heap.size=g+1):=iF λW hW=>by
  exact Pz
 have aB:=iF (λW=>zl c W);have HTT:=iF (λ(W:iH) (hb:iK g w W)=>aA.below hb (hg▸aA.lt));have HC:=iF (iQ Q (iQ U (iQ N aj)));have Z:iW (sI c es=if mK c=false then .error 1 else if 32<n then .error 4 else pz c [] es):=iF (by unfold sI;rw[hn]);obtain⟨aM,aC⟩:=lV (yE c es w);have HP:=iF aC;have HN:=iF hn;rw[aC,hn];unfold mU.v mU.cs at aB⊢;generalize aP:mK c=rc at*;clear Q U N aj aA aC hn;go_in;go_upto_region 1 with fail;obtain⟨au,aa,av⟩:=ak.out _ rfl;generalize w.alloc _=w1 at*;have E:=iF (iQ au (iQ aa av));obtain⟨c0,c1,c2,c3,c4,c5⟩:=aa.a6;clear ak au aa av;go_wp2_with fail;refine(aB.out _).mono ?_;rintro e w2 ⟨rfl,V⟩;have C:iW (iK g w w2/\lN w2 g #[lg lH c.fmt,lg lJ c.mag,lg lH c.nK,lg lH c.oF,lg lH c.dep,lg lH c.mX] rC/\g<w2.heap.size):=iF ⟨E.out.1.trans (V.mono (by have:=E.out.2.2;omega)),Below.blk V E.out.2.1 E.out.2.1.lt,by have:=E.out.2.2;have:=V.size;omega⟩;clear E V aB c0 c1 c2 c3 c4 c5;cases rc with
 |false=>
  have HE:=iF (Z.out.trans (if_pos rfl));go_wp2_with fail;try go_returns
  rw[<-HP.out];exact BC HE.out (hg.symm▸C.out.1) lM
 |true=>
  by_cases O:32<n
  .have t0:decide ((n:Int)>32)=true:=lW
   have HE:=iF (Z.out.trans ((if_neg lU).trans (if_pos O)));clear O;go_wp2_with fail;try go_returns
   rw[<-HP.out];exact BC HE.out (hg.symm▸C.out.1) lM
  .have t0:decide ((n:Int)>32)=false:=lW
   have HE:=iF (Z.out.trans ((if_neg lU).trans (if_neg O)));have H32:=iF O;have ax:=C.out.2.1;obtain⟨c0,c1,c2,c3,c4,c5⟩:=ax.a6;clear O ax;obtain⟨kp,ae⟩:=lV w2.heap.size;have aF:iW (∀W,w2.alloc (lG #[lg lH c.dep,lg lH c.mX] Ri)=W->iK g w W/\lN W g #[lg lH c.fmt,lg lJ c.mag,lg lH c.nK,lg lH c.oF,lg lH c.dep,lg lH c.mX] rC/\lN W kp #[lg lH c.dep,lg lH c.mX] Ri/\W.heap.size=kp+1/\g<kp):=iF λW hW=>by
    subst hW;have al:=(iL w2.heap.size w2).alloc (iI _) (lG #[lg lH c.dep,lg lH c.mX] Ri);have:=C.out.2.2;exact⟨C.out.1.trans (al.mono lK),Below.blk al C.out.2.1 C.out.2.1.lt,ae▸lN.new w2 _ _,by simp[ae],lK⟩
   go_upto_region 6 with fail;have aG:=aF.out _ rfl;generalize w2.alloc _=w3 at*;clear c0 c1 c2 c3 c4 c5 aF;have A:=iF aG;clear aG;obtain⟨c0,c1,c2,c3,c4,c5⟩:=A.out.2.1.a6;obtain⟨af,ag⟩:=A.out.2.2.1.a2;have ay:=A.out.2.2.2.1;obtain⟨z0,z1⟩:=((A.out.2.2.1.alloc (.map #[] 0)).alloc (.map #[] 0)).a2;have aH:iW (∀W,((w3.alloc (.map #[] 0)).alloc (.map #[] 0)).alloc (lG #[lg lH c.fmt,lg lJ c.mag,lg lH c.nK,lg lH c.oF,lg lH c.dep,lg lH c.mX,.map (some (kp+1)),.map (some (kp+2)),.func (.func 83) #[lC #[lg lH c.dep,lg lH c.mX]] #[],.func (.func 84) #[lC #[lg lH c.dep,lg lH c.mX]] #[]] Zv)=W->Vi w g kp c (ptV c) (gtV c) W):=iF λW hW=>by
    subst hW;exact Vi.of A.out.1 A.out.2.1 A.out.2.2.1 ay ⟨hg,A.out.2.2.2.2⟩ _ _
   go_upto_region 7 with fail;rw[show kp+1+1+1=kp+3 from rfl,show kp+1+1=kp+2 from rfl];have J:=aH.out _ rfl;generalize ((w3.alloc _).alloc _).alloc _=w4 at*;have Y:=iF J;have aD:=J.cf.cell 0;have ah:=J.rg.cell 8;have ai:=J.rg.cell 9;have aI:=J.rg.free 8;have aJ:=J.rg.free 9;have af:=J.cp.cell 0;have ag:=J.cp.cell 1;simp only[Vh,iP,iO,iM]at aD ah ai af ag;clear aH J z0 z1 c0 c1 c2 c3 c4 c5 ay A C ae;unfold ptV at ah;unfold gtV at ai;by_cases h1:c.fmt=1
   .have aN:(c.fmt==1)=true:=by simp[h1]
    have aK:=iF h1;clear h1;have O4:iW (∀W,(w4.setCell ⟨kp+3,8,none⟩ (.func (.func 85) #[lC #[lg lH c.dep,lg lH c.mX]] #[])).setCell ⟨kp+3,9,none⟩ (.func (.func 86) #[lC #[lg lH c.dep,lg lH c.mX]] #[])=W->Py w g (kp+3) (kp+1) (kp+2) c [] W):=iF λW hW=>by
     subst hW;have hp:=Y.out.put (pf2:=.func (.func 85) #[lC #[lg lH c.dep,lg lH c.mX]] #[]) (gf2:=.func (.func 86) #[lC #[lg lH c.dep,lg lH c.mX]] #[]);refine Vi.i ?_;unfold El Gd;rw[if_pos aK.out,if_pos aK.out];exact hp
    go_upto_region 10 with fail;have az:=O4.out _ rfl;generalize (w4.setCell ⟨kp+3,8,none⟩ _).setCell ⟨kp+3,9,none⟩ _=w5 at*;have O4:=iF az;clear az aD ah ai aI aJ af ag Y;exact YB
   .have aN:(c.fmt==1)=false:=by simp[h1]
    have O4:iW (Py w g (kp+3) (kp+1) (kp+2) c [] w4):=iF (Vi.i (by unfold El Gd;rw[if_neg h1,if_neg h1];exact Y.out));clear h1 ah ai aI aJ af ag Y;go_upto_region 10 with fail;clear aD;exact YB
end
section
open Go.RowKit
theorem xW{nm:ByteArray}:(rows.find? λy=>decide (y.name=nm)).isSome=true<->∃r,r∈rows/\r.name=nm:=by
 rw[List.find?_isSome];simp
theorem IJ{id:Nat}:(rows.find? λy=>decide (y.id=id)).isSome=true<->∃r,r∈rows/\r.id=id:=by
 rw[List.find?_isSome];simp
theorem BD{id:Nat}{nm tx:ByteArray}{row:Row}(h:rT c rows id nm tx=(er,some row)):
  row.id=id/\row.name=nm/\uG tx.data.toList=some row.ty/\(∀r,r∈rows->r.name≠nm)/\er=0:=by
 unfold rT at h;split at h;.cases h
 .rename_i A
  split at h;.cases h
  .split at h
   .cases h
   .rename_i t ht
    split at h;.cases h
    .simp only[Prod.mk.injEq,kM]at h
     obtain⟨h0,rfl⟩:=h;refine⟨rfl,rfl,ht,λr C hn=>A (.inl (xW.2 ⟨r,C,hn⟩)),h0.symm⟩
theorem Gr:∀(A:List sP)(rows out:List Row),pz c rows A=.ok out->∀r,r∈out->r∈rows\/∃(j:Nat) (e:sP),A[j]? =some e/\e.nm=r.name/\uG e.tx.data.toList=some r.ty/\(∀(k:Nat)(C:sP),k<j->A[k]? =some C->C.nm≠r.name)/\∀r',r'∈rows->r'.name≠r.name
 |[],rows,out,h,r,J=>by
  unfold pz at h;cases h;exact .inl J
 |e::A,rows,out,h,r,J=>by
  unfold pz at h;split at h;.cases h
  .rename_i er row U
   obtain⟨ag,N,V,Y,_⟩:=BD U;rcases Gr A (row::rows) out h r J with O|⟨j,C,Z,aa,ae,af,Q⟩
   .rcases kD.1 O with rfl|O
    .exact .inr ⟨0,e,rfl,N.symm,V,λk C hk=>by omega,λr' E=>by rw[N];exact Y r' E⟩
    .exact .inl O
   .refine .inr ⟨j+1,C,by simpa using Z,aa,ae,λk e2 hk he=> ?_,λr' E=>Q r' (List.mem_cons_of_mem _ E)⟩
    cases k with
    |zero=>
     simp at he;subst he;rw[<-N];exact Q row (List.mem_cons_self ..)
    |succ k=>exact af k e2 lK (by simpa using he)
theorem Gs:∀(A:List sP)(rows out:List Row),pz c rows A=.ok out->∀nm,(∃r,r∈out/\r.name=nm)<->(∃r,r∈rows/\r.name=nm)\/∃e,e∈A/\e.nm=nm
 |[],rows,out,h,nm=>by
  unfold pz at h;cases h;simp
 |e::A,rows,out,h,nm=>by
  unfold pz at h;split at h;.cases h
  .rename_i er row N
   obtain⟨O,J,Q,U,_⟩:=BD N;rw[Gs A (row::rows) out h nm];simp only[kD];constructor
   .rintro(⟨r,rfl|C,hn⟩|⟨E,he,hn⟩)
    .exact .inr ⟨e,.inl rfl,by rw[<-J];exact hn⟩
    .exact .inl ⟨r,C,hn⟩
    .exact .inr ⟨E,.inr he,hn⟩
   .rintro(⟨r,C,hn⟩|⟨E,rfl|he,hn⟩)
    .exact .inl ⟨r,.inr C,hn⟩
    .exact .inl ⟨row,.inl rfl,by rw[J];exact hn⟩
    .exact .inr ⟨E,he,hn⟩
theorem PD:∀(A:List sP)(rows out:List Row),pz c rows A=.ok out->∀i:Nat,(∃r,r∈out/\r.id=i)<->(∃r,r∈rows/\r.id=i)\/∃e,e∈A/\e.id=i
 |[],rows,out,h,nm=>by
  unfold pz at h;cases h;simp
 |e::A,rows,out,h,nm=>by
  unfold pz at h;split at h;.cases h
  .rename_i er row N
   obtain⟨J,O,Q,U,_⟩:=BD N;rw[PD A (row::rows) out h nm];simp only[kD];constructor
   .rintro(⟨r,rfl|C,hn⟩|⟨E,he,hn⟩)
    .exact .inr ⟨e,.inl rfl,by rw[<-J];exact hn⟩
    .exact .inl ⟨r,C,hn⟩
    .exact .inr ⟨E,.inr he,hn⟩
   .rintro(⟨r,C,hn⟩|⟨E,rfl|he,hn⟩)
    .exact .inl ⟨r,.inr C,hn⟩
    .exact .inl ⟨row,.inl rfl,by rw[J];exact hn⟩
    .exact .inr ⟨E,he,hn⟩
theorem Rj(c:mU)(rows:List Row)(e:sP)(A:List sP):pz c rows (e::A)=match rT c rows e.id e.nm e.tx with
  |(er,none)=> .error er
  |(_,some row)=>pz c (row::rows) A:=rfl
theorem zz:∀(es:List sP)(i:Nat)(rows mid:List Row),pz c rows (es.take i)=.ok mid->pz c rows es=pz c mid (es.drop i)
 |es,0,rows,mid,h=>by
  simp[pz]at h;subst h;rfl
 |[],i+1,rows,mid,h=>by
  simp[pz]at h;subst h;rfl
 |e::es,i+1,rows,mid,h=>by
  simp only[ji,kU]at h⊢;rw[Rj]at h⊢;cases A:rT c rows e.id e.nm e.tx with
  |mk er o=>
   rw[A]at h;cases o with
   |none=>cases h
   |some row=>exact zz es i (row::rows) mid h
theorem Gt{A:List sP}{i:Nat}{e:sP}{row:Row}(h:pz c [] (A.take i)=.ok mid)(he:A[i]? =some e)(C:rT c mid e.id e.nm e.tx=(er,some row)):
  pz c [] (A.take (i+1))=.ok (row::mid):=by
 have hl:=(jH.1 he).1;have e1:A.take (i+1)=A.take i++[e]:=by rw[List.take_add_one,he];rfl
 have e2:(A.take i).length=i:=by rw[ky];omega
 have E:=zz (c:=c) (A.take (i+1)) i [] mid (by rw[List.take_take,Nat.min_eq_left lK];exact h);rw[E,e1,List.drop_left' e2];unfold pz;rw[C];rfl
theorem xX{A:List sP}{i:Nat}{e:sP}(h:pz c [] (A.take i)=.ok mid)(he:A[i]? =some e)(C:rT c mid e.id e.nm e.tx=(er,none)):pz c [] A=.error er:=by
 have hl:=(jH.1 he).1;rw[zz A i [] mid h,List.drop_eq_getElem_cons hl];have:A[i]=e:=by rw[iZ hl]at he;exact kK he
 rw[this];unfold pz;rw[C]
theorem Vj(h:p:=by
 constructor
 .rintro(⟨r,hr,_⟩|⟨e,he,hn⟩)
  .cases hr
  .obtain⟨k,hk⟩:=List.getElem?_of_mem he
   by_cases hki:k<i
   .rw[List.getElem?_take_of_lt hki]at hk
    exact⟨k,e,hki,hk,hn⟩
   .rw[List.getElem?_take,if_neg hki]at hk;cases hk
 .rintro⟨k,e,hk,he,hn⟩
  exact .inr ⟨e,jc (i:=k) (by rw[List.getElem?_take_of_lt hk];exact he),hn⟩):p:=h
theorem Gu{A:List sP}{i:Nat}(h:pz c [] (A.take i)=.ok mid)(nm:ByteArray):(mid.find? λy=>decide (y.name=nm)).isSome=true<->∃(k:Nat) (e:sP),k<i/\A[k]? =some e/\e.nm=nm:=by
 rw[xW,Gs _ _ _ h nm];exact Vj
theorem Ck{A:List sP}{i:Nat}(h:pz c [] (A.take i)=.ok mid)(id:Nat):(mid.find? λy=>decide (y.id=id)).isSome=true<->∃(k:Nat) (e:sP),k<i/\A[k]? =some e/\e.id=id:=by
 rw[IJ,PD _ _ _ h id];exact Vj
theorem Gv:∀(C:List sP)(rows:List Row),¬pz c rows C=.error 0
 |[],rows=>by unfold pz;intro h;cases h
 |e::C,rows=>by
  unfold pz;have A:=K4 c rows e.id e.nm e.tx;split
  .rename_i er E
   intro h;cases h;rw[E]at A;rcases A with A|A
   .exact A.2 rfl
   .obtain⟨_,row,J⟩:=A;cases J
  .rename_i er row E
   exact Gv C (row::rows)
def CE(c:mU)(A:List sP):Int:=match sI c A with
 | .error er=>er
 | .ok _=>0
theorem xY(h:p:=by
 generalize mK ⟨f,m,fr,un,de,it⟩=R at*;clear HR;go_in;go_upto_region 1 with fail;generalize w.alloc _=w1 at*;obtain⟨hb1,c0,c1,c2,c3,c4,c5⟩:=HW.out _ rfl;have H1:=iF hb1;clear HW hb1;go_wp2_with fail;go_returns;exact⟨by rw[HE.out];rfl,H1.out⟩):p:=h
theorem K5(c:mU)(w:iH):iU iG 39 #[c.v] w λe w'=>e=lF (lu (mK c))/\iK w.heap.size w w':=by
 have HW:=iF (sN (w:=w) c (t:=rC));obtain⟨g,hg⟩:=lV w.heap.size;have HR:iW (mK c=(within c.fmt 3&&within c.nK 65536&&within c.oF 65536&&within c.dep 16&&within c.mX 1024)):=iF rfl;rw[hg]at HW⊢;obtain⟨f,m,fr,un,de,it⟩:=c;unfold mU.v mU.cs;dsimp only at HW HR⊢;by_cases h0:1<=f;case neg=>
  have HE:iW (mK ⟨f,m,fr,un,de,it⟩=false):=iF (by rw[HR.out];unfold within;simp[h0]);exact xY
 by_cases A:f<=3;case neg=>
  have HE:iW (mK ⟨f,m,fr,un,de,it⟩=false):=iF (by rw[HR.out];unfold within;simp[A]);exact xY
 by_cases C:1<=fr;case neg=>
  have HE:iW (mK ⟨f,m,fr,un,de,it⟩=false):=iF (by rw[HR.out];unfold within;simp[C]);exact xY
 by_cases E:fr<=65536;case neg=>
  have HE:iW (mK ⟨f,m,fr,un,de,it⟩=false):=iF (by rw[HR.out];unfold within;simp[E]);exact xY
 by_cases J:1<=un;case neg=>
  have HE:iW (mK ⟨f,m,fr,un,de,it⟩=false):=iF (by rw[HR.out];unfold within;simp[J]);exact xY
 by_cases N:un<=65536;case neg=>
  have HE:iW (mK ⟨f,m,fr,un,de,it⟩=false):=iF (by rw[HR.out];unfold within;simp[N]);exact xY
 by_cases O:1<=de;case neg=>
  have HE:iW (mK ⟨f,m,fr,un,de,it⟩=false):=iF (by rw[HR.out];unfold within;simp[O]);exact xY
 by_cases Q:de<=16;case neg=>
  have HE:iW (mK ⟨f,m,fr,un,de,it⟩=false):=iF (by rw[HR.out];unfold within;simp[Q]);exact xY
 by_cases U:1<=it;case neg=>
  have HE:iW (mK ⟨f,m,fr,un,de,it⟩=false):=iF (by rw[HR.out];unfold within;simp[U]);exact xY
 by_cases V:it<=1024;case neg=>
  have HE:iW (mK ⟨f,m,fr,un,de,it⟩=false):=iF (by rw[HR.out];unfold within;simp[V]);exact xY
 have HE:iW (mK ⟨f,m,fr,un,de,it⟩=true):=iF (by rw[HR.out];unfold within;simp[h0,A,C,E,J,N,O,Q,U,V]);exact xY
theorem BF(ds:List UInt8)(b:UInt8):xI (ds++[b])=if xI ds<1000000 then 10*xI ds+(b.toNat - 48)else xI ds:=by unfold xI;rw[List.foldl_append];rfl
theorem XY:∀(k:Nat)(ds:List UInt8),ds.length=k->(∀b,b∈ds->rY b=true)->xI ds<10000000:=by
 intro k;induction k with
 |zero=>intro ds h _;rw[kR.1 h];simp[xI]
 |succ k C=>
  intro ds h hd;obtain⟨A,b,rfl⟩:∃A b,ds=A++[b]:=⟨ds.dropLast,ds.getLast (by intro e;simp[e]at h),(List.dropLast_concat_getLast _).symm⟩;have hb:=hd b lU;simp only[rY,iY,decide_eq_true_eq]at hb;have:=C A (by simpa using h) λc hc=>hd c (by simp[hc])
  rw[BF];split<;>omega
theorem FC(l:List UInt8)(k:Nat):∀b,b∈(nN l).take k->rY b=true:=λb hb=>UY l b (List.mem_of_mem_take hb)
def AO(s:ByteArray)(p:Nat)(w:iH)(e:Ending)(w':iH):Prop:=
 ∃(n:Nat) (z:Int),e=lF (lD #[lg lH (n:Int),lg lH z])/\w'=w/\n<10000000/\
  ((∃q:Nat,vw (lS s p)=some (n,lS s q)/\z=q/\q<=s.size/\p<=q)\/(vw (lS s p)=none/\z= -1/\n=0))
theorem Vk(h:p:=by
 rcases hend with rfl|⟨hlt,hb'⟩|⟨hlt,hb'⟩
 .have d0:decide ((s.size:Int)<s.size)=false:=lU
  go_wp2_with fail;exact HP.out _ _ ⟨0,_,rfl,rfl,lK,.inr ⟨Cj.out,rfl,rfl⟩⟩
 .have d0:decide ((q:Int)<s.size)=true:=lW
  have d1:decide ((48:Int)<=(s[q].toNat:Int))=false:=lW;clear hb';go_wp2_with fail;exact HP.out _ _ ⟨0,_,rfl,rfl,lK,.inr ⟨Cj.out,rfl,rfl⟩⟩
 .have d0:decide ((q:Int)<s.size)=true:=lW
  have d1:decide ((48:Int)<=(s[q].toNat:Int))=true:=lW;have d2:decide ((s[q].toNat:Int)<=57)=false:=lW;clear hb';go_wp2_with fail;exact HP.out _ _ ⟨0,_,rfl,rfl,lK,.inr ⟨Cj.out,rfl,rfl⟩⟩):p:=h
theorem BG(h:p:=by
 go_wp2_with fail;exact HP.out _ _ ⟨n,_,rfl,rfl,hn,.inl ⟨_,Cj.out,rfl,hq3,hq2⟩⟩):p:=h
theorem EK(s:ByteArray)(p:Nat)(w:iH)(hs:s.size<=1000)(hp:p<=s.size):
  iU iG 78 #[ll s,lg lH (p:Int)] w (AO s p w):=by
 obtain⟨D,hD⟩:=lV ((nN (lS s p)).length);have au:=iF hD;have ae:p+D<=s.size:=by
  exact Pn
 have HG:iW (∀k,k<D->∃h:p+k<s.size,rY s[p+k]=true/\(nN (lS s p)).take (k+1)=(nN (lS s p)).take k++[s[p+k]]):=iF λk hk=>by
  exact Pp
 have av:iW (∀h:p+D<s.size,rY s[p+D]=false):=iF λh=>by
  refine BA (lS s p) _ ?_;rw[vQ,hD,wF,o7 h];rfl
 have ax:iW (past (lS s p)=lS s (p+D)):=iF (by rw[vQ,hD,wF]);have H0:iW (0<D->∃h:p<s.size,(nN (lS s p)).head? =some s[p]):=iF λh=>by
  exact U4
 have aH:iW (∀k,xI ((nN (lS s p)).take k)<10000000):=iF λk=>XY _ _ rfl (FC _ _)
 generalize ay:AO s p w=ai;have HP:iW (∀e w',AO s p w e w'->ai e w'):=iF λe w' h=>by rw[<-ay];exact h
 clear hD ay;go_in;go_wp2_with fail;go_loopw [1,6] (λiv aI aJ=>∃(k q n:Nat),iv=lg lH q/\aI=lg lH n/\iW (p+k=q)/\q<=p+D/\p<=q/\iW (n=xI ((nN (lS s p)).take k))/\n<10000000/\aJ=w) (λiv _ _=>p+D -(jA iv).toNat);case atStart=>exact⟨0,p,0,rfl,rfl,iF rfl,lK,lK,by simp[iW,xI],lK,rfl⟩
 case round=>
  obtain⟨k,q,n,rfl,rfl,U,az,hq2,aj,hn,rfl⟩:=hrel;have aN:k<=D:=by have:=U.out;omega
  have Q:=iF (HG.out k);rw[U.out]at Q;by_cases c:q<p+D
  .obtain⟨hlt,V,htake⟩:=Q.out (by have:=U.out;omega)
   simp only[rY,iY,decide_eq_true_eq]at V;have af:=iF (iQ V htake);have d0:decide ((q:Int)<s.size)=true:=lW;have d1:decide ((48:Int)<=(s[q].toNat:Int))=true:=lW;have d2:decide ((s[q].toNat:Int)<=57)=true:=lW;have aK:48<=(s[q].toNat:Int):=lK;have aL:(s[q].toNat:Int)<=57:=lK;have aA:=iF (aH.out (k+1));clear htake V Q;by_cases Y:n<1000000
   .have aM:decide ((n:Int)<1000000)=true:=lW
    have ak:=iF Y;clear Y;go_wp2_with fail;have Z:xI ((nN (lS s p)).take (k+1))=10*n+(s[q].toNat - 48):=by rw[af.out.2,BF,<-aj.out,if_pos ak.out]
    refine⟨⟨k+1,q+1,10*n+(s[q].toNat - 48),by go_num,congrArg (Value.int IntKind.i64) lK,iF (by have:=U.out;omega),lK,lK,iF Z.symm,by have:=aA.out;rw[Z]at this;exact this,by first|trivial|rfl⟩,by simp[jA];omega⟩
   .have aM:decide ((n:Int)<1000000)=false:=lW
    have ak:=iF Y;clear Y;go_wp2_with fail;have Z:xI ((nN (lS s p)).take (k+1))=n:=by rw[af.out.2,BF,<-aj.out,if_neg ak.out]
    refine⟨⟨k+1,q+1,n,by go_num,rfl,iF (by have:=U.out;omega),lK,lK,iF Z.symm,hn,by first|trivial|rfl⟩,by simp[jA];omega⟩
  .obtain rfl:q=p+D:=lK
   obtain rfl:k=D:=by have:=U.out;omega
   obtain⟨q,aa⟩:=lV (p+k);rw[aa]at Q az hq2 c ax ae⊢;have ag:=iF av.out;rw[aa]at ag;have aB:=iF aa;clear U av Q aa c;have aC:iW (n=xI (nN (lS s p))):=iF (by rw[aj.out,List.take_of_length_le (by have:=au.out;omega)]);have hend:q=s.size\/(∃h:q<s.size,s[q].toNat<48)\/(∃h:q<s.size,57<s[q].toNat):=by
    rcases jG q s.size with h|h
    .right
     have h2:=ag.out h;exact Po
    .exact .inl lK
   have hlen:k=0\/k=1\/(1<k/\∃h:p<s.size,iW (s[p].toNat=48))\/(1<k/\∃h:p<s.size,iW (s[p].toNat≠48)):=by
    exact Pm
   have Ns:iW (xH (nN (lS s p))=(decide (k=1)||(decide (1<k)&&decide ((nN (lS s p)).head?≠some 48)))):=iF (by rw[KW,au.out]);have A:iW (xH (nN (lS s p))=true->vw (lS s p)=some (n,lS s q)):=iF λh=>by unfold vw;rw[if_pos h,<-aC.out,ax.out]
   have O:iW (xH (nN (lS s p))=false->vw (lS s p)=none):=iF λh=>by unfold vw;rw[if_neg (by rw[h];simp)]
   have hq3:q<=s.size:=ae;have aD:(q:Int)=p+k:=by have:=aB.out;omega
   have aF:(∃e1:Bool,((q:Int)==p)=e1/\e1=decide (k=0))/\∃e2:Bool,decide ((p:Int)+1<q)=e2/\e2=decide (1<k):=by
    refine⟨⟨_,rfl,?_⟩,_,rfl,?_⟩;.rw[Bool.eq_iff_iff];simp;omega
    .rw[decide_eq_decide];omega
   obtain⟨⟨e1,aO,C⟩,e2,aG,E⟩:=aF;have J:k≠0->p<s.size:=lK;clear aD HG;rcases hlen with N|N|⟨N,ah,hk3⟩|⟨N,ah,hk3⟩
   .obtain rfl:e1=true:=by rw[C];simp;omega
    have Cj:=iF (O.out (by rw[Ns.out];simp;omega));clear C E N Ns A O aG J;exact Vk
   .obtain rfl:e1=false:=by rw[C];simp;omega
    obtain rfl:e2=false:=by rw[E];simp;omega
    have ah:p<s.size:=J lK;have Cj:=iF (A.out (by rw[Ns.out];simp;omega));clear C E N Ns A O J;rcases Bool.eq_false_or_eq_true ((s[p].toNat:Int)==48)with d5|d5
    all_goals
     rcases hend with rfl|⟨hlt,hb'⟩|⟨hlt,hb'⟩
     .have d0:decide ((s.size:Int)<s.size)=false:=lU
      exact BG
     .have d0:decide ((q:Int)<s.size)=true:=lW
      have d1:decide ((48:Int)<=(s[q].toNat:Int))=false:=lW;clear hb';exact BG
     .have d0:decide ((q:Int)<s.size)=true:=lW
      have d1:decide ((48:Int)<=(s[q].toNat:Int))=true:=lW;have d2:decide ((s[q].toNat:Int)<=57)=false:=lW;clear hb';exact BG
   .obtain rfl:e1=false:=by rw[C];simp;omega
    obtain rfl:e2=true:=by rw[E];simp;omega
    have d5:((s[p].toNat:Int)==48)=true:=by have:=hk3.out;simp;omega
    have Cj:=iF (O.out (by
     obtain⟨_,h5⟩:=H0.out lK;rw[Ns.out,h5,show s[p]=48 from jX.1 hk3.out];simp;omega))
    clear C E N Ns A O J;exact Vk
   .obtain rfl:e1=false:=by rw[C];simp;omega
    obtain rfl:e2=true:=by rw[E];simp;omega
    have d5:((s[p].toNat:Int)==48)=false:=by have:=hk3.out;simp;omega
    have Cj:=iF (A.out (by
     obtain⟨_,h5⟩:=H0.out lK;have h6:s[p]≠48:=λh=>hk3.out (by rw[h];rfl)
     rw[Ns.out,h5];simp[h6];omega))
    clear C E N Ns A O J;rcases hend with rfl|⟨hlt,hb'⟩|⟨hlt,hb'⟩
    .have d0:decide ((s.size:Int)<s.size)=false:=lU
     exact BG
    .have d0:decide ((q:Int)<s.size)=true:=lW
     have d1:decide ((48:Int)<=(s[q].toNat:Int))=false:=lW;clear hb';exact BG
    .have d0:decide ((q:Int)<s.size)=true:=lW
     have d1:decide ((48:Int)<=(s[q].toNat:Int))=true:=lW;have d2:decide ((s[q].toNat:Int)<=57)=false:=lW;clear hb';exact BG
end
end Go.Proofs.YtamfcjmhnndbdaaGreatDoor


