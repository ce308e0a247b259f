/- Part 18 of the proof. -/
import Derived.Test.YtamfcjmhnndbdaaGreatDoorZu00
import Derived.Test.YtamfcjmhnndbdaaGreatDoorZu01
import Derived.Test.YtamfcjmhnndbdaaGreatDoorZu02
import Derived.Test.YtamfcjmhnndbdaaGreatDoorZu03
import Derived.Test.YtamfcjmhnndbdaaGreatDoorZu08
import Derived.Test.YtamfcjmhnndbdaaGreatDoorZu16
import Derived.Test.YtamfcjmhnndbdaaGreatDoorZu17
import Derived.Test.YtamfcjmhnndbdaaGreatDoorChecked
import Derived.Shelf.Strings.Builder1
import Derived.WalkSpells
import Derived.Deep.Cut
import Derived.OwnWalk
open Go.Value renaming agg→nC,bool→nA,int→ng,pointer→nz,slice→nk,string→ny,tuple→nD,ownBlock→kJ
open Go.Obj renaming cells→nG
open Go.IntKind renaming i64→nH,u32→nJ,u64→nI
open Go.Ending renaming returned→nE
open Go.Lib renaming hid→jH,extract_data→mY
open Go.Proofs.Tryz renaming prog→jI,underlying86→l8,underlying9→mR
open Go renaming World→jJ,Value→jP,Calls→jV,maxLen→j5,TypeId→ko,Addr→l5,wpQuiet_nil→mJ,Program→mK
open Nat renaming le_refl→jL,le_trans→kg,zero_le→kI,add_assoc→kP,le_succ→kX,lt_or_ge→lh,pow_le_pow_right→lq,lt_of_le_of_lt→mF,le_of_eq→mV
open List renaming getElem?_cons_zero→jN,getElem?_eq_getElem→jX,length_append→jY,take_succ_cons→ky,length_cons→kD,take_zero→kQ,length_drop→kS,mem_of_getElem?→kT,length_take→kY,getElem?_eq_some_iff→ll,append_assoc→lD,getD_eq_getElem?_getD→lN,take_length→l9,length_eq_zero_iff→mf,getElem?_take→mM,size_toArray→mP,take_append_drop→mQ,drop_succ_cons→mX
open Go.RowKit renaming Below→jS,Hid→jW,intOf→kW
open Go.RowKit.Below renaming refl→jT,heap_setCell→j6
open And renaming intro→jU
open UInt8 renaming ofNat→jZ
open Bool renaming and_eq_true→j3
open Array renaming getElem?_eq_some_iff→ku,length_toList→kV
open ByteArray renaming size_extract→kz
open Go.Instr renaming index→kR,lookup→lV
open Go.Sem renaming run→mi
open Option.some renaming injEq→mI
open Int renaming toNat_of_nonneg→mZ
namespace Go.Proofs.YtamfcjmhnndbdaaGreatDoor
set_option linter.unusedVariables false
set_option linter.unusedSimpArgs false
set_option maxRecDepth 100000
set_option maxHeartbeats 8000000
variable {p:Prop}{oa:Option l5}
section
open Go.RowKit Go.Maps
def Dq:Gd Nat where
 ev n:=ng nH (n:Int)
 R v:=match v with| ng q x=>if q=nH/\0<=x then some (.held x.toNat,[])else none|_=>none
 lay x:=nR
 inv v z h:=by
  cases v<;>simp at h;obtain⟨⟨rfl,A⟩,rfl⟩:=h;exact⟨_,by rw[mZ A],rfl⟩
theorem JJ{P:mK}{t e s:ko}(T:ql P t e s)(S:ByteArray)(J:S.size<=1000000)(w:jJ):
  ∃cap w',(convert s t (ny S)).run P w=.ok (nk (some ⟨w.heap.size,0,none⟩) S.size cap) w'/\rG w' w.heap.size e (nk (some ⟨w.heap.size,0,none⟩) S.size cap) S.data.toList/\jS w.heap.size w w'/\w'.heap.size=w.heap.size+1/\S.size<=cap/\cap<=j5:=by
 have A:S.data.toList.length=S.size:=kV;have C:=grownCap_ge w S.size 0 e;have E:=grownCap_le_maxLen w S.size 0 e zg;refine⟨_,_,run_bytes_of_string w s t e S T.hs T.ht T.he,.inr ⟨w.heap.size,grownCap w S.size 0 e,_,_,by rw[A],jL _,heap_alloc_new w.drew _,.inr (jL _),by rw[A];exact C,E,?_,?_⟩,((jT _ _).drew).alloc (jL _) _,nR,C,E⟩
 .have I:S.data.size=S.size:=rfl
  simp only[bytesRow,Array.size_append,Array.size_map,Array.size_replicate,I];omega
 .simp only[bytesRow,Array.toList_append,Array.toList_map]
  rw[List.take_left' nR];rfl
structure Ej(w0:jJ)(g bm:Nat)(l:List UInt8)(pv:jP)(out:List UInt8)(n:Nat)(mp:VR)(W:jJ):Prop where
 row:∀i,i<l.length->W.cell? ⟨g,i,none⟩=some (ng .u8 ((l.getD i 0).toNat:Int))
 pk:rG W (g+1) 5 pv out
 mp:qA QI Dq W bm n mp
 ne:∀d,pv.ownBlock=some d->d≠bm
 qa:jS g w0 W
 lt:g<bm/\g+1<=W.heap.size/\g=w0.heap.size
section
variable {w0:jJ}{g bm:Nat}{l:List UInt8}{pv pv2:jP}{out a6v:List UInt8}{n n2:Nat}{mp mp2:VR}{W W':jJ}
theorem Ej.below(h:Ej w0 g bm l pv out n mp W)(hb:jS W.heap.size W W'):Ej w0 g bm l pv out n mp W':=by
 have A:=h.lt;exact⟨λi hi=>(hb.cell (p:=⟨g,i,none⟩) (show g<W.heap.size by omega)).trans (h.row i hi),h.pk.below hb,h.mp.below hb,h.ne,h.qa.trans (hb.mono nK),by have:=hb.size;omega⟩
theorem Ej.app(h:Ej w0 g bm l pv out n mp W)(k:vv (g+1) pv W pv2 a6v W'):Ej w0 g bm l pv2 a6v n mp W':=by
 have E:=h.lt;have C:∀d,pv.ownBlock=some d->d≠g:=λd hd=>by have:=(h.pk.blk d hd).1;omega
 refine⟨λi hi=> ?_,k.own,h.mp.block (k.kp.block bm h.mp.lt λA=>h.ne bm A rfl),λd hd=> ?_,h.qa.trans (k.kp.below (λc hc A=>by have:=(h.pk.blk c A).1;omega) nK),by have:=k.kp.size;omega⟩
 .rw[<-h.row i hi]
  exact World.cell?_of_block (w:=W) (a:=⟨g,i,none⟩) (k.kp.block g nK λA=>C g A rfl)
 .rcases k.at_ with e|⟨q,e,I⟩
  .rw[e]at hd;exact h.ne d hd
  .rw[e]at hd
   cases hd;have:=h.mp.lt;omega
theorem Ej.put(h:Ej w0 g bm l pv out n mp W)(hl:qA QI Dq W' bm n2 mp2)(k:pE bm W W'):Ej w0 g bm l pv out n2 mp2 W':=by
 have C:=h.lt;have kp:sD (λd=>d=bm) W W':=sD.grown k λb e=>by cases e;rfl
 refine⟨λi hi=> ?_,h.pk.kp kp λd hd=>h.ne d hd,hl,h.ne,h.qa.trans (kp.below (λc hc A=>by omega) nK),by have:=kp.size;omega⟩;rw[<-h.row i hi];exact World.cell?_of_block (w:=W) (a:=⟨g,i,none⟩) (kp.block g nK λA=>by omega)
theorem Ej.up(h:Ej w0 g bm l pv out n mp W):Ej w0 g bm l pv out (n+1) mp W:=⟨h.row,h.pk,h.mp.up (kX n),h.ne,h.qa,h.lt⟩
theorem Ej.cell0(h:Ej w0 g bm l pv out n mp W){i:Nat}{a b c d:UInt8}(hk:xZ l i=⟨a,b,c,d⟩)(hi:i+4<=l.length):W.cell? ⟨g,i,none⟩=some (ng .u8 (a.toNat:Int)):=by
 rw[h.row i nK];simp only[xZ,Q4.mk.injEq]at hk;rw[hk.1]
theorem Ej.cell1(h:Ej w0 g bm l pv out n mp W){i:Nat}{a b c d:UInt8}(hk:xZ l i=⟨a,b,c,d⟩)(hi:i+4<=l.length):W.cell? ⟨g,i+1,none⟩=some (ng .u8 (b.toNat:Int)):=by
 rw[h.row (i+1) nK];simp only[xZ,Q4.mk.injEq]at hk;rw[hk.2.1]
theorem Ej.Zb(h:Ej w0 g bm l pv out n mp W){i:Nat}{a b c d:UInt8}(hk:xZ l i=⟨a,b,c,d⟩)(hi:i+4<=l.length):W.cell? ⟨g,i+2,none⟩=some (ng .u8 (c.toNat:Int)):=by
 rw[h.row (i+2) nK];simp only[xZ,Q4.mk.injEq]at hk;rw[hk.2.2.1]
theorem Ej.Zc(h:Ej w0 g bm l pv out n mp W){i:Nat}{a b c d:UInt8}(hk:xZ l i=⟨a,b,c,d⟩)(hi:i+4<=l.length):W.cell? ⟨g,i+3,none⟩=some (ng .u8 (d.toNat:Int)):=by
 rw[h.row (i+3) nK];simp only[xZ,Q4.mk.injEq]at hk;rw[hk.2.2.2]
end
theorem Zd(s:ByteArray)(a b:Nat):(s.extract a b).data.toList=(s.data.toList.take b).drop a:=by
 simp[ByteArray.data_extract,List.drop_take]
theorem a1T{l:List UInt8}{st:Oc}{f:Nat}{F:Oc}(h:yF l st)(hi:st.i<l.length)(hF:rX l f st=F)(E:l.length<=st.i+f):∃A,yF l (rf l st)/\rX l A (rf l st)=F/\l.length<=(rf l st).i+A/\(rf l st).i<=l.length:=by
 obtain⟨C,I⟩:=h.step hi;cases f with
 |zero=>omega
 |succ f=>
  rw[rX,if_pos hi]at hF;exact⟨f,C,hF,nK,C.il⟩
theorem JK{l:List UInt8}{n i:Nat}{mp:VR}{k:Q4}(h:i+4<=l.length)(hk:xZ l i=k):qP l (n+1) i mp=qP l n (i+1) ((k,i)::mp.filter λp=>p.1 !=k):=by
 rw[qP,if_pos h,hk]
theorem JL{l:List UInt8}{n i:Nat}{mp:VR}(h:¬i+4<=l.length):qP l (n+1) i mp=qP l n (i+1) mp:=by
 rw[qP,if_neg h]
theorem a9a(b o c:Nat)(W:jJ):(Instr.arrayAt K4T (nk (some ⟨b,o,none⟩) 4 c)).run jI W=.ok (nz (some ⟨b,o,none⟩)) W:=by
 simp[Instr.arrayAt,run_underlying Tryz.underlying224]
theorem Ze(w:jJ):(zeroValue 3).run jI w=.ok (Dq.ev 0) w:=nM
theorem Zf(h:p:=by
 obtain rfl:q=1:=nK;have hmq:mq=qP l 1 st.i st.mp:=by have:=Ve.out;rw[Nat.sub_self]at this;exact this
 subst hmq;have a4w:jW (∃(s2:Oc) (f2:Nat),s2.pend=st.pend/\s2.i=st.i+1/\s2.i<=N/\s2.pend<=s2.i/\yF l s2/\rX l f2 s2=F/\l.length<=s2.i+f2/\Ej w g bm l u5 s2.out s2.i s2.mp wr):=jH (by
  obtain⟨f2,a1,a2,a3,a4⟩:=HNX.out;have h5:=H5.out;refine⟨rf l st,f2,?_,?_,by rw[<-Lu.out];exact a4,a1.pi,a1,a2,a3,?_⟩;.rw[HS2.out]
  .rw[HS2.out]
  .rw[HS2.out];exact h5)
 clear Ve H5;go_wp2_with fail;go_roundw;case rel=>
  obtain⟨s2,f2,e1,e2,e3,e4,e5,e6,e7,e8⟩:=a4w.out;exact⟨s2,f2,by rw[e1]<;>go_num,by rw[e2],e3,e4,jH e5,jH e6,jH e7,jH e8⟩
 case measure=>simp[kW];omega):p:=h
theorem a1U(s:ByteArray)(w:jJ)(hs:s.size<=65536):
  jV jI 147 #[ny s] w (pR ⟨(tF s.data.toList).toArray⟩ 0 w):=by
 have dL:=@run_makeMap jI;have dB:=a9a;obtain⟨N,aH⟩:=nT s.size;obtain⟨g,hg⟩:=nT w.heap.size;obtain⟨l,hl⟩:=nT s.data.toList;have bQ:l.length=N:=by rw[<-hl,<-aH];exact kV
 obtain⟨dC,bD⟩:∃P,pR ⟨(tF s.data.toList).toArray⟩ 0 w=P:=⟨_,rfl⟩;have dD:=jH bD;rw[bD];obtain⟨cap,w1,aJ,au,aK,aW,bR,aX⟩:=JJ Ch s nK w;rw[hg,aH]at aJ;rw[hg]at au aW aK;rw[aH]at hs bR au;have aL:jW (∀i,i<l.length->w1.cell? ⟨g,i,none⟩=some (ng .u8 ((l.getD i 0).toNat:Int))):=jH λi hi=>by
  rw[hl]at au;refine au.cells rfl i _ ?_;rw[lN,jX hi];simp[nU,jX hi]
 have bS:=jH (Kj N w1 nK);have bT:=jH aK;have Lu:=jH bQ;have aT:=jH hl;have dE:cap<=9223372036854775807:=by unfold j5 at aX;omega
 have bU:=jH hg;clear au aK hl bD aX;go_in;go_wp2_with fail;refine bS.mono ?_;rintro e w2 ⟨rfl,aC⟩;obtain⟨aI,aM⟩:∃S:ByteArray,(⟨(nZ N).toArray⟩:ByteArray)=S:=⟨_,rfl⟩;have aA:aI.data.toList=nZ N:=by rw[<-aM]
 have bE:aI.size<=1000000:=by
  have e:aI.data.toList.length=aI.size:=kV;have:=Hw N nK;rw[aA]at e;omega
 obtain⟨bF,w3,aN,aD,aY,aZ,_,_⟩:=JJ Ch aI bE w2;obtain⟨g2,bg⟩:=nT w2.heap.size;have bG:g+1<=g2:=by have:=aC.size;omega
 have bV:jW (∀W,w3.alloc (.map #[] 0)=W->Ej w g (g2+1) l (nk (some ⟨g2,0,none⟩) aI.size bF) (nZ N) 0 [] W):=jH λW dF=>by
  subst dF;rw[bg]at aD aZ;have a3:=(jT w3.heap.size w3).alloc (jL _) (.map #[] 0);have b3:jS w1.heap.size w1 w3:=aC.trans (aY.mono aC.size);have b4:jS w1.heap.size w1 (w3.alloc (.map #[] 0)):=b3.trans (a3.mono b3.size);have m:=qA.made QI Dq w3;rw[aZ]at m;rw[aA]at aD;exact⟨λi hi=>(b4.cell (p:=⟨g,i,none⟩) (show g<w1.heap.size by omega)).trans (aL i hi),(aD.base bG).below a3,m,λd hd=>by
   have hd:g2=d:=by simpa [kJ]using hd
   omega,bT.trans (b4.mono nK),nK,nQ,bU.symm⟩
 rw[bg]at aN;rw[aM];clear aD aY aC bS aL aW;go_upto_region 6 with fail;have bW:=jH (bV _ rfl);generalize w3.alloc _=w4 at*;obtain⟨bm,aO⟩:=nT (g2+1);rw[aO]at bW;rw[aO];obtain⟨F,hF⟩:=nT (rX l l.length (uC l));have bX:=jH hF;have bY:jW (yF l (uC l)):=jH (yF.ini l (by rw[Lu.out];exact hs));have bH:jW (nZ N=(uC l).out):=jH (by rw[<-Lu.out];rfl);clear bV hF aM aA aJ aN;go_wp2_with fail;go_loopw [5,7,8] (λpv dG iv aB=>∃(st:Oc) (f:Nat),dG=ng nH st.pend/\iv=ng nH st.i/\st.i<=N/\st.pend<=st.i/\jW (yF l st)/\jW (rX l f st=F)/\jW (l.length<=st.i+f)/\jW (Ej w g bm l pv st.out st.i st.mp aB)) (λ_ _ iv _=>N -(kW iv).toNat);case atStart=>exact⟨uC l,l.length,rfl,rfl,kI _,jL _,bY,bX,jH (by show _<=0+_;omega),by rw[<-bH.out];exact bW⟩
 case round=>
  obtain⟨st,f,rfl,rfl,av,dM,aP,bZ,cz,E⟩:=hrel;by_cases ci:st.i<N
  .have HNX:jW (∃cK,yF l (rf l st)/\rX l cK (rf l st)=F/\l.length<=(rf l st).i+cK/\(rf l st).i<=l.length):=jH (a1T aP (by rw[Lu.out];exact ci) bZ cz)
   by_cases c4:st.i+4<=N
   .obtain⟨⟨U,V,Y,Z⟩,O⟩:∃k,xZ l st.i=k:=⟨_,rfl⟩
    have aa:=jH O;have C:jW (st.i+4<=l.length):=jH (by rw[Lu.out];exact c4);have bI:=E.cell0 aa C.out;have bJ:=E.cell1 aa C.out;have bK:=E.Zb aa C.out;have bL:=E.Zc aa C.out;have ag:=E.mp.look_ok Tryz.underlying222 Ze (x:=⟨U,V,Y,Z⟩) trivial;have ah:JI l st=uK st.mp ⟨U,V,Y,Z⟩:=by unfold JI;rw[if_pos C.out,aa.out]
    have ak:st.i+4<=cap:=nK;have aQ:¬cap=st.i:=nK;cases aF:uK st.mp ⟨U,V,Y,Z⟩with
    |none=>
     rw[aF]at ag ah;have ag:(lV 222 (.map (some bm)) (nC #[ng .u8 (U.toNat:Int),ng .u8 (V.toNat:Int),ng .u8 (Y.toNat:Int),ng .u8 (Z.toNat:Int)]) true).run jI wr=.ok (nD #[ng nH 0,nA false]) wr:=ag;have HS2:jW (rf l st=⟨st.i+1,st.pend,st.out,qP l 1 st.i st.mp⟩):=jH (by unfold rf;rw[ah]);clear O aF ah;go_wp2_with fail;go_loopw [65,8] (λai iv aB=>∃(q:Nat) (mq:VR),ai=ng nH q/\iv=ng nH ((st.i+q:Nat):Int)/\q<=1/\jW (qP l (1 - q) (st.i+q) mq=qP l 1 st.i st.mp)/\jW (Ej w g bm l u5 st.out (st.i+q) mq aB)) (λai _ _=>1 -(kW ai).toNat);case atStart=>exact⟨0,st.mp,rfl,rfl,nK,jH rfl,E⟩
     case round=>
      obtain⟨q,mq,rfl,rfl,cZ,Ve,H5⟩:=hrel;by_cases aU:q=0
      .subst aU
       have hF:jW (1 - 0=(1 -(0+1))+1):=jH nK;obtain⟨A,I⟩:=nT (st.i+0);have J:=jH I;rw[I]at Ve H5;simp only[I];have c5:A+4<=N:=nK;obtain⟨⟨U,V,Y,Z⟩,O⟩:∃k,xZ l A=k:=⟨_,rfl⟩;have aa:=jH O;have C:jW (A+4<=l.length):=jH (by rw[Lu.out];exact c5);have bI:=H5.cell0 aa C.out;have bJ:=H5.cell1 aa C.out;have bK:=H5.Zb aa C.out;have bL:=H5.Zc aa C.out;have ae:jW (qP l (1 -(0+1)) (A+1) ((⟨U,V,Y,Z⟩,A)::mq.filter λp=>p.1 !=⟨U,V,Y,Z⟩)=qP l 1 st.i st.mp):=jH (by
        rw[<-Ve.out];exact(JK C aa).symm)
       have av:A<N:=nK;have ak:A+4<=cap:=nK;have aQ:¬cap=A:=nK;clear O I;go_wp2_with (refine xB rfl _ _ _ rfl Tryz.underlying222 H5.mp rfl (x:=⟨U,V,Y,Z⟩) rfl trivial (y:=A) rfl zg ?_;intro bM ax ay;have Q:=jH (H5.put ax ay);clear ax ay);go_roundw;case rel=>exact⟨0+1,by go_num,by have:=J.out;go_num,nK,(⟨U,V,Y,Z⟩,A)::mq.filter λp=>p.1 !=⟨U,V,Y,Z⟩,by rw[show st.i+(0+1)=A+1 by have:=J.out;omega];exact ae,by rw[show st.i+(0+1)=A+1 by have:=J.out;omega];exact Q⟩
       case measure=>(simp[kW]<;>omega)
      .exact Zf
    |some j=>
     rw[aF]at ag ah;have ag:(lV 222 (.map (some bm)) (nC #[ng .u8 (U.toNat:Int),ng .u8 (V.toNat:Int),ng .u8 (Y.toNat:Int),ng .u8 (Z.toNat:Int)]) true).run jI wr=.ok (nD #[ng nH (j:Int),nA true]) wr:=ag;obtain⟨dO,df,z3,z4,z5,dh⟩:=Hy aP ah;have HS2:jW (rf l st=⟨st.i+qG l j st.i,st.i+qG l j st.i,st.out++xx ((l.take st.i).drop st.pend)++xJ (qG l j st.i) (st.i - j),qP l (qG l j st.i) st.i st.mp⟩):=jH (by unfold rf;rw[ah]);obtain⟨M,bN⟩:=nT (qG l j st.i);rw[bN]at z4 z5 dh HS2;rw[Lu.out]at dh;have bq:(s.extract st.pend st.i).data.toList=(l.take st.i).drop st.pend:=by rw[Zd,aT.out]
     have az:(s.extract st.pend st.i).size<=65536:=by simp only[kz];omega
     have af:=EO (g+1) u5 st.out (s.extract st.pend st.i) wr E.pk (by have:=aP.ol;omega) az E.lt.2.1;rw[bq]at af;have af:=jH af;have dw:jW (∀W,jV jI 186 #[ny s,ng nH j,ng nH st.i] W λe w'=>e=nE (ng nH (M:Nat))/\jS W.heap.size W w'):=jH λW=>by
      have:=Y7 s j st.i W (by rw[aH];exact hs) df (by rw[aH];exact av);rw[aT.out,bN]at this;exact this
     have bO:((l.take st.i).drop st.pend).length<=65536:=by rw[kS,kY];omega
     have dx:=Lt ((l.take st.i).drop st.pend);have dz:=aP.ol;have bu:(st.out++xx ((l.take st.i).drop st.pend)).length<=1000000:=by rw[jY];omega
     have aV:jW (∀v W,rG W (g+1) 5 v (st.out++xx ((l.take st.i).drop st.pend))->g+1<=W.heap.size->jV jI 187 #[v,ng nH (M:Nat),ng nH ((st.i:Int) -(j:Int))] W λe w'=>∃v',e=nE v'/\vv (g+1) v W v' (st.out++xx ((l.take st.i).drop st.pend)++xJ M (st.i - j)) w'):=jH λv W bP dH=>by
      rw[show(st.i:Int) -(j:Int)=((st.i - j:Nat):Int)by omega];exact Y6 (g+1) v _ M (st.i - j) W bP bu ⟨z4,z5⟩ nK dH
     obtain⟨dI,aR⟩:=nT (st.out++xx ((l.take st.i).drop st.pend));rw[aR]at af aV HS2;obtain⟨dJ,aS⟩:=nT (dI++xJ M (st.i - j));rw[aS]at aV HS2;clear O aF ah bq az bO dx dz bu aR aS bN;have dN:1<=M:=nK;go_wp2_with fail;refine af.mono ?_;rintro e w5 ⟨v1,rfl,aj⟩;have aG:=jH (E.app aj);clear aj af bI bJ bK bL ag;go_wp2_with fail;refine(dw _).mono ?_;rintro e bM ⟨rfl,bz⟩;have Q:=jH (aG.below bz);have dA:=jH (aV v1 bM Q.pk Q.lt.2.1);clear bz aG dw aV;go_wp2_with fail;refine dA.mono ?_;rintro e dP ⟨v2,rfl,bA⟩;have E:=jH (Q.app bA);clear bA dA Q df z4 z5 C c4 ak aQ;go_wp2_with fail;go_loopw [65,8] (λai iv aB=>∃(q:Nat) (mq:VR),ai=ng nH q/\iv=ng nH ((st.i+q:Nat):Int)/\q<=M/\jW (qP l (M - q) (st.i+q) mq=qP l M st.i st.mp)/\jW (Ej w g bm l v2 dJ (st.i+q) mq aB)) (λai _ _=>M -(kW ai).toNat);case atStart=>exact⟨0,st.mp,rfl,rfl,nK,jH rfl,E⟩
     case round=>
      obtain⟨q,mq,rfl,rfl,cZ,Ve,H5⟩:=hrel;by_cases aU:q<M
      .skip
       have hF:jW (M - q=(M -(q+1))+1):=jH nK;obtain⟨A,I⟩:=nT (st.i+q);have J:=jH I;rw[I]at Ve H5;simp only[I];by_cases c5:A+4<=N
       .skip
        obtain⟨⟨U,V,Y,Z⟩,O⟩:∃k,xZ l A=k:=⟨_,rfl⟩;have aa:=jH O;have C:jW (A+4<=l.length):=jH (by rw[Lu.out];exact c5);have bI:=H5.cell0 aa C.out;have bJ:=H5.cell1 aa C.out;have bK:=H5.Zb aa C.out;have bL:=H5.Zc aa C.out;have ae:jW (qP l (M -(q+1)) (A+1) ((⟨U,V,Y,Z⟩,A)::mq.filter λp=>p.1 !=⟨U,V,Y,Z⟩)=qP l M st.i st.mp):=jH (by
         rw[<-Ve.out,hF.out];exact(JK C aa).symm)
        have av:A<N:=nK;have ak:A+4<=cap:=nK;have aQ:¬cap=A:=nK;clear O I;go_wp2_with (refine xB rfl _ _ _ rfl Tryz.underlying222 H5.mp rfl (x:=⟨U,V,Y,Z⟩) rfl trivial (y:=A) rfl zg ?_;intro bM ax ay;have Q:=jH (H5.put ax ay);clear ax ay);go_roundw;case rel=>exact⟨q+1,(⟨U,V,Y,Z⟩,A)::mq.filter λp=>p.1 !=⟨U,V,Y,Z⟩,by go_num,by have:=J.out;go_num,nK,by rw[show st.i+(q+1)=A+1 by have:=J.out;omega];exact ae,by rw[show st.i+(q+1)=A+1 by have:=J.out;omega];exact Q⟩
        case measure=>(simp[kW]<;>omega)
       .skip
        have C:jW (¬A+4<=l.length):=jH (by rw[Lu.out];exact c5);have ae:jW (qP l (M -(q+1)) (A+1) mq=qP l M st.i st.mp):=jH (by
         rw[<-Ve.out,hF.out];exact(JL C).symm)
        have Q:=jH H5.up;have c6:N<A+4:=nK;have av:A<=N:=nK;clear I c5;go_wp2_with fail;go_roundw;case rel=>exact⟨q+1,mq,by go_num,by have:=J.out;go_num,nK,by rw[show st.i+(q+1)=A+1 by have:=J.out;omega];exact ae,by rw[show st.i+(q+1)=A+1 by have:=J.out;omega];exact Q⟩
        case measure=>(simp[kW]<;>omega)
      .obtain rfl:q=M:=nK
       have hmq:mq=qP l q st.i st.mp:=by have:=Ve.out;rw[Nat.sub_self]at this;exact this
       subst hmq;have a4w:jW (∃(s2:Oc) (f2:Nat),s2.pend=st.i+q/\s2.i=st.i+q/\s2.i<=N/\s2.pend<=s2.i/\yF l s2/\rX l f2 s2=F/\l.length<=s2.i+f2/\Ej w g bm l v2 s2.out s2.i s2.mp wr):=jH (by
        obtain⟨f2,a1,a2,a3,a4⟩:=HNX.out;have h5:=H5.out;refine⟨rf l st,f2,?_,?_,by rw[<-Lu.out];exact a4,a1.pi,a1,a2,a3,?_⟩;.rw[HS2.out]
        .rw[HS2.out]
        .rw[HS2.out];exact h5)
       clear Ve H5;go_wp2_with fail;go_roundw;case rel=>
        obtain⟨s2,f2,e1,e2,e3,e4,e5,e6,e7,e8⟩:=a4w.out;exact⟨s2,f2,by rw[e1]<;>go_num,by rw[e2],e3,e4,jH e5,jH e6,jH e7,jH e8⟩
       case measure=>simp[kW];omega
   .have C:jW (¬st.i+4<=l.length):=jH (by rw[Lu.out];exact c4)
    have HS2:jW (rf l st=⟨st.i+1,st.pend,st.out,qP l 1 st.i st.mp⟩):=jH (by unfold rf JI;rw[if_neg C.out]);clear C;go_wp2_with fail;go_loopw [65,8] (λai iv aB=>∃(q:Nat) (mq:VR),ai=ng nH q/\iv=ng nH ((st.i+q:Nat):Int)/\q<=1/\jW (qP l (1 - q) (st.i+q) mq=qP l 1 st.i st.mp)/\jW (Ej w g bm l u5 st.out (st.i+q) mq aB)) (λai _ _=>1 -(kW ai).toNat);case atStart=>exact⟨0,st.mp,rfl,rfl,nK,jH rfl,E⟩
    case round=>
     obtain⟨q,mq,rfl,rfl,cZ,Ve,H5⟩:=hrel;by_cases aU:q=0
     .subst aU
      have hF:jW (1 - 0=(1 -(0+1))+1):=jH nK;obtain⟨A,I⟩:=nT (st.i+0);have J:=jH I;rw[I]at Ve H5;simp only[I];have c5:¬A+4<=N:=nK;have C:jW (¬A+4<=l.length):=jH (by rw[Lu.out];exact c5);have ae:jW (qP l (1 -(0+1)) (A+1) mq=qP l 1 st.i st.mp):=jH (by
       rw[<-Ve.out];exact(JL C).symm)
      have Q:=jH H5.up;have c6:N<A+4:=nK;have av:A<=N:=nK;clear I c5;go_wp2_with fail;go_roundw;case rel=>exact⟨0+1,mq,by go_num,by have:=J.out;go_num,nK,by rw[show st.i+(0+1)=A+1 by have:=J.out;omega];exact ae,by rw[show st.i+(0+1)=A+1 by have:=J.out;omega];exact Q⟩
      case measure=>(simp[kW]<;>omega)
     .exact Zf
  .have bB:F=st:=by rw[<-bZ.out];exact QF f st (by rw[Lu.out];exact ci)
   have az:(s.extract st.pend s.size).data.toList=l.drop st.pend:=by
    have bP:s.data.toList.length=s.size:=kV;rw[Zd,<-bP,l9,aT.out]
   have bC:tF l=st.out++xx (l.drop st.pend):=by unfold tF;rw[bX.out,bB]
   have af:=EO (g+1) u5 st.out (s.extract st.pend s.size) wr E.pk (by have:=aP.ol;omega) (by simp only[kz];omega) E.lt.2.1;rw[az,<-bC,aH]at af;have af:=jH af;clear bB az bC;go_wp2_with fail;refine af.mono ?_;rintro e w5 ⟨v1,rfl,aj⟩;have dK:=aj.own.string Ch;have aG:=jH (E.app aj);clear aj af;go_wp2_with fail;try go_returns
   rw[<-dD.out,aT.out];exact⟨rfl,bU.symm▸aG.qa⟩
def DC(size:Nat)(bs acc A:List UInt8):Prop:=∀(t:ByteArray)(p:Nat)(R:List UInt8),t.size<=9223372036854775807->t.data.toList.drop p=bs++R->p+bs.length<=t.size->∃k,k<=bs.length/\∀f,wO size (f+k) ⟨t,p,0⟩ acc=wO size f ⟨t,p+bs.length,0⟩ A
theorem DC.nil(size:Nat)(acc:List UInt8):DC size [] acc acc:=λt p R _ _ _=>⟨0,jL _,λf=>rfl⟩
theorem DC.app{size:Nat}{b1 A I a2 a3:List UInt8}(J:DC size b1 I a2)(N:DC size A a2 a3):DC size (b1++A) I a3:=λt p R ht hd hp=>by
 rw[jY]at hp;obtain⟨C,O,e1⟩:=J t p (A++R) ht (by rw[hd,lD]) nK;obtain⟨E,l2,e2⟩:=N t (p+b1.length) R ht (by rw[<-List.drop_drop,hd,lD,List.drop_left]) nK;exact⟨C+E,by rw[jY];omega,λf=>by rw[show f+(C+E)=f+E+C by omega,e1,e2,jY,kP]⟩
section
variable {t:ByteArray}{p:Nat}
theorem a1V{b:UInt8}{r:List UInt8}(h:t.data.toList.drop p=b::r):∃hp:p<t.size,t[p]=b/\t.data.toList.drop (p+1)=r:=by
 have hl:t.data.toList.length=t.size:=nR;have hp:p<t.data.toList.length:=by
  rcases lh p t.data.toList.length with A|A
  .exact A
  .rw[List.drop_eq_nil_of_le A]at h;cases h
 rw[List.drop_eq_getElem_cons hp]at h;injection h with C E
 exact⟨nK,C,E⟩
theorem take_drop{a r:List UInt8}{n:Nat}(h:t.data.toList.drop p=a++r)(hn:a.length=n)(hp:p+n<=t.size)(ht:t.size<=9223372036854775807):(RS.take ⟨t,p,0⟩ (n:Nat)).1=⟨t,p+n,0⟩/\(RS.take ⟨t,p,0⟩ (n:Nat)).2.data.toList=a:=by
 unfold RS.take;rw[if_pos rfl,if_neg nK,if_neg (by show¬((t.size:Int) - p<n);omega)];refine⟨nR,?_⟩;show(t.extract p (p+(n:Int).toNat)).data.toList=a;rw[Int.toNat_natCast,mY];rw[show p+n - p=n by omega,h,List.take_left' hn]
theorem DC.one{size:Nat}{b:UInt8}{r acc A:List UInt8}(h:∀(t:ByteArray) (p:Nat) (R:List UInt8),t.size<=9223372036854775807->t.data.toList.drop p=r++R->p+r.length<=t.size->uj (b.toNat % 4) (rH (b.toNat % 4) (b.toNat/4) ⟨t,p,0⟩) acc size=(⟨t,p+r.length,0⟩,A)):DC size (b::r) acc A:=λt p R ht hd hp=>by
 obtain⟨hlt,hb,hd2⟩:=a1V hd;rw[kD]at hp⊢;refine⟨1,nK,λf=> ?_⟩;rw[wO,if_pos ⟨rfl,hlt⟩];have C:(RS.mk t p 0).byte=(⟨t,p+1,0⟩,(b.toNat:Int)):=by
  unfold RS.byte;rw[if_pos rfl,dif_pos hlt];show(_,((t[p]).toNat:Int))=_;rw[hb]
 have he:rR ⟨t,p,0⟩ acc size=(⟨t,p+(r.length+1),0⟩,A):=by
  unfold rR;rw[C];show uj ((b.toNat:Int).toNat % 4) (rH ((b.toNat:Int).toNat % 4) ((b.toNat:Int).toNat/4) ⟨t,p+1,0⟩) acc size=_;rw[Int.toNat_natCast,h t (p+1) R ht hd2 nK,show p+1+r.length=p+(r.length+1)by omega]
 rw[he]
end
theorem ofNat_toNat{n:Nat}(h:n<256):(jZ n).toNat=n:=by rw[UInt8.toNat_ofNat'];exact Nat.mod_eq_of_lt h
theorem H6{t:ByteArray}{q n size:Nat}{x R acc:List UInt8}(ht:t.size<=9223372036854775807)(hd:t.data.toList.drop q=x++R)(A:q+x.length<=t.size)(hn:n=x.length)(hs:acc.length+x.length<=size):uj 0 (⟨t,q,0⟩,n,0) acc size=(⟨t,q+x.length,0⟩,acc++x):=by
 subst hn;obtain⟨C,E⟩:=take_drop hd rfl A ht;unfold uj;rw[if_neg nR,if_neg nQ,if_pos rfl];dsimp only;rw[C,E]
theorem DC.lit{size:Nat}{x acc:List UInt8}(N:x.length<=65536)(hs:acc.length+x.length<=size):DC size (xx x) acc (acc++x):=by
 unfold xx Ob;by_cases h0:x.length=0;.rw[if_pos h0,mf.1 h0];simpa using DC.nil size acc
 rw[if_neg h0];by_cases E:x.length<=60
 .rw[if_pos E]
  show DC size (jZ (4*(x.length - 1))::x) acc (acc++x);refine DC.one λt p R ht hd hp=> ?_
  rw[ofNat_toNat nK,show 4*(x.length - 1) % 4=0 by omega,show 4*(x.length - 1)/4=x.length - 1 by omega];unfold rH;rw[if_pos rfl,if_neg nK];exact H6 ht hd hp nK hs
 rw[if_neg E];by_cases I:x.length<=256
 .rw[if_pos I]
  show DC size (240::jZ (x.length - 1)::x) acc (acc++x);refine DC.one λt p R ht hd hp=> ?_
  rw[show(240:UInt8).toNat % 4=0 from rfl,show(240:UInt8).toNat/4=60 from rfl];rw[kD]at hp⊢;obtain⟨A,C⟩:=take_drop (a:=[jZ (x.length - 1)]) (r:=x++R) (n:=1) hd rfl nK ht;unfold rH vK;rw[if_pos rfl,if_pos nN];rw[show((60:Nat):Int) - 59=((1:Nat):Int)by decide,A,C];have J:pU [jZ (x.length - 1)]=x.length - 1:=by simp only[pU];rw[ofNat_toNat nK];omega
  rw[J,show p+(x.length+1)=p+1+x.length by omega];exact H6 ht (by rw[<-List.drop_drop,hd];rfl) nK nK hs
 rw[if_neg I];show DC size (244::(vJ 2 (x.length - 1)++x)) acc (acc++x);refine DC.one λt p R ht hd hp=> ?_
 rw[show(244:UInt8).toNat % 4=0 from rfl,show(244:UInt8).toNat/4=61 from rfl];rw[lD]at hd;rw[jY,pF]at hp⊢;obtain⟨A,C⟩:=take_drop (a:=vJ 2 (x.length - 1)) (n:=2) hd (pF 2 _) nK ht;unfold rH vK;rw[if_pos rfl,if_pos nN];rw[show((61:Nat):Int) - 59=((2:Nat):Int)by decide,A,C,FP 2 (x.length - 1) nK,show p+(2+x.length)=p+2+x.length by omega];exact H6 ht (by rw[<-List.drop_drop,hd,List.drop_left' (pF 2 _)]) nK nK hs
theorem Oh{L:List UInt8}:∀ f n i j:Nat,n<=f->j<i->i+n<=L.length->(∀q,q<n->L[j+q]? =L[i+q]?)->vY f n (i - j) (L.take i)=L.take (i+n)
 |0,n,i,j,h,_,_,_=>by
  obtain rfl:n=0:=nK;rfl
 |f+1,n,i,j,h,J,hl,A=>by
  unfold vY;by_cases h0:n=0;.rw[if_pos h0,h0,Nat.add_zero]
  rw[if_neg h0];obtain⟨m,C⟩:=nT (min n (i - j));have N:1<=m/\m<=n/\m<=i - j:=nK;rw[C];have E:L.take i++((L.take i).drop ((L.take i).length -(i - j))).take m=L.take (i+m):=by
   rw[kY,Nat.min_eq_left (by omega:i<=L.length),show i -(i - j)=j by omega];apply List.ext_getElem?;intro k;by_cases hk:k<i;.rw[List.getElem?_append_left (by rw[kY];omega),mM,mM,if_pos hk,if_pos nK]
   .rw[List.getElem?_append_right (by rw[kY];omega),kY,Nat.min_eq_left (by omega:i<=L.length),mM,mM]
    by_cases hk2:k - i<m;.rw[if_pos hk2,if_pos nK,List.getElem?_drop,mM,if_pos nK,A (k - i) nK,show i+(k - i)=k by omega]
    .rw[if_neg hk2,if_neg nK]
  rw[E];have:=Oh (L:=L) f (n - m) (i+m) (j+m) nK nK nK (λq I=>by rw[show j+m+q=j+(m+q)by omega,A _ nK,show i+(m+q)=i+m+q by omega]);rw[show i+m -(j+m)=i - j by omega,show i+m+(n - m)=i+n by omega]at this;exact this
theorem JM{r:RS}{k n A size:Nat}{acc:List UInt8}(h0:r.f=0)(hk:k≠0)(hb:1<=A)(C:A<=acc.length)(hs:acc.length+n<=size):uj k (r,n,A) acc size=(r,vY n n A acc):=by
 unfold uj;rw[if_neg (by simpa using h0),if_neg nQ,if_neg hk]
theorem DC.copy{size n d:Nat}{acc:List UInt8}(hn:4<=n/\n<=64)(hd:1<=d/\d<=65535)(A:d<=acc.length)(hs:acc.length+n<=size):DC size (xJ n d) acc (vY n n d acc):=by
 unfold xJ;by_cases h:n<=11/\d<2048
 .rw[if_pos h]
  refine DC.one λt p R ht hdr hp=> ?_
  have I:(1+4*(n - 4)+32*(d/256))<256:=nK;rw[ofNat_toNat I,show(1+4*(n - 4)+32*(d/256)) % 4=1 by omega,show(1+4*(n - 4)+32*(d/256))/4=n - 4+8*(d/256)by omega];obtain⟨C,E⟩:=take_drop (n:=1) hdr rfl hp ht;unfold rH vK;rw[if_neg nN,if_pos rfl];rw[show(1:Int)=((1:Nat):Int)from rfl,C,E,show(n - 4+8*(d/256)) % 8=n - 4 by omega,show(n - 4+8*(d/256))/8=d/256 by omega];have J:pU [jZ (d % 256)]=d % 256:=by simp only[pU];rw[ofNat_toNat nK];omega
  rw[J,show 4+(n - 4)=n by omega,show d/256*256+d % 256=d by omega];exact JM rfl nN hd.1 A hs
 .rw[if_neg h]
  refine DC.one λt p R ht hdr hp=> ?_
  rw[ofNat_toNat nK,show(2+4*(n - 1)) % 4=2 by omega,show(2+4*(n - 1))/4=n - 1 by omega];rw[pF]at hp⊢;obtain⟨C,E⟩:=take_drop (n:=2) hdr (pF 2 _) hp ht;unfold rH vK;rw[if_neg nN,if_neg nN,if_pos rfl];rw[show(2:Int)=((2:Nat):Int)from rfl,C,E,FP 2 d nK,show n - 1+1=n by omega];exact JM rfl nN hd.1 A hs
theorem Ia{l:List UInt8}:∀(f:Nat)(s:Oc),yF l s->yF l (rX l f s)
 |0,_,h=>h
 |f+1,s,h=>by
  unfold rX;split;.rename_i hi;exact Ia f _ (h.step hi).1
  .exact h
theorem Oi(l:List UInt8)(h:l.length<=65536):(tF l).length<=19+8*l.length:=by
 have k:=Ia l.length _ (yF.ini l h);have a:=Lt (l.drop (rX l l.length (uC l)).pend);rw[kS]at a;have:=k.ol;have:=k.pi;have:=k.il;rw[tF,jY];omega
theorem JN{l:List UInt8}(hl:l.length<=65536):∀(f:Nat)(s:Oc),yF l s->(∃E,s.out=nZ l.length++E/\DC l.length E [] (l.take s.pend))->∃E,(rX l f s).out=nZ l.length++E/\DC l.length E [] (l.take (rX l f s).pend)
 |0,s,_,h=>h
 |f+1,s,ho,h=>by
  unfold rX;split
  .rename_i hi
   refine JN hl f _ (ho.step hi).1 ?_;obtain⟨E,A,C⟩:=h;unfold rf;split
   .rename_i j O
    obtain⟨af,Q,ag,U,V,Y⟩:=Hy ho O;have ae:=ho.pi;have Z:(l.take s.pend)++((l.take s.i).drop s.pend)=l.take s.i:=by
     rw[List.drop_take];have:=List.take_add (l:=l) (i:=s.pend) (j:=s.i - s.pend);rw[show s.pend+(s.i - s.pend)=s.i by omega]at this;exact this.symm
    have I:((l.take s.i).drop s.pend).length=s.i - s.pend:=by rw[kS,kY];omega
    have J:=DC.lit (size:=l.length) (x:=(l.take s.i).drop s.pend) (acc:=l.take s.pend) nK (by rw[I,kY];omega);rw[Z]at J;have N:=DC.copy (size:=l.length) (n:=qG l j s.i) (d:=s.i - j) (acc:=l.take s.i) ⟨U,V⟩ nK (by rw[kY];omega) (by rw[kY];omega);rw[Oh (qG l j s.i) (qG l j s.i) s.i j (jL _) Q Y (λq aa=>(xK (l:=l) (i:=j) (j:=s.i) 64 0).2.2.2 q (kI _) aa)]at N;refine⟨E++(xx ((l.take s.i).drop s.pend)++xJ (qG l j s.i) (s.i - j)),by dsimp only;rw[A];simp,?_⟩;exact C.app (J.app N)
   .exact⟨E,A,C⟩
  .exact h
theorem Vf{l:List UInt8}(hl:l.length<=65536):∃E,tF l=nZ l.length++E/\DC l.length E [] l:=by
 obtain⟨E,C,I⟩:=JN hl l.length (uC l) (yF.ini l hl) ⟨[],by simp[uC],by simpa [uC]using DC.nil l.length []⟩;have ho:=Ia l.length (uC l) (yF.ini l hl);have J:=ho.il;have N:=ho.pi;have A:=DC.lit (size:=l.length) (x:=l.drop (rX l l.length (uC l)).pend) (acc:=l.take (rX l l.length (uC l)).pend) (by rw[kS];omega) (by rw[kS,kY];omega);rw[mQ]at A;exact⟨E++xx (l.drop (rX l l.length (uC l)).pend),by rw[tF,C,lD],I.app A⟩
theorem unpack_pack(l:List UInt8)(hl:l.length<=65536)(most:Int)(Z:(l.length:Int)<=most)(mt:Option (Nat×MS))(N:Ck l.length mt=0):sj ⟨(tF l).toArray⟩ most mt=(.ok l,rO l.length mt):=by
 obtain⟨E,C,U⟩:=Vf hl;have V:tT (tF l)=(l.length,(nZ l.length).length,0):=by
  unfold tT;rw[C,zz l.length E nK];rw[if_pos rfl,if_neg (by dsimp only;omega)]
 unfold sj;rw[show(⟨(tF l).toArray⟩:ByteArray).data.toList=tF l by simp,V];dsimp only;rw[if_neg nN,if_neg nK,if_neg (by rw[N];decide)];congr 1;obtain⟨t,ht⟩:∃t,(⟨(tF l).toArray⟩:ByteArray).extract (nZ l.length).length (⟨(tF l).toArray⟩:ByteArray).size=t:=⟨_,rfl⟩;have htl:t.data.toList=E:=by
  rw[<-ht,mY];rw[show(⟨(tF l).toArray⟩:ByteArray).data.toList=tF l by simp,size_mk,List.take_of_length_le (by rw[kS];omega),C,List.drop_left]
 rw[ht];have O:t.size=E.length:=by rw[<-htl];simp
 have hb:=Oi l hl;have Y:E.length<=19+8*l.length:=by rw[C,jY]at hb;omega
 obtain⟨k,hk,I⟩:=U t 0 [] nK (by rw[List.drop_zero,htl,List.append_nil]) nK;have J:=I (t.size+1 - k);rw[show t.size+1 - k+k=t.size+1 by omega,Nat.zero_add]at J;have A:∀f,wO l.length f ⟨t,E.length,0⟩ l=(⟨t,E.length,0⟩,l):=λf=>by
  cases f with
  |zero=>rfl
  |succ f=>rw[wO,if_neg (by simp[O])]
 rw[A]at J;unfold Cj;have Q:RS.of t=⟨t,0,0⟩:=rfl;rw[Q,J];simp
theorem pack_inj{a b:List UInt8}(C:a.length<=65536)(hb:b.length<=65536)(h:tF a=tF b):a=b:=by
 have A:=unpack_pack a C 65536 nK none rfl;have E:=unpack_pack b hb 65536 nK none rfl;rw[h,E]at A;injection A with I _
 injection I with J
 exact J.symm
def qw(id:Nat)(b:ByteArray):ByteArray×Int:=if(nZ id).length+b.size<=65536 then(xP id b,0)else(⟨#[]⟩,5)
theorem Ib(id:Nat)(b:ByteArray)(w:jJ)(hid:id<18446744073709551616)(hs:b.size<=9223372036854770000):
  jV jI 104 #[ng nI id,ny b] w (pR (qw id b).1 (qw id b).2 w):=by
 unfold qw;by_cases h:(nZ id).length+b.size<=65536;.rw[if_pos h];exact TQ id b w hid h
 .rw[if_neg h];exact(FU id b w hid nK hs).mono λe w' h=>⟨h.1,by rw[h.2];exact jT _ _⟩
def xL(s:ByteArray):ByteArray:=⟨(tF s.data.toList).toArray⟩
theorem QJ(s:ByteArray)(hs:s.size<=65536):(xL s).size<=1000000:=by
 have:=Oi s.data.toList (by simpa using hs);have A:s.data.toList.length=s.size:=nR;rw[xL,size_mk];omega
theorem Oj(id:Nat)(b:ByteArray)(w:jJ)(hid:id<18446744073709551616)(hs:b.size<=65536):
  jV jI 109 #[ng nI id,ny b] w (pR (qw id (xL b)).1 (qw id (xL b)).2 w):=by
 have O:jW (jV jI 147 #[ny b] w (pR (xL b) 0 w)):=jH (a1U b w hs);have hp:=QJ b hs;have I:=jH (λW=>Ib id (xL b) W hid nK);generalize xL b=pk at*;obtain⟨R,J⟩:=nT (qw id pk);rw[J]at I⊢;obtain⟨T,er⟩:=R;clear hid hs hp J;go_in;go_wp2_with fail;refine O.mono ?_;rintro e w2 ⟨rfl,A⟩;have C:=jH A;clear A;go_wp2_with fail;refine(I _).mono ?_;rintro e w3 ⟨rfl,E⟩;have N:=jH (C.trans (E.mono C.size));clear E;go_wp2_with fail;try go_returns
 exact⟨rfl,N.out⟩
theorem Zg(F:vS)(w W:jJ)(h:w.alloc (nG #[ng nI F.id,ny F.name,ny F.body] rq)=W):nO W w.heap.size #[ng nI F.id,ny F.name,ny F.body] rq/\jS w.heap.size w W:=by
 subst h;exact⟨nO.new w _ _,(jT w.heap.size w).alloc (jL _) _⟩
theorem Lv(c:oK)(F:vS)(w W:jJ)(g:Nat)(hg:w.heap.size=g)(h:(w.alloc (nG #[ng nH c.fmt,ng nJ c.mag,ng nH c.pO,ng nH c.qj,ng nH c.dep,ng nH c.oZ] tV)).alloc (nG #[ng nI F.id,ny F.name,ny F.body] rq)=W):nO W g #[ng nH c.fmt,ng nJ c.mag,ng nH c.pO,ng nH c.qj,ng nH c.dep,ng nH c.oZ] tV/\nO W (g+1) #[ng nI F.id,ny F.name,ny F.body] rq/\jS w.heap.size w W:=by
 subst h;exact YZ
theorem FI(h:p:=by
 go_wp2_with fail;go_returns;exact⟨rfl,HB1.out⟩):p:=h
theorem Zh(F:vS)(w:jJ):jV jI 97 #[nC #[ng nI F.id,ny F.name,ny F.body]] w λe w'=>e=nE (nA (decide (F.id=0)))/\jS w.heap.size w w':=by
 obtain⟨g,hg⟩:=nT w.heap.size;have C:=jH (Zg F w);rw[hg]at C;rw[hg];obtain⟨b,hb⟩:=nT (decide (F.id=0));rw[hb];have I:((F.id:Int)==0)=b:=by rw[<-hb,Bool.eq_iff_iff];simp
 clear hb;go_in;go_upto_region 1 with fail;generalize E:w.alloc _=w1;obtain⟨hB,A⟩:=C.out _ E;have J:=hB.c0;have HB1:=jH A;clear E hB A C;exact FI
theorem Ol(F:vS)(w:jJ):jV jI 96 #[nC #[ng nI F.id,ny F.name,ny F.body]] w λe w'=>e=nE (nA (decide (F.name.size=0)))/\jS w.heap.size w w':=by
 obtain⟨g,hg⟩:=nT w.heap.size;have C:=jH (Zg F w);rw[hg]at C;rw[hg];obtain⟨b,hb⟩:=nT (decide (F.name.size=0));rw[hb];have I:(F.name.toList==([]:List UInt8))=b:=by rw[Fe,<-hb]
 clear hb;go_in;go_upto_region 1 with fail;generalize E:w.alloc _=w1;obtain⟨hB,A⟩:=C.out _ E;have J:=hB.c1;have HB1:=jH A;clear E hB A C;exact FI
theorem QK(h:p:=by
 have f2:=hF.c2;have HB1:=jH hb1;clear hW hC hF hb1 HI;go_wp2_with fail;refine(CP _).mono ?_;rintro e w2 ⟨rfl,hb2⟩;have HB2:=jH (HB1.trans (hb2.mono HB1.size));clear hb2;go_wp2_with fail;try go_returns
 exact⟨rfl,HB2.out⟩):p:=h
theorem Zi(c:oK)(F:vS)(w:jJ)(A:0<=c.mag/\c.mag<4294967296)(hn:F.name.size<=j5)(hb:F.body.size<=1000000000):jV jI 98 #[nC #[ng nH c.fmt,ng nJ c.mag,ng nH c.pO,ng nH c.qj,ng nH c.dep,ng nH c.oZ],nC #[ng nI F.id,ny F.name,ny F.body]] w (pR (uf c.mag.toNat F.name F.body).1 (uf c.mag.toNat F.name F.body).2 w):=by
 obtain⟨g,hg⟩:=nT w.heap.size;have HI:=jH (λW=>Lv c F w W g hg);have CP:=jH (λ(W:jJ)=>Y0 c.mag.toNat F.name F.body W nK hn hb);obtain⟨R,C⟩:=nT (uf c.mag.toNat F.name F.body);rw[C]at CP⊢;obtain⟨T,er⟩:=R;clear C;rw[mZ A.1]at CP;clear A hn hb;go_in;go_upto_region 1 with fail;generalize hW:(w.alloc _).alloc _=w1;obtain⟨hC,hF,hb1⟩:=HI.out _ hW;have c1:=hC.c1;have f1:=hF.c1;exact QK
theorem Zj(c:oK)(F:vS)(w:jJ)(hid:F.id<18446744073709551616)(hb:F.body.size<=1000000000):jV jI 103 #[nC #[ng nH c.fmt,ng nJ c.mag,ng nH c.pO,ng nH c.qj,ng nH c.dep,ng nH c.oZ],nC #[ng nI F.id,ny F.name,ny F.body]] w (pR (qw F.id F.body).1 (qw F.id F.body).2 w):=by
 obtain⟨g,hg⟩:=nT w.heap.size;have HI:=jH (λW=>Lv c F w W g hg);have CP:=jH (λ(W:jJ)=>Ib F.id F.body W hid nK);obtain⟨R,A⟩:=nT (qw F.id F.body);rw[A]at CP⊢;obtain⟨T,er⟩:=R;clear A;clear hid hb;go_in;go_upto_region 1 with fail;generalize hW:(w.alloc _).alloc _=w1;obtain⟨hC,hF,hb1⟩:=HI.out _ hW;have C:=hF.c0;exact QK
theorem Zk(c:oK)(F:vS)(w:jJ)(hid:F.id<18446744073709551616)(C:(F.body.size:Int)<=c.qj)(hb:F.body.size<=65536):jV jI 108 #[nC #[ng nH c.fmt,ng nJ c.mag,ng nH c.pO,ng nH c.qj,ng nH c.dep,ng nH c.oZ],nC #[ng nI F.id,ny F.name,ny F.body]] w (pR (qw F.id (xL F.body)).1 (qw F.id (xL F.body)).2 w):=by
 obtain⟨g,hg⟩:=nT w.heap.size;have HI:=jH (λW=>Lv c F w W g hg);have CP:=jH (λ(W:jJ)=>Oj F.id F.body W hid hb);obtain⟨R,A⟩:=nT (qw F.id (xL F.body));rw[A]at CP⊢;obtain⟨T,er⟩:=R;clear A;have E:decide (c.qj<(F.body.size:Int))=false:=nQ;have I:decide ((F.body.size:Int)>c.qj)=false:=nQ;clear hid C hb;go_in;go_upto_region 1 with fail;generalize hW:(w.alloc _).alloc _=w1;obtain⟨hC,hF,hb1⟩:=HI.out _ hW;have c3:=hC.c3;have J:=hF.c0;exact QK
theorem Vg(c:oK)(F:vS)(w:jJ)(J:c.qj<(F.body.size:Int))(hb:F.body.size<=1000000000):jV jI 108 #[nC #[ng nH c.fmt,ng nJ c.mag,ng nH c.pO,ng nH c.qj,ng nH c.dep,ng nH c.oZ],nC #[ng nI F.id,ny F.name,ny F.body]] w (pR (((⟨#[]⟩,5):ByteArray×Int)).1 (((⟨#[]⟩,5):ByteArray×Int)).2 w):=by
 obtain⟨g,hg⟩:=nT w.heap.size;have C:=jH (λW=>Lv c F w W g hg);have N:decide (c.qj<(F.body.size:Int))=true:=nQ;have O:decide ((F.body.size:Int)>c.qj)=true:=nQ;clear J;go_in;go_upto_region 1 with fail;generalize E:(w.alloc _).alloc _=w1;obtain⟨I,hF,A⟩:=C.out _ E;have c3:=I.c3;have f2:=hF.c2;have HB1:=jH A;clear E I hF A C;exact FI
def vX(c:oK)(F:vS):ByteArray×Int:=
 if c.fmt=1 then uf c.mag.toNat F.name F.body else if c.fmt=2 then qw F.id F.body else if c.qj<(F.body.size:Int)then(⟨#[]⟩,5)else qw F.id (xL F.body)
def Vh(c:oK)(F:vS):Bool:=if c.fmt=1 then decide (F.id=0)else decide (F.name.size=0)
def Dr(c:oK)(F:vS):ByteArray×Int:=Dp (Vh c F) (vX c F).1 (vX c F).2 (UD (qN c (vX c F).1 none).1).e
theorem Dt(id:Nat)(b:ByteArray)(hid:id<18446744073709551616):(qw id b).1.size<=66000:=by
 unfold qw;split
 .rename_i h
  have A:=sN 10 ((nZ id).length+b.size) (mF h nN);show(xP id b).size<=66000;rw[DD];omega
 .exact kI _
theorem Om(m:Nat)(nm b:ByteArray):(uf m nm b).1.size<=66000:=by
 unfold uf;split
 .rename_i A
  have:=uQ nm (yE A).2;split
  .show(⟨(Bn m nm b).toArray⟩:ByteArray).size<=66000
   have hb:b.data.toList.length=b.size:=nR;rw[size_mk];simp only[Bn,jY,pF,A7,hb];omega
  .exact kI _
 .exact kI _
theorem Vi(c:oK)(F:vS)(hid:F.id<18446744073709551616):(vX c F).1.size<=66000:=by
 unfold vX;split;.exact Om _ _ _
 split;.exact Dt _ _ hid
 split;.exact kI _
 .exact Dt _ _ hid
theorem Zl(c:oK)(F:vS)(hc:oM c=true)(C:c.wf)(hid:F.id<18446744073709551616)(hn:F.name.size<=j5)(hb:F.body.size<=1000000000):∃f1 f2 f3 f4:FuncId,
  (∀W,mi jI (kR 142 (nC zi) (ng nH c.fmt)) W=.ok (nC #[.func (.func f1) #[] #[],.func (.func f2) #[] #[],.func (.func f3) #[] #[],.func (.func f4) #[] #[]]) W)/\
  (∀a W,mi jI (callFunc f1 #[a]) W=.ok (.enter f1 #[a]) W)/\(∀a b W,mi jI (callFunc f2 #[a,b]) W=.ok (.enter f2 #[a,b]) W)/\(∀a b d W,mi jI (callFunc f3 #[a,b,d]) W=.ok (.enter f3 #[a,b,d]) W)/\
  (∀W,jV jI f1 #[nC #[ng nI F.id,ny F.name,ny F.body]] W λe w'=>e=nE (nA (Vh c F))/\jS W.heap.size W w')/\
  (∀W,jV jI f2 #[nC #[ng nH c.fmt,ng nJ c.mag,ng nH c.pO,ng nH c.qj,ng nH c.dep,ng nH c.oZ],nC #[ng nI F.id,ny F.name,ny F.body]] W (pR (vX c F).1 (vX c F).2 W))/\
  ∀W,jV jI f3 #[nC #[ng nH c.fmt,ng nJ c.mag,ng nH c.pO,ng nH c.qj,ng nH c.dep,ng nH c.oZ],nz none,ny (vX c F).1] W λe w'=>e=nE (UD (qN c (vX c F).1 none).1).v/\jS W.heap.size W w':=by
 have U:=qH hc;have V:=Vi c F hid;have I:0<=c.mag/\c.mag<4294967296:=by
  have:=C.2.1;simp[Lit.wf,IntKind.min,IntKind.max,IntKind.signed,IntKind.bits]at this;omega
 have N:(vX c F).1.size<=j5:=zg;have key:∀k:Nat,c.fmt=k->∀f,WG k=.func (.func f) #[] #[]->∀W,jV jI f #[nC #[ng nH c.fmt,ng nJ c.mag,ng nH c.pO,ng nH c.qj,ng nH c.dep,ng nH c.oZ],nz none,ny (vX c F).1] W λe w'=>e=nE (UD (qN c (vX c F).1 none).1).v/\jS W.heap.size W w':=by
  intro k hk f O W;obtain⟨Y,E,hcall⟩:=MV c k hk (vX c F).1 none W N hc C trivial;rw[O]at E;cases E;exact hcall.mono λe Z h=>by
   obtain⟨A,_,Q⟩:=Jw.1 h;exact⟨Q,A.os,A.tape,A.output,A.size,λk hk=>A.block k hk (by simp[oI])⟩
 have hk:c.fmt=1\/c.fmt=2\/c.fmt=3:=nK;rcases hk with hk|hk|hk
 .have hix:=Rz
  rw[<-hk]at hix;refine⟨_,_,_,_,hix,λ_ _=>rfl,λ_ _ _=>rfl,λ_ _ _ _=>rfl,?_,?_,key 1 hk _ rfl⟩;.rw[Vh,if_pos hk];exact Zh F
  .rw[vX,if_pos hk];exact λW=>Zi c F W I hn hb
 .have hix:=RA
  rw[<-hk]at hix;refine⟨_,_,_,_,hix,λ_ _=>rfl,λ_ _ _=>rfl,λ_ _ _ _=>rfl,?_,?_,key 2 hk _ rfl⟩;.rw[Vh,if_neg nK];exact Ol F
  .rw[vX,if_neg nK,if_pos hk];exact λW=>Zj c F W hid hb
 .have hix:=RB
  rw[<-hk]at hix;refine⟨_,_,_,_,hix,λ_ _=>rfl,λ_ _ _=>rfl,λ_ _ _ _=>rfl,?_,?_,key 3 hk _ rfl⟩;.rw[Vh,if_neg nK];exact Ol F
  .rw[vX,if_neg nK,if_neg nK]
   by_cases J:c.qj<(F.body.size:Int);.rw[if_pos J];exact λW=>Vg c F W J hb
   .rw[if_neg J];exact λW=>Zk c F W hid nK nK
theorem Zm(c:oK)(F:vS)(w:jJ)(hc:oM c=true)(C:c.wf)(hid:F.id<18446744073709551616)(hn:F.name.size<=j5)(hb:F.body.size<=1000000000):
  jV jI 37 #[nC #[ng nH c.fmt,ng nJ c.mag,ng nH c.pO,ng nH c.qj,ng nH c.dep,ng nH c.oZ],nC #[ng nI F.id,ny F.name,ny F.body]] w (pR (Dr c F).1 (Dr c F).2 w):=by
 obtain⟨f1,f2,f3,f4,hix,E,I,J,A,hput,hnext⟩:=Zl c F hc C hid hn hb;exact Vb c F f1 f2 f3 f4 _ _ _ _ w hc hix E I J A (λ_ W _=>hput W) (λ_=>hnext)
end
section
def Du(t:nL TL)(a:IL)(n:Nat):List UInt8:=
 if t.lab.kind=1 then vJ t.lab.size.toNat (pG a.text).1 else if t.lab.kind=2 then a.text else if t.lab.kind=3 then wC a.text.length++a.text else if t.lab.kind=4 then wC n else []
mutual
def Dv:nL IL->nL TL->List UInt8
 | .node a s,t=>Du t a s.length++x8 s t 0
def x8:List (nL IL)->nL TL->Nat->List UInt8
 |[],_,_=>[]
 |x::xs,t,i=>(match rP t i with|some y=>Dv x y|none=>[])++x8 xs t (i+1)
end
theorem JO{s:List (nL IL)}{t:nL TL}{k:Nat}{x:nL IL}{y:nL TL}(h:s[k]? =some x)(A:rP t k=some y):x8 (s.drop k) t k=Dv x y++x8 (s.drop (k+1)) t (k+1):=by
 obtain⟨hk,hk2⟩:=ll.1 h;rw[List.drop_eq_getElem_cons hk,hk2,x8,A]
theorem yG{C A tl:Int}{ts:List (nL TL)}{a:IL}{n:Nat}(h:rC (.node ⟨C,A,tl⟩ ts) a n=true)(hk:C=1\/C=2\/C=3):(a.text.length:Int)<=A/\a.list=false:=by
 rcases hk with rfl|rfl|rfl
 .have e:rC (.node ⟨1,A,tl⟩ ts) a n=zT ⟨1,A,tl⟩ a:=by simp[rC]
  rw[e]at h;simp only[zT,j3,decide_eq_true_eq,Bool.not_eq_true']at h;exact⟨h.2,h.1.1⟩
 .have e:rC (.node ⟨2,A,tl⟩ ts) a n=A9 ⟨2,A,tl⟩ a:=by simp[rC]
  rw[e]at h;simp only[A9,j3,decide_eq_true_eq,Bool.not_eq_true']at h;exact⟨nK,h.1⟩
 .have e:rC (.node ⟨3,A,tl⟩ ts) a n=Ba ⟨3,A,tl⟩ a:=by simp[rC]
  rw[e]at h;simp only[Ba,j3,decide_eq_true_eq,Bool.not_eq_true']at h;exact⟨h.2,h.1⟩
theorem Oo{C A tl:Int}{ts:List (nL TL)}{a:IL}{n:Nat}(h:rC (.node ⟨C,A,tl⟩ ts) a n=true)(hk:C=4\/C=5):if C=4 then(n:Int)<=A else n<=ts.length:=by
 rcases hk with rfl|rfl
 .have e:rC (.node ⟨4,A,tl⟩ ts) a n=CE ⟨4,A,tl⟩ a n:=by simp[rC]
  rw[e]at h;simp only[CE,j3,decide_eq_true_eq]at h;exact h.2
 .have e:rC (.node ⟨5,A,tl⟩ ts) a n=zU ⟨5,A,tl⟩ ts.length a n:=by simp[rC]
  rw[e]at h;simp only[zU,j3,decide_eq_true_eq]at h;exact h.1.2
theorem Vj(l:List UInt8)(k:Nat)(h:l.length<=k)(hk:k<=8):(pG l).1<256^k/\(pG l).1<18446744073709551616:=by
 have A:(pG l).1<256^l.length:=by
  unfold pG;split;.simp
  .split
   .exact Nat.pow_pos nN
   .split
    .exact Nat.pow_pos nN
    .exact J8 _
 have C:=lq (show 0<256 by decide) h;have E:=lq (show 0<256 by decide) hk;exact⟨nK,nK⟩
theorem El{t:nL TL}{k:Nat}{y:nL TL}(h:t.all oG=true)(A:t.sub[k]? =some y):y.all oG=true:=by
 cases C:y.all oG with
 |true=>rfl
 |false=>
  obtain⟨a,s⟩:=t;simp only[nL.all,j3]at h;simp only[nL.qx]at A;rw[nL.sG A C]at h;cases h.2
theorem Dw{t:nL TL}{x:nL IL}:∀{s:List (nL IL)}{i k:Nat},sV s t i=true->s[k]? =some x->∃y,rP t (i+k)=some y/\uw x y=true
 |[],_,k,_,h=>by simp at h
 |z::s,i,0,A,h=>by
  simp only[jN,mI]at h;subst h;simp only[sV,j3]at A;cases C:rP t i with
  |none=>rw[C]at A;exact absurd A.1 nR
  |some y=>rw[C]at A;exact⟨y,rfl,A.1⟩
 |z::s,i,k+1,A,h=>by
  simp only[sV,j3]at A;obtain⟨y,E,I⟩:=Dw (s:=s) (i:=i+1) A.2 (by simpa using h);exact⟨y,by rw[<-E];congr 1;omega,I⟩
end
section
open Go.RowKit Go.Shelf
theorem bInfo:(Tryz.prog.info? 204).map (·.size)=some 2:=nM
theorem a6w:liesAt jI Tryz.prog.depth 204 (2/Tryz.prog.cellsOf 204) 0 204 1=true:=nM
theorem Zn:(Tryz.prog.info? 5).map (λi=>(i.zero,i.size,i.bytes))=some (some (ng .u8 0),1,1):=nM
theorem Ad(b:Nat)(w:jJ)(h0:w.cell? ⟨b,0,none⟩=some (nz (some ⟨b,0,none⟩))):
  jV jI 244 #[nz (some ⟨b,0,none⟩)] w λe w'=>e=nE (nD #[])/\w'=w:=by
 obtain⟨j,A,_⟩:=Option.map_eq_some_iff.1 bInfo;go_in;go_wp2;rw[Lib.run_neq_ptr_same w _ Tryz.underlying202 A];go_wp2;go_end0;exact⟨rfl,rfl⟩
theorem zf(b:Nat)(w:jJ)(h0:w.cell? ⟨b,0,none⟩=some (nz none))(A:w.shape? b=some (204,2))(I:w.frozen? ⟨b,0,none⟩=false):
  jV jI 244 #[nz (some ⟨b,0,none⟩)] w λe w'=>e=nE (nD #[])/\w'=w.setCell ⟨b,0,none⟩ (nz (some ⟨b,0,none⟩)):=by
 obtain⟨j,C,E⟩:=Option.map_eq_some_iff.1 bInfo;go_in;go_wp2;rw[Lib.run_to_unsafe w ⟨b,0,none⟩ Tryz.underlying202 Tryz.underlying298 C (by rw[E];decide) A (Nat.zero_lt_succ 1)];simp only[Result.andThen];rw[Oper.upon_value];go_wp2;rw[run_callFunc_extern Tryz.func269 nM nM nM (e:=Extern.AbiNoEscape.same) nM];rw[Lib.run_noEscape];simp only[Result.andThen];rw[Oper.upon_value];go_wp2;rw[Lib.run_from_unsafe w ⟨b,0,none⟩ Tryz.underlying298 Tryz.underlying202 C A a6w];simp only[Result.andThen];rw[Oper.upon_value];go_wp2;go_end0;exact⟨rfl,rfl⟩
theorem copyCheck(B b:Nat)(bs:List jP)(w:jJ)(h:Lib.IsBuilder 204 5 B b bs w):
  jV jI 244 #[nz (some ⟨b,0,none⟩)] w λe w'=>e=nE (nD #[])/\(Lib.BuilderAt 204 5 B b (nz (some ⟨b,0,none⟩)) bs w'/\jS B w w'):=by
 rcases h with h|h
 .refine(zf b w h.cell0 h.shape h.frozen0).mono ?_
  rintro e w' ⟨rfl,rfl⟩;exact⟨rfl,h.used _,(jT B w).setCell (p:=⟨b,0,none⟩) h.1 _⟩
 .refine(Ad b w h.cell0).mono ?_
  rintro e w' ⟨rfl,rfl⟩;exact⟨rfl,h,jT B _⟩
theorem a1W(B b:Nat)(l:List UInt8)(w:jJ)(h:Lib.IsBuilder 204 5 B b (Lib.byteCells l) w)(A:B<=w.heap.size):
  jV jI 169 #[nz (some ⟨b,0,none⟩)] w λe w'=>e=nE (ny ⟨l.toArray⟩)/\jS B w w':=Tryz.Builder_String_any B b l w h A
theorem I4(l m:List UInt8):Lib.byteCells (l++m)=Lib.byteCells l++Lib.byteCells m:=by simp[Lib.byteCells]
def KT(w w':jJ):Prop:=∀(k:Nat)(cs:Array jP)(T:ko)(fr:Nat×Nat),(T !=5&&T !=204)=true->w.heap[k]? =some (nG cs T fr)->w'.heap[k]? =some (nG cs T fr)
theorem KT.refl(w:jJ):KT w w:=λ_ _ _ _ _ h=>h
theorem KT.trans{u v w:jJ}(h:KT u v)(k:KT v w):KT u w:=λa b c d n e=>k a b c d n (h a b c d n e)
theorem KT.of{w w':jJ}(h:jS w.heap.size w w'):KT w w':=λk cs T fr _ hk=>by rw[h.block k (ku.1 hk).1];exact hk
theorem KT.set{w:jJ}{b i:Nat}(h:∃cs fr,w.heap[b]? =some (nG cs 204 fr))(v:jP):KT w (w.setCell ⟨b,i,none⟩ v):=λk cs T fr A hk=>by
 rw[j6 _ _ _ _ (λe=>by
  simp at e;subst e;obtain⟨c,f,h⟩:=h;rw[h]at hk;cases hk;exact absurd A nN)]
 exact hk
theorem a4x{w:jJ}{B:Nat}{v:jP}{n:Nat}{xs:List jP}(h:w.ownsRow B 5 1 v n xs){k:Nat}{cs:Array jP}{T:ko}{fr:Nat×Nat}(C:(T !=5&&T !=204)=true)(A:v.ownBlock=some k)(hk:w.heap[k]? =some (nG cs T fr)):False:=by
 rcases h.2 with⟨rfl,_⟩|⟨g,cap,E,rfl,_,hg,_⟩
 .cases A
 .cases A
  rw[hg]at hk;cases hk;exact absurd C nN
theorem QL(B b:Nat)(bs:List jP)(w:jJ)(h:Lib.IsBuilder 204 5 B b bs w):
  jV jI 244 #[nz (some ⟨b,0,none⟩)] w λe w'=>e=nE (nD #[])/\(Lib.BuilderAt 204 5 B b (nz (some ⟨b,0,none⟩)) bs w'/\jS B w w'/\KT w w'):=by
 rcases h with h|h
 .refine(zf b w h.cell0 h.shape h.frozen0).mono ?_
  rintro e w' ⟨rfl,rfl⟩;obtain⟨v,A,_⟩:=h.2;exact⟨rfl,h.used _,(jT B w).setCell (p:=⟨b,0,none⟩) h.1 _,KT.set ⟨_,_,A⟩ _⟩
 .refine(Ad b w h.cell0).mono ?_
  rintro e w' ⟨rfl,rfl⟩;exact⟨rfl,h,jT B _,KT.refl _⟩
theorem Lx(B b:Nat)(bs:List jP)(s:ByteArray)(w:jJ)(h:Lib.IsBuilder 204 5 B b bs w)(hlen:bs.length+s.size<=140737488355328)(ak:B<=w.heap.size):
  jV jI 207 #[nz (some ⟨b,0,none⟩),ny s] w λe w'=>e=nE (nD #[ng nH s.size,.nilIface])/\(Lib.BuilderAt 204 5 B b (nz (some ⟨b,0,none⟩)) (bs++Lib.strCells s) w'/\jS B w w'/\KT w w'):=by
 obtain⟨ag,hi,U,V,Y⟩:=info_parts Zn;have ah:=jH (QL B b bs w h);go_in;go_wp2_with fail;refine ah.mono ?_;rintro e w1 ⟨rfl,ai,N,Z⟩;obtain⟨hB,v,I,E,aa⟩:=ai;have c0:w1.cell? ⟨b,0,none⟩=some (nz (some ⟨b,0,none⟩)):=by rw[Lib.cell_of_heap I];rfl
 have c1:w1.cell? ⟨b,1,none⟩=some v:=by rw[Lib.cell_of_heap I];rfl
 go_wp2_with (at_builtin;refine Lib.wpList_append_own_string _ rfl _ _ 86 9 rfl B 5 ag l8 mR hi U V Y _ _ _ rfl E s rfl ?c3 ?c4 ?c5 ?_);case c3=>unfold j5;omega
 case c4=>omega
 case c5=>have:=N.size;omega
 intro v' w2 J A _;have hlt:b<w1.heap.size:=by
  rcases lh b w1.heap.size with O|O
  .exact O
  .simp[Array.getElem?_eq_none O]at I
 have C:w2.heap[b]? =some (nG #[nz (some ⟨b,0,none⟩),v] 204 (0,0)):=by
  rw[A.block b hlt (λe=>aa e.symm)];exact I
 have av:w2.cell? ⟨b,0,none⟩=some (nz (some ⟨b,0,none⟩)):=by rw[Lib.cell_of_heap C];rfl
 have ax:w2.cell? ⟨b,1,none⟩=some v:=by rw[Lib.cell_of_heap C];rfl
 have f1:w2.frozen? ⟨b,1,none⟩=false:=Lib.frozen_of_heap C 1;obtain⟨ae,af,cap,rfl⟩:∃ae af cap,v'=nk ae af cap:=by
  rcases J.2 with⟨Q,_⟩|⟨g,cap,au,Q,_⟩
  .exact⟨_,_,_,Q⟩
  .exact⟨_,_,_,Q⟩
 go_wp2;go_ret2;refine⟨rfl,?_,?_,?_⟩;.exact Lib.BuilderAt.put (T:=204) (e:=5) hB C (bs':=bs++Lib.strCells s) (by simpa [Lib.strCells_length]using J) nN
 .exact(N.grown A (by have:=N.size;omega) (λk hk=>(E.lt k hk).1)).setCell (p:=⟨b,1,none⟩) hB _
 .refine Z.trans (KT.trans ?_ (KT.set ⟨_,_,C⟩ _))
  exact λk cs T fr aj hk=>by
   rw[A.block k (ku.1 hk).1 (λe=>a4x E aj e.symm hk)];exact hk
def BF(B b:Nat)(l:List UInt8)(w:jJ):Prop:=Lib.IsBuilder 204 5 B b (Lib.byteCells l) w
theorem Zo(B b:Nat)(l m:List UInt8)(w:jJ)(h:BF B b l w)(hlen:l.length+m.length<=100000000)(hB:B<=w.heap.size):
  jV jI 207 #[nz (some ⟨b,0,none⟩),ny ⟨m.toArray⟩] w λe w'=>(∃v,e=nE v)/\BF B b (l++m) w'/\jS B w w'/\KT w w':=by
 have hl:(Lib.byteCells l).length=l.length:=by simp[Lib.byteCells]
 refine(Lx B b (Lib.byteCells l) ⟨m.toArray⟩ w h (by rw[hl];have:(⟨m.toArray⟩:ByteArray).size=m.length:=mP;omega) hB).mono λe w' ⟨A,C,E,I⟩=>⟨⟨_,A⟩,?_,E,I⟩
 unfold BF;rw[I4];exact .inr C
theorem BA.below{T e:ko}{B b:Nat}{p:jP}{bs:List jP}{w w':jJ}(h:Lib.BuilderAt T e B b p bs w)(hb:jS w.heap.size w w'):Lib.BuilderAt T e B b p bs w':=by
 obtain⟨I,v,A,J,N⟩:=h;refine⟨I,v,by rw[hb.block b (ku.1 A).1];exact A,?_,N⟩;obtain⟨O,g2⟩:=J;refine⟨O,?_⟩;rcases g2 with g2|⟨g,cap,C,Q,hg,E,r⟩
 .exact .inl g2
 .refine .inr ⟨g,cap,C,Q,hg,?_,r⟩
  rw[hb.block g (ku.1 E).1];exact E
theorem BF.below{B b:Nat}{l:List UInt8}{w w':jJ}(h:BF B b l w)(hb:jS w.heap.size w w'):BF B b l w':=by
 rcases h with h|h
 .exact .inl (BA.below h hb)
 .exact .inr (BA.below h hb)
theorem Vk(x:IL)(iv:jP)(w:jJ)(E:x.text.length<=j5)(hl:x.list=false):
  jV jI 206 #[nC #[ny (txt x),nA x.list,iv]] w λe w'=>e=nE (nD #[ng nI (pG x.text).1,ng nH ((pG x.text).2:Nat)])/\jS w.heap.size w w':=by
 have hb:=nO.new w #[ny (txt x),nA x.list,iv] IT;have A:=(jT w.heap.size w).alloc (jL _) (nG #[ny (txt x),nA x.list,iv] IT);obtain⟨g,hg⟩:=nT w.heap.size;rw[hg]at hb A⊢;have C:=λW=>yO (txt x) W (by rw[sH];exact E)
 rw[Cv]at C;unfold n2 at C;have C:=jH C;have I:=jH A;obtain⟨tx,li⟩:=x;dsimp only at*;subst hl;generalize txt ⟨tx,false⟩=J at*;generalize (pG tx).1=N at*;generalize (pG tx).2=ge at*;obtain⟨c0,c1⟩:=hb.a2;clear hb A E;go_in;go_upto_region 1 with fail;generalize w.alloc _=w1 at*;go_wp2_with fail;refine(C _).mono ?_;rintro e w2 ⟨rfl,rfl⟩;go_wp2_with fail;go_returns;exact⟨rfl,I.out⟩
abbrev LA(B:Nat)(w:jJ)(v:jP)(s:List (nL TL)):Prop:=oh.nX w (λk=>k<B) v s
abbrev LB(B:Nat)(w:jJ)(v:jP)(s:List (nL IL)):Prop:=sZ.nX w (λk=>k<B) v s
theorem Oq.below{α:Type}{S:Shape α}{B:Nat}{w w':jJ}{v:jP}{s:List (nL α)}(h:S.nX w (λk=>k<B) v s)(hb:jS B w w'):S.nX w' (λk=>k<B) v s:=h.keep hb.size (λ_ _ h=>h) λk _ hk=>hb.block k hk
theorem LA.at_{B:Nat}{w:jJ}{n cap:Nat}{s:List (nL TL)}(h:LA B w (nk oa n cap) s){i:Nat}{x:nL TL}(A:s[i]? =some x):
  ∃b off ou cu,oa=some ⟨b,off,none⟩/\b<B/\w.cell? ⟨b,off+i*4,none⟩=some (ng nH x.lab.kind)/\w.cell? ⟨b,off+i*4+1,none⟩=some (ng nH x.lab.size)/\
   w.cell? ⟨b,off+i*4+2,none⟩=some (nk ou x.sub.length cu)/\w.cell? ⟨b,off+i*4+3,none⟩=some (ng nH x.lab.tail)/\LA B w (nk ou x.sub.length cu) x.sub:=by
 obtain⟨N,C,E,O,Q,I⟩:=Shape.nX.get h;cases E;obtain⟨b,off,u,e,hb,J,ho,hc,hs⟩:=I i x A;obtain⟨ou,cu,rfl,_⟩:=Shape.nX.get hs;exact⟨b,off,ou,cu,e,J,by simpa [oh,kP]using hc 0 nN,by simpa [oh,kP]using hc 1 nN,by simpa [oh,kP]using hc 2 nN,by simpa [oh,kP]using hc 3 nN,hs⟩
theorem LB.at_{B:Nat}{w:jJ}{n cap:Nat}{s:List (nL IL)}(h:LB B w (nk oa n cap) s){i:Nat}{x:nL IL}(A:s[i]? =some x):
  ∃b off ou cu,oa=some ⟨b,off,none⟩/\b<B/\w.cell? ⟨b,off+i*3,none⟩=some (ny (txt x.lab))/\w.cell? ⟨b,off+i*3+1,none⟩=some (nA x.lab.list)/\
   w.cell? ⟨b,off+i*3+2,none⟩=some (nk ou x.sub.length cu)/\LB B w (nk ou x.sub.length cu) x.sub/\x.lab.text.length<=j5:=by
 obtain⟨N,C,E,O,Q,I⟩:=Shape.nX.get h;cases E;obtain⟨b,off,u,e,hb,J,ho,hc,hs⟩:=I i x A;obtain⟨ou,cu,rfl,_⟩:=Shape.nX.get hs;exact⟨b,off,ou,cu,e,J,by simpa [sZ,txt,kP]using hc 0 nN,by simpa [sZ,kP]using hc 1 nN,by simpa [sZ,kP]using hc 2 nN,hs,ho⟩
def LC(B b:Nat)(l:List UInt8)(w:jJ)(e:Ending)(w':jJ):Prop:=e=nE (nD #[])/\BF B b l w'/\jS B w w'/\KT w w'
structure JP(B b g:Nat)(t:nL TL)(x:IL)(tv iv:jP)(ts:List (nL TL))(xs:List (nL IL))(l:List UInt8)(w W:jJ):Prop where
 be:jS B w W
 kt:KT w W
 bf:BF B b l W
 tt:LA B W tv ts
 ii:LB B W iv xs
 tb:xm W
 tc:W.heap[g]? =some (nG #[ng nH t.lab.kind,ng nH t.lab.size,tv,ng nH t.lab.tail] EW (0,0))
 ic:W.heap[g+1]? =some (nG #[ny (txt x),nA x.list,iv] IT (0,0))
 lt:B<=g/\g+2<=W.heap.size
section
variable {B b g:Nat}{t:nL TL}{x:IL}{tv iv:jP}{ts:List (nL TL)}{xs:List (nL IL)}{l m:List UInt8}{w W W':jJ}
theorem JP.new(hB:0<B)(ht:LA B w tv ts)(hi:LB B w iv xs)(hb:BF B b l w)(C:xm w)(A:B<=w.heap.size)(h:(w.alloc (nG #[ng nH t.lab.kind,ng nH t.lab.size,tv,ng nH t.lab.tail] EW)).alloc (nG #[ny (txt x),nA x.list,iv] IT)=W):
  JP B b w.heap.size t x tv iv ts xs l w W:=by
 subst h;have E:=(jT w.heap.size w).alloc (jL _) (nG #[ng nH t.lab.kind,ng nH t.lab.size,tv,ng nH t.lab.tail] EW);have a2:=E.alloc nR (nG #[ny (txt x),nA x.list,iv] IT);have k:=nO.new (w.alloc (nG #[ng nH t.lab.kind,ng nH t.lab.size,tv,ng nH t.lab.tail] EW)) #[ny (txt x),nA x.list,iv] IT;rw[show(w.alloc (nG #[ng nH t.lab.kind,ng nH t.lab.size,tv,ng nH t.lab.tail] EW)).heap.size=w.heap.size+1 by simp]at k;exact⟨a2.mono A,KT.of a2,hb.below a2,Oq.below ht (a2.mono A),Oq.below hi (a2.mono A),C.below (a2.mono A) hB,(nO.new w _ _).alloc _,k,A,nR⟩
theorem JP.below(hB:0<B)(h:JP B b g t x tv iv ts xs l w W)(hb:jS W.heap.size W W'):JP B b g t x tv iv ts xs l w W':=by
 have A:=h.lt;have q:=hb.mono (show B<=W.heap.size by omega);exact⟨h.be.trans q,h.kt.trans (KT.of hb),h.bf.below hb,Oq.below h.tt q,Oq.below h.ii q,h.tb.below q hB,by rw[hb.block g nK];exact h.tc,by rw[hb.block (g+1) nK];exact h.ic,A.1,kg A.2 hb.size⟩
theorem JP.wrote(hB:0<B)(h:JP B b g t x tv iv ts xs l w W)(hb:jS B W W')(hk:KT W W')(A:BF B b m W'):JP B b g t x tv iv ts xs m w W':=
 ⟨h.be.trans hb,h.kt.trans hk,A,Oq.below h.tt hb,Oq.below h.ii hb,h.tb.below hb hB,hk _ _ _ _ nN h.tc,hk _ _ _ _ nN h.ic,h.lt.1,kg h.lt.2 hb.size⟩
theorem JP.cells(h:JP B b g t x tv iv ts xs l w W):W.cell? ⟨g,0,none⟩=some (ng nH t.lab.kind)/\W.cell? ⟨g,1,none⟩=some (ng nH t.lab.size)/\W.cell? ⟨g,2,none⟩=some tv/\
  W.cell? ⟨g+1,0,none⟩=some (ny (txt x))/\W.cell? ⟨g+1,1,none⟩=some (nA x.list)/\W.cell? ⟨g+1,2,none⟩=some iv/\W.cell? ⟨g,3,none⟩=some (ng nH t.lab.tail):=by
 have A:nO W g _ _:=h.tc;have C:nO W (g+1) _ _:=h.ic;exact⟨A.cell 0,A.cell 1,A.cell 2,C.cell 0,C.cell 1,C.cell 2,A.cell 3⟩
theorem JP.put(hB:0<B)(h:JP B b g t x tv iv ts xs l w W)(m:List UInt8)(hlen:l.length+m.length<=100000000):
  jV jI 207 #[nz (some ⟨b,0,none⟩),ny ⟨m.toArray⟩] W λe W'=>(∃v,e=nE v)/\JP B b g t x tv iv ts xs (l++m) w W':=
 (Zo B b l m W h.bf hlen (by have:=h.lt;omega)).mono λe W' ⟨A,C,E,I⟩=>⟨A,h.wrote hB E I C⟩
end
theorem Zp(h:p:=by
 simp only[ky,kQ,mX,List.drop_zero];repeat(go_big_quiet_step (fail))
 refine mJ ?_;intro kq;have hbd:jS wa.heap.size wa (wa.drewN kq):=⟨rfl,rfl,rfl,jL _,λ_ _=>rfl⟩;have HWB:=jH (OW.1.below hB hbd);have CZ:=jH (CY _ HWB (OW.2.2.trans (hbd.mono OW.2.2.size)));clear hbd;go_wp2_with fail;refine(CZ).mono ?_;rintro e wz ⟨rfl,a6x,hbz,hkz⟩;have HZ:=jH (HWB.wrote hB hbz hkz a6x);clear a6x hbz hkz;go_wp2_with fail;go_roundw;case rel=>exact⟨k+1,by go_num,nK,jH ⟨_,HZ.out,by rw[lD];exact HL2.out⟩⟩
 case measure=>simp[kW];omega):p:=h
theorem Zq(h:p:=by
 have q:=hb.mono (show B<=wr.heap.size by have:=HY.lt;omega);have h:=HIH.out x (kT hx) y W tou iou tcu icu l2 (Oq.below hty q) (Oq.below hix q) hW.bf hW.tb (El HR hy2) hfy hxl (by have h1:=congrArg List.length hl2;have h2:=congrArg List.length QM.out;have h3:=HL.out;simp only[jY]at h1 h2 h3;omega) (by have:=hW.lt;omega);rw[hyn,hxn,a1Z]at h;exact h):p:=h
theorem Zr(h:p:=by
 obtain rfl:k=n:=nK;obtain⟨l2,HY,hl2⟩:=HD.out;rw[List.drop_of_length_le (mV HN.out)]at hl2;simp only[x8,List.append_nil]at hl2;have HQ:=jH (jU HY hl2);clear HY hl2 HD;go_wp2_with fail;go_end0;rw[<-HP.out];exact⟨rfl,by rw[<-HQ.2];exact HQ.1.bf,HQ.1.be,HQ.1.kt⟩):p:=h
theorem QN(h:p:=by
 obtain⟨y,hy,_⟩:=Dw (k:=0) HFS rfl;simp[rP,mf.1 (HNT.trans h3)]at hy):p:=h
theorem Zt(h:p:=by
 subst h;have hal:=(jT wr.heap.size wr).alloc (jL _) (nG #[ny TX2,nA x.lab.list,nk iou xn icu] IT);exact⟨HY.below hB hal,nO.new wr _ _,hal⟩):p:=h
theorem a11(B b:Nat)(hB:0<B)(x:nL IL):∀(t:nL TL)(w:jJ)(ot oi:Option l5)(ct ci:Nat)(l:List UInt8),LA B w (nk ot t.sub.length ct) t.sub->LB B w (nk oi x.sub.length ci) x.sub->BF B b l w->xm w->
  t.all oG=true->uw x t=true->x.lab.text.length<=j5->l.length+(Dv x t).length<=100000000->B<=w.heap.size->
  jV jI 168 #[nz (some ⟨b,0,none⟩),nC #[ng nH t.lab.kind,ng nH t.lab.size,nk ot t.sub.length ct,ng nH t.lab.tail],nC #[ny (txt x.lab),nA x.lab.list,nk oi x.sub.length ci]] w (LC B b (l++Dv x t) w):=by
 induction x using nL.ind with
 |h a s bI=>
  intro t w ot oi ct ci l ht hi hbf aJ bA bJ aN hlen aW;simp only[nL.qx,nL.oQ]at hi aN⊢;obtain⟨g,hg⟩:=nT w.heap.size;have U:=jH (λW=>JP.new (t:=t) (x:=a) (W:=W) hB ht hi hbf aJ aW);rw[hg]at U;have aX:=bA;have bK:uw (.node a s) t=(rC t a s.length&&sV s t 0):=rfl;rw[bK,j3]at bJ;obtain⟨hk,aY⟩:=bJ;have HFS:=jH aY;have HR:=jH bA;have aZ:Dv (.node a s) t=Du t a s.length++x8 s t 0:=rfl;rw[aZ]at hlen⊢;have HIH:=jH bI;obtain⟨⟨bL,aa,tl⟩,A⟩:=t;simp only[nL.all,j3,oG,qz,decide_eq_true_eq]at aX;obtain⟨bg,_⟩:=aX;have HL:=jH hlen;have aO:=jH hk;have cZ:B<=g:=nK;obtain⟨V,aF⟩:=nT (txt a);have hsz:V.size=a.text.length:=by rw[<-aF,sH]
  have C:=jH aF;have ai:=jH hsz;obtain⟨ay,aP⟩:∃m,l++(Du (.node ⟨bL,aa,tl⟩ A) a s.length++x8 s (.node ⟨bL,aa,tl⟩ A) 0)=m:=⟨_,rfl⟩;have QM:=jH aP;rw[aP,aF];obtain⟨n,hn⟩:=nT s.length;obtain⟨aj,aG⟩:=nT A.length;simp only[nL.qx,nL.oQ]at U⊢;rw[hn,aG]at U⊢;have HN:=jH hn;have HNT:=jH aG;obtain⟨bT,bB⟩:=nT (LC B b ay w);have HP:=jH bB;rw[bB];have bM:=jH aN;rw[aG]at bg;clear ht hi hbf aJ bA hk aY bK aZ hlen aW aN bI aP aF hn aG bB hsz;rcases bg with⟨rfl,h2,h3,rfl⟩|⟨rfl,h2,ak,h3,rfl⟩|⟨rfl,h2,ak,h3,rfl⟩|⟨rfl,h2,ak,h3,rfl⟩|⟨rfl,rfl,h3,df,dh⟩
  .have Y:=yG aO nN
   have az:V.size<=65536:=by have:=ai.out;omega
   have ah:=Y.2;obtain⟨sz,rfl⟩:∃sz:Nat,aa=sz:=⟨aa.toNat,nK⟩;have aA:1<=sz/\sz<=8:=nK;have aH:=Vj a.text sz nK aA.2;have hs:s=[]:=by
    cases s with
    |nil=>rfl
    |cons z s=>
     exact QN
   subst hs;have QM:jW (l++vJ sz (pG a.text).1=ay):=jH (by rw[<-QM.out];simp[Du,x8]);have hlen:l.length+(vJ sz (pG a.text).1).length<=100000000:=by have:=HL.out;simpa [Du,x8]using this
   have aV:=jH (λW=>Vk a (nk oi n ci) W bM ah);rw[C.out]at aV;obtain⟨bC,bq⟩:=nT ((pG a.text).1);obtain⟨ge,bu⟩:=nT ((pG a.text).2);rw[bq]at aH hlen QM aV;rw[bu]at aV;have bN:=jH (λW=>uX bC sz W aH.2 aA.1 aA.2 aH.1);obtain⟨bU,aQ⟩:∃m,(⟨(vJ sz bC).toArray⟩:ByteArray)=m:=⟨_,rfl⟩;rw[aQ]at bN;have bO:=jH aQ;clear h2 h3 Y bq bu aQ aH az ah;go_in;go_upto_region 1 with fail;generalize hW:(w.alloc _).alloc _=w1;rw[<-C.out]at hW;have J:=jH (U _ hW);clear hW U;obtain⟨c0,c1,c2,E,N,O,c3⟩:=J.cells;rw[C.out]at E;simp only[nL.oQ]at c0 c1 c3;go_wp2_with fail;refine(aV _).mono ?_;rintro e w2 ⟨rfl,Z⟩;have ae:=jH (J.below hB Z);clear Z c0 c1 c2 c3 E N O;obtain⟨c0,c1,c2,E,N,O,c3⟩:=ae.cells;rw[C.out]at E;simp only[nL.oQ]at c0 c1 c3;go_wp2_with fail;refine(bN _).mono ?_;rintro e w3 ⟨rfl,bz⟩;have aB:=jH (ae.below hB bz);clear bz c0 c1 c2 c3 E N O;have af:jW (jV jI 207 #[nz (some ⟨b,0,none⟩),ny bU] w3 _):=jH (by rw[<-bO.out];exact aB.put hB (vJ sz bC) hlen);go_wp2_with fail;refine(af).mono ?_;rintro e w4 ⟨⟨r,rfl⟩,hw4⟩;have aC:=jH hw4;clear hw4;go_wp2_with fail;go_end0;rw[<-HP.out];exact⟨rfl,by rw[<-QM.out];exact aC.bf,aC.be,aC.kt⟩
  .have Y:=yG aO nN
   have az:V.size<=65536:=by have:=ai.out;omega
   have ah:=Y.2;have hs:s=[]:=by
    cases s with
    |nil=>rfl
    |cons z s=>
     exact QN
   subst hs;have QM:jW (l++a.text=ay):=jH (by rw[<-QM.out];simp[Du,x8]);have hlen:l.length+(a.text).length<=100000000:=by have:=HL.out;simpa [Du,x8]using this
   clear h2 ak h3 Y ah;go_in;go_upto_region 1 with fail;generalize hW:(w.alloc _).alloc _=w1;rw[<-C.out]at hW;have J:=jH (U _ hW);clear hW U;obtain⟨c0,c1,c2,E,N,O,c3⟩:=J.cells;rw[C.out]at E;simp only[nL.oQ]at c0 c1 c3;have af:jW (jV jI 207 #[nz (some ⟨b,0,none⟩),ny V] w1 _):=jH (by rw[<-C.out];exact J.put hB a.text hlen);go_wp2_with fail;refine(af).mono ?_;rintro e w2 ⟨⟨r,rfl⟩,hw2⟩;have ae:=jH hw2;clear hw2;go_wp2_with fail;go_end0;rw[<-HP.out];exact⟨rfl,by rw[<-QM.out];exact ae.bf,ae.be,ae.kt⟩
  .have Y:=yG aO nN
   have az:V.size<=65536:=by have:=ai.out;omega
   have ah:=Y.2;have hs:s=[]:=by
    cases s with
    |nil=>rfl
    |cons z s=>
     exact QN
   subst hs;have QM:jW (l++(wC V.size++a.text)=ay):=jH (by rw[<-QM.out];rw[ai.out];simp[Du,x8]);have hlen:l.length+((wC V.size++a.text)).length<=100000000:=by have:=HL.out;rw[ai.out];simpa [Du,x8]using this
   clear h2 ak h3 Y ah;have aI:l.length+(wC V.size).length<=100000000/\(l++wC V.size).length+a.text.length<=100000000:=by simp only[jY]at hlen⊢;omega
   obtain⟨bD,ag⟩:∃m,(⟨(wC V.size).toArray⟩:ByteArray)=m:=⟨_,rfl⟩;have aR:=jH ag;have aD:=jH (λW aJ=>Ni V.size W nK aJ);rw[ag]at aD;clear ag hlen;go_in;go_upto_region 1 with fail;generalize hW:(w.alloc _).alloc _=w1;rw[<-C.out]at hW;have J:=jH (U _ hW);clear hW U;obtain⟨c0,c1,c2,E,N,O,c3⟩:=J.cells;rw[C.out]at E;simp only[nL.oQ]at c0 c1 c3;have au:=jH (aD w1 J.tb);go_wp2_with fail;refine(au).mono ?_;rintro e w2 ⟨rfl,Z⟩;have ae:=jH (J.below hB Z);clear Z c0 c1 c2 c3 E N O aD au;have af:jW (jV jI 207 #[nz (some ⟨b,0,none⟩),ny bD] w2 _):=jH (by rw[<-aR.out];exact ae.put hB (wC V.size) aI.1);go_wp2_with fail;refine(af).mono ?_;rintro e w3 ⟨⟨r,rfl⟩,hw3⟩;have aB:=jH hw3;clear hw3;clear af;obtain⟨c0,c1,c2,E,N,O,c3⟩:=aB.cells;rw[C.out]at E;simp only[nL.oQ]at c0 c1 c3;have af:jW (jV jI 207 #[nz (some ⟨b,0,none⟩),ny V] w3 _):=jH (by rw[<-C.out];exact aB.put hB a.text aI.2);go_wp2_with fail;refine(af).mono ?_;rintro e w4 ⟨⟨r,rfl⟩,hw4⟩;have aC:=jH hw4;clear hw4;go_wp2_with fail;go_end0;rw[<-HP.out];exact⟨rfl,by rw[<-QM.out,<-lD];exact aC.bf,aC.be,aC.kt⟩
  .have bP:n<=1024:=by have:(s.length:Int)<=aa:=Oo aO (.inl rfl);rw[HN.out]at this;omega
   have aI:l.length+(wC n).length<=100000000:=by have:=HL.out;rw[HN.out]at this;simp[Du]at this;omega
   have QM:jW (l++wC n++x8 s (.node ⟨4,aa,0⟩ A) 0=ay):=jH (by rw[<-QM.out,HN.out];simp[Du]);have HL:jW (l.length+(wC n++x8 s (.node ⟨4,aa,0⟩ A) 0).length<=100000000):=jH (by have:=HL.out;rw[HN.out]at this;simpa [Du]using this);obtain⟨bD,ag⟩:∃m,(⟨(wC n).toArray⟩:ByteArray)=m:=⟨_,rfl⟩;have aR:=jH ag;have aD:=jH (λW aJ=>Ni n W nK aJ);rw[ag]at aD;clear ag h2 ak h3;go_in;go_upto_region 1 with fail;generalize hW:(w.alloc _).alloc _=w1;rw[<-C.out]at hW;have J:=jH (U _ hW);clear hW U;obtain⟨c0,c1,c2,E,N,O,c3⟩:=J.cells;rw[C.out]at E;simp only[nL.oQ]at c0 c1 c3;have au:=jH (aD w1 J.tb);go_wp2_with fail;refine(au).mono ?_;rintro e w2 ⟨rfl,Z⟩;have ae:=jH (J.below hB Z);clear Z c0 c1 c2 c3 E N O aD au;have af:jW (jV jI 207 #[nz (some ⟨b,0,none⟩),ny bD] w2 _):=jH (by rw[<-aR.out];exact ae.put hB (wC n) aI);go_wp2_with fail;refine(af).mono ?_;rintro e w3 ⟨⟨r,rfl⟩,hw3⟩;have aB:=jH hw3;clear hw3;clear af;obtain⟨c0,c1,c2,E,N,O,c3⟩:=aB.cells;rw[C.out]at E;simp only[nL.oQ]at c0 c1 c3;go_wp2_with fail;clear c0 c1 c2 c3 E N O J ae;go_loopw [64] (λiv bE=>∃k:Nat,iv=ng nH k/\k<=n/\jW (∃l2,JP B b g (.node ⟨4,aa,0⟩ A) a (nk ot aj ct) (nk oi n ci) A s l2 w bE/\l2++x8 (s.drop k) (.node ⟨4,aa,0⟩ A) k=ay)) (λiv _=>n -(kW iv).toNat);case atStart=>exact⟨0,rfl,nK,jH ⟨_,aB.out,by rw[List.drop_zero];exact QM.out⟩⟩
   case round=>
    obtain⟨k,rfl,hk,HD⟩:=hrel;by_cases c:k<n
    .obtain⟨x,hx⟩:∃x,s[k]? =some x:=⟨_,jX (by rw[HN.out];exact c)⟩
     obtain⟨y,hy,hfy⟩:=Dw HFS hx;rw[Nat.zero_add]at hy;have hy2:A[0]? =some y:=hy;obtain⟨l2,HY,hl2⟩:=HD.out;rw[JO hx hy]at hl2;obtain⟨tb,I,tou,tcu,rfl,bQ,aK,aL,y2,aM,hty⟩:=LA.at_ HY.tt hy2;simp only[Nat.zero_mul,Nat.add_zero]at aK aL y2 aM;obtain⟨aS,av,iou,icu,rfl,bR,aT,bF,aU,hix,hxl⟩:=LB.at_ HY.ii hx;obtain⟨bG,hyn⟩:=nT y.sub.length;obtain⟨xn,hxn⟩:=nT x.sub.length;rw[hyn]at y2;rw[hxn]at aU;obtain⟨TX2,a1Z⟩:=nT (txt x.lab);rw[a1Z]at aT;have ax:jW (∀W,wr.alloc (nG #[ny TX2,nA x.lab.list,nk iou xn icu] IT)=W->JP B b g (.node ⟨4,aa,0⟩ A) a (nk (some ⟨tb,I,none⟩) aj ct) (nk (some ⟨aS,av,none⟩) n ci) A s l2 w W/\nO W wr.heap.size #[ny TX2,nA x.lab.list,nk iou xn icu] IT/\jS wr.heap.size wr W):=jH λW h=>by
      exact Zt
     have CY:jW (∀W,JP B b g (.node ⟨4,aa,0⟩ A) a (nk (some ⟨tb,I,none⟩) aj ct) (nk (some ⟨aS,av,none⟩) n ci) A s l2 w W->jS wr.heap.size wr W->jV jI 168 #[nz (some ⟨b,0,none⟩),nC #[ng nH y.lab.kind,ng nH y.lab.size,nk tou bG tcu,ng nH y.lab.tail],nC #[ny TX2,nA x.lab.list,nk iou xn icu]] W (LC B b (l2++Dv x y) W)):=jH λW hW hb=>by
      exact Zq
     have HL2:=jH hl2;have bS:B<=wr.heap.size:=by have:=HY.lt;omega
     have Q:tb<wr.heap.size:=nK;have bH:0<aj:=by rw[<-HNT.out];exact(ll.1 hy2).1
     clear HY hl2 hy hy2 hfy hix hty hx hxl;go_upto_region 16 with fail;generalize hW:wr.alloc _=wa;have OW:=jH (ax _ hW);clear hW ax;obtain⟨c0,c1,c2,E,N,O,c3⟩:=OW.1.cells;obtain⟨bV,bW,bX⟩:=OW.2.1.a3;have bY:=(OW.2.2.cell (p:=⟨tb,I,none⟩) Q).trans aK;have bZ:=(OW.2.2.cell (p:=⟨tb,I+1,none⟩) Q).trans aL;have cz:=(OW.2.2.cell (p:=⟨tb,I+2,none⟩) Q).trans y2;have cK:=(OW.2.2.cell (p:=⟨tb,I+3,none⟩) Q).trans aM;clear aK aL y2 aM aT bF aU;refine pQ 6 nM nM ?_;exact Zp
    .exact Zr
  .have bP:n<=1024:=by have:s.length<=A.length:=Oo aO (.inr rfl);rw[HNT.out,HN.out]at this;omega
   obtain⟨tl,rfl⟩:∃t:Nat,tl=t:=⟨tl.toNat,nK⟩;go_in;go_upto_region 1 with fail;generalize hW:(w.alloc _).alloc _=w1;rw[<-C.out]at hW;have J:=jH (U _ hW);clear hW U;obtain⟨c0,c1,c2,E,N,O,c3⟩:=J.cells;rw[C.out]at E;simp only[nL.oQ]at c0 c1 c3;go_wp2_with fail;clear c0 c1 c2 c3 E N O;go_loopw [81] (λiv bE=>∃k:Nat,iv=ng nH k/\k<=n/\jW (∃l2,JP B b g (.node ⟨5,0,tl⟩ A) a (nk ot aj ct) (nk oi n ci) A s l2 w bE/\l2++x8 (s.drop k) (.node ⟨5,0,tl⟩ A) k=ay)) (λiv _=>n -(kW iv).toNat);case atStart=>exact⟨0,rfl,nK,jH ⟨_,J.out,by rw[<-QM.out];simp[Du]⟩⟩
   case round=>
    obtain⟨k,rfl,hk,HD⟩:=hrel;by_cases c:k<n
    .obtain⟨x,hx⟩:∃x,s[k]? =some x:=⟨_,jX (by rw[HN.out];exact c)⟩
     obtain⟨y,hy,hfy⟩:=Dw HFS hx;rw[Nat.zero_add]at hy;have hy2:A[k]? =some y:=hy;obtain⟨l2,HY,hl2⟩:=HD.out;rw[JO hx hy]at hl2;obtain⟨tb,I,tou,tcu,rfl,bQ,aK,aL,y2,aM,hty⟩:=LA.at_ HY.tt hy2;obtain⟨aS,av,iou,icu,rfl,bR,aT,bF,aU,hix,hxl⟩:=LB.at_ HY.ii hx;obtain⟨bG,hyn⟩:=nT y.sub.length;obtain⟨xn,hxn⟩:=nT x.sub.length;rw[hyn]at y2;rw[hxn]at aU;obtain⟨TX2,a1Z⟩:=nT (txt x.lab);rw[a1Z]at aT;have ax:jW (∀W,wr.alloc (nG #[ny TX2,nA x.lab.list,nk iou xn icu] IT)=W->JP B b g (.node ⟨5,0,tl⟩ A) a (nk (some ⟨tb,I,none⟩) aj ct) (nk (some ⟨aS,av,none⟩) n ci) A s l2 w W/\nO W wr.heap.size #[ny TX2,nA x.lab.list,nk iou xn icu] IT/\jS wr.heap.size wr W):=jH λW h=>by
      exact Zt
     have CY:jW (∀W,JP B b g (.node ⟨5,0,tl⟩ A) a (nk (some ⟨tb,I,none⟩) aj ct) (nk (some ⟨aS,av,none⟩) n ci) A s l2 w W->jS wr.heap.size wr W->jV jI 168 #[nz (some ⟨b,0,none⟩),nC #[ng nH y.lab.kind,ng nH y.lab.size,nk tou bG tcu,ng nH y.lab.tail],nC #[ny TX2,nA x.lab.list,nk iou xn icu]] W (LC B b (l2++Dv x y) W)):=jH λW hW hb=>by
      exact Zq
     have HL2:=jH hl2;have bS:B<=wr.heap.size:=by have:=HY.lt;omega
     have Q:tb<wr.heap.size:=nK;have bH:k<aj:=by rw[<-HNT.out];exact(ll.1 hy2).1
     clear HY hl2 hy hy2 hfy hix hty hx hxl;go_upto_region 22 with fail;generalize hW:wr.alloc _=wa;have OW:=jH (ax _ hW);clear hW ax;obtain⟨c0,c1,c2,E,N,O,c3⟩:=OW.1.cells;obtain⟨bV,bW,bX⟩:=OW.2.1.a3;have bY:=(OW.2.2.cell (p:=⟨tb,I+k*4,none⟩) Q).trans aK;have bZ:=(OW.2.2.cell (p:=⟨tb,I+k*4+1,none⟩) Q).trans aL;have cz:=(OW.2.2.cell (p:=⟨tb,I+k*4+2,none⟩) Q).trans y2;have cK:=(OW.2.2.cell (p:=⟨tb,I+k*4+3,none⟩) Q).trans aM;clear aK aL y2 aM aT bF aU;refine pQ 7 nM nM ?_;exact Zp
    .exact Zr
end
end Go.Proofs.YtamfcjmhnndbdaaGreatDoor


