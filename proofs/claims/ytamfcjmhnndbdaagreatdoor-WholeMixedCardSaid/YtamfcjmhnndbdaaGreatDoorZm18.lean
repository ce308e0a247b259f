/- Part 18 of the proof. -/
import Derived.Test.YtamfcjmhnndbdaaGreatDoorZm00
import Derived.Test.YtamfcjmhnndbdaaGreatDoorZm01
import Derived.Test.YtamfcjmhnndbdaaGreatDoorZm02
import Derived.Test.YtamfcjmhnndbdaaGreatDoorZm03
import Derived.Test.YtamfcjmhnndbdaaGreatDoorZm06
import Derived.Test.YtamfcjmhnndbdaaGreatDoorZm07
import Derived.Test.YtamfcjmhnndbdaaGreatDoorZm08
import Derived.Test.YtamfcjmhnndbdaaGreatDoorZm09
import Derived.Test.YtamfcjmhnndbdaaGreatDoorZm16
import Derived.Test.YtamfcjmhnndbdaaGreatDoorZm17
import Derived.Test.YtamfcjmhnndbdaaGreatDoorChecked
import Derived.Shelf.Strings.Builder1
import Derived.WalkSpells
import Derived.Deep.Cut
import Derived.OwnWalk
open Go.Value renaming agg→nD,bool→nC,int→nk,pointer→nA,slice→ny,string→nz,tuple→nE,ownBlock→kJ
open Go.Obj renaming cells→nH
open Go.IntKind renaming i64→nI,u32→nK,u64→nJ
open Go.Ending renaming returned→nG
open Go.Lib renaming hid→jH,strCells→mD
open Go.Proofs.Tryz renaming prog→jI,underlying86→l6,underlying9→mH
open Go renaming World→jJ,Value→jP,Calls→jV,maxLen→j3,TypeId→ko,Addr→lH,Program→ma,wpQuiet_nil→mK
open Nat renaming le_refl→jK,le_trans→jY,zero_le→kH,add_assoc→kR,le_succ→kV,lt_or_ge→kZ,pow_le_pow_right→lg,lt_of_le_of_lt→mr,le_of_eq→mR,le_of_lt→mX
open List renaming getElem?_cons_zero→jN,getElem?_eq_getElem→jW,length_append→j5,take_succ_cons→ky,mem_of_getElem?→kK,take_zero→kL,length_drop→kX,getElem?_eq_some_iff→lF,getD_eq_getElem?_getD→lL,take_length→l9,length_take→mi,append_assoc→mG,size_toArray→mP,length_eq_zero_iff→mU,drop_succ_cons→mW
open Go.RowKit renaming Below→jS,Hid→jX,intOf→kT
open Go.RowKit.Below renaming refl→jT,heap_setCell→j6
open And renaming intro→jU
open Bool renaming and_eq_true→j4
open Array renaming getElem?_eq_some_iff→ku,length_toList→kY,getElem?_eq_none→mZ
open ByteArray renaming size_extract→kC
open Go.Instr renaming index→kS,lookup→lW
open Go.Sem renaming run→l7
open Option.some renaming injEq→mF
open Int renaming toNat_of_nonneg→mV
open Option renaming none→V,some→U
open Go.Addr renaming mk→Z
namespace Go.Proofs.YtamfcjmhnndbdaaGreatDoor
set_option linter.unusedVariables false
set_option linter.unusedSimpArgs false
set_option maxRecDepth 100000
set_option maxHeartbeats 8000000
variable {p:Prop}{oa:Option lH}
section
open Go.RowKit Go.Maps
def Dq:Gd Nat where
 ev n:=nk nI (n:Int)
 R v:=match v with| nk q x=>if q=nI/\0<=x then U (.held x.toNat,[])else V|_=>V
 lay x:=nS
 inv v z h:=by
  cases v<;>simp at h;obtain⟨⟨rfl,h1⟩,rfl⟩:=h;exact⟨_,by rw[mV h1],rfl⟩
theorem JD{P:ma}{t e s:ko}(T:pX P t e s)(S:ByteArray)(E:S.size<=1000000)(w:jJ):
  ∃cap w',(convert s t (nz S)).run P w=.ok (ny (U (Z w.heap.size 0 V)) S.size cap) w'/\rH w' w.heap.size e (ny (U (Z w.heap.size 0 V)) S.size cap) S.data.toList/\jS w.heap.size w w'/\w'.heap.size=w.heap.size+1/\S.size<=cap/\cap<=j3:=by
 have A:S.data.toList.length=S.size:=kY;have h1:=grownCap_ge w S.size 0 e;have h2:=grownCap_le_maxLen w S.size 0 e yD;refine⟨_,_,run_bytes_of_string w s t e S T.hs T.ht T.he,.inr ⟨w.heap.size,grownCap w S.size 0 e,_,_,by rw[A],jK _,heap_alloc_new w.drew _,.inr (jK _),by rw[A];exact h1,h2,?_,?_⟩,((jT _ _).drew).alloc (jK _) _,nS,h1,h2⟩
 .have C:S.data.size=S.size:=rfl
  simp only[bytesRow,Array.size_append,Array.size_map,Array.size_replicate,C];omega
 .simp only[bytesRow,Array.toList_append,Array.toList_map]
  rw[List.take_left' nS];rfl
structure Ej(w0:jJ)(g bm:Nat)(l:List UInt8)(pv:jP)(out:List UInt8)(n:Nat)(mp:VP)(W:jJ):Prop where
 row:∀i,i<l.length->W.cell? (Z g i V)=U (nk .u8 ((l.getD i 0).toNat:Int))
 pk:rH W (g+1) 5 pv out
 mp:qC QE Dq W bm n mp
 ne:∀d,pv.ownBlock=U d->d≠bm
 pR:jS g w0 W
 lt:g<bm/\g+1<=W.heap.size/\g=w0.heap.size
section
variable {w0:jJ}{g bm:Nat}{l:List UInt8}{pv pv2:jP}{out a6J:List UInt8}{n n2:Nat}{mp mp2:VP}{W W':jJ}
theorem Ej.below(h:Ej w0 g bm l pv out n mp W)(hb:jS W.heap.size W W'):Ej w0 g bm l pv out n mp W':=by
 have A:=h.lt;exact⟨λi hi=>(hb.cell (p:=(Z g i V)) (show g<W.heap.size by omega)).trans (h.row i hi),h.pk.below hb,h.mp.below hb,h.ne,h.pR.trans (hb.mono nL),by have:=hb.size;omega⟩
theorem Ej.app(h:Ej w0 g bm l pv out n mp W)(k:ve (g+1) pv W pv2 a6J W'):Ej w0 g bm l pv2 a6J n mp W':=by
 have E:=h.lt;have C:∀d,pv.ownBlock=U d->d≠g:=λd hd=>by have:=(h.pk.blk d hd).1;omega
 refine⟨λi hi=> ?_,k.own,h.mp.block (k.kp.block bm h.mp.lt λA=>h.ne bm A rfl),λd hd=> ?_,h.pR.trans (k.kp.below (λc hc A=>by have:=(h.pk.blk c A).1;omega) nL),by have:=k.kp.size;omega⟩
 .rw[<-h.row i hi]
  exact World.cell?_of_block (w:=W) (a:=(Z g i V)) (k.kp.block g nL λA=>C g A rfl)
 .rcases k.at_ with e|⟨q,e,I⟩
  .rw[e]at hd;exact h.ne d hd
  .rw[e]at hd
   cases hd;have:=h.mp.lt;omega
theorem Ej.put(h:Ej w0 g bm l pv out n mp W)(hl:qC QE Dq W' bm n2 mp2)(k:pE bm W W'):Ej w0 g bm l pv out n2 mp2 W':=by
 have C:=h.lt;have kp:qJ (λd=>d=bm) W W':=qJ.grown k λb e=>by cases e;rfl
 refine⟨λi hi=> ?_,h.pk.kp kp λd hd=>h.ne d hd,hl,h.ne,h.pR.trans (kp.below (λc hc A=>by omega) nL),by have:=kp.size;omega⟩;rw[<-h.row i hi];exact World.cell?_of_block (w:=W) (a:=(Z g i V)) (kp.block g nL λA=>by omega)
theorem Ej.up(h:Ej w0 g bm l pv out n mp W):Ej w0 g bm l pv out (n+1) mp W:=⟨h.row,h.pk,h.mp.up (kV n),h.ne,h.pR,h.lt⟩
theorem Ej.cell0(h:Ej w0 g bm l pv out n mp W){i:Nat}{a b c d:UInt8}(hk:xS l i=⟨a,b,c,d⟩)(hi:i+4<=l.length):W.cell? (Z g i V)=U (nk .u8 (a.toNat:Int)):=by
 rw[h.row i nL];simp only[xS,Q4.mk.injEq]at hk;rw[hk.1]
theorem Ej.cell1(h:Ej w0 g bm l pv out n mp W){i:Nat}{a b c d:UInt8}(hk:xS l i=⟨a,b,c,d⟩)(hi:i+4<=l.length):W.cell? (Z g (i+1) V)=U (nk .u8 (b.toNat:Int)):=by
 rw[h.row (i+1) nL];simp only[xS,Q4.mk.injEq]at hk;rw[hk.2.1]
theorem Ej.Zc(h:Ej w0 g bm l pv out n mp W){i:Nat}{a b c d:UInt8}(hk:xS l i=⟨a,b,c,d⟩)(hi:i+4<=l.length):W.cell? (Z g (i+2) V)=U (nk .u8 (c.toNat:Int)):=by
 rw[h.row (i+2) nL];simp only[xS,Q4.mk.injEq]at hk;rw[hk.2.2.1]
theorem Ej.Zd(h:Ej w0 g bm l pv out n mp W){i:Nat}{a b c d:UInt8}(hk:xS l i=⟨a,b,c,d⟩)(hi:i+4<=l.length):W.cell? (Z g (i+3) V)=U (nk .u8 (d.toNat:Int)):=by
 rw[h.row (i+3) nL];simp only[xS,Q4.mk.injEq]at hk;rw[hk.2.2.2]
end
theorem Ze(s:ByteArray)(a b:Nat):(s.extract a b).data.toList=(s.data.toList.take b).drop a:=by
 simp[ByteArray.data_extract,List.drop_take]
theorem a14{l:List UInt8}{st:OH}{f:Nat}{F:OH}(h:Ah l st)(hi:st.i<l.length)(hF:uM l f st=F)(C:l.length<=st.i+f):∃A,Ah l (rF l st)/\uM l A (rF l st)=F/\l.length<=(rF l st).i+A/\(rF l st).i<=l.length:=by
 obtain⟨h1,h2⟩:=h.step hi;cases f with
 |zero=>omega
 |succ f=>
  rw[uM,if_pos hi]at hF;exact⟨f,h1,hF,nL,h1.il⟩
theorem JE{l:List UInt8}{n i:Nat}{mp:VP}{k:Q4}(h:i+4<=l.length)(hk:xS l i=k):qO l (n+1) i mp=qO l n (i+1) ((k,i)::mp.filter λp=>p.1 !=k):=by
 rw[qO,if_pos h,hk]
theorem JF{l:List UInt8}{n i:Nat}{mp:VP}(h:¬i+4<=l.length):qO l (n+1) i mp=qO l n (i+1) mp:=by
 rw[qO,if_neg h]
theorem a9s(b o c:Nat)(W:jJ):(Instr.arrayAt K4T (ny (U (Z b o V)) 4 c)).run jI W=.ok (nA (U (Z b o V))) W:=by
 simp[Instr.arrayAt,run_underlying Tryz.underlying224]
theorem Zf(w:jJ):(zeroValue 3).run jI w=.ok (Dq.ev 0) w:=nN
theorem Zg(h:p:=by
 obtain rfl:q=1:=nL;have hmq:mq=qO l 1 st.i st.mp:=by have:=Vf.out;rw[Nat.sub_self]at this;exact this
 subst hmq;have a4L:jX (∃(s2:OH) (f2:Nat),s2.pend=st.pend/\s2.i=st.i+1/\s2.i<=N/\s2.pend<=s2.i/\Ah l s2/\uM l f2 s2=F/\l.length<=s2.i+f2/\Ej w g bm l u5 s2.out s2.i s2.mp wr):=jH (by
  obtain⟨f2,a1,a2,a3,a4⟩:=HNX.out;have h5:=Hu.out;refine⟨rF l st,f2,?_,?_,by rw[<-Lp.out];exact a4,a1.pi,a1,a2,a3,?_⟩;.rw[HS2.out]
  .rw[HS2.out]
  .rw[HS2.out];exact h5)
 clear Vf Hu;go_wp2_with fail;go_roundw;case rel=>
  obtain⟨s2,f2,e1,e2,e3,e4,e5,e6,e7,e8⟩:=a4L.out;exact⟨s2,f2,by rw[e1]<;>go_num,by rw[e2],e3,e4,jH e5,jH e6,jH e7,jH e8⟩
 case measure=>simp[kT];omega):p:=h
theorem a15(s:ByteArray)(w:jJ)(hs:s.size<=65536):
  jV jI 147 #[nz s] w (pV ⟨(Hq s.data.toList).toArray⟩ 0 w):=by
 have dM:=@run_makeMap jI;have dD:=a9s;obtain⟨N,aK⟩:=nV s.size;obtain⟨g,hg⟩:=nV w.heap.size;obtain⟨l,hl⟩:=nV s.data.toList;have bS:l.length=N:=by rw[<-hl,<-aK];exact kY
 obtain⟨dE,bG⟩:∃P,pV ⟨(Hq s.data.toList).toArray⟩ 0 w=P:=⟨_,rfl⟩;have dF:=jH bG;rw[bG];obtain⟨cap,w1,aM,ay,aN,aZ,bT,bg⟩:=JD Ch s nL w;rw[hg,aK]at aM;rw[hg]at ay aZ aN;rw[aK]at hs bT ay;have aO:jX (∀i,i<l.length->w1.cell? (Z g i V)=U (nk .u8 ((l.getD i 0).toNat:Int))):=jH λi hi=>by
  rw[hl]at ay;refine ay.cells rfl i _ ?_;rw[lL,jW hi];simp[nU,jW hi]
 have bU:=jH (Kh N w1 nL);have bV:=jH aN;have Lp:=jH bS;have aW:=jH hl;have dG:cap<=9223372036854775807:=by unfold j3 at bg;omega
 have bW:=jH hg;clear ay aN hl bG bg;go_in;go_wp2_with fail;refine bU.mono ?_;rintro e w2 ⟨rfl,aG⟩;obtain⟨aL,aP⟩:∃S:ByteArray,(⟨(oI N).toArray⟩:ByteArray)=S:=⟨_,rfl⟩;have aD:aL.data.toList=oI N:=by rw[<-aP]
 have bH:aL.size<=1000000:=by
  have e:aL.data.toList.length=aL.size:=kY;have:=Hr N nL;rw[aD]at e;omega
 obtain⟨bI,w3,aQ,aH,bq,bu,_,_⟩:=JD Ch aL bH w2;obtain⟨g2,bz⟩:=nV w2.heap.size;have bJ:g+1<=g2:=by have:=aG.size;omega
 have bX:jX (∀W,w3.alloc (.map #[] 0)=W->Ej w g (g2+1) l (ny (U (Z g2 0 V)) aL.size bI) (oI N) 0 [] W):=jH λW dH=>by
  subst dH;rw[bz]at aH bu;have a3:=(jT w3.heap.size w3).alloc (jK _) (.map #[] 0);have b3:jS w1.heap.size w1 w3:=aG.trans (bq.mono aG.size);have b4:jS w1.heap.size w1 (w3.alloc (.map #[] 0)):=b3.trans (a3.mono b3.size);have m:=qC.made QE Dq w3;rw[bu]at m;rw[aD]at aH;exact⟨λi hi=>(b4.cell (p:=(Z g i V)) (show g<w1.heap.size by omega)).trans (aO i hi),(aH.base bJ).below a3,m,λd hd=>by
   have hd:g2=d:=by simpa [kJ]using hd
   omega,bV.trans (b4.mono nL),nL,nT,bW.symm⟩
 rw[bz]at aQ;rw[aP];clear aH bq aG bU aO aZ;go_upto_region 6 with fail;have bY:=jH (bX _ rfl);generalize w3.alloc _=w4 at*;obtain⟨bm,aR⟩:=nV (g2+1);rw[aR]at bY;rw[aR];obtain⟨F,hF⟩:=nV (uM l l.length (yx l));have bZ:=jH hF;have cz:jX (Ah l (yx l)):=jH (Ah.ini l (by rw[Lp.out];exact hs));have bK:jX (oI N=(yx l).out):=jH (by rw[<-Lp.out];rfl);clear bX hF aP aD aM aQ;go_wp2_with fail;go_loopw [5,7,8] (λpv dI iv aF=>∃(st:OH) (f:Nat),dI=nk nI st.pend/\iv=nk nI st.i/\st.i<=N/\st.pend<=st.i/\jX (Ah l st)/\jX (uM l f st=F)/\jX (l.length<=st.i+f)/\jX (Ej w g bm l pv st.out st.i st.mp aF)) (λ_ _ iv _=>N -(kT iv).toNat);case atStart=>exact⟨yx l,l.length,rfl,rfl,kH _,jK _,cz,bZ,jH (by show _<=0+_;omega),by rw[<-bK.out];exact bY⟩
 case round=>
  obtain⟨st,f,rfl,rfl,az,dN,aS,cK,cZ,E⟩:=hrel;by_cases ci:st.i<N
  .have HNX:jX (∃df,Ah l (rF l st)/\uM l df (rF l st)=F/\l.length<=(rF l st).i+df/\(rF l st).i<=l.length):=jH (a14 aS (by rw[Lp.out];exact ci) cK cZ)
   by_cases c4:st.i+4<=N
   .obtain⟨⟨Y,aa,ae,af⟩,O⟩:∃k,xS l st.i=k:=⟨_,rfl⟩
    have ag:=jH O;have C:jX (st.i+4<=l.length):=jH (by rw[Lp.out];exact c4);have bL:=E.cell0 ag C.out;have bM:=E.cell1 ag C.out;have bN:=E.Zc ag C.out;have bO:=E.Zd ag C.out;have aj:=E.mp.look_ok Tryz.underlying222 Zf (x:=⟨Y,aa,ae,af⟩) trivial;have ak:JC l st=uF st.mp ⟨Y,aa,ae,af⟩:=by unfold JC;rw[if_pos C.out,ag.out]
    have ax:st.i+4<=cap:=nL;have aT:¬cap=st.i:=nL;cases aI:uF st.mp ⟨Y,aa,ae,af⟩with
    |none=>
     rw[aI]at aj ak;have aj:(lW 222 (.map (U bm)) (nD #[nk .u8 (Y.toNat:Int),nk .u8 (aa.toNat:Int),nk .u8 (ae.toNat:Int),nk .u8 (af.toNat:Int)]) true).run jI wr=.ok (nE #[nk nI 0,nC false]) wr:=aj;have HS2:jX (rF l st=⟨st.i+1,st.pend,st.out,qO l 1 st.i st.mp⟩):=jH (by unfold rF;rw[ak]);clear O aI ak;go_wp2_with fail;go_loopw [65,8] (λau iv aF=>∃(q:Nat) (mq:VP),au=nk nI q/\iv=nk nI ((st.i+q:Nat):Int)/\q<=1/\jX (qO l (1 - q) (st.i+q) mq=qO l 1 st.i st.mp)/\jX (Ej w g bm l u5 st.out (st.i+q) mq aF)) (λau _ _=>1 -(kT au).toNat);case atStart=>exact⟨0,st.mp,rfl,rfl,nL,jH rfl,E⟩
     case round=>
      obtain⟨q,mq,rfl,rfl,dh,Vf,Hu⟩:=hrel;by_cases aX:q=0
      .subst aX
       have hF:jX (1 - 0=(1 -(0+1))+1):=jH nL;obtain⟨A,I⟩:=nV (st.i+0);have J:=jH I;rw[I]at Vf Hu;simp only[I];have c5:A+4<=N:=nL;obtain⟨⟨Y,aa,ae,af⟩,O⟩:∃k,xS l A=k:=⟨_,rfl⟩;have ag:=jH O;have C:jX (A+4<=l.length):=jH (by rw[Lp.out];exact c5);have bL:=Hu.cell0 ag C.out;have bM:=Hu.cell1 ag C.out;have bN:=Hu.Zc ag C.out;have bO:=Hu.Zd ag C.out;have ah:jX (qO l (1 -(0+1)) (A+1) ((⟨Y,aa,ae,af⟩,A)::mq.filter λp=>p.1 !=⟨Y,aa,ae,af⟩)=qO l 1 st.i st.mp):=jH (by
        rw[<-Vf.out];exact(JE C ag).symm)
       have az:A<N:=nL;have ax:A+4<=cap:=nL;have aT:¬cap=A:=nL;clear O I;go_wp2_with (refine xw rfl _ _ _ rfl Tryz.underlying222 Hu.mp rfl (x:=⟨Y,aa,ae,af⟩) rfl trivial (y:=A) rfl yD ?_;intro bP aA aB;have Q:=jH (Hu.put aA aB);clear aA aB);go_roundw;case rel=>exact⟨0+1,by go_num,by have:=J.out;go_num,nL,(⟨Y,aa,ae,af⟩,A)::mq.filter λp=>p.1 !=⟨Y,aa,ae,af⟩,by rw[show st.i+(0+1)=A+1 by have:=J.out;omega];exact ah,by rw[show st.i+(0+1)=A+1 by have:=J.out;omega];exact Q⟩
       case measure=>(simp[kT]<;>omega)
      .exact Zg
    |some j=>
     rw[aI]at aj ak;have aj:(lW 222 (.map (U bm)) (nD #[nk .u8 (Y.toNat:Int),nk .u8 (aa.toNat:Int),nk .u8 (ae.toNat:Int),nk .u8 (af.toNat:Int)]) true).run jI wr=.ok (nE #[nk nI (j:Int),nC true]) wr:=aj;obtain⟨dP,dw,z3,z4,z5,dx⟩:=NZ aS ak;have HS2:jX (rF l st=⟨st.i+rf l j st.i,st.i+rf l j st.i,st.out++zt ((l.take st.i).drop st.pend)++Af (rf l j st.i) (st.i - j),qO l (rf l j st.i) st.i st.mp⟩):=jH (by unfold rF;rw[ak]);obtain⟨M,bQ⟩:=nV (rf l j st.i);rw[bQ]at z4 z5 dx HS2;rw[Lp.out]at dx;have bA:(s.extract st.pend st.i).data.toList=(l.take st.i).drop st.pend:=by rw[Ze,aW.out]
     have aC:(s.extract st.pend st.i).size<=65536:=by simp only[kC];omega
     have ai:=EO (g+1) u5 st.out (s.extract st.pend st.i) wr E.pk (by have:=aS.ol;omega) aC E.lt.2.1;rw[bA]at ai;have ai:=jH ai;have dz:jX (∀W,jV jI 186 #[nz s,nk nI j,nk nI st.i] W λe w'=>e=nG (nk nI (M:Nat))/\jS W.heap.size W w'):=jH λW=>by
      have:=Y8 s j st.i W (by rw[aK];exact hs) dw (by rw[aK];exact az);rw[aW.out,bQ]at this;exact this
     have bR:((l.take st.i).drop st.pend).length<=65536:=by rw[kX,mi];omega
     have dA:=Ll ((l.take st.i).drop st.pend);have dB:=aS.ol;have bB:(st.out++zt ((l.take st.i).drop st.pend)).length<=1000000:=by rw[j5];omega
     have aY:jX (∀v W,rH W (g+1) 5 v (st.out++zt ((l.take st.i).drop st.pend))->g+1<=W.heap.size->jV jI 187 #[v,nk nI (M:Nat),nk nI ((st.i:Int) -(j:Int))] W λe w'=>∃v',e=nG v'/\ve (g+1) v W v' (st.out++zt ((l.take st.i).drop st.pend)++Af M (st.i - j)) w'):=jH λv W h1 h2=>by
      rw[show(st.i:Int) -(j:Int)=((st.i - j:Nat):Int)by omega];exact Y7 (g+1) v _ M (st.i - j) W h1 bB ⟨z4,z5⟩ nL h2
     obtain⟨dJ,aU⟩:=nV (st.out++zt ((l.take st.i).drop st.pend));rw[aU]at ai aY HS2;obtain⟨dK,aV⟩:=nV (dJ++Af M (st.i - j));rw[aV]at aY HS2;clear O aI ak bA aC bR dA dB bB aU aV bQ;have dO:1<=M:=nL;go_wp2_with fail;refine ai.mono ?_;rintro e w5 ⟨v1,rfl,av⟩;have aJ:=jH (E.app av);clear av ai bL bM bN bO aj;go_wp2_with fail;refine(dz _).mono ?_;rintro e bP ⟨rfl,bC⟩;have Q:=jH (aJ.below bC);have dC:=jH (aY v1 bP Q.pk Q.lt.2.1);clear bC aJ dz aY;go_wp2_with fail;refine dC.mono ?_;rintro e dQ ⟨v2,rfl,bD⟩;have E:=jH (Q.app bD);clear bD dC Q dw z4 z5 C c4 ax aT;go_wp2_with fail;go_loopw [65,8] (λau iv aF=>∃(q:Nat) (mq:VP),au=nk nI q/\iv=nk nI ((st.i+q:Nat):Int)/\q<=M/\jX (qO l (M - q) (st.i+q) mq=qO l M st.i st.mp)/\jX (Ej w g bm l v2 dK (st.i+q) mq aF)) (λau _ _=>M -(kT au).toNat);case atStart=>exact⟨0,st.mp,rfl,rfl,nL,jH rfl,E⟩
     case round=>
      obtain⟨q,mq,rfl,rfl,dh,Vf,Hu⟩:=hrel;by_cases aX:q<M
      .skip
       have hF:jX (M - q=(M -(q+1))+1):=jH nL;obtain⟨A,I⟩:=nV (st.i+q);have J:=jH I;rw[I]at Vf Hu;simp only[I];by_cases c5:A+4<=N
       .skip
        obtain⟨⟨Y,aa,ae,af⟩,O⟩:∃k,xS l A=k:=⟨_,rfl⟩;have ag:=jH O;have C:jX (A+4<=l.length):=jH (by rw[Lp.out];exact c5);have bL:=Hu.cell0 ag C.out;have bM:=Hu.cell1 ag C.out;have bN:=Hu.Zc ag C.out;have bO:=Hu.Zd ag C.out;have ah:jX (qO l (M -(q+1)) (A+1) ((⟨Y,aa,ae,af⟩,A)::mq.filter λp=>p.1 !=⟨Y,aa,ae,af⟩)=qO l M st.i st.mp):=jH (by
         rw[<-Vf.out,hF.out];exact(JE C ag).symm)
        have az:A<N:=nL;have ax:A+4<=cap:=nL;have aT:¬cap=A:=nL;clear O I;go_wp2_with (refine xw rfl _ _ _ rfl Tryz.underlying222 Hu.mp rfl (x:=⟨Y,aa,ae,af⟩) rfl trivial (y:=A) rfl yD ?_;intro bP aA aB;have Q:=jH (Hu.put aA aB);clear aA aB);go_roundw;case rel=>exact⟨q+1,(⟨Y,aa,ae,af⟩,A)::mq.filter λp=>p.1 !=⟨Y,aa,ae,af⟩,by go_num,by have:=J.out;go_num,nL,by rw[show st.i+(q+1)=A+1 by have:=J.out;omega];exact ah,by rw[show st.i+(q+1)=A+1 by have:=J.out;omega];exact Q⟩
        case measure=>(simp[kT]<;>omega)
       .skip
        have C:jX (¬A+4<=l.length):=jH (by rw[Lp.out];exact c5);have ah:jX (qO l (M -(q+1)) (A+1) mq=qO l M st.i st.mp):=jH (by
         rw[<-Vf.out,hF.out];exact(JF C).symm)
        have Q:=jH Hu.up;have c6:N<A+4:=nL;have az:A<=N:=nL;clear I c5;go_wp2_with fail;go_roundw;case rel=>exact⟨q+1,mq,by go_num,by have:=J.out;go_num,nL,by rw[show st.i+(q+1)=A+1 by have:=J.out;omega];exact ah,by rw[show st.i+(q+1)=A+1 by have:=J.out;omega];exact Q⟩
        case measure=>(simp[kT]<;>omega)
      .obtain rfl:q=M:=nL
       have hmq:mq=qO l q st.i st.mp:=by have:=Vf.out;rw[Nat.sub_self]at this;exact this
       subst hmq;have a4L:jX (∃(s2:OH) (f2:Nat),s2.pend=st.i+q/\s2.i=st.i+q/\s2.i<=N/\s2.pend<=s2.i/\Ah l s2/\uM l f2 s2=F/\l.length<=s2.i+f2/\Ej w g bm l v2 s2.out s2.i s2.mp wr):=jH (by
        obtain⟨f2,a1,a2,a3,a4⟩:=HNX.out;have h5:=Hu.out;refine⟨rF l st,f2,?_,?_,by rw[<-Lp.out];exact a4,a1.pi,a1,a2,a3,?_⟩;.rw[HS2.out]
        .rw[HS2.out]
        .rw[HS2.out];exact h5)
       clear Vf Hu;go_wp2_with fail;go_roundw;case rel=>
        obtain⟨s2,f2,e1,e2,e3,e4,e5,e6,e7,e8⟩:=a4L.out;exact⟨s2,f2,by rw[e1]<;>go_num,by rw[e2],e3,e4,jH e5,jH e6,jH e7,jH e8⟩
       case measure=>simp[kT];omega
   .have C:jX (¬st.i+4<=l.length):=jH (by rw[Lp.out];exact c4)
    have HS2:jX (rF l st=⟨st.i+1,st.pend,st.out,qO l 1 st.i st.mp⟩):=jH (by unfold rF JC;rw[if_neg C.out]);clear C;go_wp2_with fail;go_loopw [65,8] (λau iv aF=>∃(q:Nat) (mq:VP),au=nk nI q/\iv=nk nI ((st.i+q:Nat):Int)/\q<=1/\jX (qO l (1 - q) (st.i+q) mq=qO l 1 st.i st.mp)/\jX (Ej w g bm l u5 st.out (st.i+q) mq aF)) (λau _ _=>1 -(kT au).toNat);case atStart=>exact⟨0,st.mp,rfl,rfl,nL,jH rfl,E⟩
    case round=>
     obtain⟨q,mq,rfl,rfl,dh,Vf,Hu⟩:=hrel;by_cases aX:q=0
     .subst aX
      have hF:jX (1 - 0=(1 -(0+1))+1):=jH nL;obtain⟨A,I⟩:=nV (st.i+0);have J:=jH I;rw[I]at Vf Hu;simp only[I];have c5:¬A+4<=N:=nL;have C:jX (¬A+4<=l.length):=jH (by rw[Lp.out];exact c5);have ah:jX (qO l (1 -(0+1)) (A+1) mq=qO l 1 st.i st.mp):=jH (by
       rw[<-Vf.out];exact(JF C).symm)
      have Q:=jH Hu.up;have c6:N<A+4:=nL;have az:A<=N:=nL;clear I c5;go_wp2_with fail;go_roundw;case rel=>exact⟨0+1,mq,by go_num,by have:=J.out;go_num,nL,by rw[show st.i+(0+1)=A+1 by have:=J.out;omega];exact ah,by rw[show st.i+(0+1)=A+1 by have:=J.out;omega];exact Q⟩
      case measure=>(simp[kT]<;>omega)
     .exact Zg
  .have bE:F=st:=by rw[<-cK.out];exact QB f st (by rw[Lp.out];exact ci)
   have aC:(s.extract st.pend s.size).data.toList=l.drop st.pend:=by
    have h1:s.data.toList.length=s.size:=kY;rw[Ze,<-h1,l9,aW.out]
   have bF:Hq l=st.out++zt (l.drop st.pend):=by unfold Hq;rw[bZ.out,bE]
   have ai:=EO (g+1) u5 st.out (s.extract st.pend s.size) wr E.pk (by have:=aS.ol;omega) (by simp only[kC];omega) E.lt.2.1;rw[aC,<-bF,aK]at ai;have ai:=jH ai;clear bE aC bF;go_wp2_with fail;refine ai.mono ?_;rintro e w5 ⟨v1,rfl,av⟩;have dL:=av.own.string Ch;have aJ:=jH (E.app av);clear av ai;go_wp2_with fail;try go_returns
   rw[<-dF.out,aW.out];exact⟨rfl,bW.symm▸aJ.pR⟩
section
variable {t:ByteArray}{p:Nat}
end
theorem Oa{l:List UInt8}:∀(f:Nat)(s:OH),Ah l s->Ah l (uM l f s)
 |0,_,h=>h
 |f+1,s,h=>by
  unfold uM;split;.rename_i hi;exact Oa f _ (h.step hi).1
  .exact h
theorem Zh(l:List UInt8)(h:l.length<=65536):(Hq l).length<=19+8*l.length:=by
 have k:=Oa l.length _ (Ah.ini l h);have a:=Ll (l.drop (uM l l.length (yx l)).pend);rw[kX]at a;have:=k.ol;have:=k.pi;have:=k.il;rw[Hq,j5];omega
def qM(id:Nat)(b:ByteArray):ByteArray×Int:=if(oI id).length+b.size<=65536 then(J3 id b,0)else(⟨#[]⟩,5)
theorem Hw(id:Nat)(b:ByteArray)(w:jJ)(hid:id<18446744073709551616)(hs:b.size<=9223372036854770000):
  jV jI 104 #[nk nJ id,nz b] w (pV (qM id b).1 (qM id b).2 w):=by
 unfold qM;by_cases h:(oI id).length+b.size<=65536;.rw[if_pos h];exact TI id b w hid h
 .rw[if_neg h];exact(FU id b w hid nL hs).mono λe w' h=>⟨h.1,by rw[h.2];exact jT _ _⟩
def yA(s:ByteArray):ByteArray:=⟨(Hq s.data.toList).toArray⟩
theorem QF(s:ByteArray)(hs:s.size<=65536):(yA s).size<=1000000:=by
 have:=Zh s.data.toList (by simpa using hs);have h2:s.data.toList.length=s.size:=nS;rw[yA,size_mk];omega
theorem Ob(id:Nat)(b:ByteArray)(w:jJ)(hid:id<18446744073709551616)(hs:b.size<=65536):
  jV jI 109 #[nk nJ id,nz b] w (pV (qM id (yA b)).1 (qM id (yA b)).2 w):=by
 have O:jX (jV jI 147 #[nz b] w (pV (yA b) 0 w)):=jH (a15 b w hs);have hp:=QF b hs;have I:=jH (λW=>Hw id (yA b) W hid nL);generalize yA b=pk at*;obtain⟨R,J⟩:=nV (qM id pk);rw[J]at I⊢;obtain⟨T,er⟩:=R;clear hid hs hp J;go_in;go_wp2_with fail;refine O.mono ?_;rintro e w2 ⟨rfl,A⟩;have C:=jH A;clear A;go_wp2_with fail;refine(I _).mono ?_;rintro e w3 ⟨rfl,E⟩;have N:=jH (C.trans (E.mono C.size));clear E;go_wp2_with fail;try go_returns
 exact⟨rfl,N.out⟩
theorem Zi(F:vP)(w W:jJ)(h:w.alloc (nH #[nk nJ F.id,nz F.name,nz F.body] rq)=W):nP W w.heap.size #[nk nJ F.id,nz F.name,nz F.body] rq/\jS w.heap.size w W:=by
 subst h;exact⟨nP.new w _ _,(jT w.heap.size w).alloc (jK _) _⟩
theorem Lr(c:oF)(F:vP)(w W:jJ)(g:Nat)(hg:w.heap.size=g)(h:(w.alloc (nH #[nk nI c.fmt,nk nK c.mag,nk nI c.pF,nk nI c.qc,nk nI c.dep,nk nI c.oV] tC)).alloc (nH #[nk nJ F.id,nz F.name,nz F.body] rq)=W):nP W g #[nk nI c.fmt,nk nK c.mag,nk nI c.pF,nk nI c.qc,nk nI c.dep,nk nI c.oV] tC/\nP W (g+1) #[nk nJ F.id,nz F.name,nz F.body] rq/\jS w.heap.size w W:=by
 subst h;exact Y0
theorem Zj(F:vP)(w:jJ):jV jI 97 #[nD #[nk nJ F.id,nz F.name,nz F.body]] w λe w'=>e=nG (nC (decide (F.id=0)))/\jS w.heap.size w w':=by
 obtain⟨g,hg⟩:=nV w.heap.size;have C:=jH (Zi F w);rw[hg]at C;rw[hg];obtain⟨b,hb⟩:=nV (decide (F.id=0));rw[hb];have I:((F.id:Int)==0)=b:=by rw[<-hb,Bool.eq_iff_iff];simp
 clear hb;go_in;go_upto_region 1 with fail;generalize E:w.alloc _=w1;obtain⟨hB,A⟩:=C.out _ E;have J:=hB.c0;have HB1:=jH A;clear E hB A C;exact FD
theorem Oc(F:vP)(w:jJ):jV jI 96 #[nD #[nk nJ F.id,nz F.name,nz F.body]] w λe w'=>e=nG (nC (decide (F.name.size=0)))/\jS w.heap.size w w':=by
 obtain⟨g,hg⟩:=nV w.heap.size;have C:=jH (Zi F w);rw[hg]at C;rw[hg];obtain⟨b,hb⟩:=nV (decide (F.name.size=0));rw[hb];have I:(F.name.toList==([]:List UInt8))=b:=by rw[Fe,<-hb]
 clear hb;go_in;go_upto_region 1 with fail;generalize E:w.alloc _=w1;obtain⟨hB,A⟩:=C.out _ E;have J:=hB.c1;have HB1:=jH A;clear E hB A C;exact FD
theorem QG(h:p:=by
 have f2:=hF.c2;have HB1:=jH hb1;clear hW hC hF hb1 HI;go_wp2_with fail;refine(CP _).mono ?_;rintro e w2 ⟨rfl,hb2⟩;have HB2:=jH (HB1.trans (hb2.mono HB1.size));clear hb2;go_wp2_with fail;try go_returns
 exact⟨rfl,HB2.out⟩):p:=h
theorem Zk(c:oF)(F:vP)(w:jJ)(A:0<=c.mag/\c.mag<4294967296)(hn:F.name.size<=j3)(hb:F.body.size<=1000000000):jV jI 98 #[nD #[nk nI c.fmt,nk nK c.mag,nk nI c.pF,nk nI c.qc,nk nI c.dep,nk nI c.oV],nD #[nk nJ F.id,nz F.name,nz F.body]] w (pV (vS c.mag.toNat F.name F.body).1 (vS c.mag.toNat F.name F.body).2 w):=by
 obtain⟨g,hg⟩:=nV w.heap.size;have HI:=jH (λW=>Lr c F w W g hg);have CP:=jH (λ(W:jJ)=>Y1 c.mag.toNat F.name F.body W nL hn hb);obtain⟨R,C⟩:=nV (vS c.mag.toNat F.name F.body);rw[C]at CP⊢;obtain⟨T,er⟩:=R;clear C;rw[mV A.1]at CP;clear A hn hb;go_in;go_upto_region 1 with fail;generalize hW:(w.alloc _).alloc _=w1;obtain⟨hC,hF,hb1⟩:=HI.out _ hW;have c1:=hC.c1;have f1:=hF.c1;exact QG
theorem Zl(c:oF)(F:vP)(w:jJ)(hid:F.id<18446744073709551616)(hb:F.body.size<=1000000000):jV jI 103 #[nD #[nk nI c.fmt,nk nK c.mag,nk nI c.pF,nk nI c.qc,nk nI c.dep,nk nI c.oV],nD #[nk nJ F.id,nz F.name,nz F.body]] w (pV (qM F.id F.body).1 (qM F.id F.body).2 w):=by
 obtain⟨g,hg⟩:=nV w.heap.size;have HI:=jH (λW=>Lr c F w W g hg);have CP:=jH (λ(W:jJ)=>Hw F.id F.body W hid nL);obtain⟨R,A⟩:=nV (qM F.id F.body);rw[A]at CP⊢;obtain⟨T,er⟩:=R;clear A;clear hid hb;go_in;go_upto_region 1 with fail;generalize hW:(w.alloc _).alloc _=w1;obtain⟨hC,hF,hb1⟩:=HI.out _ hW;have C:=hF.c0;exact QG
theorem Zm(c:oF)(F:vP)(w:jJ)(hid:F.id<18446744073709551616)(C:(F.body.size:Int)<=c.qc)(hb:F.body.size<=65536):jV jI 108 #[nD #[nk nI c.fmt,nk nK c.mag,nk nI c.pF,nk nI c.qc,nk nI c.dep,nk nI c.oV],nD #[nk nJ F.id,nz F.name,nz F.body]] w (pV (qM F.id (yA F.body)).1 (qM F.id (yA F.body)).2 w):=by
 obtain⟨g,hg⟩:=nV w.heap.size;have HI:=jH (λW=>Lr c F w W g hg);have CP:=jH (λ(W:jJ)=>Ob F.id F.body W hid hb);obtain⟨R,A⟩:=nV (qM F.id (yA F.body));rw[A]at CP⊢;obtain⟨T,er⟩:=R;clear A;have E:decide (c.qc<(F.body.size:Int))=false:=nT;have I:decide ((F.body.size:Int)>c.qc)=false:=nT;clear hid C hb;go_in;go_upto_region 1 with fail;generalize hW:(w.alloc _).alloc _=w1;obtain⟨hC,hF,hb1⟩:=HI.out _ hW;have c3:=hC.c3;have J:=hF.c0;exact QG
theorem Vg(c:oF)(F:vP)(w:jJ)(J:c.qc<(F.body.size:Int))(hb:F.body.size<=1000000000):jV jI 108 #[nD #[nk nI c.fmt,nk nK c.mag,nk nI c.pF,nk nI c.qc,nk nI c.dep,nk nI c.oV],nD #[nk nJ F.id,nz F.name,nz F.body]] w (pV (((⟨#[]⟩,5):ByteArray×Int)).1 (((⟨#[]⟩,5):ByteArray×Int)).2 w):=by
 obtain⟨g,hg⟩:=nV w.heap.size;have C:=jH (λW=>Lr c F w W g hg);have N:decide (c.qc<(F.body.size:Int))=true:=nT;have O:decide ((F.body.size:Int)>c.qc)=true:=nT;clear J;go_in;go_upto_region 1 with fail;generalize E:(w.alloc _).alloc _=w1;obtain⟨I,hF,A⟩:=C.out _ E;have c3:=I.c3;have f2:=hF.c2;have HB1:=jH A;clear E I hF A C;exact FD
def zu(c:oF)(F:vP):ByteArray×Int:=
 if c.fmt=1 then vS c.mag.toNat F.name F.body else if c.fmt=2 then qM F.id F.body else if c.qc<(F.body.size:Int)then(⟨#[]⟩,5)else qM F.id (yA F.body)
def Zn(c:oF)(F:vP):Bool:=if c.fmt=1 then decide (F.id=0)else decide (F.name.size=0)
def JG(c:oF)(F:vP):ByteArray×Int:=EN (Zn c F) (zu c F).1 (zu c F).2 (Ux (qw c (zu c F).1 V).1).e
theorem Dr(id:Nat)(b:ByteArray)(hid:id<18446744073709551616):(qM id b).1.size<=66000:=by
 unfold qM;split
 .rename_i h
  have h1:=uf 10 ((oI id).length+b.size) (mr h nO);show(J3 id b).size<=66000;rw[Tx];omega
 .exact kH _
theorem Od(m:Nat)(nm b:ByteArray):(vS m nm b).1.size<=66000:=by
 unfold vS;split
 .rename_i A
  have:=yY nm (Ei A).2;split
  .show(⟨(JB m nm b).toArray⟩:ByteArray).size<=66000
   have hb:b.data.toList.length=b.size:=nS;rw[size_mk];simp only[JB,j5,qG,Be,hb];omega
  .exact kH _
 .exact kH _
theorem Vh(c:oF)(F:vP)(hid:F.id<18446744073709551616):(zu c F).1.size<=66000:=by
 unfold zu;split;.exact Od _ _ _
 split;.exact Dr _ _ hid
 split;.exact kH _
 .exact Dr _ _ hid
theorem Zo(c:oF)(F:vP)(hc:oJ c=true)(A:c.wf)(hid:F.id<18446744073709551616)(hn:F.name.size<=j3)(hb:F.body.size<=1000000000):∃f1 f2 f3 f4:FuncId,
  (∀W,l7 jI (kS 142 (nD zi) (nk nI c.fmt)) W=.ok (nD #[.func (.func f1) #[] #[],.func (.func f2) #[] #[],.func (.func f3) #[] #[],.func (.func f4) #[] #[]]) W)/\
  (∀a W,l7 jI (callFunc f1 #[a]) W=.ok (.enter f1 #[a]) W)/\(∀a b W,l7 jI (callFunc f2 #[a,b]) W=.ok (.enter f2 #[a,b]) W)/\(∀a b d W,l7 jI (callFunc f3 #[a,b,d]) W=.ok (.enter f3 #[a,b,d]) W)/\
  (∀W,jV jI f1 #[nD #[nk nJ F.id,nz F.name,nz F.body]] W λe w'=>e=nG (nC (Zn c F))/\jS W.heap.size W w')/\
  (∀W,jV jI f2 #[nD #[nk nI c.fmt,nk nK c.mag,nk nI c.pF,nk nI c.qc,nk nI c.dep,nk nI c.oV],nD #[nk nJ F.id,nz F.name,nz F.body]] W (pV (zu c F).1 (zu c F).2 W))/\
  ∀W,jV jI f3 #[nD #[nk nI c.fmt,nk nK c.mag,nk nI c.pF,nk nI c.qc,nk nI c.dep,nk nI c.oV],nA V,nz (zu c F).1] W λe w'=>e=nG (Ux (qw c (zu c F).1 V).1).v/\jS W.heap.size W w':=by
 have O:=qU hc;have Q:=Vh c F hid;have E:0<=c.mag/\c.mag<4294967296:=by
  have:=A.2.1;simp[Lit.wf,IntKind.min,IntKind.max,IntKind.signed,IntKind.bits]at this;omega
 have J:(zu c F).1.size<=j3:=yD;have key:∀k:Nat,c.fmt=k->∀f,WE k=.func (.func f) #[] #[]->∀W,jV jI f #[nD #[nk nI c.fmt,nk nK c.mag,nk nI c.pF,nk nI c.qc,nk nI c.dep,nk nI c.oV],nA V,nz (zu c F).1] W λe w'=>e=nG (Ux (qw c (zu c F).1 V).1).v/\jS W.heap.size W w':=by
  intro k hk f N W;obtain⟨Y,C,hcall⟩:=MN c k hk (zu c F).1 V W J hc A trivial;rw[N]at C;cases C;exact hcall.mono λe aa h=>by
   obtain⟨h1,_,h2⟩:=Jo.1 h;exact⟨h2,h1.os,h1.tape,h1.output,h1.size,λk hk=>h1.block k hk (by simp[oM])⟩
 have hk:c.fmt=1\/c.fmt=2\/c.fmt=3:=nL;rcases hk with hk|hk|hk
 .have hix:=Rw
  rw[<-hk]at hix;refine⟨_,_,_,_,hix,λ_ _=>rfl,λ_ _ _=>rfl,λ_ _ _ _=>rfl,?_,?_,key 1 hk _ rfl⟩;.rw[Zn,if_pos hk];exact Zj F
  .rw[zu,if_pos hk];exact λW=>Zk c F W E hn hb
 .have hix:=Rx
  rw[<-hk]at hix;refine⟨_,_,_,_,hix,λ_ _=>rfl,λ_ _ _=>rfl,λ_ _ _ _=>rfl,?_,?_,key 2 hk _ rfl⟩;.rw[Zn,if_neg nL];exact Oc F
  .rw[zu,if_neg nL,if_pos hk];exact λW=>Zl c F W hid hb
 .have hix:=Ry
  rw[<-hk]at hix;refine⟨_,_,_,_,hix,λ_ _=>rfl,λ_ _ _=>rfl,λ_ _ _ _=>rfl,?_,?_,key 3 hk _ rfl⟩;.rw[Zn,if_neg nL];exact Oc F
  .rw[zu,if_neg nL,if_neg nL]
   by_cases I:c.qc<(F.body.size:Int);.rw[if_pos I];exact λW=>Vg c F W I hb
   .rw[if_neg I];exact λW=>Zm c F W hid nL nL
theorem Zp(c:oF)(F:vP)(w:jJ)(hc:oJ c=true)(C:c.wf)(hid:F.id<18446744073709551616)(hn:F.name.size<=j3)(hb:F.body.size<=1000000000):
  jV jI 37 #[nD #[nk nI c.fmt,nk nK c.mag,nk nI c.pF,nk nI c.qc,nk nI c.dep,nk nI c.oV],nD #[nk nJ F.id,nz F.name,nz F.body]] w (pV (JG c F).1 (JG c F).2 w):=by
 obtain⟨f1,f2,f3,f4,hix,h1,h2,E,A,hput,hnext⟩:=Zo c F hc C hid hn hb;exact Vd c F f1 f2 f3 f4 _ _ _ _ w hc hix h1 h2 E A (λ_ W _=>hput W) (λ_=>hnext)
end
section
def Dt(t:nM TL)(a:IL)(n:Nat):List UInt8:=
 if t.lab.kind=1 then vX t.lab.size.toNat (pK a.text).1 else if t.lab.kind=2 then a.text else if t.lab.kind=3 then wm a.text.length++a.text else if t.lab.kind=4 then wm n else []
mutual
def Du:nM IL->nM TL->List UInt8
 | .node a s,t=>Dt t a s.length++xU s t 0
def xU:List (nM IL)->nM TL->Nat->List UInt8
 |[],_,_=>[]
 |x::xs,t,i=>(match rQ t i with|some y=>Du x y|none=>[])++xU xs t (i+1)
end
theorem JH{s:List (nM IL)}{t:nM TL}{k:Nat}{x:nM IL}{y:nM TL}(h:s[k]? =U x)(A:rQ t k=U y):xU (s.drop k) t k=Du x y++xU (s.drop (k+1)) t (k+1):=by
 obtain⟨hk,hk2⟩:=lF.1 h;rw[List.drop_eq_getElem_cons hk,hk2,xU,A]
theorem yB{C A tl:Int}{ts:List (nM TL)}{a:IL}{n:Nat}(h:rA (.node ⟨C,A,tl⟩ ts) a n=true)(hk:C=1\/C=2\/C=3):(a.text.length:Int)<=A/\a.list=false:=by
 rcases hk with rfl|rfl|rfl
 .have e:rA (.node ⟨1,A,tl⟩ ts) a n=zT ⟨1,A,tl⟩ a:=by simp[rA]
  rw[e]at h;simp only[zT,j4,decide_eq_true_eq,Bool.not_eq_true']at h;exact⟨h.2,h.1.1⟩
 .have e:rA (.node ⟨2,A,tl⟩ ts) a n=Bg ⟨2,A,tl⟩ a:=by simp[rA]
  rw[e]at h;simp only[Bg,j4,decide_eq_true_eq,Bool.not_eq_true']at h;exact⟨nL,h.1⟩
 .have e:rA (.node ⟨3,A,tl⟩ ts) a n=Bh ⟨3,A,tl⟩ a:=by simp[rA]
  rw[e]at h;simp only[Bh,j4,decide_eq_true_eq,Bool.not_eq_true']at h;exact⟨h.2,h.1⟩
theorem Oe{C A tl:Int}{ts:List (nM TL)}{a:IL}{n:Nat}(h:rA (.node ⟨C,A,tl⟩ ts) a n=true)(hk:C=4\/C=5):if C=4 then(n:Int)<=A else n<=ts.length:=by
 rcases hk with rfl|rfl
 .have e:rA (.node ⟨4,A,tl⟩ ts) a n=CK ⟨4,A,tl⟩ a n:=by simp[rA]
  rw[e]at h;simp only[CK,j4,decide_eq_true_eq]at h;exact h.2
 .have e:rA (.node ⟨5,A,tl⟩ ts) a n=zU ⟨5,A,tl⟩ ts.length a n:=by simp[rA]
  rw[e]at h;simp only[zU,j4,decide_eq_true_eq]at h;exact h.1.2
theorem Vi(l:List UInt8)(k:Nat)(h:l.length<=k)(hk:k<=8):(pK l).1<256^k/\(pK l).1<18446744073709551616:=by
 have h1:(pK l).1<256^l.length:=by
  unfold pK;split;.simp
  .split
   .exact Nat.pow_pos nO
   .split
    .exact Nat.pow_pos nO
    .exact J6 _
 have h2:=lg (show 0<256 by decide) h;have A:=lg (show 0<256 by decide) hk;exact⟨nL,nL⟩
theorem El{t:nM TL}{k:Nat}{y:nM TL}(h:t.all oK=true)(A:t.sub[k]? =U y):y.all oK=true:=by
 cases C:y.all oK with
 |true=>rfl
 |false=>
  obtain⟨a,s⟩:=t;simp only[nM.all,j4]at h;simp only[nM.qx]at A;rw[nM.tO A C]at h;cases h.2
theorem Dv{t:nM TL}{x:nM IL}:∀{s:List (nM IL)}{i k:Nat},sP s t i=true->s[k]? =U x->∃y,rQ t (i+k)=U y/\um x y=true
 |[],_,k,_,h=>by simp at h
 |z::s,i,0,A,h=>by
  simp only[jN,mF]at h;subst h;simp only[sP,j4]at A;cases C:rQ t i with
  |none=>rw[C]at A;exact absurd A.1 nS
  |some y=>rw[C]at A;exact⟨y,rfl,A.1⟩
 |z::s,i,k+1,A,h=>by
  simp only[sP,j4]at A;obtain⟨y,h1,h2⟩:=Dv (s:=s) (i:=i+1) A.2 (by simpa using h);exact⟨y,by rw[<-h1];congr 1;omega,h2⟩
end
section
open Go.RowKit Go.Shelf
theorem bInfo:(Tryz.prog.info? 204).map (·.size)=U 2:=nN
theorem a6K:liesAt jI Tryz.prog.depth 204 (2/Tryz.prog.cellsOf 204) 0 204 1=true:=nN
theorem Zq:(Tryz.prog.info? 5).map (λi=>(i.zero,i.size,i.bytes))=U (U (nk .u8 0),1,1):=nN
theorem Ai(b:Nat)(w:jJ)(h0:w.cell? (Z b 0 V)=U (nA (U (Z b 0 V)))):
  jV jI 244 #[nA (U (Z b 0 V))] w λe w'=>e=nG (nE #[])/\w'=w:=by
 obtain⟨j,A,_⟩:=Option.map_eq_some_iff.1 bInfo;go_in;go_wp2;rw[Lib.run_neq_ptr_same w _ Tryz.underlying202 A];go_wp2;go_end0;exact⟨rfl,rfl⟩
theorem ze(b:Nat)(w:jJ)(h0:w.cell? (Z b 0 V)=U (nA V))(A:w.shape? b=U (204,2))(I:w.frozen? (Z b 0 V)=false):
  jV jI 244 #[nA (U (Z b 0 V))] w λe w'=>e=nG (nE #[])/\w'=w.setCell (Z b 0 V) (nA (U (Z b 0 V))):=by
 obtain⟨j,C,E⟩:=Option.map_eq_some_iff.1 bInfo;go_in;go_wp2;rw[Lib.run_to_unsafe w (Z b 0 V) Tryz.underlying202 Tryz.underlying298 C (by rw[E];decide) A (Nat.zero_lt_succ 1)];simp only[Result.andThen];rw[Oper.upon_value];go_wp2;rw[run_callFunc_extern Tryz.func269 nN nN nN (e:=Extern.AbiNoEscape.same) nN];rw[Lib.run_noEscape];simp only[Result.andThen];rw[Oper.upon_value];go_wp2;rw[Lib.run_from_unsafe w (Z b 0 V) Tryz.underlying298 Tryz.underlying202 C A a6K];simp only[Result.andThen];rw[Oper.upon_value];go_wp2;go_end0;exact⟨rfl,rfl⟩
theorem copyCheck(B b:Nat)(bs:List jP)(w:jJ)(h:Lib.IsBuilder 204 5 B b bs w):
  jV jI 244 #[nA (U (Z b 0 V))] w λe w'=>e=nG (nE #[])/\(Lib.BuilderAt 204 5 B b (nA (U (Z b 0 V))) bs w'/\jS B w w'):=by
 rcases h with h|h
 .refine(ze b w h.cell0 h.shape h.frozen0).mono ?_
  rintro e w' ⟨rfl,rfl⟩;exact⟨rfl,h.used _,(jT B w).setCell (p:=(Z b 0 V)) h.1 _⟩
 .refine(Ai b w h.cell0).mono ?_
  rintro e w' ⟨rfl,rfl⟩;exact⟨rfl,h,jT B _⟩
theorem a18(B b:Nat)(l:List UInt8)(w:jJ)(h:Lib.IsBuilder 204 5 B b (Lib.byteCells l) w)(A:B<=w.heap.size):
  jV jI 169 #[nA (U (Z b 0 V))] w λe w'=>e=nG (nz ⟨l.toArray⟩)/\jS B w w':=Tryz.Builder_String_any B b l w h A
theorem IV(l m:List UInt8):Lib.byteCells (l++m)=Lib.byteCells l++Lib.byteCells m:=by simp[Lib.byteCells]
def KT(w w':jJ):Prop:=∀(k:Nat)(cs:Array jP)(T:ko)(fr:Nat×Nat),(T !=5&&T !=204)=true->w.heap[k]? =U (nH cs T fr)->w'.heap[k]? =U (nH cs T fr)
theorem KT.refl(w:jJ):KT w w:=λ_ _ _ _ _ h=>h
theorem KT.trans{u v w:jJ}(h:KT u v)(k:KT v w):KT u w:=λa b c d n e=>k a b c d n (h a b c d n e)
theorem KT.of{w w':jJ}(h:jS w.heap.size w w'):KT w w':=λk cs T fr _ hk=>by rw[h.block k (ku.1 hk).1];exact hk
theorem KT.set{w:jJ}{b i:Nat}(h:∃cs fr,w.heap[b]? =U (nH cs 204 fr))(v:jP):KT w (w.setCell (Z b i V) v):=λk cs T fr A hk=>by
 rw[j6 _ _ _ _ (λe=>by
  simp at e;subst e;obtain⟨c,f,h⟩:=h;rw[h]at hk;cases hk;exact absurd A nO)]
 exact hk
theorem a4M{w:jJ}{B:Nat}{v:jP}{n:Nat}{xs:List jP}(h:w.ownsRow B 5 1 v n xs){k:Nat}{cs:Array jP}{T:ko}{fr:Nat×Nat}(C:(T !=5&&T !=204)=true)(A:v.ownBlock=U k)(hk:w.heap[k]? =U (nH cs T fr)):False:=by
 rcases h.2 with⟨rfl,_⟩|⟨g,cap,E,rfl,_,hg,_⟩
 .cases A
 .cases A
  rw[hg]at hk;cases hk;exact absurd C nO
theorem QH(B b:Nat)(bs:List jP)(w:jJ)(h:Lib.IsBuilder 204 5 B b bs w):
  jV jI 244 #[nA (U (Z b 0 V))] w λe w'=>e=nG (nE #[])/\(Lib.BuilderAt 204 5 B b (nA (U (Z b 0 V))) bs w'/\jS B w w'/\KT w w'):=by
 rcases h with h|h
 .refine(ze b w h.cell0 h.shape h.frozen0).mono ?_
  rintro e w' ⟨rfl,rfl⟩;obtain⟨v,A,_⟩:=h.2;exact⟨rfl,h.used _,(jT B w).setCell (p:=(Z b 0 V)) h.1 _,KT.set ⟨_,_,A⟩ _⟩
 .refine(Ai b w h.cell0).mono ?_
  rintro e w' ⟨rfl,rfl⟩;exact⟨rfl,h,jT B _,KT.refl _⟩
theorem Lt(B b:Nat)(bs:List jP)(s:ByteArray)(w:jJ)(h:Lib.IsBuilder 204 5 B b bs w)(hlen:bs.length+s.size<=140737488355328)(av:B<=w.heap.size):
  jV jI 207 #[nA (U (Z b 0 V)),nz s] w λe w'=>e=nG (nE #[nk nI s.size,.nilIface])/\(Lib.BuilderAt 204 5 B b (nA (U (Z b 0 V))) (bs++mD s) w'/\jS B w w'/\KT w w'):=by
 obtain⟨aj,hi,Y,aa,ae⟩:=info_parts Zq;have ak:=jH (QH B b bs w h);go_in;go_wp2_with fail;refine ak.mono ?_;rintro e w1 ⟨rfl,h1,N,af⟩;obtain⟨hB,v,I,E,ag⟩:=h1;have c0:w1.cell? (Z b 0 V)=U (nA (U (Z b 0 V))):=by rw[Lib.cell_of_heap I];rfl
 have c1:w1.cell? (Z b 1 V)=U v:=by rw[Lib.cell_of_heap I];rfl
 go_wp2_with (at_builtin;refine Lib.wpList_append_own_string _ rfl _ _ 86 9 rfl B 5 aj l6 mH hi Y aa ae _ _ _ rfl E s rfl ?c3 ?c4 ?c5 ?_);case c3=>unfold j3;omega
 case c4=>omega
 case c5=>have:=N.size;omega
 intro v' w2 J A _;have hlt:b<w1.heap.size:=by
  rcases kZ b w1.heap.size with O|O
  .exact O
  .simp[mZ O]at I
 have C:w2.heap[b]? =U (nH #[nA (U (Z b 0 V)),v] 204 (0,0)):=by
  rw[A.block b hlt (λe=>ag e.symm)];exact I
 have ay:w2.cell? (Z b 0 V)=U (nA (U (Z b 0 V))):=by rw[Lib.cell_of_heap C];rfl
 have az:w2.cell? (Z b 1 V)=U v:=by rw[Lib.cell_of_heap C];rfl
 have f1:w2.frozen? (Z b 1 V)=false:=Lib.frozen_of_heap C 1;obtain⟨ah,ai,cap,rfl⟩:∃ah ai cap,v'=ny ah ai cap:=by
  rcases J.2 with⟨Q,_⟩|⟨g,cap,ax,Q,_⟩
  .exact⟨_,_,_,Q⟩
  .exact⟨_,_,_,Q⟩
 go_wp2;go_ret2;refine⟨rfl,?_,?_,?_⟩;.exact Lib.BuilderAt.put (T:=204) (e:=5) hB C (bs':=bs++mD s) (by simpa [Lib.strCells_length]using J) nO
 .exact(N.grown A (by have:=N.size;omega) (λk hk=>(E.lt k hk).1)).setCell (p:=(Z b 1 V)) hB _
 .refine af.trans (KT.trans ?_ (KT.set ⟨_,_,C⟩ _))
  exact λk cs T fr au hk=>by
   rw[A.block k (ku.1 hk).1 (λe=>a4M E au e.symm hk)];exact hk
def BF(B b:Nat)(l:List UInt8)(w:jJ):Prop:=Lib.IsBuilder 204 5 B b (Lib.byteCells l) w
theorem Zr(B b:Nat)(l m:List UInt8)(w:jJ)(h:BF B b l w)(hlen:l.length+m.length<=100000000)(hB:B<=w.heap.size):
  jV jI 207 #[nA (U (Z b 0 V)),nz ⟨m.toArray⟩] w λe w'=>(∃v,e=nG v)/\BF B b (l++m) w'/\jS B w w'/\KT w w':=by
 have hl:(Lib.byteCells l).length=l.length:=by simp[Lib.byteCells]
 refine(Lt B b (Lib.byteCells l) ⟨m.toArray⟩ w h (by rw[hl];have:(⟨m.toArray⟩:ByteArray).size=m.length:=mP;omega) hB).mono λe w' ⟨h1,h2,A,C⟩=>⟨⟨_,h1⟩,?_,A,C⟩
 unfold BF;rw[IV];exact .inr h2
theorem BA.below{T e:ko}{B b:Nat}{p:jP}{bs:List jP}{w w':jJ}(h:Lib.BuilderAt T e B b p bs w)(hb:jS w.heap.size w w'):Lib.BuilderAt T e B b p bs w':=by
 obtain⟨h1,v,h2,C,E⟩:=h;refine⟨h1,v,by rw[hb.block b (ku.1 h2).1];exact h2,?_,E⟩;obtain⟨I,g2⟩:=C;refine⟨I,?_⟩;rcases g2 with g2|⟨g,cap,A,J,hg,hh,r⟩
 .exact .inl g2
 .refine .inr ⟨g,cap,A,J,hg,?_,r⟩
  rw[hb.block g (ku.1 hh).1];exact hh
theorem BF.below{B b:Nat}{l:List UInt8}{w w':jJ}(h:BF B b l w)(hb:jS w.heap.size w w'):BF B b l w':=by
 rcases h with h|h
 .exact .inl (BA.below h hb)
 .exact .inr (BA.below h hb)
theorem Vj(x:IL)(iv:jP)(w:jJ)(E:x.text.length<=j3)(hl:x.list=false):
  jV jI 206 #[nD #[nz (txt x),nC x.list,iv]] w λe w'=>e=nG (nE #[nk nJ (pK x.text).1,nk nI ((pK x.text).2:Nat)])/\jS w.heap.size w w':=by
 have hb:=nP.new w #[nz (txt x),nC x.list,iv] IT;have A:=(jT w.heap.size w).alloc (jK _) (nH #[nz (txt x),nC x.list,iv] IT);obtain⟨g,hg⟩:=nV w.heap.size;rw[hg]at hb A⊢;have C:=λW=>yM (txt x) W (by rw[sF];exact E)
 rw[Cx]at C;unfold n2 at C;have C:=jH C;have I:=jH A;obtain⟨tx,li⟩:=x;dsimp only at*;subst hl;generalize txt ⟨tx,false⟩=J at*;generalize (pK tx).1=N at*;generalize (pK tx).2=ge at*;obtain⟨c0,c1⟩:=hb.a2;clear hb A E;go_in;go_upto_region 1 with fail;generalize w.alloc _=w1 at*;go_wp2_with fail;refine(C _).mono ?_;rintro e w2 ⟨rfl,rfl⟩;go_wp2_with fail;go_returns;exact⟨rfl,I.out⟩
abbrev Lu(B:Nat)(w:jJ)(v:jP)(s:List (nM TL)):Prop:=oh.nX w (λk=>k<B) v s
abbrev Lv(B:Nat)(w:jJ)(v:jP)(s:List (nM IL)):Prop:=sU.nX w (λk=>k<B) v s
theorem Og.below{α:Type}{S:Shape α}{B:Nat}{w w':jJ}{v:jP}{s:List (nM α)}(h:S.nX w (λk=>k<B) v s)(hb:jS B w w'):S.nX w' (λk=>k<B) v s:=h.keep hb.size (λ_ _ h=>h) λk _ hk=>hb.block k hk
theorem Lu.at_{B:Nat}{w:jJ}{n cap:Nat}{s:List (nM TL)}(h:Lu B w (ny oa n cap) s){i:Nat}{x:nM TL}(A:s[i]? =U x):
  ∃b off ou cu,oa=U (Z b off V)/\b<B/\w.cell? (Z b (off+i*4) V)=U (nk nI x.lab.kind)/\w.cell? (Z b (off+i*4+1) V)=U (nk nI x.lab.size)/\
   w.cell? (Z b (off+i*4+2) V)=U (ny ou x.sub.length cu)/\w.cell? (Z b (off+i*4+3) V)=U (nk nI x.lab.tail)/\Lu B w (ny ou x.sub.length cu) x.sub:=by
 obtain⟨N,C,E,h1,h2,I⟩:=Shape.nX.get h;cases E;obtain⟨b,off,u,e,hb,J,ho,hc,hs⟩:=I i x A;obtain⟨ou,cu,rfl,_⟩:=Shape.nX.get hs;exact⟨b,off,ou,cu,e,J,by simpa [oh,kR]using hc 0 nO,by simpa [oh,kR]using hc 1 nO,by simpa [oh,kR]using hc 2 nO,by simpa [oh,kR]using hc 3 nO,hs⟩
theorem Lv.at_{B:Nat}{w:jJ}{n cap:Nat}{s:List (nM IL)}(h:Lv B w (ny oa n cap) s){i:Nat}{x:nM IL}(A:s[i]? =U x):
  ∃b off ou cu,oa=U (Z b off V)/\b<B/\w.cell? (Z b (off+i*3) V)=U (nz (txt x.lab))/\w.cell? (Z b (off+i*3+1) V)=U (nC x.lab.list)/\
   w.cell? (Z b (off+i*3+2) V)=U (ny ou x.sub.length cu)/\Lv B w (ny ou x.sub.length cu) x.sub/\x.lab.text.length<=j3:=by
 obtain⟨N,C,E,h1,h2,I⟩:=Shape.nX.get h;cases E;obtain⟨b,off,u,e,hb,J,ho,hc,hs⟩:=I i x A;obtain⟨ou,cu,rfl,_⟩:=Shape.nX.get hs;exact⟨b,off,ou,cu,e,J,by simpa [sU,txt,kR]using hc 0 nO,by simpa [sU,kR]using hc 1 nO,by simpa [sU,kR]using hc 2 nO,hs,ho⟩
def Lx(B b:Nat)(l:List UInt8)(w:jJ)(e:Ending)(w':jJ):Prop:=e=nG (nE #[])/\BF B b l w'/\jS B w w'/\KT w w'
structure JI(B b g:Nat)(t:nM TL)(x:IL)(tv iv:jP)(ts:List (nM TL))(xs:List (nM IL))(l:List UInt8)(w W:jJ):Prop where
 be:jS B w W
 kt:KT w W
 bf:BF B b l W
 tt:Lu B W tv ts
 ii:Lv B W iv xs
 tb:uV W
 tc:W.heap[g]? =U (nH #[nk nI t.lab.kind,nk nI t.lab.size,tv,nk nI t.lab.tail] EW (0,0))
 ic:W.heap[g+1]? =U (nH #[nz (txt x),nC x.list,iv] IT (0,0))
 lt:B<=g/\g+2<=W.heap.size
section
variable {B b g:Nat}{t:nM TL}{x:IL}{tv iv:jP}{ts:List (nM TL)}{xs:List (nM IL)}{l m:List UInt8}{w W W':jJ}
theorem JI.new(hB:0<B)(ht:Lu B w tv ts)(hi:Lv B w iv xs)(hb:BF B b l w)(C:uV w)(A:B<=w.heap.size)(h:(w.alloc (nH #[nk nI t.lab.kind,nk nI t.lab.size,tv,nk nI t.lab.tail] EW)).alloc (nH #[nz (txt x),nC x.list,iv] IT)=W):
  JI B b w.heap.size t x tv iv ts xs l w W:=by
 subst h;have a1:=(jT w.heap.size w).alloc (jK _) (nH #[nk nI t.lab.kind,nk nI t.lab.size,tv,nk nI t.lab.tail] EW);have a2:=a1.alloc nS (nH #[nz (txt x),nC x.list,iv] IT);have k:=nP.new (w.alloc (nH #[nk nI t.lab.kind,nk nI t.lab.size,tv,nk nI t.lab.tail] EW)) #[nz (txt x),nC x.list,iv] IT;rw[show(w.alloc (nH #[nk nI t.lab.kind,nk nI t.lab.size,tv,nk nI t.lab.tail] EW)).heap.size=w.heap.size+1 by simp]at k;exact⟨a2.mono A,KT.of a2,hb.below a2,Og.below ht (a2.mono A),Og.below hi (a2.mono A),C.below (a2.mono A) hB,(nP.new w _ _).alloc _,k,A,nS⟩
theorem JI.below(hB:0<B)(h:JI B b g t x tv iv ts xs l w W)(hb:jS W.heap.size W W'):JI B b g t x tv iv ts xs l w W':=by
 have h1:=h.lt;have q:=hb.mono (show B<=W.heap.size by omega);exact⟨h.be.trans q,h.kt.trans (KT.of hb),h.bf.below hb,Og.below h.tt q,Og.below h.ii q,h.tb.below q hB,by rw[hb.block g nL];exact h.tc,by rw[hb.block (g+1) nL];exact h.ic,h1.1,jY h1.2 hb.size⟩
theorem JI.wrote(hB:0<B)(h:JI B b g t x tv iv ts xs l w W)(hb:jS B W W')(hk:KT W W')(A:BF B b m W'):JI B b g t x tv iv ts xs m w W':=
 ⟨h.be.trans hb,h.kt.trans hk,A,Og.below h.tt hb,Og.below h.ii hb,h.tb.below hb hB,hk _ _ _ _ nO h.tc,hk _ _ _ _ nO h.ic,h.lt.1,jY h.lt.2 hb.size⟩
theorem JI.cells(h:JI B b g t x tv iv ts xs l w W):W.cell? (Z g 0 V)=U (nk nI t.lab.kind)/\W.cell? (Z g 1 V)=U (nk nI t.lab.size)/\W.cell? (Z g 2 V)=U tv/\
  W.cell? (Z (g+1) 0 V)=U (nz (txt x))/\W.cell? (Z (g+1) 1 V)=U (nC x.list)/\W.cell? (Z (g+1) 2 V)=U iv/\W.cell? (Z g 3 V)=U (nk nI t.lab.tail):=by
 have h1:nP W g _ _:=h.tc;have h2:nP W (g+1) _ _:=h.ic;exact⟨h1.cell 0,h1.cell 1,h1.cell 2,h2.cell 0,h2.cell 1,h2.cell 2,h1.cell 3⟩
theorem JI.put(hB:0<B)(h:JI B b g t x tv iv ts xs l w W)(m:List UInt8)(hlen:l.length+m.length<=100000000):
  jV jI 207 #[nA (U (Z b 0 V)),nz ⟨m.toArray⟩] W λe W'=>(∃v,e=nG v)/\JI B b g t x tv iv ts xs (l++m) w W':=
 (Zr B b l m W h.bf hlen (by have:=h.lt;omega)).mono λe W' ⟨h1,h2,A,C⟩=>⟨h1,h.wrote hB A C h2⟩
end
theorem Zt(h:p:=by
 simp only[ky,kL,mW,List.drop_zero];repeat(go_big_quiet_step (fail))
 refine mK ?_;intro kq;have hbd:jS wa.heap.size wa (wa.drewN kq):=⟨rfl,rfl,rfl,jK _,λ_ _=>rfl⟩;have HWB:=jH (OI.1.below hB hbd);have CZ:=jH (CY _ HWB (OI.2.2.trans (hbd.mono OI.2.2.size)));clear hbd;go_wp2_with fail;refine(CZ).mono ?_;rintro e wz ⟨rfl,a6L,hbz,hkz⟩;have HZ:=jH (HWB.wrote hB hbz hkz a6L);clear a6L hbz hkz;go_wp2_with fail;go_roundw;case rel=>exact⟨k+1,by go_num,nL,jH ⟨_,HZ.out,by rw[mG];exact HL2.out⟩⟩
 case measure=>simp[kT];omega):p:=h
theorem Zu(h:p:=by
 have q:=hb.mono (show B<=wr.heap.size by have:=HY.lt;omega);have h:=HIH.out x (kK hx) y W tou iou tcu icu l2 (Og.below hty q) (Og.below hix q) hW.bf hW.tb (El HR hy2) hfy hxl (by have h1:=congrArg List.length hl2;have h2:=congrArg List.length QI.out;have h3:=HL.out;simp only[j5]at h1 h2 h3;omega) (by have:=hW.lt;omega);rw[hyn,hxn,a2b]at h;exact h):p:=h
theorem Zv(h:p:=by
 obtain rfl:k=n:=nL;obtain⟨l2,HY,hl2⟩:=HD.out;rw[List.drop_of_length_le (mR HN.out)]at hl2;simp only[xU,List.append_nil]at hl2;have HQ:=jH (jU HY hl2);clear HY hl2 HD;go_wp2_with fail;go_end0;rw[<-HP.out];exact⟨rfl,by rw[<-HQ.2];exact HQ.1.bf,HQ.1.be,HQ.1.kt⟩):p:=h
theorem QJ(h:p:=by
 obtain⟨y,hy,_⟩:=Dv (k:=0) HFS rfl;simp[rQ,mU.1 (HNT.trans h3)]at hy):p:=h
theorem Zw(h:p:=by
 subst h;have hal:=(jT wr.heap.size wr).alloc (jK _) (nH #[nz TX2,nC x.lab.list,ny iou xn icu] IT);exact⟨HY.below hB hal,nP.new wr _ _,hal⟩):p:=h
theorem a2c(B b:Nat)(hB:0<B)(x:nM IL):∀(t:nM TL)(w:jJ)(ot oi:Option lH)(ct ci:Nat)(l:List UInt8),Lu B w (ny ot t.sub.length ct) t.sub->Lv B w (ny oi x.sub.length ci) x.sub->BF B b l w->uV w->
  t.all oK=true->um x t=true->x.lab.text.length<=j3->l.length+(Du x t).length<=100000000->B<=w.heap.size->
  jV jI 168 #[nA (U (Z b 0 V)),nD #[nk nI t.lab.kind,nk nI t.lab.size,ny ot t.sub.length ct,nk nI t.lab.tail],nD #[nz (txt x.lab),nC x.lab.list,ny oi x.sub.length ci]] w (Lx B b (l++Du x t) w):=by
 induction x using nM.ind with
 |h a s bI=>
  intro t w ot oi ct ci l ht hi hbf aL bB bJ aP hlen aX;simp only[nM.qx,nM.oZ]at hi aP⊢;obtain⟨g,hg⟩:=nV w.heap.size;have Q:=jH (λW=>JI.new (t:=t) (x:=a) (W:=W) hB ht hi hbf aL aX);rw[hg]at Q;have aY:=bB;have bK:um (.node a s) t=(rA t a s.length&&sP s t 0):=rfl;rw[bK,j4]at bJ;obtain⟨hk,aZ⟩:=bJ;have HFS:=jH aZ;have HR:=jH bB;have bg:Du (.node a s) t=Dt t a s.length++xU s t 0:=rfl;rw[bg]at hlen⊢;have HIH:=jH bI;obtain⟨⟨bL,af,tl⟩,A⟩:=t;simp only[nM.all,j4,oK,qA,decide_eq_true_eq]at aY;obtain⟨bq,_⟩:=aY;have HL:=jH hlen;have aQ:=jH hk;have cZ:B<=g:=nL;obtain⟨Y,aH⟩:=nV (txt a);have hsz:Y.size=a.text.length:=by rw[<-aH,sF]
  have C:=jH aH;have ak:=jH hsz;obtain⟨aA,aR⟩:∃m,l++(Dt (.node ⟨bL,af,tl⟩ A) a s.length++xU s (.node ⟨bL,af,tl⟩ A) 0)=m:=⟨_,rfl⟩;have QI:=jH aR;rw[aR,aH];obtain⟨n,hn⟩:=nV s.length;obtain⟨au,aI⟩:=nV A.length;simp only[nM.qx,nM.oZ]at Q⊢;rw[hn,aI]at Q⊢;have HN:=jH hn;have HNT:=jH aI;obtain⟨bT,bC⟩:=nV (Lx B b aA w);have HP:=jH bC;rw[bC];have bM:=jH aP;rw[aI]at bq;clear ht hi hbf aL bB hk aZ bK bg hlen aX aP bI aR aH hn aI bC hsz;rcases bq with⟨rfl,h2,h3,rfl⟩|⟨rfl,h2,av,h3,rfl⟩|⟨rfl,h2,av,h3,rfl⟩|⟨rfl,h2,av,h3,rfl⟩|⟨rfl,rfl,h3,df,dh⟩
  .have aa:=yB aQ nO
   have aB:Y.size<=65536:=by have:=ak.out;omega
   have aj:=aa.2;obtain⟨sz,rfl⟩:∃sz:Nat,af=sz:=⟨af.toNat,nL⟩;have aC:1<=sz/\sz<=8:=nL;have aJ:=Vi a.text sz nL aC.2;have hs:s=[]:=by
    cases s with
    |nil=>rfl
    |cons z s=>
     exact QJ
   subst hs;have QI:jX (l++vX sz (pK a.text).1=aA):=jH (by rw[<-QI.out];simp[Dt,xU]);have hlen:l.length+(vX sz (pK a.text).1).length<=100000000:=by have:=HL.out;simpa [Dt,xU]using this
   have aW:=jH (λW=>Vj a (ny oi n ci) W bM aj);rw[C.out]at aW;obtain⟨bD,bu⟩:=nV ((pK a.text).1);obtain⟨ge,bz⟩:=nV ((pK a.text).2);rw[bu]at aJ hlen QI aW;rw[bz]at aW;have bN:=jH (λW=>uS bD sz W aJ.2 aC.1 aC.2 aJ.1);obtain⟨bU,aS⟩:∃m,(⟨(vX sz bD).toArray⟩:ByteArray)=m:=⟨_,rfl⟩;rw[aS]at bN;have bO:=jH aS;clear h2 h3 aa bu bz aS aJ aB aj;go_in;go_upto_region 1 with fail;generalize hW:(w.alloc _).alloc _=w1;rw[<-C.out]at hW;have J:=jH (Q _ hW);clear hW Q;obtain⟨c0,c1,c2,E,N,d2,c3⟩:=J.cells;rw[C.out]at E;simp only[nM.oZ]at c0 c1 c3;go_wp2_with fail;refine(aW _).mono ?_;rintro e w2 ⟨rfl,ae⟩;have ag:=jH (J.below hB ae);clear ae c0 c1 c2 c3 E N d2;obtain⟨c0,c1,c2,E,N,d2,c3⟩:=ag.cells;rw[C.out]at E;simp only[nM.oZ]at c0 c1 c3;go_wp2_with fail;refine(bN _).mono ?_;rintro e w3 ⟨rfl,bA⟩;have aD:=jH (ag.below hB bA);clear bA c0 c1 c2 c3 E N d2;have ah:jX (jV jI 207 #[nA (U (Z b 0 V)),nz bU] w3 _):=jH (by rw[<-bO.out];exact aD.put hB (vX sz bD) hlen);go_wp2_with fail;refine(ah).mono ?_;rintro e w4 ⟨⟨r,rfl⟩,hw4⟩;have aF:=jH hw4;clear hw4;go_wp2_with fail;go_end0;rw[<-HP.out];exact⟨rfl,by rw[<-QI.out];exact aF.bf,aF.be,aF.kt⟩
  .have aa:=yB aQ nO
   have aB:Y.size<=65536:=by have:=ak.out;omega
   have aj:=aa.2;have hs:s=[]:=by
    cases s with
    |nil=>rfl
    |cons z s=>
     exact QJ
   subst hs;have QI:jX (l++a.text=aA):=jH (by rw[<-QI.out];simp[Dt,xU]);have hlen:l.length+(a.text).length<=100000000:=by have:=HL.out;simpa [Dt,xU]using this
   clear h2 av h3 aa aj;go_in;go_upto_region 1 with fail;generalize hW:(w.alloc _).alloc _=w1;rw[<-C.out]at hW;have J:=jH (Q _ hW);clear hW Q;obtain⟨c0,c1,c2,E,N,d2,c3⟩:=J.cells;rw[C.out]at E;simp only[nM.oZ]at c0 c1 c3;have ah:jX (jV jI 207 #[nA (U (Z b 0 V)),nz Y] w1 _):=jH (by rw[<-C.out];exact J.put hB a.text hlen);go_wp2_with fail;refine(ah).mono ?_;rintro e w2 ⟨⟨r,rfl⟩,hw2⟩;have ag:=jH hw2;clear hw2;go_wp2_with fail;go_end0;rw[<-HP.out];exact⟨rfl,by rw[<-QI.out];exact ag.bf,ag.be,ag.kt⟩
  .have aa:=yB aQ nO
   have aB:Y.size<=65536:=by have:=ak.out;omega
   have aj:=aa.2;have hs:s=[]:=by
    cases s with
    |nil=>rfl
    |cons z s=>
     exact QJ
   subst hs;have QI:jX (l++(wm Y.size++a.text)=aA):=jH (by rw[<-QI.out];rw[ak.out];simp[Dt,xU]);have hlen:l.length+((wm Y.size++a.text)).length<=100000000:=by have:=HL.out;rw[ak.out];simpa [Dt,xU]using this
   clear h2 av h3 aa aj;have aK:l.length+(wm Y.size).length<=100000000/\(l++wm Y.size).length+a.text.length<=100000000:=by simp only[j5]at hlen⊢;omega
   obtain⟨bE,ai⟩:∃m,(⟨(wm Y.size).toArray⟩:ByteArray)=m:=⟨_,rfl⟩;have aT:=jH ai;have aG:=jH (λW aL=>M9 Y.size W nL aL);rw[ai]at aG;clear ai hlen;go_in;go_upto_region 1 with fail;generalize hW:(w.alloc _).alloc _=w1;rw[<-C.out]at hW;have J:=jH (Q _ hW);clear hW Q;obtain⟨c0,c1,c2,E,N,d2,c3⟩:=J.cells;rw[C.out]at E;simp only[nM.oZ]at c0 c1 c3;have ax:=jH (aG w1 J.tb);go_wp2_with fail;refine(ax).mono ?_;rintro e w2 ⟨rfl,ae⟩;have ag:=jH (J.below hB ae);clear ae c0 c1 c2 c3 E N d2 aG ax;have ah:jX (jV jI 207 #[nA (U (Z b 0 V)),nz bE] w2 _):=jH (by rw[<-aT.out];exact ag.put hB (wm Y.size) aK.1);go_wp2_with fail;refine(ah).mono ?_;rintro e w3 ⟨⟨r,rfl⟩,hw3⟩;have aD:=jH hw3;clear hw3;clear ah;obtain⟨c0,c1,c2,E,N,d2,c3⟩:=aD.cells;rw[C.out]at E;simp only[nM.oZ]at c0 c1 c3;have ah:jX (jV jI 207 #[nA (U (Z b 0 V)),nz Y] w3 _):=jH (by rw[<-C.out];exact aD.put hB a.text aK.2);go_wp2_with fail;refine(ah).mono ?_;rintro e w4 ⟨⟨r,rfl⟩,hw4⟩;have aF:=jH hw4;clear hw4;go_wp2_with fail;go_end0;rw[<-HP.out];exact⟨rfl,by rw[<-QI.out,<-mG];exact aF.bf,aF.be,aF.kt⟩
  .have bP:n<=1024:=by have:(s.length:Int)<=af:=Oe aQ (.inl rfl);rw[HN.out]at this;omega
   have aK:l.length+(wm n).length<=100000000:=by have:=HL.out;rw[HN.out]at this;simp[Dt]at this;omega
   have QI:jX (l++wm n++xU s (.node ⟨4,af,0⟩ A) 0=aA):=jH (by rw[<-QI.out,HN.out];simp[Dt]);have HL:jX (l.length+(wm n++xU s (.node ⟨4,af,0⟩ A) 0).length<=100000000):=jH (by have:=HL.out;rw[HN.out]at this;simpa [Dt]using this);obtain⟨bE,ai⟩:∃m,(⟨(wm n).toArray⟩:ByteArray)=m:=⟨_,rfl⟩;have aT:=jH ai;have aG:=jH (λW aL=>M9 n W nL aL);rw[ai]at aG;clear ai h2 av h3;go_in;go_upto_region 1 with fail;generalize hW:(w.alloc _).alloc _=w1;rw[<-C.out]at hW;have J:=jH (Q _ hW);clear hW Q;obtain⟨c0,c1,c2,E,N,d2,c3⟩:=J.cells;rw[C.out]at E;simp only[nM.oZ]at c0 c1 c3;have ax:=jH (aG w1 J.tb);go_wp2_with fail;refine(ax).mono ?_;rintro e w2 ⟨rfl,ae⟩;have ag:=jH (J.below hB ae);clear ae c0 c1 c2 c3 E N d2 aG ax;have ah:jX (jV jI 207 #[nA (U (Z b 0 V)),nz bE] w2 _):=jH (by rw[<-aT.out];exact ag.put hB (wm n) aK);go_wp2_with fail;refine(ah).mono ?_;rintro e w3 ⟨⟨r,rfl⟩,hw3⟩;have aD:=jH hw3;clear hw3;clear ah;obtain⟨c0,c1,c2,E,N,d2,c3⟩:=aD.cells;rw[C.out]at E;simp only[nM.oZ]at c0 c1 c3;go_wp2_with fail;clear c0 c1 c2 c3 E N d2 J ag;go_loopw [64] (λiv bF=>∃k:Nat,iv=nk nI k/\k<=n/\jX (∃l2,JI B b g (.node ⟨4,af,0⟩ A) a (ny ot au ct) (ny oi n ci) A s l2 w bF/\l2++xU (s.drop k) (.node ⟨4,af,0⟩ A) k=aA)) (λiv _=>n -(kT iv).toNat);case atStart=>exact⟨0,rfl,nL,jH ⟨_,aD.out,by rw[List.drop_zero];exact QI.out⟩⟩
   case round=>
    obtain⟨k,rfl,hk,HD⟩:=hrel;by_cases c:k<n
    .obtain⟨x,hx⟩:∃x,s[k]? =U x:=⟨_,jW (by rw[HN.out];exact c)⟩
     obtain⟨y,hy,hfy⟩:=Dv HFS hx;rw[Nat.zero_add]at hy;have hy2:A[0]? =U y:=hy;obtain⟨l2,HY,hl2⟩:=HD.out;rw[JH hx hy]at hl2;obtain⟨tb,I,tou,tcu,rfl,bQ,aM,aN,y2,aO,hty⟩:=Lu.at_ HY.tt hy2;simp only[Nat.zero_mul,Nat.add_zero]at aM aN y2 aO;obtain⟨aU,ay,iou,icu,rfl,bR,aV,x1,x2,hix,hxl⟩:=Lv.at_ HY.ii hx;obtain⟨bG,hyn⟩:=nV y.sub.length;obtain⟨xn,hxn⟩:=nV x.sub.length;rw[hyn]at y2;rw[hxn]at x2;obtain⟨TX2,a2b⟩:=nV (txt x.lab);rw[a2b]at aV;have az:jX (∀W,wr.alloc (nH #[nz TX2,nC x.lab.list,ny iou xn icu] IT)=W->JI B b g (.node ⟨4,af,0⟩ A) a (ny (U (Z tb I V)) au ct) (ny (U (Z aU ay V)) n ci) A s l2 w W/\nP W wr.heap.size #[nz TX2,nC x.lab.list,ny iou xn icu] IT/\jS wr.heap.size wr W):=jH λW h=>by
      exact Zw
     have CY:jX (∀W,JI B b g (.node ⟨4,af,0⟩ A) a (ny (U (Z tb I V)) au ct) (ny (U (Z aU ay V)) n ci) A s l2 w W->jS wr.heap.size wr W->jV jI 168 #[nA (U (Z b 0 V)),nD #[nk nI y.lab.kind,nk nI y.lab.size,ny tou bG tcu,nk nI y.lab.tail],nD #[nz TX2,nC x.lab.list,ny iou xn icu]] W (Lx B b (l2++Du x y) W)):=jH λW hW hb=>by
      exact Zu
     have HL2:=jH hl2;have bS:B<=wr.heap.size:=by have:=HY.lt;omega
     have O:tb<wr.heap.size:=nL;have bH:0<au:=by rw[<-HNT.out];exact(lF.1 hy2).1
     clear HY hl2 hy hy2 hfy hix hty hx hxl;go_upto_region 16 with fail;generalize hW:wr.alloc _=wa;have OI:=jH (az _ hW);clear hW az;obtain⟨c0,c1,c2,E,N,d2,c3⟩:=OI.1.cells;obtain⟨bV,bW,bX⟩:=OI.2.1.a3;have bY:=(OI.2.2.cell (p:=(Z tb I V)) O).trans aM;have bZ:=(OI.2.2.cell (p:=(Z tb (I+1) V)) O).trans aN;have cz:=(OI.2.2.cell (p:=(Z tb (I+2) V)) O).trans y2;have cK:=(OI.2.2.cell (p:=(Z tb (I+3) V)) O).trans aO;clear aM aN y2 aO aV x1 x2;refine pU 6 nN nN ?_;exact Zt
    .exact Zv
  .have bP:n<=1024:=by have:s.length<=A.length:=Oe aQ (.inr rfl);rw[HNT.out,HN.out]at this;omega
   obtain⟨tl,rfl⟩:∃t:Nat,tl=t:=⟨tl.toNat,nL⟩;go_in;go_upto_region 1 with fail;generalize hW:(w.alloc _).alloc _=w1;rw[<-C.out]at hW;have J:=jH (Q _ hW);clear hW Q;obtain⟨c0,c1,c2,E,N,d2,c3⟩:=J.cells;rw[C.out]at E;simp only[nM.oZ]at c0 c1 c3;go_wp2_with fail;clear c0 c1 c2 c3 E N d2;go_loopw [81] (λiv bF=>∃k:Nat,iv=nk nI k/\k<=n/\jX (∃l2,JI B b g (.node ⟨5,0,tl⟩ A) a (ny ot au ct) (ny oi n ci) A s l2 w bF/\l2++xU (s.drop k) (.node ⟨5,0,tl⟩ A) k=aA)) (λiv _=>n -(kT iv).toNat);case atStart=>exact⟨0,rfl,nL,jH ⟨_,J.out,by rw[<-QI.out];simp[Dt]⟩⟩
   case round=>
    obtain⟨k,rfl,hk,HD⟩:=hrel;by_cases c:k<n
    .obtain⟨x,hx⟩:∃x,s[k]? =U x:=⟨_,jW (by rw[HN.out];exact c)⟩
     obtain⟨y,hy,hfy⟩:=Dv HFS hx;rw[Nat.zero_add]at hy;have hy2:A[k]? =U y:=hy;obtain⟨l2,HY,hl2⟩:=HD.out;rw[JH hx hy]at hl2;obtain⟨tb,I,tou,tcu,rfl,bQ,aM,aN,y2,aO,hty⟩:=Lu.at_ HY.tt hy2;obtain⟨aU,ay,iou,icu,rfl,bR,aV,x1,x2,hix,hxl⟩:=Lv.at_ HY.ii hx;obtain⟨bG,hyn⟩:=nV y.sub.length;obtain⟨xn,hxn⟩:=nV x.sub.length;rw[hyn]at y2;rw[hxn]at x2;obtain⟨TX2,a2b⟩:=nV (txt x.lab);rw[a2b]at aV;have az:jX (∀W,wr.alloc (nH #[nz TX2,nC x.lab.list,ny iou xn icu] IT)=W->JI B b g (.node ⟨5,0,tl⟩ A) a (ny (U (Z tb I V)) au ct) (ny (U (Z aU ay V)) n ci) A s l2 w W/\nP W wr.heap.size #[nz TX2,nC x.lab.list,ny iou xn icu] IT/\jS wr.heap.size wr W):=jH λW h=>by
      exact Zw
     have CY:jX (∀W,JI B b g (.node ⟨5,0,tl⟩ A) a (ny (U (Z tb I V)) au ct) (ny (U (Z aU ay V)) n ci) A s l2 w W->jS wr.heap.size wr W->jV jI 168 #[nA (U (Z b 0 V)),nD #[nk nI y.lab.kind,nk nI y.lab.size,ny tou bG tcu,nk nI y.lab.tail],nD #[nz TX2,nC x.lab.list,ny iou xn icu]] W (Lx B b (l2++Du x y) W)):=jH λW hW hb=>by
      exact Zu
     have HL2:=jH hl2;have bS:B<=wr.heap.size:=by have:=HY.lt;omega
     have O:tb<wr.heap.size:=nL;have bH:k<au:=by rw[<-HNT.out];exact(lF.1 hy2).1
     clear HY hl2 hy hy2 hfy hix hty hx hxl;go_upto_region 22 with fail;generalize hW:wr.alloc _=wa;have OI:=jH (az _ hW);clear hW az;obtain⟨c0,c1,c2,E,N,d2,c3⟩:=OI.1.cells;obtain⟨bV,bW,bX⟩:=OI.2.1.a3;have bY:=(OI.2.2.cell (p:=(Z tb (I+k*4) V)) O).trans aM;have bZ:=(OI.2.2.cell (p:=(Z tb (I+k*4+1) V)) O).trans aN;have cz:=(OI.2.2.cell (p:=(Z tb (I+k*4+2) V)) O).trans y2;have cK:=(OI.2.2.cell (p:=(Z tb (I+k*4+3) V)) O).trans aO;clear aM aN y2 aO aV x1 x2;refine pU 7 nN nN ?_;exact Zt
    .exact Zv
theorem QK(x:nM IL)(w:jJ)(o:Option lH)(c:Nat)(I:pJ w (ny o x.sub.length c) x.sub)(J:x.all qz=true):
  jV jI 167 #[nD #[nz (txt x.lab),nC x.lab.list,ny o x.sub.length c]] w λe w'=>e=nG (nk nI (EG x))/\jS w.heap.size w w':=by
 have E:=jH (rT (T:=txt x.lab) (l:=x.lab.list) (t:=IT) I);have N:=jH (λ(W:jJ) (h:pJ W (ny o x.sub.length c) x.sub)=>Gi 205 x W _ h (.inr ⟨rfl,J⟩));obtain⟨g,hg⟩:=nV w.heap.size;rw[hg]at E⊢;generalize EG x=sn at*;generalize MV x=ae at*;generalize rZ x=af at*;clear I J;go_in;go_upto_region 1 with fail;generalize w.alloc _=w1 at*;obtain⟨A,ht1,hsz,c0,c1,c2,_⟩:=E.out _ rfl;have O:=jH (N _ ht1);have Y:=jH A;have aa:=jH hsz;clear E ht1 A hsz N;go_wp2_with fail;refine O.mono ?_;rintro e w2 ⟨rfl,C⟩;have Q:=jH (Y.trans (C.mono (by have:=aa.out;omega)));clear C c0 c1 c2;go_wp2_with fail;go_returns;exact⟨rfl,Q.out⟩
def SS(t:nM TL):Bool:=nM.o7 p0 t.sub&&p9 t
def Aj(t:nM TL)(x:nM IL)(items:Int):ByteArray×Int:=
 if SS t=true then if rC t x=0 then if items<(x.count:Int)then(⟨#[]⟩,4)else(⟨(Du x t).toArray⟩,0)else(⟨#[]⟩,rC t x)else(⟨#[]⟩,1)
theorem Oh{t:nM TL}{x:nM IL}(h:rC t x=0):p9 t=true/\rZ x=true/\um x t=true:=by
 unfold rC at h;split at h
 .rename_i h1
  split at h;.rename_i h2;exact⟨h1.1,h1.2,h2⟩
  .exact absurd h nO
 .exact absurd h nO
theorem Oi{t:nM TL}(h:t.all oK=true):t.lab.kind=1\/t.lab.kind=2\/t.lab.kind=3->t.lab.size<=65536:=by
 obtain⟨⟨A,C,tl⟩,ts⟩:=t;simp only[nM.all,j4,oK,qA,decide_eq_true_eq]at h;simp only[nM.oZ];obtain⟨h,_⟩:=h;omega
mutual
theorem LA:∀(x:nM IL)(t:nM TL),t.all oK=true->um x t=true->(Du x t).length<=70000*x.count
 | .node a s,t,O,Q=>by
  have C:(rA t a s.length&&sP s t 0)=true:=Q;rw[j4]at C;have h1:=SV s t 0 O C.2;have h2:(Dt t a s.length).length<=70000:=by
   have E:=Oi O;obtain⟨⟨A,Y,tl⟩,ts⟩:=t;simp only[nM.oZ]at E;show(if A=1 then vX Y.toNat (pK a.text).1 else if A=2 then a.text else if A=3 then wm a.text.length++a.text else if A=4 then wm s.length else []).length<=70000;by_cases N:A=1;.rw[if_pos N,qG];have:=E (.inl N);omega
   rw[if_neg N];by_cases I:A=2;.rw[if_pos I];have:=(yB C.1 (.inr (.inl I))).1;have:=E (.inr (.inl I));omega
   rw[if_neg I];by_cases J:A=3;.rw[if_pos J,j5];have:=(yB C.1 (.inr (.inr J))).1;have:=E (.inr (.inr J));have:=RP a.text.length;omega
   rw[if_neg J];split;.have:=RP s.length;omega
   .simp
  have aa:(nM.node a s).count=1+nM.nZ s:=rfl;rw[Du,j5,aa];omega
theorem SV:∀(s:List (nM IL))(t:nM TL)(i:Nat),t.all oK=true->sP s t i=true->(xU s t i).length<=70000*nM.nZ s
 |[],_,_,_,_=>by simp[xU]
 |x::xs,t,i,E,A=>by
  simp only[sP,j4]at A;have h2:=SV xs t (i+1) E A.2;have I:nM.nZ (x::xs)=x.count+nM.nZ xs:=rfl;rw[xU,j5,I];cases C:rQ t i with
  |none=>rw[C]at A;exact absurd A.1 nS
  |some y=>
   rw[C]at A;have J:y.all oK=true:=by
    unfold rQ at C;split at C;.exact El E C
    .exact El E C
   have h1:=LA x y J A.1;dsimp only;omega
end
theorem lpB{g:Nat}{c1 c2:Array jP}{C E:ko}{w W A:jJ}(h:nP W g c1 C/\nP W (g+1) c2 E/\jS g w W)(hb:jS W.heap.size W A):nP A g c1 C/\nP A (g+1) c2 E/\jS g w A:=
 ⟨Below.blk hb h.1 h.1.lt,Below.blk hb h.2.1 h.2.1.lt,h.2.2.trans (hb.mono (mX h.1.lt))⟩
theorem a2d(t:nM TL)(x:nM IL)(items:Int)(w:jJ)(ot oi:Option lH)(ct ci:Nat)(aC:oQ w (ny ot t.sub.length ct) t.sub)(aD:pJ w (ny oi x.sub.length ci) x.sub)(aF:x.lab.text.length<=j3)(bq:pW w)(bu:uV w):
  jV jI 118 #[nD #[nk nI t.lab.kind,nk nI t.lab.size,ny ot t.sub.length ct,nk nI t.lab.tail],nD #[nz (txt x.lab),nC x.lab.list,ny oi x.sub.length ci],nk nI items] w (pV (Aj t x items).1 (Aj t x items).2 w):=by
 obtain⟨g,hg⟩:=nV w.heap.size;have aG:=bq.lt;have aH:=bu.lt;have Q:jX (∀W,(w.alloc (nH #[nk nI t.lab.kind,nk nI t.lab.size,ny ot t.sub.length ct,nk nI t.lab.tail] EW)).alloc (nH #[nz (txt x.lab),nC x.lab.list,ny oi x.sub.length ci] IT)=W->nP W g #[nk nI t.lab.kind,nk nI t.lab.size,ny ot t.sub.length ct,nk nI t.lab.tail] EW/\nP W (g+1) #[nz (txt x.lab),nC x.lab.list,ny oi x.sub.length ci] IT/\jS g w W):=jH λW J=>by
  subst J;have a1:=(jT w.heap.size w).alloc (jK _) (nH #[nk nI t.lab.kind,nk nI t.lab.size,ny ot t.sub.length ct,nk nI t.lab.tail] EW);have bD:=nP.new (w.alloc (nH #[nk nI t.lab.kind,nk nI t.lab.size,ny ot t.sub.length ct,nk nI t.lab.tail] EW)) #[nz (txt x.lab),nC x.lab.list,ny oi x.sub.length ci] IT;rw[show(w.alloc (nH #[nk nI t.lab.kind,nk nI t.lab.size,ny ot t.sub.length ct,nk nI t.lab.tail] EW)).heap.size=g+1 by simp[hg]]at bD;exact⟨(hg▸nP.new w _ _:nP _ g _ _).alloc _,bD,hg▸a1.alloc nS _⟩
 rw[hg]at aG aH;have ai:jX (∀W,jS g w W->oQ W (ny ot t.sub.length ct) t.sub/\pJ W (ny oi x.sub.length ci) x.sub/\pW W/\uV W/\∀B,g<=B->Lu B W (ny ot t.sub.length ct) t.sub/\Lv B W (ny oi x.sub.length ci) x.sub):=jH λW h=>by
  rw[<-hg]at h;exact⟨Shape.nX.below aC h,Shape.nX.below aD h,bq.below h (hg▸aG),bu.below h (hg▸aH),λB hB=>⟨Shape.nX.keep aC h.size (λb hb _=>by show b<B;omega) (λb hb _=>h.block b hb),Shape.nX.keep aD h.size (λb hb _=>by show b<B;omega) (λb hb _=>h.block b hb)⟩⟩
 have aB:=jH (λ(W:jJ) (h:jS g w W)=>D6 t W _ (ai W h).1 (ai W h).2.2.1);have aI:=jH (λ(W:jJ) (h:jS g w W)=>BV t x W _ _ (ai W h).1 (ai W h).2.1 aF (ai W h).2.2.1);have bE:=jH (λ(W:jJ) (h:jS g w W) (bz:x.all qz=true)=>QK x W oi ci (ai W h).2.1 bz);have bF:=jH (λ(W:jJ) (h:jS g w W) (B b:Nat) (hB:g<=B) (hbf:BF B b [] W) (bG:B<=W.heap.size) (bz:t.all oK=true) (bO:um x t=true) (hl:(Du x t).length<=100000000)=>
  a2c B b nL x t W ot oi ct ci [] ((ai W h).2.2.2.2 B hB).1 ((ai W h).2.2.2.2 B hB).2 hbf (ai W h).2.2.2.1 bz bO aF (by simpa using hl) bG)
 have aU:jX (SS t=(nM.o7 p0 t.sub&&p9 t)):=jH rfl;obtain⟨bH,aJ⟩:=nV (Aj t x items);have aQ:=jH aJ;rw[aJ];have aV:∀(T:ByteArray)(er:Int) e bA,(e=nG (nE #[nz T,nk nI er])/\jS g w bA)->pV T er w e bA:=λT er e bA h=>by unfold pV;rw[hg];exact h
 have ay:=jH aV;obtain⟨bP,bB⟩:=nV (pV bH.1 bH.2 w);have aR:=jH bB;rw[bB];clear aD aC aF bq bu aG aH aJ aV bB;cases ah:(nM.o7 p0 t.sub&&p9 t)with
 |false=>
  have aj:SS t=false:=aU.trans ah;have ak:=jH aj;rw[ah]at aB;clear aj ah;go_in;go_upto_region 1 with fail;generalize J:(w.alloc _).alloc _=w1;have A:=jH (Q _ J);clear J Q;obtain⟨c0,c1,c2,c3⟩:=A.1.a4;obtain⟨C,E,d2⟩:=A.2.1.a3;have ae:=jH (aB w1 A.2.2);go_wp2_with fail;refine(ae).mono ?_;rintro e w2 ⟨rfl,I⟩;have O:=jH (lpB A I);clear c0 c1 c2 c3 C E d2;clear I;go_wp2_with fail;try go_returns
  rw[<-aR.out,<-aQ.out];unfold Aj;rw[if_neg (by rw[ak.out];decide)];exact ay _ _ _ _ ⟨rfl,O.2.2⟩
 |true=>
  have aj:SS t=true:=aU.trans ah;have ak:=jH aj;rw[ah]at aB;clear aj ah;by_cases Y:rC t x=0
  .have af:=jH (Oh Y)
   have az:=jH Y;rw[Y]at aI;have aW:EG x=(x.count:Int):=by unfold EG;rw[if_pos af.2.1]
   have aA:=jH (λ(W:jJ) (h:jS g w W)=>bE.out W h (BU af.2.1).1);rw[aW]at aA;clear Y bE aW;obtain⟨N,bC⟩:∃n:Int,(x.count:Int)=n:=⟨_,rfl⟩;rw[bC]at aA;have bI:=jH bC;clear bC;by_cases hit:items<N
   .have bQ:decide (items<N)=true:=nT
    have bJ:decide (N>items)=true:=nT;have aK:=jH hit;clear hit;go_in;go_upto_region 1 with fail;generalize J:(w.alloc _).alloc _=w1;have A:=jH (Q _ J);clear J Q;obtain⟨c0,c1,c2,c3⟩:=A.1.a4;obtain⟨C,E,d2⟩:=A.2.1.a3;have ae:=jH (aB w1 A.2.2);go_wp2_with fail;refine(ae).mono ?_;rintro e w2 ⟨rfl,I⟩;have O:=jH (lpB A I);clear c0 c1 c2 c3 C E d2;clear I;obtain⟨c0,c1,c2,c3⟩:=O.1.a4;obtain⟨C,E,d2⟩:=O.2.1.a3;have au:=jH (aI w2 O.2.2);go_wp2_with fail;refine(au).mono ?_;rintro e w3 ⟨rfl,aa⟩;have ag:=jH (lpB O aa);clear c0 c1 c2 c3 C E d2;clear aa;obtain⟨c0,c1,c2,c3⟩:=ag.1.a4;obtain⟨C,E,d2⟩:=ag.2.1.a3;have aL:=jH (aA w3 ag.2.2);go_wp2_with fail;refine(aL).mono ?_;rintro e w4 ⟨rfl,av⟩;have aS:=jH (lpB ag av);clear c0 c1 c2 c3 C E d2;clear av;go_wp2_with fail;try go_returns
    rw[<-aR.out,<-aQ.out];unfold Aj;rw[if_pos ak.out,if_pos az.out,if_pos (by rw[bI.out];exact aK.out)];exact ay _ _ _ _ ⟨rfl,aS.2.2⟩
   .have bQ:decide (items<N)=false:=nT
    have bJ:decide (N>items)=false:=nT;have aK:=jH hit;clear hit;go_in;go_upto_region 1 with fail;generalize J:(w.alloc _).alloc _=w1;have A:=jH (Q _ J);clear J Q;obtain⟨c0,c1,c2,c3⟩:=A.1.a4;obtain⟨C,E,d2⟩:=A.2.1.a3;have ae:=jH (aB w1 A.2.2);go_wp2_with fail;refine(ae).mono ?_;rintro e w2 ⟨rfl,I⟩;have O:=jH (lpB A I);clear c0 c1 c2 c3 C E d2;clear I;obtain⟨c0,c1,c2,c3⟩:=O.1.a4;obtain⟨C,E,d2⟩:=O.2.1.a3;have au:=jH (aI w2 O.2.2);go_wp2_with fail;refine(au).mono ?_;rintro e w3 ⟨rfl,aa⟩;have ag:=jH (lpB O aa);clear c0 c1 c2 c3 C E d2;clear aa;obtain⟨c0,c1,c2,c3⟩:=ag.1.a4;obtain⟨C,E,d2⟩:=ag.2.1.a3;have aL:=jH (aA w3 ag.2.2);go_wp2_with fail;refine(aL).mono ?_;rintro e w4 ⟨rfl,av⟩;have aS:=jH (lpB ag av);clear c0 c1 c2 c3 C E d2;clear av;have bK:jX (∀W,w4.alloc (nH #[nA V,ny V 0 0] 204)=W->jS w4.heap.size w4 W/\BF w4.heap.size w4.heap.size [] W/\W.heap.size=w4.heap.size+1):=jH λW h=>by
     subst h;exact⟨(jT w4.heap.size w4).alloc (jK _) _,.inl ⟨jK _,ny V 0 0,nP.new w4 _ _,World.ownsRow_nil _ _ _ _,by simp[kJ]⟩,nS⟩
    go_upto_region 9 with fail;generalize J:w4.alloc _=w5;obtain⟨aX,hbf,aY⟩:=bK.out _ J;have aT:=jH (lpB aS aX);have aM:g<=w4.heap.size:=mX aS.1.lt;have bL:jX ((Du x t).length<=100000000):=jH (by have h1:=LA x t (CR af.1) af.2.2;have h2:x.count<=1024:=by{have:=af.2.1;unfold rZ at this;simp only[j4,decide_eq_true_eq]at this;exact this.2};omega);have aZ:=jH (bF w5 aT.2.2 w4.heap.size w4.heap.size aM hbf nL (CR af.1) af.2.2 bL);have aN:=jH (jU aY aM);clear J bK aX hbf aY aM bF;obtain⟨c0,c1,c2,c3⟩:=aT.1.a4;obtain⟨C,E,d2⟩:=aT.2.1.a3;go_wp2_with fail;refine aZ.mono ?_;rintro e bM ⟨rfl,aO,aP,_⟩;have bR:=jH (a18 w4.heap.size w4.heap.size (Du x t) bM aO (by have:=aP.size;have:=aN.out;omega));have bS:jX (jS g w bM):=jH (aT.2.2.trans (aP.mono aN.2));clear aO aP aZ;clear c0 c1 c2 c3 C E d2;go_wp2_with fail;refine bR.mono ?_;rintro e bU ⟨rfl,bg⟩;have bT:=jH (bS.trans (bg.mono aN.2));clear bg;go_wp2_with fail;try go_returns
    rw[<-aR.out,<-aQ.out];unfold Aj;rw[if_pos ak.out,if_pos az.out,if_neg (by rw[bI.out];have:=aK.out;omega)];exact ay _ _ _ _ ⟨rfl,bT.out⟩
  .have az:=jH Y
   obtain⟨fe,ax⟩:=nV (rC t x);have bN:=jH ax;rw[ax]at aI Y;have bV:((fe:Int)==0)=false:=by rw[beq_eq_false_iff_ne];exact Y
   clear Y ax;go_in;go_upto_region 1 with fail;generalize J:(w.alloc _).alloc _=w1;have A:=jH (Q _ J);clear J Q;obtain⟨c0,c1,c2,c3⟩:=A.1.a4;obtain⟨C,E,d2⟩:=A.2.1.a3;have ae:=jH (aB w1 A.2.2);go_wp2_with fail;refine(ae).mono ?_;rintro e w2 ⟨rfl,I⟩;have O:=jH (lpB A I);clear c0 c1 c2 c3 C E d2;clear I;obtain⟨c0,c1,c2,c3⟩:=O.1.a4;obtain⟨C,E,d2⟩:=O.2.1.a3;have au:=jH (aI w2 O.2.2);go_wp2_with fail;refine(au).mono ?_;rintro e w3 ⟨rfl,aa⟩;have ag:=jH (lpB O aa);clear c0 c1 c2 c3 C E d2;clear aa;go_wp2_with fail;try go_returns
   rw[<-aR.out,<-aQ.out];unfold Aj;rw[if_pos ak.out,if_neg az.out,bN.out];exact ay _ _ _ _ ⟨rfl,ag.2.2⟩
end
section
open Go.RowKit
abbrev FnT:ko:=121
structure IW(g:Nat)(w:jJ)(t:TL)(tv:jP)(a:IL)(iv:jP)(deep most:Int)(s:ByteArray)(W:jJ):Prop where
 t:nP W g #[nk nI t.kind,nk nI t.size,tv,nk nI t.tail] 63
 x:nP W (g+1) #[nz (txt a),nC a.list,iv] IT
 d:nP W (g+2) #[nk nI deep] 3
 m:nP W (g+3) #[nk nI most] 3
 o:nP W (g+4) #[nz s] 9
 f:nP W (g+5) #[.func (.func 156) #[] #[nA (U (Z g 0 V)),nA (U (Z (g+1) 0 V))],
  .func (.func 158) #[] #[nA (U (Z (g+1) 0 V)),nA (U (Z (g+2) 0 V)),nA (U (Z (g+3) 0 V))],
  .func (.func 160) #[] #[nA (U (Z (g+1) 0 V)),nA (U (Z (g+4) 0 V))]] FnT
 b:jS g w W
section
variable {g:Nat}{w W W':jJ}{t:TL}{tv iv:jP}{a:IL}{deep most:Int}{s:ByteArray}
theorem IW.below(h:IW g w t tv a iv deep most s W)(hb:jS W.heap.size W W'):IW g w t tv a iv deep most s W':=
 ⟨Below.blk hb h.t h.t.lt,Below.blk hb h.x h.x.lt,Below.blk hb h.d h.d.lt,Below.blk hb h.m h.m.lt,Below.blk hb h.o h.o.lt,Below.blk hb h.f h.f.lt,h.b.trans (hb.mono (by have:=h.t.lt;omega))⟩
theorem IW.put(h:IW g w t tv a iv deep most s W)(A:ByteArray):IW g w t tv a iv deep most A (W.setCell (Z (g+4) 0 V) (nz A)):=
 have o:∀{n:Nat}{cs:Array jP}{t:ko},nP W n cs t->n≠g+4->nP (W.setCell (Z (g+4) 0 V) (nz A)) n cs t:=λh hn=>h.setOther (a:=(Z (g+4) 0 V)) hn _
 ⟨o h.t nL,o h.x nL,o h.d nL,o h.m nL,h.o.set 0 _,o h.f nL,h.b.setCell (p:=(Z (g+4) 0 V)) nS _⟩
end
theorem a4N(t:nM TL)(x:nM IL)(w:jJ)(tv iv:jP)(A:oQ w tv t.sub)(C:pJ w iv x.sub)(I:x.lab.text.length<=j3)(J:pW w)(deep most:Int)(s:ByteArray)(W:jJ)(h:IW w.heap.size w t.lab tv x.lab iv deep most s W):
  jV jI 156 #[nA (U (Z w.heap.size 0 V)),nA (U (Z (w.heap.size+1) 0 V))] W λe w'=>e=nG (nk nI (rC t x))/\IW w.heap.size w t.lab tv x.lab iv deep most s w':=by
 have N:=jH (BV t x W tv iv (Shape.nX.below A h.b) (Shape.nX.below C h.b) I (J.below h.b J.lt));have H:=jH h;obtain⟨t0,Q,Y,t3⟩:=h.t.a4;obtain⟨aa,ae,af⟩:=h.x.a3;clear h A C I J;generalize rC t x=E at*;generalize w.heap.size=g at*;go_in;go_wp2_with fail;refine N.mono ?_;rintro e w2 ⟨rfl,hb⟩;have O:=jH (H.below hb);clear hb;go_wp2_with fail;go_returns;exact⟨rfl,O.out⟩
theorem a4O(t:nM TL)(x:nM IL)(w:jJ)(tv iv:jP)(A:pJ w iv x.sub)(deep most:Int)(s:ByteArray)(W:jJ)(h:IW w.heap.size w t.lab tv x.lab iv deep most s W):
  jV jI 158 #[nA (U (Z (w.heap.size+1) 0 V)),nA (U (Z (w.heap.size+2) 0 V)),nA (U (Z (w.heap.size+3) 0 V))] W λe w'=>e=nG (nk nI (zN x deep most))/\IW w.heap.size w t.lab tv x.lab iv deep most s w':=by
 have C:=jH (Uh x deep most W iv (Shape.nX.below A h.b));have H:=jH h;obtain⟨J,N,O⟩:=h.x.a3;have Q:=h.d.c0;have Y:=h.m.c0;clear h A;generalize zN x deep most=E at*;generalize w.heap.size=g at*;go_in;go_wp2_with fail;refine C.mono ?_;rintro e w2 ⟨rfl,hb⟩;have I:=jH (H.below hb);clear hb;go_wp2_with fail;go_returns;exact⟨rfl,I.out⟩
def Dw(x:nM IL):ByteArray:=if rZ x=true then⟨(enc x).toArray⟩else⟨#[]⟩
def LB(x:nM IL):Int:=if rZ x=true then 0 else 1
theorem a4P(t:nM TL)(x:nM IL)(w:jJ)(tv iv:jP)(A:pJ w iv x.sub)(C:x.lab.text.length<=j3)(I:∀W,jS w.heap.size w W->jV jI 161 #[nD #[nz (txt x.lab),nC x.lab.list,iv]] W λe w'=>e=nG (nE #[nz (Dw x),nk nI (LB x)])/\jS W.heap.size W w')(deep most:Int)(s:ByteArray)(W:jJ)(h:IW w.heap.size w t.lab tv x.lab iv deep most s W):
  jV jI 160 #[nA (U (Z (w.heap.size+1) 0 V)),nA (U (Z (w.heap.size+4) 0 V))] W λe w'=>e=nG (nk nI (LB x))/\IW w.heap.size w t.lab tv x.lab iv deep most (Dw x) w':=by
 have N:=jH (I W h.b);have H:=jH h;obtain⟨O,Q,Y⟩:=h.x.a3;clear h A C I;generalize LB x=E at*;generalize Dw x=S at*;generalize w.heap.size=g at*;go_in;go_wp2_with fail;refine N.mono ?_;rintro e w2 ⟨rfl,hb⟩;have J:=jH (H.below hb);obtain⟨o0,aa⟩:=J.o.b1;clear hb;go_wp2_with fail;go_returns;exact⟨rfl,J.put S⟩
end
end Go.Proofs.YtamfcjmhnndbdaaGreatDoor


