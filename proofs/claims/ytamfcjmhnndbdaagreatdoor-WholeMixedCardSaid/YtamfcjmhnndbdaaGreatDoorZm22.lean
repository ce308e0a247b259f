/- Part 22 of the proof. -/
import Derived.Test.YtamfcjmhnndbdaaGreatDoorZm00
import Derived.Test.YtamfcjmhnndbdaaGreatDoorZm20
import Derived.Test.YtamfcjmhnndbdaaGreatDoorZm21
open Go.Value renaming agg→nD,bool→nC,int→nk,slice→ny,string→nz
open Go.Obj renaming cells→nH
open Go.IntKind renaming i64→nI,u32→nK
open Go.Ending renaming returned→nG
open Go.Lib renaming hid→jH
open Go.Proofs.Tryz renaming prog→jI
open Go renaming World→jJ,Calls→jV,maxLen→j3,Addr→lH
open List renaming setIfInBounds_toArray→jL,set_cons_zero→jQ,set_cons_succ→jR,getElem?_eq_getElem→jW,mem_of_getElem?→kK,drop_succ_cons→mW
open Go.RowKit renaming Below→jS,Hid→jX,intOf→kT
open Go.RowKit.Below renaming refl→jT
open And renaming intro→jU
open Nat renaming le_trans→jY,zero_le→kH,lt_succ_self→lK
open Option renaming none→V,some→U
open Go.Addr renaming mk→Z
namespace Go.Proofs.YtamfcjmhnndbdaaGreatDoor
set_option linter.unusedVariables false
set_option linter.unusedSimpArgs false
set_option maxRecDepth 100000
set_option maxHeartbeats 8000000
section
open Go.RowKit
theorem OC(c:oF)(a1:Option lH)(vM vN:Nat)(aB:List wV)(a2:Option lH)(A aa:Nat)(ops:List OpV)(w:jJ)(bF:c.wf)(he:QV w a1 vM vN aB)(ho:Tg w a2 A aa ops)(ag:pW w/\uV w):
  jV jI 7 #[c.v,ny a1 vM vN,ny a2 A aa] w λe w'=>e=nG (nC true)/\jS w.heap.size w w':=by
 obtain⟨dH,ah⟩:=he;obtain⟨bY,dI,bZ,dJ,cz⟩:=id ho;have fu:A<=9223372036854775807:=by unfold j3 at bZ;omega
 obtain⟨g,hg⟩:=nV w.heap.size;have bG:1<g:=hg▸ag.1.lt;have bH:0<g:=hg▸ag.2.lt;have ae:jX (∀W,jS g w W->pW W/\uV W):=jH λW h=>⟨ag.1.below h bG,ag.2.below h bH⟩
 have aR:jX (∀W,jS g w W->Io W (ny a1 vM vN) aB):=jH λW h=>dH.below (hg.symm▸h)
 have aS:jX (∀W,jS g w W->∀i o,ops[i]? =U o->Vv W a2 i o):=jH λW h i o hi=>(dJ i o hi).below (hg.symm▸h)
 have dK:=jH cz;have cK:=jH bY;have dL:=jH ah;have aH:=jH bF;have dM:jX (∀W,jS g w W->jV jI 8 #[] W λe w'=>e=nG (nC true)/\jS W.heap.size W w'):=jH λW h=>Vw W (ae W h).1 (ae W h).2
 have bD:jX (∀W,jS g w W->jV jI 9 #[nD #[nk nI c.fmt,nk nK c.mag,nk nI c.pF,nk nI c.qc,nk nI c.dep,nk nI c.oV],ny a1 vM vN] W λe w'=>e=nG (nC (Ep c aB))/\jS W.heap.size W w'):=jH λW h=>VE c aB _ W (aR W h) λe he=>⟨(ah e he).1,(ah e he).2.1⟩
 have dN:jX (∀W,jS g w W->jV jI 24 #[ny a2 A aa] W (GrO ops W)):=jH λW h=>QX a2 A aa ops W ⟨bY,dI,bZ,aS W h,cz⟩
 have dO:jX (∀rows,uZ c aB=.ok rows->∀W,jS g w W->jV jI 10 #[nD #[nk nI c.fmt,nk nK c.mag,nk nI c.pF,nk nI c.qc,nk nI c.dep,nk nI c.oV],ny a1 vM vN] W (Ak c rows W)):=jH λrows eH W h=>Rc c aB _ W rows eH (aR W h) ah (ae W h).1
 have cZ:=jH (vz (w:=w) c (t:=tC));have bI:jX (∀W,w.alloc (nH #[nk nI c.fmt,nk nK c.mag,nk nI c.pF,nk nI c.qc,nk nI c.dep,nk nI c.oV] tC)=W->W.heap.size=g+1/\nP W g #[nk nI c.fmt,nk nK c.mag,nk nI c.pF,nk nI c.qc,nk nI c.dep,nk nI c.oV] tC):=jH λW h=>by subst h;exact⟨by simp[hg],hg▸nP.new w _ _⟩
 have bJ:=jH hg;unfold oF.v oF.cs;rw[hg]at cZ⊢;clear dH ah bY dI bZ dJ cz ho ag bG bH bF;go_in;go_upto_region 1 with fail;obtain⟨I,c0,c1,c2,c3,c4,c5⟩:=cZ.out _ rfl;obtain⟨ai,bK⟩:=bI.out _ rfl;generalize w.alloc _=w1 at*;have aT:=jH (jU I bK);have eO:jX (∀W,jS (g+1) w1 W->W.cell? (Z g 0 V)=U (nk nI c.fmt)/\W.cell? (Z g 1 V)=U (nk nK c.mag)/\W.cell? (Z g 2 V)=U (nk nI c.pF)/\W.cell? (Z g 3 V)=U (nk nI c.qc)/\W.cell? (Z g 4 V)=U (nk nI c.dep)/\W.cell? (Z g 5 V)=U (nk nI c.oV)):=jH λW h=>
  have q:∀i,W.cell? (Z g i V)=w1.cell? (Z g i V):=λi=>h.cell (p:=(Z g i V)) (lK g)
  ⟨(q 0).trans c0,(q 1).trans c1,(q 2).trans c2,(q 3).trans c3,(q 4).trans c4,(q 5).trans c5⟩
 have aU:=jH ai;have af:jX (∀W,jS (g+1) w1 W->jS g w W):=jH λW h=>aT.1.trans (h.mono nL)
 clear cZ bI I ai bK c0 c1 c2 c3 c4 c5;go_wp2_with fail;refine(dM _ aT.1).mono ?_;rintro e w2 ⟨rfl,J⟩;have N:jX (jS (g+1) w1 w2):=jH (aU.out▸J);obtain⟨c0,c1,c2,c3,c4,c5⟩:=eO.out _ N.out;clear J;obtain⟨RT,aV⟩:=nV (Ep c aB);have dP:=jH aV;rw[aV]at bD;clear aV;have aW:jX (∀W,jS (g+1) w1 W->∀df,jS W.heap.size W df->jS (g+1) w1 df):=jH λW h df eP=>h.trans (eP.mono (by have:=h.size;have:=aU.out;omega))
 cases RT with
 |false=>
  go_wp2_with fail;refine(bD _ (af _ N)).mono ?_;rintro e w3 ⟨rfl,C⟩;have aj:=jH (af _ (aW _ N _ C));clear C c0 c1 c2 c3 c4 c5;go_wp2_with fail;go_returns;exact⟨rfl,aj.out⟩
 |true=>
 obtain⟨dQ,O,rows,aI⟩:=VG dP.out;have O:=jH O;have aJ:=jH aI;clear aI dQ;have aX:jX (∀q,q∈rows->q.id<18446744073709551616):=jH (Z9 aJ λe he=>(dL e he).2.2);go_wp2_with fail;refine(bD _ (af _ N)).mono ?_;rintro e w3 ⟨rfl,C⟩;have aj:=jH (aW _ N _ C);clear C c0 c1 c2 c3 c4 c5;go_wp2_with fail;refine(dN _ (af _ aj)).mono ?_;rintro e w4 ⟨R,rfl,dh,bL⟩;have aK:=jH (aW _ aj _ bL);clear bL;cases R with
 |true=>
  have dw:=jH (af _ aK);clear dh;go_wp2_with fail;go_returns;exact⟨rfl,dw.out⟩
 |false=>
 have bM:=jH (dh rfl);clear dh dM bD dN N aj;have bN:jX (∀v2 v5 v8,O5 c rows g (g+1) w1 false false false v2 v5 v8 w4.drew):=jH λv2 v5 v8=>by
  have fA:=aK.size;have ai:=aU.out;have hb:=aK.trans ((oC w4).mono nL);exact O5.ini (Below.blk hb aT.2 nL) hb ⟨by have:=hb.size;omega,nL⟩
 go_upto_region 5 with fail;refine a2n (k:=g) (h:=g+1) (w0:=w1) (c:=c) (rows:=rows) (a1:=a1) (vM:=vM) (vN:=vN) (ht3:=by rfl) (ht1:=by rfl) (hop:=λW eQ=>dO.out _ aJ W (af W eQ)) (hsz:=by rfl) (hI0:=λvs=>bN.out _ _ _) ?_;intro vs w5 dR;obtain⟨x1,x2,x3,e1,e2,e3,F,hF⟩:=dR.start;rw[e1,e2,e3];obtain⟨b1,I⟩:=nV x1.sb;obtain⟨eT,J⟩:=nV x2.sb;obtain⟨b3,C⟩:=nV x3.sb;have aP:jX ((D3 x1 x2 x3 0).sb=b1/\(D3 x1 x2 x3 1).sb=eT/\(D3 x1 x2 x3 2).sb=b3):=jH ⟨I,J,C⟩;have dS:jX (E9 c rows (D3 x1 x2 x3) (g+1) w1 ([],0,0) w5):=jH ⟨F,_,hF,rfl,rfl⟩;rw[I,J,C];generalize D3 x1 x2 x3=D at*;clear dR hF e1 e2 e3 I J C dO bN aK;have aL:jX (∀dG,jS (g+1) w1 dG->pW dG/\uV dG):=jH λdG h=>ae.out dG (af dG h)
 dsimp+instances only[xH,cO,cL,cR,cB,Tryz.f7];simp only[mW,List.drop_zero,jL,jQ,jR];go_wp2_with fail;go_loopw [10] (λiv eU=>∃(i:Nat) (Q:Td),iv=nk nI i/\i<=A/\jX (E9 c rows D (g+1) w1 Q eU)/\jX (Q.1.length<=Cf ((ops.take i).map λo=>o.tx))) (λiv _=>A -(kT iv).toNat);case atStart=>exact⟨0,_,rfl,kH _,dS,jH (kH _)⟩
 case round=>
  obtain⟨i,Q,rfl,hi,aQ,bO⟩:=hrel;by_cases ci:i<A
  .obtain⟨o,ho⟩:∃o,ops[i]? =U o:=⟨_,jW (by rw[<-cK.out];exact ci)⟩
   obtain⟨b,off,v,rfl,hlt,aM,aC⟩:=aS.out w (jT _ _) i o ho;obtain⟨ai,bP,bQ⟩:=dK.out o (kK ho);have hok:=bM.2.1 o (kK ho);have dU:=bM.2.2;have aD:=JL (ss:=ops.map λo=>o.tx) (i:=i) (s:=o.tx) (by rw[List.getElem?_map,ho];rfl);have aY:=a2w (ops.map λo=>o.tx) (i+1);rw[<-List.map_take]at aD aY;rw[<-List.map_take]at aD;obtain⟨fd,s,nm,x⟩:=o;dsimp only at*;obtain⟨aZ,bg,rfl,dV,dW⟩:=nW.slice aC;have aN:jX (∀W,jS (g+1) w1 W->(W.cell? (Z b (off+i*6) V)=U (nC fd)/\W.cell? (Z b (off+i*6+1) V)=U (nz s))/\(W.cell? (Z b (off+i*6+2) V)=U (nz nm)/\W.cell? (Z b (off+i*6+2+1) V)=U (nz (txt x.lab))/\W.cell? (Z b (off+i*6+2+2) V)=U (nC x.lab.list)/\W.cell? (Z b (off+i*6+2+3) V)=U (ny aZ x.sub.length bg))/\pJ W (ny aZ x.sub.length bg) x.sub):=jH λW h=>by
    have hb:=af.out W h;have q:∀j,j<6->W.cell? (Z b (off+(i*6+j)) V)=(opC ⟨fd,s,nm,x⟩ (ny aZ x.sub.length bg))[j]? :=λj eX=>(hb.cell (p:=(Z b (off+(i*6+j)) V)) (bJ.out▸hlt)).trans (aM j eX)
    exact⟨⟨q 0 nO,q 1 nO⟩,⟨q 2 nO,q 3 nO,q 4 nO,q 5 nO⟩,Shape.nX.below aC (bJ.symm▸hb)⟩
   have bq:jX (Q.1.length+s.size<=Cf ((ops.take (i+1)).map λo=>o.tx)/\Q.1.length+s.size<=1500/\Q.1.length<=Cf ((ops.take (i+1)).map λo=>o.tx)):=jH (by have:=bO.out;omega);have Y:=jH (jU hok (jU bP bQ));clear hlt aM aC ai bP bQ hok dU aD aY dV dW ho bO;cases fd with
   |true=>
    obtain⟨⟨aF,aG⟩,_⟩:=aN.out wr aQ.pR;have ak:=Vs aQ aL O aH s (by have:=bq.out;omega);obtain⟨E,dx⟩:=nV ((Vr c rows Q s).2.2.2);have bE:=jH dx;rw[aP.1,dx]at ak;have ak:=jH ak;clear dx;go_wp2_with fail;refine ak.mono ?_;rintro e dz ⟨oa,eY,Lm,rfl,dX⟩;have dA:=jH dX;clear dX aF aG ak;obtain⟨n1,aO⟩:=nV Lm.length;have bR:=jH aO;obtain⟨⟨aF,aG⟩,_⟩:=aN.out dz dA.pR;have au:=Vt dA aL O aH (by have:=bq.out;omega);rw[aP.2.1,bE.out,aO]at au;rw[aO];have au:=jH au;clear aO;go_wp2_with fail;refine au.mono ?_;rintro e dY ⟨ob,cb,bS,rfl,bT,hm2,bU,dZ,av⟩;obtain⟨n2,bV⟩:=nV bS.length;rw[bV]at hm2⊢;have ed:=jH (U7 Lm bS (ny oa n1 eY) (ny ob n2 cb) dY bT hm2 bU (by have:=bq.out;have:=bR.out;omega));have bW:=jH av;have bu:jX ((Vr c rows Q s).2.1.length<=Cf ((ops.take (i+1)).map λo=>o.tx)):=jH (jY (VF c rows 0 Q.1 Q.2.1 Q.2.2 s) bq.1);generalize (Vr c rows Q s).2=ek at*;obtain⟨T,ag⟩:∃T,(⟨ek.1.toArray⟩:ByteArray)=T:=⟨_,rfl⟩;have eu:=jH ag;clear bT hm2 bU dZ av bV aF aG au dA bR aQ bE ag;have eZ:(E !=E)=false:=nS;have fq:(T.toList==T.toList)=true:=nS;go_wp2_with fail;refine ed.mono ?_;rintro e fB ⟨rfl,hb⟩;have bz:=jH (bW.below hb);have ax:=Ov bz 0 nO;rw[aP.1,eu.out]at ax;have ax:=jH ax;clear hb ed bW;go_wp2_with fail;refine ax.mono ?_;rintro e fC ⟨rfl,hb⟩;have bA:=jH (bz.below hb);have ay:=Ov bA 1 nO;rw[aP.2.1,eu.out]at ay;have ay:=jH ay;clear hb ax bz;go_wp2_with fail;refine ay.mono ?_;rintro e fw ⟨rfl,hb⟩;have dB:=jH (bA.below hb);clear hb ay bA;go_wp2_with fail;go_roundw;case rel=>exact⟨i+1,ek,by go_num,nL,dB,bu⟩
    case measure=>simp[kT];omega
   |false=>
    obtain⟨⟨aF,aG⟩,⟨dC,dD,dE,dF⟩,hs⟩:=aN.out wr aQ.pR;have az:=JN aQ 0 nO aL O aH nm x aZ bg aX Y.2.1 hs Y.2.2 λ_=>(JQ Y.1.2).2.1
    obtain⟨eB,bB⟩:=nV ((xG c rows nm x).1);obtain⟨eD,bC⟩:=nV ((xG c rows nm x).2);have eF:=jH (jU bB bC);rw[aP.1,bB,bC]at az;have az:=jH az;clear hs bB bC;go_wp2_with fail;refine az.mono ?_;rintro e dz ⟨rfl,av⟩;have bX:=jH av;clear aF aG dC dD dE dF av az;obtain⟨⟨aF,aG⟩,⟨dC,dD,dE,dF⟩,hs⟩:=aN.out dz bX.pR;have aA:=JN bX 2 nO aL O aH nm x aZ bg aX Y.2.1 hs Y.2.2 λ_=>(JQ Y.1.2).2.1
    rw[aP.2.2,eF.1,eF.2]at aA;have aA:=jH aA;clear hs;go_wp2_with fail;refine aA.mono ?_;rintro e dY ⟨rfl,av⟩;have eG:=jH av;have bu:=jH bq.2.2;have eZ:(eD !=eD)=false:=nS;have fq:(eB.toList==eB.toList)=true:=nS;clear aF aG dC dD dE dF av aA;go_wp2_with fail;go_roundw;case rel=>exact⟨i+1,Q,by go_num,nL,eG,bu⟩
    case measure=>simp[kT];omega
  .obtain rfl:i=A:=nL
   have bE:=jH (af _ aQ.pR);go_wp2_with fail;go_returns;exact⟨rfl,bE.out⟩
end
end Go.Proofs.YtamfcjmhnndbdaaGreatDoor

